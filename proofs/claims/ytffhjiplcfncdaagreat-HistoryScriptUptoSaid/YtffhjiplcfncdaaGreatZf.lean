/-
  Joined out of: HzHC, HzHD, HzHE, PTypO, PTypR, PCnt, PByte, PText, PVal, PDist, PMet, PPut.
-/
import Derived.Test.YtffhjiplcfncdaaGreatZe
set_option linter.unusedVariables false
set_option linter.unusedSimpArgs false
set_option maxHeartbeats 2000000
set_option maxRecDepth 100000
namespace Go.Proofs.YtffhjiplcfncdaaGreat
open Go.Abs
def zTT (n:Nat) (xs:List AV) (r:Ret):Prop:=∃ (a0:Nd) (a1:List Int) (a2:Int) (y0:List Int) (y1:Int),zER n a0 a1 a2=some (y0,y1)/\xs=[.agg ((Nd.enc a0).map .s),.s (.sl 1 ((List.map (irow .i64)) a1)),.s (.int .i64 a2)]/\r = .val (.tup [.s (.sl 1 ((List.map (irow .i64)) y0)),.s (.int .i64 y1)])
def zNQ:zAq:=zAs fun xs r=>∃ n,zTT n xs r
theorem zSy:PSound Tryz.prog 80 zNQ:=by
 have gok:∀ f s,look? f [(110,zJn),(111,zS6)]=some s->PSound Tryz.prog f s:=zAo (by
  simp only[List.forall_mem_cons]
  exact⟨zLh,zVH,by simp⟩)
 refine zAr tokW Tryz.call80 Tryz.func80 rfl (fun xs r h=>by obtain⟨n,_,_,_,_,_,_,rfl,_⟩:=h; show 3<=31; decide) 31 rfl ?_;rintro xs r w0 G0 ⟨n,⟨n1A,n1C,n1D,n1B⟩,pos2,by3,y0,y1,h,rfl,rfl⟩ _;rw[zER]at h;refine zYV ?_;refine zYV ?_;obtain⟨⟨y4,y5⟩,hy4,h⟩:=zAc h;refine⟨_,⟨_,_,_,_,_,hy4,rfl,rfl⟩,?_⟩
 refine zAa ?_;refine zYV ?_;refine zAg rfl h (fun hb h=>?_) (fun hb h=>?_)
 ·refine zYV ?_;refine zAe ?_;obtain⟨hj1,hk1⟩:=pij h;subst hj1 hk1;exact fin0 rfl rfl
 ·refine zAf ?_;refine zYV ?_;obtain⟨⟨y6,y7⟩,hy6,h⟩:=zAc h;refine⟨_,⟨_,_,_,_,_,hy6,rfl,rfl⟩,?_⟩
  refine zAa ?_;refine zYV ?_;refine zAg rfl h (fun hb h=>?_) (fun hb h=>?_)
  ·refine zYV ?_;refine zAe ?_;obtain⟨hj1,hk1⟩:=pij h;subst hj1 hk1;exact fin0 rfl rfl
  ·refine zAf ?_;refine zYV ?_;refine zAe ?_;obtain⟨hj1,hk1⟩:=pij h;subst hj1 hk1;exact fin0 rfl rfl
def zR3 (n:Nat) (xs:List AV) (r:Ret):Prop:=∃ (a0:Nd) (a1:zCu) (a2:Bool) (y0:zRc) (y1:Int),zEU n a0 a1 a2=some (y0,y1)/\xs=[.agg ((Nd.enc a0).map .s),.agg ((zAz a1).map .s),.s (.bool a2)]/\r = .val (.tup [.agg ((zAd y0).map .s),.s (.int .i64 y1)])
def zL7:zAq:=zAs fun xs r=>∃ n,zR3 n xs r
theorem zRn:PSound Tryz.prog 51 zL7:=by
 have gok:∀ f s,look? f [(71,zDk),(72,zJW),(75,zL6),(73,zEg),(76,zHV),(77,zJV),(74,zIx),(78,zE6),(79,zHX),(80,zNQ)]=some s->PSound Tryz.prog f s:=zAo (by
  simp only[List.forall_mem_cons]
  exact⟨zDz,zKE,zRm,zEc,zID,zNv,zIk,zFE,zKe,zSy,by simp⟩)
 refine zAr tokW Tryz.call51 Tryz.func51 rfl (fun xs r h=>by obtain⟨n,_,_,_,_,_,_,rfl,_⟩:=h; show 3<=171; decide) 171 rfl ?_;rintro xs r w0 G0 ⟨n,⟨a1A,a1C,a1D,a1B⟩,⟨a2Q,a2Ab⟩,a3,y0,y1,h,rfl,rfl⟩ _;rw[zEU]at h;refine zYf [6] [] rfl ?_;refine zYf [8] [] rfl ?_;obtain⟨⟨⟨y4G,y4Af,y4Ah⟩,y5⟩,hy4,h⟩:=zAc h;refine⟨_,⟨_,_,_,_,_,hy4,rfl,rfl⟩,?_⟩
 refine zAh (Le.giveBox 1 [.sl 1 ((List.map (irow .i64)) y4G),.int .i64 y4Af,.int .i64 y4Ah] rfl rfl) ?_;refine zAa ?_;refine zYV ?_;refine zAg rfl h (fun hb h=>?_) (fun hb h=>?_)
 ·refine zYV ?_;refine zAe ?_;obtain⟨hj1,hk1⟩:=pij h;subst hj1 hk1;exact fin0 rfl rfl
 ·refine zAf ?_;refine zAa ?_;refine zYV ?_;refine zAg rfl h (fun hb h=>?_) (fun hb h=>?_)
  ·refine zAa ?_;refine zAA [] [] [10] rfl (by decide +kernel) ?_;obtain⟨y6,hy6,h⟩:=zAc h;refine⟨_,⟨_,_,_,_,hy6,rfl,rfl⟩,?_⟩
   obtain⟨y7,hy7,h⟩:=zAc h;refine⟨_,⟨_,_,hy7,rfl,rfl⟩,?_⟩
   obtain⟨⟨⟨y8W,⟨y8X,y8Y⟩,⟨y8Z,y8Aa⟩⟩,y9⟩,hy8,h⟩:=zAc h;refine⟨_,⟨_,_,_,_,_,_,_,hy8,rfl,rfl⟩,?_⟩
   refine zAe ?_;obtain⟨hj1,hk1⟩:=pij h;subst hj1 hk1;exact fin0 rfl rfl
  ·refine zAf ?_;refine zAa ?_;refine zAA [] [49,51,56,58] [] rfl (by decide +kernel) ?_;intro n10 hn10;obtain rfl:(a2Q.length:Int)=n10:=(hn10.trans (congrArg (fun m:Nat=>(m:Int)) (rlen (fun _=>rfl) a2Q))).symm;obtain⟨hq,h⟩:=zAw h;refine And.intro ⟨hq.1,hq.2.1,Int.le_trans hq.2.2 (Int.ofNat_le.2 (Nat.le_of_eq (rlen (fun _=>rfl) _).symm))⟩ ?_;intro r11 hr11;obtain rfl:(List.map (irow .i64)) ((a2Q.take (IntKind.i64.wrap ((a2Q.length:Int) - 1)).toNat).drop (0:Int).toNat)=r11:=(hr11.trans (rcut (fun _=>rfl) _ _ _)).symm;intro n12 hn12
   obtain rfl:(a2Q.length:Int)=n12:=(hn12.trans (congrArg (fun m:Nat=>(m:Int)) (rlen (fun _=>rfl) a2Q))).symm;obtain⟨e13,he13,h⟩:=zAc h;refine And.intro (zAp (fun _=>rfl) he13).1 ?_;intro r14 hr14;obtain rfl:[.int .i64 e13]=r14:=(hr14.trans (zAp (fun _=>rfl) he13).2.1).symm;refine zYf [12] [] rfl ?_;obtain⟨⟨⟨y15A,y15C,y15D,y15B⟩,y16⟩,hy15,h⟩:=zAc h;refine⟨_,⟨_,_,_,_,_,hy15,rfl,rfl⟩,?_⟩
   refine zAh (Le.giveBox 2 [.int .i64 y15A,.str y15C,.int .i64 y15D,.sl 4 (Nd.encs y15B)] rfl rfl) ?_;refine zYV ?_;refine zAa ?_;refine zYV ?_;show Tri ..;obtain⟨⟨x17,x18⟩,hj,h⟩:=zAc h
   refine zAm ⟨ofL [(2,.s (.bool a3)),(3,.s (.pt [.int .i64 a1A,.str a1C,.int .i64 a1D,.sl 4 (Nd.encs a1B)])),(4,.s (.pt [.sl 1 ((List.map (irow .i64)) a2Q),.sl 1 ((List.map (irow .i64)) a2Ab)])),(6,.op 0 0),(10,.s (.sl 1 ((List.map (irow .i64)) ((a2Q.take (IntKind.i64.wrap ((a2Q.length:Int) - 1)).toNat).drop (0:Int).toNat)))),(12,.s (.pt [.int .i64 y15A,.str y15C,.int .i64 y15D,.sl 4 (Nd.encs y15B)])),(14,.s (.int .i64 x17)),(15,.s (.int .i64 x18))],ofH [(0,.box 31 [.nl 8,.nl 1,.nl 1,.nl 1,.nl 1])],1⟩ ?_ (fun σ' hle=>?_)
   ·replace h:=hj;refine zAg rfl h (fun hb h=>?_) (fun hb h=>?_)
    ·refine zYU ?_;cases h;exact(Le.rnm [(0,0)] _ _ _ ⟨rfl,rfl,rfl,rfl,rfl,rfl,rfl,rfl,trivial⟩ ⟨rfl,⟨_,rfl,rfl⟩,trivial⟩)
    ·refine zAf ?_;cases h;exact(Le.rnm [(0,0)] _ _ _ ⟨rfl,rfl,rfl,rfl,rfl,rfl,rfl,rfl,trivial⟩ ⟨rfl,⟨_,rfl,rfl⟩,trivial⟩)
   ·refine zAh hle ?_;refine zAa ?_;refine zAa ?_;obtain⟨x19,hj,h⟩:=zAc h
    refine zAm ⟨ofL [(2,.s (.bool a3)),(3,.s (.pt [.int .i64 a1A,.str a1C,.int .i64 a1D,.sl 4 (Nd.encs a1B)])),(4,.s (.pt [.sl 1 ((List.map (irow .i64)) a2Q),.sl 1 ((List.map (irow .i64)) a2Ab)])),(6,.op 0 0),(10,.s (.sl 1 ((List.map (irow .i64)) ((a2Q.take (IntKind.i64.wrap ((a2Q.length:Int) - 1)).toNat).drop (0:Int).toNat)))),(12,.s (.pt [.int .i64 y15A,.str y15C,.int .i64 y15D,.sl 4 (Nd.encs y15B)])),(14,.s (.int .i64 x17)),(15,.s (.int .i64 x18)),(78,.s (.bool x19))],ofH [(0,.box 31 [.nl 8,.nl 1,.nl 1,.nl 1,.nl 1])],1⟩ ?_ (fun σ' hle=>?_)
    ·replace h:=hj;refine zAb [] [72,76] rfl ?_;intro b hb;cases b with
     | true =>
      replace h:=zAu hb.symm h;intro n20 hn20;obtain rfl:(y15B.length:Int)=n20:=(hn20.trans (congrArg (fun m:Nat=>(m:Int)) (rlen Nd.encs_eq y15B))).symm;cases h;exact(Le.rnm [(0,0)] _ _ _ ⟨rfl,rfl,rfl,rfl,rfl,rfl,rfl,rfl,rfl,trivial⟩ ⟨rfl,⟨_,rfl,rfl⟩,trivial⟩)
     | false =>
      replace h:=zAt hb.symm h;cases h;exact(Le.rnm [(0,0)] _ _ _ ⟨rfl,rfl,rfl,rfl,rfl,rfl,rfl,rfl,rfl,trivial⟩ ⟨rfl,⟨_,rfl,rfl⟩,trivial⟩)
    ·refine zAh hle ?_;obtain⟨fl,hj,ho1⟩:=zAc h;refine zBA (fl:=fl) (fun z=>match z with | _=>⟨ofL [(3,.s (.pt [.int .i64 a1A,.str a1C,.int .i64 a1D,.sl 4 (Nd.encs a1B)])),(4,.s (.pt [.sl 1 ((List.map (irow .i64)) a2Q),.sl 1 ((List.map (irow .i64)) a2Ab)])),(6,.op 0 0),(15,.s (.int .i64 x18))],ofH [(0,.box 31 [.nl 8,.nl 1,.nl 1,.nl 1,.nl 1])],1⟩) ?_ (fun z σ' hz hle=>?_)
     ·replace h:=hj;refine zAg rfl h (fun hb h=>?_) (fun hb h=>?_)
      ·refine zYf [] [82] rfl ?_;obtain⟨⟨e21A,e21C,e21D,e21B⟩,he21,h⟩:=zAc h;refine And.intro (zAp Nd.encs_eq he21).1 ?_;intro r22 hr22;obtain rfl:[.int .i64 e21A,.str e21C,.int .i64 e21D,.sl 4 (Nd.encs e21B)]=r22:=(hr22.trans (zAp Nd.encs_eq he21).2.1).symm;obtain⟨y23,hy23,h⟩:=zAc h;refine⟨_,⟨_,_,_,_,hy23,rfl,rfl⟩,?_⟩
       refine zAg rfl h (fun hb h=>?_) (fun hb h=>?_)
       ·refine zAa ?_;refine zAA [] [93,95,97,100] [19] rfl (by decide +kernel) ?_;obtain⟨⟨e24A,e24C,e24D,e24B⟩,he24,h⟩:=zAc h;refine And.intro (zAp Nd.encs_eq he24).1 ?_;intro r25 hr25;obtain rfl:[.int .i64 e24A,.str e24C,.int .i64 e24D,.sl 4 (Nd.encs e24B)]=r25:=(hr25.trans (zAp Nd.encs_eq he24).2.1).symm;intro r26 hr26
        obtain rfl:Nd.encs [Nd.mk e24A e24C e24D e24B]=r26:=(hr26.trans zBI).symm;intro r27 hr27
        obtain rfl:(List.map zAk) [(2,(a2Q.take (IntKind.i64.wrap ((a2Q.length:Int) - 1)).toNat).drop (0:Int).toNat,x17,0,[Nd.mk e24A e24C e24D e24B],0,[],[])]=r27:=(hr27.trans zBI).symm;intro r28 hr28
        obtain rfl:(List.map (irow .i64)) [x17]=r28:=(hr28.trans zBI).symm;obtain⟨y29,hy29,h⟩:=zAc h;refine⟨_,⟨_,_,_,hy29,rfl,rfl⟩,?_⟩
        obtain⟨⟨⟨y30W,⟨y30X,y30Y⟩,⟨y30Z,y30Aa⟩⟩,y31⟩,hy30,h⟩:=zAc h;refine⟨_,⟨_,_,_,_,_,_,_,hy30,rfl,rfl⟩,?_⟩
        refine zAe ?_;cases h;replace h:some _=some _:=ho1;obtain⟨hj1,hk1⟩:=pij h;subst hj1 hk1;exact fin0 rfl rfl
       ·refine zAf ?_;cases h;exact⟨_,rfl,(Le.rnm [(0,0)] _ _ _ ⟨rfl,rfl,rfl,rfl,trivial⟩ ⟨rfl,⟨_,rfl,rfl⟩,trivial⟩)⟩
      ·refine zYf [16] [] rfl ?_;obtain⟨⟨⟨y32G,y32L,y32Ak,⟨y32Ao,y32As,y32Ag,y32Al⟩⟩,y33⟩,hy32,h⟩:=zAc h;refine⟨_,⟨_,_,_,_,_,hy32,rfl,rfl⟩,?_⟩
       refine zAh (Le.giveBox 1 [.sl 1 ((List.map (irow .i64)) y32G),.int .i64 y32L,.int .i64 y32Ak,.int .i64 y32Ao,.str y32As,.int .i64 y32Ag,.sl 4 (Nd.encs y32Al)] rfl rfl) ?_;refine zAa ?_;obtain⟨x34,hj,h⟩:=zAc h
       refine zAm ⟨ofL [(2,.s (.bool a3)),(3,.s (.pt [.int .i64 a1A,.str a1C,.int .i64 a1D,.sl 4 (Nd.encs a1B)])),(4,.s (.pt [.sl 1 ((List.map (irow .i64)) a2Q),.sl 1 ((List.map (irow .i64)) a2Ab)])),(6,.op 0 0),(15,.s (.int .i64 x18)),(16,.s (.pt [.sl 1 ((List.map (irow .i64)) y32G),.int .i64 y32L,.int .i64 y32Ak,.int .i64 y32Ao,.str y32As,.int .i64 y32Ag,.sl 4 (Nd.encs y32Al)])),(120,.s (.bool x34))],ofH [(0,.box 31 [.nl 8,.nl 1,.nl 1,.nl 1,.nl 1])],1⟩ ?_ (fun σ' hle=>?_)
       ·replace h:=hj;refine zAb [] [113] rfl ?_;intro b hb;cases b with
        | true =>
         replace h:=zAu hb.symm h;obtain⟨y35,hy35,h⟩:=zAc h;refine⟨_,⟨_,_,_,_,hy35,rfl,rfl⟩,?_⟩
         cases h;exact(Le.rnm [(0,0)] _ _ _ ⟨rfl,rfl,rfl,rfl,rfl,rfl,rfl,trivial⟩ ⟨rfl,⟨_,rfl,rfl⟩,trivial⟩)
        | false =>
         replace h:=zAt hb.symm h;cases h;exact(Le.rnm [(0,0)] _ _ _ ⟨rfl,rfl,rfl,rfl,rfl,rfl,rfl,trivial⟩ ⟨rfl,⟨_,rfl,rfl⟩,trivial⟩)
       ·refine zAh hle ?_;refine zAg rfl h (fun hb h=>?_) (fun hb h=>?_)
        ·refine zYf [18] [] rfl ?_;obtain⟨⟨y36A,y36G,y36L,y36S,y36R,y36V,y36Ac,y36C⟩,hy36,h⟩:=zAc h;refine⟨_,⟨_,_,hy36,rfl,rfl⟩,?_⟩
         refine zAh (Le.giveBox 1 [.int .i64 y36A,.sl 1 ((List.map (irow .i64)) y36G),.int .i64 y36L,.int .i64 y36S,.sl 4 (Nd.encs y36R),.int .i64 y36V,.str y36Ac,.str y36C] rfl rfl) ?_;refine zAa ?_;refine zYV ?_;refine zAg rfl h (fun hb h=>?_) (fun hb h=>?_)
         ·refine zAa ?_;refine zAA [] [127,132] [13] rfl (by decide +kernel) ?_;intro r37 hr37;obtain rfl:(List.map zAk) [(y36A,y36G,y36L,y36S,y36R,y36V,y36Ac,y36C)]=r37:=(hr37.trans zBI).symm;intro r38 hr38
          obtain rfl:(List.map (irow .i64)) [y32L]=r38:=(hr38.trans zBI).symm;obtain⟨y39,hy39,h⟩:=zAc h;refine⟨_,⟨_,_,_,hy39,rfl,rfl⟩,?_⟩
          obtain⟨⟨⟨y40W,⟨y40X,y40Y⟩,⟨y40Z,y40Aa⟩⟩,y41⟩,hy40,h⟩:=zAc h;refine⟨_,⟨_,_,_,_,_,_,_,hy40,rfl,rfl⟩,?_⟩
          refine zAe ?_;cases h;replace h:some _=some _:=ho1;obtain⟨hj1,hk1⟩:=pij h;subst hj1 hk1;exact fin0 rfl rfl
         ·refine zAf ?_;refine zAa ?_;refine zAA [] [140,148] [16] rfl (by decide +kernel) ?_;intro r42 hr42;obtain rfl:(List.map zAk) [(y36A,y36G,y36L,y36S,y36R,y36V,y36Ac,y36C)]=r42:=(hr42.trans zBI).symm;intro r43 hr43
          obtain rfl:(List.map (irow .i64)) [IntKind.i64.wrap (y32L+y36S)]=r43:=(hr43.trans zBI).symm;obtain⟨y44,hy44,h⟩:=zAc h;refine⟨_,⟨_,_,_,hy44,rfl,rfl⟩,?_⟩
          obtain⟨⟨⟨y45W,⟨y45X,y45Y⟩,⟨y45Z,y45Aa⟩⟩,y46⟩,hy45,h⟩:=zAc h;refine⟨_,⟨_,_,_,_,_,_,_,hy45,rfl,rfl⟩,?_⟩
          refine zAe ?_;cases h;replace h:some _=some _:=ho1;obtain⟨hj1,hk1⟩:=pij h;subst hj1 hk1;exact fin0 rfl rfl
        ·refine zAf ?_;cases h;exact⟨_,rfl,(Le.rnm [(0,0)] _ _ _ ⟨rfl,rfl,rfl,rfl,trivial⟩ ⟨rfl,⟨_,rfl,rfl⟩,trivial⟩)⟩
     ·subst hz;obtain _:=z;replace h:=ho1;refine zAh hle ?_;refine zYV ?_;obtain⟨⟨y47,y48⟩,hy47,h⟩:=zAc h;refine⟨_,⟨_,_,_,_,_,_,hy47,rfl,rfl⟩,?_⟩
      refine zAa ?_;refine zYV ?_;refine zAg rfl h (fun hb h=>?_) (fun hb h=>?_)
      ·refine zYV ?_;refine zAe ?_;obtain⟨hj1,hk1⟩:=pij h;subst hj1 hk1;exact fin0 rfl rfl
      ·refine zAf ?_;refine zYV ?_;obtain⟨⟨⟨y49W,⟨y49X,y49Y⟩,⟨y49Z,y49Aa⟩⟩,y50⟩,hy49,h⟩:=zAc h;refine⟨_,⟨_,_,_,_,_,_,_,hy49,rfl,rfl⟩,?_⟩
       refine zAe ?_;obtain⟨hj1,hk1⟩:=pij h;subst hj1 hk1;exact fin0 rfl rfl
def zR6 (xs:List AV) (r:Ret):Prop:=∃ (a0:List Nd) (y0:Nd),zGg a0=some y0/\xs=[.s (.sl 4 (Nd.encs a0))]/\r = .val (.agg ((Nd.enc y0).map .s))
def zL9:zAq:=zAs fun xs r=>zR6 xs r
theorem zRp:PSound Tryz.prog 53 zL9:=by
 have gok:=@gok0 Tryz.prog;refine zAr tokW Tryz.call53 Tryz.func53 rfl (fun xs r h=>by obtain⟨_,_,_,rfl,_⟩:=h; show 1<=10; decide) 10 rfl ?_;rintro xs r w0 G0 ⟨l1,y0,h,rfl,rfl⟩ _;rw[zGg]at h;refine zYf [2] [] rfl ?_;refine zAa ?_;refine zYf [] [4] rfl ?_;intro n2 hn2;obtain rfl:(l1.length:Int)=n2:=(hn2.trans (congrArg (fun m:Nat=>(m:Int)) (rlen Nd.encs_eq l1))).symm;refine zAg rfl h (fun hb h=>?_) (fun hb h=>?_)
 ·refine zYV ?_;refine zAe ?_;have hy:=osi h;subst hy;exact fin0 rfl rfl
 ·refine zAf ?_;refine zYf [] [8] rfl ?_;obtain⟨⟨e3A,e3C,e3D,e3B⟩,he3,h⟩:=zAc h;refine And.intro (zAp Nd.encs_eq he3).1 ?_;intro r4 hr4;obtain rfl:[.int .i64 e3A,.str e3C,.int .i64 e3D,.sl 4 (Nd.encs e3B)]=r4:=(hr4.trans (zAp Nd.encs_eq he3).2.1).symm;refine zAe ?_;have hy:=osi h;subst hy;exact fin0 rfl rfl
def zTY (n:Nat) (xs:List AV) (r:Ret):Prop:=∃ (a0:Nd) (a1:zCu) (a2:Nd) (a3:Int) (y0:zRc) (y1:Int),zEp n a0 a1 a2 a3=some (y0,y1)/\xs=[.agg ((Nd.enc a0).map .s),.agg ((zAz a1).map .s),.agg ((Nd.enc a2).map .s),.s (.int .i64 a3)]/\r = .val (.tup [.agg ((zAd y0).map .s),.s (.int .i64 y1)])
def zNV:zAq:=zAs fun xs r=>∃ n,zTY n xs r
theorem zSD:PSound Tryz.prog 52 zNV:=by
 have gok:∀ f s,look? f [(25,zCy),(81,zHW),(71,zDk),(74,zIx),(73,zEg)]=some s->PSound Tryz.prog f s:=zAo (by
  simp only[List.forall_mem_cons]
  exact⟨zCv,zKd,zDz,zIk,zEc,by simp⟩)
 refine zAr tokW Tryz.call52 Tryz.func52 rfl (fun xs r h=>by obtain⟨n,_,_,_,_,_,_,_,rfl,_⟩:=h; show 4<=98; decide) 98 rfl ?_;rintro xs r w0 G0 ⟨n,⟨a1A,a1C,a1D,a1B⟩,⟨a2Q,a2Ab⟩,⟨a3A,a3C,a3D,a3B⟩,a4,y0,y1,h,rfl,rfl⟩ _;rw[zEp]at h;refine zYf [8] [] rfl ?_;refine zYf [10] [16] rfl ?_;intro r5 hr5
 obtain rfl:Nd.encs [Nd.mk a3A a3C a3D a3B]=r5:=(hr5.trans zBI).symm;refine zAa ?_;refine zAa ?_;obtain⟨x6,hj,h⟩:=zAc h
 refine zAm ⟨ofL [(3,.s (.int .i64 a4)),(4,.s (.pt [.int .i64 a1A,.str a1C,.int .i64 a1D,.sl 4 (Nd.encs a1B)])),(5,.s (.pt [.sl 1 ((List.map (irow .i64)) a2Q),.sl 1 ((List.map (irow .i64)) a2Ab)])),(6,.s (.pt [.int .i64 a3A,.str a3C,.int .i64 a3D,.sl 4 (Nd.encs a3B)])),(8,.op 0 0),(10,.op 1 0),(26,.s (.bool x6))],ofH [(0,.box 31 [.nl 8,.nl 1,.nl 1,.nl 1,.nl 1]),(1,.box 65 [.s (.int .i64 3),.nl 1,.s (.int .i64 0),.s (.int .i64 0),.s (.sl 4 (Nd.encs [Nd.mk a3A a3C a3D a3B])),.s (.int .i64 a4),.s (.str []),.s (.str [])])],2⟩ ?_ (fun σ' hle=>?_)
 ·replace h:=hj;refine zAb [] [22] rfl ?_;obtain⟨y7,hy7,h⟩:=zAc h;refine⟨_,⟨_,_,_,hy7,rfl,rfl⟩,?_⟩
  intro b hb;cases b with
  | true =>
   replace h:=zAu hb.symm h;cases h;exact(Le.rnm [(0,0),(1,1)] _ _ _ ⟨rfl,rfl,rfl,rfl,rfl,rfl,rfl,trivial⟩ ⟨rfl,⟨_,rfl,rfl⟩,rfl,⟨_,rfl,rfl⟩,trivial⟩)
  | false =>
   replace h:=zAt hb.symm h;obtain⟨y8,hy8,h⟩:=zAc h;refine⟨_,⟨_,_,_,hy8,rfl,rfl⟩,?_⟩
   cases h;exact(Le.rnm [(0,0),(1,1)] _ _ _ ⟨rfl,rfl,rfl,rfl,rfl,rfl,rfl,trivial⟩ ⟨rfl,⟨_,rfl,rfl⟩,rfl,⟨_,rfl,rfl⟩,trivial⟩)
 ·refine zAh hle ?_;refine zAg rfl h (fun hb h=>?_) (fun hb h=>?_)
  ·refine zYV ?_;refine zAe ?_;obtain⟨hj1,hk1⟩:=pij h;subst hj1 hk1;exact fin0 rfl rfl
  ·refine zAf ?_;refine zYf [11] [] rfl ?_;obtain⟨⟨⟨y9G,y9Af,y9Ah⟩,y10⟩,hy9,h⟩:=zAc h;refine⟨_,⟨_,_,_,_,_,hy9,rfl,rfl⟩,?_⟩
   refine zAh (Le.giveBox 2 [.sl 1 ((List.map (irow .i64)) y9G),.int .i64 y9Af,.int .i64 y9Ah] rfl rfl) ?_;refine zAa ?_;refine zYV ?_;refine zAg rfl h (fun hb h=>?_) (fun hb h=>?_)
   ·refine zYV ?_;refine zAe ?_;obtain⟨hj1,hk1⟩:=pij h;subst hj1 hk1;exact fin0 rfl rfl
   ·refine zAf ?_;refine zAa ?_;refine zAA [] [] [10,12,14] rfl (by decide +kernel) ?_;refine zYf [] [55] rfl ?_;intro r11 hr11;obtain rfl:(List.map (irow .i64)) [IntKind.i64.wrap (y9Af+1)]=r11:=(hr11.trans zBI).symm
    obtain⟨y12,hy12,h⟩:=zAc h;refine⟨_,⟨_,_,_,hy12,rfl,rfl⟩,?_⟩
    refine zAa ?_;refine zYf [] [59] rfl ?_;intro n13 hn13;obtain rfl:(a3B.length:Int)=n13:=(hn13.trans (congrArg (fun m:Nat=>(m:Int)) (rlen Nd.encs_eq a3B))).symm;show Tri ..;obtain⟨x21,hl,h⟩:=zAc h
    refine zAm ⟨ofL [(4,.s (.pt [.int .i64 a1A,.str a1C,.int .i64 a1D,.sl 4 (Nd.encs a1B)])),(5,.s (.pt [.sl 1 ((List.map (irow .i64)) a2Q),.sl 1 ((List.map (irow .i64)) a2Ab)])),(8,.op 0 0),(10,.op 1 0),(13,.s (.sl 1 ((List.map (irow .i64)) x21)))],ofH [(0,.box 31 [.nl 8,.nl 1,.nl 1,.nl 1,.nl 1]),(1,.box 65 [.s (.int .i64 3),.s (.sl 1 ((List.map (irow .i64)) y9G)),.s (.int .i64 y9Af),.s (.int .i64 (IntKind.i64.wrap (y9Ah - y9Af))),.s (.sl 4 (Nd.encs [Nd.mk a3A a3C a3D a3B])),.s (.int .i64 a4),.s (.str []),.s (.str [])])],2⟩ ?_ (fun σ' hle=>?_)
    ·refine zAl (zAy (X:=Nat×(List Int)×Int) (fun y=>match y with | (k,x19,x20)=>⟨ofL [(3,.s (.int .i64 a4)),(4,.s (.pt [.int .i64 a1A,.str a1C,.int .i64 a1D,.sl 4 (Nd.encs a1B)])),(5,.s (.pt [.sl 1 ((List.map (irow .i64)) a2Q),.sl 1 ((List.map (irow .i64)) a2Ab)])),(6,.s (.pt [.int .i64 a3A,.str a3C,.int .i64 a3D,.sl 4 (Nd.encs a3B)])),(8,.op 0 0),(10,.op 1 0),(11,.s (.pt [.sl 1 ((List.map (irow .i64)) y9G),.int .i64 y9Af,.int .i64 y9Ah])),(13,.s (.sl 1 ((List.map (irow .i64)) x19))),(14,.s (.int .i64 x20))],ofH [(0,.box 31 [.nl 8,.nl 1,.nl 1,.nl 1,.nl 1]),(1,.box 65 [.s (.int .i64 3),.s (.sl 1 ((List.map (irow .i64)) y9G)),.s (.int .i64 y9Af),.s (.int .i64 (IntKind.i64.wrap (y9Ah - y9Af))),.s (.sl 4 (Nd.encs [Nd.mk a3A a3C a3D a3B])),.s (.int .i64 a4),.s (.str []),.s (.str [])])],2⟩) (fun y=>zCt a3B a4 y9G y9Af y9Ah y.1 y.2.1 y.2.2=some x21) (fun y=>y.1) (n,y12,IntKind.i64.wrap ((a3B.length:Int) - 1)) hl ?_ ?_)
     ·exact(Le.rnm [(0,0),(1,1)] _ _ _ ⟨rfl,rfl,rfl,rfl,rfl,rfl,rfl,rfl,rfl,trivial⟩ ⟨rfl,⟨_,rfl,rfl⟩,rfl,⟨_,rfl,rfl⟩,trivial⟩)
     ·rintro⟨k,x19,x20⟩ h;cases k with
      | zero=>cases h
      | succ k =>
       replace h:zCt a3B a4 y9G y9Af y9Ah (k+1) x19 x20=some x21:=h;rw[zCt]at h;refine zAa ?_;refine zYV ?_;refine zAg rfl h (fun hb h=>?_) (fun hb h=>?_)
       ·refine zAf ?_;refine zAa ?_;obtain⟨x22,hj,h⟩:=zAc h
        refine zAm ⟨ofL [(3,.s (.int .i64 a4)),(4,.s (.pt [.int .i64 a1A,.str a1C,.int .i64 a1D,.sl 4 (Nd.encs a1B)])),(5,.s (.pt [.sl 1 ((List.map (irow .i64)) a2Q),.sl 1 ((List.map (irow .i64)) a2Ab)])),(6,.s (.pt [.int .i64 a3A,.str a3C,.int .i64 a3D,.sl 4 (Nd.encs a3B)])),(8,.op 0 0),(10,.op 1 0),(11,.s (.pt [.sl 1 ((List.map (irow .i64)) y9G),.int .i64 y9Af,.int .i64 y9Ah])),(13,.s (.sl 1 ((List.map (irow .i64)) x22))),(14,.s (.int .i64 x20))],ofH [(0,.box 31 [.nl 8,.nl 1,.nl 1,.nl 1,.nl 1]),(1,.box 65 [.s (.int .i64 3),.s (.sl 1 ((List.map (irow .i64)) y9G)),.s (.int .i64 y9Af),.s (.int .i64 (IntKind.i64.wrap (y9Ah - y9Af))),.s (.sl 4 (Nd.encs [Nd.mk a3A a3C a3D a3B])),.s (.int .i64 a4),.s (.str []),.s (.str [])])],2⟩ ?_ (fun σ' hle=>?_)
        ·replace h:=hj;refine zAl ?_;refine zAa ?_;obtain⟨x23,hj,h⟩:=zAc h
         refine zAm ⟨ofL [(3,.s (.int .i64 a4)),(4,.s (.pt [.int .i64 a1A,.str a1C,.int .i64 a1D,.sl 4 (Nd.encs a1B)])),(5,.s (.pt [.sl 1 ((List.map (irow .i64)) a2Q),.sl 1 ((List.map (irow .i64)) a2Ab)])),(6,.s (.pt [.int .i64 a3A,.str a3C,.int .i64 a3D,.sl 4 (Nd.encs a3B)])),(8,.op 0 0),(10,.op 1 0),(11,.s (.pt [.sl 1 ((List.map (irow .i64)) y9G),.int .i64 y9Af,.int .i64 y9Ah])),(13,.s (.sl 1 ((List.map (irow .i64)) x19))),(14,.s (.int .i64 x20)),(82,.s (.bool x23))],ofH [(0,.box 31 [.nl 8,.nl 1,.nl 1,.nl 1,.nl 1]),(1,.box 65 [.s (.int .i64 3),.s (.sl 1 ((List.map (irow .i64)) y9G)),.s (.int .i64 y9Af),.s (.int .i64 (IntKind.i64.wrap (y9Ah - y9Af))),.s (.sl 4 (Nd.encs [Nd.mk a3A a3C a3D a3B])),.s (.int .i64 a4),.s (.str []),.s (.str [])])],2⟩ ?_ (fun σ' hle=>?_)
         ·replace h:=hj;refine zAb [] [68,71,73,77] rfl ?_;obtain⟨⟨e24A,e24C,e24D,e24B⟩,he24,h⟩:=zAc h;refine And.intro (zAp Nd.encs_eq he24).1 ?_;intro r25 hr25;obtain rfl:[.int .i64 e24A,.str e24C,.int .i64 e24D,.sl 4 (Nd.encs e24B)]=r25:=(hr25.trans (zAp Nd.encs_eq he24).2.1).symm;intro n26 hn26;obtain rfl:(e24B.length:Int)=n26:=(hn26.trans (congrArg (fun m:Nat=>(m:Int)) (rlen Nd.encs_eq e24B))).symm;intro b hb;cases b with
          | true =>
           replace h:=zAu hb.symm h;intro b hb;cases b with
           | true =>
            replace h:=zAu hb.symm h;cases h;exact(Le.rnm [(0,0),(1,1)] _ _ _ ⟨rfl,rfl,rfl,rfl,rfl,rfl,rfl,rfl,rfl,rfl,trivial⟩ ⟨rfl,⟨_,rfl,rfl⟩,rfl,⟨_,rfl,rfl⟩,trivial⟩)
           | false =>
            replace h:=zAt hb.symm h;cases h;exact(Le.rnm [(0,0),(1,1)] _ _ _ ⟨rfl,rfl,rfl,rfl,rfl,rfl,rfl,rfl,rfl,rfl,trivial⟩ ⟨rfl,⟨_,rfl,rfl⟩,rfl,⟨_,rfl,rfl⟩,trivial⟩)
          | false =>
           replace h:=zAt hb.symm h;cases h;exact(Le.rnm [(0,0),(1,1)] _ _ _ ⟨rfl,rfl,rfl,rfl,rfl,rfl,rfl,rfl,rfl,rfl,trivial⟩ ⟨rfl,⟨_,rfl,rfl⟩,rfl,⟨_,rfl,rfl⟩,trivial⟩)
         ·refine zAh hle ?_;refine zAg rfl h (fun hb h=>?_) (fun hb h=>?_)
          ·refine zAb [] [88] rfl ?_;intro r27 hr27;obtain rfl:(List.map (irow .i64)) [y9Af,x20,0]=r27:=(hr27.trans zBI).symm;obtain⟨y28,hy28,h⟩:=zAc h;refine⟨_,⟨_,_,_,hy28,rfl,rfl⟩,?_⟩
           cases h;exact(Le.rnm [(0,0),(1,1)] _ _ _ ⟨rfl,rfl,rfl,rfl,rfl,rfl,rfl,rfl,rfl,trivial⟩ ⟨rfl,⟨_,rfl,rfl⟩,rfl,⟨_,rfl,rfl⟩,trivial⟩)
          ·refine zAf ?_;cases h;exact(Le.rnm [(0,0),(1,1)] _ _ _ ⟨rfl,rfl,rfl,rfl,rfl,rfl,rfl,rfl,rfl,trivial⟩ ⟨rfl,⟨_,rfl,rfl⟩,rfl,⟨_,rfl,rfl⟩,trivial⟩)
        ·refine zAh hle ?_;refine zYU ?_;refine⟨(k,x22,IntKind.i64.wrap (x20 - 1)),h,(Le.rnm [(0,0),(1,1)] _ _ _ ⟨rfl,rfl,rfl,rfl,rfl,rfl,rfl,rfl,rfl,trivial⟩ ⟨rfl,⟨_,rfl,rfl⟩,rfl,⟨_,rfl,rfl⟩,trivial⟩),Nat.lt_succ_self k⟩
       ·refine zAC ?_;cases h;exact(Le.rnm [(0,0),(1,1)] _ _ _ ⟨rfl,rfl,rfl,rfl,rfl,trivial⟩ ⟨rfl,⟨_,rfl,rfl⟩,rfl,⟨_,rfl,rfl⟩,trivial⟩)
    ·refine zAh hle ?_;refine zYf [] [93] rfl ?_;intro r29 hr29;obtain rfl:(List.map zAk) [(3,y9G,y9Af,IntKind.i64.wrap (y9Ah - y9Af),[Nd.mk a3A a3C a3D a3B],a4,[],[])]=r29:=(hr29.trans zBI).symm
     obtain⟨⟨⟨y30W,⟨y30X,y30Y⟩,⟨y30Z,y30Aa⟩⟩,y31⟩,hy30,h⟩:=zAc h;refine⟨_,⟨_,_,_,_,_,_,_,hy30,rfl,rfl⟩,?_⟩
     refine zAe ?_;obtain⟨hj1,hk1⟩:=pij h;subst hj1 hk1;exact fin0 rfl rfl
def zQk (n:Nat) (xs:List AV) (r:Ret):Prop:=∃ (a0:List Int) (a1:List Int) (y0:Bool),zFn n a0 a1=some y0/\xs=[.s (.sl 1 ((List.map (irow .i64)) a0)),.s (.sl 1 ((List.map (irow .i64)) a1))]/\r = .val (.s (.bool y0))
def zK3:zAq:=zAs fun xs r=>∃ n,zQk n xs r
theorem zPB:PSound Tryz.prog 113 zK3:=by
 have gok:=@gok0 Tryz.prog;refine zAr tokW Tryz.call113 Tryz.func113 rfl (fun xs r h=>by obtain⟨n,_,_,_,_,rfl,_⟩:=h; show 2<=32; decide) 32 rfl ?_;rintro xs r w0 G0 ⟨n,pos1,row2,y0,h,rfl,rfl⟩ _;rw[zFn]at h;refine zYV ?_;refine zAa ?_;refine zYf [] [7,9] rfl ?_;intro n3 hn3;obtain rfl:(pos1.length:Int)=n3:=(hn3.trans (congrArg (fun m:Nat=>(m:Int)) (rlen (fun _=>rfl) pos1))).symm;intro n4 hn4;obtain rfl:(row2.length:Int)=n4:=(hn4.trans (congrArg (fun m:Nat=>(m:Int)) (rlen (fun _=>rfl) row2))).symm;show Tri ..
 refine zAg rfl h (fun hb h=>?_) (fun hb h=>?_)
 ·refine zYV ?_;refine zAe ?_;have hy:=osi h;subst hy;exact fin0 rfl rfl
 ·refine zAf ?_;refine zAa ?_;refine zYV ?_;show Tri ..;obtain⟨fl,hl,ho1⟩:=zAc h;refine zBA (fl:=fl) (fun z=>match z with | _=>⟨ofL [(0,.s (.sl 1 ((List.map (irow .i64)) pos1))),(1,.s (.sl 1 ((List.map (irow .i64)) row2)))],fun _=>none,0⟩) ?_ (fun z σ' hz hle=>?_)
  ·refine zAl (zAy (X:=Nat×Int) (fun y=>match y with | (k,i5)=>⟨ofL [(0,.s (.sl 1 ((List.map (irow .i64)) pos1))),(1,.s (.sl 1 ((List.map (irow .i64)) row2))),(5,.s (.int .i64 i5))],fun _=>none,0⟩) (fun y=>zCd pos1 row2 y.1 y.2=some fl) (fun y=>y.1) (n,0) hl ?_ ?_)
   ·exact(Le.forget _ ⟨rfl,rfl,rfl,trivial⟩)
   ·rintro⟨k,i5⟩ h;cases k with
    | zero=>cases h
    | succ k =>
     replace h:zCd pos1 row2 (k+1) i5=some fl:=h;rw[zCd]at h;refine zAa ?_;refine zYf [] [13] rfl ?_;intro n6 hn6;obtain rfl:(row2.length:Int)=n6:=(hn6.trans (congrArg (fun m:Nat=>(m:Int)) (rlen (fun _=>rfl) row2))).symm;refine zAg rfl h (fun hb h=>?_) (fun hb h=>?_)
     ·refine zAf ?_;refine zAa ?_;refine zAl ?_;refine zAa ?_;refine zAA [] [19,23] [] rfl (by decide +kernel) ?_;obtain⟨e7,he7,h⟩:=zAc h;refine And.intro (zAp (fun _=>rfl) he7).1 ?_;intro r8 hr8;obtain rfl:[.int .i64 e7]=r8:=(hr8.trans (zAp (fun _=>rfl) he7).2.1).symm;obtain⟨e9,he9,h⟩:=zAc h;refine And.intro (zAp (fun _=>rfl) he9).1 ?_;intro r10 hr10;obtain rfl:[.int .i64 e9]=r10:=(hr10.trans (zAp (fun _=>rfl) he9).2.1).symm;refine zAg rfl h (fun hb h=>?_) (fun hb h=>?_)
      ·refine zYV ?_;refine zAe ?_;cases h;replace h:some _=some _:=ho1;have hy:=osi h;subst hy;exact fin0 rfl rfl
      ·refine zAf ?_;refine zYU ?_;refine⟨(k,IntKind.i64.wrap (i5+1)),h,(Le.forget _ ⟨rfl,rfl,rfl,trivial⟩),Nat.lt_succ_self k⟩
     ·refine zAC ?_;cases h;exact⟨_,rfl,(Le.forget _ ⟨rfl,rfl,trivial⟩)⟩
  ·subst hz;obtain _:=z;replace h:=ho1;refine zAh hle ?_;refine zYf [] [27,29] rfl ?_;intro n11 hn11;obtain rfl:(pos1.length:Int)=n11:=(hn11.trans (congrArg (fun m:Nat=>(m:Int)) (rlen (fun _=>rfl) pos1))).symm;intro n12 hn12;obtain rfl:(row2.length:Int)=n12:=(hn12.trans (congrArg (fun m:Nat=>(m:Int)) (rlen (fun _=>rfl) row2))).symm;refine zAe ?_;have hy:=osi h;subst hy;exact fin0 rfl rfl
def zQj (xs:List AV) (r:Ret):Prop:=∃ (a0:zO8) (a1:Int) (a2:Bool) (y0:List Int),zIc a0 a1 a2=some y0/\xs=[.agg ((zAk a0).map .s),.s (.int .i64 a1),.s (.bool a2)]/\r = .val (.s (.sl 1 ((List.map (irow .i64)) y0)))
def zK2:zAq:=zAs fun xs r=>zQj xs r
theorem zPA:PSound Tryz.prog 114 zK2:=by
 have gok:=@gok0 Tryz.prog;refine zAr tokW Tryz.call114 Tryz.func114 rfl (fun xs r h=>by obtain⟨_,_,_,_,_,rfl,_⟩:=h; show 3<=121; decide) 121 rfl ?_;rintro xs r w0 G0 ⟨⟨a1A,a1G,a1L,a1S,a1R,a1V,a1Ac,a1C⟩,a2,a3,y0,h,rfl,rfl⟩ _;rw[zIc]at h;refine zYV ?_;refine zYf [] [10] rfl ?_;intro n4 hn4;obtain rfl:(a1R.length:Int)=n4:=(hn4.trans (congrArg (fun m:Nat=>(m:Int)) (rlen Nd.encs_eq a1R))).symm;refine zAa ?_;refine zYV ?_;show Tri ..;obtain⟨fl,hj,ho1⟩:=zAc h
 refine zBA (fl:=fl) (fun z=>match z with | _=>⟨ofL [(1,.s (.int .i64 a2))],fun _=>none,0⟩) ?_ (fun z σ' hz hle=>?_)
 ·replace h:=hj;refine zAl ?_;refine zYV ?_;refine zAg rfl h (fun hb h=>?_) (fun hb h=>?_)
  ·refine zAa ?_;obtain⟨x5,hj,h⟩:=zAc h;refine zAm ⟨ofL [(1,.s (.int .i64 a2)),(7,.s (.int .i64 (a1R.length:Int))),(27,.s (.bool x5))],fun _=>none,0⟩ ?_ (fun σ' hle=>?_)
   ·replace h:=hj;refine zAb [] [19,24] rfl ?_;intro b hb;cases b with
    | true =>
     replace h:=zAu hb.symm h;cases h;exact(Le.forget _ ⟨rfl,rfl,rfl,trivial⟩)
    | false =>
     replace h:=zAt hb.symm h;intro b hb;cases b with
     | true =>
      replace h:=zAu hb.symm h;cases h;exact(Le.forget _ ⟨rfl,rfl,rfl,trivial⟩)
     | false =>
      replace h:=zAt hb.symm h;cases h;exact(Le.forget _ ⟨rfl,rfl,rfl,trivial⟩)
   ·refine zAh hle ?_;refine zAg rfl h (fun hb h=>?_) (fun hb h=>?_)
    ·refine zYf [] [31] rfl ?_;intro r6 hr6;obtain rfl:(List.map (irow .i64)) [IntKind.i64.wrap (a2+(a1R.length:Int))]=r6:=(hr6.trans zBI).symm;refine zAe ?_;cases h;replace h:some _=some _:=ho1;have hy:=osi h;subst hy;unfold zBC
     exact⟨_,Le.refl _ _,rfl,rfl⟩
    ·refine zAf ?_;cases h;exact⟨_,rfl,(Le.forget _ ⟨rfl,trivial⟩)⟩
  ·refine zYV ?_;refine zAg rfl h (fun hb h=>?_) (fun hb h=>?_)
   ·refine zAa ?_;refine zAa ?_;obtain⟨x7,hj,h⟩:=zAc h;refine zAm ⟨ofL [(1,.s (.int .i64 a2)),(3,.s (.pt [.int .i64 a1A,.sl 1 ((List.map (irow .i64)) a1G),.int .i64 a1L,.int .i64 a1S,.sl 4 (Nd.encs a1R),.int .i64 a1V,.str a1Ac,.str a1C])),(7,.s (.int .i64 (a1R.length:Int))),(45,.s (.bool x7))],fun _=>none,0⟩ ?_ (fun σ' hle=>?_)
    ·replace h:=hj;refine zAb [] [38] rfl ?_;intro b hb;cases b with
     | true =>
      replace h:=zAu hb.symm h;cases h;exact(Le.forget _ ⟨rfl,rfl,rfl,rfl,trivial⟩)
     | false =>
      replace h:=zAt hb.symm h;cases h;exact(Le.forget _ ⟨rfl,rfl,rfl,rfl,trivial⟩)
    ·refine zAh hle ?_;refine zAg rfl h (fun hb h=>?_) (fun hb h=>?_)
     ·refine zYf [] [48] rfl ?_;intro r8 hr8;obtain rfl:(List.map (irow .i64)) [a1L]=r8:=(hr8.trans zBI).symm;refine zAe ?_;cases h;replace h:some _=some _:=ho1;have hy:=osi h;subst hy;exact fin0 rfl rfl
     ·refine zAf ?_;refine zYV ?_;refine zAg rfl h (fun hb h=>?_) (fun hb h=>?_)
      ·refine zYf [] [56] rfl ?_;intro r9 hr9;obtain rfl:(List.map (irow .i64)) [IntKind.i64.wrap (a2 - (a1R.length:Int))]=r9:=(hr9.trans zBI).symm;refine zAe ?_;cases h;replace h:some _=some _:=ho1;have hy:=osi h;subst hy
       exact fin0 rfl rfl
      ·refine zAf ?_;cases h;exact⟨_,rfl,(Le.forget _ ⟨rfl,trivial⟩)⟩
   ·refine zYV ?_;refine zAg rfl h (fun hb h=>?_) (fun hb h=>?_)
    ·refine zAa ?_;refine zAa ?_;obtain⟨x10,hj,h⟩:=zAc h;refine zAm ⟨ofL [(1,.s (.int .i64 a2)),(2,.s (.bool a3)),(3,.s (.pt [.int .i64 a1A,.sl 1 ((List.map (irow .i64)) a1G),.int .i64 a1L,.int .i64 a1S,.sl 4 (Nd.encs a1R),.int .i64 a1V,.str a1Ac,.str a1C])),(71,.s (.bool x10))],fun _=>none,0⟩ ?_ (fun σ' hle=>?_)
     ·replace h:=hj;refine zAb [] [63] rfl ?_;intro b hb;cases b with
      | true =>
       replace h:=zAu hb.symm h;cases h;exact(Le.forget _ ⟨rfl,rfl,rfl,rfl,trivial⟩)
      | false =>
       replace h:=zAt hb.symm h;cases h;exact(Le.forget _ ⟨rfl,rfl,rfl,rfl,trivial⟩)
     ·refine zAh hle ?_;refine zAg rfl h (fun hb h=>?_) (fun hb h=>?_)
      ·refine zYf [] [80] rfl ?_;intro r11 hr11;obtain rfl:(List.map (irow .i64)) [a1L,a1V,IntKind.i64.wrap (a2 - a1L)]=r11:=(hr11.trans zBI).symm;refine zAe ?_;cases h;replace h:some _=some _:=ho1;have hy:=osi h;subst hy
       exact fin0 rfl rfl
      ·refine zAf ?_;refine zAa ?_;refine zYV ?_;refine zAg rfl h (fun hb h=>?_) (fun hb h=>?_)
       ·refine zYf [] [90] rfl ?_;intro r12 hr12;obtain rfl:(List.map (irow .i64)) [IntKind.i64.wrap ((IntKind.i64.wrap (a2 - a1S))+1)]=r12:=(hr12.trans zBI).symm;refine zAe ?_;cases h;replace h:some _=some _:=ho1;have hy:=osi h
        subst hy;exact fin0 rfl rfl
       ·refine zAf ?_;refine zAa ?_;obtain⟨x13,hj,h⟩:=zAc h;refine zAm ⟨ofL [(1,.s (.int .i64 a2)),(3,.s (.pt [.int .i64 a1A,.sl 1 ((List.map (irow .i64)) a1G),.int .i64 a1L,.int .i64 a1S,.sl 4 (Nd.encs a1R),.int .i64 a1V,.str a1Ac,.str a1C])),(102,.s (.bool x13))],fun _=>none,0⟩ ?_ (fun σ' hle=>?_)
        ·replace h:=hj;refine zAb [] [95,100] rfl ?_;intro b hb;cases b with
         | true =>
          replace h:=zAu hb.symm h;intro b hb;cases b with
          | true =>
           replace h:=zAu hb.symm h;cases h;exact(Le.forget _ ⟨rfl,rfl,rfl,trivial⟩)
          | false =>
           replace h:=zAt hb.symm h;cases h;exact(Le.forget _ ⟨rfl,rfl,rfl,trivial⟩)
         | false =>
          replace h:=zAt hb.symm h;intro b hb;subst hb;cases h;exact(Le.forget _ ⟨rfl,rfl,rfl,trivial⟩)
        ·refine zAh hle ?_;refine zAg rfl h (fun hb h=>?_) (fun hb h=>?_)
         ·refine zYf [] [106] rfl ?_;intro r14 hr14;obtain rfl:(List.map (irow .i64)) [IntKind.i64.wrap (a1L+1)]=r14:=(hr14.trans zBI).symm;refine zAe ?_;cases h;replace h:some _=some _:=ho1;have hy:=osi h;subst hy;unfold zBC
          exact⟨_,Le.refl _ _,rfl,rfl⟩
         ·refine zAf ?_;cases h;exact⟨_,rfl,(Le.forget _ ⟨rfl,trivial⟩)⟩
    ·refine zYV ?_;refine zAg rfl h (fun hb h=>?_) (fun hb h=>?_)
     ·refine zYV ?_;refine zAg rfl h (fun hb h=>?_) (fun hb h=>?_)
      ·refine zYf [] [118] rfl ?_;intro r15 hr15;obtain rfl:(List.map (irow .i64)) [IntKind.i64.wrap ((IntKind.i64.wrap (a2 - 1))+a1S)]=r15:=(hr15.trans zBI).symm;refine zAe ?_;cases h;replace h:some _=some _:=ho1;have hy:=osi h
       subst hy;exact fin0 rfl rfl
      ·refine zAf ?_;cases h;exact⟨_,rfl,(Le.forget _ ⟨rfl,trivial⟩)⟩
     ·refine zAf ?_;cases h;exact⟨_,rfl,(Le.forget _ ⟨rfl,trivial⟩)⟩
 ·subst hz;obtain _:=z;replace h:=ho1;refine zAh hle ?_;refine zYf [] [120] rfl ?_;intro r16 hr16;obtain rfl:(List.map (irow .i64)) [a2]=r16:=(hr16.trans zBI).symm;refine zAe ?_;have hy:=osi h;subst hy;unfold zBC
  exact⟨_,Le.refl _ _,rfl,rfl⟩
def zQi (xs:List AV) (r:Ret):Prop:=∃ (a0:zO8) (a1:Int) (a2:Int) (a3:List Int) (y0:List Int),zFm a0 a1 a2 a3=some y0/\xs=[.agg ((zAk a0).map .s),.s (.int .i64 a1),.s (.int .i64 a2),.s (.sl 1 ((List.map (irow .i64)) a3))]/\r = .row 3 1 ((List.map (irow .i64)) y0)
def zK1:zAq:=zAs fun xs r=>zQi xs r
theorem zPz:PSound Tryz.prog 115 zK1:=by
 have gok:=@gok0 Tryz.prog;refine zAr tokW Tryz.call115 Tryz.func115 rfl (fun xs r h=>by obtain⟨_,_,_,_,_,_,rfl,_⟩:=h; show 4<=161; decide) 161 rfl ?_;rintro xs r w0 G0 ⟨⟨a1A,a1G,a1L,a1S,a1R,a1V,a1Ac,a1C⟩,a2,a3,a4,y0,h,rfl,rfl⟩ _;rw[zFm]at h;refine zYf [8] [] rfl ?_;show Tri ..
 refine zAh (Le.rnm [] [(1,.s (.int .i64 a2)),(2,.s (.int .i64 a3)),(3,.s (.sl 1 ((List.map (irow .i64)) a4))),(4,.s (.pt [.int .i64 a1A,.sl 1 ((List.map (irow .i64)) a1G),.int .i64 a1L,.int .i64 a1S,.sl 4 (Nd.encs a1R),.int .i64 a1V,.str a1Ac,.str a1C]))] [] 0 ⟨rfl,rfl,rfl,rfl,trivial⟩ trivial) ?_;refine zYf [] [13] rfl ?_;intro n5 hn5;obtain rfl:(a1R.length:Int)=n5:=(hn5.trans (congrArg (fun m:Nat=>(m:Int)) (rlen Nd.encs_eq a1R))).symm;refine zYf [15] [] rfl ?_;show Tri ..
 refine zAh (Le.rnm [(0,0)] [(1,.s (.int .i64 a2)),(2,.s (.int .i64 a3)),(3,.s (.sl 1 ((List.map (irow .i64)) a4))),(4,.s (.pt [.int .i64 a1A,.sl 1 ((List.map (irow .i64)) a1G),.int .i64 a1L,.int .i64 a1S,.sl 4 (Nd.encs a1R),.int .i64 a1V,.str a1Ac,.str a1C])),(9,.s (.int .i64 (a1R.length:Int))),(10,.orow 0)] [(0,.row 3 1 ((List.map (irow .i64)) [a2]))] 1 ⟨rfl,rfl,rfl,rfl,rfl,rfl,trivial⟩ ⟨rfl,⟨_,rfl,congrArg (Ob.row 3 1) zBI⟩,trivial⟩) ?_
 refine zAa ?_;obtain⟨fl,hj,ho1⟩:=zAc h;refine zBA (fl:=fl) (fun z=>match z with | l6=>⟨ofL [(2,.s (.int .i64 a3)),(3,.s (.sl 1 ((List.map (irow .i64)) a4))),(10,.orow 0)],ofH [(0,.row 3 1 ((List.map (irow .i64)) l6))],1⟩) ?_ (fun l6 σ' hz hle=>?_)
 ·replace h:=hj;refine zAl ?_;refine zYV ?_;refine zAg rfl h (fun hb h=>?_) (fun hb h=>?_)
  ·refine zAf ?_;cases h;exact⟨_,rfl,(Le.rnm [(0,0)] _ _ _ ⟨rfl,rfl,rfl,trivial⟩ ⟨rfl,⟨_,rfl,rfl⟩,trivial⟩)⟩
  ·refine zYV ?_;refine zAg rfl h (fun hb h=>?_) (fun hb h=>?_)
   ·refine zAb [28] [] rfl ?_;cases h
    exact⟨_,rfl,(Le.trans (Le.rnm [(1,0)] [(2,.s (.int .i64 a3)),(3,.s (.sl 1 ((List.map (irow .i64)) a4))),(10,.orow 0)] [(0,.row 3 1 ((List.map (irow .i64)) [IntKind.i64.wrap (a2+(a1R.length:Int))]))] 1 ⟨rfl,rfl,rfl,trivial⟩ ⟨rfl,⟨_,rfl,congrArg (Ob.row 3 1) zBI⟩,trivial⟩) (Le.rnm [(0,0)] _ _ _ ⟨rfl,rfl,rfl,trivial⟩ ⟨rfl,⟨_,rfl,rfl⟩,trivial⟩))⟩
   ·refine zAa ?_;obtain⟨x7,hj,h⟩:=zAc h;refine zAm ⟨ofL [(1,.s (.int .i64 a2)),(2,.s (.int .i64 a3)),(3,.s (.sl 1 ((List.map (irow .i64)) a4))),(4,.s (.pt [.int .i64 a1A,.sl 1 ((List.map (irow .i64)) a1G),.int .i64 a1L,.int .i64 a1S,.sl 4 (Nd.encs a1R),.int .i64 a1V,.str a1Ac,.str a1C])),(9,.s (.int .i64 (a1R.length:Int))),(10,.orow 0),(29,.s (.bool x7))],ofH [(0,.row 3 1 ((List.map (irow .i64)) [a2]))],1⟩ ?_ (fun σ' hle=>?_)
    ·replace h:=hj;refine zAb [] [33] rfl ?_;intro b hb;cases b with
     | true =>
      replace h:=zAu hb.symm h;cases h;exact(Le.rnm [(0,0)] _ _ _ ⟨rfl,rfl,rfl,rfl,rfl,rfl,rfl,trivial⟩ ⟨rfl,⟨_,rfl,rfl⟩,trivial⟩)
     | false =>
      replace h:=zAt hb.symm h;cases h;exact(Le.rnm [(0,0)] _ _ _ ⟨rfl,rfl,rfl,rfl,rfl,rfl,rfl,trivial⟩ ⟨rfl,⟨_,rfl,rfl⟩,trivial⟩)
    ·refine zAh hle ?_;refine zAg rfl h (fun hb h=>?_) (fun hb h=>?_)
     ·refine zYf [43] [] rfl ?_;refine zAh (Le.rnm [(1,0)] [(8,.orow 0)] [(0,.row 3 1 ((List.map (irow .i64)) [a1L]))] 1 ⟨rfl,trivial⟩ ⟨rfl,⟨_,rfl,congrArg (Ob.row 3 1) zBI⟩,trivial⟩) ?_;refine zAe ?_;cases h;replace h:some _=some _:=ho1
      have hy:=osi h;subst hy;unfold zBC;exact⟨_,Le.refl _ _,0,rfl,rfl⟩
     ·refine zYV ?_;refine zAg rfl h (fun hb h=>?_) (fun hb h=>?_)
      ·refine zAb [51] [] rfl ?_;cases h
       exact⟨_,rfl,(Le.trans (Le.rnm [(1,0)] [(2,.s (.int .i64 a3)),(3,.s (.sl 1 ((List.map (irow .i64)) a4))),(10,.orow 0)] [(0,.row 3 1 ((List.map (irow .i64)) [IntKind.i64.wrap (a2 - (a1R.length:Int))]))] 1 ⟨rfl,rfl,rfl,trivial⟩ ⟨rfl,⟨_,rfl,congrArg (Ob.row 3 1) zBI⟩,trivial⟩) (Le.rnm [(0,0)] _ _ _ ⟨rfl,rfl,rfl,trivial⟩ ⟨rfl,⟨_,rfl,rfl⟩,trivial⟩))⟩
      ·refine zAa ?_;obtain⟨x8,hj,h⟩:=zAc h;refine zAm ⟨ofL [(1,.s (.int .i64 a2)),(2,.s (.int .i64 a3)),(3,.s (.sl 1 ((List.map (irow .i64)) a4))),(4,.s (.pt [.int .i64 a1A,.sl 1 ((List.map (irow .i64)) a1G),.int .i64 a1L,.int .i64 a1S,.sl 4 (Nd.encs a1R),.int .i64 a1V,.str a1Ac,.str a1C])),(10,.orow 0),(52,.s (.bool x8))],ofH [(0,.row 3 1 ((List.map (irow .i64)) [a2]))],1⟩ ?_ (fun σ' hle=>?_)
       ·replace h:=hj;refine zAb [] [56] rfl ?_;intro b hb;cases b with
        | true =>
         replace h:=zAu hb.symm h;cases h;exact(Le.rnm [(0,0)] _ _ _ ⟨rfl,rfl,rfl,rfl,rfl,rfl,trivial⟩ ⟨rfl,⟨_,rfl,rfl⟩,trivial⟩)
        | false =>
         replace h:=zAt hb.symm h;cases h;exact(Le.rnm [(0,0)] _ _ _ ⟨rfl,rfl,rfl,rfl,rfl,rfl,trivial⟩ ⟨rfl,⟨_,rfl,rfl⟩,trivial⟩)
       ·refine zAh hle ?_;refine zAg rfl h (fun hb h=>?_) (fun hb h=>?_)
        ·refine zAb [73] [] rfl ?_;cases h
         exact⟨_,rfl,(Le.trans (Le.rnm [(1,0)] [(2,.s (.int .i64 a3)),(3,.s (.sl 1 ((List.map (irow .i64)) a4))),(10,.orow 0)] [(0,.row 3 1 ((List.map (irow .i64)) [a1L,a1V,IntKind.i64.wrap (a2 - a1L)]))] 1 ⟨rfl,rfl,rfl,trivial⟩ ⟨rfl,⟨_,rfl,congrArg (Ob.row 3 1) zBI⟩,trivial⟩) (Le.rnm [(0,0)] _ _ _ ⟨rfl,rfl,rfl,trivial⟩ ⟨rfl,⟨_,rfl,rfl⟩,trivial⟩))⟩
        ·refine zYV ?_;refine zAg rfl h (fun hb h=>?_) (fun hb h=>?_)
         ·refine zAb [83] [] rfl ?_;cases h
          exact⟨_,rfl,(Le.trans (Le.rnm [(1,0)] [(2,.s (.int .i64 a3)),(3,.s (.sl 1 ((List.map (irow .i64)) a4))),(10,.orow 0)] [(0,.row 3 1 ((List.map (irow .i64)) [IntKind.i64.wrap ((IntKind.i64.wrap (a2 - a1S))+1)]))] 1 ⟨rfl,rfl,rfl,trivial⟩ ⟨rfl,⟨_,rfl,congrArg (Ob.row 3 1) zBI⟩,trivial⟩) (Le.rnm [(0,0)] _ _ _ ⟨rfl,rfl,rfl,trivial⟩ ⟨rfl,⟨_,rfl,rfl⟩,trivial⟩))⟩
         ·refine zAa ?_;obtain⟨x9,hj,h⟩:=zAc h;refine zAm ⟨ofL [(1,.s (.int .i64 a2)),(2,.s (.int .i64 a3)),(3,.s (.sl 1 ((List.map (irow .i64)) a4))),(4,.s (.pt [.int .i64 a1A,.sl 1 ((List.map (irow .i64)) a1G),.int .i64 a1L,.int .i64 a1S,.sl 4 (Nd.encs a1R),.int .i64 a1V,.str a1Ac,.str a1C])),(10,.orow 0),(84,.s (.bool x9))],ofH [(0,.row 3 1 ((List.map (irow .i64)) [a2]))],1⟩ ?_ (fun σ' hle=>?_)
          ·replace h:=hj;refine zAb [] [88,94] rfl ?_;intro b hb;cases b with
           | true =>
            replace h:=zAu hb.symm h;intro b hb;cases b with
            | true =>
             replace h:=zAu hb.symm h;cases h;exact(Le.rnm [(0,0)] _ _ _ ⟨rfl,rfl,rfl,rfl,rfl,rfl,trivial⟩ ⟨rfl,⟨_,rfl,rfl⟩,trivial⟩)
            | false =>
             replace h:=zAt hb.symm h;cases h;exact(Le.rnm [(0,0)] _ _ _ ⟨rfl,rfl,rfl,rfl,rfl,rfl,trivial⟩ ⟨rfl,⟨_,rfl,rfl⟩,trivial⟩)
           | false =>
            replace h:=zAt hb.symm h;intro b hb;subst hb;cases h;exact(Le.rnm [(0,0)] _ _ _ ⟨rfl,rfl,rfl,rfl,rfl,rfl,trivial⟩ ⟨rfl,⟨_,rfl,rfl⟩,trivial⟩)
          ·refine zAh hle ?_;refine zAg rfl h (fun hb h=>?_) (fun hb h=>?_)
           ·refine zYf [102] [] rfl ?_;refine zAh (Le.rnm [(1,0)] [(8,.orow 0)] [(0,.row 3 1 ((List.map (irow .i64)) [a1L]))] 1 ⟨rfl,trivial⟩ ⟨rfl,⟨_,rfl,congrArg (Ob.row 3 1) zBI⟩,trivial⟩) ?_;refine zAe ?_;cases h
            replace h:some _=some _:=ho1;have hy:=osi h;subst hy;unfold zBC;exact⟨_,Le.refl _ _,0,rfl,rfl⟩
           ·refine zAa ?_;obtain⟨x10,hj,h⟩:=zAc h;refine zAm ⟨ofL [(1,.s (.int .i64 a2)),(2,.s (.int .i64 a3)),(3,.s (.sl 1 ((List.map (irow .i64)) a4))),(4,.s (.pt [.int .i64 a1A,.sl 1 ((List.map (irow .i64)) a1G),.int .i64 a1L,.int .i64 a1S,.sl 4 (Nd.encs a1R),.int .i64 a1V,.str a1Ac,.str a1C])),(10,.orow 0),(103,.s (.bool x10))],ofH [(0,.row 3 1 ((List.map (irow .i64)) [a2]))],1⟩ ?_ (fun σ' hle=>?_)
            ·replace h:=hj;refine zAb [] [107,113] rfl ?_;intro b hb;cases b with
             | true =>
              replace h:=zAu hb.symm h;intro b hb;cases b with
              | true =>
               replace h:=zAu hb.symm h;cases h;exact(Le.rnm [(0,0)] _ _ _ ⟨rfl,rfl,rfl,rfl,rfl,rfl,trivial⟩ ⟨rfl,⟨_,rfl,rfl⟩,trivial⟩)
              | false =>
               replace h:=zAt hb.symm h;cases h;exact(Le.rnm [(0,0)] _ _ _ ⟨rfl,rfl,rfl,rfl,rfl,rfl,trivial⟩ ⟨rfl,⟨_,rfl,rfl⟩,trivial⟩)
             | false =>
              replace h:=zAt hb.symm h;intro b hb;subst hb;cases h;exact(Le.rnm [(0,0)] _ _ _ ⟨rfl,rfl,rfl,rfl,rfl,rfl,trivial⟩ ⟨rfl,⟨_,rfl,rfl⟩,trivial⟩)
            ·refine zAh hle ?_;refine zAg rfl h (fun hb h=>?_) (fun hb h=>?_)
             ·refine zYf [124] [] rfl ?_;refine zAh (Le.rnm [(1,0)] [(8,.orow 0)] [(0,.row 3 1 ((List.map (irow .i64)) [IntKind.i64.wrap (a1L+a1S)]))] 1 ⟨rfl,trivial⟩ ⟨rfl,⟨_,rfl,congrArg (Ob.row 3 1) zBI⟩,trivial⟩) ?_;refine zAe ?_;cases h
              replace h:some _=some _:=ho1;have hy:=osi h;subst hy;unfold zBC;exact⟨_,Le.refl _ _,0,rfl,rfl⟩
             ·refine zAa ?_;obtain⟨x11,hj,h⟩:=zAc h;refine zAm ⟨ofL [(1,.s (.int .i64 a2)),(2,.s (.int .i64 a3)),(3,.s (.sl 1 ((List.map (irow .i64)) a4))),(4,.s (.pt [.int .i64 a1A,.sl 1 ((List.map (irow .i64)) a1G),.int .i64 a1L,.int .i64 a1S,.sl 4 (Nd.encs a1R),.int .i64 a1V,.str a1Ac,.str a1C])),(10,.orow 0),(125,.s (.bool x11))],ofH [(0,.row 3 1 ((List.map (irow .i64)) [a2]))],1⟩ ?_ (fun σ' hle=>?_)
              ·replace h:=hj;refine zAb [] [129] rfl ?_;intro b hb;cases b with
               | true =>
                replace h:=zAu hb.symm h;cases h;exact(Le.rnm [(0,0)] _ _ _ ⟨rfl,rfl,rfl,rfl,rfl,rfl,trivial⟩ ⟨rfl,⟨_,rfl,rfl⟩,trivial⟩)
               | false =>
                replace h:=zAt hb.symm h;cases h;exact(Le.rnm [(0,0)] _ _ _ ⟨rfl,rfl,rfl,rfl,rfl,rfl,trivial⟩ ⟨rfl,⟨_,rfl,rfl⟩,trivial⟩)
              ·refine zAh hle ?_;refine zAg rfl h (fun hb h=>?_) (fun hb h=>?_)
               ·refine zAa ?_;refine zCi [141,144] [138,143] [6,9] [] rfl (by decide +kernel) ?_;obtain⟨e12,he12,h⟩:=zAc h;refine And.intro (zAp (fun _=>rfl) he12).1 ?_;intro r13 hr13;obtain rfl:[.int .i64 e12]=r13:=(hr13.trans (zAp (fun _=>rfl) he12).2.1).symm;obtain⟨hq,h⟩:=zAw h;refine And.intro ⟨hq.1,Int.le_trans hq.2.1 (Int.ofNat_le.2 (Nat.le_of_eq (rlen (fun _=>rfl) _).symm)),Int.le_refl _⟩ ?_;intro r14 hr14
                obtain rfl:(List.map (irow .i64)) ((a4.take (a4.length:Int).toNat).drop (1:Int).toNat)=r14:=(hr14.trans ((congrArg (fun m:Nat=>(((List.map (irow .i64)) a4).take m).drop (1:Int).toNat) (rlen (fun _=>rfl) _)).trans (rcut (fun _=>rfl) _ _ _))).symm;obtain⟨hq,h⟩:=zAw h
                refine And.intro (show([[.int .i64 (IntKind.i64.wrap (a1L+e12))]].length+((List.map (irow .i64)) ((a4.take (a4.length:Int).toNat).drop (1:Int).toNat)).length) * 8<=140737488355328/\[[.int .i64 (IntKind.i64.wrap (a1L+e12))]].length+((List.map (irow .i64)) ((a4.take (a4.length:Int).toNat).drop (1:Int).toNat)).length<=9223372036854775807 from by simp only[List.length_append,List.length_cons,List.length_nil,List.length_map,rlen (fun _=>rfl)]at hq ⊢; omega) ?_;show Tri ..
                refine zAh (Le.rnm [(2,0)] [(8,.orow 0)] [(0,.row 3 1 ((List.map (irow .i64)) ([IntKind.i64.wrap (a1L+e12)]++((a4.take (a4.length:Int).toNat).drop (1:Int).toNat))))] 1 ⟨rfl,trivial⟩ ⟨rfl,⟨_,rfl,congrArg (Ob.row 3 1) zBI⟩,trivial⟩) ?_;refine zAe ?_;cases h
                replace h:some _=some _:=ho1;have hy:=osi h;subst hy;unfold zBC;exact⟨_,Le.refl _ _,0,rfl,rfl⟩
               ·refine zYV ?_;refine zAg rfl h (fun hb h=>?_) (fun hb h=>?_)
                ·refine zAb [154] [] rfl ?_;cases h
                 exact⟨_,rfl,(Le.trans (Le.rnm [(1,0)] [(2,.s (.int .i64 a3)),(3,.s (.sl 1 ((List.map (irow .i64)) a4))),(10,.orow 0)] [(0,.row 3 1 ((List.map (irow .i64)) [IntKind.i64.wrap ((IntKind.i64.wrap (a2 - 1))+a1S)]))] 1 ⟨rfl,rfl,rfl,trivial⟩ ⟨rfl,⟨_,rfl,congrArg (Ob.row 3 1) zBI⟩,trivial⟩) (Le.rnm [(0,0)] _ _ _ ⟨rfl,rfl,rfl,trivial⟩ ⟨rfl,⟨_,rfl,rfl⟩,trivial⟩))⟩
                ·refine zAf ?_;cases h;exact⟨_,rfl,(Le.rnm [(0,0)] _ _ _ ⟨rfl,rfl,rfl,trivial⟩ ⟨rfl,⟨_,rfl,rfl⟩,trivial⟩)⟩
 ·subst hz;replace h:=ho1;refine zAh hle ?_;refine zYf [158,160] [157] rfl ?_;intro r15 hr15;obtain rfl:(List.map (irow .i64)) [a3]=r15:=(hr15.trans zBI).symm;obtain⟨hq,h⟩:=zAw h
  refine And.intro (show(((List.map (irow .i64)) l6).length+((List.map (irow .i64)) [a3]).length) * 8<=140737488355328/\((List.map (irow .i64)) l6).length+((List.map (irow .i64)) [a3]).length<=9223372036854775807 from by simp only[List.length_append,List.length_cons,List.length_nil,List.length_map,rlen (fun _=>rfl)]at hq ⊢; omega) ?_;obtain⟨hq,h⟩:=zAw h
  refine And.intro (show((((List.map (irow .i64)) l6)++((List.map (irow .i64)) [a3])).length+((List.map (irow .i64)) a4).length) * 8<=140737488355328/\(((List.map (irow .i64)) l6)++((List.map (irow .i64)) [a3])).length+((List.map (irow .i64)) a4).length<=9223372036854775807 from by simp only[List.length_append,List.length_cons,List.length_nil,List.length_map,rlen (fun _=>rfl)]at hq ⊢; omega) ?_;show Tri ..
  refine zAh (Le.rnm [(2,0)] [(8,.orow 0)] [(0,.row 3 1 ((List.map (irow .i64)) ((l6++[a3])++a4)))] 1 ⟨rfl,trivial⟩ ⟨rfl,⟨_,rfl,congrArg (Ob.row 3 1) zBI⟩,trivial⟩) ?_;refine zAe ?_;have hy:=osi h;subst hy;unfold zBC;exact⟨_,Le.refl _ _,0,rfl,rfl⟩
def zUZ (n:Nat) (xs:List AV) (r:Ret):Prop:=∃ (a0:zO8) (a1:List Int) (a2:Bool) (y0:List Int),zIb n a0 a1 a2=some y0/\xs=[.agg ((zAk a0).map .s),.s (.sl 1 ((List.map (irow .i64)) a1)),.s (.bool a2)]/\r = .row 3 1 ((List.map (irow .i64)) y0)
def zQu:zAq:=zAs fun xs r=>∃ n,zUZ n xs r
theorem zUw:PSound Tryz.prog 82 zQu:=by
 have gok:∀ f s,look? f [(113,zK3),(114,zK2),(115,zK1)]=some s->PSound Tryz.prog f s:=zAo (by
  simp only[List.forall_mem_cons]
  exact⟨zPB,zPA,zPz,by simp⟩)
 refine zAr tokW Tryz.call82 Tryz.func82 rfl (fun xs r h=>by obtain⟨n,_,_,_,_,_,rfl,_⟩:=h; show 3<=55; decide) 55 rfl ?_;rintro xs r w0 G0 ⟨n,⟨op1A,op1G,op1L,op1S,op1R,op1V,op1Ac,op1C⟩,pos2,after3,y0,h,rfl,rfl⟩ _;rw[zIb]at h;refine zYf [6] [] rfl ?_;refine zAh (Le.rnm [] [(1,.s (.sl 1 ((List.map (irow .i64)) pos2))),(2,.s (.bool after3)),(3,.s (.pt [.int .i64 op1A,.sl 1 ((List.map (irow .i64)) op1G),.int .i64 op1L,.int .i64 op1S,.sl 4 (Nd.encs op1R),.int .i64 op1V,.str op1Ac,.str op1C]))] [] 0 ⟨rfl,rfl,rfl,trivial⟩ trivial) ?_;refine zAa ?_
 refine zAb [] [11] rfl ?_;intro n4 hn4;obtain rfl:(op1G.length:Int)=n4:=(hn4.trans (congrArg (fun m:Nat=>(m:Int)) (rlen (fun _=>rfl) op1G))).symm;refine zAa ?_;refine zYV ?_;obtain⟨y5,hy5,h⟩:=zAc h;refine⟨_,⟨_,_,_,_,hy5,rfl,rfl⟩,?_⟩
 refine zAg rfl h (fun hb h=>?_) (fun hb h=>?_)
 ·refine zYf [17,19] [] rfl ?_;obtain⟨hq,h⟩:=zAw h;refine And.intro (show(([]:List (List S)).length+((List.map (irow .i64)) pos2).length) * 8<=140737488355328/\([]:List (List S)).length+((List.map (irow .i64)) pos2).length<=9223372036854775807 from by simp only[List.length_append,List.length_cons,List.length_nil,List.length_map,rlen (fun _=>rfl)]at hq ⊢; omega) ?_;show Tri ..
  refine zAh (Le.rnm [(1,0)] [(6,.orow 0)] [(0,.row 3 1 ((List.map (irow .i64)) pos2))] 1 ⟨rfl,trivial⟩ ⟨rfl,⟨_,rfl,congrArg (Ob.row 3 1) zBI⟩,trivial⟩) ?_;refine zAe ?_;have hy:=osi h;subst hy;unfold zBC;exact⟨_,Le.refl _ _,0,rfl,rfl⟩
 ·refine zAf ?_;refine zYf [20,23] [] rfl ?_;obtain⟨hq,h⟩:=zAw h;refine And.intro (show(([]:List (List S)).length+((List.map (irow .i64)) op1G).length) * 8<=140737488355328/\([]:List (List S)).length+((List.map (irow .i64)) op1G).length<=9223372036854775807 from by simp only[List.length_append,List.length_cons,List.length_nil,List.length_map,rlen (fun _=>rfl)]at hq ⊢; omega) ?_;show Tri ..
  refine zAh (Le.rnm [(1,0)] [(1,.s (.sl 1 ((List.map (irow .i64)) pos2))),(2,.s (.bool after3)),(3,.s (.pt [.int .i64 op1A,.sl 1 ((List.map (irow .i64)) op1G),.int .i64 op1L,.int .i64 op1S,.sl 4 (Nd.encs op1R),.int .i64 op1V,.str op1Ac,.str op1C])),(7,.s (.int .i64 (op1G.length:Int))),(8,.orow 0)] [(0,.row 3 1 ((List.map (irow .i64)) op1G))] 1 ⟨rfl,rfl,rfl,rfl,rfl,trivial⟩ ⟨rfl,⟨_,rfl,congrArg (Ob.row 3 1) zBI⟩,trivial⟩) ?_
  refine zAa ?_;refine zYf [] [25] rfl ?_;intro n6 hn6;obtain rfl:(pos2.length:Int)=n6:=(hn6.trans (congrArg (fun m:Nat=>(m:Int)) (rlen (fun _=>rfl) pos2))).symm;refine zAg rfl h (fun hb h=>?_) (fun hb h=>?_)
  ·refine zAa ?_;refine zAA [37] [33] [8] rfl (by decide +kernel) ?_;obtain⟨e7,he7,h⟩:=zAc h;refine And.intro (zAp (fun _=>rfl) he7).1 ?_;intro r8 hr8;obtain rfl:[.int .i64 e7]=r8:=(hr8.trans (zAp (fun _=>rfl) he7).2.1).symm;obtain⟨y9,hy9,h⟩:=zAc h;refine⟨_,⟨_,_,_,_,hy9,rfl,rfl⟩,?_⟩
   obtain⟨hq,h⟩:=zAw h;refine And.intro (show(((List.map (irow .i64)) op1G).length+((List.map (irow .i64)) y9).length) * 8<=140737488355328/\((List.map (irow .i64)) op1G).length+((List.map (irow .i64)) y9).length<=9223372036854775807 from by simp only[List.length_append,List.length_cons,List.length_nil,List.length_map,rlen (fun _=>rfl)]at hq ⊢; omega) ?_;show Tri ..
   refine zAh (Le.rnm [(1,0)] [(6,.orow 0)] [(0,.row 3 1 ((List.map (irow .i64)) (op1G++y9)))] 1 ⟨rfl,trivial⟩ ⟨rfl,⟨_,rfl,congrArg (Ob.row 3 1) zBI⟩,trivial⟩) ?_;refine zAe ?_;have hy:=osi h;subst hy;unfold zBC;exact⟨_,Le.refl _ _,0,rfl,rfl⟩
  ·refine zAf ?_;refine zAa ?_;refine zAA [54] [42,47,52] [16] rfl (by decide +kernel) ?_;obtain⟨e10,he10,h⟩:=zAc h;refine And.intro (zAp (fun _=>rfl) he10).1 ?_;intro r11 hr11;obtain rfl:[.int .i64 e10]=r11:=(hr11.trans (zAp (fun _=>rfl) he10).2.1).symm;obtain⟨e12,he12,h⟩:=zAc h;refine And.intro (zAp (fun _=>rfl) he12).1 ?_;intro r13 hr13;obtain rfl:[.int .i64 e12]=r13:=(hr13.trans (zAp (fun _=>rfl) he12).2.1).symm;obtain⟨hq,h⟩:=zAw h;refine And.intro ⟨hq.1,Int.le_trans hq.2.1 (Int.ofNat_le.2 (Nat.le_of_eq (rlen (fun _=>rfl) _).symm)),Int.le_refl _⟩ ?_;intro r14 hr14
   obtain rfl:(List.map (irow .i64)) ((pos2.take (pos2.length:Int).toNat).drop (IntKind.i64.wrap ((op1G.length:Int)+2)).toNat)=r14:=(hr14.trans ((congrArg (fun m:Nat=>(((List.map (irow .i64)) pos2).take m).drop (IntKind.i64.wrap ((op1G.length:Int)+2)).toNat) (rlen (fun _=>rfl) _)).trans (rcut (fun _=>rfl) _ _ _))).symm;obtain⟨y15,hy15,h⟩:=zAc h;refine⟨_,⟨_,_,_,_,_,hy15,rfl,rfl⟩,?_⟩
   obtain⟨hq,h⟩:=zAw h;refine And.intro (show(((List.map (irow .i64)) op1G).length+((List.map (irow .i64)) y15).length) * 8<=140737488355328/\((List.map (irow .i64)) op1G).length+((List.map (irow .i64)) y15).length<=9223372036854775807 from by simp only[List.length_append,List.length_cons,List.length_nil,List.length_map,rlen (fun _=>rfl)]at hq ⊢; omega) ?_;show Tri ..
   refine zAh (Le.rnm [(1,0)] [(6,.orow 0)] [(0,.row 3 1 ((List.map (irow .i64)) (op1G++y15)))] 1 ⟨rfl,trivial⟩ ⟨rfl,⟨_,rfl,congrArg (Ob.row 3 1) zBI⟩,trivial⟩) ?_;refine zAe ?_;have hy:=osi h;subst hy;unfold zBC;exact⟨_,Le.refl _ _,0,rfl,rfl⟩
def zQm (n:Nat) (xs:List AV) (r:Ret):Prop:=∃ (a0:Nd) (a1:zCu) (y0:zRc) (y1:Int),zDx n a0 a1=some (y0,y1)/\xs=[.agg ((Nd.enc a0).map .s),.agg ((zAz a1).map .s)]/\r = .val (.tup [.agg ((zAd y0).map .s),.s (.int .i64 y1)])
def zK5:zAq:=zAs fun xs r=>∃ n,zQm n xs r
theorem zPD:PSound Tryz.prog 54 zK5:=by
 have gok:∀ f s,look? f [(71,zDk),(78,zE6),(79,zHX),(82,zQu),(73,zEg)]=some s->PSound Tryz.prog f s:=zAo (by
  simp only[List.forall_mem_cons]
  exact⟨zDz,zFE,zKe,zUw,zEc,by simp⟩)
 refine zAr tokW Tryz.call54 Tryz.func54 rfl (fun xs r h=>by obtain⟨n,_,_,_,_,_,rfl,_⟩:=h; show 2<=44; decide) 44 rfl ?_;rintro xs r w0 G0 ⟨n,⟨n1A,n1C,n1D,n1B⟩,⟨c2Q,c2Ab⟩,y0,y1,h,rfl,rfl⟩ _;rw[zDx]at h;refine zYf [4] [] rfl ?_;refine zYf [6] [] rfl ?_;obtain⟨⟨⟨y3G,y3Af,y3Ah⟩,y4⟩,hy3,h⟩:=zAc h;refine⟨_,⟨_,_,_,_,_,hy3,rfl,rfl⟩,?_⟩
 refine zAh (Le.giveBox 1 [.sl 1 ((List.map (irow .i64)) y3G),.int .i64 y3Af,.int .i64 y3Ah] rfl rfl) ?_;refine zAa ?_;refine zYV ?_;refine zAg rfl h (fun hb h=>?_) (fun hb h=>?_)
 ·refine zYV ?_;refine zAe ?_;obtain⟨hj1,hk1⟩:=pij h;subst hj1 hk1;exact fin0 rfl rfl
 ·refine zAf ?_;refine zYf [8] [] rfl ?_;obtain⟨⟨⟨y5G,y5L,y5Ak,⟨y5Ao,y5As,y5Ag,y5Al⟩⟩,y6⟩,hy5,h⟩:=zAc h;refine⟨_,⟨_,_,_,_,_,hy5,rfl,rfl⟩,?_⟩
  refine zAh (Le.giveBox 2 [.sl 1 ((List.map (irow .i64)) y5G),.int .i64 y5L,.int .i64 y5Ak,.int .i64 y5Ao,.str y5As,.int .i64 y5Ag,.sl 4 (Nd.encs y5Al)] rfl rfl) ?_;refine zAa ?_;refine zYV ?_;refine zAg rfl h (fun hb h=>?_) (fun hb h=>?_)
  ·refine zYV ?_;refine zAe ?_;obtain⟨hj1,hk1⟩:=pij h;subst hj1 hk1;exact fin0 rfl rfl
  ·refine zAf ?_;refine zYf [10] [] rfl ?_;obtain⟨⟨y7A,y7G,y7L,y7S,y7R,y7V,y7Ac,y7C⟩,hy7,h⟩:=zAc h;refine⟨_,⟨_,_,hy7,rfl,rfl⟩,?_⟩
   refine zAh (Le.giveBox 3 [.int .i64 y7A,.sl 1 ((List.map (irow .i64)) y7G),.int .i64 y7L,.int .i64 y7S,.sl 4 (Nd.encs y7R),.int .i64 y7V,.str y7Ac,.str y7C] rfl rfl) ?_;refine zAa ?_;refine zAA [] [36] [11] rfl (by decide +kernel) ?_;intro r8 hr8
   obtain rfl:(List.map zAk) [(y7A,y7G,y7L,y7S,y7R,y7V,y7Ac,y7C)]=r8:=(hr8.trans zBI).symm;obtain⟨y9,hy9,h⟩:=zAc h;refine⟨_,⟨_,_,_,_,_,hy9,rfl,rfl⟩,?_⟩
   obtain⟨⟨⟨y10W,⟨y10X,y10Y⟩,⟨y10Z,y10Aa⟩⟩,y11⟩,hy10,h⟩:=zAc h;refine⟨_,⟨_,_,_,_,_,_,_,hy10,rfl,rfl⟩,?_⟩
   refine zAe ?_;obtain⟨hj1,hk1⟩:=pij h;subst hj1 hk1;exact fin0 rfl rfl
def zR4 (n:Nat) (xs:List AV) (r:Ret):Prop:=∃ (a0:Nd) (a1:zCu) (y0:zRc) (y1:Int),zD9 n a0 a1=some (y0,y1)/\xs=[.agg ((Nd.enc a0).map .s),.agg ((zAz a1).map .s)]/\r = .val (.tup [.agg ((zAd y0).map .s),.s (.int .i64 y1)])
def zL8:zAq:=zAs fun xs r=>∃ n,zR4 n xs r
theorem zRo:PSound Tryz.prog 55 zL8:=by
 have gok:∀ f s,look? f [(71,zDk),(78,zE6),(74,zIx),(83,zJo),(48,zCO),(84,zD0),(72,zJW),(73,zEg)]=some s->PSound Tryz.prog f s:=zAo (by
  simp only[List.forall_mem_cons]
  exact⟨zDz,zFE,zIk,zLi,zCN,zEF,zKE,zEc,by simp⟩)
 refine zAr tokW Tryz.call55 Tryz.func55 rfl (fun xs r h=>by obtain⟨n,_,_,_,_,_,rfl,_⟩:=h; show 2<=124; decide) 124 rfl ?_;rintro xs r w0 G0 ⟨n,⟨a1A,a1C,a1D,a1B⟩,⟨a2Q,a2Ab⟩,y0,y1,h,rfl,rfl⟩ _;rw[zD9]at h;refine zYf [4] [] rfl ?_;refine zYf [6] [] rfl ?_;obtain⟨⟨⟨y3G,y3Af,y3Ah⟩,y4⟩,hy3,h⟩:=zAc h;refine⟨_,⟨_,_,_,_,_,hy3,rfl,rfl⟩,?_⟩
 refine zAh (Le.giveBox 1 [.sl 1 ((List.map (irow .i64)) y3G),.int .i64 y3Af,.int .i64 y3Ah] rfl rfl) ?_;refine zAa ?_;refine zYV ?_;refine zAg rfl h (fun hb h=>?_) (fun hb h=>?_)
 ·refine zYV ?_;refine zAe ?_;obtain⟨hj1,hk1⟩:=pij h;subst hj1 hk1;exact fin0 rfl rfl
 ·refine zAf ?_;refine zYf [8] [] rfl ?_;obtain⟨⟨⟨y5G,y5L,y5Ak,⟨y5Ao,y5As,y5Ag,y5Al⟩⟩,y6⟩,hy5,h⟩:=zAc h;refine⟨_,⟨_,_,_,_,_,hy5,rfl,rfl⟩,?_⟩
  refine zAh (Le.giveBox 2 [.sl 1 ((List.map (irow .i64)) y5G),.int .i64 y5L,.int .i64 y5Ak,.int .i64 y5Ao,.str y5As,.int .i64 y5Ag,.sl 4 (Nd.encs y5Al)] rfl rfl) ?_;refine zAa ?_;refine zAl ?_;refine zYV ?_;refine zAg rfl h (fun hb h=>?_) (fun hb h=>?_)
  ·refine zYV ?_;refine zAe ?_;obtain⟨hj1,hk1⟩:=pij h;subst hj1 hk1;exact fin0 rfl rfl
  ·refine zAa ?_;obtain⟨x7,hj,h⟩:=zAc h;refine zAm ⟨ofL [(2,.s (.pt [.int .i64 a1A,.str a1C,.int .i64 a1D,.sl 4 (Nd.encs a1B)])),(3,.s (.pt [.sl 1 ((List.map (irow .i64)) a2Q),.sl 1 ((List.map (irow .i64)) a2Ab)])),(4,.op 0 0),(8,.s (.pt [.sl 1 ((List.map (irow .i64)) y5G),.int .i64 y5L,.int .i64 y5Ak,.int .i64 y5Ao,.str y5As,.int .i64 y5Ag,.sl 4 (Nd.encs y5Al)])),(37,.s (.bool x7))],ofH [(0,.box 31 [.nl 8,.nl 1,.nl 1,.nl 1,.nl 1])],1⟩ ?_ (fun σ' hle=>?_)
   ·replace h:=hj;refine zAb [] [43,48] rfl ?_;intro b hb;cases b with
    | true =>
     replace h:=zAu hb.symm h;cases h;exact(Le.rnm [(0,0)] _ _ _ ⟨rfl,rfl,rfl,rfl,rfl,trivial⟩ ⟨rfl,⟨_,rfl,rfl⟩,trivial⟩)
    | false =>
     replace h:=zAt hb.symm h;intro b hb;cases b with
     | true =>
      replace h:=zAu hb.symm h;cases h;exact(Le.rnm [(0,0)] _ _ _ ⟨rfl,rfl,rfl,rfl,rfl,trivial⟩ ⟨rfl,⟨_,rfl,rfl⟩,trivial⟩)
     | false =>
      replace h:=zAt hb.symm h;cases h;exact(Le.rnm [(0,0)] _ _ _ ⟨rfl,rfl,rfl,rfl,rfl,trivial⟩ ⟨rfl,⟨_,rfl,rfl⟩,trivial⟩)
   ·refine zAh hle ?_;refine zAg rfl h (fun hb h=>?_) (fun hb h=>?_)
    ·refine zYV ?_;refine zAe ?_;obtain⟨hj1,hk1⟩:=pij h;subst hj1 hk1;exact fin0 rfl rfl
    ·refine zAf ?_;refine zYf [] [60,62] rfl ?_;intro n8 hn8;obtain rfl:(a2Q.length:Int)=n8:=(hn8.trans (congrArg (fun m:Nat=>(m:Int)) (rlen (fun _=>rfl) a2Q))).symm;obtain⟨e9,he9,h⟩:=zAc h;refine And.intro (zAp (fun _=>rfl) he9).1 ?_;intro r10 hr10;obtain rfl:[.int .i64 e9]=r10:=(hr10.trans (zAp (fun _=>rfl) he9).2.1).symm;refine zAa ?_;refine zCi [11] [70,78,81] [19,20] [] rfl (by decide +kernel) ?_;intro r11 hr11
     obtain rfl:(List.map (irow .i64)) [y5L,y5Ak]=r11:=(hr11.trans zBI).symm;obtain⟨y12,hy12,h⟩:=zAc h;refine⟨_,⟨_,_,_,hy12,rfl,rfl⟩,?_⟩
     obtain⟨⟨e13A,e13C,e13D,e13B⟩,he13,h⟩:=zAc h;refine And.intro (zAp Nd.encs_eq he13).1 ?_;intro r14 hr14;obtain rfl:[.int .i64 e13A,.str e13C,.int .i64 e13D,.sl 4 (Nd.encs e13B)]=r14:=(hr14.trans (zAp Nd.encs_eq he13).2.1).symm;intro n15 hn15;obtain rfl:(e13B.length:Int)=n15:=(hn15.trans (congrArg (fun m:Nat=>(m:Int)) (rlen Nd.encs_eq e13B))).symm;refine zAh (Le.giveBox 1 [.sl 1 ((List.map (irow .i64)) y12),.int .i64 e9,.int .i64 (e13B.length:Int)] rfl rfl) ?_;refine zYV ?_;obtain⟨⟨y16,y17⟩,hy16,h⟩:=zAc h
     refine⟨_,⟨_,_,_,_,_,hy16,rfl,rfl⟩,?_⟩
     refine zAa ?_;refine zCi [14] [] [7,8] [] rfl (by decide +kernel) ?_;obtain⟨⟨y18A,y18C,y18D,y18B⟩,hy18,h⟩:=zAc h;refine⟨_,⟨_,_,hy18,rfl,rfl⟩,?_⟩
     obtain⟨⟨y19A,y19C,y19D,y19B⟩,hy19,h⟩:=zAc h;refine⟨_,⟨_,_,_,_,hy19,rfl,rfl⟩,?_⟩
     refine zAh (Le.giveBox 2 [.int .i64 y19A,.str y19C,.int .i64 y19D,.sl 4 (Nd.encs y19B)] rfl rfl) ?_;refine zAa ?_;refine zAA [98,108] [105,107] [2,12] rfl (by decide +kernel) ?_;obtain⟨y20,hy20,h⟩:=zAc h;refine⟨_,⟨_,_,_,_,hy20,rfl,rfl⟩,?_⟩
     intro r21 hr21;obtain rfl:Nd.encs [Nd.mk y19A y19C y19D y19B]=r21:=(hr21.trans zBI).symm;intro r22 hr22
     obtain rfl:(List.map zAk) [(1,y5G,IntKind.i64.wrap (y5L+1),0,[Nd.mk y19A y19C y19D y19B],0,[],[])]=r22:=(hr22.trans zBI).symm;obtain⟨hq,h⟩:=zAw h
     refine And.intro (show(((List.map zAk) y20).length+((List.map zAk) [(1,y5G,IntKind.i64.wrap (y5L+1),0,[Nd.mk y19A y19C y19D y19B],0,[],[])]).length) * 112<=140737488355328/\((List.map zAk) y20).length+((List.map zAk) [(1,y5G,IntKind.i64.wrap (y5L+1),0,[Nd.mk y19A y19C y19D y19B],0,[],[])]).length<=9223372036854775807 from by simp only[List.length_append,List.length_cons,List.length_nil,List.length_map,rlen (fun _=>rfl)]at hq ⊢; omega) ?_;show Tri ..
     refine zAh (Le.rnm [(0,0),(4,1)] [(2,.s (.pt [.int .i64 a1A,.str a1C,.int .i64 a1D,.sl 4 (Nd.encs a1B)])),(3,.s (.pt [.sl 1 ((List.map (irow .i64)) a2Q),.sl 1 ((List.map (irow .i64)) a2Ab)])),(4,.op 0 0),(8,.s (.pt [.sl 1 ((List.map (irow .i64)) y5G),.int .i64 y5L,.int .i64 y5Ak,.int .i64 y5Ao,.str y5As,.int .i64 y5Ag,.sl 4 (Nd.encs y5Al)])),(15,.orow 1)] [(0,.box 31 [.nl 8,.nl 1,.nl 1,.nl 1,.nl 1]),(1,.row 65 8 ((List.map zAk) (y20++[(1,y5G,IntKind.i64.wrap (y5L+1),0,[Nd.mk y19A y19C y19D y19B],0,[],[])])))] 2 ⟨rfl,rfl,rfl,rfl,rfl,trivial⟩ ⟨rfl,⟨_,rfl,rfl⟩,rfl,⟨_,rfl,congrArg (Ob.row 65 8) zBI⟩,trivial⟩) ?_
     refine zAa ?_;refine zAA [] [119] [12,15] rfl (by decide +kernel) ?_;intro r23 hr23;obtain rfl:(List.map (irow .i64)) [IntKind.i64.wrap (y5L+1),y5Ak,0]=r23:=(hr23.trans zBI).symm;obtain⟨y24,hy24,h⟩:=zAc h;refine⟨_,⟨_,_,_,hy24,rfl,rfl⟩,?_⟩
     obtain⟨⟨⟨y25W,⟨y25X,y25Y⟩,⟨y25Z,y25Aa⟩⟩,y26⟩,hy25,h⟩:=zAc h;refine⟨_,⟨_,_,_,_,_,_,_,hy25,rfl,rfl⟩,?_⟩
     refine zAe ?_;obtain⟨hj1,hk1⟩:=pij h;subst hj1 hk1;exact fin0 rfl rfl
def zU2 (n:Nat) (xs:List AV) (r:Ret):Prop:=∃ (a0:Nd) (a1:zCu) (a2:List UInt8) (y0:zRc) (y1:Int),zHa n a0 a1 a2=some (y0,y1)/\xs=[.agg ((Nd.enc a0).map .s),.agg ((zAz a1).map .s),.s (.str a2)]/\r = .val (.tup [.agg ((zAd y0).map .s),.s (.int .i64 y1)])
def zQx:zAq:=zAs fun xs r=>∃ n,zU2 n xs r
theorem zUz:PSound Tryz.prog 56 zQx:=by
 have gok:∀ f s,look? f [(71,zDk),(85,zKv),(86,zJp),(73,zEg)]=some s->PSound Tryz.prog f s:=zAo (by
  simp only[List.forall_mem_cons]
  exact⟨zDz,zMF,zLj,zEc,by simp⟩)
 refine zAr tokW Tryz.call56 Tryz.func56 rfl (fun xs r h=>by obtain⟨n,_,_,_,_,_,_,rfl,_⟩:=h; show 3<=86; decide) 86 rfl ?_;rintro xs r w0 G0 ⟨n,⟨a1A,a1C,a1D,a1B⟩,⟨a2Q,a2Ab⟩,a3,y0,y1,h,rfl,rfl⟩ _;rw[zHa]at h;refine zYf [6] [] rfl ?_;refine zYf [8] [] rfl ?_;obtain⟨⟨⟨y4G,y4Af,y4Ah⟩,y5⟩,hy4,h⟩:=zAc h;refine⟨_,⟨_,_,_,_,_,hy4,rfl,rfl⟩,?_⟩
 refine zAh (Le.giveBox 1 [.sl 1 ((List.map (irow .i64)) y4G),.int .i64 y4Af,.int .i64 y4Ah] rfl rfl) ?_;refine zAa ?_;refine zYV ?_;refine zAg rfl h (fun hb h=>?_) (fun hb h=>?_)
 ·refine zYV ?_;refine zAe ?_;obtain⟨hj1,hk1⟩:=pij h;subst hj1 hk1;exact fin0 rfl rfl
 ·refine zAf ?_;refine zAa ?_;refine zAA [] [30,32,37,39] [] rfl (by decide +kernel) ?_;intro n6 hn6;obtain rfl:(a2Q.length:Int)=n6:=(hn6.trans (congrArg (fun m:Nat=>(m:Int)) (rlen (fun _=>rfl) a2Q))).symm;obtain⟨hq,h⟩:=zAw h;refine And.intro ⟨hq.1,hq.2.1,Int.le_trans hq.2.2 (Int.ofNat_le.2 (Nat.le_of_eq (rlen (fun _=>rfl) _).symm))⟩ ?_;intro r7 hr7;obtain rfl:(List.map (irow .i64)) ((a2Q.take (IntKind.i64.wrap ((a2Q.length:Int) - 1)).toNat).drop (0:Int).toNat)=r7:=(hr7.trans (rcut (fun _=>rfl) _ _ _)).symm;intro n8 hn8
  obtain rfl:(a2Q.length:Int)=n8:=(hn8.trans (congrArg (fun m:Nat=>(m:Int)) (rlen (fun _=>rfl) a2Q))).symm;obtain⟨e9,he9,h⟩:=zAc h;refine And.intro (zAp (fun _=>rfl) he9).1 ?_;intro r10 hr10;obtain rfl:[.int .i64 e9]=r10:=(hr10.trans (zAp (fun _=>rfl) he9).2.1).symm;refine zAa ?_;refine zYV ?_;refine zAg rfl h (fun hb h=>?_) (fun hb h=>?_)
  ·refine zYV ?_;refine zAe ?_;obtain⟨hj1,hk1⟩:=pij h;subst hj1 hk1;exact fin0 rfl rfl
  ·refine zAf ?_;refine zYf [12] [] rfl ?_;obtain⟨⟨⟨y11A,y11C,y11D,y11B⟩,y12⟩,hy11,h⟩:=zAc h;refine⟨_,⟨_,_,_,_,_,_,hy11,rfl,rfl⟩,?_⟩
   refine zAh (Le.giveBox 2 [.int .i64 y11A,.str y11C,.int .i64 y11D,.sl 4 (Nd.encs y11B)] rfl rfl) ?_;refine zYf [14] [] rfl ?_;refine zAh (Le.giveBox 3 [.int .i64 5,.sl 1 ((List.map (irow .i64)) ((a2Q.take (IntKind.i64.wrap ((a2Q.length:Int) - 1)).toNat).drop (0:Int).toNat)),.int .i64 (IntKind.i64.wrap (e9 - 1)),.int .i64 0,.sl 4 (Nd.encs []),.int .i64 0,.str y11C,.str a3] rfl rfl) ?_;refine zYV ?_;obtain⟨⟨⟨y13A,y13C,y13D,y13B⟩,y14⟩,hy13,h⟩:=zAc h;refine⟨_,⟨_,_,_,_,_,hy13,rfl,rfl⟩,?_⟩
   refine zAa ?_;refine zAa ?_;obtain⟨x15,hj,h⟩:=zAc h;refine zAm ⟨ofL [(3,.s (.pt [.int .i64 a1A,.str a1C,.int .i64 a1D,.sl 4 (Nd.encs a1B)])),(4,.s (.pt [.sl 1 ((List.map (irow .i64)) a2Q),.sl 1 ((List.map (irow .i64)) a2Ab)])),(6,.op 0 0),(14,.s (.pt [.int .i64 5,.sl 1 ((List.map (irow .i64)) ((a2Q.take (IntKind.i64.wrap ((a2Q.length:Int) - 1)).toNat).drop (0:Int).toNat)),.int .i64 (IntKind.i64.wrap (e9 - 1)),.int .i64 0,.sl 4 (Nd.encs []),.int .i64 0,.str y11C,.str a3])),(70,.s (.bool x15))],ofH [(0,.box 31 [.nl 8,.nl 1,.nl 1,.nl 1,.nl 1])],1⟩ ?_ (fun σ' hle=>?_)
   ·replace h:=hj;refine zAb [] [67] rfl ?_;intro b hb;cases b with
    | true =>
     replace h:=zAu hb.symm h;cases h;exact(Le.rnm [(0,0)] _ _ _ ⟨rfl,rfl,rfl,rfl,rfl,trivial⟩ ⟨rfl,⟨_,rfl,rfl⟩,trivial⟩)
    | false =>
     replace h:=zAt hb.symm h;cases h;exact(Le.rnm [(0,0)] _ _ _ ⟨rfl,rfl,rfl,rfl,rfl,trivial⟩ ⟨rfl,⟨_,rfl,rfl⟩,trivial⟩)
   ·refine zAh hle ?_;refine zAg rfl h (fun hb h=>?_) (fun hb h=>?_)
    ·refine zYV ?_;refine zAe ?_;obtain⟨hj1,hk1⟩:=pij h;subst hj1 hk1;exact fin0 rfl rfl
    ·refine zAf ?_;refine zYf [15] [76] rfl ?_;intro r16 hr16
     obtain rfl:(List.map zAk) [(5,(a2Q.take (IntKind.i64.wrap ((a2Q.length:Int) - 1)).toNat).drop (0:Int).toNat,IntKind.i64.wrap (e9 - 1),0,[],0,y11C,a3)]=r16:=(hr16.trans zBI).symm
     obtain⟨⟨⟨y17W,⟨y17X,y17Y⟩,⟨y17Z,y17Aa⟩⟩,y18⟩,hy17,h⟩:=zAc h;refine⟨_,⟨_,_,_,_,_,_,_,hy17,rfl,rfl⟩,?_⟩
     refine zAa ?_;refine zYV ?_;show Tri ..;obtain⟨⟨x19,x20⟩,hj,h⟩:=zAc h;refine zAm ⟨ofL [(6,.op 0 0),(9,.s (.int .i64 y18)),(15,.op 1 0)],ofH [(0,.box 31 [.nl 8,.nl 1,.nl 1,.nl 1,.nl 1]),(1,.box 31 [.s (.sl 8 ((List.map zAk) y17W)),.s (.sl 1 ((List.map (irow .i64)) y17X)),.s (.sl 1 ((List.map (irow .i64)) y17Y)),.s (.sl 1 ((List.map (irow .i64)) x19)),.s (.sl 1 ((List.map (irow .i64)) x20))])],2⟩ ?_ (fun σ' hle=>?_)
     ·replace h:=hj;refine zAg rfl h (fun hb h=>?_) (fun hb h=>?_)
      ·refine zYU ?_;cases h;exact(Le.rnm [(0,0),(1,1)] _ _ _ ⟨rfl,rfl,rfl,trivial⟩ ⟨rfl,⟨_,rfl,rfl⟩,rfl,⟨_,rfl,rfl⟩,trivial⟩)
      ·refine zAf ?_;cases h;exact(Le.rnm [(0,0),(1,1)] _ _ _ ⟨rfl,rfl,rfl,trivial⟩ ⟨rfl,⟨_,rfl,rfl⟩,rfl,⟨_,rfl,rfl⟩,trivial⟩)
     ·refine zAh hle ?_;refine zYV ?_;refine zAe ?_;obtain⟨hj1,hk1⟩:=pij h;subst hj1 hk1;exact fin0 rfl rfl
def zTW (n:Nat) (xs:List AV) (r:Ret):Prop:=∃ (a0:Nd) (a1:zCu) (a2:Bool) (y0:zRc) (y1:Int),zEV n a0 a1 a2=some (y0,y1)/\xs=[.agg ((Nd.enc a0).map .s),.agg ((zAz a1).map .s),.s (.bool a2)]/\r = .val (.tup [.agg ((zAd y0).map .s),.s (.int .i64 y1)])
def zNT:zAq:=zAs fun xs r=>∃ n,zTW n xs r
theorem zSB:PSound Tryz.prog 57 zNT:=by
 have gok:∀ f s,look? f [(71,zDk),(78,zE6),(48,zCO),(74,zIx),(73,zEg)]=some s->PSound Tryz.prog f s:=zAo (by
  simp only[List.forall_mem_cons]
  exact⟨zDz,zFE,zCN,zIk,zEc,by simp⟩)
 refine zAr tokW Tryz.call57 Tryz.func57 rfl (fun xs r h=>by obtain⟨n,_,_,_,_,_,_,rfl,_⟩:=h; show 3<=163; decide) 163 rfl ?_;rintro xs r w0 G0 ⟨n,⟨a1A,a1C,a1D,a1B⟩,⟨a2Q,a2Ab⟩,a3,y0,y1,h,rfl,rfl⟩ _;rw[zEV]at h;refine zYf [6] [] rfl ?_;refine zYf [8] [] rfl ?_;obtain⟨⟨⟨y4G,y4Af,y4Ah⟩,y5⟩,hy4,h⟩:=zAc h;refine⟨_,⟨_,_,_,_,_,hy4,rfl,rfl⟩,?_⟩
 refine zAh (Le.giveBox 1 [.sl 1 ((List.map (irow .i64)) y4G),.int .i64 y4Af,.int .i64 y4Ah] rfl rfl) ?_;refine zAa ?_;refine zYV ?_;refine zAg rfl h (fun hb h=>?_) (fun hb h=>?_)
 ·refine zYV ?_;refine zAe ?_;obtain⟨hj1,hk1⟩:=pij h;subst hj1 hk1;exact fin0 rfl rfl
 ·refine zAf ?_;refine zYf [10] [] rfl ?_;obtain⟨⟨⟨y6G,y6L,y6Ak,⟨y6Ao,y6As,y6Ag,y6Al⟩⟩,y7⟩,hy6,h⟩:=zAc h;refine⟨_,⟨_,_,_,_,_,hy6,rfl,rfl⟩,?_⟩
  refine zAh (Le.giveBox 2 [.sl 1 ((List.map (irow .i64)) y6G),.int .i64 y6L,.int .i64 y6Ak,.int .i64 y6Ao,.str y6As,.int .i64 y6Ag,.sl 4 (Nd.encs y6Al)] rfl rfl) ?_;refine zAa ?_;refine zAl ?_;refine zYV ?_;refine zAg rfl h (fun hb h=>?_) (fun hb h=>?_)
  ·refine zYV ?_;refine zAe ?_;obtain⟨hj1,hk1⟩:=pij h;subst hj1 hk1;exact fin0 rfl rfl
  ·refine zYV ?_;refine zAg rfl h (fun hb h=>?_) (fun hb h=>?_)
   ·refine zYV ?_;refine zAe ?_;obtain⟨hj1,hk1⟩:=pij h;subst hj1 hk1;exact fin0 rfl rfl
   ·refine zAf ?_;refine zYV ?_;refine zYf [13] [] rfl ?_;refine zAa ?_;refine zYV ?_;show Tri ..;obtain⟨x8,hj,h⟩:=zAc h
    refine zAm ⟨ofL [(2,.s (.bool a3)),(3,.s (.pt [.int .i64 a1A,.str a1C,.int .i64 a1D,.sl 4 (Nd.encs a1B)])),(4,.s (.pt [.sl 1 ((List.map (irow .i64)) a2Q),.sl 1 ((List.map (irow .i64)) a2Ab)])),(6,.op 0 0),(10,.s (.pt [.sl 1 ((List.map (irow .i64)) y6G),.int .i64 y6L,.int .i64 y6Ak,.int .i64 y6Ao,.str y6As,.int .i64 y6Ag,.sl 4 (Nd.encs y6Al)])),(12,.s (.int .i64 y6Ag)),(13,.op 1 0)],ofH [(0,.box 31 [.nl 8,.nl 1,.nl 1,.nl 1,.nl 1]),(1,.box 24 [.s (.int .i64 12),.s (.str []),.s (.int .i64 x8),.nl 4])],2⟩ ?_ (fun σ' hle=>?_)
    ·replace h:=hj;refine zAg rfl h (fun hb h=>?_) (fun hb h=>?_)
     ·refine zYU ?_;cases h;exact(Le.rnm [(0,0),(3,1)] _ _ _ ⟨rfl,rfl,rfl,rfl,rfl,rfl,rfl,trivial⟩ ⟨rfl,⟨_,rfl,rfl⟩,rfl,⟨_,rfl,rfl⟩,trivial⟩)
     ·refine zAf ?_;cases h;exact(Le.rnm [(0,0),(3,1)] _ _ _ ⟨rfl,rfl,rfl,rfl,rfl,rfl,rfl,trivial⟩ ⟨rfl,⟨_,rfl,rfl⟩,rfl,⟨_,rfl,rfl⟩,trivial⟩)
    ·refine zAh hle ?_;refine zYV ?_;refine zAa ?_;refine zYV ?_;show Tri ..;obtain⟨⟨x18,l19⟩,hl,h⟩:=zAc h
     refine zAm ⟨ofL [(3,.s (.pt [.int .i64 a1A,.str a1C,.int .i64 a1D,.sl 4 (Nd.encs a1B)])),(4,.s (.pt [.sl 1 ((List.map (irow .i64)) a2Q),.sl 1 ((List.map (irow .i64)) a2Ab)])),(6,.op 0 0),(10,.s (.pt [.sl 1 ((List.map (irow .i64)) y6G),.int .i64 y6L,.int .i64 y6Ak,.int .i64 y6Ao,.str y6As,.int .i64 y6Ag,.sl 4 (Nd.encs y6Al)])),(13,.op 1 0),(14,.s (.int .i64 x18))],ofH [(0,.box 31 [.nl 8,.nl 1,.nl 1,.nl 1,.nl 1]),(1,.box 24 [.s (.int .i64 12),.s (.str []),.s (.int .i64 x8),.orow 2]),(2,.row 24 4 (Nd.encs l19))],3⟩ ?_ (fun σ' hle=>?_)
     ·refine zAl (zAy (X:=Nat×Int×Int×(List Nd)) (fun y=>match y with | (k,x15,x16,l17)=>⟨ofL [(2,.s (.bool a3)),(3,.s (.pt [.int .i64 a1A,.str a1C,.int .i64 a1D,.sl 4 (Nd.encs a1B)])),(4,.s (.pt [.sl 1 ((List.map (irow .i64)) a2Q),.sl 1 ((List.map (irow .i64)) a2Ab)])),(6,.op 0 0),(10,.s (.pt [.sl 1 ((List.map (irow .i64)) y6G),.int .i64 y6L,.int .i64 y6Ak,.int .i64 y6Ao,.str y6As,.int .i64 y6Ag,.sl 4 (Nd.encs y6Al)])),(12,.s (.int .i64 y6Ag)),(13,.op 1 0),(14,.s (.int .i64 x15)),(15,.s (.int .i64 x16))],ofH [(0,.box 31 [.nl 8,.nl 1,.nl 1,.nl 1,.nl 1]),(1,.box 24 [.s (.int .i64 12),.s (.str []),.s (.int .i64 x8),.orow 2]),(2,.row 24 4 (Nd.encs l17))],3⟩) (fun y=>zCY n a3 y6Ak y6Ag y6Al y.1 y.2.1 y.2.2.1 y.2.2.2=some (x18,l19)) (fun y=>y.1) (n,0,0,[]) hl ?_ ?_)
      ·exact(Le.trans (Le.trans (Le.rnm [(0,0),(1,1)] [(2,.s (.bool a3)),(3,.s (.pt [.int .i64 a1A,.str a1C,.int .i64 a1D,.sl 4 (Nd.encs a1B)])),(4,.s (.pt [.sl 1 ((List.map (irow .i64)) a2Q),.sl 1 ((List.map (irow .i64)) a2Ab)])),(6,.op 0 0),(10,.s (.pt [.sl 1 ((List.map (irow .i64)) y6G),.int .i64 y6L,.int .i64 y6Ak,.int .i64 y6Ao,.str y6As,.int .i64 y6Ag,.sl 4 (Nd.encs y6Al)])),(12,.s (.int .i64 y6Ag)),(13,.op 1 0),(14,.s (.int .i64 0)),(15,.s (.int .i64 0))] [(0,.box 31 [.nl 8,.nl 1,.nl 1,.nl 1,.nl 1]),(1,.box 24 [.s (.int .i64 12),.s (.str []),.s (.int .i64 x8),.nl 4])] 2 ⟨rfl,rfl,rfl,rfl,rfl,rfl,rfl,rfl,rfl,trivial⟩ ⟨rfl,⟨_,rfl,rfl⟩,rfl,⟨_,rfl,rfl⟩,trivial⟩) (Le.takeNil 1 3 24 rfl rfl (by decide))) (Le.rnm [(0,0),(1,1),(2,2)] _ _ _ ⟨rfl,rfl,rfl,rfl,rfl,rfl,rfl,rfl,rfl,trivial⟩ ⟨rfl,⟨_,rfl,rfl⟩,rfl,⟨_,rfl,rfl⟩,rfl,⟨_,rfl,congrArg (Ob.row 24 4) zBI⟩,trivial⟩))
      ·rintro⟨k,x15,x16,l17⟩ h;cases k with
       | zero=>cases h
       | succ k =>
        replace h:zCY n a3 y6Ak y6Ag y6Al (k+1) x15 x16 l17=some (x18,l19):=h;rw[zCY]at h;refine zAa ?_;refine zYf [] [59] rfl ?_;intro n20 hn20;obtain rfl:(y6Al.length:Int)=n20:=(hn20.trans (congrArg (fun m:Nat=>(m:Int)) (rlen Nd.encs_eq y6Al))).symm;refine zAg rfl h (fun hb h=>?_) (fun hb h=>?_)
        ·refine zAf ?_;refine zAa ?_;obtain⟨⟨x21,l22⟩,hj,h⟩:=zAc h
         refine zAm ⟨ofL [(2,.s (.bool a3)),(3,.s (.pt [.int .i64 a1A,.str a1C,.int .i64 a1D,.sl 4 (Nd.encs a1B)])),(4,.s (.pt [.sl 1 ((List.map (irow .i64)) a2Q),.sl 1 ((List.map (irow .i64)) a2Ab)])),(6,.op 0 0),(10,.s (.pt [.sl 1 ((List.map (irow .i64)) y6G),.int .i64 y6L,.int .i64 y6Ak,.int .i64 y6Ao,.str y6As,.int .i64 y6Ag,.sl 4 (Nd.encs y6Al)])),(12,.s (.int .i64 y6Ag)),(13,.op 1 0),(14,.s (.int .i64 x21)),(15,.s (.int .i64 x16))],ofH [(0,.box 31 [.nl 8,.nl 1,.nl 1,.nl 1,.nl 1]),(1,.box 24 [.s (.int .i64 12),.s (.str []),.s (.int .i64 x8),.orow 2]),(2,.row 24 4 (Nd.encs l22))],3⟩ ?_ (fun σ' hle=>?_)
         ·replace h:=hj;refine zAl ?_;refine zAa ?_;refine zYV ?_;show Tri ..;obtain⟨x23,hj,h⟩:=zAc h
          refine zAm ⟨ofL [(2,.s (.bool a3)),(3,.s (.pt [.int .i64 a1A,.str a1C,.int .i64 a1D,.sl 4 (Nd.encs a1B)])),(4,.s (.pt [.sl 1 ((List.map (irow .i64)) a2Q),.sl 1 ((List.map (irow .i64)) a2Ab)])),(6,.op 0 0),(10,.s (.pt [.sl 1 ((List.map (irow .i64)) y6G),.int .i64 y6L,.int .i64 y6Ak,.int .i64 y6Ao,.str y6As,.int .i64 y6Ag,.sl 4 (Nd.encs y6Al)])),(12,.s (.int .i64 y6Ag)),(13,.op 1 0),(14,.s (.int .i64 x23)),(15,.s (.int .i64 x16))],ofH [(0,.box 31 [.nl 8,.nl 1,.nl 1,.nl 1,.nl 1]),(1,.box 24 [.s (.int .i64 12),.s (.str []),.s (.int .i64 x8),.orow 2]),(2,.row 24 4 (Nd.encs l17))],3⟩ ?_ (fun σ' hle=>?_)
          ·replace h:=hj;refine zAg rfl h (fun hb h=>?_) (fun hb h=>?_)
           ·refine zAb [] [69] rfl ?_;intro n24 hn24;obtain rfl:(l17.length:Int)=n24:=(hn24.trans (congrArg (fun m:Nat=>(m:Int)) (rlen Nd.encs_eq l17))).symm;cases h;exact(Le.rnm [(0,0),(1,1),(2,2)] _ _ _ ⟨rfl,rfl,rfl,rfl,rfl,rfl,rfl,rfl,rfl,trivial⟩ ⟨rfl,⟨_,rfl,rfl⟩,rfl,⟨_,rfl,rfl⟩,rfl,⟨_,rfl,rfl⟩,trivial⟩)
           ·refine zAf ?_;cases h;exact(Le.rnm [(0,0),(1,1),(2,2)] _ _ _ ⟨rfl,rfl,rfl,rfl,rfl,rfl,rfl,rfl,rfl,trivial⟩ ⟨rfl,⟨_,rfl,rfl⟩,rfl,⟨_,rfl,rfl⟩,rfl,⟨_,rfl,rfl⟩,trivial⟩)
          ·refine zAh hle ?_;refine zAa ?_;refine zAA [79] [76,78] [1,9,11] rfl (by decide +kernel) ?_;obtain⟨⟨e25A,e25C,e25D,e25B⟩,he25,h⟩:=zAc h;refine And.intro (zAp Nd.encs_eq he25).1 ?_;intro r26 hr26;obtain rfl:[.int .i64 e25A,.str e25C,.int .i64 e25D,.sl 4 (Nd.encs e25B)]=r26:=(hr26.trans (zAp Nd.encs_eq he25).2.1).symm;intro r27 hr27
           obtain rfl:Nd.encs [Nd.mk e25A e25C e25D e25B]=r27:=(hr27.trans zBI).symm;obtain⟨hq,h⟩:=zAw h
           refine And.intro (show((Nd.encs l17).length+(Nd.encs [Nd.mk e25A e25C e25D e25B]).length) * 56<=140737488355328/\(Nd.encs l17).length+(Nd.encs [Nd.mk e25A e25C e25D e25B]).length<=9223372036854775807 from by simp only[List.length_append,List.length_cons,List.length_nil,List.length_map,rlen Nd.encs_eq]at hq ⊢; omega) ?_;show Tri ..
           refine zAh (Le.rnm [(0,0),(1,1),(3,2)] [(2,.s (.bool a3)),(3,.s (.pt [.int .i64 a1A,.str a1C,.int .i64 a1D,.sl 4 (Nd.encs a1B)])),(4,.s (.pt [.sl 1 ((List.map (irow .i64)) a2Q),.sl 1 ((List.map (irow .i64)) a2Ab)])),(6,.op 0 0),(10,.s (.pt [.sl 1 ((List.map (irow .i64)) y6G),.int .i64 y6L,.int .i64 y6Ak,.int .i64 y6Ao,.str y6As,.int .i64 y6Ag,.sl 4 (Nd.encs y6Al)])),(12,.s (.int .i64 y6Ag)),(13,.op 1 0),(14,.s (.int .i64 x23)),(15,.s (.int .i64 x16))] [(0,.box 31 [.nl 8,.nl 1,.nl 1,.nl 1,.nl 1]),(1,.box 24 [.s (.int .i64 12),.s (.str []),.s (.int .i64 x8),.orow 2]),(2,.row 24 4 (Nd.encs (l17++[Nd.mk e25A e25C e25D e25B])))] 3 ⟨rfl,rfl,rfl,rfl,rfl,rfl,rfl,rfl,rfl,trivial⟩ ⟨rfl,⟨_,rfl,rfl⟩,rfl,⟨_,rfl,rfl⟩,rfl,⟨_,rfl,congrArg (Ob.row 24 4) zBI⟩,trivial⟩) ?_
           refine zAa ?_;refine zAa ?_;obtain⟨x28,hj,h⟩:=zAc h
           refine zAm ⟨ofL [(2,.s (.bool a3)),(3,.s (.pt [.int .i64 a1A,.str a1C,.int .i64 a1D,.sl 4 (Nd.encs a1B)])),(4,.s (.pt [.sl 1 ((List.map (irow .i64)) a2Q),.sl 1 ((List.map (irow .i64)) a2Ab)])),(6,.op 0 0),(10,.s (.pt [.sl 1 ((List.map (irow .i64)) y6G),.int .i64 y6L,.int .i64 y6Ak,.int .i64 y6Ao,.str y6As,.int .i64 y6Ag,.sl 4 (Nd.encs y6Al)])),(12,.s (.int .i64 y6Ag)),(13,.op 1 0),(14,.s (.int .i64 x23)),(15,.s (.int .i64 x16)),(91,.s (.bool x28))],ofH [(0,.box 31 [.nl 8,.nl 1,.nl 1,.nl 1,.nl 1]),(1,.box 24 [.s (.int .i64 12),.s (.str []),.s (.int .i64 x8),.orow 2]),(2,.row 24 4 (Nd.encs (l17++[Nd.mk e25A e25C e25D e25B])))],3⟩ ?_ (fun σ' hle=>?_)
           ·replace h:=hj;refine zAA [] [82] [] rfl (by decide +kernel) ?_;intro b hb;cases b with
            | true =>
             replace h:=zAu hb.symm h;obtain⟨hq,h⟩:=zAw h;refine And.intro hq ?_;obtain⟨hq,h⟩:=zAw h;refine And.intro hq ?_;cases h;exact(Le.rnm [(0,0),(1,1),(2,2)] _ _ _ ⟨rfl,rfl,rfl,rfl,rfl,rfl,rfl,rfl,rfl,rfl,trivial⟩ ⟨rfl,⟨_,rfl,rfl⟩,rfl,⟨_,rfl,rfl⟩,rfl,⟨_,rfl,rfl⟩,trivial⟩)
            | false =>
             replace h:=zAt hb.symm h;cases h;exact(Le.rnm [(0,0),(1,1),(2,2)] _ _ _ ⟨rfl,rfl,rfl,rfl,rfl,rfl,rfl,rfl,rfl,rfl,trivial⟩ ⟨rfl,⟨_,rfl,rfl⟩,rfl,⟨_,rfl,rfl⟩,rfl,⟨_,rfl,rfl⟩,trivial⟩)
           ·refine zAh hle ?_;obtain⟨l29,hj,h⟩:=zAc h
            refine zAm ⟨ofL [(2,.s (.bool a3)),(3,.s (.pt [.int .i64 a1A,.str a1C,.int .i64 a1D,.sl 4 (Nd.encs a1B)])),(4,.s (.pt [.sl 1 ((List.map (irow .i64)) a2Q),.sl 1 ((List.map (irow .i64)) a2Ab)])),(6,.op 0 0),(10,.s (.pt [.sl 1 ((List.map (irow .i64)) y6G),.int .i64 y6L,.int .i64 y6Ak,.int .i64 y6Ao,.str y6As,.int .i64 y6Ag,.sl 4 (Nd.encs y6Al)])),(12,.s (.int .i64 y6Ag)),(13,.op 1 0),(14,.s (.int .i64 x23)),(15,.s (.int .i64 x16))],ofH [(0,.box 31 [.nl 8,.nl 1,.nl 1,.nl 1,.nl 1]),(1,.box 24 [.s (.int .i64 12),.s (.str []),.s (.int .i64 x8),.orow 2]),(2,.row 24 4 (Nd.encs l29))],3⟩ ?_ (fun σ' hle=>?_)
            ·replace h:=hj;refine zAg rfl h (fun hb h=>?_) (fun hb h=>?_)
             ·refine zAA [96] [95] [1,4,6] rfl (by decide +kernel) ?_;obtain⟨⟨y30A,y30C,y30D,y30B⟩,hy30,h⟩:=zAc h;refine⟨_,⟨_,_,hy30,rfl,rfl⟩,?_⟩
              intro r31 hr31;obtain rfl:Nd.encs [Nd.mk y30A y30C y30D y30B]=r31:=(hr31.trans zBI).symm;obtain⟨hq,h⟩:=zAw h
              refine And.intro (show((Nd.encs (l17++[Nd.mk e25A e25C e25D e25B])).length+(Nd.encs [Nd.mk y30A y30C y30D y30B]).length) * 56<=140737488355328/\(Nd.encs (l17++[Nd.mk e25A e25C e25D e25B])).length+(Nd.encs [Nd.mk y30A y30C y30D y30B]).length<=9223372036854775807 from by simp only[List.length_append,List.length_cons,List.length_nil,List.length_map,rlen Nd.encs_eq]at hq ⊢; omega) ?_;cases h
              exact(Le.trans (Le.rnm [(0,0),(1,1),(3,2)] [(2,.s (.bool a3)),(3,.s (.pt [.int .i64 a1A,.str a1C,.int .i64 a1D,.sl 4 (Nd.encs a1B)])),(4,.s (.pt [.sl 1 ((List.map (irow .i64)) a2Q),.sl 1 ((List.map (irow .i64)) a2Ab)])),(6,.op 0 0),(10,.s (.pt [.sl 1 ((List.map (irow .i64)) y6G),.int .i64 y6L,.int .i64 y6Ak,.int .i64 y6Ao,.str y6As,.int .i64 y6Ag,.sl 4 (Nd.encs y6Al)])),(12,.s (.int .i64 y6Ag)),(13,.op 1 0),(14,.s (.int .i64 x23)),(15,.s (.int .i64 x16))] [(0,.box 31 [.nl 8,.nl 1,.nl 1,.nl 1,.nl 1]),(1,.box 24 [.s (.int .i64 12),.s (.str []),.s (.int .i64 x8),.orow 2]),(2,.row 24 4 (Nd.encs ((l17++[Nd.mk e25A e25C e25D e25B])++[Nd.mk y30A y30C y30D y30B])))] 3 ⟨rfl,rfl,rfl,rfl,rfl,rfl,rfl,rfl,rfl,trivial⟩ ⟨rfl,⟨_,rfl,rfl⟩,rfl,⟨_,rfl,rfl⟩,rfl,⟨_,rfl,congrArg (Ob.row 24 4) zBI⟩,trivial⟩) (Le.rnm [(0,0),(1,1),(2,2)] _ _ _ ⟨rfl,rfl,rfl,rfl,rfl,rfl,rfl,rfl,rfl,trivial⟩ ⟨rfl,⟨_,rfl,rfl⟩,rfl,⟨_,rfl,rfl⟩,rfl,⟨_,rfl,rfl⟩,trivial⟩))
             ·refine zAf ?_;cases h;exact(Le.rnm [(0,0),(1,1),(2,2)] _ _ _ ⟨rfl,rfl,rfl,rfl,rfl,rfl,rfl,rfl,rfl,trivial⟩ ⟨rfl,⟨_,rfl,rfl⟩,rfl,⟨_,rfl,rfl⟩,rfl,⟨_,rfl,rfl⟩,trivial⟩)
            ·refine zAh hle ?_;refine zYV ?_;show Tri ..;obtain⟨l40,hl,h⟩:=zAc h
             refine zAm ⟨ofL [(2,.s (.bool a3)),(3,.s (.pt [.int .i64 a1A,.str a1C,.int .i64 a1D,.sl 4 (Nd.encs a1B)])),(4,.s (.pt [.sl 1 ((List.map (irow .i64)) a2Q),.sl 1 ((List.map (irow .i64)) a2Ab)])),(6,.op 0 0),(10,.s (.pt [.sl 1 ((List.map (irow .i64)) y6G),.int .i64 y6L,.int .i64 y6Ak,.int .i64 y6Ao,.str y6As,.int .i64 y6Ag,.sl 4 (Nd.encs y6Al)])),(12,.s (.int .i64 y6Ag)),(13,.op 1 0),(14,.s (.int .i64 x23)),(15,.s (.int .i64 x16))],ofH [(0,.box 31 [.nl 8,.nl 1,.nl 1,.nl 1,.nl 1]),(1,.box 24 [.s (.int .i64 12),.s (.str []),.s (.int .i64 x8),.orow 2]),(2,.row 24 4 (Nd.encs l40))],3⟩ ?_ (fun σ' hle=>?_)
             ·refine zAl (zAy (X:=Nat×Int×(List Nd)) (fun y=>match y with | (k,x38,l39)=>⟨ofL [(2,.s (.bool a3)),(3,.s (.pt [.int .i64 a1A,.str a1C,.int .i64 a1D,.sl 4 (Nd.encs a1B)])),(4,.s (.pt [.sl 1 ((List.map (irow .i64)) a2Q),.sl 1 ((List.map (irow .i64)) a2Ab)])),(6,.op 0 0),(10,.s (.pt [.sl 1 ((List.map (irow .i64)) y6G),.int .i64 y6L,.int .i64 y6Ak,.int .i64 y6Ao,.str y6As,.int .i64 y6Ag,.sl 4 (Nd.encs y6Al)])),(12,.s (.int .i64 y6Ag)),(13,.op 1 0),(14,.s (.int .i64 x23)),(15,.s (.int .i64 x16)),(16,.s (.int .i64 x38))],ofH [(0,.box 31 [.nl 8,.nl 1,.nl 1,.nl 1,.nl 1]),(1,.box 24 [.s (.int .i64 12),.s (.str []),.s (.int .i64 x8),.orow 2]),(2,.row 24 4 (Nd.encs l39))],3⟩) (fun y=>zCs a3 y6Ak y6Ag x16 y.1 y.2.1 y.2.2=some l40) (fun y=>y.1) (n,0,l29) hl ?_ ?_)
              ·exact(Le.rnm [(0,0),(1,1),(2,2)] _ _ _ ⟨rfl,rfl,rfl,rfl,rfl,rfl,rfl,rfl,rfl,rfl,trivial⟩ ⟨rfl,⟨_,rfl,rfl⟩,rfl,⟨_,rfl,rfl⟩,rfl,⟨_,rfl,rfl⟩,trivial⟩)
              ·rintro⟨k,x38,l39⟩ h;cases k with
               | zero=>cases h
               | succ k =>
                replace h:zCs a3 y6Ak y6Ag x16 (k+1) x38 l39=some l40:=h;rw[zCs]at h;refine zAa ?_;refine zAa ?_;obtain⟨x41,hj,h⟩:=zAc h
                refine zAm ⟨ofL [(2,.s (.bool a3)),(3,.s (.pt [.int .i64 a1A,.str a1C,.int .i64 a1D,.sl 4 (Nd.encs a1B)])),(4,.s (.pt [.sl 1 ((List.map (irow .i64)) a2Q),.sl 1 ((List.map (irow .i64)) a2Ab)])),(6,.op 0 0),(10,.s (.pt [.sl 1 ((List.map (irow .i64)) y6G),.int .i64 y6L,.int .i64 y6Ak,.int .i64 y6Ao,.str y6As,.int .i64 y6Ag,.sl 4 (Nd.encs y6Al)])),(12,.s (.int .i64 y6Ag)),(13,.op 1 0),(14,.s (.int .i64 x23)),(15,.s (.int .i64 x16)),(16,.s (.int .i64 x38)),(117,.s (.bool x41))],ofH [(0,.box 31 [.nl 8,.nl 1,.nl 1,.nl 1,.nl 1]),(1,.box 24 [.s (.int .i64 12),.s (.str []),.s (.int .i64 x8),.orow 2]),(2,.row 24 4 (Nd.encs l39))],3⟩ ?_ (fun σ' hle=>?_)
                ·replace h:=hj;refine zAb [] [101,105] rfl ?_;intro b hb;cases b with
                 | true =>
                  replace h:=zAu hb.symm h;intro b hb;cases b with
                  | true =>
                   replace h:=zAu hb.symm h;obtain⟨hq,h⟩:=zAw h;refine And.intro hq ?_;cases h;exact(Le.rnm [(0,0),(1,1),(2,2)] _ _ _ ⟨rfl,rfl,rfl,rfl,rfl,rfl,rfl,rfl,rfl,rfl,rfl,trivial⟩ ⟨rfl,⟨_,rfl,rfl⟩,rfl,⟨_,rfl,rfl⟩,rfl,⟨_,rfl,rfl⟩,trivial⟩)
                  | false =>
                   replace h:=zAt hb.symm h;cases h;exact(Le.rnm [(0,0),(1,1),(2,2)] _ _ _ ⟨rfl,rfl,rfl,rfl,rfl,rfl,rfl,rfl,rfl,rfl,rfl,trivial⟩ ⟨rfl,⟨_,rfl,rfl⟩,rfl,⟨_,rfl,rfl⟩,rfl,⟨_,rfl,rfl⟩,trivial⟩)
                 | false =>
                  replace h:=zAt hb.symm h;intro b hb;subst hb;cases h;exact(Le.rnm [(0,0),(1,1),(2,2)] _ _ _ ⟨rfl,rfl,rfl,rfl,rfl,rfl,rfl,rfl,rfl,rfl,rfl,trivial⟩ ⟨rfl,⟨_,rfl,rfl⟩,rfl,⟨_,rfl,rfl⟩,rfl,⟨_,rfl,rfl⟩,trivial⟩)
                ·refine zAh hle ?_;refine zAg rfl h (fun hb h=>?_) (fun hb h=>?_)
                 ·refine zAf ?_;refine zAa ?_;refine zAl ?_;refine zAA [124] [123] [1,4,6] rfl (by decide +kernel) ?_;obtain⟨⟨y42A,y42C,y42D,y42B⟩,hy42,h⟩:=zAc h;refine⟨_,⟨_,_,hy42,rfl,rfl⟩,?_⟩
                  intro r43 hr43;obtain rfl:Nd.encs [Nd.mk y42A y42C y42D y42B]=r43:=(hr43.trans zBI).symm;obtain⟨hq,h⟩:=zAw h
                  refine And.intro (show((Nd.encs l39).length+(Nd.encs [Nd.mk y42A y42C y42D y42B]).length) * 56<=140737488355328/\(Nd.encs l39).length+(Nd.encs [Nd.mk y42A y42C y42D y42B]).length<=9223372036854775807 from by simp only[List.length_append,List.length_cons,List.length_nil,List.length_map,rlen Nd.encs_eq]at hq ⊢; omega) ?_;show Tri ..
                  refine zAh (Le.rnm [(0,0),(1,1),(3,2)] [(2,.s (.bool a3)),(3,.s (.pt [.int .i64 a1A,.str a1C,.int .i64 a1D,.sl 4 (Nd.encs a1B)])),(4,.s (.pt [.sl 1 ((List.map (irow .i64)) a2Q),.sl 1 ((List.map (irow .i64)) a2Ab)])),(6,.op 0 0),(10,.s (.pt [.sl 1 ((List.map (irow .i64)) y6G),.int .i64 y6L,.int .i64 y6Ak,.int .i64 y6Ao,.str y6As,.int .i64 y6Ag,.sl 4 (Nd.encs y6Al)])),(12,.s (.int .i64 y6Ag)),(13,.op 1 0),(14,.s (.int .i64 x23)),(15,.s (.int .i64 x16)),(16,.s (.int .i64 x38))] [(0,.box 31 [.nl 8,.nl 1,.nl 1,.nl 1,.nl 1]),(1,.box 24 [.s (.int .i64 12),.s (.str []),.s (.int .i64 x8),.orow 2]),(2,.row 24 4 (Nd.encs (l39++[Nd.mk y42A y42C y42D y42B])))] 3 ⟨rfl,rfl,rfl,rfl,rfl,rfl,rfl,rfl,rfl,rfl,trivial⟩ ⟨rfl,⟨_,rfl,rfl⟩,rfl,⟨_,rfl,rfl⟩,rfl,⟨_,rfl,congrArg (Ob.row 24 4) zBI⟩,trivial⟩) ?_
                  refine zYU ?_;refine⟨(k,IntKind.i64.wrap (x38+1),l39++[Nd.mk y42A y42C y42D y42B]),h,(Le.rnm [(0,0),(1,1),(2,2)] _ _ _ ⟨rfl,rfl,rfl,rfl,rfl,rfl,rfl,rfl,rfl,rfl,trivial⟩ ⟨rfl,⟨_,rfl,rfl⟩,rfl,⟨_,rfl,rfl⟩,rfl,⟨_,rfl,rfl⟩,trivial⟩),Nat.lt_succ_self k⟩
                 ·refine zAC ?_;cases h;exact(Le.rnm [(0,0),(1,1),(2,2)] _ _ _ ⟨rfl,rfl,rfl,rfl,rfl,rfl,rfl,rfl,rfl,trivial⟩ ⟨rfl,⟨_,rfl,rfl⟩,rfl,⟨_,rfl,rfl⟩,rfl,⟨_,rfl,rfl⟩,trivial⟩)
             ·cases h;exact(Le.trans hle (Le.rnm [(0,0),(1,1),(2,2)] _ _ _ ⟨rfl,rfl,rfl,rfl,rfl,rfl,rfl,rfl,rfl,trivial⟩ ⟨rfl,⟨_,rfl,rfl⟩,rfl,⟨_,rfl,rfl⟩,rfl,⟨_,rfl,rfl⟩,trivial⟩))
         ·refine zAh hle ?_;refine zYU ?_;refine⟨(k,x21,IntKind.i64.wrap (x16+1),l22),h,(Le.rnm [(0,0),(1,1),(2,2)] _ _ _ ⟨rfl,rfl,rfl,rfl,rfl,rfl,rfl,rfl,rfl,trivial⟩ ⟨rfl,⟨_,rfl,rfl⟩,rfl,⟨_,rfl,rfl⟩,rfl,⟨_,rfl,rfl⟩,trivial⟩),Nat.lt_succ_self k⟩
        ·refine zAC ?_;cases h;exact(Le.rnm [(0,0),(1,1),(2,2)] _ _ _ ⟨rfl,rfl,rfl,rfl,rfl,rfl,trivial⟩ ⟨rfl,⟨_,rfl,rfl⟩,rfl,⟨_,rfl,rfl⟩,rfl,⟨_,rfl,rfl⟩,trivial⟩)
     ·refine zAh hle ?_;refine zAa ?_
      refine zAh (Le.trans (Le.rnm [(0,0),(1,1),(2,2)] [(3,.s (.pt [.int .i64 a1A,.str a1C,.int .i64 a1D,.sl 4 (Nd.encs a1B)])),(4,.s (.pt [.sl 1 ((List.map (irow .i64)) a2Q),.sl 1 ((List.map (irow .i64)) a2Ab)])),(6,.op 0 0),(10,.s (.pt [.sl 1 ((List.map (irow .i64)) y6G),.int .i64 y6L,.int .i64 y6Ak,.int .i64 y6Ao,.str y6As,.int .i64 y6Ag,.sl 4 (Nd.encs y6Al)])),(13,.op 1 0),(14,.s (.int .i64 x18))] [(0,.box 31 [.nl 8,.nl 1,.nl 1,.nl 1,.nl 1]),(1,.box 24 [.s (.int .i64 12),.s (.str []),.s (.int .i64 x8),.orow 2]),(2,.row 24 4 (Nd.encs l19))] 3 ⟨rfl,rfl,rfl,rfl,rfl,rfl,trivial⟩ ⟨rfl,⟨_,rfl,rfl⟩,rfl,⟨_,rfl,rfl⟩,rfl,⟨_,rfl,rfl⟩,trivial⟩) (Le.giveRow 2 rfl)) ?_
      refine zAh (Le.trans (Le.rnm [(0,0),(1,1)] [(3,.s (.pt [.int .i64 a1A,.str a1C,.int .i64 a1D,.sl 4 (Nd.encs a1B)])),(4,.s (.pt [.sl 1 ((List.map (irow .i64)) a2Q),.sl 1 ((List.map (irow .i64)) a2Ab)])),(6,.op 0 0),(10,.s (.pt [.sl 1 ((List.map (irow .i64)) y6G),.int .i64 y6L,.int .i64 y6Ak,.int .i64 y6Ao,.str y6As,.int .i64 y6Ag,.sl 4 (Nd.encs y6Al)])),(13,.op 1 0),(14,.s (.int .i64 x18))] [(0,.box 31 [.nl 8,.nl 1,.nl 1,.nl 1,.nl 1]),(1,.box 24 [.s (.int .i64 12),.s (.str []),.s (.int .i64 x8),.s (.sl 4 (Nd.encs l19))])] 2 ⟨rfl,rfl,rfl,rfl,rfl,rfl,trivial⟩ ⟨rfl,⟨_,rfl,rfl⟩,rfl,⟨_,rfl,rfl⟩,trivial⟩) (Le.giveBox 1 [.int .i64 12,.str [],.int .i64 x8,.sl 4 (Nd.encs l19)] rfl rfl)) ?_
      refine zAb [] [132,139,141] rfl ?_;intro r44 hr44;obtain rfl:Nd.encs [Nd.mk y6Ao y6As y6Ag y6Al]=r44:=(hr44.trans zBI).symm;intro r45 hr45
      obtain rfl:Nd.encs [Nd.mk 12 [] x8 l19]=r45:=(hr45.trans zBI).symm;intro r46 hr46
      obtain rfl:(List.map zAk) [(2,y6G,y6L,0,[Nd.mk y6Ao y6As y6Ag y6Al],0,[],[]),(1,y6G,y6L,0,[Nd.mk 12 [] x8 l19],0,[],[])]=r46:=(hr46.trans zBI).symm;refine zAa ?_
      refine zAA [] [154,156,158] [21] rfl (by decide +kernel) ?_;intro n47 hn47;obtain rfl:(a2Q.length:Int)=n47:=(hn47.trans (congrArg (fun m:Nat=>(m:Int)) (rlen (fun _=>rfl) a2Q))).symm;obtain⟨e48,he48,h⟩:=zAc h;refine And.intro (zAp (fun _=>rfl) he48).1 ?_;intro r49 hr49;obtain rfl:[.int .i64 e48]=r49:=(hr49.trans (zAp (fun _=>rfl) he48).2.1).symm;intro r50 hr50
      obtain rfl:(List.map (irow .i64)) [y6L,x18,e48]=r50:=(hr50.trans zBI).symm;obtain⟨y51,hy51,h⟩:=zAc h;refine⟨_,⟨_,_,_,hy51,rfl,rfl⟩,?_⟩
      obtain⟨⟨⟨y52W,⟨y52X,y52Y⟩,⟨y52Z,y52Aa⟩⟩,y53⟩,hy52,h⟩:=zAc h;refine⟨_,⟨_,_,_,_,_,_,_,hy52,rfl,rfl⟩,?_⟩
      refine zAe ?_;obtain⟨hj1,hk1⟩:=pij h;subst hj1 hk1;exact fin0 rfl rfl
def zU1 (n:Nat) (xs:List AV) (r:Ret):Prop:=∃ (a0:Nd) (a1:zCu) (a2:(Int×List Nd×Int×List UInt8×Bool)) (y0:zRc) (y1:Int),zIe n a0 a1 a2=some (y0,y1)/\xs=[.agg ((Nd.enc a0).map .s),.agg ((zAz a1).map .s),.agg ((zA6 a2).map .s)]/\r = .val (.tup [.agg ((zAd y0).map .s),.s (.int .i64 y1)])
def zQw:zAq:=zAs fun xs r=>∃ n,zU1 n xs r
theorem zUy:PSound Tryz.prog 30 zQw:=by
 have gok:∀ f s,look? f [(50,zK4),(51,zL7),(53,zL9),(52,zNV),(54,zK5),(55,zL8),(56,zQx),(57,zNT)]=some s->PSound Tryz.prog f s:=zAo (by
  simp only[List.forall_mem_cons]
  exact⟨zPC,zRn,zRp,zSD,zPD,zRo,zUz,zSB,by simp⟩)
 refine zAr tokW Tryz.call30 Tryz.func30 rfl (fun xs r h=>by obtain⟨n,_,_,_,_,_,_,rfl,_⟩:=h; show 3<=73; decide) 73 rfl ?_;rintro xs r w0 G0 ⟨n,⟨a1A,a1C,a1D,a1B⟩,⟨a2Q,a2Ab⟩,⟨a3A,a3Ai,a3V,a3C,a3Bh⟩,y0,y1,h,rfl,rfl⟩ _;rw[zIe]at h;refine zYf [6] [] rfl ?_;refine zAa ?_;refine zYV ?_;refine zAl ?_;refine zYV ?_;refine zAg rfl h (fun hb h=>?_) (fun hb h=>?_)
 ·refine zYV ?_;obtain⟨⟨⟨y4W,⟨y4X,y4Y⟩,⟨y4Z,y4Aa⟩⟩,y5⟩,hy4,h⟩:=zAc h;refine⟨_,⟨_,_,_,_,_,_,hy4,rfl,rfl⟩,?_⟩
  refine zAe ?_;obtain⟨hj1,hk1⟩:=pij h;subst hj1 hk1;exact fin0 rfl rfl
 ·refine zYV ?_;refine zAg rfl h (fun hb h=>?_) (fun hb h=>?_)
  ·refine zYV ?_;obtain⟨⟨⟨y6W,⟨y6X,y6Y⟩,⟨y6Z,y6Aa⟩⟩,y7⟩,hy6,h⟩:=zAc h;refine⟨_,⟨_,_,_,_,_,_,hy6,rfl,rfl⟩,?_⟩
   refine zAe ?_;obtain⟨hj1,hk1⟩:=pij h;subst hj1 hk1;exact fin0 rfl rfl
  ·refine zYV ?_;refine zAg rfl h (fun hb h=>?_) (fun hb h=>?_)
   ·refine zAa ?_;refine zAA [] [] [10] rfl (by decide +kernel) ?_;obtain⟨⟨y8A,y8C,y8D,y8B⟩,hy8,h⟩:=zAc h;refine⟨_,⟨_,_,hy8,rfl,rfl⟩,?_⟩
    obtain⟨⟨⟨y9W,⟨y9X,y9Y⟩,⟨y9Z,y9Aa⟩⟩,y10⟩,hy9,h⟩:=zAc h;refine⟨_,⟨_,_,_,_,_,_,_,hy9,rfl,rfl⟩,?_⟩
    refine zAe ?_;obtain⟨hj1,hk1⟩:=pij h;subst hj1 hk1;exact fin0 rfl rfl
   ·refine zYV ?_;refine zAg rfl h (fun hb h=>?_) (fun hb h=>?_)
    ·refine zYV ?_;obtain⟨⟨⟨y11W,⟨y11X,y11Y⟩,⟨y11Z,y11Aa⟩⟩,y12⟩,hy11,h⟩:=zAc h;refine⟨_,⟨_,_,_,_,_,hy11,rfl,rfl⟩,?_⟩
     refine zAe ?_;obtain⟨hj1,hk1⟩:=pij h;subst hj1 hk1;exact fin0 rfl rfl
    ·refine zYV ?_;refine zAg rfl h (fun hb h=>?_) (fun hb h=>?_)
     ·refine zYV ?_;obtain⟨⟨⟨y13W,⟨y13X,y13Y⟩,⟨y13Z,y13Aa⟩⟩,y14⟩,hy13,h⟩:=zAc h;refine⟨_,⟨_,_,_,_,_,hy13,rfl,rfl⟩,?_⟩
      refine zAe ?_;obtain⟨hj1,hk1⟩:=pij h;subst hj1 hk1;exact fin0 rfl rfl
     ·refine zYV ?_;refine zAg rfl h (fun hb h=>?_) (fun hb h=>?_)
      ·refine zYV ?_;obtain⟨⟨⟨y15W,⟨y15X,y15Y⟩,⟨y15Z,y15Aa⟩⟩,y16⟩,hy15,h⟩:=zAc h;refine⟨_,⟨_,_,_,_,_,_,hy15,rfl,rfl⟩,?_⟩
       refine zAe ?_;obtain⟨hj1,hk1⟩:=pij h;subst hj1 hk1;exact fin0 rfl rfl
      ·refine zYV ?_;refine zAg rfl h (fun hb h=>?_) (fun hb h=>?_)
       ·refine zYV ?_;obtain⟨⟨⟨y17W,⟨y17X,y17Y⟩,⟨y17Z,y17Aa⟩⟩,y18⟩,hy17,h⟩:=zAc h;refine⟨_,⟨_,_,_,_,_,_,hy17,rfl,rfl⟩,?_⟩
        refine zAe ?_;obtain⟨hj1,hk1⟩:=pij h;subst hj1 hk1;exact fin0 rfl rfl
       ·refine zAf ?_;refine zYV ?_;refine zAe ?_;obtain⟨hj1,hk1⟩:=pij h;subst hj1 hk1;exact fin0 rfl rfl
def zP4 (n:Nat) (xs:List AV) (r:Ret):Prop:=∃ (a0:Nd) (a1:(Int×zRc×zCu×(Int×List Nd×Int×List UInt8×Bool)×Int)) (y0:zRc),zFe n a0 a1=some y0/\xs=[.agg ((Nd.enc a0).map .s),.agg ((zAn a1).map .s)]/\r = .val (.agg ((zAd y0).map .s))
def zKQ:zAq:=zAs fun xs r=>∃ n,zP4 n xs r
theorem zPo:PSound Tryz.prog 11 zKQ:=by
 have gok:∀ f s,look? f [(30,zQw)]=some s->PSound Tryz.prog f s:=zAo (by
  simp only[List.forall_mem_cons]
  exact⟨zUy,by simp⟩)
 refine zAr tokW Tryz.call11 Tryz.func11 rfl (fun xs r h=>by obtain⟨n,_,_,_,_,rfl,_⟩:=h; show 2<=22; decide) 22 rfl ?_;rintro xs r w0 G0 ⟨n,⟨n1A,n1C,n1D,n1B⟩,⟨s2A,⟨s2Ar,⟨s2Bd,s2Be⟩,⟨s2Bf,s2Bg⟩⟩,⟨s2Aw,s2Ax⟩,⟨s2Ay,s2Az,s2Ba,s2Bb,s2Bc⟩,s2S⟩,y0,h,rfl,rfl⟩ _;rw[zFe]at h;refine zYf [4] [] rfl ?_;refine zAa ?_;refine zYV ?_;refine zAg rfl h (fun hb h=>?_) (fun hb h=>?_)
 ·refine zYf [5] [] rfl ?_;obtain⟨⟨⟨y3W,⟨y3X,y3Y⟩,⟨y3Z,y3Aa⟩⟩,y4⟩,hy3,h⟩:=zAc h;refine⟨_,⟨_,_,_,_,_,_,hy3,rfl,rfl⟩,?_⟩
  refine zAh (Le.giveBox 1 [.sl 8 ((List.map zAk) y3W),.sl 1 ((List.map (irow .i64)) y3X),.sl 1 ((List.map (irow .i64)) y3Y),.sl 1 ((List.map (irow .i64)) y3Z),.sl 1 ((List.map (irow .i64)) y3Aa)] rfl rfl) ?_;refine zYV ?_;refine zAe ?_;have hy:=osi h;subst hy;exact fin0 rfl rfl
 ·refine zAf ?_;refine zYV ?_;refine zAe ?_;have hy:=osi h;subst hy;exact fin0 rfl rfl
def zHF (n:Nat) (xs:List AV) (os:List Ob) (x:AV) (os':List (Option Ob)):Prop:=∃ (a0H:Int) (a0I:List UInt8) (a0J:Int) (a0K:List Nd) (a0M:Int) (a0N:List UInt8) (a0O:Int) (a0P:List Nd) (a0E:List zRc) (a0F:Int) (y0:zCu) (y1:Int) (z0H:Int) (z0I:List UInt8) (z0J:Int) (z0K:List Nd) (z0M:Int) (z0N:List UInt8) (z0O:Int) (z0P:List Nd) (z0E:List zRc) (z0F:Int),zAM n (Nd.mk a0H a0I a0J a0K,Nd.mk a0M a0N a0O a0P,a0E,a0F)=some (y0,y1,(Nd.mk z0H z0I z0J z0K,Nd.mk z0M z0N z0O z0P,z0E,z0F))/\xs=[.op 0 0]/\os=[.box 71 [.s (.int .i64 a0H),.s (.str a0I),.s (.int .i64 a0J),.s (.sl 4 (Nd.encs a0K)),.s (.int .i64 a0M),.s (.str a0N),.s (.int .i64 a0O),.s (.sl 4 (Nd.encs a0P)),.orow 1,.s (.int .i64 a0F)],.row 31 5 ((List.map zAd) a0E)]/\x = .tup [.agg ((zAz y0).map .s),.s (.int .i64 y1)]/\os'=[some (.box 71 [.s (.int .i64 z0H),.s (.str z0I),.s (.int .i64 z0J),.s (.sl 4 (Nd.encs z0K)),.s (.int .i64 z0M),.s (.str z0N),.s (.int .i64 z0O),.s (.sl 4 (Nd.encs z0P)),.orow 2,.s (.int .i64 z0F)]),none,some (.row 31 5 ((List.map zAd) z0E))]
def zDb:zAq:=zD5 (fun xs os x os'=>∃ n,zHF n xs os x os')
theorem zED:PSound Tryz.prog 16 zDb:=by
 have gok:∀ f s,look? f [(31,zEu),(35,zFA)]=some s->PSound Tryz.prog f s:=zAo (by
  simp only[List.forall_mem_cons]
  exact⟨zFt,zGO,by simp⟩)
 refine PSound.withNil (zGB tokW Tryz.call16 Tryz.func16 rfl (fun xs os x os' h=>by obtain⟨n,_,_,_,_,_,_,_,_,_,_,_,_,_,_,_,_,_,_,_,_,_,_,_,rfl,rfl,_,rfl⟩:=h; exact⟨by show 1<=62; decide,by show 2<=3; decide⟩) 62 rfl ?_) _;rintro xs os x os' w0 G0 B0 ⟨n,o1H,o1I,o1J,o1K,o1M,o1N,o1O,o1P,o1E,o1F,y0,y1,z0H,z0I,z0J,z0K,z0M,z0N,z0O,z0P,z0E,z0F,h,rfl,rfl,rfl,rfl⟩ _;rw[zAM]at h;refine zYf [2] [] rfl ?_
 refine zAa ?_;refine zYV ?_;refine zAE rfl (fun h=>by cases h) (fun _=>?_)
 refine zAf ?_;refine zAa ?_;refine zAa ?_;refine zAA [] [19] [3,7,8] rfl (by decide +kernel) ?_;intro n2 hn2;obtain rfl:(o1E.length:Int)=n2:=(hn2.trans (congrArg (fun m:Nat=>(m:Int)) (rlen (fun _=>rfl) o1E))).symm;refine zAg rfl h (fun hb h=>?_) (fun hb h=>?_)
 ·refine zYV ?_;refine zAe ?_;have hj0:=osi h;obtain⟨hv0,hw0⟩:=Prod.mk.inj hj0;subst hv0;obtain⟨hv1,hw1⟩:=Prod.mk.inj hw0;subst hv1;obtain⟨he1T,hr1T⟩:=Prod.mk.inj hw1;obtain⟨he1U,hr1U⟩:=Prod.mk.inj hr1T;obtain⟨he1Ad,he1Ae⟩:=Prod.mk.inj hr1U;obtain⟨he2T,he2U,he2Ad,he2Ae⟩:=Nd.mk.inj he1T;subst he2T;subst he2U;subst he2Ad;subst he2Ae;obtain⟨he3T,he3U,he3Ad,he3Ae⟩:=Nd.mk.inj he1U;subst he3T;subst he3U;subst he3Ad;subst he3Ae;subst he1Ad;subst he1Ae;unfold zBN
  exact⟨_,(Le.rnm [(0,0),(1,2),(2,3)] [(2,.op 3 0),(3,.s (.int .i64 8))] [(0,.box 71 [.s (.int .i64 o1H),.s (.str o1I),.s (.int .i64 o1J),.s (.sl 4 (Nd.encs o1K)),.s (.int .i64 o1M),.s (.str o1N),.s (.int .i64 o1O),.s (.sl 4 (Nd.encs o1P)),.orow 2,.s (.int .i64 o1F)]),(2,.row 31 5 ((List.map zAd) o1E)),(3,.box 29 [.nl 1,.nl 1])] 4 ⟨rfl,rfl,trivial⟩ ⟨rfl,⟨_,rfl,rfl⟩,rfl,⟨_,rfl,rfl⟩,rfl,⟨_,rfl,rfl⟩,trivial⟩),rfl,rfl,rfl,rfl,rfl,rfl,trivial⟩
 ·refine zAf ?_;refine zAa ?_;refine zCi [4] [] [3,7,8,9,10,11] [3,7,8,9] rfl (by decide +kernel) ?_;obtain⟨⟨e3W,⟨e3X,e3Y⟩,⟨e3Z,e3Aa⟩⟩,he3,h⟩:=zAc h;refine And.intro (zAp (fun _=>rfl) he3).1 ?_;refine And.intro (zAp (fun _=>rfl) he3).2.2 ?_;refine⟨_,(zAp (fun _=>rfl) he3).2.1,?_⟩
  refine zAh (Le.giveBox 3 [.sl 8 ((List.map zAk) e3W),.sl 1 ((List.map (irow .i64)) e3X),.sl 1 ((List.map (irow .i64)) e3Y),.sl 1 ((List.map (irow .i64)) e3Z),.sl 1 ((List.map (irow .i64)) e3Aa)] rfl rfl) ?_;refine zAa ?_;refine zCi [5] [] [3,11,12] [3] rfl (by decide +kernel) ?_;obtain⟨⟨⟨y4A,y4C,y4D,y4B⟩,y5,y6⟩,hy4,h⟩:=zAc h;refine⟨_,⟨_,_,_,_,_,_,hy4,rfl,rfl⟩,?_⟩
  refine zAh (Le.giveBox 4 [.int .i64 y4A,.str y4C,.int .i64 y4D,.sl 4 (Nd.encs y4B)] rfl rfl) ?_;refine zAa ?_;refine zYV ?_;refine zAg rfl h (fun hb h=>?_) (fun hb h=>?_)
  ·refine zYV ?_;refine zAe ?_;have hj0:=osi h;obtain⟨hv0,hw0⟩:=Prod.mk.inj hj0;subst hv0;obtain⟨hv1,hw1⟩:=Prod.mk.inj hw0;subst hv1;obtain⟨he1T,hr1T⟩:=Prod.mk.inj hw1;obtain⟨he1U,hr1U⟩:=Prod.mk.inj hr1T;obtain⟨he1Ad,he1Ae⟩:=Prod.mk.inj hr1U;obtain⟨he2T,he2U,he2Ad,he2Ae⟩:=Nd.mk.inj he1T;subst he2T;subst he2U;subst he2Ad;subst he2Ae;obtain⟨he3T,he3U,he3Ad,he3Ae⟩:=Nd.mk.inj he1U;subst he3T;subst he3U;subst he3Ad;subst he3Ae;subst he1Ad;subst he1Ae;unfold zBN
   exact⟨_,(Le.rnm [(0,0),(1,2),(2,3)] [(2,.op 3 0),(3,.s (.int .i64 y6))] [(0,.box 71 [.s (.int .i64 o1H),.s (.str o1I),.s (.int .i64 o1J),.s (.sl 4 (Nd.encs o1K)),.s (.int .i64 o1M),.s (.str o1N),.s (.int .i64 o1O),.s (.sl 4 (Nd.encs o1P)),.orow 2,.s (.int .i64 o1F)]),(2,.row 31 5 ((List.map zAd) o1E)),(3,.box 29 [.nl 1,.nl 1])] 4 ⟨rfl,rfl,trivial⟩ ⟨rfl,⟨_,rfl,rfl⟩,rfl,⟨_,rfl,rfl⟩,rfl,⟨_,rfl,rfl⟩,trivial⟩),rfl,rfl,rfl,rfl,rfl,rfl,trivial⟩
  ·refine zAf ?_;refine zAa ?_;refine zAA [] [] [6,10,13] rfl (by decide +kernel) ?_;refine zYV ?_;obtain⟨⟨y7Q,y7Ab⟩,hy7,h⟩:=zAc h;refine⟨_,⟨_,_,hy7,rfl,rfl⟩,?_⟩
   refine zAe ?_;have hj0:=osi h;obtain⟨hv0,hw0⟩:=Prod.mk.inj hj0;subst hv0;obtain⟨hv1,hw1⟩:=Prod.mk.inj hw0;subst hv1;obtain⟨he1T,hr1T⟩:=Prod.mk.inj hw1;obtain⟨he1U,hr1U⟩:=Prod.mk.inj hr1T;obtain⟨he1Ad,he1Ae⟩:=Prod.mk.inj hr1U;obtain⟨he2T,he2U,he2Ad,he2Ae⟩:=Nd.mk.inj he1T;subst he2T;subst he2U;subst he2Ad;subst he2Ae;obtain⟨he3T,he3U,he3Ad,he3Ae⟩:=Nd.mk.inj he1U;subst he3T;subst he3U;subst he3Ad;subst he3Ae;subst he1Ad;subst he1Ae;unfold zBN
   exact⟨_,(Le.rnm [(0,0),(1,2),(2,3)] [(2,.op 3 0),(3,.s (.int .i64 0))] [(0,.box 71 [.s (.int .i64 o1H),.s (.str o1I),.s (.int .i64 o1J),.s (.sl 4 (Nd.encs o1K)),.s (.int .i64 y4A),.s (.str y4C),.s (.int .i64 y4D),.s (.sl 4 (Nd.encs y4B)),.orow 2,.s (.int .i64 (IntKind.i64.wrap (o1F+1)))]),(2,.row 31 5 ((List.map zAd) o1E)),(3,.box 29 [.s (.sl 1 ((List.map (irow .i64)) y7Q)),.s (.sl 1 ((List.map (irow .i64)) y7Ab))])] 4 ⟨rfl,rfl,trivial⟩ ⟨rfl,⟨_,rfl,rfl⟩,rfl,⟨_,rfl,rfl⟩,rfl,⟨_,rfl,rfl⟩,trivial⟩),rfl,rfl,rfl,rfl,rfl,rfl,trivial⟩
def zHG (n:Nat) (xs:List AV) (os:List Ob) (x:AV) (os':List (Option Ob)):Prop:=∃ (a0H:Int) (a0I:List UInt8) (a0J:Int) (a0K:List Nd) (a0M:Int) (a0N:List UInt8) (a0O:Int) (a0P:List Nd) (a0E:List zRc) (a0F:Int) (a1:Int) (y0:Int) (z0H:Int) (z0I:List UInt8) (z0J:Int) (z0K:List Nd) (z0M:Int) (z0N:List UInt8) (z0O:Int) (z0P:List Nd) (z0E:List zRc) (z0F:Int),zAS n (Nd.mk a0H a0I a0J a0K,Nd.mk a0M a0N a0O a0P,a0E,a0F) a1=some (y0,(Nd.mk z0H z0I z0J z0K,Nd.mk z0M z0N z0O z0P,z0E,z0F))/\xs=[.op 0 0,.s (.int .i64 a1)]/\os=[.box 71 [.s (.int .i64 a0H),.s (.str a0I),.s (.int .i64 a0J),.s (.sl 4 (Nd.encs a0K)),.s (.int .i64 a0M),.s (.str a0N),.s (.int .i64 a0O),.s (.sl 4 (Nd.encs a0P)),.orow 1,.s (.int .i64 a0F)],.row 31 5 ((List.map zAd) a0E)]/\x = .s (.int .i64 y0)/\os'=[some (.box 71 [.s (.int .i64 z0H),.s (.str z0I),.s (.int .i64 z0J),.s (.sl 4 (Nd.encs z0K)),.s (.int .i64 z0M),.s (.str z0N),.s (.int .i64 z0O),.s (.sl 4 (Nd.encs z0P)),.orow 2,.s (.int .i64 z0F)]),none,some (.row 31 5 ((List.map zAd) z0E))]
def zEI:zAq:=zD5 (fun xs os x os'=>∃ n,zHG n xs os x os')
theorem zHw:PSound Tryz.prog 18 zEI:=by
 have gok:∀ f s,look? f [(14,zCg),(16,zDb)]=some s->PSound Tryz.prog f s:=zAo (by
  simp only[List.forall_mem_cons]
  exact⟨zC2,zED,by simp⟩)
 refine PSound.withNil (zGB tokW Tryz.call18 Tryz.func18 rfl (fun xs os x os' h=>by obtain⟨n,_,_,_,_,_,_,_,_,_,_,_,_,_,_,_,_,_,_,_,_,_,_,_,rfl,rfl,_,rfl⟩:=h; exact⟨by show 2<=50; decide,by show 2<=3; decide⟩) 50 rfl ?_) _;rintro xs os x os' w0 G0 B0 ⟨n,o1H,o1I,o1J,o1K,o1M,o1N,o1O,o1P,o1E,o1F,done2,y0,z0H,z0I,z0J,z0K,z0M,z0N,z0O,z0P,z0E,z0F,h,rfl,rfl,rfl,rfl⟩ _;rw[zAS]at h;refine zYV ?_
 refine zAa ?_;refine zYV ?_;refine zAE rfl (fun h=>by cases h) (fun _=>?_)
 refine zAf ?_;refine zAa ?_;refine zAa ?_;obtain⟨x3,hj,h⟩:=zAc h;refine zAm ⟨ofL [(0,.op 0 0),(1,.s (.int .i64 done2)),(21,.s (.bool x3))],ofH [(0,.box 71 [.s (.int .i64 o1H),.s (.str o1I),.s (.int .i64 o1J),.s (.sl 4 (Nd.encs o1K)),.s (.int .i64 o1M),.s (.str o1N),.s (.int .i64 o1O),.s (.sl 4 (Nd.encs o1P)),.orow 2,.s (.int .i64 o1F)]),(2,.row 31 5 ((List.map zAd) o1E))],3⟩ ?_ (fun σ' hle=>?_)
 ·replace h:=hj;refine zAb [] [13,19] rfl ?_;intro b hb;cases b with
  | true =>
   replace h:=zAu hb.symm h;cases h;exact(Le.rnm [(0,0),(1,2)] _ _ _ ⟨rfl,rfl,rfl,trivial⟩ ⟨rfl,⟨_,rfl,rfl⟩,rfl,⟨_,rfl,rfl⟩,trivial⟩)
  | false =>
   replace h:=zAt hb.symm h;intro n4 hn4;obtain rfl:(o1E.length:Int)=n4:=(hn4.trans (congrArg (fun m:Nat=>(m:Int)) (rlen (fun _=>rfl) o1E))).symm;cases h;exact(Le.rnm [(0,0),(1,2)] _ _ _ ⟨rfl,rfl,rfl,trivial⟩ ⟨rfl,⟨_,rfl,rfl⟩,rfl,⟨_,rfl,rfl⟩,trivial⟩)
 ·refine zAh hle ?_;refine zAg rfl h (fun hb h=>?_) (fun hb h=>?_)
  ·refine zYV ?_;refine zAe ?_;have hj0:=osi h;obtain⟨hv0,hw0⟩:=Prod.mk.inj hj0;subst hv0;obtain⟨he1T,hr1T⟩:=Prod.mk.inj hw0;obtain⟨he1U,hr1U⟩:=Prod.mk.inj hr1T;obtain⟨he1Ad,he1Ae⟩:=Prod.mk.inj hr1U;obtain⟨he2T,he2U,he2Ad,he2Ae⟩:=Nd.mk.inj he1T;subst he2T;subst he2U;subst he2Ad;subst he2Ae;obtain⟨he3T,he3U,he3Ad,he3Ae⟩:=Nd.mk.inj he1U;subst he3T;subst he3U;subst he3Ad;subst he3Ae;subst he1Ad;subst he1Ae;unfold zBN
   exact⟨_,(Le.rnm [(0,0),(2,2)] [(4,.s (.int .i64 2))] [(0,.box 71 [.s (.int .i64 o1H),.s (.str o1I),.s (.int .i64 o1J),.s (.sl 4 (Nd.encs o1K)),.s (.int .i64 o1M),.s (.str o1N),.s (.int .i64 o1O),.s (.sl 4 (Nd.encs o1P)),.orow 2,.s (.int .i64 o1F)]),(2,.row 31 5 ((List.map zAd) o1E))] 3 ⟨rfl,trivial⟩ ⟨rfl,⟨_,rfl,rfl⟩,rfl,⟨_,rfl,rfl⟩,trivial⟩),rfl,rfl,rfl,rfl,rfl,rfl,trivial⟩
  ·refine zAf ?_;refine zAa ?_;obtain⟨fl,hl,ho1⟩:=zAc h;refine zBA (fl:=fl) (fun z=>match z with | ⟨x16,x17,x18,x19,x20,x21,x22,x23,x24,l25⟩=>⟨ofL [(0,.op 0 0),(1,.s (.int .i64 done2))],ofH [(0,.box 71 [.s (.int .i64 x16),.s (.str x17),.s (.int .i64 x18),.s (.sl 4 (Nd.encs x19)),.s (.int .i64 x20),.s (.str x21),.s (.int .i64 x22),.s (.sl 4 (Nd.encs x23)),.orow 2,.s (.int .i64 x24)]),(2,.row 31 5 ((List.map zAd) l25))],3⟩) ?_ (fun z σ' hz hle=>?_)
   ·refine zAl (zAy (X:=Nat×Int×(List UInt8)×Int×(List Nd)×Int×(List UInt8)×Int×(List Nd)×Int×(List zRc)) (fun y=>match y with | (k,x5,x6,x7,x8,x9,x10,x11,x12,x14,l15)=>⟨ofL [(0,.op 0 0),(1,.s (.int .i64 done2))],ofH [(0,.box 71 [.s (.int .i64 x5),.s (.str x6),.s (.int .i64 x7),.s (.sl 4 (Nd.encs x8)),.s (.int .i64 x9),.s (.str x10),.s (.int .i64 x11),.s (.sl 4 (Nd.encs x12)),.orow 2,.s (.int .i64 x14)]),(2,.row 31 5 ((List.map zAd) l15))],3⟩) (fun y=>zAO n done2 y.1 y.2.1 y.2.2.1 y.2.2.2.1 y.2.2.2.2.1 y.2.2.2.2.2.1 y.2.2.2.2.2.2.1 y.2.2.2.2.2.2.2.1 y.2.2.2.2.2.2.2.2.1 y.2.2.2.2.2.2.2.2.2.1 y.2.2.2.2.2.2.2.2.2.2=some fl) (fun y=>y.1) (n,o1H,o1I,o1J,o1K,o1M,o1N,o1O,o1P,o1F,o1E) hl ?_ ?_)
    ·exact(Le.rnm [(0,0),(2,2)] _ _ _ ⟨rfl,rfl,trivial⟩ ⟨rfl,⟨_,rfl,rfl⟩,rfl,⟨_,rfl,rfl⟩,trivial⟩)
    ·rintro⟨k,x5,x6,x7,x8,x9,x10,x11,x12,x14,l15⟩ h;cases k with
     | zero=>cases h
     | succ k =>
      replace h:zAO n done2 (k+1) x5 x6 x7 x8 x9 x10 x11 x12 x14 l15=some fl:=h;rw[zAO]at h;refine zAa ?_;refine zYV ?_;refine zAg rfl h (fun hb h=>?_) (fun hb h=>?_)
      ·refine zAf ?_;refine zAl ?_;refine zYf [5] [] rfl ?_;obtain⟨⟨⟨y26Q,y26Ab⟩,y27,⟨⟨w28H,w28I,w28J,w28K⟩,⟨w28M,w28N,w28O,w28P⟩,w28E,w28F⟩⟩,hy26,h⟩:=zAc h;refine⟨_,_,⟨_,_,_,_,_,_,_,_,_,_,_,_,_,_,_,_,_,_,_,_,_,_,_,hy26,rfl,rfl,rfl,rfl⟩,?_⟩
       refine zAh (Le.giveBox 4 [.sl 1 ((List.map (irow .i64)) y26Q),.sl 1 ((List.map (irow .i64)) y26Ab)] rfl rfl) ?_;refine zYV ?_;refine zAg rfl h (fun hb h=>?_) (fun hb h=>?_)
       ·refine zYV ?_;refine zAe ?_;cases h;replace h:some _=some _:=ho1;have hj0:=osi h;obtain⟨hv0,hw0⟩:=Prod.mk.inj hj0;subst hv0;obtain⟨he1T,hr1T⟩:=Prod.mk.inj hw0;obtain⟨he1U,hr1U⟩:=Prod.mk.inj hr1T;obtain⟨he1Ad,he1Ae⟩:=Prod.mk.inj hr1U;obtain⟨he2T,he2U,he2Ad,he2Ae⟩:=Nd.mk.inj he1T;subst he2T;subst he2U;subst he2Ad;subst he2Ae;obtain⟨he3T,he3U,he3Ad,he3Ae⟩:=Nd.mk.inj he1U;subst he3T;subst he3U;subst he3Ad;subst he3Ae;subst he1Ad;subst he1Ae;unfold zBN
        exact⟨_,(Le.rnm [(0,0),(3,2)] [(4,.s (.int .i64 y27))] [(0,.box 71 [.s (.int .i64 w28H),.s (.str w28I),.s (.int .i64 w28J),.s (.sl 4 (Nd.encs w28K)),.s (.int .i64 w28M),.s (.str w28N),.s (.int .i64 w28O),.s (.sl 4 (Nd.encs w28P)),.orow 2,.s (.int .i64 w28F)]),(2,.row 31 5 ((List.map zAd) w28E))] 3 ⟨rfl,trivial⟩ ⟨rfl,⟨_,rfl,rfl⟩,rfl,⟨_,rfl,rfl⟩,trivial⟩),rfl,rfl,rfl,rfl,rfl,rfl,trivial⟩
       ·refine zAf ?_;refine⟨(k,w28H,w28I,w28J,w28K,w28M,w28N,w28O,w28P,w28F,w28E),h,(Le.rnm [(0,0),(3,2)] _ _ _ ⟨rfl,rfl,trivial⟩ ⟨rfl,⟨_,rfl,rfl⟩,rfl,⟨_,rfl,rfl⟩,trivial⟩),Nat.lt_succ_self k⟩
      ·refine zAC ?_;cases h;exact⟨_,rfl,(Le.rnm [(0,0),(2,2)] _ _ _ ⟨rfl,rfl,trivial⟩ ⟨rfl,⟨_,rfl,rfl⟩,rfl,⟨_,rfl,rfl⟩,trivial⟩)⟩
   ·subst hz;obtain⟨x16,x17,x18,x19,x20,x21,x22,x23,x24,l25⟩:=z;replace h:=ho1;refine zAh hle ?_;refine zAa ?_;obtain⟨fl,hl,ho1⟩:=zAc h;refine zBA (fl:=fl) (fun z=>match z with | ⟨x40,x41,x42,x43,x44,x45,x46,x47,x48,l49⟩=>⟨ofL [],ofH [(0,.box 71 [.s (.int .i64 x40),.s (.str x41),.s (.int .i64 x42),.s (.sl 4 (Nd.encs x43)),.s (.int .i64 x44),.s (.str x45),.s (.int .i64 x46),.s (.sl 4 (Nd.encs x47)),.orow 2,.s (.int .i64 x48)]),(2,.row 31 5 ((List.map zAd) l49))],3⟩) ?_ (fun z σ' hz hle=>?_)
    ·refine zAl (zAy (X:=Nat×Int×(List UInt8)×Int×(List Nd)×Int×(List UInt8)×Int×(List Nd)×Int×(List zRc)) (fun y=>match y with | (k,x29,x30,x31,x32,x33,x34,x35,x36,x38,l39)=>⟨ofL [(0,.op 0 0),(1,.s (.int .i64 done2))],ofH [(0,.box 71 [.s (.int .i64 x29),.s (.str x30),.s (.int .i64 x31),.s (.sl 4 (Nd.encs x32)),.s (.int .i64 x33),.s (.str x34),.s (.int .i64 x35),.s (.sl 4 (Nd.encs x36)),.orow 2,.s (.int .i64 x38)]),(2,.row 31 5 ((List.map zAd) l39))],3⟩) (fun y=>zAP n done2 y.1 y.2.1 y.2.2.1 y.2.2.2.1 y.2.2.2.2.1 y.2.2.2.2.2.1 y.2.2.2.2.2.2.1 y.2.2.2.2.2.2.2.1 y.2.2.2.2.2.2.2.2.1 y.2.2.2.2.2.2.2.2.2.1 y.2.2.2.2.2.2.2.2.2.2=some fl) (fun y=>y.1) (n,x16,x17,x18,x19,x20,x21,x22,x23,x24,l25) hl ?_ ?_)
     ·exact(Le.rnm [(0,0),(2,2)] _ _ _ ⟨rfl,rfl,trivial⟩ ⟨rfl,⟨_,rfl,rfl⟩,rfl,⟨_,rfl,rfl⟩,trivial⟩)
     ·rintro⟨k,x29,x30,x31,x32,x33,x34,x35,x36,x38,l39⟩ h;cases k with
      | zero=>cases h
      | succ k =>
       replace h:zAP n done2 (k+1) x29 x30 x31 x32 x33 x34 x35 x36 x38 l39=some fl:=h;rw[zAP]at h;refine zAa ?_;refine zYV ?_;refine zAg rfl h (fun hb h=>?_) (fun hb h=>?_)
       ·refine zAf ?_;refine zAl ?_;refine zYf [7] [] rfl ?_;obtain⟨⟨⟨y50Q,y50Ab⟩,y51,⟨⟨w52H,w52I,w52J,w52K⟩,⟨w52M,w52N,w52O,w52P⟩,w52E,w52F⟩⟩,hy50,h⟩:=zAc h;refine⟨_,_,⟨_,_,_,_,_,_,_,_,_,_,_,_,_,_,_,_,_,_,_,_,_,_,_,hy50,rfl,rfl,rfl,rfl⟩,?_⟩
        refine zAh (Le.giveBox 4 [.sl 1 ((List.map (irow .i64)) y50Q),.sl 1 ((List.map (irow .i64)) y50Ab)] rfl rfl) ?_;refine zYV ?_;refine zAg rfl h (fun hb h=>?_) (fun hb h=>?_)
        ·refine zYV ?_;refine zAe ?_;cases h;replace h:some _=some _:=ho1;have hj0:=osi h;obtain⟨hv0,hw0⟩:=Prod.mk.inj hj0;subst hv0;obtain⟨he1T,hr1T⟩:=Prod.mk.inj hw0;obtain⟨he1U,hr1U⟩:=Prod.mk.inj hr1T;obtain⟨he1Ad,he1Ae⟩:=Prod.mk.inj hr1U;obtain⟨he2T,he2U,he2Ad,he2Ae⟩:=Nd.mk.inj he1T;subst he2T;subst he2U;subst he2Ad;subst he2Ae;obtain⟨he3T,he3U,he3Ad,he3Ae⟩:=Nd.mk.inj he1U;subst he3T;subst he3U;subst he3Ad;subst he3Ae;subst he1Ad;subst he1Ae;unfold zBN
         exact⟨_,(Le.rnm [(0,0),(3,2)] [(4,.s (.int .i64 y51))] [(0,.box 71 [.s (.int .i64 w52H),.s (.str w52I),.s (.int .i64 w52J),.s (.sl 4 (Nd.encs w52K)),.s (.int .i64 w52M),.s (.str w52N),.s (.int .i64 w52O),.s (.sl 4 (Nd.encs w52P)),.orow 2,.s (.int .i64 w52F)]),(2,.row 31 5 ((List.map zAd) w52E))] 3 ⟨rfl,trivial⟩ ⟨rfl,⟨_,rfl,rfl⟩,rfl,⟨_,rfl,rfl⟩,trivial⟩),rfl,rfl,rfl,rfl,rfl,rfl,trivial⟩
        ·refine zAf ?_;refine⟨(k,w52H,w52I,w52J,w52K,w52M,w52N,w52O,w52P,w52F,w52E),h,(Le.rnm [(0,0),(3,2)] _ _ _ ⟨rfl,rfl,trivial⟩ ⟨rfl,⟨_,rfl,rfl⟩,rfl,⟨_,rfl,rfl⟩,trivial⟩),Nat.lt_succ_self k⟩
       ·refine zAC ?_;cases h;exact⟨_,rfl,(Le.rnm [(0,0),(2,2)] _ _ _ trivial ⟨rfl,⟨_,rfl,rfl⟩,rfl,⟨_,rfl,rfl⟩,trivial⟩)⟩
    ·subst hz;obtain⟨x40,x41,x42,x43,x44,x45,x46,x47,x48,l49⟩:=z;replace h:=ho1;refine zAh hle ?_;refine zYV ?_;refine zAe ?_;have hj0:=osi h;obtain⟨hv0,hw0⟩:=Prod.mk.inj hj0;subst hv0;obtain⟨he1T,hr1T⟩:=Prod.mk.inj hw0;obtain⟨he1U,hr1U⟩:=Prod.mk.inj hr1T;obtain⟨he1Ad,he1Ae⟩:=Prod.mk.inj hr1U;obtain⟨he2T,he2U,he2Ad,he2Ae⟩:=Nd.mk.inj he1T;subst he2T;subst he2U;subst he2Ad;subst he2Ae;obtain⟨he3T,he3U,he3Ad,he3Ae⟩:=Nd.mk.inj he1U;subst he3T;subst he3U;subst he3Ad;subst he3Ae;subst he1Ad;subst he1Ae;unfold zBN
     exact⟨_,(Le.rnm [(0,0),(2,2)] [(4,.s (.int .i64 0))] [(0,.box 71 [.s (.int .i64 x40),.s (.str x41),.s (.int .i64 x42),.s (.sl 4 (Nd.encs x43)),.s (.int .i64 x44),.s (.str x45),.s (.int .i64 x46),.s (.sl 4 (Nd.encs x47)),.orow 2,.s (.int .i64 x48)]),(2,.row 31 5 ((List.map zAd) l49))] 3 ⟨rfl,trivial⟩ ⟨rfl,⟨_,rfl,rfl⟩,rfl,⟨_,rfl,rfl⟩,trivial⟩),rfl,rfl,rfl,rfl,rfl,rfl,trivial⟩
def zTS (n:Nat) (xs:List AV) (r:Ret):Prop:=∃ (a0:List Int) (a1:List Int) (y0:Bool),zFP n a0 a1=some y0/\xs=[.s (.sl 1 ((List.map (irow .i64)) a0)),.s (.sl 1 ((List.map (irow .i64)) a1))]/\r = .val (.s (.bool y0))
def zNP:zAq:=zAs fun xs r=>∃ n,zTS n xs r
theorem zSx:PSound Tryz.prog 36 zNP:=by
 have gok:∀ f s,look? f [(63,zHo)]=some s->PSound Tryz.prog f s:=zAo (by
  simp only[List.forall_mem_cons]
  exact⟨zJb,by simp⟩)
 refine zAr tokW Tryz.call36 Tryz.func36 rfl (fun xs r h=>by obtain⟨n,_,_,_,_,rfl,_⟩:=h; show 2<=9; decide) 9 rfl ?_;rintro xs r w0 G0 ⟨n,a1,b2,y0,h,rfl,rfl⟩ _;rw[zFP]at h;refine zYV ?_;refine zYV ?_;obtain⟨y3,hy3,h⟩:=zAc h;refine⟨_,⟨_,_,_,_,hy3,rfl,rfl⟩,?_⟩
 refine zAe ?_;have hy:=osi h;subst hy;exact fin0 rfl rfl
def zLz (n:Nat) (xs:List AV) (r:Ret):Prop:=∃ (a0:zCu) (a1:zCu) (y0:Bool),zBV n a0 a1=some y0/\xs=[.agg ((zAz a0).map .s),.agg ((zAz a1).map .s)]/\r = .val (.s (.bool y0))
def zFr:zAq:=zAs fun xs r=>∃ n,zLz n xs r
theorem zHd:PSound Tryz.prog 15 zFr:=by
 have gok:∀ f s,look? f [(36,zNP)]=some s->PSound Tryz.prog f s:=zAo (by
  simp only[List.forall_mem_cons]
  exact⟨zSx,by simp⟩)
 refine zAr tokW Tryz.call15 Tryz.func15 rfl (fun xs r h=>by obtain⟨n,_,_,_,_,rfl,_⟩:=h; show 2<=17; decide) 17 rfl ?_;rintro xs r w0 G0 ⟨n,⟨a1Q,a1Ab⟩,⟨b2Q,b2Ab⟩,y0,h,rfl,rfl⟩ _;rw[zBV]at h;refine zYV ?_;refine zAa ?_;obtain⟨x3,hj,h⟩:=zAc h;refine zAm ⟨ofL [(4,.s (.bool x3))],fun _=>none,0⟩ ?_ (fun σ' hle=>?_)
 ·replace h:=hj;refine zAb [] [10] rfl ?_;obtain⟨y4,hy4,h⟩:=zAc h;refine⟨_,⟨_,_,_,_,hy4,rfl,rfl⟩,?_⟩
  intro b hb;cases b with
  | true =>
   replace h:=zAu hb.symm h;obtain⟨y5,hy5,h⟩:=zAc h;refine⟨_,⟨_,_,_,_,hy5,rfl,rfl⟩,?_⟩
   cases h;exact(Le.forget _ ⟨rfl,trivial⟩)
  | false =>
   replace h:=zAt hb.symm h;cases h;exact(Le.forget _ ⟨rfl,trivial⟩)
 ·refine zAh hle ?_;refine zAe ?_;have hy:=osi h;subst hy;exact fin0 rfl rfl
def zHE (xs:List AV) (os:List Ob) (x:AV) (os':List (Option Ob)):Prop:=∃ (a0H:Int) (a0I:List UInt8) (a0J:Int) (a0K:List Nd) (a0M:Int) (a0N:List UInt8) (a0O:Int) (a0P:List Nd) (a0E:List zRc) (a0F:Int) (y0:Int) (z0H:Int) (z0I:List UInt8) (z0J:Int) (z0K:List Nd) (z0M:Int) (z0N:List UInt8) (z0O:Int) (z0P:List Nd) (z0E:List zRc) (z0F:Int),zCh (Nd.mk a0H a0I a0J a0K,Nd.mk a0M a0N a0O a0P,a0E,a0F)=some (y0,(Nd.mk z0H z0I z0J z0K,Nd.mk z0M z0N z0O z0P,z0E,z0F))/\xs=[.op 0 0]/\os=[.box 71 [.s (.int .i64 a0H),.s (.str a0I),.s (.int .i64 a0J),.s (.sl 4 (Nd.encs a0K)),.s (.int .i64 a0M),.s (.str a0N),.s (.int .i64 a0O),.s (.sl 4 (Nd.encs a0P)),.orow 1,.s (.int .i64 a0F)],.row 31 5 ((List.map zAd) a0E)]/\x = .s (.int .i64 y0)/\os'=[some (.box 71 [.s (.int .i64 z0H),.s (.str z0I),.s (.int .i64 z0J),.s (.sl 4 (Nd.encs z0K)),.s (.int .i64 z0M),.s (.str z0N),.s (.int .i64 z0O),.s (.sl 4 (Nd.encs z0P)),.orow 2,.s (.int .i64 z0F)]),none,some (.row 31 5 ((List.map zAd) z0E))]
def zEH:zAq:=zD5 (fun xs os x os'=>zHE xs os x os')
theorem zHv:PSound Tryz.prog 19 zEH:=by
 have gok:=@gok0 Tryz.prog;refine PSound.withNil (zGB tokW Tryz.call19 Tryz.func19 rfl (fun xs os x os' h=>by obtain⟨_,_,_,_,_,_,_,_,_,_,_,_,_,_,_,_,_,_,_,_,_,_,rfl,rfl,_,rfl⟩:=h; exact⟨by show 1<=9; decide,by show 2<=3; decide⟩) 9 rfl ?_) _;rintro xs os x os' w0 G0 B0 ⟨o1H,o1I,o1J,o1K,o1M,o1N,o1O,o1P,o1E,o1F,y0,z0H,z0I,z0J,z0K,z0M,z0N,z0O,z0P,z0E,z0F,h,rfl,rfl,rfl,rfl⟩ _;rw[zCh]at h;refine zYV ?_
 refine zAa ?_;refine zYV ?_;refine zAE rfl (fun h=>by cases h) (fun _=>?_)
 refine zAf ?_;refine zYV ?_;refine zAe ?_;have hj0:=osi h;obtain⟨hv0,hw0⟩:=Prod.mk.inj hj0;subst hv0;obtain⟨he1T,hr1T⟩:=Prod.mk.inj hw0;obtain⟨he1U,hr1U⟩:=Prod.mk.inj hr1T;obtain⟨he1Ad,he1Ae⟩:=Prod.mk.inj hr1U;obtain⟨he2T,he2U,he2Ad,he2Ae⟩:=Nd.mk.inj he1T;subst he2T;subst he2U;subst he2Ad;subst he2Ae;obtain⟨he3T,he3U,he3Ad,he3Ae⟩:=Nd.mk.inj he1U;subst he3T;subst he3U;subst he3Ad;subst he3Ae;subst he1Ad;subst he1Ae;unfold zBN
 exact⟨_,(Le.rnm [(0,0),(1,2)] [(2,.s (.int .i64 o1F))] [(0,.box 71 [.s (.int .i64 o1H),.s (.str o1I),.s (.int .i64 o1J),.s (.sl 4 (Nd.encs o1K)),.s (.int .i64 o1M),.s (.str o1N),.s (.int .i64 o1O),.s (.sl 4 (Nd.encs o1P)),.orow 2,.s (.int .i64 o1F)]),(2,.row 31 5 ((List.map zAd) o1E))] 3 ⟨rfl,trivial⟩ ⟨rfl,⟨_,rfl,rfl⟩,rfl,⟨_,rfl,rfl⟩,trivial⟩),rfl,rfl,rfl,rfl,rfl,rfl,trivial⟩
def zAv:(Nd×List zRc×Int)->List S
| ⟨⟨p_origin_kind,p_origin_text,p_origin_cols,p_origin_kids⟩,p_records,p_done⟩=>[.int .i64 p_origin_kind,.str p_origin_text,.int .i64 p_origin_cols,.sl 4 (Nd.encs p_origin_kids),.sl 5 ((List.map zAd) p_records),.int .i64 p_done]
def zU4 (n:Nat) (xs:List AV) (r:Ret):Prop:=∃ (a0:Nd) (y0:(Nd×List zRc×Int)) (y1:Int),zHb n a0=some (y0,y1)/\xs=[.agg ((Nd.enc a0).map .s)]/\r = .val (.tup [.agg ((zAv y0).map .s),.s (.int .i64 y1)])
def zQy:zAq:=zAs fun xs r=>∃ n,zU4 n xs r
theorem zUA:PSound Tryz.prog 21 zQy:=by
 have gok:∀ f s,look? f [(25,zCy)]=some s->PSound Tryz.prog f s:=zAo (by
  simp only[List.forall_mem_cons]
  exact⟨zCv,by simp⟩)
 refine zAr tokW Tryz.call21 Tryz.func21 rfl (fun xs r h=>by obtain⟨n,_,_,_,_,rfl,_⟩:=h; show 1<=10; decide) 10 rfl ?_;rintro xs r w0 G0 ⟨n,⟨n1A,n1C,n1D,n1B⟩,y0,y1,h,rfl,rfl⟩ _;rw[zHb]at h;refine zYf [2] [] rfl ?_;refine zAa ?_;refine zYV ?_;obtain⟨y2,hy2,h⟩:=zAc h;refine⟨_,⟨_,_,_,hy2,rfl,rfl⟩,?_⟩
 refine zAg rfl h (fun hb h=>?_) (fun hb h=>?_)
 ·refine zYV ?_;refine zAe ?_;obtain⟨hj1,hk1⟩:=pij h;subst hj1 hk1;exact fin0 rfl rfl
 ·refine zAf ?_;refine zYV ?_;refine zAe ?_;obtain⟨hj1,hk1⟩:=pij h;subst hj1 hk1;exact fin0 rfl rfl
def zT2 (n:Nat) (xs:List AV) (r:Ret):Prop:=∃ (a0:(Nd×List zRc×Int)) (y0:Nd),zEW n a0=some y0/\xs=[.agg ((zAv a0).map .s)]/\r = .val (.agg ((Nd.enc y0).map .s))
def zIy:zAq:=zAs fun xs r=>∃ n,zT2 n xs r
theorem zJA:PSound Tryz.prog 39 zIy:=by
 have gok:∀ f s,look? f [(66,zE1)]=some s->PSound Tryz.prog f s:=zAo (by
  simp only[List.forall_mem_cons]
  exact⟨zGk,by simp⟩)
 refine zAr tokW Tryz.call39 Tryz.func39 rfl (fun xs r h=>by obtain⟨n,_,_,_,rfl,_⟩:=h; show 1<=33; decide) 33 rfl ?_;rintro xs r w0 G0 ⟨n,⟨⟨h1H,h1I,h1J,h1K⟩,h1E,h1F⟩,y0,h,rfl,rfl⟩ _;rw[zEW]at h;refine zYf [2] [] rfl ?_;refine zYf [3] [] rfl ?_;refine zAa ?_;refine zYV ?_;show Tri ..;obtain⟨⟨x8,x9,x10,x11⟩,hl,h⟩:=zAc h
 refine zAm ⟨ofL [(2,.op 0 0),(3,.op 1 0)],ofH [(0,.box 24 [.s (.int .i64 0),.s (.str []),.s (.int .i64 0),.nl 4]),(1,.box 24 [.s (.int .i64 x8),.s (.str x9),.s (.int .i64 x10),.s (.sl 4 (Nd.encs x11))])],2⟩ ?_ (fun σ' hle=>?_)
 ·refine zAl (zAy (X:=Nat×Int×(List UInt8)×Int×(List Nd)×Int) (fun y=>match y with | (k,x3,x4,x5,x6,i7)=>⟨ofL [(1,.s (.pt [.int .i64 h1H,.str h1I,.int .i64 h1J,.sl 4 (Nd.encs h1K),.sl 5 ((List.map zAd) h1E),.int .i64 h1F])),(2,.op 0 0),(3,.op 1 0),(4,.s (.int .i64 i7))],ofH [(0,.box 24 [.s (.int .i64 0),.s (.str []),.s (.int .i64 0),.nl 4]),(1,.box 24 [.s (.int .i64 x3),.s (.str x4),.s (.int .i64 x5),.s (.sl 4 (Nd.encs x6))])],2⟩) (fun y=>zCZ n h1E h1F y.1 y.2.1 y.2.2.1 y.2.2.2.1 y.2.2.2.2.1 y.2.2.2.2.2=some (x8,x9,x10,x11)) (fun y=>y.1) (n,h1H,h1I,h1J,h1K,0) hl ?_ ?_)
  ·exact(Le.rnm [(0,0),(1,1)] _ _ _ ⟨rfl,rfl,rfl,rfl,trivial⟩ ⟨rfl,⟨_,rfl,rfl⟩,rfl,⟨_,rfl,rfl⟩,trivial⟩)
  ·rintro⟨k,x3,x4,x5,x6,i7⟩ h;cases k with
   | zero=>cases h
   | succ k =>
    replace h:zCZ n h1E h1F (k+1) x3 x4 x5 x6 i7=some (x8,x9,x10,x11):=h;rw[zCZ]at h;refine zAa ?_;refine zAa ?_;obtain⟨x12,hj,h⟩:=zAc h;refine zAm ⟨ofL [(1,.s (.pt [.int .i64 h1H,.str h1I,.int .i64 h1J,.sl 4 (Nd.encs h1K),.sl 5 ((List.map zAd) h1E),.int .i64 h1F])),(2,.op 0 0),(3,.op 1 0),(4,.s (.int .i64 i7)),(17,.s (.bool x12))],ofH [(0,.box 24 [.s (.int .i64 0),.s (.str []),.s (.int .i64 0),.nl 4]),(1,.box 24 [.s (.int .i64 x3),.s (.str x4),.s (.int .i64 x5),.s (.sl 4 (Nd.encs x6))])],2⟩ ?_ (fun σ' hle=>?_)
    ·replace h:=hj;refine zAb [] [11,15] rfl ?_;intro b hb;cases b with
     | true =>
      replace h:=zAu hb.symm h;intro n13 hn13;obtain rfl:(h1E.length:Int)=n13:=(hn13.trans (congrArg (fun m:Nat=>(m:Int)) (rlen (fun _=>rfl) h1E))).symm;cases h;exact(Le.rnm [(0,0),(1,1)] _ _ _ ⟨rfl,rfl,rfl,rfl,rfl,trivial⟩ ⟨rfl,⟨_,rfl,rfl⟩,rfl,⟨_,rfl,rfl⟩,trivial⟩)
     | false =>
      replace h:=zAt hb.symm h;cases h;exact(Le.rnm [(0,0),(1,1)] _ _ _ ⟨rfl,rfl,rfl,rfl,rfl,trivial⟩ ⟨rfl,⟨_,rfl,rfl⟩,rfl,⟨_,rfl,rfl⟩,trivial⟩)
    ·refine zAh hle ?_;refine zAg rfl h (fun hb h=>?_) (fun hb h=>?_)
     ·refine zAf ?_;refine zAa ?_;refine zAl ?_;refine zAA [] [25] [0,12] rfl (by decide +kernel) ?_;obtain⟨⟨e14W,⟨e14X,e14Y⟩,⟨e14Z,e14Aa⟩⟩,he14,h⟩:=zAc h;refine And.intro (zAp (fun _=>rfl) he14).1 ?_;intro r15 hr15;obtain rfl:[.sl 8 ((List.map zAk) e14W),.sl 1 ((List.map (irow .i64)) e14X),.sl 1 ((List.map (irow .i64)) e14Y),.sl 1 ((List.map (irow .i64)) e14Z),.sl 1 ((List.map (irow .i64)) e14Aa)]=r15:=(hr15.trans (zAp (fun _=>rfl) he14).2.1).symm
      obtain⟨⟨⟨y16A,y16C,y16D,y16B⟩,y17,y18⟩,hy16,h⟩:=zAc h;refine⟨_,⟨_,_,_,_,_,_,hy16,rfl,rfl⟩,?_⟩
      refine zYU ?_;refine⟨(k,y16A,y16C,y16D,y16B,IntKind.i64.wrap (i7+1)),h,(Le.rnm [(0,0),(1,1)] _ _ _ ⟨rfl,rfl,rfl,rfl,trivial⟩ ⟨rfl,⟨_,rfl,rfl⟩,rfl,⟨_,rfl,rfl⟩,trivial⟩),Nat.lt_succ_self k⟩
     ·refine zAC ?_;cases h;exact(Le.rnm [(0,0),(1,1)] _ _ _ ⟨rfl,rfl,trivial⟩ ⟨rfl,⟨_,rfl,rfl⟩,rfl,⟨_,rfl,rfl⟩,trivial⟩)
 ·refine zAh hle ?_;refine zYV ?_;refine zAe ?_;have hy:=osi h;subst hy;exact fin0 rfl rfl
def zWq (n:Nat) (xs:List AV) (r:Ret):Prop:=∃ (a0:(Nd×List zRc×Int)) (a1:zRc) (y0:(Nd×List zRc×Int)) (y1:Int),zIC n a0 a1=some (y0,y1)/\xs=[.agg ((zAv a0).map .s),.agg ((zAd a1).map .s)]/\r = .val (.tup [.agg ((zAv y0).map .s),.s (.int .i64 y1)])
def zS8:zAq:=zAs fun xs r=>∃ n,zWq n xs r
theorem zYH {α:Type}{a b:α} (h:a=b:=by simp[List.map_append,List.map_take,List.map_drop,irow,brow,zEw,List.map_cons,List.map_nil,zD1,Nd.encs_eq,Nd.enc,zA4,zAK,zBy,zAI,zAG,zAk,zAd,zBD,zAz,zA6,zAn,zBb,zBY,zBP,zAv]):a=b :=
 h
theorem zVJ:PSound Tryz.prog 40 zS8:=by
 have gok:∀ f s,look? f [(39,zIy),(66,zE1)]=some s->PSound Tryz.prog f s:=zAo (by
  simp only[List.forall_mem_cons]
  exact⟨zJA,zGk,by simp⟩)
 refine zAr tokW Tryz.call40 Tryz.func40 rfl (fun xs r h=>by obtain⟨n,_,_,_,_,_,rfl,_⟩:=h; show 2<=42; decide) 42 rfl ?_;rintro xs r w0 G0 ⟨n,⟨⟨h1H,h1I,h1J,h1K⟩,h1E,h1F⟩,⟨r2W,⟨r2X,r2Y⟩,⟨r2Z,r2Aa⟩⟩,y0,y1,h,rfl,rfl⟩ _;rw[zIC]at h;refine zYf [4] [] rfl ?_;refine zAa ?_;refine zCi [6] [] [9,10] [] rfl (by decide +kernel) ?_;obtain⟨⟨y3A,y3C,y3D,y3B⟩,hy3,h⟩:=zAc h;refine⟨_,⟨_,_,_,hy3,rfl,rfl⟩,?_⟩
 obtain⟨⟨⟨y4A,y4C,y4D,y4B⟩,y5,y6⟩,hy4,h⟩:=zAc h;refine⟨_,⟨_,_,_,_,_,_,hy4,rfl,rfl⟩,?_⟩
 refine zAh (Le.giveBox 1 [.int .i64 y4A,.str y4C,.int .i64 y4D,.sl 4 (Nd.encs y4B)] rfl rfl) ?_;refine zAa ?_;refine zYV ?_;refine zAg rfl h (fun hb h=>?_) (fun hb h=>?_)
 ·refine zYV ?_;refine zAe ?_;obtain⟨hj1,hk1⟩:=pij h;subst hj1 hk1;exact fin0 rfl rfl
 ·refine zAf ?_;refine zAa ?_;refine zYV ?_;refine zAg rfl h (fun hb h=>?_) (fun hb h=>?_)
  ·refine zYV ?_;refine zAe ?_;obtain⟨hj1,hk1⟩:=pij h;subst hj1 hk1;exact fin0 rfl rfl
  ·refine zAf ?_;refine zAa ?_;refine zCi [28,34,37] [33,36] [2,8,11,16] [] rfl (by decide +kernel) ?_;obtain⟨hq,h⟩:=zAw h;refine And.intro ⟨hq.1,hq.2.1,Int.le_trans hq.2.2 (Int.ofNat_le.2 (Nat.le_of_eq (rlen (fun _=>rfl) _).symm))⟩ ?_;intro r7 hr7;obtain rfl:(List.map zAd) ((h1E.take h1F.toNat).drop (0:Int).toNat)=r7:=(hr7.trans (rcut (fun _=>rfl) _ _ _)).symm;obtain⟨hq,h⟩:=zAw h
   refine And.intro (show(([]:List (List S)).length+((List.map zAd) ((h1E.take h1F.toNat).drop (0:Int).toNat)).length) * 120<=140737488355328/\([]:List (List S)).length+((List.map zAd) ((h1E.take h1F.toNat).drop (0:Int).toNat)).length<=9223372036854775807 from by simp only[List.length_append,List.length_cons,List.length_nil,List.length_map,rlen (fun _=>rfl)]at hq ⊢; omega) ?_;intro r8 hr8
   obtain rfl:(List.map zAd) [(r2W,(r2X,r2Y),(r2Z,r2Aa))]=r8:=(hr8.trans zYH).symm;obtain⟨hq,h⟩:=zAw h
   refine And.intro (show((([]:List (List S))++((List.map zAd) ((h1E.take h1F.toNat).drop (0:Int).toNat))).length+((List.map zAd) [(r2W,(r2X,r2Y),(r2Z,r2Aa))]).length) * 120<=140737488355328/\(([]:List (List S))++((List.map zAd) ((h1E.take h1F.toNat).drop (0:Int).toNat))).length+((List.map zAd) [(r2W,(r2X,r2Y),(r2Z,r2Aa))]).length<=9223372036854775807 from by simp only[List.length_append,List.length_cons,List.length_nil,List.length_map,List.length_take,rlen (fun _=>rfl)]at hq ⊢; omega) ?_;show Tri ..
   refine zAh (Le.rnm [(0,0),(4,1)] [(4,.op 0 0),(5,.s (.int .i64 0))] [(0,.box 57 [.s (.int .i64 h1H),.s (.str h1I),.s (.int .i64 h1J),.s (.sl 4 (Nd.encs h1K)),.orow 1,.s (.int .i64 (IntKind.i64.wrap (h1F+1)))]),(1,.row 31 5 ((List.map zAd) (((h1E.take h1F.toNat).drop (0:Int).toNat)++[(r2W,(r2X,r2Y),(r2Z,r2Aa))])))] 2 ⟨rfl,rfl,trivial⟩ ⟨rfl,⟨_,rfl,rfl⟩,rfl,⟨_,rfl,congrArg (Ob.row 31 5) zYH⟩,trivial⟩) ?_
   refine zAe ?_;obtain⟨hj1,hk1⟩:=pij h;subst hj1 hk1;unfold zBC;exact⟨_,(Le.trans (Le.rnm [(0,0),(1,1)] [(4,.op 0 0),(5,.s (.int .i64 0))] [(0,.box 57 [.s (.int .i64 h1H),.s (.str h1I),.s (.int .i64 h1J),.s (.sl 4 (Nd.encs h1K)),.orow 1,.s (.int .i64 (IntKind.i64.wrap (h1F+1)))]),(1,.row 31 5 ((List.map zAd) (((h1E.take h1F.toNat).drop (0:Int).toNat)++[(r2W,(r2X,r2Y),(r2Z,r2Aa))])))] 2 ⟨rfl,rfl,trivial⟩ ⟨rfl,⟨_,rfl,rfl⟩,rfl,⟨_,rfl,rfl⟩,trivial⟩) (Le.giveRow 1 rfl)),rfl,rfl⟩
def zT3 (xs:List AV) (r:Ret):Prop:=∃ (a0:(Nd×List zRc×Int)) (y0:(Nd×List zRc×Int)) (y1:zCu) (y2:Int),zHc a0=some (y0,y1,y2)/\xs=[.agg ((zAv a0).map .s)]/\r = .val (.tup [.agg ((zAv y0).map .s),.agg ((zAz y1).map .s),.s (.int .i64 y2)])
def zNY:zAq:=zAs fun xs r=>zT3 xs r
theorem zSG:PSound Tryz.prog 41 zNY:=by
 have gok:=@gok0 Tryz.prog;refine zAr tokW Tryz.call41 Tryz.func41 rfl (fun xs r h=>by obtain⟨_,_,_,_,_,rfl,_⟩:=h; show 1<=22; decide) 22 rfl ?_;rintro xs r w0 G0 ⟨⟨⟨h1H,h1I,h1J,h1K⟩,h1E,h1F⟩,y0,y1,y2,h,rfl,rfl⟩ _;rw[zHc]at h;refine zYf [1,2,3] [] rfl ?_;refine zAa ?_;refine zYV ?_;refine zAg rfl h (fun hb h=>?_) (fun hb h=>?_)
 ·refine zYV ?_;refine zAe ?_;obtain⟨hj1,hk1⟩:=pij h;subst hj1;obtain⟨hj2,hk2⟩:=Prod.mk.inj hk1;subst hj2;subst hk2;exact fin0 rfl rfl
 ·refine zAf ?_;refine zYV ?_;show Tri ..
  refine zAh (Le.trans (Le.rnm [(0,0),(1,1),(2,2)] [(1,.op 0 0),(2,.op 1 0),(3,.op 2 0)] [(0,.box 57 [.s (.int .i64 h1H),.s (.str h1I),.s (.int .i64 h1J),.s (.sl 4 (Nd.encs h1K)),.s (.sl 5 ((List.map zAd) h1E)),.s (.int .i64 (IntKind.i64.wrap (h1F - 1)))]),(1,.box 57 [.s (.int .i64 0),.s (.str []),.s (.int .i64 0),.nl 4,.nl 5,.s (.int .i64 0)]),(2,.box 29 [.nl 1,.nl 1])] 3 ⟨rfl,rfl,rfl,trivial⟩ ⟨rfl,⟨_,rfl,rfl⟩,rfl,⟨_,rfl,rfl⟩,rfl,⟨_,rfl,rfl⟩,trivial⟩) (Le.giveBox 0 [.int .i64 h1H,.str h1I,.int .i64 h1J,.sl 4 (Nd.encs h1K),.sl 5 ((List.map zAd) h1E),.int .i64 (IntKind.i64.wrap (h1F - 1))] rfl rfl)) ?_
  refine zAa ?_;refine zAA [] [19] [8,9] rfl (by decide +kernel) ?_;obtain⟨⟨e2W,⟨e2X,e2Y⟩,⟨e2Z,e2Aa⟩⟩,he2,h⟩:=zAc h;refine And.intro (zAp (fun _=>rfl) he2).1 ?_;intro r3 hr3;obtain rfl:[.sl 8 ((List.map zAk) e2W),.sl 1 ((List.map (irow .i64)) e2X),.sl 1 ((List.map (irow .i64)) e2Y),.sl 1 ((List.map (irow .i64)) e2Z),.sl 1 ((List.map (irow .i64)) e2Aa)]=r3:=(hr3.trans (zAp (fun _=>rfl) he2).2.1).symm;refine zAe ?_;obtain⟨hj1,hk1⟩:=pij h;subst hj1;obtain⟨hj2,hk2⟩:=Prod.mk.inj hk1;subst hj2;subst hk2;unfold zBC
  exact⟨_,Le.refl _ _,rfl,rfl⟩
def zT0 (xs:List AV) (r:Ret):Prop:=∃ (a0:(Nd×List zRc×Int)) (y0:(Nd×List zRc×Int)) (y1:zCu) (y2:Int),zFS a0=some (y0,y1,y2)/\xs=[.agg ((zAv a0).map .s)]/\r = .val (.tup [.agg ((zAv y0).map .s),.agg ((zAz y1).map .s),.s (.int .i64 y2)])
def zNW:zAq:=zAs fun xs r=>zT0 xs r
theorem zSE:PSound Tryz.prog 42 zNW:=by
 have gok:=@gok0 Tryz.prog;refine zAr tokW Tryz.call42 Tryz.func42 rfl (fun xs r h=>by obtain⟨_,_,_,_,_,rfl,_⟩:=h; show 1<=26; decide) 26 rfl ?_;rintro xs r w0 G0 ⟨⟨⟨h1H,h1I,h1J,h1K⟩,h1E,h1F⟩,y0,y1,y2,h,rfl,rfl⟩ _;rw[zFS]at h;refine zYf [1,2,3] [] rfl ?_;refine zAa ?_;refine zYf [] [9] rfl ?_;intro n2 hn2;obtain rfl:(h1E.length:Int)=n2:=(hn2.trans (congrArg (fun m:Nat=>(m:Int)) (rlen (fun _=>rfl) h1E))).symm;refine zAg rfl h (fun hb h=>?_) (fun hb h=>?_)
 ·refine zYV ?_;refine zAe ?_;obtain⟨hj1,hk1⟩:=pij h;subst hj1;obtain⟨hj2,hk2⟩:=Prod.mk.inj hk1;subst hj2;subst hk2;exact fin0 rfl rfl
 ·refine zAf ?_;refine zYV ?_;show Tri ..
  refine zAh (Le.trans (Le.rnm [(0,0),(1,1),(2,2)] [(1,.op 0 0),(2,.op 1 0),(3,.op 2 0)] [(0,.box 57 [.s (.int .i64 h1H),.s (.str h1I),.s (.int .i64 h1J),.s (.sl 4 (Nd.encs h1K)),.s (.sl 5 ((List.map zAd) h1E)),.s (.int .i64 (IntKind.i64.wrap (h1F+1)))]),(1,.box 57 [.s (.int .i64 0),.s (.str []),.s (.int .i64 0),.nl 4,.nl 5,.s (.int .i64 0)]),(2,.box 29 [.nl 1,.nl 1])] 3 ⟨rfl,rfl,rfl,trivial⟩ ⟨rfl,⟨_,rfl,rfl⟩,rfl,⟨_,rfl,rfl⟩,rfl,⟨_,rfl,rfl⟩,trivial⟩) (Le.giveBox 0 [.int .i64 h1H,.str h1I,.int .i64 h1J,.sl 4 (Nd.encs h1K),.sl 5 ((List.map zAd) h1E),.int .i64 (IntKind.i64.wrap (h1F+1))] rfl rfl)) ?_
  refine zAa ?_;refine zAA [] [23] [9,10] rfl (by decide +kernel) ?_;obtain⟨⟨e3W,⟨e3X,e3Y⟩,⟨e3Z,e3Aa⟩⟩,he3,h⟩:=zAc h;refine And.intro (zAp (fun _=>rfl) he3).1 ?_;intro r4 hr4;obtain rfl:[.sl 8 ((List.map zAk) e3W),.sl 1 ((List.map (irow .i64)) e3X),.sl 1 ((List.map (irow .i64)) e3Y),.sl 1 ((List.map (irow .i64)) e3Z),.sl 1 ((List.map (irow .i64)) e3Aa)]=r4:=(hr4.trans (zAp (fun _=>rfl) he3).2.1).symm;refine zAe ?_;obtain⟨hj1,hk1⟩:=pij h;subst hj1;obtain⟨hj2,hk2⟩:=Prod.mk.inj hk1;subst hj2;subst hk2;unfold zBC
  exact⟨_,Le.refl _ _,rfl,rfl⟩
def zT1 (xs:List AV) (r:Ret):Prop:=∃ (a0:(Nd×List zRc×Int)) (a1:Int) (y0:(Nd×List zRc×Int)) (y1:Int),zFT a0 a1=some (y0,y1)/\xs=[.agg ((zAv a0).map .s),.s (.int .i64 a1)]/\r = .val (.tup [.agg ((zAv y0).map .s),.s (.int .i64 y1)])
def zNX:zAq:=zAs fun xs r=>zT1 xs r
theorem zSF:PSound Tryz.prog 43 zNX:=by
 have gok:=@gok0 Tryz.prog;refine zAr tokW Tryz.call43 Tryz.func43 rfl (fun xs r h=>by obtain⟨_,_,_,_,_,rfl,_⟩:=h; show 2<=19; decide) 19 rfl ?_;rintro xs r w0 G0 ⟨⟨⟨h1H,h1I,h1J,h1K⟩,h1E,h1F⟩,done2,y0,y1,h,rfl,rfl⟩ _;rw[zFT]at h;refine zYf [2,4] [] rfl ?_;refine zAa ?_;refine zAa ?_;obtain⟨x3,hj,h⟩:=zAc h
 refine zAm ⟨ofL [(1,.s (.int .i64 done2)),(2,.op 0 0),(4,.op 1 0),(14,.s (.bool x3))],ofH [(0,.box 57 [.s (.int .i64 h1H),.s (.str h1I),.s (.int .i64 h1J),.s (.sl 4 (Nd.encs h1K)),.s (.sl 5 ((List.map zAd) h1E)),.s (.int .i64 h1F)]),(1,.box 57 [.s (.int .i64 0),.s (.str []),.s (.int .i64 0),.nl 4,.nl 5,.s (.int .i64 0)])],2⟩ ?_ (fun σ' hle=>?_)
 ·replace h:=hj;refine zAb [] [8,12] rfl ?_;intro b hb;cases b with
  | true =>
   replace h:=zAu hb.symm h;cases h;exact(Le.rnm [(0,0),(1,1)] _ _ _ ⟨rfl,rfl,rfl,rfl,trivial⟩ ⟨rfl,⟨_,rfl,rfl⟩,rfl,⟨_,rfl,rfl⟩,trivial⟩)
  | false =>
   replace h:=zAt hb.symm h;intro n4 hn4;obtain rfl:(h1E.length:Int)=n4:=(hn4.trans (congrArg (fun m:Nat=>(m:Int)) (rlen (fun _=>rfl) h1E))).symm;cases h;exact(Le.rnm [(0,0),(1,1)] _ _ _ ⟨rfl,rfl,rfl,rfl,trivial⟩ ⟨rfl,⟨_,rfl,rfl⟩,rfl,⟨_,rfl,rfl⟩,trivial⟩)
 ·refine zAh hle ?_;refine zAg rfl h (fun hb h=>?_) (fun hb h=>?_)
  ·refine zYV ?_;refine zAe ?_;obtain⟨hj1,hk1⟩:=pij h;subst hj1 hk1;exact fin0 rfl rfl
  ·refine zAf ?_;refine zYV ?_;refine zYV ?_;refine zAe ?_;obtain⟨hj1,hk1⟩:=pij h;subst hj1 hk1;exact fin0 rfl rfl
def zTM (n:Nat) (xs:List AV) (os:List Ob) (x:AV) (os':List (Option Ob)):Prop:=∃ (a0H:Int) (a0I:List UInt8) (a0J:Int) (a0K:List Nd) (a0M:Int) (a0N:List UInt8) (a0O:Int) (a0P:List Nd) (a0E:List zRc) (a0F:Int) (a1:(Nd×List zRc×Int)) (a2:(Int×zRc×zCu×(Int×List Nd×Int×List UInt8×Bool)×Int)) (y0:(Nd×List zRc×Int)) (y1:Bool) (z0H:Int) (z0I:List UInt8) (z0J:Int) (z0K:List Nd) (z0M:Int) (z0N:List UInt8) (z0O:Int) (z0P:List Nd) (z0E:List zRc) (z0F:Int),zG3 n (Nd.mk a0H a0I a0J a0K,Nd.mk a0M a0N a0O a0P,a0E,a0F) a1 a2=some (y0,y1,(Nd.mk z0H z0I z0J z0K,Nd.mk z0M z0N z0O z0P,z0E,z0F))/\xs=[.op 0 0,.agg ((zAv a1).map .s),.agg ((zAn a2).map .s)]/\os=[.box 71 [.s (.int .i64 a0H),.s (.str a0I),.s (.int .i64 a0J),.s (.sl 4 (Nd.encs a0K)),.s (.int .i64 a0M),.s (.str a0N),.s (.int .i64 a0O),.s (.sl 4 (Nd.encs a0P)),.orow 1,.s (.int .i64 a0F)],.row 31 5 ((List.map zAd) a0E)]/\x = .tup [.agg ((zAv y0).map .s),.s (.bool y1)]/\os'=[some (.box 71 [.s (.int .i64 z0H),.s (.str z0I),.s (.int .i64 z0J),.s (.sl 4 (Nd.encs z0K)),.s (.int .i64 z0M),.s (.str z0N),.s (.int .i64 z0O),.s (.sl 4 (Nd.encs z0P)),.orow 2,.s (.int .i64 z0F)]),none,some (.row 31 5 ((List.map zAd) z0E))]
def zNI:zAq:=zD5 (fun xs os x os'=>∃ n,zTM n xs os x os')
theorem zSq:PSound Tryz.prog 22 zNI:=by
 have gok:∀ f s,look? f [(39,zIy),(11,zKQ),(12,zDX),(40,zS8),(14,zCg),(41,zNY),(16,zDb),(42,zNW),(18,zEI),(43,zNX),(15,zFr)]=some s->PSound Tryz.prog f s:=zAo (by
  simp only[List.forall_mem_cons]
  exact⟨zJA,zPo,zFo,zVJ,zC2,zSG,zED,zSE,zHw,zSF,zHd,by simp⟩)
 refine PSound.withNil (zGB tokW Tryz.call22 Tryz.func22 rfl (fun xs os x os' h=>by obtain⟨n,_,_,_,_,_,_,_,_,_,_,_,_,_,_,_,_,_,_,_,_,_,_,_,_,_,rfl,rfl,_,rfl⟩:=h; exact⟨by show 3<=77; decide,by show 2<=3; decide⟩) 77 rfl ?_) _
 rintro xs os x os' w0 G0 B0 ⟨n,o1H,o1I,o1J,o1K,o1M,o1N,o1O,o1P,o1E,o1F,⟨⟨a2H,a2I,a2J,a2K⟩,a2E,a2F⟩,⟨a3A,⟨a3Ar,⟨a3Bd,a3Be⟩,⟨a3Bf,a3Bg⟩⟩,⟨a3Aw,a3Ax⟩,⟨a3Ay,a3Az,a3Ba,a3Bb,a3Bc⟩,a3S⟩,y0,y1,z0H,z0I,z0J,z0K,z0M,z0N,z0O,z0P,z0E,z0F,h,rfl,rfl,rfl,rfl⟩ _
 rw[zG3]at h;refine zYf [4,6] [] rfl ?_;refine zYf [8,9] [] rfl ?_;refine zYV ?_;refine zAa ?_;refine zYV ?_;show Tri ..;obtain⟨⟨x4,x5,x6,x7,x8,x9,x10,x11,x12,x13,x14,l15,x16,x17,x18,x19,x20,x21,x22,x23,x24,x25⟩,hj,h⟩:=zAc h
 refine zAm ⟨ofL [(4,.op 3 0),(6,.op 4 0),(8,.op 5 0),(9,.op 6 0),(10,.s (.int .i64 x4)),(11,.s (.int .i64 x5))],ofH [(0,.box 71 [.s (.int .i64 x6),.s (.str x7),.s (.int .i64 x8),.s (.sl 4 (Nd.encs x9)),.s (.int .i64 x10),.s (.str x11),.s (.int .i64 x12),.s (.sl 4 (Nd.encs x13)),.orow 2,.s (.int .i64 x14)]),(2,.row 31 5 ((List.map zAd) l15)),(3,.box 57 [.s (.int .i64 x16),.s (.str x17),.s (.int .i64 x18),.s (.sl 4 (Nd.encs x19)),.s (.sl 5 ((List.map zAd) x20)),.s (.int .i64 x21)]),(4,.box 57 [.s (.int .i64 0),.s (.str []),.s (.int .i64 0),.nl 4,.nl 5,.s (.int .i64 0)]),(5,.box 29 [.s (.sl 1 ((List.map (irow .i64)) x22)),.s (.sl 1 ((List.map (irow .i64)) x23))]),(6,.box 29 [.s (.sl 1 ((List.map (irow .i64)) x24)),.s (.sl 1 ((List.map (irow .i64)) x25))])],7⟩ ?_ (fun σ' hle=>?_)
 ·replace h:=hj;refine zAl ?_;refine zAa ?_;refine zYV ?_;show Tri ..;obtain⟨x26,hj,h⟩:=zAc h
  refine zAm ⟨ofL [(0,.op 0 0),(4,.op 3 0),(5,.s (.pt [.int .i64 a3A,.sl 8 ((List.map zAk) a3Ar),.sl 1 ((List.map (irow .i64)) a3Bd),.sl 1 ((List.map (irow .i64)) a3Be),.sl 1 ((List.map (irow .i64)) a3Bf),.sl 1 ((List.map (irow .i64)) a3Bg),.sl 1 ((List.map (irow .i64)) a3Aw),.sl 1 ((List.map (irow .i64)) a3Ax),.int .i64 a3Ay,.sl 4 (Nd.encs a3Az),.int .i64 a3Ba,.str a3Bb,.bool a3Bc,.int .i64 a3S])),(6,.op 4 0),(8,.op 5 0),(9,.op 6 0),(14,.s (.int .i64 a3A)),(26,.s (.bool x26))],ofH [(0,.box 71 [.s (.int .i64 o1H),.s (.str o1I),.s (.int .i64 o1J),.s (.sl 4 (Nd.encs o1K)),.s (.int .i64 o1M),.s (.str o1N),.s (.int .i64 o1O),.s (.sl 4 (Nd.encs o1P)),.orow 2,.s (.int .i64 o1F)]),(2,.row 31 5 ((List.map zAd) o1E)),(3,.box 57 [.s (.int .i64 a2H),.s (.str a2I),.s (.int .i64 a2J),.s (.sl 4 (Nd.encs a2K)),.s (.sl 5 ((List.map zAd) a2E)),.s (.int .i64 a2F)]),(4,.box 57 [.s (.int .i64 0),.s (.str []),.s (.int .i64 0),.nl 4,.nl 5,.s (.int .i64 0)]),(5,.box 29 [.nl 1,.nl 1]),(6,.box 29 [.nl 1,.nl 1])],7⟩ ?_ (fun σ' hle=>?_)
  ·replace h:=hj;refine zAg rfl h (fun hb h=>?_) (fun hb h=>?_)
   ·refine zAf ?_;cases h;exact(Le.rnm [(0,0),(1,2),(2,3),(3,4),(4,5),(5,6)] _ _ _ ⟨rfl,rfl,rfl,rfl,rfl,rfl,rfl,rfl,trivial⟩ ⟨rfl,⟨_,rfl,rfl⟩,rfl,⟨_,rfl,rfl⟩,rfl,⟨_,rfl,rfl⟩,rfl,⟨_,rfl,rfl⟩,rfl,⟨_,rfl,rfl⟩,rfl,⟨_,rfl,rfl⟩,trivial⟩)
   ·refine zYU ?_;cases h;exact(Le.rnm [(0,0),(1,2),(2,3),(3,4),(4,5),(5,6)] _ _ _ ⟨rfl,rfl,rfl,rfl,rfl,rfl,rfl,rfl,trivial⟩ ⟨rfl,⟨_,rfl,rfl⟩,rfl,⟨_,rfl,rfl⟩,rfl,⟨_,rfl,rfl⟩,rfl,⟨_,rfl,rfl⟩,rfl,⟨_,rfl,rfl⟩,rfl,⟨_,rfl,rfl⟩,trivial⟩)
  ·refine zAh hle ?_;refine zAg rfl h (fun hb h=>?_) (fun hb h=>?_)
   ·refine zAa ?_;refine zCi [12] [] [0,4,5] [0] rfl (by decide +kernel) ?_;obtain⟨⟨y27A,y27C,y27D,y27B⟩,hy27,h⟩:=zAc h;refine⟨_,⟨_,_,_,hy27,rfl,rfl⟩,?_⟩
    obtain⟨⟨y28W,⟨y28X,y28Y⟩,⟨y28Z,y28Aa⟩⟩,hy28,h⟩:=zAc h;refine⟨_,⟨_,_,_,_,hy28,rfl,rfl⟩,?_⟩
    refine zAh (Le.giveBox 7 [.sl 8 ((List.map zAk) y28W),.sl 1 ((List.map (irow .i64)) y28X),.sl 1 ((List.map (irow .i64)) y28Y),.sl 1 ((List.map (irow .i64)) y28Z),.sl 1 ((List.map (irow .i64)) y28Aa)] rfl rfl) ?_;refine zYV ?_;obtain⟨⟨y29,⟨⟨w30H,w30I,w30J,w30K⟩,⟨w30M,w30N,w30O,w30P⟩,w30E,w30F⟩⟩,hy29,h⟩:=zAc h;refine⟨_,_,⟨_,_,_,_,_,_,_,_,_,_,_,_,_,_,_,_,_,_,_,_,_,_,_,hy29,rfl,rfl,rfl,rfl⟩,?_⟩
    show Tri ..
    refine zAh (Le.rnm [(0,0),(8,2),(3,3),(4,4),(5,5),(6,6)] [(4,.op 3 0),(6,.op 4 0),(8,.op 5 0),(9,.op 6 0),(10,.s (.int .i64 y29)),(12,.s (.pt [.sl 8 ((List.map zAk) y28W),.sl 1 ((List.map (irow .i64)) y28X),.sl 1 ((List.map (irow .i64)) y28Y),.sl 1 ((List.map (irow .i64)) y28Z),.sl 1 ((List.map (irow .i64)) y28Aa)]))] [(0,.box 71 [.s (.int .i64 w30H),.s (.str w30I),.s (.int .i64 w30J),.s (.sl 4 (Nd.encs w30K)),.s (.int .i64 w30M),.s (.str w30N),.s (.int .i64 w30O),.s (.sl 4 (Nd.encs w30P)),.orow 2,.s (.int .i64 w30F)]),(2,.row 31 5 ((List.map zAd) w30E)),(3,.box 57 [.s (.int .i64 a2H),.s (.str a2I),.s (.int .i64 a2J),.s (.sl 4 (Nd.encs a2K)),.s (.sl 5 ((List.map zAd) a2E)),.s (.int .i64 a2F)]),(4,.box 57 [.s (.int .i64 0),.s (.str []),.s (.int .i64 0),.nl 4,.nl 5,.s (.int .i64 0)]),(5,.box 29 [.nl 1,.nl 1]),(6,.box 29 [.nl 1,.nl 1])] 7 ⟨rfl,rfl,rfl,rfl,rfl,rfl,trivial⟩ ⟨rfl,⟨_,rfl,rfl⟩,rfl,⟨_,rfl,rfl⟩,rfl,⟨_,rfl,rfl⟩,rfl,⟨_,rfl,rfl⟩,rfl,⟨_,rfl,rfl⟩,rfl,⟨_,rfl,rfl⟩,trivial⟩) ?_
    refine zYU ?_;obtain⟨⟨⟨⟨y31H,y31I,y31J,y31K⟩,y31E,y31F⟩,y32⟩,hy31,h⟩:=zAc h;refine⟨_,⟨_,_,_,_,_,hy31,rfl,rfl⟩,?_⟩
    cases h
    exact(Le.trans (Le.trans (Le.trans (Le.trans (Le.trans (Le.rnm [(0,0),(2,2),(3,3),(4,4),(5,5),(6,6)] [(4,.op 3 0),(6,.op 4 0),(8,.op 5 0),(9,.op 6 0),(10,.s (.int .i64 x4)),(11,.s (.int .i64 x5))] [(0,.box 71 [.s (.int .i64 x6),.s (.str x7),.s (.int .i64 x8),.s (.sl 4 (Nd.encs x9)),.s (.int .i64 x10),.s (.str x11),.s (.int .i64 x12),.s (.sl 4 (Nd.encs x13)),.orow 2,.s (.int .i64 x14)]),(2,.row 31 5 ((List.map zAd) l15)),(3,.box 57 [.s (.int .i64 x16),.s (.str x17),.s (.int .i64 x18),.s (.sl 4 (Nd.encs x19)),.s (.sl 5 ((List.map zAd) x20)),.s (.int .i64 x21)]),(4,.box 57 [.s (.int .i64 0),.s (.str []),.s (.int .i64 0),.nl 4,.nl 5,.s (.int .i64 0)]),(5,.box 29 [.nl 1,.nl 1]),(6,.box 29 [.nl 1,.nl 1])] 7 ⟨rfl,rfl,rfl,rfl,rfl,rfl,trivial⟩ ⟨rfl,⟨_,rfl,rfl⟩,rfl,⟨_,rfl,rfl⟩,rfl,⟨_,rfl,rfl⟩,rfl,⟨_,rfl,rfl⟩,rfl,⟨_,rfl,rfl⟩,rfl,⟨_,rfl,rfl⟩,trivial⟩) (Le.dropNil 5 0 rfl rfl)) (Le.dropNil 5 1 rfl rfl)) (Le.dropNil 6 0 rfl rfl)) (Le.dropNil 6 1 rfl rfl)) (Le.rnm [(0,0),(2,2),(3,3),(4,4),(5,5),(6,6)] _ _ _ ⟨rfl,rfl,rfl,rfl,rfl,rfl,trivial⟩ ⟨rfl,⟨_,rfl,rfl⟩,rfl,⟨_,rfl,rfl⟩,rfl,⟨_,rfl,rfl⟩,rfl,⟨_,rfl,rfl⟩,rfl,⟨_,rfl,rfl⟩,rfl,⟨_,rfl,rfl⟩,trivial⟩))
   ·refine zYV ?_;refine zAg rfl h (fun hb h=>?_) (fun hb h=>?_)
    ·refine zYV ?_;obtain⟨⟨⟨y33Q,y33Ab⟩,y34,⟨⟨w35H,w35I,w35J,w35K⟩,⟨w35M,w35N,w35O,w35P⟩,w35E,w35F⟩⟩,hy33,h⟩:=zAc h;refine⟨_,_,⟨_,_,_,_,_,_,_,_,_,_,_,_,_,_,_,_,_,_,_,_,_,_,_,hy33,rfl,rfl,rfl,rfl⟩,?_⟩
     show Tri ..
     refine zAh (Le.rnm [(0,0),(7,2),(3,3),(4,4),(5,5),(6,6)] [(4,.op 3 0),(6,.op 4 0),(8,.op 5 0),(9,.op 6 0),(10,.s (.int .i64 y34))] [(0,.box 71 [.s (.int .i64 w35H),.s (.str w35I),.s (.int .i64 w35J),.s (.sl 4 (Nd.encs w35K)),.s (.int .i64 w35M),.s (.str w35N),.s (.int .i64 w35O),.s (.sl 4 (Nd.encs w35P)),.orow 2,.s (.int .i64 w35F)]),(2,.row 31 5 ((List.map zAd) w35E)),(3,.box 57 [.s (.int .i64 a2H),.s (.str a2I),.s (.int .i64 a2J),.s (.sl 4 (Nd.encs a2K)),.s (.sl 5 ((List.map zAd) a2E)),.s (.int .i64 a2F)]),(4,.box 57 [.s (.int .i64 0),.s (.str []),.s (.int .i64 0),.nl 4,.nl 5,.s (.int .i64 0)]),(5,.box 29 [.s (.sl 1 ((List.map (irow .i64)) y33Q)),.s (.sl 1 ((List.map (irow .i64)) y33Ab))]),(6,.box 29 [.nl 1,.nl 1])] 7 ⟨rfl,rfl,rfl,rfl,rfl,trivial⟩ ⟨rfl,⟨_,rfl,rfl⟩,rfl,⟨_,rfl,rfl⟩,rfl,⟨_,rfl,rfl⟩,rfl,⟨_,rfl,rfl⟩,rfl,⟨_,rfl,rfl⟩,rfl,⟨_,rfl,rfl⟩,trivial⟩) ?_
     refine zYU ?_;obtain⟨⟨⟨⟨y36H,y36I,y36J,y36K⟩,y36E,y36F⟩,⟨y37Q,y37Ab⟩,y38⟩,hy36,h⟩:=zAc h;refine⟨_,⟨_,_,_,_,hy36,rfl,rfl⟩,?_⟩
     cases h;exact(Le.rnm [(0,0),(2,2),(3,3),(4,4),(5,5),(6,6)] _ _ _ ⟨rfl,rfl,rfl,rfl,rfl,rfl,trivial⟩ ⟨rfl,⟨_,rfl,rfl⟩,rfl,⟨_,rfl,rfl⟩,rfl,⟨_,rfl,rfl⟩,rfl,⟨_,rfl,rfl⟩,rfl,⟨_,rfl,rfl⟩,rfl,⟨_,rfl,rfl⟩,trivial⟩)
    ·refine zYV ?_;refine zAg rfl h (fun hb h=>?_) (fun hb h=>?_)
     ·refine zYV ?_;obtain⟨⟨⟨y39Q,y39Ab⟩,y40,⟨⟨w41H,w41I,w41J,w41K⟩,⟨w41M,w41N,w41O,w41P⟩,w41E,w41F⟩⟩,hy39,h⟩:=zAc h;refine⟨_,_,⟨_,_,_,_,_,_,_,_,_,_,_,_,_,_,_,_,_,_,_,_,_,_,_,hy39,rfl,rfl,rfl,rfl⟩,?_⟩
      show Tri ..
      refine zAh (Le.rnm [(0,0),(7,2),(3,3),(4,4),(5,5),(6,6)] [(4,.op 3 0),(6,.op 4 0),(8,.op 5 0),(9,.op 6 0),(10,.s (.int .i64 y40))] [(0,.box 71 [.s (.int .i64 w41H),.s (.str w41I),.s (.int .i64 w41J),.s (.sl 4 (Nd.encs w41K)),.s (.int .i64 w41M),.s (.str w41N),.s (.int .i64 w41O),.s (.sl 4 (Nd.encs w41P)),.orow 2,.s (.int .i64 w41F)]),(2,.row 31 5 ((List.map zAd) w41E)),(3,.box 57 [.s (.int .i64 a2H),.s (.str a2I),.s (.int .i64 a2J),.s (.sl 4 (Nd.encs a2K)),.s (.sl 5 ((List.map zAd) a2E)),.s (.int .i64 a2F)]),(4,.box 57 [.s (.int .i64 0),.s (.str []),.s (.int .i64 0),.nl 4,.nl 5,.s (.int .i64 0)]),(5,.box 29 [.s (.sl 1 ((List.map (irow .i64)) y39Q)),.s (.sl 1 ((List.map (irow .i64)) y39Ab))]),(6,.box 29 [.nl 1,.nl 1])] 7 ⟨rfl,rfl,rfl,rfl,rfl,trivial⟩ ⟨rfl,⟨_,rfl,rfl⟩,rfl,⟨_,rfl,rfl⟩,rfl,⟨_,rfl,rfl⟩,rfl,⟨_,rfl,rfl⟩,rfl,⟨_,rfl,rfl⟩,rfl,⟨_,rfl,rfl⟩,trivial⟩) ?_
      refine zYU ?_;obtain⟨⟨⟨⟨y42H,y42I,y42J,y42K⟩,y42E,y42F⟩,⟨y43Q,y43Ab⟩,y44⟩,hy42,h⟩:=zAc h;refine⟨_,⟨_,_,_,_,hy42,rfl,rfl⟩,?_⟩
      cases h;exact(Le.rnm [(0,0),(2,2),(3,3),(4,4),(5,5),(6,6)] _ _ _ ⟨rfl,rfl,rfl,rfl,rfl,rfl,trivial⟩ ⟨rfl,⟨_,rfl,rfl⟩,rfl,⟨_,rfl,rfl⟩,rfl,⟨_,rfl,rfl⟩,rfl,⟨_,rfl,rfl⟩,rfl,⟨_,rfl,rfl⟩,rfl,⟨_,rfl,rfl⟩,trivial⟩)
     ·refine zYV ?_;obtain⟨⟨y45,⟨⟨w46H,w46I,w46J,w46K⟩,⟨w46M,w46N,w46O,w46P⟩,w46E,w46F⟩⟩,hy45,h⟩:=zAc h;refine⟨_,_,⟨_,_,_,_,_,_,_,_,_,_,_,_,_,_,_,_,_,_,_,_,_,_,_,hy45,rfl,rfl,rfl,rfl⟩,?_⟩
      show Tri ..
      refine zAh (Le.rnm [(0,0),(7,2),(3,3),(4,4),(5,5),(6,6)] [(4,.op 3 0),(5,.s (.pt [.int .i64 a3A,.sl 8 ((List.map zAk) a3Ar),.sl 1 ((List.map (irow .i64)) a3Bd),.sl 1 ((List.map (irow .i64)) a3Be),.sl 1 ((List.map (irow .i64)) a3Bf),.sl 1 ((List.map (irow .i64)) a3Bg),.sl 1 ((List.map (irow .i64)) a3Aw),.sl 1 ((List.map (irow .i64)) a3Ax),.int .i64 a3Ay,.sl 4 (Nd.encs a3Az),.int .i64 a3Ba,.str a3Bb,.bool a3Bc,.int .i64 a3S])),(6,.op 4 0),(8,.op 5 0),(9,.op 6 0),(10,.s (.int .i64 y45))] [(0,.box 71 [.s (.int .i64 w46H),.s (.str w46I),.s (.int .i64 w46J),.s (.sl 4 (Nd.encs w46K)),.s (.int .i64 w46M),.s (.str w46N),.s (.int .i64 w46O),.s (.sl 4 (Nd.encs w46P)),.orow 2,.s (.int .i64 w46F)]),(2,.row 31 5 ((List.map zAd) w46E)),(3,.box 57 [.s (.int .i64 a2H),.s (.str a2I),.s (.int .i64 a2J),.s (.sl 4 (Nd.encs a2K)),.s (.sl 5 ((List.map zAd) a2E)),.s (.int .i64 a2F)]),(4,.box 57 [.s (.int .i64 0),.s (.str []),.s (.int .i64 0),.nl 4,.nl 5,.s (.int .i64 0)]),(5,.box 29 [.nl 1,.nl 1]),(6,.box 29 [.nl 1,.nl 1])] 7 ⟨rfl,rfl,rfl,rfl,rfl,rfl,trivial⟩ ⟨rfl,⟨_,rfl,rfl⟩,rfl,⟨_,rfl,rfl⟩,rfl,⟨_,rfl,rfl⟩,rfl,⟨_,rfl,rfl⟩,rfl,⟨_,rfl,rfl⟩,rfl,⟨_,rfl,rfl⟩,trivial⟩) ?_
      refine zYU ?_;obtain⟨⟨⟨⟨y47H,y47I,y47J,y47K⟩,y47E,y47F⟩,y48⟩,hy47,h⟩:=zAc h;refine⟨_,⟨_,_,_,_,hy47,rfl,rfl⟩,?_⟩
      cases h
      exact(Le.trans (Le.trans (Le.trans (Le.trans (Le.trans (Le.rnm [(0,0),(2,2),(3,3),(4,4),(5,5),(6,6)] [(4,.op 3 0),(6,.op 4 0),(8,.op 5 0),(9,.op 6 0),(10,.s (.int .i64 x4)),(11,.s (.int .i64 x5))] [(0,.box 71 [.s (.int .i64 x6),.s (.str x7),.s (.int .i64 x8),.s (.sl 4 (Nd.encs x9)),.s (.int .i64 x10),.s (.str x11),.s (.int .i64 x12),.s (.sl 4 (Nd.encs x13)),.orow 2,.s (.int .i64 x14)]),(2,.row 31 5 ((List.map zAd) l15)),(3,.box 57 [.s (.int .i64 x16),.s (.str x17),.s (.int .i64 x18),.s (.sl 4 (Nd.encs x19)),.s (.sl 5 ((List.map zAd) x20)),.s (.int .i64 x21)]),(4,.box 57 [.s (.int .i64 0),.s (.str []),.s (.int .i64 0),.nl 4,.nl 5,.s (.int .i64 0)]),(5,.box 29 [.nl 1,.nl 1]),(6,.box 29 [.nl 1,.nl 1])] 7 ⟨rfl,rfl,rfl,rfl,rfl,rfl,trivial⟩ ⟨rfl,⟨_,rfl,rfl⟩,rfl,⟨_,rfl,rfl⟩,rfl,⟨_,rfl,rfl⟩,rfl,⟨_,rfl,rfl⟩,rfl,⟨_,rfl,rfl⟩,rfl,⟨_,rfl,rfl⟩,trivial⟩) (Le.dropNil 5 0 rfl rfl)) (Le.dropNil 5 1 rfl rfl)) (Le.dropNil 6 0 rfl rfl)) (Le.dropNil 6 1 rfl rfl)) (Le.rnm [(0,0),(2,2),(3,3),(4,4),(5,5),(6,6)] _ _ _ ⟨rfl,rfl,rfl,rfl,rfl,rfl,trivial⟩ ⟨rfl,⟨_,rfl,rfl⟩,rfl,⟨_,rfl,rfl⟩,rfl,⟨_,rfl,rfl⟩,rfl,⟨_,rfl,rfl⟩,rfl,⟨_,rfl,rfl⟩,rfl,⟨_,rfl,rfl⟩,trivial⟩))
 ·refine zAh hle ?_;refine zAa ?_;obtain⟨x49,hj,h⟩:=zAc h;refine zAm ⟨ofL [(6,.op 3 0),(7,.s (.bool x49))],ofH [(0,.box 71 [.s (.int .i64 x6),.s (.str x7),.s (.int .i64 x8),.s (.sl 4 (Nd.encs x9)),.s (.int .i64 x10),.s (.str x11),.s (.int .i64 x12),.s (.sl 4 (Nd.encs x13)),.orow 2,.s (.int .i64 x14)]),(2,.row 31 5 ((List.map zAd) l15)),(3,.box 57 [.s (.int .i64 x16),.s (.str x17),.s (.int .i64 x18),.s (.sl 4 (Nd.encs x19)),.s (.sl 5 ((List.map zAd) x20)),.s (.int .i64 x21)])],4⟩ ?_ (fun σ' hle=>?_)
  ·replace h:=hj;refine zAA [] [72] [0,5,6,9] rfl (by decide +kernel) ?_;intro b hb;cases b with
   | true =>
    replace h:=zAu hb.symm h;obtain⟨y50,hy50,h⟩:=zAc h;refine⟨_,⟨_,_,_,_,hy50,rfl,rfl⟩,?_⟩
    cases h;exact(Le.rnm [(0,0),(2,2),(4,3)] _ _ _ ⟨rfl,rfl,trivial⟩ ⟨rfl,⟨_,rfl,rfl⟩,rfl,⟨_,rfl,rfl⟩,rfl,⟨_,rfl,rfl⟩,trivial⟩)
   | false =>
    replace h:=zAt hb.symm h;cases h;exact(Le.rnm [(0,0),(2,2),(4,3)] _ _ _ ⟨rfl,rfl,trivial⟩ ⟨rfl,⟨_,rfl,rfl⟩,rfl,⟨_,rfl,rfl⟩,rfl,⟨_,rfl,rfl⟩,trivial⟩)
  ·refine zAh hle ?_;refine zAe ?_;have hj0:=osi h;obtain⟨hv0,hw0⟩:=Prod.mk.inj hj0;subst hv0;obtain⟨hv1,hw1⟩:=Prod.mk.inj hw0;subst hv1;obtain⟨he1T,hr1T⟩:=Prod.mk.inj hw1;obtain⟨he1U,hr1U⟩:=Prod.mk.inj hr1T;obtain⟨he1Ad,he1Ae⟩:=Prod.mk.inj hr1U;obtain⟨he2T,he2U,he2Ad,he2Ae⟩:=Nd.mk.inj he1T;subst he2T;subst he2U;subst he2Ad;subst he2Ae;obtain⟨he3T,he3U,he3Ad,he3Ae⟩:=Nd.mk.inj he1U;subst he3T;subst he3U;subst he3Ad;subst he3Ae;subst he1Ad;subst he1Ae;unfold zBN
   exact⟨_,(Le.rnm [(0,0),(2,2),(3,3)] [(6,.op 3 0),(7,.s (.bool x49))] [(0,.box 71 [.s (.int .i64 x6),.s (.str x7),.s (.int .i64 x8),.s (.sl 4 (Nd.encs x9)),.s (.int .i64 x10),.s (.str x11),.s (.int .i64 x12),.s (.sl 4 (Nd.encs x13)),.orow 2,.s (.int .i64 x14)]),(2,.row 31 5 ((List.map zAd) l15)),(3,.box 57 [.s (.int .i64 x16),.s (.str x17),.s (.int .i64 x18),.s (.sl 4 (Nd.encs x19)),.s (.sl 5 ((List.map zAd) x20)),.s (.int .i64 x21)])] 4 ⟨rfl,rfl,trivial⟩ ⟨rfl,⟨_,rfl,rfl⟩,rfl,⟨_,rfl,rfl⟩,rfl,⟨_,rfl,rfl⟩,trivial⟩),rfl,rfl,rfl,rfl,rfl,rfl,trivial⟩
def zGT (xs:List AV) (os:List Ob) (x:AV) (os':List (Option Ob)):Prop:=∃ (a0H:Int) (a0I:List UInt8) (a0J:Int) (a0K:List Nd) (a0M:Int) (a0N:List UInt8) (a0O:Int) (a0P:List Nd) (a0E:List zRc) (a0F:Int) (y0:Nd) (z0H:Int) (z0I:List UInt8) (z0J:Int) (z0K:List Nd) (z0M:Int) (z0N:List UInt8) (z0O:Int) (z0P:List Nd) (z0E:List zRc) (z0F:Int),zBq (Nd.mk a0H a0I a0J a0K,Nd.mk a0M a0N a0O a0P,a0E,a0F)=some (y0,(Nd.mk z0H z0I z0J z0K,Nd.mk z0M z0N z0O z0P,z0E,z0F))/\xs=[.op 0 0]/\os=[.box 71 [.s (.int .i64 a0H),.s (.str a0I),.s (.int .i64 a0J),.s (.sl 4 (Nd.encs a0K)),.s (.int .i64 a0M),.s (.str a0N),.s (.int .i64 a0O),.s (.sl 4 (Nd.encs a0P)),.orow 1,.s (.int .i64 a0F)],.row 31 5 ((List.map zAd) a0E)]/\x = .agg ((Nd.enc y0).map .s)/\os'=[some (.box 71 [.s (.int .i64 z0H),.s (.str z0I),.s (.int .i64 z0J),.s (.sl 4 (Nd.encs z0K)),.s (.int .i64 z0M),.s (.str z0N),.s (.int .i64 z0O),.s (.sl 4 (Nd.encs z0P)),.orow 2,.s (.int .i64 z0F)]),none,some (.row 31 5 ((List.map zAd) z0E))]
def zEf:zAq:=zD5 (fun xs os x os'=>zGT xs os x os')
theorem zGP:PSound Tryz.prog 24 zEf:=by
 have gok:∀ f s,look? f [(29,zDi)]=some s->PSound Tryz.prog f s:=zAo (by
  simp only[List.forall_mem_cons]
  exact⟨zDy,by simp⟩)
 refine PSound.withNil (zGB tokW Tryz.call24 Tryz.func24 rfl (fun xs os x os' h=>by obtain⟨_,_,_,_,_,_,_,_,_,_,_,_,_,_,_,_,_,_,_,_,_,_,rfl,rfl,_,rfl⟩:=h; exact⟨by show 1<=11; decide,by show 2<=3; decide⟩) 11 rfl ?_) _;rintro xs os x os' w0 G0 B0 ⟨o1H,o1I,o1J,o1K,o1M,o1N,o1O,o1P,o1E,o1F,y0,z0H,z0I,z0J,z0K,z0M,z0N,z0O,z0P,z0E,z0F,h,rfl,rfl,rfl,rfl⟩ _;rw[zBq]at h;refine zYf [2] [] rfl ?_;show Tri ..
 refine zAa ?_;refine zYV ?_;refine zAE rfl (fun h=>by cases h) (fun _=>?_)
 refine zAf ?_;refine zYV ?_;obtain⟨⟨y2A,y2C,y2D,y2B⟩,hy2,h⟩:=zAc h;refine⟨_,⟨_,_,hy2,rfl,rfl⟩,?_⟩
 refine zAe ?_;have hj0:=osi h;obtain⟨hv0,hw0⟩:=Prod.mk.inj hj0;subst hv0;obtain⟨he1T,hr1T⟩:=Prod.mk.inj hw0;obtain⟨he1U,hr1U⟩:=Prod.mk.inj hr1T;obtain⟨he1Ad,he1Ae⟩:=Prod.mk.inj hr1U;obtain⟨he2T,he2U,he2Ad,he2Ae⟩:=Nd.mk.inj he1T;subst he2T;subst he2U;subst he2Ad;subst he2Ae;obtain⟨he3T,he3U,he3Ad,he3Ae⟩:=Nd.mk.inj he1U;subst he3T;subst he3U;subst he3Ad;subst he3Ae;subst he1Ad;subst he1Ae;unfold zBN
 exact⟨_,(Le.rnm [(0,0),(1,2),(2,3)] [(2,.op 3 0)] [(0,.box 71 [.s (.int .i64 o1H),.s (.str o1I),.s (.int .i64 o1J),.s (.sl 4 (Nd.encs o1K)),.s (.int .i64 o1M),.s (.str o1N),.s (.int .i64 o1O),.s (.sl 4 (Nd.encs o1P)),.orow 2,.s (.int .i64 o1F)]),(2,.row 31 5 ((List.map zAd) o1E)),(3,.box 24 [.s (.int .i64 y2A),.s (.str y2C),.s (.int .i64 y2D),.s (.sl 4 (Nd.encs y2B))])] 4 ⟨rfl,trivial⟩ ⟨rfl,⟨_,rfl,rfl⟩,rfl,⟨_,rfl,rfl⟩,rfl,⟨_,rfl,rfl⟩,trivial⟩),rfl,rfl,rfl,rfl,rfl,rfl,trivial⟩
def zTV (n:Nat) (xs:List AV) (r:Ret):Prop:=∃ (a0:zO8) (a1:zO8) (y0:Bool),zFR n a0 a1=some y0/\xs=[.agg ((zAk a0).map .s),.agg ((zAk a1).map .s)]/\r = .val (.s (.bool y0))
def zNS:zAq:=zAs fun xs r=>∃ n,zTV n xs r
theorem zSA:PSound Tryz.prog 101 zNS:=by
 have gok:∀ f s,look? f [(33,zF2)]=some s->PSound Tryz.prog f s:=zAo (by
  simp only[List.forall_mem_cons]
  exact⟨zHD,by simp⟩)
 refine zAr tokW Tryz.call101 Tryz.func101 rfl (fun xs r h=>by obtain⟨n,_,_,_,_,rfl,_⟩:=h; show 2<=78; decide) 78 rfl ?_;rintro xs r w0 G0 ⟨n,⟨a1A,a1G,a1L,a1S,a1R,a1V,a1Ac,a1C⟩,⟨a2A,a2G,a2L,a2S,a2R,a2V,a2Ac,a2C⟩,y0,h,rfl,rfl⟩ _;rw[zFR]at h;refine zYV ?_;refine zAa ?_;refine zAa ?_;obtain⟨x3,hj,h⟩:=zAc h
 refine zAm ⟨ofL [(2,.s (.pt [.int .i64 a1A,.sl 1 ((List.map (irow .i64)) a1G),.int .i64 a1L,.int .i64 a1S,.sl 4 (Nd.encs a1R),.int .i64 a1V,.str a1Ac,.str a1C])),(3,.s (.pt [.int .i64 a2A,.sl 1 ((List.map (irow .i64)) a2G),.int .i64 a2L,.int .i64 a2S,.sl 4 (Nd.encs a2R),.int .i64 a2V,.str a2Ac,.str a2C])),(54,.s (.bool x3))],fun _=>none,0⟩ ?_ (fun σ' hle=>?_)
 ·replace h:=hj;refine zAb [] [11,18,25,32,39,46,49,52] rfl ?_;intro b hb;cases b with
  | true =>
   replace h:=zAu hb.symm h;intro b hb;subst hb;intro b hb;subst hb;intro b hb;subst hb;intro b hb;subst hb;intro b hb;subst hb;cases h;exact(Le.forget _ ⟨rfl,rfl,rfl,trivial⟩)
  | false =>
   replace h:=zAt hb.symm h;intro b hb;cases b with
   | true =>
    replace h:=zAu hb.symm h;intro b hb;subst hb;intro b hb;subst hb;intro b hb;subst hb;intro b hb;subst hb;cases h;exact(Le.forget _ ⟨rfl,rfl,rfl,trivial⟩)
   | false =>
    replace h:=zAt hb.symm h;intro b hb;cases b with
    | true =>
     replace h:=zAu hb.symm h;intro b hb;subst hb;intro b hb;subst hb;intro b hb;subst hb;cases h;exact(Le.forget _ ⟨rfl,rfl,rfl,trivial⟩)
    | false =>
     replace h:=zAt hb.symm h;intro b hb;cases b with
     | true =>
      replace h:=zAu hb.symm h;intro b hb;subst hb;intro b hb;subst hb;cases h;exact(Le.forget _ ⟨rfl,rfl,rfl,trivial⟩)
     | false =>
      replace h:=zAt hb.symm h;intro b hb;cases b with
      | true =>
       replace h:=zAu hb.symm h;intro b hb;subst hb;cases h;exact(Le.forget _ ⟨rfl,rfl,rfl,trivial⟩)
      | false =>
       replace h:=zAt hb.symm h;intro b hb;cases b with
       | true =>
        replace h:=zAu hb.symm h;cases h;exact(Le.forget _ ⟨rfl,rfl,rfl,trivial⟩)
       | false =>
        replace h:=zAt hb.symm h;intro n4 hn4;obtain rfl:(a1G.length:Int)=n4:=(hn4.trans (congrArg (fun m:Nat=>(m:Int)) (rlen (fun _=>rfl) a1G))).symm;intro n5 hn5;obtain rfl:(a2G.length:Int)=n5:=(hn5.trans (congrArg (fun m:Nat=>(m:Int)) (rlen (fun _=>rfl) a2G))).symm;cases h;exact(Le.forget _ ⟨rfl,rfl,rfl,trivial⟩)
 ·refine zAh hle ?_;refine zAg rfl h (fun hb h=>?_) (fun hb h=>?_)
  ·refine zYV ?_;refine zAe ?_;have hy:=osi h;subst hy;exact fin0 rfl rfl
  ·refine zAf ?_;refine zAa ?_;refine zYV ?_;show Tri ..;obtain⟨fl,hl,ho1⟩:=zAc h;refine zBA (fl:=fl) (fun z=>match z with | _=>⟨ofL [(2,.s (.pt [.int .i64 a1A,.sl 1 ((List.map (irow .i64)) a1G),.int .i64 a1L,.int .i64 a1S,.sl 4 (Nd.encs a1R),.int .i64 a1V,.str a1Ac,.str a1C])),(3,.s (.pt [.int .i64 a2A,.sl 1 ((List.map (irow .i64)) a2G),.int .i64 a2L,.int .i64 a2S,.sl 4 (Nd.encs a2R),.int .i64 a2V,.str a2Ac,.str a2C]))],fun _=>none,0⟩) ?_ (fun z σ' hz hle=>?_)
   ·refine zAl (zAy (X:=Nat×Int) (fun y=>match y with | (k,x6)=>⟨ofL [(2,.s (.pt [.int .i64 a1A,.sl 1 ((List.map (irow .i64)) a1G),.int .i64 a1L,.int .i64 a1S,.sl 4 (Nd.encs a1R),.int .i64 a1V,.str a1Ac,.str a1C])),(3,.s (.pt [.int .i64 a2A,.sl 1 ((List.map (irow .i64)) a2G),.int .i64 a2L,.int .i64 a2S,.sl 4 (Nd.encs a2R),.int .i64 a2V,.str a2Ac,.str a2C])),(5,.s (.int .i64 x6))],fun _=>none,0⟩) (fun y=>zCX a1G a2G y.1 y.2=some fl) (fun y=>y.1) (n,0) hl ?_ ?_)
    ·exact(Le.forget _ ⟨rfl,rfl,rfl,trivial⟩)
    ·rintro⟨k,x6⟩ h;cases k with
     | zero=>cases h
     | succ k =>
      replace h:zCX a1G a2G (k+1) x6=some fl:=h;rw[zCX]at h;refine zAa ?_;refine zYf [] [58] rfl ?_;intro n7 hn7;obtain rfl:(a1G.length:Int)=n7:=(hn7.trans (congrArg (fun m:Nat=>(m:Int)) (rlen (fun _=>rfl) a1G))).symm;refine zAg rfl h (fun hb h=>?_) (fun hb h=>?_)
      ·refine zAf ?_;refine zAa ?_;refine zAl ?_;refine zAa ?_;refine zAA [] [65,70] [] rfl (by decide +kernel) ?_;obtain⟨e8,he8,h⟩:=zAc h;refine And.intro (zAp (fun _=>rfl) he8).1 ?_;intro r9 hr9;obtain rfl:[.int .i64 e8]=r9:=(hr9.trans (zAp (fun _=>rfl) he8).2.1).symm;obtain⟨e10,he10,h⟩:=zAc h;refine And.intro (zAp (fun _=>rfl) he10).1 ?_;intro r11 hr11;obtain rfl:[.int .i64 e10]=r11:=(hr11.trans (zAp (fun _=>rfl) he10).2.1).symm;refine zAg rfl h (fun hb h=>?_) (fun hb h=>?_)
       ·refine zYV ?_;refine zAe ?_;cases h;replace h:some _=some _:=ho1;have hy:=osi h;subst hy;exact fin0 rfl rfl
       ·refine zAf ?_;refine zYU ?_;refine⟨(k,IntKind.i64.wrap (x6+1)),h,(Le.forget _ ⟨rfl,rfl,rfl,trivial⟩),Nat.lt_succ_self k⟩
      ·refine zAC ?_;cases h;exact⟨_,rfl,(Le.forget _ ⟨rfl,rfl,trivial⟩)⟩
   ·subst hz;obtain _:=z;replace h:=ho1;refine zAh hle ?_;refine zYV ?_;obtain⟨y12,hy12,h⟩:=zAc h;refine⟨_,⟨_,_,_,_,hy12,rfl,rfl⟩,?_⟩
    refine zAe ?_;have hy:=osi h;subst hy;exact fin0 rfl rfl
def zOW (n:Nat) (xs:List AV) (r:Ret):Prop:=∃ (a0:List zO8) (a1:List zO8) (y0:Bool),zFD n a0 a1=some y0/\xs=[.s (.sl 8 ((List.map zAk) a0)),.s (.sl 8 ((List.map zAk) a1))]/\r = .val (.s (.bool y0))
def zJU:zAq:=zAs fun xs r=>∃ n,zOW n xs r
theorem zNu:PSound Tryz.prog 67 zJU:=by
 have gok:∀ f s,look? f [(101,zNS)]=some s->PSound Tryz.prog f s:=zAo (by
  simp only[List.forall_mem_cons]
  exact⟨zSA,by simp⟩)
 refine zAr tokW Tryz.call67 Tryz.func67 rfl (fun xs r h=>by obtain⟨n,_,_,_,_,rfl,_⟩:=h; show 2<=27; decide) 27 rfl ?_;rintro xs r w0 G0 ⟨n,a1,b2,y0,h,rfl,rfl⟩ _;rw[zFD]at h;refine zYV ?_;refine zAa ?_;refine zYf [] [7,9] rfl ?_;intro n3 hn3;obtain rfl:(a1.length:Int)=n3:=(hn3.trans (congrArg (fun m:Nat=>(m:Int)) (rlen (fun _=>rfl) a1))).symm;intro n4 hn4;obtain rfl:(b2.length:Int)=n4:=(hn4.trans (congrArg (fun m:Nat=>(m:Int)) (rlen (fun _=>rfl) b2))).symm;refine zAg rfl h (fun hb h=>?_) (fun hb h=>?_)
 ·refine zYV ?_;refine zAe ?_;have hy:=osi h;subst hy;exact fin0 rfl rfl
 ·refine zAf ?_;refine zAa ?_;refine zYV ?_;show Tri ..;obtain⟨fl,hl,ho1⟩:=zAc h;refine zBA (fl:=fl) (fun z=>match z with | _=>⟨ofL [],fun _=>none,0⟩) ?_ (fun z σ' hz hle=>?_)
  ·refine zAl (zAy (X:=Nat×Int) (fun y=>match y with | (k,i5)=>⟨ofL [(0,.s (.sl 8 ((List.map zAk) a1))),(1,.s (.sl 8 ((List.map zAk) b2))),(5,.s (.int .i64 i5))],fun _=>none,0⟩) (fun y=>zBU n a1 b2 y.1 y.2=some fl) (fun y=>y.1) (n,0) hl ?_ ?_)
   ·exact(Le.forget _ ⟨rfl,rfl,rfl,trivial⟩)
   ·rintro⟨k,i5⟩ h;cases k with
    | zero=>cases h
    | succ k =>
     replace h:zBU n a1 b2 (k+1) i5=some fl:=h;rw[zBU]at h;refine zAa ?_;refine zYf [] [13] rfl ?_;intro n6 hn6;obtain rfl:(a1.length:Int)=n6:=(hn6.trans (congrArg (fun m:Nat=>(m:Int)) (rlen (fun _=>rfl) a1))).symm;refine zAg rfl h (fun hb h=>?_) (fun hb h=>?_)
     ·refine zAf ?_;refine zAa ?_;refine zAl ?_;refine zAa ?_;refine zAA [] [19,23] [] rfl (by decide +kernel) ?_;obtain⟨⟨e7A,e7G,e7L,e7S,e7R,e7V,e7Ac,e7C⟩,he7,h⟩:=zAc h;refine And.intro (zAp (fun _=>rfl) he7).1 ?_;intro r8 hr8;obtain rfl:[.int .i64 e7A,.sl 1 ((List.map (irow .i64)) e7G),.int .i64 e7L,.int .i64 e7S,.sl 4 (Nd.encs e7R),.int .i64 e7V,.str e7Ac,.str e7C]=r8:=(hr8.trans (zAp (fun _=>rfl) he7).2.1).symm;obtain⟨⟨e9A,e9G,e9L,e9S,e9R,e9V,e9Ac,e9C⟩,he9,h⟩:=zAc h;refine And.intro (zAp (fun _=>rfl) he9).1 ?_
      intro r10 hr10;obtain rfl:[.int .i64 e9A,.sl 1 ((List.map (irow .i64)) e9G),.int .i64 e9L,.int .i64 e9S,.sl 4 (Nd.encs e9R),.int .i64 e9V,.str e9Ac,.str e9C]=r10:=(hr10.trans (zAp (fun _=>rfl) he9).2.1).symm;obtain⟨y11,hy11,h⟩:=zAc h;refine⟨_,⟨_,_,_,_,hy11,rfl,rfl⟩,?_⟩
      refine zAg rfl h (fun hb h=>?_) (fun hb h=>?_)
      ·refine zYV ?_;refine zAe ?_;cases h;replace h:some _=some _:=ho1;have hy:=osi h;subst hy;exact fin0 rfl rfl
      ·refine zAf ?_;refine zYU ?_;refine⟨(k,IntKind.i64.wrap (i5+1)),h,(Le.forget _ ⟨rfl,rfl,rfl,trivial⟩),Nat.lt_succ_self k⟩
     ·refine zAC ?_;cases h;exact⟨_,rfl,(Le.forget _ trivial)⟩
  ·subst hz;obtain _:=z;replace h:=ho1;refine zAh hle ?_;refine zYV ?_;refine zAe ?_;have hy:=osi h;subst hy;exact fin0 rfl rfl
def zTX (n:Nat) (xs:List AV) (r:Ret):Prop:=∃ (a0:zRc) (a1:zRc) (y0:Bool),zG9 n a0 a1=some y0/\xs=[.agg ((zAd a0).map .s),.agg ((zAd a1).map .s)]/\r = .val (.s (.bool y0))
def zNU:zAq:=zAs fun xs r=>∃ n,zTX n xs r
theorem zSC:PSound Tryz.prog 44 zNU:=by
 have gok:∀ f s,look? f [(67,zJU),(15,zFr)]=some s->PSound Tryz.prog f s:=zAo (by
  simp only[List.forall_mem_cons]
  exact⟨zNu,zHd,by simp⟩)
 refine zAr tokW Tryz.call44 Tryz.func44 rfl (fun xs r h=>by obtain⟨n,_,_,_,_,rfl,_⟩:=h; show 2<=24; decide) 24 rfl ?_;rintro xs r w0 G0 ⟨n,⟨a1W,⟨a1X,a1Y⟩,⟨a1Z,a1Aa⟩⟩,⟨b2W,⟨b2X,b2Y⟩,⟨b2Z,b2Aa⟩⟩,y0,h,rfl,rfl⟩ _;rw[zG9]at h;refine zYV ?_;refine zAa ?_;obtain⟨x3,hj,h⟩:=zAc h;refine zAm ⟨ofL [(4,.s (.bool x3))],fun _=>none,0⟩ ?_ (fun σ' hle=>?_)
 ·replace h:=hj;refine zAb [] [10,17] rfl ?_;obtain⟨y4,hy4,h⟩:=zAc h;refine⟨_,⟨_,_,_,_,hy4,rfl,rfl⟩,?_⟩
  intro b hb;cases b with
  | true =>
   replace h:=zAu hb.symm h;obtain⟨y5,hy5,h⟩:=zAc h;refine⟨_,⟨_,_,_,_,hy5,rfl,rfl⟩,?_⟩
   intro b hb;cases b with
   | true =>
    replace h:=zAu hb.symm h;obtain⟨y6,hy6,h⟩:=zAc h;refine⟨_,⟨_,_,_,_,hy6,rfl,rfl⟩,?_⟩
    cases h;exact(Le.forget _ ⟨rfl,trivial⟩)
   | false =>
    replace h:=zAt hb.symm h;cases h;exact(Le.forget _ ⟨rfl,trivial⟩)
  | false =>
   replace h:=zAt hb.symm h;intro b hb;subst hb;cases h;exact(Le.forget _ ⟨rfl,trivial⟩)
 ·refine zAh hle ?_;refine zAe ?_;have hy:=osi h;subst hy;exact fin0 rfl rfl
def zTL (n:Nat) (xs:List AV) (os:List Ob) (x:AV) (os':List (Option Ob)):Prop:=∃ (a0H:Int) (a0I:List UInt8) (a0J:Int) (a0K:List Nd) (a0M:Int) (a0N:List UInt8) (a0O:Int) (a0P:List Nd) (a0E:List zRc) (a0F:Int) (a1:(Nd×List zRc×Int)) (y0:Bool) (z0H:Int) (z0I:List UInt8) (z0J:Int) (z0K:List Nd) (z0M:Int) (z0N:List UInt8) (z0O:Int) (z0P:List Nd) (z0E:List zRc) (z0F:Int),zFN n (Nd.mk a0H a0I a0J a0K,Nd.mk a0M a0N a0O a0P,a0E,a0F) a1=some (y0,(Nd.mk z0H z0I z0J z0K,Nd.mk z0M z0N z0O z0P,z0E,z0F))/\xs=[.op 0 0,.agg ((zAv a1).map .s)]/\os=[.box 71 [.s (.int .i64 a0H),.s (.str a0I),.s (.int .i64 a0J),.s (.sl 4 (Nd.encs a0K)),.s (.int .i64 a0M),.s (.str a0N),.s (.int .i64 a0O),.s (.sl 4 (Nd.encs a0P)),.orow 1,.s (.int .i64 a0F)],.row 31 5 ((List.map zAd) a0E)]/\x = .s (.bool y0)/\os'=[some (.box 71 [.s (.int .i64 z0H),.s (.str z0I),.s (.int .i64 z0J),.s (.sl 4 (Nd.encs z0K)),.s (.int .i64 z0M),.s (.str z0N),.s (.int .i64 z0O),.s (.sl 4 (Nd.encs z0P)),.orow 2,.s (.int .i64 z0F)]),none,some (.row 31 5 ((List.map zAd) z0E))]
def zNH:zAq:=zD5 (fun xs os x os'=>∃ n,zTL n xs os x os')
theorem zSp:PSound Tryz.prog 23 zNH:=by
 have gok:∀ f s,look? f [(17,zCx),(19,zEH),(10,zDc),(39,zIy),(13,zJm),(24,zEf),(44,zNU)]=some s->PSound Tryz.prog f s:=zAo (by
  simp only[List.forall_mem_cons]
  exact⟨zDW,zHv,zEE,zJA,zLg,zGP,zSC,by simp⟩)
 refine PSound.withNil (zGB tokW Tryz.call23 Tryz.func23 rfl (fun xs os x os' h=>by obtain⟨n,_,_,_,_,_,_,_,_,_,_,_,_,_,_,_,_,_,_,_,_,_,_,_,rfl,rfl,_,rfl⟩:=h; exact⟨by show 2<=55; decide,by show 2<=3; decide⟩) 55 rfl ?_) _;rintro xs os x os' w0 G0 B0 ⟨n,o1H,o1I,o1J,o1K,o1M,o1N,o1O,o1P,o1E,o1F,⟨⟨r2H,r2I,r2J,r2K⟩,r2E,r2F⟩,y0,z0H,z0I,z0J,z0K,z0M,z0N,z0O,z0P,z0E,z0F,h,rfl,rfl,rfl,rfl⟩ _
 rw[zFN]at h;refine zYV ?_;refine zYV ?_;obtain⟨⟨y3,⟨⟨w4H,w4I,w4J,w4K⟩,⟨w4M,w4N,w4O,w4P⟩,w4E,w4F⟩⟩,hy3,h⟩:=zAc h;refine⟨_,_,⟨_,_,_,_,_,_,_,_,_,_,_,_,_,_,_,_,_,_,_,_,_,_,hy3,rfl,rfl,rfl,rfl⟩,?_⟩
 show Tri ..
 refine zAh (Le.rnm [(0,0),(2,2)] [(0,.op 0 0),(3,.s (.pt [.int .i64 r2H,.str r2I,.int .i64 r2J,.sl 4 (Nd.encs r2K),.sl 5 ((List.map zAd) r2E),.int .i64 r2F])),(5,.s (.sl 5 ((List.map zAd) y3)))] [(0,.box 71 [.s (.int .i64 w4H),.s (.str w4I),.s (.int .i64 w4J),.s (.sl 4 (Nd.encs w4K)),.s (.int .i64 w4M),.s (.str w4N),.s (.int .i64 w4O),.s (.sl 4 (Nd.encs w4P)),.orow 2,.s (.int .i64 w4F)]),(2,.row 31 5 ((List.map zAd) w4E))] 3 ⟨rfl,rfl,rfl,trivial⟩ ⟨rfl,⟨_,rfl,rfl⟩,rfl,⟨_,rfl,rfl⟩,trivial⟩) ?_
 refine zAa ?_;refine zAa ?_;obtain⟨⟨x5,x6,x7,x8,x9,x10,x11,x12,x13,x14,l15⟩,hj,h⟩:=zAc h;refine zAm ⟨ofL [(3,.s (.pt [.int .i64 r2H,.str r2I,.int .i64 r2J,.sl 4 (Nd.encs r2K),.sl 5 ((List.map zAd) r2E),.int .i64 r2F])),(5,.s (.sl 5 ((List.map zAd) y3))),(37,.s (.bool x5))],ofH [(0,.box 71 [.s (.int .i64 x6),.s (.str x7),.s (.int .i64 x8),.s (.sl 4 (Nd.encs x9)),.s (.int .i64 x10),.s (.str x11),.s (.int .i64 x12),.s (.sl 4 (Nd.encs x13)),.orow 2,.s (.int .i64 x14)]),(2,.row 31 5 ((List.map zAd) l15))],3⟩ ?_ (fun σ' hle=>?_)
 ·replace h:=hj;refine zAA [] [10,13,15,22,30] [8,15,23] rfl (by decide +kernel) ?_;intro n16 hn16;obtain rfl:(y3.length:Int)=n16:=(hn16.trans (congrArg (fun m:Nat=>(m:Int)) (rlen (fun _=>rfl) y3))).symm;intro n17 hn17;obtain rfl:(r2E.length:Int)=n17:=(hn17.trans (congrArg (fun m:Nat=>(m:Int)) (rlen (fun _=>rfl) r2E))).symm;intro b hb;cases b with
  | true =>
   replace h:=zAu hb.symm h;intro b hb;subst hb;intro b hb;subst hb;cases h;exact(Le.rnm [(0,0),(2,2)] _ _ _ ⟨rfl,rfl,rfl,trivial⟩ ⟨rfl,⟨_,rfl,rfl⟩,rfl,⟨_,rfl,rfl⟩,trivial⟩)
  | false =>
   replace h:=zAt hb.symm h;obtain⟨⟨y18,⟨⟨w19H,w19I,w19J,w19K⟩,⟨w19M,w19N,w19O,w19P⟩,w19E,w19F⟩⟩,hy18,h⟩:=zAc h;refine⟨_,_,⟨_,_,_,_,_,_,_,_,_,_,_,_,_,_,_,_,_,_,_,_,_,hy18,rfl,rfl,rfl,rfl⟩,?_⟩
   intro b hb;cases b with
   | true =>
    replace h:=zAu hb.symm h;intro b hb;subst hb;cases h;exact(Le.rnm [(0,0),(3,2)] _ _ _ ⟨rfl,rfl,rfl,trivial⟩ ⟨rfl,⟨_,rfl,rfl⟩,rfl,⟨_,rfl,rfl⟩,trivial⟩)
   | false =>
    replace h:=zAt hb.symm h;obtain⟨⟨⟨y20A,y20C,y20D,y20B⟩,⟨⟨w21H,w21I,w21J,w21K⟩,⟨w21M,w21N,w21O,w21P⟩,w21E,w21F⟩⟩,hy20,h⟩:=zAc h;refine⟨_,_,⟨_,_,_,_,_,_,_,_,_,_,_,_,_,_,_,_,_,_,_,_,_,hy20,rfl,rfl,rfl,rfl⟩,?_⟩
    obtain⟨⟨y22A,y22C,y22D,y22B⟩,hy22,h⟩:=zAc h;refine⟨_,⟨_,_,_,hy22,rfl,rfl⟩,?_⟩
    obtain⟨y23,hy23,h⟩:=zAc h;refine⟨_,⟨_,_,_,_,hy23,rfl,rfl⟩,?_⟩
    intro b hb;cases b with
    | true =>
     replace h:=zAu hb.symm h;cases h;exact(Le.rnm [(0,0),(4,2)] _ _ _ ⟨rfl,rfl,rfl,trivial⟩ ⟨rfl,⟨_,rfl,rfl⟩,rfl,⟨_,rfl,rfl⟩,trivial⟩)
    | false =>
     replace h:=zAt hb.symm h;obtain⟨⟨⟨y24A,y24C,y24D,y24B⟩,⟨⟨w25H,w25I,w25J,w25K⟩,⟨w25M,w25N,w25O,w25P⟩,w25E,w25F⟩⟩,hy24,h⟩:=zAc h;refine⟨_,_,⟨_,_,_,_,_,_,_,_,_,_,_,_,_,_,_,_,_,_,_,_,_,hy24,rfl,rfl,rfl,rfl⟩,?_⟩
     obtain⟨y26,hy26,h⟩:=zAc h;refine⟨_,⟨_,_,_,_,hy26,rfl,rfl⟩,?_⟩
     cases h;exact(Le.rnm [(0,0),(5,2)] _ _ _ ⟨rfl,rfl,rfl,trivial⟩ ⟨rfl,⟨_,rfl,rfl⟩,rfl,⟨_,rfl,rfl⟩,trivial⟩)
 ·refine zAh hle ?_;refine zAg rfl h (fun hb h=>?_) (fun hb h=>?_)
  ·refine zYV ?_;refine zAe ?_;have hj0:=osi h;obtain⟨hv0,hw0⟩:=Prod.mk.inj hj0;subst hv0;obtain⟨he1T,hr1T⟩:=Prod.mk.inj hw0;obtain⟨he1U,hr1U⟩:=Prod.mk.inj hr1T;obtain⟨he1Ad,he1Ae⟩:=Prod.mk.inj hr1U;obtain⟨he2T,he2U,he2Ad,he2Ae⟩:=Nd.mk.inj he1T;subst he2T;subst he2U;subst he2Ad;subst he2Ae;obtain⟨he3T,he3U,he3Ad,he3Ae⟩:=Nd.mk.inj he1U;subst he3T;subst he3U;subst he3Ad;subst he3Ae;subst he1Ad;subst he1Ae;unfold zBN
   exact⟨_,(Le.rnm [(0,0),(2,2)] [(4,.s (.bool false))] [(0,.box 71 [.s (.int .i64 x6),.s (.str x7),.s (.int .i64 x8),.s (.sl 4 (Nd.encs x9)),.s (.int .i64 x10),.s (.str x11),.s (.int .i64 x12),.s (.sl 4 (Nd.encs x13)),.orow 2,.s (.int .i64 x14)]),(2,.row 31 5 ((List.map zAd) l15))] 3 ⟨rfl,trivial⟩ ⟨rfl,⟨_,rfl,rfl⟩,rfl,⟨_,rfl,rfl⟩,trivial⟩),rfl,rfl,rfl,rfl,rfl,rfl,trivial⟩
  ·refine zAf ?_;refine zAa ?_;refine zYf [] [39] rfl ?_;intro n27 hn27;obtain rfl:(y3.length:Int)=n27:=(hn27.trans (congrArg (fun m:Nat=>(m:Int)) (rlen (fun _=>rfl) y3))).symm;show Tri ..;obtain⟨fl,hl,ho1⟩:=zAc h;refine zBA (fl:=fl) (fun z=>match z with | _=>⟨ofL [],ofH [(0,.box 71 [.s (.int .i64 x6),.s (.str x7),.s (.int .i64 x8),.s (.sl 4 (Nd.encs x9)),.s (.int .i64 x10),.s (.str x11),.s (.int .i64 x12),.s (.sl 4 (Nd.encs x13)),.orow 2,.s (.int .i64 x14)]),(2,.row 31 5 ((List.map zAd) l15))],3⟩) ?_ (fun z σ' hz hle=>?_)
   ·refine zAl (zAy (X:=Nat×Int) (fun y=>match y with | (k,x29)=>⟨ofL [(3,.s (.pt [.int .i64 r2H,.str r2I,.int .i64 r2J,.sl 4 (Nd.encs r2K),.sl 5 ((List.map zAd) r2E),.int .i64 r2F])),(5,.s (.sl 5 ((List.map zAd) y3))),(39,.s (.int .i64 (y3.length:Int))),(40,.s (.int .i64 x29))],ofH [(0,.box 71 [.s (.int .i64 x6),.s (.str x7),.s (.int .i64 x8),.s (.sl 4 (Nd.encs x9)),.s (.int .i64 x10),.s (.str x11),.s (.int .i64 x12),.s (.sl 4 (Nd.encs x13)),.orow 2,.s (.int .i64 x14)]),(2,.row 31 5 ((List.map zAd) l15))],3⟩) (fun y=>zCT n r2E y3 x6 x7 x8 x9 x10 x11 x12 x13 x14 l15 y.1 y.2=some fl) (fun y=>y.1) (n,0) hl ?_ ?_)
    ·exact(Le.rnm [(0,0),(2,2)] _ _ _ ⟨rfl,rfl,rfl,rfl,trivial⟩ ⟨rfl,⟨_,rfl,rfl⟩,rfl,⟨_,rfl,rfl⟩,trivial⟩)
    ·rintro⟨k,x29⟩ h;cases k with
     | zero=>cases h
     | succ k =>
      replace h:zCT n r2E y3 x6 x7 x8 x9 x10 x11 x12 x13 x14 l15 (k+1) x29=some fl:=h;rw[zCT]at h;refine zYV ?_;refine zAa ?_;refine zAg rfl h (fun hb h=>?_) (fun hb h=>?_)
      ·refine zAf ?_;refine zAa ?_;refine zAl ?_;refine zYV ?_;refine zAa ?_;refine zAA [] [45,50] [] rfl (by decide +kernel) ?_;obtain⟨⟨e30W,⟨e30X,e30Y⟩,⟨e30Z,e30Aa⟩⟩,he30,h⟩:=zAc h;refine And.intro (zAp (fun _=>rfl) he30).1 ?_;intro r31 hr31;obtain rfl:[.sl 8 ((List.map zAk) e30W),.sl 1 ((List.map (irow .i64)) e30X),.sl 1 ((List.map (irow .i64)) e30Y),.sl 1 ((List.map (irow .i64)) e30Z),.sl 1 ((List.map (irow .i64)) e30Aa)]=r31:=(hr31.trans (zAp (fun _=>rfl) he30).2.1).symm
       obtain⟨⟨e32W,⟨e32X,e32Y⟩,⟨e32Z,e32Aa⟩⟩,he32,h⟩:=zAc h;refine And.intro (zAp (fun _=>rfl) he32).1 ?_;intro r33 hr33;obtain rfl:[.sl 8 ((List.map zAk) e32W),.sl 1 ((List.map (irow .i64)) e32X),.sl 1 ((List.map (irow .i64)) e32Y),.sl 1 ((List.map (irow .i64)) e32Z),.sl 1 ((List.map (irow .i64)) e32Aa)]=r33:=(hr33.trans (zAp (fun _=>rfl) he32).2.1).symm;obtain⟨y34,hy34,h⟩:=zAc h;refine⟨_,⟨_,_,_,_,hy34,rfl,rfl⟩,?_⟩
       refine zAg rfl h (fun hb h=>?_) (fun hb h=>?_)
       ·refine zYV ?_;refine zAe ?_;cases h;replace h:some _=some _:=ho1;have hj0:=osi h;obtain⟨hv0,hw0⟩:=Prod.mk.inj hj0;subst hv0;obtain⟨he1T,hr1T⟩:=Prod.mk.inj hw0;obtain⟨he1U,hr1U⟩:=Prod.mk.inj hr1T;obtain⟨he1Ad,he1Ae⟩:=Prod.mk.inj hr1U;obtain⟨he2T,he2U,he2Ad,he2Ae⟩:=Nd.mk.inj he1T;subst he2T;subst he2U;subst he2Ad;subst he2Ae;obtain⟨he3T,he3U,he3Ad,he3Ae⟩:=Nd.mk.inj he1U;subst he3T;subst he3U;subst he3Ad;subst he3Ae;subst he1Ad;subst he1Ae;unfold zBN
        exact⟨_,(Le.rnm [(0,0),(2,2)] [(4,.s (.bool false))] [(0,.box 71 [.s (.int .i64 x6),.s (.str x7),.s (.int .i64 x8),.s (.sl 4 (Nd.encs x9)),.s (.int .i64 x10),.s (.str x11),.s (.int .i64 x12),.s (.sl 4 (Nd.encs x13)),.orow 2,.s (.int .i64 x14)]),(2,.row 31 5 ((List.map zAd) l15))] 3 ⟨rfl,trivial⟩ ⟨rfl,⟨_,rfl,rfl⟩,rfl,⟨_,rfl,rfl⟩,trivial⟩),rfl,rfl,rfl,rfl,rfl,rfl,trivial⟩
       ·refine zAf ?_;refine zYU ?_;refine⟨(k,IntKind.i64.wrap (x29+1)),h,(Le.rnm [(0,0),(2,2)] _ _ _ ⟨rfl,rfl,rfl,rfl,trivial⟩ ⟨rfl,⟨_,rfl,rfl⟩,rfl,⟨_,rfl,rfl⟩,trivial⟩),Nat.lt_succ_self k⟩
      ·refine zAC ?_;cases h;exact⟨_,rfl,(Le.rnm [(0,0),(2,2)] _ _ _ trivial ⟨rfl,⟨_,rfl,rfl⟩,rfl,⟨_,rfl,rfl⟩,trivial⟩)⟩
   ·subst hz;obtain _:=z;replace h:=ho1;refine zAh hle ?_;refine zYV ?_;refine zAe ?_;have hj0:=osi h;obtain⟨hv0,hw0⟩:=Prod.mk.inj hj0;subst hv0;obtain⟨he1T,hr1T⟩:=Prod.mk.inj hw0;obtain⟨he1U,hr1U⟩:=Prod.mk.inj hr1T;obtain⟨he1Ad,he1Ae⟩:=Prod.mk.inj hr1U;obtain⟨he2T,he2U,he2Ad,he2Ae⟩:=Nd.mk.inj he1T;subst he2T;subst he2U;subst he2Ad;subst he2Ae;obtain⟨he3T,he3U,he3Ad,he3Ae⟩:=Nd.mk.inj he1U;subst he3T;subst he3U;subst he3Ad;subst he3Ae;subst he1Ad;subst he1Ae;unfold zBN
    exact⟨_,(Le.rnm [(0,0),(2,2)] [(4,.s (.bool true))] [(0,.box 71 [.s (.int .i64 x6),.s (.str x7),.s (.int .i64 x8),.s (.sl 4 (Nd.encs x9)),.s (.int .i64 x10),.s (.str x11),.s (.int .i64 x12),.s (.sl 4 (Nd.encs x13)),.orow 2,.s (.int .i64 x14)]),(2,.row 31 5 ((List.map zAd) l15))] 3 ⟨rfl,trivial⟩ ⟨rfl,⟨_,rfl,rfl⟩,rfl,⟨_,rfl,rfl⟩,trivial⟩),rfl,rfl,rfl,rfl,rfl,rfl,trivial⟩
def zJf (n:Nat) (xs:List AV) (r:Ret):Prop:=∃ (a0:Nd) (a1:List (Int×zRc×zCu×(Int×List Nd×Int×List UInt8×Bool)×Int)) (y0:Bool),zBE n a0 a1=some y0/\xs=[.agg ((Nd.enc a0).map .s),.s (.sl 14 ((List.map zAn) a1))]/\r = .val (.s (.bool y0))
def zJl:zAq:=zAs fun xs r=>∃ n,zJf n xs r
theorem zIP:PSound Tryz.prog 5 zJl:=by
 have gok:∀ f s,look? f [(7,zLX),(8,zQq),(20,zHl),(21,zQy),(22,zNI),(23,zNH)]=some s->PSound Tryz.prog f s:=zAo (by
  simp only[List.forall_mem_cons]
  exact⟨zRe,zUs,zI8,zUA,zSq,zSp,by simp⟩)
 refine zAr tokW Tryz.call5 Tryz.func5 rfl (fun xs r h=>by obtain⟨n,_,_,_,_,rfl,_⟩:=h; show 2<=71; decide) 71 rfl ?_;rintro xs r w0 G0 ⟨n,⟨a1A,a1C,a1D,a1B⟩,a2,y0,h,rfl,rfl⟩ _;rw[zBE]at h;refine zYV ?_;refine zAa ?_;refine zAa ?_;obtain⟨x3,hj,h⟩:=zAc h;refine zAm ⟨ofL [(1,.s (.sl 14 ((List.map zAn) a2))),(2,.s (.pt [.int .i64 a1A,.str a1C,.int .i64 a1D,.sl 4 (Nd.encs a1B)])),(19,.s (.bool x3))],fun _=>none,0⟩ ?_ (fun σ' hle=>?_)
 ·replace h:=hj;refine zAb [] [14] rfl ?_;obtain⟨y4,hy4,h⟩:=zAc h;refine⟨_,⟨_,_,hy4,rfl,rfl⟩,?_⟩
  intro b hb;cases b with
  | true =>
   replace h:=zAu hb.symm h;cases h;exact(Le.forget _ ⟨rfl,rfl,rfl,trivial⟩)
  | false =>
   replace h:=zAt hb.symm h;obtain⟨y5,hy5,h⟩:=zAc h;refine⟨_,⟨_,_,_,_,hy5,rfl,rfl⟩,?_⟩
   cases h;exact(Le.forget _ ⟨rfl,rfl,rfl,trivial⟩)
 ·refine zAh hle ?_;refine zAg rfl h (fun hb h=>?_) (fun hb h=>?_)
  ·refine zYV ?_;obtain⟨y6,hy6,h⟩:=zAc h;refine⟨_,⟨_,_,hy6,rfl,rfl⟩,?_⟩
   refine zAe ?_;have hy:=osi h;subst hy;exact fin0 rfl rfl
  ·refine zAf ?_;refine zYV ?_;obtain⟨⟨y7,y8⟩,hy7,h⟩:=zAc h;cases y7 with
   | none =>
    obtain⟨hq,h⟩:=zAw h;subst hq;refine⟨_,_,⟨_,_,_,_,hy7,rfl,rfl,rfl,rfl⟩,?_⟩
    refine zAh (Le.rnm [] [(1,.s (.sl 14 ((List.map zAn) a2))),(2,.s (.pt [.int .i64 a1A,.str a1C,.int .i64 a1D,.sl 4 (Nd.encs a1B)])),(5,.s (.np)),(6,.s (.int .i64 1))] [] 0 ⟨rfl,rfl,rfl,rfl,trivial⟩ trivial) ?_;refine zYf [7] [] rfl ?_;obtain⟨⟨⟨⟨y9H,y9I,y9J,y9K⟩,y9E,y9F⟩,y10⟩,hy9,h⟩:=zAc h;refine⟨_,⟨_,_,_,_,hy9,rfl,rfl⟩,?_⟩
    refine zAa ?_;refine zYV ?_;refine zAg rfl h (fun hb h=>?_) (fun hb h=>?_)
    ·refine zAa ?_;obtain⟨x11,hj,h⟩:=zAc h;refine zAm ⟨ofL [(4,.s (.bool x11))],fun _=>none,0⟩ ?_ (fun σ' hle=>?_)
     ·replace h:=hj;refine zAb [] [36] rfl ?_;intro b hb;cases b with
      | true =>
       replace h:=zAu hb.symm h;cases h;exact(Le.rnm [] _ [] 0 ⟨rfl,trivial⟩ trivial)
      | false =>
       replace h:=zAt hb.symm h;cases h;exact(Le.rnm [] _ [] 0 ⟨rfl,trivial⟩ trivial)
     ·refine zAh hle ?_;refine zAe ?_;have hy:=osi h;subst hy;exact fin0 rfl rfl
    ·refine zAf ?_;refine zAa ?_;refine zYV ?_;refine zAE rfl (fun _=>?_) (fun h=>by cases h)
     refine zYV ?_;refine zAe ?_;have hy:=osi h;subst hy;exact fin0 rfl rfl
   | some w12 =>
    obtain⟨⟨w12H,w12I,w12J,w12K⟩,⟨w12M,w12N,w12O,w12P⟩,w12E,w12F⟩:=w12;obtain⟨hq,h⟩:=zAw h;subst hq;refine⟨_,_,⟨_,_,_,_,hy7,rfl,rfl,rfl,rfl⟩,?_⟩
    refine zAh (Le.rnm [(0,0),(1,1)] [(1,.s (.sl 14 ((List.map zAn) a2))),(2,.s (.pt [.int .i64 a1A,.str a1C,.int .i64 a1D,.sl 4 (Nd.encs a1B)])),(5,.op 0 0),(6,.s (.int .i64 0))] [(0,.box 71 [.s (.int .i64 w12H),.s (.str w12I),.s (.int .i64 w12J),.s (.sl 4 (Nd.encs w12K)),.s (.int .i64 w12M),.s (.str w12N),.s (.int .i64 w12O),.s (.sl 4 (Nd.encs w12P)),.orow 1,.s (.int .i64 w12F)]),(1,.row 31 5 ((List.map zAd) w12E))] 2 ⟨rfl,rfl,rfl,rfl,trivial⟩ ⟨rfl,⟨_,rfl,rfl⟩,rfl,⟨_,rfl,rfl⟩,trivial⟩) ?_
    refine zYf [7] [] rfl ?_;obtain⟨⟨⟨⟨y13H,y13I,y13J,y13K⟩,y13E,y13F⟩,y14⟩,hy13,h⟩:=zAc h;refine⟨_,⟨_,_,_,_,hy13,rfl,rfl⟩,?_⟩
    refine zAa ?_;refine zYV ?_;refine zAg rfl h (fun hb h=>?_) (fun hb h=>?_)
    ·refine zAa ?_;obtain⟨_,hj,h⟩:=zAc h;refine zAm ⟨ofL [(4,.s (.bool false))],fun _=>none,0⟩ ?_ (fun σ' hle=>?_)
     ·replace h:=hj;refine zAb [] [36] rfl ?_;intro b hb;cases b with
      | true =>
       replace h:=zAu hb.symm h;cases h;exact(Le.rnm [] _ [] 0 ⟨rfl,trivial⟩ trivial)
      | false =>
       replace h:=zAt hb.symm h;cases h;exact(Le.rnm [] _ [] 0 ⟨rfl,trivial⟩ trivial)
     ·refine zAh hle ?_;refine zAe ?_;have hy:=osi h;subst hy;exact fin0 rfl rfl
    ·refine zAf ?_;refine zAa ?_;refine zYV ?_;refine zAE rfl (fun h=>by cases h) (fun _=>?_)
     refine zAf ?_;refine zAa ?_;refine zYf [] [47] rfl ?_;intro n15 hn15;obtain rfl:(a2.length:Int)=n15:=(hn15.trans (congrArg (fun m:Nat=>(m:Int)) (rlen (fun _=>rfl) a2))).symm;show Tri ..;obtain⟨fl,hl,ho1⟩:=zAc h
     refine zBA (fl:=fl) (fun z=>match z with | ⟨x34,x35,x36,x37,x38,x39,x40,x41,x42,l43,x44,x45,x46,x47,x48,x49⟩=>⟨ofL [(5,.op 0 0),(7,.op 2 0)],ofH [(0,.box 71 [.s (.int .i64 x34),.s (.str x35),.s (.int .i64 x36),.s (.sl 4 (Nd.encs x37)),.s (.int .i64 x38),.s (.str x39),.s (.int .i64 x40),.s (.sl 4 (Nd.encs x41)),.orow 1,.s (.int .i64 x42)]),(1,.row 31 5 ((List.map zAd) l43)),(2,.box 57 [.s (.int .i64 x44),.s (.str x45),.s (.int .i64 x46),.s (.sl 4 (Nd.encs x47)),.s (.sl 5 ((List.map zAd) x48)),.s (.int .i64 x49)])],3⟩) ?_ (fun z σ' hz hle=>?_)
     ·refine zAl (zAy (X:=Nat×Int×(List UInt8)×Int×(List Nd)×Int×(List UInt8)×Int×(List Nd)×Int×Int×(List UInt8)×Int×(List Nd)×(List zRc)×Int×Int×(List zRc)) (fun y=>match y with | (k,x16,x17,x18,x19,x20,x21,x22,x23,x25,x26,x27,x28,x29,x30,x31,x32,l33)=>⟨ofL [(5,.op 0 0),(7,.op 2 0),(46,.s (.sl 14 ((List.map zAn) a2))),(47,.s (.int .i64 (a2.length:Int))),(48,.s (.int .i64 x32))],ofH [(0,.box 71 [.s (.int .i64 x16),.s (.str x17),.s (.int .i64 x18),.s (.sl 4 (Nd.encs x19)),.s (.int .i64 x20),.s (.str x21),.s (.int .i64 x22),.s (.sl 4 (Nd.encs x23)),.orow 1,.s (.int .i64 x25)]),(1,.row 31 5 ((List.map zAd) l33)),(2,.box 57 [.s (.int .i64 x26),.s (.str x27),.s (.int .i64 x28),.s (.sl 4 (Nd.encs x29)),.s (.sl 5 ((List.map zAd) x30)),.s (.int .i64 x31)])],3⟩) (fun y=>zBa n a2 y.1 y.2.1 y.2.2.1 y.2.2.2.1 y.2.2.2.2.1 y.2.2.2.2.2.1 y.2.2.2.2.2.2.1 y.2.2.2.2.2.2.2.1 y.2.2.2.2.2.2.2.2.1 y.2.2.2.2.2.2.2.2.2.1 y.2.2.2.2.2.2.2.2.2.2.1 y.2.2.2.2.2.2.2.2.2.2.2.1 y.2.2.2.2.2.2.2.2.2.2.2.2.1 y.2.2.2.2.2.2.2.2.2.2.2.2.2.1 y.2.2.2.2.2.2.2.2.2.2.2.2.2.2.1 y.2.2.2.2.2.2.2.2.2.2.2.2.2.2.2.1 y.2.2.2.2.2.2.2.2.2.2.2.2.2.2.2.2.1 y.2.2.2.2.2.2.2.2.2.2.2.2.2.2.2.2.2=some fl) (fun y=>y.1) (n,w12H,w12I,w12J,w12K,w12M,w12N,w12O,w12P,w12F,y13H,y13I,y13J,y13K,y13E,y13F,0,w12E) hl ?_ ?_)
      ·exact(Le.rnm [(0,0),(1,1),(2,2)] _ _ _ ⟨rfl,rfl,rfl,rfl,rfl,trivial⟩ ⟨rfl,⟨_,rfl,rfl⟩,rfl,⟨_,rfl,rfl⟩,rfl,⟨_,rfl,rfl⟩,trivial⟩)
      ·rintro⟨k,x16,x17,x18,x19,x20,x21,x22,x23,x25,x26,x27,x28,x29,x30,x31,x32,l33⟩ h;cases k with
       | zero=>cases h
       | succ k =>
        replace h:zBa n a2 (k+1) x16 x17 x18 x19 x20 x21 x22 x23 x25 x26 x27 x28 x29 x30 x31 x32 l33=some fl:=h;rw[zBa]at h;refine zYV ?_;refine zAa ?_;refine zAg rfl h (fun hb h=>?_) (fun hb h=>?_)
        ·refine zAf ?_;refine zAa ?_;refine zAl ?_;refine zYf [10] [50] rfl ?_;obtain⟨⟨e50A,⟨e50Ar,⟨e50Bd,e50Be⟩,⟨e50Bf,e50Bg⟩⟩,⟨e50Aw,e50Ax⟩,⟨e50Ay,e50Az,e50Ba,e50Bb,e50Bc⟩,e50S⟩,he50,h⟩:=zAc h;refine And.intro (zAp (fun _=>rfl) he50).1 ?_;intro r51 hr51
         obtain rfl:[.int .i64 e50A,.sl 8 ((List.map zAk) e50Ar),.sl 1 ((List.map (irow .i64)) e50Bd),.sl 1 ((List.map (irow .i64)) e50Be),.sl 1 ((List.map (irow .i64)) e50Bf),.sl 1 ((List.map (irow .i64)) e50Bg),.sl 1 ((List.map (irow .i64)) e50Aw),.sl 1 ((List.map (irow .i64)) e50Ax),.int .i64 e50Ay,.sl 4 (Nd.encs e50Az),.int .i64 e50Ba,.str e50Bb,.bool e50Bc,.int .i64 e50S]=r51:=(hr51.trans (zAp (fun _=>rfl) he50).2.1).symm;show Tri ..
         refine zAh (Le.giveBox 3 [.int .i64 e50A,.sl 8 ((List.map zAk) e50Ar),.sl 1 ((List.map (irow .i64)) e50Bd),.sl 1 ((List.map (irow .i64)) e50Be),.sl 1 ((List.map (irow .i64)) e50Bf),.sl 1 ((List.map (irow .i64)) e50Bg),.sl 1 ((List.map (irow .i64)) e50Aw),.sl 1 ((List.map (irow .i64)) e50Ax),.int .i64 e50Ay,.sl 4 (Nd.encs e50Az),.int .i64 e50Ba,.str e50Bb,.bool e50Bc,.int .i64 e50S] rfl rfl) ?_;refine zYV ?_;refine zYV ?_
         obtain⟨⟨⟨⟨y52H,y52I,y52J,y52K⟩,y52E,y52F⟩,y53,⟨⟨w54H,w54I,w54J,w54K⟩,⟨w54M,w54N,w54O,w54P⟩,w54E,w54F⟩⟩,hy52,h⟩:=zAc h;refine⟨_,_,⟨_,_,_,_,_,_,_,_,_,_,_,_,_,_,_,_,_,_,_,_,_,_,_,_,_,hy52,rfl,rfl,rfl,rfl⟩,?_⟩
         show Tri ..
         refine zAh (Le.rnm [(0,0),(4,1),(2,2)] [(5,.op 0 0),(7,.op 2 0),(11,.s (.bool y53)),(46,.s (.sl 14 ((List.map zAn) a2))),(47,.s (.int .i64 (a2.length:Int))),(48,.s (.int .i64 x32))] [(0,.box 71 [.s (.int .i64 w54H),.s (.str w54I),.s (.int .i64 w54J),.s (.sl 4 (Nd.encs w54K)),.s (.int .i64 w54M),.s (.str w54N),.s (.int .i64 w54O),.s (.sl 4 (Nd.encs w54P)),.orow 1,.s (.int .i64 w54F)]),(1,.row 31 5 ((List.map zAd) w54E)),(2,.box 57 [.s (.int .i64 y52H),.s (.str y52I),.s (.int .i64 y52J),.s (.sl 4 (Nd.encs y52K)),.s (.sl 5 ((List.map zAd) y52E)),.s (.int .i64 y52F)])] 3 ⟨rfl,rfl,rfl,rfl,rfl,rfl,trivial⟩ ⟨rfl,⟨_,rfl,rfl⟩,rfl,⟨_,rfl,rfl⟩,rfl,⟨_,rfl,rfl⟩,trivial⟩) ?_
         refine zAa ?_;obtain⟨⟨x55,x56,x57,x58,x59,x60,x61,x62,x63,x64,l65⟩,hj,h⟩:=zAc h
         refine zAm ⟨ofL [(5,.op 0 0),(7,.op 2 0),(46,.s (.sl 14 ((List.map zAn) a2))),(47,.s (.int .i64 (a2.length:Int))),(48,.s (.int .i64 x32)),(66,.s (.bool x55))],ofH [(0,.box 71 [.s (.int .i64 x56),.s (.str x57),.s (.int .i64 x58),.s (.sl 4 (Nd.encs x59)),.s (.int .i64 x60),.s (.str x61),.s (.int .i64 x62),.s (.sl 4 (Nd.encs x63)),.orow 1,.s (.int .i64 x64)]),(1,.row 31 5 ((List.map zAd) l65)),(2,.box 57 [.s (.int .i64 y52H),.s (.str y52I),.s (.int .i64 y52J),.s (.sl 4 (Nd.encs y52K)),.s (.sl 5 ((List.map zAd) y52E)),.s (.int .i64 y52F)])],3⟩ ?_ (fun σ' hle=>?_)
         ·replace h:=hj;refine zAb [] [61] rfl ?_;intro b hb;cases b with
          | true =>
           replace h:=zAu hb.symm h;cases h;exact(Le.rnm [(0,0),(1,1),(2,2)] _ _ _ ⟨rfl,rfl,rfl,rfl,rfl,rfl,trivial⟩ ⟨rfl,⟨_,rfl,rfl⟩,rfl,⟨_,rfl,rfl⟩,rfl,⟨_,rfl,rfl⟩,trivial⟩)
          | false =>
           replace h:=zAt hb.symm h;obtain⟨⟨y66,⟨⟨w67H,w67I,w67J,w67K⟩,⟨w67M,w67N,w67O,w67P⟩,w67E,w67F⟩⟩,hy66,h⟩:=zAc h;refine⟨_,_,⟨_,_,_,_,_,_,_,_,_,_,_,_,_,_,_,_,_,_,_,_,_,_,_,hy66,rfl,rfl,rfl,rfl⟩,?_⟩
           cases h;exact(Le.rnm [(0,0),(3,1),(2,2)] _ _ _ ⟨rfl,rfl,rfl,rfl,rfl,rfl,trivial⟩ ⟨rfl,⟨_,rfl,rfl⟩,rfl,⟨_,rfl,rfl⟩,rfl,⟨_,rfl,rfl⟩,trivial⟩)
         ·refine zAh hle ?_;refine zAg rfl h (fun hb h=>?_) (fun hb h=>?_)
          ·refine zYV ?_;refine zAe ?_;cases h;replace h:some _=some _:=ho1;have hy:=osi h;subst hy;exact fin0 rfl rfl
          ·refine zAf ?_;refine zYU ?_;refine⟨(k,x56,x57,x58,x59,x60,x61,x62,x63,x64,y52H,y52I,y52J,y52K,y52E,y52F,IntKind.i64.wrap (x32+1),l65),h,(Le.rnm [(0,0),(1,1),(2,2)] _ _ _ ⟨rfl,rfl,rfl,rfl,rfl,trivial⟩ ⟨rfl,⟨_,rfl,rfl⟩,rfl,⟨_,rfl,rfl⟩,rfl,⟨_,rfl,rfl⟩,trivial⟩),Nat.lt_succ_self k⟩
        ·refine zAC ?_;cases h;exact⟨_,rfl,(Le.rnm [(0,0),(1,1),(2,2)] _ _ _ ⟨rfl,rfl,trivial⟩ ⟨rfl,⟨_,rfl,rfl⟩,rfl,⟨_,rfl,rfl⟩,rfl,⟨_,rfl,rfl⟩,trivial⟩)⟩
     ·subst hz;obtain⟨x34,x35,x36,x37,x38,x39,x40,x41,x42,l43,x44,x45,x46,x47,x48,x49⟩:=z;replace h:=ho1;refine zAh hle ?_;refine zYV ?_;obtain⟨⟨y68,⟨⟨w69H,w69I,w69J,w69K⟩,⟨w69M,w69N,w69O,w69P⟩,w69E,w69F⟩⟩,hy68,h⟩:=zAc h;refine⟨_,_,⟨_,_,_,_,_,_,_,_,_,_,_,_,_,_,_,_,_,_,_,_,_,_,_,hy68,rfl,rfl,rfl,rfl⟩,?_⟩
      refine zAh (Le.rnm [] [(4,.s (.bool y68))] [] 0 ⟨rfl,trivial⟩ trivial) ?_;refine zAe ?_;have hy:=osi h;subst hy;exact fin0 rfl rfl
theorem zXn {n:Nat}{ss:List S} (h:Typed T n 24 ss):∃ t:Nd,ss=t.enc/\t.rng :=
 zOE (T:=T) (e:=24) (s:=22) (ki:=3) (st:=9) rfl rfl rfl rfl rfl rfl rfl rfl rfl n h
theorem zM7 {n t:Nat}{ss:List S} (h:Typed T n 22 ss):∃ l:List Nd,ss=[.sl 4 (Nd.encs l)]/\Nd.rngs l:=by
 obtain⟨m,rows,rfl,rfl,_,hr⟩:=zGp (T:=T) (e:=24) rfl rfl h;obtain⟨ks,rfl,hks⟩:=zKw (f:=Nd.enc) (q:=Nd.rng) (l:=rows) fun r hr'=>zOE (T:=T) (e:=24) (s:=22) (ki:=3) (st:=9) rfl rfl rfl rfl rfl rfl rfl rfl rfl m (hr r hr')
 exact⟨ks,by rw[Nd.encs_eq]; rfl,Nd.rngAll hks⟩
theorem zXo {n:Nat}{ss:List S} (h:Typed T n 65 ss):∃ o:zO8,ss=zAk o/\True:=by
 obtain⟨m,rfl,a0,q0,rfl,u0,a1,q1,rfl,u1,a2,q2,rfl,u2,a3,q3,rfl,u3,a4,q4,rfl,u4,a5,q5,rfl,u5,a6,q6,rfl,u6,a7,q7,rfl,u7,rfl⟩:=zEt (T:=T) (t:=65) rfl rfl h;obtain⟨x0,rfl,_⟩:=zDA (T:=T) (k:=.i64) rfl rfl u0;obtain⟨x1,rfl,_⟩:=zOD (T:=T) (k:=.i64) (e:=3) rfl rfl rfl rfl u1;obtain⟨x2,rfl,_⟩:=zDA (T:=T) (k:=.i64) rfl rfl u2;obtain⟨x3,rfl,_⟩:=zDA (T:=T) (k:=.i64) rfl rfl u3;obtain⟨x4,rfl,_⟩:=zM7 (t:=0) u4;obtain⟨x5,rfl,_⟩:=zDA (T:=T) (k:=.i64) rfl rfl u5;obtain⟨x6,rfl,_⟩:=zKp (T:=T) rfl rfl u6;obtain⟨x7,rfl,_⟩:=zKp (T:=T) rfl rfl u7
 exact⟨(x0,x1,x2,x3,x4,x5,x6,x7),rfl,trivial⟩
theorem zWg {n:Nat}{ss:List S} (h:Typed T n 26 ss):∃ l:List zO8,ss=[.sl 8 (l.map zAk)]:=by
 obtain⟨m,rows,rfl,rfl,_,hr⟩:=zGp (T:=T) (e:=65) rfl rfl h;obtain⟨ks,rfl,hks⟩:=zKw (f:=zAk) (q:=fun _=>True) (l:=rows) fun r hr'=>zXo (hr r hr')
 exact⟨ks,rfl⟩
theorem zOF {n:Nat}{ss:List S} (h:Typed T n 27 ss):∃ l:List Int,ss=[.sl 1 (l.map fun z=>[.int .i64 z])]/\True:=by
 obtain⟨x,rfl,_⟩:=zOD (T:=T) (k:=.i64) (e:=3) rfl rfl rfl rfl h;exact⟨x,rfl,trivial⟩
theorem zO3 {α:Type}{f:α->List S}:∀ {l:List α}{x:α},x∈l->zDB (f x)<=zEx (l.map f)
 | y::l,x,h=>by
  simp only[List.map_cons,zEx]
  rcases List.mem_cons.1 h with rfl | h
  ·omega
  ·have:=zO3 (f:=f) h; omega
theorem zIv {n:Nat}{ss:List S} (h:Typed T n 29 ss):∃ c:List Int×List Int,ss=[.sl 1 (c.1.map (irow .i64)),.sl 1 (c.2.map (irow .i64))]:=by
 obtain⟨m,rfl,a0,q0,rfl,u0,a1,q1,rfl,u1,rfl⟩:=zEt (T:=T) (t:=29) rfl rfl h;obtain⟨x0,rfl,_⟩:=zOF u0;obtain⟨x1,rfl,_⟩:=zOF u1;exact⟨(x0,x1),rfl⟩
theorem zRK {n:Nat}{ss:List S} (h:Typed T n 31 ss):∃ r:List zO8×zCu×zCu,ss=zAd r:=by
 obtain⟨m,rfl,a0,q0,rfl,u0,a1,q1,rfl,u1,a2,q2,rfl,u2,rfl⟩:=zEt (T:=T) (t:=31) rfl rfl h;obtain⟨x0,rfl⟩:=zWg u0;obtain⟨x1,rfl⟩:=zIv u1;obtain⟨x2,rfl⟩:=zIv u2;exact⟨(x0,x1,x2),rfl⟩
theorem zAF {φ:Prop} [Decidable φ] (h:φ):decide φ=true:=decide_eq_true h
theorem zAD {φ:Prop} [Decidable φ] (h:¬ φ):decide φ=false:=decide_eq_false h
theorem zJc {F:Nd->Option Int}{ks:List Nd} (hF:∀ v∈ks,F v=some (v.cnt:Int)) :
  ∀ (k i:Nat) (o:Nat),ks.length - i<k->i<=ks.length->o+Nd.cnts (ks.drop i)<=1073741824->ks.length<=1073741824->zCz F ks k (o:Int) (i:Int)=some ((o+Nd.cnts (ks.drop i):Nat):Int)
 | 0,_,_,h,_,_,_=>by omega
 | k+1,i,o,hk,hi,ho,hl=>by
  unfold zCz
  by_cases h:i<ks.length
  ·rw[zAF (Int.ofNat_lt.2 h),cond_true,zAJ h]
   have hd:=Nd.cnts_drop h;have hf:=hF _ (List.getElem_mem h)
   rcases e:ks[i] with ⟨a,b,c,d⟩
   rw[e]at hd hf;simp only[obs,hf]
   rw[wrap64_in (by omega) (by omega),zAH (by omega),← Int.natCast_add,zJc hF k (i+1) _ (by omega) (by omega) (by omega) hl,hd]
   congr 2; omega
  ·rw[zAD (by omega),cond_false]
   obtain rfl:i=ks.length :=(by omega);simp[Nd.cnts]
theorem zLl:∀ (n:Nat) (t:Nd),t.cnt<n->t.cnt<=67108864->zCU n t=some (t.cnt:Int)
 | 0,_,h,_=>by omega
 | n+1,.mk a b c ks,h,hb=>by
  simp only[Nd.cnt]at h hb;have hl:=Nd.cnts_len ks;unfold zCU;have:=zJc (F:=zCU n) (ks:=ks) (fun v hv=>zLl n v (by have:=Nd.cnts_mem hv; omega) (by have:=Nd.cnts_mem hv; omega)) n 0 1 (by omega) (by omega) (by simp; omega) (by omega)
  rw[show((0:Nat):Int)=0 from rfl,show((1:Nat):Int)=1 from rfl]at this;rw[this]
  simp only[obs,List.drop_zero,Nd.cnt]
  congr 2; omega
theorem zQ4 {F:Nd->Int->Option Int}{ks:List Nd}{b:Nat} (hF:∀ (v:Nd) (m:Nat),m<=b->∃ r,F v (m:Int)=some r/\-1<=r/\r<m/\(0<=r->r+v.cnt=m)) :
  ∀ (k i:Nat) (m:Int),m+1<k->-1<=m->m<=b->i<=ks.length->(i:Int)+m<4611686018427387904->∃ r,zCq F ks k m (i:Int)=some r/\-1<=r/\r<=m/\(0<=r->r+Nd.cnts (ks.drop i)=m)
 | 0,_,_,h,_,_,_,_=>by omega
 | k+1,i,m,hk,hm,hb,hi,hx=>by
  unfold zCq
  by_cases h:i<ks.length
  ·rw[zAF (Int.ofNat_lt.2 h),cond_true]
   simp only[obs]
   by_cases h0:0<=m
   ·rw[zAF h0,cond_true,zAJ h]
    have hd:=Nd.cnts_drop h;rcases e:ks[i] with ⟨e1,e2,e3,e4⟩
    rw[e]at hd;simp only[obs]
    obtain⟨m',rfl⟩:=Int.eq_ofNat_of_zero_le h0;obtain⟨r,h1,h2,h3,h4⟩:=hF (.mk e1 e2 e3 e4) m' (by omega)
    rw[h1,obs,zAH (by omega)]
    obtain⟨r',g1,g2,g3,g4⟩:=zQ4 (ks:=ks) hF k (i+1) r (by omega) h2 (by omega) (by omega) (by omega)
    exact⟨r',g1,g2,by omega,fun g=>by have:=g4 g; have:=h4 (by omega); omega⟩
   ·rw[zAD h0,cond_false]
    exact⟨m,rfl,hm,Int.le_refl _,fun g=>by omega⟩
  ·rw[zAD (by omega),cond_false]
   simp only[obs,cond_false]
   obtain rfl:i=ks.length :=(by omega);exact⟨m,rfl,hm,Int.le_refl _,fun _=>by simp[Nd.cnts]⟩
theorem left_eq:∀ (n:Nat) (t:Nd) (m:Nat),m+1<n->m<=67108864->∃ r,zDM n t (m:Int)=some r/\-1<=r/\r<m/\(0<=r->r+t.cnt=m)
 | 0,_,_,h,_=>by omega
 | n+1,.mk a b c ks,m,h,hm=>by
  unfold zDM;rw[wrap64_in (by omega) (by omega)]
  cases m with
  | zero =>
   cases n with
   | zero=>omega
   | succ n =>
    refine⟨-1,?_,by omega,by omega,fun h=>by omega⟩
    unfold zCq;cases decide (((0:Nat):Int)<(ks.length:Int)) <;> simp <;> rfl
  | succ m =>
   obtain⟨r,h1,h2,h3,h4⟩:=zQ4 (F:=zDM n) (ks:=ks) (b:=m) (fun v q hq=>left_eq n v q (by omega) (by omega)) n 0 (m:Int) (by omega) (by omega) (by omega) (by omega) (by omega)
   rw[show((0:Nat):Int)=0 from rfl]at h1;rw[show((m+1:Nat):Int) - 1=(m:Int) by omega,h1]
   exact⟨r,rfl,h2,by omega,fun g=>by have:=h4 g; rw[List.drop_zero]at this; simp only[Nd.cnt]; omega⟩
theorem zUM (n:Nat) (t:Nd) (m:Nat) (h:m+1<n) (hm:m<=67108864):∃ b,zGd n t (m:Int)=some b/\(b=true->t.cnt<=m):=by
 obtain⟨a,b,c,ks⟩:=t;obtain⟨r,h1,h2,h3,h4⟩:=left_eq n (.mk a b c ks) m h hm;refine⟨decide (0<=r),by simp[zGd,h1],fun g=>by have g0:=of_decide_eq_true g; have:=h4 g0; omega⟩
def zO0 {α:Type} (p:α->Bool) (l:List α):Fl Bool Unit:=if l.all p then .go () else .ret false
theorem zWv {α:Type}{p:α->Bool}{l:List α}{i:Nat} (h:i<l.length):(l.drop i).all p=(p l[i]&&(l.drop (i+1)).all p):=by
 rw[List.drop_eq_getElem_cons h]; rfl
theorem zWw {α:Type}{p:α->Bool}{l:List α}{i:Nat} (h:i<l.length):(l.drop i).any p=(p l[i]||(l.drop (i+1)).any p):=by
 rw[List.drop_eq_getElem_cons h]; rfl
theorem zIA {α:Type}{p:α->Bool}{l:List α} (L:Nat->Int->Option (Fl Bool Unit)) (hb:l.length<=1073741824)
  (h1:∀ (k i:Nat) (h:i<l.length),L (k+1) (i:Int)=if p l[i] then L k (((i+1:Nat)):Int) else some (.ret false)) (h2:∀ k,L (k+1) (l.length:Int)=some (.go ())) :
  ∀ (k i:Nat),l.length - i<k->i<=l.length->L k (i:Int)=some (zO0 p (l.drop i))
 | 0,_,h,_=>by omega
 | k+1,i,hk,hi=>by
  by_cases h:i<l.length
  ·rw[h1 k i h,zIA L hb h1 h2 k (i+1) (by omega) (by omega)]
   unfold zO0;rw[zWv h]
   cases p l[i] <;> simp
  ·obtain rfl:i=l.length :=(by omega);rw[h2]; simp[zO0]
theorem zPg {α:Type}{p:α->Bool}{l:List α} (L:Nat->Int->Option (Fl Bool Unit)) (hb:l.length<=1073741824)
  (h1:∀ (k i:Nat) (h:i<l.length),L (k+1) (i:Int)=if p l[i] then some (.ret true) else L k (((i+1:Nat)):Int)) (h2:∀ k,L (k+1) (l.length:Int)=some (.go ())) :
  ∀ (k i:Nat),l.length - i<k->i<=l.length->L k (i:Int)=some (if (l.drop i).any p then .ret true else .go ())
 | 0,_,h,_=>by omega
 | k+1,i,hk,hi=>by
  by_cases h:i<l.length
  ·rw[h1 k i h,zPg L hb h1 h2 k (i+1) (by omega) (by omega),zWw h]
   cases p l[i] <;> simp
  ·obtain rfl:i=l.length :=(by omega);rw[h2]; simp
theorem zOG {P:UInt8->Bool} (h:(List.range 256).all (fun n=>P n.toUInt8)=true) (b:UInt8):P b=true:=by
 have:P (UInt8.ofNat b.toNat)=true:=List.all_eq_true.1 h b.toNat (List.mem_range.2 b.toNat_lt)
 rwa [UInt8.ofNat_toNat]at this
def zDl (b:UInt8):Bool:=(decide (97<=b.toNat)&&decide (b.toNat<=122))||(decide (65<=b.toNat)&&decide (b.toNat<=90))
def zDV (b:UInt8):Bool:=decide (48<=b.toNat)&&decide (b.toNat<=57)
def zHf (b:UInt8):Bool:=decide (32<=b.toNat)&&decide (b.toNat<=126)
theorem zQK (b:UInt8):(bif decide ((zMi .or .u8 (b.toNat:Int) 32)<97) then some true else some (decide (122<(zMi .or .u8 (b.toNat:Int) 32))))=some (!zDl b) :=
 of_decide_eq_true (zOG (P:=fun b=>decide ((bif decide ((zMi .or .u8 (b.toNat:Int) 32)<97) then some true else some (decide (122<(zMi .or .u8 (b.toNat:Int) 32))))=some (!zDl b))) (by decide +kernel) b)
theorem zK9 (b:UInt8):zEn (b.toNat:Int)=some (zDl b) :=
 of_decide_eq_true (zOG (P:=fun b=>decide (zEn (b.toNat:Int)=some (zDl b))) (by decide +kernel) b)
theorem zSd (b:UInt8):zGc (b.toNat:Int)=some (zDV b) :=
 of_decide_eq_true (zOG (P:=fun b=>decide (zGc (b.toNat:Int)=some (zDV b))) (by decide +kernel) b)
theorem zMB (n:Nat) (s:List UInt8) (h:s.length<n) (hb:s.length<=1073741824):zC8 n s=some (s.all zDl):=by
 have:=zIA (p:=zDl) (l:=s) (zBr s) hb (fun k i h=>by
  rw[zBr,zAF (Int.ofNat_lt.2 h),cond_true,zAJ h]
  simp only[obs,zQK]
  rw[zAH (by omega)]
  cases zDl s[i] <;> rfl) (fun k=>by rw[zBr,zAD (by omega)]; rfl) n 0 (by omega) (by omega)
 rw[show((0:Nat):Int)=0 from rfl,List.drop_zero]at this;rw[zC8,this]
 unfold zO0;cases s.all zDl <;> rfl
theorem zNy (n:Nat) (s:List UInt8) (h:s.length<n) (hb:s.length<=1073741824):zBx s n 0=some (zO0 zDl s):=by
 have:=zIA (p:=zDl) (l:=s) (zBx s) hb (fun k i h=>by
  rw[zBx,zAF (Int.ofNat_lt.2 h),cond_true,zAJ h]
  simp only[obs,zK9]
  rw[zAH (by omega)]
  cases zDl s[i] <;> rfl) (fun k=>by rw[zBx,zAD (by omega)]; rfl) n 0 (by omega) (by omega)
 rwa [show((0:Nat):Int)=0 from rfl,List.drop_zero]at this
theorem zOp (n:Nat) (s:List UInt8) (c:Int) (h:s.length<n) (hb:s.length<=1073741824):zDs n s c=some (s.any fun b=>(b.toNat:Int) == c):=by
 have:=zPg (p:=fun b=>(b.toNat:Int) == c) (l:=s) (zCL s c) hb (fun k i h=>by
  rw[zCL,zAF (Int.ofNat_lt.2 h),cond_true,zAJ h]
  simp only[obs]
  rw[zAH (by omega)]
  cases((s[i].toNat:Int) == c) <;> rfl) (fun k=>by rw[zCL,zAD (by omega)]; rfl) n 0 (by omega) (by omega)
 rw[show((0:Nat):Int)=0 from rfl,List.drop_zero]at this;rw[zDs,this]
 cases s.any fun b=>(b.toNat:Int) == c <;> rfl
theorem zMO (n:Nat) (l:List (List UInt8)) (s:List UInt8) (h:l.length<n) (hb:l.length<=1073741824):zE3 n l s=some (l.any fun e=>e == s):=by
 have:=zPg (p:=fun e=>e == s) (l:=l) (zDq l s) hb (fun k i h=>by
  rw[zDq,zAF (Int.ofNat_lt.2 h),cond_true,zAJ h]
  simp only[obs]
  rw[zAH (by omega)]
  cases(l[i] == s) <;> rfl) (fun k=>by rw[zDq,zAD (by omega)]; rfl) n 0 (by omega) (by omega)
 rw[show((0:Nat):Int)=0 from rfl,List.drop_zero]at this;rw[zE3,this]
 cases l.any fun e=>e == s <;> rfl
theorem zGN (n:Nat) (s:List UInt8) (h:s.length<n) (hb:s.length<=1073741824):zDJ n s=some (s.all zDV&&!(s == [])):=by
 have:=zIA (p:=zDV) (l:=s) (zBz s) hb (fun k i h=>by
  rw[zBz,zAF (Int.ofNat_lt.2 h),cond_true,zAJ h]
  simp only[obs]
  rw[zAH (by omega)]
  unfold zDV
  by_cases a:48<=s[i].toNat
  ·by_cases b:s[i].toNat<=57
   ·simp[a,b,show ¬ ((s[i].toNat:Int)<48) by omega,show ¬ (57<(s[i].toNat:Int)) by omega]
   ·simp[a,b,show ¬ ((s[i].toNat:Int)<48) by omega,show(57<(s[i].toNat:Int)) by omega]
  ·simp[a,show((s[i].toNat:Int)<48) by omega]) (fun k=>by rw[zBz,zAD (by omega)]; rfl) n 0 (by omega) (by omega)
 rw[show((0:Nat):Int)=0 from rfl,List.drop_zero]at this;rw[zDJ,this]
 unfold zO0;cases s.all zDV <;> rfl
theorem zRw (b:UInt8):(bif decide ((b.toNat:Int)<32) then some true else some (decide (126<(b.toNat:Int))):Option Bool)=some (!zHf b):=by
 unfold zHf
 by_cases a:32<=b.toNat
 ·by_cases c:b.toNat<=126
  ·simp[a,c,show ¬ ((b.toNat:Int)<32) by omega,show ¬ (126<(b.toNat:Int)) by omega]
  ·simp[a,c,show ¬ ((b.toNat:Int)<32) by omega,show(126<(b.toNat:Int)) by omega]
 ·simp[a,show((b.toNat:Int)<32) by omega]
theorem zPk (n:Nat) (s:List UInt8) (h:s.length<n) (hb:s.length<=1073741824):zFg n s=some (s.all zHf&&decide ((s.length:Int)<=200)):=by
 have:=zIA (p:=zHf) (l:=s) (zBJ s) hb (fun k i h=>by
  rw[zBJ,zAF (Int.ofNat_lt.2 h),cond_true,zAJ h]
  simp only[obs,zRw]
  rw[zAH (by omega)]
  cases zHf s[i] <;> rfl) (fun k=>by rw[zBJ,zAD (by omega)]; rfl) n 0 (by omega) (by omega)
 rw[show((0:Nat):Int)=0 from rfl,List.drop_zero]at this;rw[zFg,this]
 unfold zO0;cases s.all zHf <;> rfl
theorem zLE (n:Nat) (s:List UInt8) (h:s.length<n) (hb:s.length<=1073741824):zDr n s=some (s.all zHf):=by
 have:=zIA (p:=zHf) (l:=s) (zBk s) hb (fun k i h=>by
  rw[zBk,zAF (Int.ofNat_lt.2 h),cond_true,zAJ h]
  simp only[obs,zRw]
  rw[zAH (by omega)]
  cases zHf s[i] <;> rfl) (fun k=>by rw[zBk,zAD (by omega)]; rfl) n 0 (by omega) (by omega)
 rw[show((0:Nat):Int)=0 from rfl,List.drop_zero]at this;rw[zDr,this]
 unfold zO0;cases s.all zHf <;> rfl
def spL:List UInt8:=[43,45,42,47,61,60,62,44,59,58,33,124,39,63,126,64]
def fsL:List UInt8:=[40,41,91,93,123,125,60,62,47,124,46]
def kwL:List (List UInt8):=[[102,114,97,99],[114,111,111,116],[109,97,116,114,105,120],[102,101,110,99,101]]
def acL:List (List UInt8):=[[104,97,116],[98,97,114],[118,101,99],[100,111,116],[116,105,108,100,101],[99,104,101,99,107]]
def spB (c:UInt8):Bool:=decide (0<=Lib.indexByte spL c)
def fsB (c:UInt8):Bool:=decide (0<=Lib.indexByte fsL c)
theorem zXQ (c:UInt8):(spL.any fun b=>(b.toNat:Int) == (c.toNat:Int))=spB c :=
 of_decide_eq_true (zOG (P:=fun c=>decide ((spL.any fun b=>(b.toNat:Int) == (c.toNat:Int))=spB c)) (by decide +kernel) c)
theorem zXP (c:UInt8):(([40,41,91,93,123,125,124,60,62,47,46]:List UInt8).any fun b=>(b.toNat:Int) == (c.toNat:Int))=fsB c :=
 of_decide_eq_true (zOG (P:=fun c=>decide ((([40,41,91,93,123,125,124,60,62,47,46]:List UInt8).any fun b=>(b.toNat:Int) == (c.toNat:Int))=fsB c)) (by decide +kernel) c)
theorem zWz (c:UInt8):Lib.indexByte fsL ((c.toNat:Int).toNat.toUInt8)=Lib.indexByte fsL c:=by
 rw[Int.toNat_natCast]; congr 1; exact UInt8.ofNat_toNat
theorem zNi (e s:List UInt8):(e == s)=(s == e):=by
 rw[Bool.eq_iff_iff]; simp only[beq_iff_eq]; exact eq_comm
theorem zMA (s:List UInt8):zD3 s=some (kwL.any fun e=>e == s):=by
 simp only[zD3,kwL,List.any_cons,List.any_nil,zNi [102,114,97,99] s,zNi [114,111,111,116] s,zNi [109,97,116,114,105,120] s,zNi [102,101,110,99,101] s]
 generalize (s == [102,114,97,99])=b1;generalize (s == [114,111,111,116])=b2;generalize (s == [109,97,116,114,105,120])=b3;generalize (s == [102,101,110,99,101])=b4;cases b1 <;> cases b2 <;> cases b3 <;> cases b4 <;> rfl
theorem zI6 (s:List UInt8):zDI s=some (acL.any fun e=>e == s):=by
 simp only[zDI,acL,List.any_cons,List.any_nil,zNi [104,97,116] s,zNi [98,97,114] s,zNi [118,101,99] s,zNi [100,111,116] s,zNi [116,105,108,100,101] s,zNi [99,104,101,99,107] s]
 generalize (s == [104,97,116])=b1;generalize (s == [98,97,114])=b2;generalize (s == [118,101,99])=b3;generalize (s == [100,111,116])=b4;generalize (s == [116,105,108,100,101])=b5;generalize (s == [99,104,101,99,107])=b6;cases b1 <;> cases b2 <;> cases b3 <;> cases b4 <;> cases b5 <;> cases b6 <;> rfl
def symB (s:List UInt8):Bool :=
 if s.length=1 then s.all zDl||s.all spB
 else s.all zDl&&(decide (2<=s.length)&&(decide (s.length<=16)&&(!(kwL.any fun e=>e == s)&&!(acL.any fun e=>e == s))))
theorem len1 (s:List UInt8):((s.length:Int) == 1)=decide (s.length=1):=by
 by_cases h:s.length=1
 ·simp[h]
 ·rw[zAD h]
  cases e:((s.length:Int) == 1) with
  | false=>rfl
  | true=>have:=eq_of_beq e; omega
theorem zF7 (a b:Nat):decide ((a:Int)<=(b:Int))=decide (a<=b):=by
 by_cases h:a<=b
 ·rw[zAF h,zAF (by omega)]
 ·rw[zAD h,zAD (by omega)]
theorem zVf (a b:Nat):decide ((a:Int)<(b:Int))=decide (a<b):=by
 by_cases h:a<b
 ·rw[zAF h,zAF (by omega)]
 ·rw[zAD h,zAD (by omega)]
theorem zNm (n:Nat) (s:List UInt8) (h:s.length+40<n) (hb:s.length<=1073741824):zEz n s=some (symB s):=by
 rw[zEz,len1,zMB n s (by omega) hb]
 unfold symB
 by_cases h1:s.length=1
 ·rw[zAF h1,if_pos h1]
  obtain⟨c,rfl⟩:=List.length_eq_one_iff.1 h1;have:zEB [43,45,42,47,61,60,62,44,59,58,33,124,39,63,126,64] [c]=some (spB c):=rfl;simp only[cond_true,obs,this,List.all_cons,List.all_nil,Bool.and_true]
  cases zDl c <;> rfl
 ·rw[zAD h1,if_neg h1]
  have e2:=zF7 2 s.length;have e16:=zF7 s.length 16;rw[show((2:Nat):Int)=2 from rfl]at e2;rw[show((16:Nat):Int)=16 from rfl]at e16;simp only[cond_false,obs,zMA,zI6,e2,e16]
  cases s.all zDl <;> cases decide (2<=s.length) <;> cases decide (s.length<=16) <;> cases(kwL.any fun e=>e == s) <;> rfl
theorem zPM (n:Nat) (s:List UInt8) (h:s.length+40<n) (hb:s.length<=1073741824):zFj n s=some (symB s):=by
 rw[zFj,len1,zNy n s (by omega) hb]
 unfold symB
 by_cases h1:s.length=1
 ·rw[zAF h1,if_pos h1]
  obtain⟨c,rfl⟩:=List.length_eq_one_iff.1 h1;have e1:at? [c] (0:Int)=some c:=rfl;have e2:zDs n [43,45,42,47,61,60,62,44,59,58,33,124,39,63,126,64] (c.toNat:Int)=some (spB c):=by
   rw[zOp n _ _ (by simp only[List.length_cons,List.length_nil]; omega) (by simp only[List.length_cons,List.length_nil]; omega)]
   exact congrArg some (zXQ c)
  simp only[cond_true,obs,e1,zEA,zK9,e2,List.all_cons,List.all_nil,Bool.and_true]
  cases zDl c <;> rfl
 ·rw[zAD h1,if_neg h1]
  have e2:=zF7 2 s.length;have e16:=zF7 s.length 16;rw[show((2:Nat):Int)=2 from rfl]at e2;rw[show((16:Nat):Int)=16 from rfl]at e16;have ek:zE3 n kwL s=some (kwL.any fun e=>e == s):=zMO n kwL s (by simp only[kwL,List.length_cons,List.length_nil]; omega) (by simp[kwL])
  have ea:zE3 n acL s=some (acL.any fun e=>e == s):=zMO n acL s (by simp only[acL,List.length_cons,List.length_nil]; omega) (by simp[acL])
  have k1:zE4=some kwL:=rfl;have a1:zDK=some acL:=rfl;unfold zO0;simp only[cond_false,obs,k1,a1,ek,ea,e2,e16]
  cases s.all zDl <;> cases decide (2<=s.length) <;> cases decide (s.length<=16) <;> cases(kwL.any fun e=>e == s) <;> rfl
def fenB (s:List UInt8):Bool:=decide (s.length=2)&&s.all fsB
theorem len2 (s:List UInt8):((s.length:Int) == 2)=decide (s.length=2):=by
 by_cases h:s.length=2
 ·simp[h]
 ·rw[zAD h]
  cases e:((s.length:Int) == 2) with
  | false=>rfl
  | true=>have:=eq_of_beq e; omega
theorem zPj (s:List UInt8):zFf s=some (fenB s):=by
 rw[zFf,len2]
 unfold fenB
 by_cases h1:s.length=2
 ·rw[zAF h1]
  match s,h1 with
  | [c,d],_ =>
   have e0:at? [c,d] (0:Int)=some c:=rfl;have e1:at? [c,d] (1:Int)=some d:=rfl;have f:∀ c:UInt8,zC0 [40,41,91,93,123,125,60,62,47,124,46] (c.toNat:Int)=some (Lib.indexByte fsL c):=fun c=>congrArg some (zWz c)
   have g:∀ c:UInt8,decide (0<=Lib.indexByte fsL c)=fsB c:=fun c=>rfl
   simp only[cond_true,e0,e1,f,obs,g,List.all_cons,List.all_nil,Bool.and_true,Bool.true_and]
   cases fsB c <;> rfl
 ·rw[zAD h1]; rfl
theorem zRx (n:Nat) (s:List UInt8) (h:40<n):(bif ((s.length:Int) == 2) then (
        (at? s 0).bind fun c9 =>
        (zDs n [40,41,91,93,123,125,124,60,62,47,46] (c9.toNat:Int)).bind fun y11 =>
        bif y11 then (
         (at? s 1).bind fun c12 =>
         (zDs n [40,41,91,93,123,125,124,60,62,47,46] (c12.toNat:Int)).bind fun y14 =>
         some y14
        ) else (
         some false
        )
       ) else (
        some false
       ))=some (fenB s):=by
 rw[len2]
 unfold fenB
 by_cases h1:s.length=2
 ·rw[zAF h1]
  match s,h1 with
  | [c,d],_ =>
   have e0:at? [c,d] (0:Int)=some c:=rfl;have e1:at? [c,d] (1:Int)=some d:=rfl;have f:∀ c:UInt8,zDs n [40,41,91,93,123,125,124,60,62,47,46] (c.toNat:Int)=some (fsB c):=fun c=>by
    rw[zOp n _ _ (by simp only[List.length_cons,List.length_nil]; omega) (by simp only[List.length_cons,List.length_nil]; omega)]
    exact congrArg some (zXP c)
   simp only[cond_true,e0,e1,f,obs,List.all_cons,List.all_nil,Bool.and_true,Bool.true_and]
   cases fsB c <;> rfl
 ·rw[zAD h1]; rfl
def okL (L:Nat):Nat->List UInt8->Bool
 | _,[]=>true
 | i,c::r=>((c == 46&&(decide (0<i)&&decide (i+1<L)))||zDV c)&&okL L (i+1) r
def numB (s:List UInt8):Bool:=okL s.length 0 s&&(decide (0<s.length)&&(decide (s.length<=20)&&decide (s.count 46<=1)))
theorem zYt (c:UInt8):((c.toNat:Int) == 46)=(c == 46) :=
 of_decide_eq_true (zOG (P:=fun c=>decide (((c.toNat:Int) == 46)=(c == 46))) (by decide +kernel) c)
theorem zXT:zDV 46=false:=by decide
theorem zPl (s:List UInt8) (hb:s.length<=1073741824):∀ (k i p:Nat),s.length - i<k->i<=s.length->p<=i ->
  zCc s k (p:Int) (i:Int)=some (if okL s.length i (s.drop i) then .go ((p+(s.drop i).count 46:Nat):Int) else .ret false)
 | 0,_,_,h,_,_=>by omega
 | k+1,i,p,hk,hi,hp=>by
  unfold zCc
  by_cases h:i<s.length
  ·rw[zAF (Int.ofNat_lt.2 h),cond_true,zAJ h,List.drop_eq_getElem_cons h]
   generalize s[i]=c;simp only[obs,zYt,zSd,okL,List.count_cons]
   rw[zAH (by omega),zAH (by omega),wrap64_in (by omega) (by omega)]
   have d1:decide ((0:Int)<(i:Int))=decide (0<i):=zVf 0 i;have d2:decide ((i:Int)<(s.length:Int) - 1)=decide (i+1<s.length):=by
    by_cases h:i+1<s.length
    ·rw[zAF h,zAF (by omega)]
    ·rw[zAD h,zAD (by omega)]
   rw[d1,d2]
   cases e:c == 46 with
   | true =>
    obtain rfl:c=46:=eq_of_beq e;simp only[cond_true,zXT,Bool.true_and,Bool.or_false]
    cases decide (0<i) with
    | false=>rfl
    | true =>
     simp only[cond_true,obs,Bool.true_and]
     cases decide (i+1<s.length) with
     | false=>rfl
     | true =>
      simp only[cond_true,obs,Bool.true_and]
      rw[zPl s hb k (i+1) (p+1) (by omega) (by omega) (by omega)]
      simp only[if_true]
      rw[show p+1+(s.drop (i+1)).count 46=p+((s.drop (i+1)).count 46+1) by omega]
   | false =>
    simp only[cond_false,obs,Bool.false_and,Bool.false_or]
    cases zDV c with
    | false=>rfl
    | true =>
     simp only[Bool.not_true,cond_false,obs,Bool.true_and]
     rw[zPl s hb k (i+1) p (by omega) (by omega) (by omega)]
     simp
  ·rw[zAD (by omega),cond_false]
   obtain rfl:i=s.length :=(by omega);simp[okL]
theorem zPL (n:Nat) (s:List UInt8) (h:s.length<n) (hb:s.length<=1073741824):zFh n s=some (numB s):=by
 have:=zPl s hb n 0 0 (by omega) (by omega) (by omega)
 rw[show((0:Nat):Int)=0 from rfl,List.drop_zero]at this;rw[zFh,this]
 unfold numB;have e0:=zVf 0 s.length;have e20:=zF7 s.length 20;have e1:=zF7 (s.count 46) 1;rw[show((0:Nat):Int)=0 from rfl]at e0;rw[show((20:Nat):Int)=20 from rfl]at e20;rw[show((1:Nat):Int)=1 from rfl]at e1;cases okL s.length 0 s with
 | false=>rfl
 | true =>
  simp only[if_true,obs,e0,e20,Nat.zero_add,e1]
  cases decide (0<s.length) <;> cases decide (s.length<=20) <;> rfl
theorem zQN:∀ s:List UInt8,(s.count 46=0/\Lib.indexByte s 46 = -1)∨∃ a b,s=a++46::b/\a.count 46=0/\Lib.indexByte s 46=(a.length:Int)
 | []=>.inl ⟨rfl,rfl⟩
 | c::s=>by
  by_cases h:c=46
  ·subst h;exact .inr ⟨[],s,rfl,rfl,by simp[Lib.indexByte]⟩
  ·have hc:(c == 46)=false :=(by simpa using h);rcases zQN s with ⟨h1,h2⟩ | ⟨a,b,rfl,h1,h2⟩
   ·exact .inl ⟨by rw[List.count_cons,h1,hc]; rfl,by simp[Lib.indexByte,hc,h2]⟩
   ·refine .inr ⟨c::a,b,rfl,by rw[List.count_cons,h1,hc]; rfl,?_⟩
    have h3:((a.length:Int) == -1)=false:=by
     cases e:((a.length:Int) == -1) with
     | false=>rfl
     | true=>have:=eq_of_beq e; omega
    simp[Lib.indexByte,hc,h2,h3]
theorem zIf (L:Nat):∀ (i:Nat) (a:List UInt8),a.count 46=0->okL L i a=a.all zDV
 | _,[],_=>rfl
 | i,c::a,h=>by
  have hc:(c == 46)=false:=by
   cases e:c == 46 with
   | false=>rfl
   | true=>rw[List.count_cons,e]at h; simp at h
  rw[List.count_cons,hc]at h;rw[okL,hc,zIf L (i+1) a (by simpa using h)]
  simp
theorem zOi (L:Nat):∀ (i:Nat) (a b:List UInt8),okL L i (a++b)=(okL L i a&&okL L (i+a.length) b)
 | _,[],b=>by simp[okL]
 | i,c::a,b=>by
  simp only[List.cons_append,okL,zOi L (i+1) a b,List.length_cons,Bool.and_assoc,show i+1+a.length=i+(a.length+1) by omega]
theorem zO7:∀ a:List UInt8,a.all zDV=true->a.count 46=0
 | [],_=>rfl
 | c::a,h=>by
  simp only[List.all_cons,Bool.and_eq_true]at h;have hc:(c == 46)=false:=by
   cases e:c == 46 with
   | false=>rfl
   | true=>obtain rfl:c=46:=eq_of_beq e; simp[zXT]at h
  rw[List.count_cons,hc,zO7 a h.2]; rfl
theorem zX2 (a b:List UInt8) (ha:a.count 46=0):numB (a++46::b)=(decide ((a++46::b).length<=20)&&((a.all zDV&&!(a == []))&&(b.all zDV&&!(b == [])))):=by
 unfold numB;have hl:(a++46::b).length=a.length+(b.length+1) :=(by simp);rw[zOi,zIf _ _ a ha,hl]
 simp only[okL,zXT,Bool.or_false,List.count_append,List.count_cons,ha,beq_self_eq_true,Bool.true_and,if_true,Nat.zero_add]
 have e1:decide (0<a.length) = !(a == []) :=(by cases a <;> rfl);have e2:decide (a.length+1<a.length+(b.length+1)) = !(b == []):=by
  cases b with
  | nil=>simp
  | cons c b=>simp
 have e3:decide (0<a.length+(b.length+1))=true:=zAF (by omega)
 rw[e1,e2,e3]
 cases hb:b.all zDV with
 | true =>
  rw[zIf _ _ b (zO7 b hb),hb,zO7 b hb]
  cases a.all zDV <;> cases a == [] <;> cases b == [] <;> cases decide (a.length+(b.length+1)<=20) <;> rfl
 | false =>
  cases hc:decide (b.count 46+1<=1) with
  | true =>
   have:b.count 46=0 :=(by have:=of_decide_eq_true hc; omega);rw[zIf _ _ b this,hb]
   cases a.all zDV <;> cases a == [] <;> cases b == [] <;> cases decide (a.length+(b.length+1)<=20) <;> rfl
  | false =>
   generalize okL _ _ b=z;cases z <;> cases a.all zDV <;> cases a == [] <;> cases b == [] <;> cases decide (a.length+(b.length+1)<=20) <;> rfl
theorem zVF (s:List UInt8) (h:s.count 46=0):numB s=(decide (s.length<=20)&&(s.all zDV&&!(s == []))):=by
 unfold numB;rw[zIf _ _ s h,h]
 have e1:decide (0<s.length) = !(s == []) :=(by cases s <;> rfl);rw[e1]
 cases s.all zDV <;> cases s == [] <;> cases decide (s.length<=20) <;> rfl
theorem zNl (n:Nat) (s:List UInt8) (h:s.length<n) (hb:s.length<=1073741824):zDH n s=some (numB s):=by
 have e20:=zF7 s.length 20;rw[show((20:Nat):Int)=20 from rfl]at e20;have hi:zEb s [46]=some (Lib.indexByte s 46):=rfl;rcases zQN s with ⟨h1,h2⟩ | ⟨a,b,rfl,h1,h2⟩
 ·rw[zVF s h1]
  simp only[zDH,zEC,zCJ,hi,h2,obs,show decide ((0:Int)<=-1)=false from rfl,cond_false,e20,zGN n s h hb]
  cases decide (s.length<=20) <;> cases(s.all zDV&&!(s == [])) <;> rfl
 ·have hl:(a++46::b).length=a.length+(b.length+1) :=(by simp);rw[zX2 a b h1]
  have w1:IntKind.i64.wrap ((a.length:Int)+(([46]:List UInt8).length:Int))=((a.length+1:Nat):Int):=zAH (by omega)
  have t1:((a++46::b).take ((a.length:Int)).toNat).drop (0:Int).toNat=a :=(by simp);have t2:((a++46::b).take (((a++46::b).length:Int)).toNat).drop (((a.length+1:Nat):Int)).toNat=b:=by
   rw[Int.toNat_natCast,Int.toNat_natCast,List.take_length,List.drop_append]
   simp
  simp only[zDH,zEC,zCJ,hi,h2,obs,w1]
  rw[zAF (by omega),cond_true,zBf (by omega),zBf (by omega),t1,t2]
  simp only[obs,e20,zGN n a (by omega) (by omega),zGN n b (by omega) (by omega)]
  cases decide ((a++46::b).length<=20) <;> cases(a.all zDV&&!(a == [])) <;> cases(b.all zDV&&!(b == [])) <;> rfl
def Nd.kind:Nd->Int | .mk k _ _ _=>k
def zRJ (k:Int) (t:List UInt8):Bool :=
 if k=2 then symB t else if k=3 then numB t else if k=4 then (decide (t.length<=200)&&t.all zHf) else if k=10 then acL.any (fun e=>e == t) else if k=11 then fenB t else t == []
def zGL (k c:Int) (m:Int):Bool :=
 if k=12 then decide (1<=c)&&(decide (c<=16)&&(decide (1<=m)&&(decide (m<=256)&&(m.tmod c == 0))))
 else (c == 0)&&(if k=1 then decide (m<=200) else if k=2 then m == 0 else if k=3 then m == 0 else if k=4 then m == 0 else if k=5 then m == 2 else if k=6 then m == 2 else if k=7 then m == 2 else if k=8 then m == 2
  else if k=9 then m == 3 else if k=10 then m == 1 else if k=11 then m == 1 else false)
mutual
def zFa:Nd->Bool
 | .mk k t c ks=>(zRJ k t&&zGL k c (ks.length:Int))&&zEl k ks
def zEl:Int->List Nd->Bool
 | _,[]=>true
 | k,v::vs=>(!((v.kind == 1) == (k == 1))&&zFa v)&&zEl k vs
end
mutual
def Nd.dep:Nd->Nat
 | .mk _ _ _ ks=>Nd.deps ks+1
def Nd.deps:List Nd->Nat
 | []=>0
 | v::vs=>Nat.max v.dep (Nd.deps vs)
end
theorem zN8 {k:Int}{a:List Nd}{i:Nat} (h:i<a.length):zEl k (a.drop i)=((!((a[i].kind == 1) == (k == 1))&&zFa a[i])&&zEl k (a.drop (i+1))):=by
 rw[List.drop_eq_getElem_cons h]; rfl
theorem zQO {a:List Nd}{i:Nat} (h:i<a.length):Nd.deps (a.drop i)=Nat.max (a[i]).dep (Nd.deps (a.drop (i+1))):=by
 rw[List.drop_eq_getElem_cons h]; rfl
mutual
theorem Nd.dep_cnt:∀ v:Nd,v.dep<=v.cnt
 | .mk _ _ _ ks=>by have:=Nd.deps_cnts ks; simp only[Nd.dep,Nd.cnt]; omega
theorem Nd.deps_cnts:∀ vs:List Nd,Nd.deps vs<=Nd.cnts vs
 | []=>Nat.le_refl _
 | v::vs=>by
  have:=Nd.dep_cnt v; have:=Nd.deps_cnts vs
  simp only[Nd.deps,Nd.cnts]
  exact Nat.max_le.2 ⟨by omega,by omega⟩
end
mutual
theorem Nd.cnt_w:∀ v:Nd,v.cnt<=v.w
 | .mk _ t _ ks=>by have:=Nd.cnts_ws ks; simp only[Nd.cnt,Nd.w]; omega
theorem Nd.cnts_ws:∀ vs:List Nd,Nd.cnts vs<=Nd.ws vs
 | []=>Nat.le_refl _
 | v::vs=>by have:=Nd.cnt_w v; have:=Nd.cnts_ws vs; simp only[Nd.cnts,Nd.ws]; omega
end
theorem zBM {a b:Int} (h:a ≠ b):(a == b)=false:=by
 cases e:(a == b) with
 | false=>rfl
 | true=>exact absurd (eq_of_beq e) h
theorem zSN (n:Nat) (k:Int) (t:List UInt8) (c:Int) (ks:List Nd) (h:t.length+40<n) (hb:t.length<=1073741824):zG7 n (.mk k t c ks)=some (zRJ k t):=by
 have e200:=zF7 t.length 200;rw[show((200:Nat):Int)=200 from rfl]at e200;have ea:zE3 n acL t=some (acL.any fun e=>e == t):=zMO n acL t (by simp only[acL,List.length_cons,List.length_nil]; omega) (by simp[acL])
 have a1:zDK=some acL:=rfl;unfold zG7 zRJ;dsimp only
 by_cases h2:k=2
 ·subst h2; simp only[beq_self_eq_true,cond_true,zPM n t h hb,obs,if_true]
 rw[zBM h2,if_neg h2,cond_false]
 by_cases h3:k=3
 ·subst h3; simp only[beq_self_eq_true,cond_true,zPL n t (by omega) hb,obs,if_true]
 rw[zBM h3,if_neg h3,cond_false]
 by_cases h4:k=4
 ·subst h4; simp only[beq_self_eq_true,cond_true,zLE n t (by omega) hb,obs,if_true,e200]
  cases decide (t.length<=200) <;> rfl
 rw[zBM h4,if_neg h4,cond_false]
 by_cases h10:k=10
 ·subst h10; simp only[beq_self_eq_true,cond_true,a1,ea,obs,if_true]
 rw[zBM h10,if_neg h10,cond_false]
 by_cases h11:k=11
 ·subst h11; rw[if_pos rfl,beq_self_eq_true,cond_true,zRx n t (by omega)]; rfl
 rw[zBM h11,if_neg h11,cond_false]
theorem kinds (k:Int):k=1∨k=2∨k=3∨k=4∨k=5∨k=6∨k=7∨k=8∨k=9∨k=10∨k=11∨k=12∨(k<1∨12<k):=by omega
theorem zSM (k:Int) (t:List UInt8) (c:Int) (ks:List Nd):zG6 (.mk k t c ks)=some (zGL k c (ks.length:Int)):=by
 unfold zG6;dsimp only;generalize (ks.length:Int)=m;rcases kinds k with rfl | rfl | rfl | rfl | rfl | rfl | rfl | rfl | rfl | rfl | rfl | rfl | h
 ·simp only[bne,zGL]; generalize (c == 0)=z; generalize decide (m<=200)=y; cases z <;> rfl
 ·simp only[bne,zGL]; generalize (c == 0)=z; generalize (m == 0)=y; cases z <;> rfl
 ·simp only[bne,zGL]; generalize (c == 0)=z; generalize (m == 0)=y; cases z <;> rfl
 ·simp only[bne,zGL]; generalize (c == 0)=z; generalize (m == 0)=y; cases z <;> rfl
 ·simp only[bne,zGL]; generalize (c == 0)=z; generalize (m == 2)=y; cases z <;> rfl
 ·simp only[bne,zGL]; generalize (c == 0)=z; generalize (m == 2)=y; cases z <;> rfl
 ·simp only[bne,zGL]; generalize (c == 0)=z; generalize (m == 2)=y; cases z <;> rfl
 ·simp only[bne,zGL]; generalize (c == 0)=z; generalize (m == 2)=y; cases z <;> rfl
 ·simp only[bne,zGL]; generalize (c == 0)=z; generalize (m == 3)=y; cases z <;> rfl
 ·simp only[bne,zGL]; generalize (c == 0)=z; generalize (m == 1)=y; cases z <;> rfl
 ·simp only[bne,zGL]; generalize (c == 0)=z; generalize (m == 1)=y; cases z <;> rfl
 ·unfold zGL;rw[if_pos rfl,beq_self_eq_true,cond_true]
  by_cases h1:1<=c
  ·rw[zAF h1,zBf (by omega)]
   generalize (m.tmod c == 0)=y;cases decide (c<=16) <;> cases decide (1<=m) <;> cases decide (m<=256) <;> rfl
  ·rw[zAD h1]; rfl
 ·have e:∀ i:Int,1<=i->i<=12->(k == i)=false:=fun i h1 h2=>zBM (by omega)
  have f:∀ i:Int,1<=i->i<=12->k ≠ i:=fun i h1 h2=>by omega
  unfold zGL;rw[if_neg (f 12 (by decide) (by decide)),if_neg (f 1 (by decide) (by decide)),if_neg (f 2 (by decide) (by decide)),if_neg (f 3 (by decide) (by decide)),if_neg (f 4 (by decide) (by decide)),if_neg (f 5 (by decide) (by decide)),
   if_neg (f 6 (by decide) (by decide)),if_neg (f 7 (by decide) (by decide)),if_neg (f 8 (by decide) (by decide)),if_neg (f 9 (by decide) (by decide)),if_neg (f 10 (by decide) (by decide)),if_neg (f 11 (by decide) (by decide))]
  rw[e 12 (by decide) (by decide),e 1 (by decide) (by decide),e 2 (by decide) (by decide),e 3 (by decide) (by decide),e 4 (by decide) (by decide),e 5 (by decide) (by decide),
   e 6 (by decide) (by decide),e 7 (by decide) (by decide),e 8 (by decide) (by decide),e 9 (by decide) (by decide),e 10 (by decide) (by decide),e 11 (by decide) (by decide)]
  cases(c == 0) <;> cases(c != 0) <;> rfl
theorem zYC (n:Nat) (x:Int) (k:Int) (t:List UInt8) (c:Int) (ks:List Nd) (h:t.length+40<n) (hb:t.length<=1073741824) :
  zCp n ((),x) (.mk k t c ks)=some (zRJ k t&&zGL k c (ks.length:Int),((),x)):=by
 have e200:=zF7 t.length 200;rw[show((200:Nat):Int)=200 from rfl]at e200;unfold zCp;dsimp only;generalize (ks.length:Int)=m;have em:zB3 t=some (t == []):=rfl;rcases kinds k with rfl | rfl | rfl | rfl | rfl | rfl | rfl | rfl | rfl | rfl | rfl | rfl | h
 ·simp only[em]
  show _=some ((t == [])&&((c == 0)&&decide (m<=200)),((),x))
  cases t == [] <;> cases c == 0 <;> rfl
 ·simp only[zNm n t h hb]
  show _=some (symB t&&((c == 0)&&(m == 0)),((),x))
  cases symB t <;> cases c == 0 <;> rfl
 ·simp only[zNl n t (by omega) hb]
  show _=some (numB t&&((c == 0)&&(m == 0)),((),x))
  cases numB t <;> cases c == 0 <;> rfl
 ·simp only[zPk n t (by omega) hb,e200]
  show _=some ((decide (t.length<=200)&&t.all zHf)&&((c == 0)&&(m == 0)),((),x))
  cases decide (t.length<=200) <;> cases t.all zHf <;> cases c == 0 <;> rfl
 ·simp only[em]
  show _=some ((t == [])&&((c == 0)&&(m == 2)),((),x))
  cases t == [] <;> cases c == 0 <;> rfl
 ·simp only[em]
  show _=some ((t == [])&&((c == 0)&&(m == 2)),((),x))
  cases t == [] <;> cases c == 0 <;> rfl
 ·simp only[em]
  show _=some ((t == [])&&((c == 0)&&(m == 2)),((),x))
  cases t == [] <;> cases c == 0 <;> rfl
 ·simp only[em]
  show _=some ((t == [])&&((c == 0)&&(m == 2)),((),x))
  cases t == [] <;> cases c == 0 <;> rfl
 ·simp only[em]
  show _=some ((t == [])&&((c == 0)&&(m == 3)),((),x))
  cases t == [] <;> cases c == 0 <;> rfl
 ·simp only[zI6]
  show _=some ((acL.any fun e=>e == t)&&((c == 0)&&(m == 1)),((),x))
  cases(acL.any fun e=>e == t) <;> cases c == 0 <;> rfl
 ·simp only[zPj]
  show _=some (fenB t&&((c == 0)&&(m == 1)),((),x))
  cases fenB t <;> cases c == 0 <;> rfl
 ·simp only[em]
  show _=some ((t == [])&&(decide (1<=c)&&(decide (c<=16)&&(decide (1<=m)&&(decide (m<=256)&&(m.tmod c == 0))))),((),x))
  by_cases h1:1<=c
  ·rw[zAF h1,zBf (by omega)]
   generalize (m.tmod c == 0)=y;cases t == [] <;> cases decide (c<=16) <;> cases decide (1<=m) <;> cases decide (m<=256) <;> rfl
  ·rw[zAD h1]
   cases t == [] <;> rfl
 ·have f:∀ i:Int,1<=i->i<=12->k ≠ i:=fun i h1 h2=>by omega
  have hk:zGL k c m=false:=by
   unfold zGL;rw[if_neg (f 12 (by decide) (by decide)),if_neg (f 1 (by decide) (by decide)),if_neg (f 2 (by decide) (by decide)),if_neg (f 3 (by decide) (by decide)),if_neg (f 4 (by decide) (by decide)),if_neg (f 5 (by decide) (by decide)),
    if_neg (f 6 (by decide) (by decide)),if_neg (f 7 (by decide) (by decide)),if_neg (f 8 (by decide) (by decide)),if_neg (f 9 (by decide) (by decide)),if_neg (f 10 (by decide) (by decide)),if_neg (f 11 (by decide) (by decide))]
   exact Bool.and_false _
  rw[hk,Bool.and_false]
  by_cases h1:k<1
  ·rw[zAF h1]; rfl
  ·rw[zAD h1,zAF (show 12<k by omega)]; rfl
theorem zKh {F:Nd->Option Bool}{k:Int}{ks:List Nd} (hF:∀ v∈ks,F v=some (zFa v)) (hl:ks.length<=1073741824) :
  ∀ (q i:Nat),ks.length - i<q->i<=ks.length->zCW F k ks q (i:Int)=some (if zEl k (ks.drop i) then .go () else .ret false)
 | 0,_,h,_=>by omega
 | q+1,i,hq,hi=>by
  unfold zCW
  by_cases h:i<ks.length
  ·rw[zAF (Int.ofNat_lt.2 h),cond_true,zAJ h]
   have hf:=hF _ (List.getElem_mem h)
   have g1:=zN8 (k:=k) h;rcases e:ks[i] with ⟨a,b,c,d⟩
   rw[e]at hf g1;simp only[Nd.kind]at g1;generalize zEl k (ks.drop i)=g at g1 ⊢;subst g1;simp only[obs,hf]
   rw[zAH (by omega),zKh hF hl q (i+1) (by omega) (by omega)]
   cases((a == 1) == (k == 1)) <;> cases zFa (Nd.mk a b c d) <;> simp
  ·rw[zAD (by omega),cond_false]
   obtain rfl:i=ks.length :=(by omega);simp[zEl]
theorem zMQ:∀ (n:Nat) (t:Nd),t.w+45<n->t.w<=1073741824->zDL n t=some (zFa t)
 | 0,_,h,_=>by omega
 | n+1,.mk k t c ks,h,hb=>by
  simp only[Nd.w]at h hb;have hl:=Nd.ws_len ks;unfold zDL;rw[zSN n k t c ks (by omega) (by omega),zSM]
  have:=zKh (F:=zDL n) (k:=k) (ks:=ks) (fun v hv=>zMQ n v (by have:=Nd.w_mem hv; omega) (by have:=Nd.w_mem hv; omega)) (by omega) n 0 (by omega) (by omega)
  rw[show((0:Nat):Int)=0 from rfl,List.drop_zero]at this;simp only[obs,this,zFa]
  cases zRJ k t <;> cases zGL k c (ks.length:Int) <;> cases zEl k ks <;> rfl
theorem zJd {F:Nd->Option Int}{ks:List Nd} (hF:∀ v∈ks,F v=some (v.dep:Int)) (hl:ks.length<=1073741824) :
  ∀ (q i o:Nat),ks.length - i<q->i<=ks.length->zCA F ks q (o:Int) (i:Int)=some ((Nat.max o (Nd.deps (ks.drop i)):Nat):Int)
 | 0,_,_,h,_=>by omega
 | q+1,i,o,hq,hi=>by
  unfold zCA
  by_cases h:i<ks.length
  ·rw[zAF (Int.ofNat_lt.2 h),cond_true,zAJ h,zQO h]
   have hf:=hF _ (List.getElem_mem h)
   rcases e:ks[i] with ⟨a,b,c,d⟩
   rw[e]at hf;simp only[obs,hf]
   have hm:(if (o:Int)<((Nd.mk a b c d).dep:Int) then ((Nd.mk a b c d).dep:Int) else (o:Int))=((Nat.max o (Nd.mk a b c d).dep:Nat):Int):=by
    by_cases g:(o:Int)<((Nd.mk a b c d).dep:Int)
    ·rw[if_pos g]; congr 1; exact(Nat.max_eq_right (by omega)).symm
    ·rw[if_neg g]; congr 1; exact(Nat.max_eq_left (by omega)).symm
   rw[zAH (by omega),hm,zJd hF hl q (i+1) _ (by omega) (by omega)]
   congr 2
   exact Nat.max_assoc _ _ _
  ·rw[zAD (by omega),cond_false]
   obtain rfl:i=ks.length :=(by omega);rw[List.drop_length]
   congr 2
   exact(Nat.max_eq_left (Nat.zero_le _)).symm
theorem zLm:∀ (n:Nat) (t:Nd),t.cnt<n->t.cnt<=67108864->zCV n t=some (t.dep:Int)
 | 0,_,h,_=>by omega
 | n+1,.mk k t c ks,h,hb=>by
  simp only[Nd.cnt]at h hb;have hl:=Nd.cnts_len ks;have hd:=Nd.deps_cnts ks;unfold zCV;have:=zJd (F:=zCV n) (ks:=ks) (fun v hv=>zLm n v (by have:=Nd.cnts_mem hv; omega) (by have:=Nd.cnts_mem hv; omega)) (by omega) n 0 0 (by omega) (by omega)
  rw[show((0:Nat):Int)=0 from rfl,List.drop_zero]at this;rw[this,obs,show Nat.max 0 (Nd.deps ks)=Nd.deps ks from Nat.max_eq_right (Nat.zero_le _),zAH (by omega)]
  rfl
def zAB (t:Nd):Bool:=(t.kind == 1)&&(zFa t&&(decide (t.cnt<=1000)&&decide (t.dep<=24)))
theorem zEr (n:Nat) (t:Nd) (h:t.w+45<n) (hb:t.w<=67108864):zAQ n t=some (zAB t):=by
 have hc:=Nd.cnt_w t;have e1:=zMQ n t h (by omega)
 have e2:=zLl n t (by omega) (by omega)
 have e3:=zLm n t (by omega) (by omega)
 have e4:=zF7 t.cnt 1000;rw[show((1000:Nat):Int)=1000 from rfl]at e4;have e5:=zF7 t.dep 24;rw[show((24:Nat):Int)=24 from rfl]at e5;obtain⟨k,s,c,ks⟩:=t;unfold zAQ zAB;simp only[e1,e2,e3,obs,e4,e5,Nd.kind]
 cases k == 1 <;> cases zFa (.mk k s c ks) <;> cases decide ((Nd.mk k s c ks).cnt<=1000) <;> rfl
abbrev okN (t:Nd) (x d:Nat):Prop:=zFa t=true/\x+t.cnt<=1000/\d+t.dep<=25
abbrev okNs (k:Int) (vs:List Nd) (x d:Nat):Prop:=zEl k vs=true/\x+Nd.cnts vs<=1000/\d+Nd.deps vs<=24
theorem zN4 {F:(Unit×Int)->Nd->Int->Option (Bool×(Unit×Int))}{k:Int}{ks:List Nd}{d:Nat} (hd:d<=24)
  (hF:∀ v∈ks,∀ x:Nat,x<=1000->∃ y,F ((),(x:Int)) v ((d+1:Nat):Int)=some (decide (okN v x (d+1)),((),y))/\(okN v x (d+1)->y=((x+v.cnt:Nat):Int))) (hl:ks.length<=1073741824) :
  ∀ (q i x:Nat),ks.length - i<q->i<=ks.length->x<=1000 ->
   (okNs k (ks.drop i) x d/\zAT F k ks (d:Int) q (x:Int) (i:Int)=some (.go ((x+Nd.cnts (ks.drop i):Nat):Int))) ∨
   (¬ okNs k (ks.drop i) x d/\∃ z,zAT F k ks (d:Int) q (x:Int) (i:Int)=some (.ret (false,((),z))))
 | 0,_,_,h,_,_=>by omega
 | q+1,i,x,hq,hi,hx=>by
  unfold zAT
  by_cases h:i<ks.length
  ·rw[zAF (Int.ofNat_lt.2 h),cond_true,zAJ h]
   obtain⟨y,hf,hy⟩:=hF _ (List.getElem_mem h) x hx;have g1:=zN8 (k:=k) h;have g2:=Nd.cnts_drop h;have g3:=zQO h;rcases e:ks[i] with ⟨a,b,c,ds⟩
   rw[e]at hf hy g1 g2 g3;simp only[obs]
   rw[zAH (by omega),zAH (by omega),hf]
   simp only[obs]
   have g4:Nd.deps (ks.drop i)=Nat.max (Nd.mk a b c ds).dep (Nd.deps (ks.drop (i+1))):=g3;have g5:(Nd.mk a b c ds).dep<=Nd.deps (ks.drop i) :=(by rw[g4]; exact Nat.le_max_left _ _);have g6:Nd.deps (ks.drop (i+1))<=Nd.deps (ks.drop i) :=(by rw[g4]; exact Nat.le_max_right _ _);rw[show((k == 1) == (a == 1))=((a == 1) == (k == 1)) by cases k == 1 <;> cases a == 1 <;> rfl]
   cases hkk:((a == 1) == (k == 1)) with
   | true =>
    simp only[cond_true,obs]
    refine .inr ⟨fun⟨h1,_⟩=>?_,_,rfl⟩
    rw[g1]at h1;simp[Nd.kind,hkk]at h1
   | false =>
    simp only[cond_false,obs]
    by_cases hok:okN (Nd.mk a b c ds) x (d+1)
    ·rw[zAF hok]
     simp only[Bool.not_true,cond_false]
     rw[hy hok]
     have hp:=(Nd.mk a b c ds).cnt_pos;rcases zN4 hd hF hl q (i+1) (x+(Nd.mk a b c ds).cnt) (by omega) (by omega) hok.2.1 with ⟨hr,hr2⟩ | ⟨hr,z,hr2⟩
     ·refine .inl ⟨⟨?_,?_,?_⟩,?_⟩
      ·rw[g1,hr.1,hok.1]; simp[Nd.kind,hkk]
      ·have:=hr.2.1; omega
      ·have:=hr.2.2;have:=hok.2.2;have:Nd.deps (ks.drop i)<=24 - d:=by rw[g4]; exact Nat.max_le.2 ⟨by omega,by omega⟩
       omega
      ·rw[hr2,g2]; congr 3; omega
     ·refine .inr ⟨fun⟨h1,h2,h3⟩=>hr ⟨?_,by omega,by omega⟩,z,hr2⟩
      rw[g1]at h1;simp only[Bool.and_eq_true]at h1;exact h1.2
    ·rw[zAD hok]
     simp only[Bool.not_false,cond_true]
     refine .inr ⟨fun⟨h1,h2,h3⟩=>hok ⟨?_,by omega,by omega⟩,y,rfl⟩
     rw[g1]at h1;simp only[Bool.and_eq_true]at h1;exact h1.1.2
  ·rw[zAD (by omega),cond_false]
   obtain rfl:i=ks.length :=(by omega);rw[List.drop_length]
   exact .inl ⟨⟨rfl,hx,hd⟩,rfl⟩
theorem zTd:∀ (n:Nat) (t:Nd) (x d:Nat),t.w+45<n->t.w<=67108864->x<=1000->d<=25 ->
  ∃ y,zA2 n ((),(x:Int)) t (d:Int)=some (decide (okN t x d),((),y))/\(okN t x d->y=((x+t.cnt:Nat):Int))
 | 0,_,_,_,h,_,_,_=>by omega
 | n+1,.mk k t c ks,x,d,h,hb,hx,hd=>by
  simp only[Nd.w]at h hb;have hl:=Nd.ws_len ks;unfold zA2;rw[zAH (by omega)]
  by_cases h1:1000<((x+1:Nat):Int)
  ·rw[zAF h1]
   simp only[cond_true,obs]
   have hn:¬ okN (.mk k t c ks) x d:=fun⟨_,h2,_⟩=>by simp only[Nd.cnt]at h2; omega
   exact⟨_,by rw[zAD hn],fun h=>absurd h hn⟩
  ·rw[zAD h1,cond_false]
   by_cases h2:24<(d:Int)
   ·rw[zAF h2]
    simp only[cond_true,obs]
    have hn:¬ okN (.mk k t c ks) x d:=fun⟨_,_,h2⟩=>by simp only[Nd.dep]at h2; omega
    exact⟨_,by rw[zAD hn],fun h=>absurd h hn⟩
   ·rw[zAD h2,cond_false,zYC n _ k t c ks (by omega) (by omega)]
    simp only[obs]
    cases ho:(zRJ k t&&zGL k c (ks.length:Int)) with
    | false =>
     simp only[Bool.not_false,cond_true]
     have hn:¬ okN (.mk k t c ks) x d:=fun⟨h1,_⟩=>by rw[zFa,ho]at h1; cases h1
     exact⟨_,by rw[zAD hn],fun h=>absurd h hn⟩
    | true =>
     simp only[Bool.not_true,cond_false]
     have:=zN4 (F:=zA2 n) (k:=k) (ks:=ks) (d:=d) (by omega) (fun v hv z hz=>zTd n v z (d+1) (by have:=Nd.w_mem hv; omega) (by have:=Nd.w_mem hv; omega) hz (by omega)) (by omega) n 0 (x+1) (by omega) (by omega) (by omega)
     rw[show((0:Nat):Int)=0 from rfl,List.drop_zero]at this;rcases this with ⟨hr,hr2⟩ | ⟨hr,z,hr2⟩
     ·have hy:okN (.mk k t c ks) x d:=⟨by rw[zFa,ho,hr.1]; rfl,by have:=hr.2.1; simp only[Nd.cnt]; omega,by have:=hr.2.2; simp only[Nd.dep]; omega⟩
      rw[hr2]
      exact⟨_,by rw[zAF hy]; rfl,fun _=>by simp only[Nd.cnt]; omega⟩
     ·have hn:¬ okN (.mk k t c ks) x d:=fun⟨g1,g2,g3⟩=>hr ⟨by rw[zFa,ho]at g1; exact g1,by simp only[Nd.cnt]at g2; omega,by simp only[Nd.dep]at g3; omega⟩
      rw[hr2]
      exact⟨_,by rw[zAD hn]; rfl,fun h=>absurd h hn⟩
theorem zC1 (n:Nat) (t:Nd) (h:t.w+45<n) (hb:t.w<=67108864):zA8 n t=some (zAB t):=by
 obtain⟨y,h1,_⟩:=zTd n t 0 1 h hb (by omega) (by omega)
 rw[show((0:Nat):Int)=0 from rfl,show((1:Nat):Int)=1 from rfl]at h1;obtain⟨k,s,c,ks⟩:=t;unfold zA8 zAB;have hk:zGy=some ():=rfl;simp only[hk,h1,obs,Nd.kind]
 cases k == 1 with
 | false=>rfl
 | true =>
  simp only[cond_true,obs,Bool.true_and,Option.some.injEq,okN]
  cases zFa (.mk k s c ks) with
  | false=>simp
  | true =>
   by_cases g1:(Nd.mk k s c ks).cnt<=1000
   ·by_cases g2:(Nd.mk k s c ks).dep<=24
    ·rw[zAF g1,zAF g2,zAF ⟨rfl,by omega,by omega⟩]; rfl
    ·rw[zAF g1,zAD g2,zAD (fun h=>g2 (by omega))]; rfl
   ·rw[zAD g1,zAD (fun h=>g1 (by omega))]; rfl
def Nd.text:Nd->List UInt8 | .mk _ t _ _=>t
def Nd.cols:Nd->Int | .mk _ _ c _=>c
theorem Nd.cnt_kids:∀ x:Nd,x.cnt=Nd.cnts x.kids+1
 | .mk _ _ _ _=>rfl
def zYq (x y:Nd):Bool:=(x.kind == y.kind)&&(((x.kids.length:Int) == (y.kids.length:Int))&&(x.cols == y.cols))
def rowD (P:Nd->Nd->Nat) (x:Nd) (f:List Nd->Nat):List Nd->Nat
 | []=>x.cnt+f []
 | y::ys=>if zYq x y then min (min (x.cnt+f (y::ys)) (y.cnt+rowD P x f ys)) (P x y+f ys) else min (x.cnt+f (y::ys)) (y.cnt+rowD P x f ys)
def TD (P:Nd->Nd->Nat):List Nd->List Nd->Nat
 | []=>Nd.cnts
 | x::xs=>rowD P x (TD P xs)
def sumD (f:List Nd->List Nd->Nat):List Nd->List Nd->Nat
 | u::us,v::vs=>f u.kids v.kids+sumD f us vs
 | _,_=>0
def txt (x y:Nd):Nat:=bif x.text == y.text then 0 else 1
def PD:Nat->Nd->Nd->Nat
 | 0,_,_=>0
 | n+1,x,y=>txt x y+sumD (TD (PD n)) x.kids y.kids
def D (x y:Nd):Nat:=PD x.cnt x y
theorem zGb {k:Int}:∀ {a:List Nd}{v:Nd},zEl k a=true->v∈a->zFa v=true/\((v.kind == 1) == (k == 1))=false
 | u::a,v,h,hm=>by
  simp only[zEl,Bool.and_eq_true,Bool.not_eq_true']at h;rcases List.mem_cons.1 hm with rfl | hm
  ·exact⟨h.1.2,h.1.1⟩
  ·exact zGb h.2 hm
theorem zTj {u:Nd} (h:zFa u=true) (hk:u.kind=1):u = .mk 1 [] 0 u.kids/\zEl 1 u.kids=true:=by
 obtain⟨k,t,c,ks⟩:=u;simp only[Nd.kind]at hk;subst hk;simp only[zFa,Bool.and_eq_true]at h;obtain⟨⟨h1,h2⟩,h3⟩:=h;have h1':(t == [])=true:=h1;have h2':((c == 0)&&decide ((ks.length:Int)<=200))=true:=h2;simp only[Bool.and_eq_true]at h2';rw[eq_of_beq h1',eq_of_beq h2'.1]
 exact⟨rfl,h3⟩
theorem zRD {F:Nd->Nd->Option Bool}{a b:List Nd} (hF:∀ u∈a,∀ v∈b,∃ y,F u v=some y/\(y=true↔u=v)) (hl:a.length=b.length) (hb:a.length<=1073741824) :
  ∀ (q i:Nat),a.length - i<q->i<=a.length->∃ y,zBw F a b q (i:Int)=some (if y then .go () else .ret false)/\(y=true↔a.drop i=b.drop i)
 | 0,_,h,_=>by omega
 | q+1,i,hq,hi=>by
  unfold zBw
  by_cases h:i<a.length
  ·have h':i<b.length :=(by omega);rw[zAF (Int.ofNat_lt.2 h),cond_true,zAJ h,zAJ h']
   obtain⟨y,f1,f2⟩:=hF _ (List.getElem_mem h) _ (List.getElem_mem h')
   have d1:=List.drop_eq_getElem_cons h;have d2:=List.drop_eq_getElem_cons h';rcases e:a[i] with ⟨x1,x2,x3,x4⟩
   rcases e':b[i] with ⟨y1,y2,y3,y4⟩
   rw[e,e']at f1 f2;rw[e]at d1;rw[e']at d2;simp only[obs,f1]
   cases y with
   | false =>
    refine⟨false,rfl,⟨(fun h=>by cases h),fun h=>?_⟩⟩
    rw[d1,d2]at h;exact f2.2 (List.cons.inj h).1
   | true =>
    simp only[Bool.not_true,cond_false]
    rw[zAH (by omega)]
    obtain⟨z,g1,g2⟩:=zRD hF hl hb q (i+1) (by omega) (by omega)
    refine⟨z,g1,?_⟩
    rw[d1,d2,g2,f2.1 rfl]
    simp
  ·rw[zAD (by omega),cond_false]
   obtain rfl:i=a.length :=(by omega);refine⟨true,rfl,?_⟩
   rw[List.drop_length,hl,List.drop_length]
   simp
theorem zJG:∀ N:Nat,(∀ x y:Nd,2 * x.cnt<N->x.cnt<=67108864->∃ r,zBv N x y=some r/\(r=true↔x=y)) /\
  (∀ a b:List Nd,2 * Nd.cnts a+1<N->Nd.cnts a<=67108864->∃ r,zBK N a b=some r/\(r=true↔a=b))
 | 0=>⟨fun _ _ h _=>by omega,fun _ _ h _=>by omega⟩
 | n+1=>by
  obtain⟨ih1,ih2⟩:=zJG n;refine⟨fun x y h hx=>?_,fun a b h ha=>?_⟩
  ·obtain⟨a,b,c,d⟩:=x;obtain⟨a',b',c',d'⟩:=y;simp only[Nd.cnt]at h hx;obtain⟨r,h1,h2⟩:=ih2 d d' (by omega) (by omega)
   unfold zBv;simp only[h1,obs]
   cases e1:a == a' with
   | false=>exact⟨false,rfl,⟨(fun h=>by cases h),fun h=>by cases h; simp at e1⟩⟩
   | true =>
    cases e2:b == b' with
    | false=>exact⟨false,rfl,⟨(fun h=>by cases h),fun h=>by cases h; simp at e2⟩⟩
    | true =>
     cases e3:c == c' with
     | false=>exact⟨false,rfl,⟨(fun h=>by cases h),fun h=>by cases h; simp at e3⟩⟩
     | true =>
      refine⟨r,rfl,h2.trans ⟨fun h=>?_,fun h=>by cases h; rfl⟩⟩
      rw[eq_of_beq e1,eq_of_beq e2,eq_of_beq e3,h]
  ·unfold zBK;have l1:=Nd.cnts_len a
   by_cases hl:a.length=b.length
   ·obtain⟨y,g1,g2⟩:=zRD (F:=zBv n) (a:=a) (b:=b) (fun u hu v _=>ih1 u v (by have:=Nd.cnts_mem hu; omega) (by have:=Nd.cnts_mem hu; omega)) hl (by omega) n 0 (by omega) (by omega)
    rw[show((0:Nat):Int)=0 from rfl]at g1;rw[hl,bne_self_eq_false,cond_false,g1]
    refine⟨y,by cases y <;> rfl,g2⟩
   ·have:((a.length:Int) != (b.length:Int))=true:=by
     unfold bne;rw[zBM (by omega)]; rfl
    rw[this]
    exact⟨false,rfl,⟨(fun h=>by cases h),fun h=>absurd (congrArg List.length h) hl⟩⟩
theorem zKq {x:Nd} (h:zAB x=true):x = .mk 1 [] 0 x.kids/\zEl 1 x.kids=true:=by
 unfold zAB at h;simp only[Bool.and_eq_true]at h;exact zTj h.2.1 (eq_of_beq h.1)
inductive Fd:Nd->List Int->Nd->Prop
 | nil (t:Nd):Fd t [] t
 | step {k:Int} {tx:List UInt8} {c:Int} {ks:List Nd} {i:Nat} {k2:Int} {tx2:List UInt8} {c2:Int} {ks2:List Nd} {s:Nat} {z r:Nd} {p:List Int}
   (hi:ks[i]? = some (.mk k2 tx2 c2 ks2)) (hs:ks2[s]? = some z) (h:Fd z p r):Fd (.mk k tx c ks) ((i:Int)::(s:Int)::p) r
theorem Fd.find {t r:Nd}{p:List Int} (h:Fd t p r):zBt t p=some r:=by
 induction h with
 | nil t=>rw[zBt]
 | @step k tx c ks i k2 tx2 c2 ks2 s z r p hi hs _ ih =>
  have hl:=(List.getElem?_eq_some_iff.1 hi).1;have hl2:=(List.getElem?_eq_some_iff.1 hs).1;rw[zBt,if_pos ⟨by omega,show(i:Int)<(ks.length:Int) by omega⟩]
  simp only[Nd.kids,List.getD_eq_getElem?_getD,Int.toNat_natCast,hi,hs,Option.getD_some]
  rw[if_pos ⟨by omega,show(s:Int)<(ks2.length:Int) by omega⟩]
  exact ih
theorem Fd.of:∀ (N:Nat) (p:List Int) (t r:Nd),p.length<N->zBt t p=some r->Fd t p r
 | 0,p,_,_,h,_=>by omega
 | N+1,[],t,r,_,h=>by
  rw[zBt]at h;cases h;exact .nil t
 | N+1,[_],t,r,_,h=>by
  rw[zBt]at h;cases h
 | N+1,i::s::p,.mk k tx c ks,r,hN,h=>by
  rw[zBt]at h;split at h
  ·rename_i hi
   replace hi:0<=i/\i<ks.length:=hi;obtain⟨i,rfl⟩:=Int.eq_ofNat_of_zero_le hi.1;have hx:ks[i]? = some ks[i]:=List.getElem?_eq_getElem (by omega)
   generalize ks[i]=x at hx;obtain⟨k2,tx2,c2,ks2⟩:=x;simp only[Nd.kids,List.getD_eq_getElem?_getD,Int.toNat_natCast,hx,Option.getD_some]at h;split at h
   ·rename_i hs
    obtain⟨s,rfl⟩:=Int.eq_ofNat_of_zero_le hs.1;have hz:ks2[s]? = some ks2[s]:=List.getElem?_eq_getElem (by omega)
    generalize ks2[s]=z at hz;rw[Int.toNat_natCast,hz,Option.getD_some]at h;exact .step hx hz (Fd.of N p z r (by simp only[List.length_cons]at hN; omega) h)
   ·cases h
  ·cases h
theorem zWF {p:List Int}{t r:Nd} (h:zBt t p=some r):Fd t p r:=Fd.of _ p t r (Nat.lt_succ_self _) h
theorem zIp {t r:Nd}:putL t [] r=r:=by cases t; rw[putL]; intros; contradiction
theorem zEY {k:Int}{tx:List UInt8}{c:Int}{ks:List Nd}{i:Nat}{k2:Int}{tx2:List UInt8}{c2:Int}{ks2:List Nd}{s:Nat}{z r:Nd}{p:List Int} (hi:ks[i]? = some (.mk k2 tx2 c2 ks2)) (hs:ks2[s]? = some z) :
  putL (.mk k tx c ks) ((i:Int)::(s:Int)::p) r = .mk k tx c (ks.set i (.mk k2 tx2 c2 (ks2.set s (putL z p r)))):=by
 rw[putL,Int.toNat_natCast,hi]
 dsimp only;rw[Int.toNat_natCast,hs]
theorem zJF:∀ {ks:List Nd}{i:Nat}{x y:Nd},ks[i]? = some x->Nd.ws (ks.set i y)+x.w=Nd.ws ks+y.w
 | [],i,x,y,h=>by simp at h
 | v::ks,0,x,y,h=>by
  obtain rfl:v=x :=(by simpa using h);simp only[List.set_cons_zero,Nd.ws]; omega
 | v::ks,i+1,x,y,h=>by
  have:=zJF (ks:=ks) (i:=i) (x:=x) (y:=y) (by simpa using h)
  simp only[List.set_cons_succ,Nd.ws]; omega
theorem Fd.w {t z:Nd}{p:List Int} (h:Fd t p z) (r:Nd):(putL t p r).w+z.w=t.w+r.w:=by
 induction h with
 | nil t=>rw[zIp]; omega
 | @step k tx c ks i k2 tx2 c2 ks2 s z r' p hi hs _ ih =>
  rw[zEY hi hs]
  have h1:=zJF (y:=.mk k2 tx2 c2 (ks2.set s (putL z p r))) hi;have h2:=zJF (y:=putL z p r) hs;simp only[Nd.w]at *
  omega
theorem zRF {α:Type}{l:List α}{i:Nat}{x y:α} (h:l[i]? = some x):(l.set i y)[i]? = some y:=by
 rw[List.getElem?_set,if_pos rfl,if_pos (List.getElem?_eq_some_iff.1 h).1]
theorem zLO {α:Type}{l:List α}{i:Nat}{x y:α} (h:l[i]? = some x):(l.set i y).set i x=l:=by
 refine List.ext_getElem? fun j=>?_
 rw[List.set_set,List.getElem?_set]
 split
 ·rename_i e
  subst e;rw[if_pos (List.getElem?_eq_some_iff.1 h).1,h]
 ·rfl
theorem Fd.put {t z:Nd}{p:List Int} (h:Fd t p z) (r:Nd):Fd (putL t p r) p r:=by
 induction h with
 | nil t=>rw[zIp]; exact .nil r
 | @step k tx c ks i k2 tx2 c2 ks2 s z r' p hi hs _ ih =>
  rw[zEY hi hs]
  exact .step (zRF hi) (zRF hs) ih
theorem Fd.put_put {t z:Nd}{p:List Int} (h:Fd t p z) (r q:Nd):putL (putL t p r) p q=putL t p q:=by
 induction h with
 | nil t=>simp only[zIp]
 | @step k tx c ks i k2 tx2 c2 ks2 s z r' p hi hs _ ih =>
  rw[zEY hi hs,zEY hi hs,zEY (zRF hi) (zRF hs),ih]
  simp only[List.set_set]
theorem Fd.put_self {t z:Nd}{p:List Int} (h:Fd t p z):putL t p z=t:=by
 induction h with
 | nil t=>rw[zIp]
 | @step k tx c ks i k2 tx2 c2 ks2 s z r' p hi hs _ ih =>
  rw[zEY hi hs,ih]
  have e1:ks2.set s z=ks2:=by
   have:=zLO (y:=z) hs
   rwa [List.set_set]at this
  have e2:ks.set i (.mk k2 tx2 c2 ks2)=ks:=by
   have:=zLO (y:=.mk k2 tx2 c2 ks2) hi
   rwa [List.set_set]at this
  rw[e1,e2]
theorem Fd.back {t z:Nd}{p:List Int} (h:Fd t p z) (r:Nd):putL (putL t p r) p z=t:=by rw[h.put_put,h.put_self]
theorem zH3:∀ {ks:List Nd}{v:Nd},v∈ks->v.dep<=Nd.deps ks
 | u::ks,v,h=>by
  simp only[Nd.deps]
  rcases List.mem_cons.1 h with rfl | h
  ·exact Nat.le_max_left _ _
  ·exact Nat.le_trans (zH3 h) (Nat.le_max_right _ _)
theorem zJ5 {k:Int}{tx:List UInt8}{c:Int}{ks:List Nd} (h:zFa (.mk k tx c ks)=true):zEl k ks=true:=by
 simp only[zFa,Bool.and_eq_true]at h;exact h.2
theorem Fd.form {t z:Nd}{p:List Int} (h:Fd t p z) (hf:zFa t=true) (hk:t.kind=1):zFa z=true/\z.kind=1:=by
 induction h with
 | nil t=>exact⟨hf,hk⟩
 | @step k tx c ks i k2 tx2 c2 ks2 s z r' p hi hs _ ih =>
  obtain⟨f1,f2⟩:=zGb (zJ5 hf) (List.mem_of_getElem? hi)
  obtain⟨g1,g2⟩:=zGb (zJ5 f1) (List.mem_of_getElem? hs)
  have hk:k=1:=hk;subst hk;have f3:(k2 == 1)=false :=(by simpa [Nd.kind] using f2);rw[f3]at g2;refine ih g1 ?_;cases e:z.kind == 1 with
  | true=>exact eq_of_beq e
  | false=>rw[e]at g2; cases g2
theorem Fd.small {t z:Nd}{p:List Int} (h:Fd t p z):z.cnt<=t.cnt/\z.dep<=t.dep/\z.w<=t.w:=by
 induction h with
 | nil t=>exact⟨Nat.le_refl _,Nat.le_refl _,Nat.le_refl _⟩
 | @step k tx c ks i k2 tx2 c2 ks2 s z r' p hi hs _ ih =>
  have m1:=Nd.w_mem (List.mem_of_getElem? hi)
  have m2:=Nd.w_mem (List.mem_of_getElem? hs)
  have n1:=Nd.cnts_mem (List.mem_of_getElem? hi)
  have n2:=Nd.cnts_mem (List.mem_of_getElem? hs)
  have d1:=zH3 (List.mem_of_getElem? hi)
  have d2:=zH3 (List.mem_of_getElem? hs)
  simp only[Nd.w,Nd.cnt,Nd.dep]at *
  omega
theorem Fd.valid {t z:Nd}{p:List Int} (h:Fd t p z) (hv:zAB t=true):zAB z=true:=by
 unfold zAB at hv ⊢;simp only[Bool.and_eq_true,decide_eq_true_eq]at hv ⊢;obtain⟨h1,h2,h3,h4⟩:=hv;obtain⟨f1,f2⟩:=h.form h2 (eq_of_beq h1)
 obtain⟨s1,s2,_⟩:=h.small;exact⟨by rw[f2]; rfl,f1,by omega,by omega⟩
end Go.Proofs.YtffhjiplcfncdaaGreat
