/-
  Joined out of: FzHA, FzHB, PTypO, PTypR, PCnt, PByte, PText, PVal, PDist, PMet, PPut, PPos, PDump, PNode.
-/
import Derived.Lib.ItoaLen
import Derived.Test.YtgplhldfbkmmgaaGreatZd
set_option linter.unusedVariables false
set_option linter.unusedSimpArgs false
set_option maxHeartbeats 2000000
set_option maxRecDepth 100000
namespace Go.Proofs.YtgplhldfbkmmgaaGreat
open Go.Abs
def zNp (n:Nat) (xs:List AV) (r:Ret):Prop:=∃ (a0:List UInt8) (y0:Bool),zDY n a0=some y0/\xs=[.s (.str a0)]/\r = .val (.s (.bool y0))
def zIH:zAy:=zAx fun xs r=>∃ n,zNp n xs r
theorem zMl:PSound Tryz.prog 72 zIH:=by
 have gok:=@gok0 Tryz.prog;refine zAz tokW Tryz.call72 Tryz.func72 rfl (fun xs r h=>by obtain⟨n,_,_,_,rfl,_⟩:=h; show 1<=23; decide) 23 rfl ?_;rintro xs r w0 G0 ⟨n,s1,y0,h,rfl,rfl⟩ _;rw[zDY]at h;refine zAa ?_;refine zAb [] [] rfl ?_;show Tri ..;refine zAa ?_;refine zAa ?_;refine zAb [] [] rfl ?_;show Tri ..;obtain⟨fl,hl,ho1⟩:=zAc h;refine zBA (fl:=fl) (fun z=>match z with | _=>⟨ofL [(0,.s (.str s1))],fun _=>none,0⟩) ?_ (fun z σ' hz hle=>?_)
 ·refine zAk (zAG (X:=Nat×Int) (fun y=>match y with | (k,i2)=>⟨ofL [(0,.s (.str s1)),(3,.s (.int .i64 i2))],fun _=>none,0⟩) (fun y=>zBh s1 y.1 y.2=some fl) (fun y=>y.1) (n,0) hl ?_ ?_)
  ·exact(Le.forget _ ⟨rfl,rfl,trivial⟩)
  ·rintro⟨k,i2⟩ h;cases k with
   | zero=>cases h
   | succ k =>
    replace h:zBh s1 (k+1) i2=some fl:=h;rw[zBh]at h;refine zAa ?_;refine zAa ?_;refine zAb [] [] rfl ?_;show Tri ..;refine zAh rfl h (fun hb h=>?_) (fun hb h=>?_)
    ·refine zAf ?_;show Tri ..;refine zAa ?_;refine zAk ?_;refine zAa ?_;obtain⟨x3,hj,h⟩:=zAc h;refine zAq ⟨ofL [(0,.s (.str s1)),(3,.s (.int .i64 i2)),(19,.s (.bool x3))],fun _=>none,0⟩ ?_ (fun σ' hle=>?_)
     ·replace h:=hj;refine zAb [] [12,14,17] rfl ?_;obtain⟨c4,hc4,h⟩:=zAc h;refine And.intro (zBr hc4).1 ?_;intro v5 hv5;obtain rfl:(c4.toNat:Int)=v5:=(hv5.trans (zBr hc4).2).symm;intro b hb;cases b with
      | true =>
       replace h:=zAD hb.symm h;cases h;exact(Le.forget _ ⟨rfl,rfl,rfl,trivial⟩)
      | false =>
       replace h:=zAC hb.symm h;obtain⟨c6,hc6,h⟩:=zAc h;refine And.intro (zBr hc6).1 ?_;intro v7 hv7;obtain rfl:(c6.toNat:Int)=v7:=(hv7.trans (zBr hc6).2).symm;cases h;exact(Le.forget _ ⟨rfl,rfl,rfl,trivial⟩)
     ·show Tri ..;refine zAj hle ?_;refine zAh rfl h (fun hb h=>?_) (fun hb h=>?_)
      ·refine zAa ?_;refine zAb [] [] rfl ?_;show Tri ..;refine zAd ?_;cases h;replace h:some _=some _:=ho1;have hy:=Option.some.inj h;subst hy;unfold zAt;exact⟨_,Le.refl _ _,rfl,rfl⟩
      ·refine zAf ?_;show Tri ..;refine zAb [] [] rfl ?_;refine⟨(k,IntKind.i64.wrap (i2+1)),h,(Le.forget _ ⟨rfl,rfl,trivial⟩),Nat.lt_succ_self k⟩
    ·refine zAI ?_;cases h;exact⟨_,rfl,(Le.forget _ ⟨rfl,trivial⟩)⟩
 ·subst hz;obtain _:=z;replace h:=ho1;show Tri ..;refine zAj hle ?_;refine zAa ?_;refine zAb [] [] rfl ?_;show Tri ..;refine zAd ?_;have hy:=Option.some.inj h;subst hy;unfold zAt;exact⟨_,Le.refl _ _,rfl,rfl⟩
def zNu (n:Nat) (xs:List AV) (r:Ret):Prop:=∃ (a0:Nd) (a1:List Int) (y0:Bool),zD1 n a0 a1=some y0/\xs=[.agg ((Nd.enc a0).map .s),.s (.sl 1 ((List.map (irow .i64)) a1))]/\r = .val (.s (.bool y0))
def zIL:zAy:=zAx fun xs r=>∃ n,zNu n xs r
theorem zMp:PSound Tryz.prog 149 zIL:=by
 have gok:=@gok0 Tryz.prog;refine zAz tokW Tryz.call149 Tryz.func149 rfl (fun xs r h=>by obtain⟨n,_,_,_,_,rfl,_⟩:=h; show 2<=77; decide) 77 rfl ?_;rintro xs r w0 G0 ⟨n,⟨a1A,a1B,a1D,a1C⟩,a2,y0,h,rfl,rfl⟩ _;rw[zD1]at h;refine zAa ?_;refine zAb [] [] rfl ?_;show Tri ..;refine zAa ?_;refine zAb [] [] rfl ?_;show Tri ..;refine zAa ?_;obtain⟨fl,hl,ho1⟩:=zAc h
 refine zBA (fl:=fl) (fun z=>match z with | ⟨x5,⟨x6A,x6B,x6D,x6C⟩⟩=>⟨ofL [(1,.s (.sl 1 ((List.map (irow .i64)) x5))),(5,.s (.pt [.int .i64 x6A,.str x6B,.int .i64 x6D,.sl 4 (Nd.encs x6C)]))],fun _=>none,0⟩) ?_ (fun z σ' hz hle=>?_)
 ·refine zAk (zAG (X:=Nat×(List Int)×Nd) (fun y=>match y with | (k,x3,⟨x4A,x4B,x4D,x4C⟩)=>⟨ofL [(1,.s (.sl 1 ((List.map (irow .i64)) x3))),(5,.s (.pt [.int .i64 x4A,.str x4B,.int .i64 x4D,.sl 4 (Nd.encs x4C)]))],fun _=>none,0⟩) (fun y=>zBC  y.1 y.2.1 y.2.2=some fl) (fun y=>y.1) (n,a2,Nd.mk a1A a1B a1D a1C) hl ?_ ?_)
  ·exact(Le.forget _ ⟨rfl,rfl,trivial⟩)
  ·rintro⟨k,x3,⟨x4A,x4B,x4D,x4C⟩⟩ h;cases k with
   | zero=>cases h
   | succ k =>
    replace h:zBC  (k+1) x3 ⟨x4A,x4B,x4D,x4C⟩=some fl:=h;rw[zBC]at h;refine zAa ?_;refine zAa ?_;refine zAb [] [9] rfl ?_;intro n7 hn7;obtain rfl:(x3.length:Int)=n7:=(hn7.trans (congrArg (fun m:Nat=>(m:Int)) (rlen (fun _=>rfl) x3))).symm;show Tri ..;refine zAh rfl h (fun hb h=>?_) (fun hb h=>?_)
    ·refine zAf ?_;show Tri ..;refine zAa ?_;refine zAk ?_;refine zAa ?_;refine zA2 [] [14,17] [] rfl (by decide +kernel) ?_;obtain⟨e8,he8,h⟩:=zAc h;refine And.intro (zAB (fun _=>rfl) he8).1 ?_;intro r9 hr9;obtain rfl:[.int .i64 e8]=r9:=(hr9.trans (zAB (fun _=>rfl) he8).2.1).symm;obtain⟨e10,he10,h⟩:=zAc h;refine And.intro (zAB (fun _=>rfl) he10).1 ?_;intro r11 hr11;obtain rfl:[.int .i64 e10]=r11:=(hr11.trans (zAB (fun _=>rfl) he10).2.1).symm;show Tri ..;refine zAa ?_;refine zAa ?_;obtain⟨x12,hj,h⟩:=zAc h
     refine zAq ⟨ofL [(1,.s (.sl 1 ((List.map (irow .i64)) x3))),(5,.s (.pt [.int .i64 x4A,.str x4B,.int .i64 x4D,.sl 4 (Nd.encs x4C)])),(6,.s (.int .i64 e8)),(7,.s (.int .i64 e10)),(46,.s (.bool x12))],fun _=>none,0⟩ ?_ (fun σ' hle=>?_)
     ·replace h:=hj;refine zAb [] [21,27,30,34,41,44] rfl ?_;intro b hb;cases b with
      | true =>
       replace h:=zAD hb.symm h;intro b hb;subst hb;intro b hb;subst hb;cases h;exact(Le.forget _ ⟨rfl,rfl,rfl,rfl,rfl,trivial⟩)
      | false =>
       replace h:=zAC hb.symm h;intro n13 hn13;obtain rfl:(x4C.length:Int)=n13:=(hn13.trans (congrArg (fun m:Nat=>(m:Int)) (rlen Nd.encs_eq x4C))).symm;intro b hb;cases b with
       | true =>
        replace h:=zAD hb.symm h;intro b hb;subst hb;cases h;exact(Le.forget _ ⟨rfl,rfl,rfl,rfl,rfl,trivial⟩)
       | false =>
        replace h:=zAC hb.symm h;intro b hb;cases b with
        | true =>
         replace h:=zAD hb.symm h;cases h;exact(Le.forget _ ⟨rfl,rfl,rfl,rfl,rfl,trivial⟩)
        | false =>
         replace h:=zAC hb.symm h;obtain⟨⟨e14A,e14B,e14D,e14C⟩,he14,h⟩:=zAc h;refine And.intro (zAB Nd.encs_eq he14).1 ?_;intro r15 hr15;obtain rfl:[.int .i64 e14A,.str e14B,.int .i64 e14D,.sl 4 (Nd.encs e14C)]=r15:=(hr15.trans (zAB Nd.encs_eq he14).2.1).symm;intro n16 hn16;obtain rfl:(e14C.length:Int)=n16:=(hn16.trans (congrArg (fun m:Nat=>(m:Int)) (rlen Nd.encs_eq e14C))).symm;cases h;exact(Le.forget _ ⟨rfl,rfl,rfl,rfl,rfl,trivial⟩)
     ·show Tri ..;refine zAj hle ?_;refine zAh rfl h (fun hb h=>?_) (fun hb h=>?_)
      ·refine zAa ?_;refine zAb [] [] rfl ?_;show Tri ..;refine zAd ?_;cases h;replace h:some _=some _:=ho1;have hy:=Option.some.inj h;subst hy;unfold zAt;exact⟨_,Le.refl _ _,rfl,rfl⟩
      ·refine zAf ?_;show Tri ..;refine zAb [] [52,56] rfl ?_;obtain⟨⟨e17A,e17B,e17D,e17C⟩,he17,h⟩:=zAc h;refine And.intro (zAB Nd.encs_eq he17).1 ?_;intro r18 hr18;obtain rfl:[.int .i64 e17A,.str e17B,.int .i64 e17D,.sl 4 (Nd.encs e17C)]=r18:=(hr18.trans (zAB Nd.encs_eq he17).2.1).symm;obtain⟨⟨e19A,e19B,e19D,e19C⟩,he19,h⟩:=zAc h;refine And.intro (zAB Nd.encs_eq he19).1 ?_;intro r20 hr20;obtain rfl:[.int .i64 e19A,.str e19B,.int .i64 e19D,.sl 4 (Nd.encs e19C)]=r20:=(hr20.trans (zAB Nd.encs_eq he19).2.1).symm;show Tri ..;refine zAb [] [12] rfl ?_
       obtain⟨hq,h⟩:=zAK h;refine And.intro ⟨hq.1,Int.le_trans hq.2.1 (Int.ofNat_le.2 (Nat.le_of_eq (rlen (fun _=>rfl) _).symm)),Int.le_refl _⟩ ?_;intro r21 hr21;obtain rfl:(List.map (irow .i64)) ((x3.take (x3.length:Int).toNat).drop (2:Int).toNat)=r21:=(hr21.trans ((congrArg (fun m:Nat=>(((List.map (irow .i64)) x3).take m).drop (2:Int).toNat) (rlen (fun _=>rfl) _)).trans (rcut (fun _=>rfl) _ _ _))).symm;refine⟨(k,(x3.take (x3.length:Int).toNat).drop (2:Int).toNat,Nd.mk e19A e19B e19D e19C),h,(Le.forget _ ⟨rfl,rfl,trivial⟩),Nat.lt_succ_self k⟩
    ·refine zAI ?_;cases h;exact⟨_,rfl,(Le.forget _ ⟨rfl,rfl,trivial⟩)⟩
 ·subst hz;obtain⟨x5,⟨x6A,x6B,x6D,x6C⟩⟩:=z;replace h:=ho1;show Tri ..;refine zAj hle ?_;refine zAa ?_;obtain⟨x22,hj,h⟩:=zAc h;refine zAq ⟨ofL [(4,.s (.bool x22))],fun _=>none,0⟩ ?_ (fun σ' hle=>?_)
  ·replace h:=hj;refine zA2 [] [58,60,62,66,68,74] [] rfl (by decide +kernel) ?_;intro n23 hn23;obtain rfl:(x5.length:Int)=n23:=(hn23.trans (congrArg (fun m:Nat=>(m:Int)) (rlen (fun _=>rfl) x5))).symm;intro b hb;cases b with
   | true =>
    replace h:=zAD hb.symm h;obtain⟨e24,he24,h⟩:=zAc h;refine And.intro (zAB (fun _=>rfl) he24).1 ?_;intro r25 hr25;obtain rfl:[.int .i64 e24]=r25:=(hr25.trans (zAB (fun _=>rfl) he24).2.1).symm;intro b hb;cases b with
    | true =>
     replace h:=zAD hb.symm h;obtain⟨e26,he26,h⟩:=zAc h;refine And.intro (zAB (fun _=>rfl) he26).1 ?_;intro r27 hr27;obtain rfl:[.int .i64 e26]=r27:=(hr27.trans (zAB (fun _=>rfl) he26).2.1).symm;intro n28 hn28;obtain rfl:(x6C.length:Int)=n28:=(hn28.trans (congrArg (fun m:Nat=>(m:Int)) (rlen Nd.encs_eq x6C))).symm;cases h;exact(Le.forget _ ⟨rfl,trivial⟩)
    | false =>
     replace h:=zAC hb.symm h;cases h;exact(Le.forget _ ⟨rfl,trivial⟩)
   | false =>
    replace h:=zAC hb.symm h;intro b hb;subst hb;cases h;exact(Le.forget _ ⟨rfl,trivial⟩)
  ·show Tri ..;refine zAj hle ?_;refine zAd ?_;have hy:=Option.some.inj h;subst hy;unfold zAt;exact⟨_,Le.refl _ _,rfl,rfl⟩
def zKb (n:Nat) (xs:List AV) (r:Ret):Prop:=∃ (a0:Nd) (a1:List Int) (y0:Bool),zBY n a0 a1=some y0/\xs=[.agg ((Nd.enc a0).map .s),.s (.sl 1 ((List.map (irow .i64)) a1))]/\r = .val (.s (.bool y0))
def zGB:zAy:=zAx fun xs r=>∃ n,zKb n xs r
theorem zJu:PSound Tryz.prog 112 zGB:=by
 have gok:∀ f s,look? f [(73,zCp),(149,zIL)]=some s->PSound Tryz.prog f s:=zAv (by
  simp only[List.forall_mem_cons]
  exact⟨zCC,zMp,by simp⟩)
 refine zAz tokW Tryz.call112 Tryz.func112 rfl (fun xs r h=>by obtain⟨n,_,_,_,_,rfl,_⟩:=h; show 2<=12; decide) 12 rfl ?_;rintro xs r w0 G0 ⟨n,⟨n1A,n1B,n1D,n1C⟩,pos2,y0,h,rfl,rfl⟩ _;rw[zBY]at h;refine zAa ?_;refine zAb [] [] rfl ?_;show Tri ..;refine zAa ?_;obtain⟨x3,hj,h⟩:=zAc h;refine zAq ⟨ofL [(4,.s (.bool x3))],fun _=>none,0⟩ ?_ (fun σ' hle=>?_)
 ·replace h:=hj;refine zAb [] [7] rfl ?_;obtain⟨y4,hy4,h⟩:=zAc h;refine⟨_,⟨_,_,_,hy4,rfl,rfl⟩,?_⟩
  intro b hb;cases b with
  | true =>
   replace h:=zAD hb.symm h;obtain⟨y5,hy5,h⟩:=zAc h;refine⟨_,⟨_,_,_,_,hy5,rfl,rfl⟩,?_⟩
   cases h;exact(Le.forget _ ⟨rfl,trivial⟩)
  | false =>
   replace h:=zAC hb.symm h;cases h;exact(Le.forget _ ⟨rfl,trivial⟩)
 ·show Tri ..;refine zAj hle ?_;refine zAd ?_;have hy:=Option.some.inj h;subst hy;unfold zAt;exact⟨_,Le.refl _ _,rfl,rfl⟩
def zAw (p:zCu):List S:=[.sl 1 ((List.map (irow .i64)) p.1),.sl 1 ((List.map (irow .i64)) p.2)]
def zL2 (n:Nat) (xs:List AV) (r:Ret):Prop:=∃ (a0:Nd) (a1:zCu) (y0:Bool),zB7 n a0 a1=some y0/\xs=[.agg ((Nd.enc a0).map .s),.agg ((zAw a1).map .s)]/\r = .val (.s (.bool y0))
def zHR:zAy:=zAx fun xs r=>∃ n,zL2 n xs r
theorem zLo:PSound Tryz.prog 75 zHR:=by
 have gok:∀ f s,look? f [(112,zGB)]=some s->PSound Tryz.prog f s:=zAv (by
  simp only[List.forall_mem_cons]
  exact⟨zJu,by simp⟩)
 refine zAz tokW Tryz.call75 Tryz.func75 rfl (fun xs r h=>by obtain⟨n,_,_,_,_,rfl,_⟩:=h; show 2<=21; decide) 21 rfl ?_;rintro xs r w0 G0 ⟨n,⟨n1A,n1B,n1D,n1C⟩,⟨c2Ai,c2Ah⟩,y0,h,rfl,rfl⟩ _;rw[zB7]at h;refine zAa ?_;refine zAb [] [] rfl ?_;show Tri ..;refine zAa ?_;obtain⟨x3,hj,h⟩:=zAc h;refine zAq ⟨ofL [(4,.s (.bool x3))],fun _=>none,0⟩ ?_ (fun σ' hle=>?_)
 ·replace h:=hj;refine zAb [] [9,12,14] rfl ?_;obtain⟨y4,hy4,h⟩:=zAc h;refine⟨_,⟨_,_,_,_,hy4,rfl,rfl⟩,?_⟩
  intro b hb;cases b with
  | true =>
   replace h:=zAD hb.symm h;intro n5 hn5;obtain rfl:(c2Ah.length:Int)=n5:=(hn5.trans (congrArg (fun m:Nat=>(m:Int)) (rlen (fun _=>rfl) c2Ah))).symm;intro b hb;cases b with
   | true =>
    replace h:=zAD hb.symm h;cases h;exact(Le.forget _ ⟨rfl,trivial⟩)
   | false =>
    replace h:=zAC hb.symm h;obtain⟨y6,hy6,h⟩:=zAc h;refine⟨_,⟨_,_,_,_,hy6,rfl,rfl⟩,?_⟩
    cases h;exact(Le.forget _ ⟨rfl,trivial⟩)
  | false =>
   replace h:=zAC hb.symm h;cases h;exact(Le.forget _ ⟨rfl,trivial⟩)
 ·show Tri ..;refine zAj hle ?_;refine zAd ?_;have hy:=Option.some.inj h;subst hy;unfold zAt;exact⟨_,Le.refl _ _,rfl,rfl⟩
def zAi (p:zRc):List S:=[.sl 8 ((List.map zAr) p.1),.sl 1 ((List.map (irow .i64)) p.2.1.1),.sl 1 ((List.map (irow .i64)) p.2.1.2),.sl 1 ((List.map (irow .i64)) p.2.2.1),.sl 1 ((List.map (irow .i64)) p.2.2.2)]
def zAn:(List UInt8×Nd×List zRc×Int)->List S
| ⟨p_title,⟨p_origin_kind,p_origin_text,p_origin_cols,p_origin_kids⟩,p_records,p_done⟩=>[.str p_title,.int .i64 p_origin_kind,.str p_origin_text,.int .i64 p_origin_cols,.sl 4 (Nd.encs p_origin_kids),.sl 5 ((List.map zAi) p_records),.int .i64 p_done]
def zL3 (n:Nat) (xs:List AV) (r:Ret):Prop:=∃ (a0:(List UInt8×Nd×List zRc×Int)) (a1:Int) (y0:Nd) (y1:Bool),zBH n a0 a1=some (y0,y1)/\xs=[.agg ((zAn a0).map .s),.s (.int .i64 a1)]/\r = .val (.tup [.agg ((Nd.enc y0).map .s),.s (.bool y1)])
def zFN:zAy:=zAx fun xs r=>∃ n,zL3 n xs r
theorem zHg:PSound Tryz.prog 33 zFN:=by
 have gok:∀ f s,look? f [(72,zIH),(73,zCp),(53,zE2),(74,zGP),(75,zHR)]=some s->PSound Tryz.prog f s:=zAv (by
  simp only[List.forall_mem_cons]
  exact⟨zMl,zCC,zFD,zKi,zLo,by simp⟩)
 refine zAz tokW Tryz.call33 Tryz.func33 rfl (fun xs r h=>by obtain⟨n,_,_,_,_,_,rfl,_⟩:=h; show 2<=88; decide) 88 rfl ?_;rintro xs r w0 G0 ⟨n,⟨a1V,⟨a1R,a1S,a1T,a1U⟩,a1G,a1W⟩,a2,y0,y1,h,rfl,rfl⟩ _;rw[zBH]at h;refine zAa ?_;refine zAb [4] [] rfl ?_;show Tri ..;refine zAa ?_;refine zAa ?_;obtain⟨x3,hj,h⟩:=zAc h
 refine zAq ⟨ofL [(1,.s (.int .i64 a2)),(2,.s (.pt [.str a1V,.int .i64 a1R,.str a1S,.int .i64 a1T,.sl 4 (Nd.encs a1U),.sl 5 ((List.map zAi) a1G),.int .i64 a1W])),(4,.op 0 0),(41,.s (.bool x3))],ofH [(0,.box 24 [.s (.int .i64 0),.s (.str []),.s (.int .i64 0),.nl 4])],1⟩ ?_ (fun σ' hle=>?_)
 ·replace h:=hj;refine zAb [] [17,23,26,29,34,39] rfl ?_;obtain⟨y4,hy4,h⟩:=zAc h;refine⟨_,⟨_,_,_,hy4,rfl,rfl⟩,?_⟩
  intro b hb;cases b with
  | true =>
   replace h:=zAD hb.symm h;intro b hb;subst hb;intro b hb;subst hb;intro b hb;subst hb;cases h;exact(Le.rnm [(0,0)] _ _ _ ⟨rfl,rfl,rfl,rfl,trivial⟩ ⟨rfl,⟨_,rfl,rfl⟩,trivial⟩)
  | false =>
   replace h:=zAC hb.symm h;obtain⟨y5,hy5,h⟩:=zAc h;refine⟨_,⟨_,_,_,hy5,rfl,rfl⟩,?_⟩
   intro b hb;cases b with
   | true =>
    replace h:=zAD hb.symm h;intro b hb;subst hb;intro b hb;subst hb;cases h;exact(Le.rnm [(0,0)] _ _ _ ⟨rfl,rfl,rfl,rfl,trivial⟩ ⟨rfl,⟨_,rfl,rfl⟩,trivial⟩)
   | false =>
    replace h:=zAC hb.symm h;intro n6 hn6;obtain rfl:(a1G.length:Int)=n6:=(hn6.trans (congrArg (fun m:Nat=>(m:Int)) (rlen (fun _=>rfl) a1G))).symm;intro b hb;cases b with
    | true =>
     replace h:=zAD hb.symm h;intro b hb;subst hb;cases h;exact(Le.rnm [(0,0)] _ _ _ ⟨rfl,rfl,rfl,rfl,trivial⟩ ⟨rfl,⟨_,rfl,rfl⟩,trivial⟩)
    | false =>
     replace h:=zAC hb.symm h;intro b hb;cases b with
     | true =>
      replace h:=zAD hb.symm h;cases h;exact(Le.rnm [(0,0)] _ _ _ ⟨rfl,rfl,rfl,rfl,trivial⟩ ⟨rfl,⟨_,rfl,rfl⟩,trivial⟩)
     | false =>
      replace h:=zAC hb.symm h;intro n7 hn7;obtain rfl:(a1G.length:Int)=n7:=(hn7.trans (congrArg (fun m:Nat=>(m:Int)) (rlen (fun _=>rfl) a1G))).symm;cases h;exact(Le.rnm [(0,0)] _ _ _ ⟨rfl,rfl,rfl,rfl,trivial⟩ ⟨rfl,⟨_,rfl,rfl⟩,trivial⟩)
 ·show Tri ..;refine zAj hle ?_;refine zAh rfl h (fun hb h=>?_) (fun hb h=>?_)
  ·refine zAa ?_;refine zAb [] [] rfl ?_;show Tri ..;refine zAd ?_;obtain⟨hj1,hk1⟩:=pij h;subst hj1 hk1;unfold zAt;exact⟨_,Le.refl _ _,rfl,rfl⟩
  ·refine zAf ?_;show Tri ..;refine zAa ?_;refine zAb [6] [] rfl ?_;obtain⟨⟨y8A,y8B,y8D,y8C⟩,hy8,h⟩:=zAc h;refine⟨_,⟨_,_,hy8,rfl,rfl⟩,?_⟩
   show Tri ..;refine zAa ?_;refine zAb [7] [] rfl ?_;show Tri ..;refine zAa ?_;refine zAa ?_;refine zAb [] [49] rfl ?_;intro n9 hn9;obtain rfl:(a1G.length:Int)=n9:=(hn9.trans (congrArg (fun m:Nat=>(m:Int)) (rlen (fun _=>rfl) a1G))).symm;show Tri ..;obtain⟨fl,hl,ho1⟩:=zAc h;refine zBA (fl:=fl) (fun z=>match z with | ⟨x20,x21,x22,x23⟩=>⟨ofL [(4,.op 0 0),(7,.op 1 0)],ofH [(0,.box 24 [.s (.int .i64 0),.s (.str []),.s (.int .i64 0),.nl 4]),(1,.box 24 [.s (.int .i64 x20),.s (.str x21),.s (.int .i64 x22),.s (.sl 4 (Nd.encs x23))])],2⟩) ?_ (fun z σ' hz hle=>?_)
   ·refine zAk (zAG (X:=Nat×Int×(List UInt8)×Int×(List Nd)×Int×(List UInt8)×Int×(List Nd)×Int) (fun y=>match y with | (k,x11,x12,x13,x14,x15,x16,x17,x18,x19)=>⟨ofL [(1,.s (.int .i64 a2)),(4,.op 0 0),(6,.op 1 0),(7,.op 2 0),(48,.s (.sl 5 ((List.map zAi) a1G))),(49,.s (.int .i64 (a1G.length:Int))),(50,.s (.int .i64 x19))],ofH [(0,.box 24 [.s (.int .i64 0),.s (.str []),.s (.int .i64 0),.nl 4]),(1,.box 24 [.s (.int .i64 x11),.s (.str x12),.s (.int .i64 x13),.s (.sl 4 (Nd.encs x14))]),(2,.box 24 [.s (.int .i64 x15),.s (.str x16),.s (.int .i64 x17),.s (.sl 4 (Nd.encs x18))])],3⟩) (fun y=>zBn n a1G a2 y.1 y.2.1 y.2.2.1 y.2.2.2.1 y.2.2.2.2.1 y.2.2.2.2.2.1 y.2.2.2.2.2.2.1 y.2.2.2.2.2.2.2.1 y.2.2.2.2.2.2.2.2.1 y.2.2.2.2.2.2.2.2.2=some fl) (fun y=>y.1) (n,y8A,y8B,y8D,y8C,y8A,y8B,y8D,y8C,0) hl ?_ ?_)
    ·exact(Le.rnm [(0,0),(1,1),(2,2)] _ _ _ ⟨rfl,rfl,rfl,rfl,rfl,rfl,rfl,trivial⟩ ⟨rfl,⟨_,rfl,rfl⟩,rfl,⟨_,rfl,rfl⟩,rfl,⟨_,rfl,rfl⟩,trivial⟩)
    ·rintro⟨k,x11,x12,x13,x14,x15,x16,x17,x18,x19⟩ h;cases k with
     | zero=>cases h
     | succ k =>
      replace h:zBn n a1G a2 (k+1) x11 x12 x13 x14 x15 x16 x17 x18 x19=some fl:=h;rw[zBn]at h;refine zAa ?_;refine zAb [] [] rfl ?_;show Tri ..;refine zAa ?_;refine zAh rfl h (fun hb h=>?_) (fun hb h=>?_)
      ·refine zAf ?_;show Tri ..;refine zAa ?_;obtain⟨fl,hj,ho2⟩:=zAc h
       refine zBA (fl:=fl) (fun z=>match z with | ⟨x24,x25,x26,x27,x28,x29,x30,x31⟩=>⟨ofL [(1,.s (.int .i64 a2)),(4,.op 0 0),(6,.op 1 0),(7,.op 2 0),(48,.s (.sl 5 ((List.map zAi) a1G))),(49,.s (.int .i64 (a1G.length:Int))),(50,.s (.int .i64 x19))],ofH [(0,.box 24 [.s (.int .i64 0),.s (.str []),.s (.int .i64 0),.nl 4]),(1,.box 24 [.s (.int .i64 x24),.s (.str x25),.s (.int .i64 x26),.s (.sl 4 (Nd.encs x27))]),(2,.box 24 [.s (.int .i64 x28),.s (.str x29),.s (.int .i64 x30),.s (.sl 4 (Nd.encs x31))])],3⟩) ?_ (fun z σ' hz hle=>?_)
       ·replace h:=hj;refine zAk ?_;refine zAa ?_;refine zAb [9] [53] rfl ?_;obtain⟨⟨e32Z,⟨e32Ad,e32Ae⟩,⟨e32Af,e32Ag⟩⟩,he32,h⟩:=zAc h;refine And.intro (zAB (fun _=>rfl) he32).1 ?_;intro r33 hr33;obtain rfl:[.sl 8 ((List.map zAr) e32Z),.sl 1 ((List.map (irow .i64)) e32Ad),.sl 1 ((List.map (irow .i64)) e32Ae),.sl 1 ((List.map (irow .i64)) e32Af),.sl 1 ((List.map (irow .i64)) e32Ag)]=r33:=(hr33.trans (zAB (fun _=>rfl) he32).2.1).symm;show Tri ..
        refine zAj (Le.giveBox 3 [.sl 8 ((List.map zAr) e32Z),.sl 1 ((List.map (irow .i64)) e32Ad),.sl 1 ((List.map (irow .i64)) e32Ae),.sl 1 ((List.map (irow .i64)) e32Af),.sl 1 ((List.map (irow .i64)) e32Ag)] rfl rfl) ?_;refine zAa ?_;refine zAb [10] [] rfl ?_;obtain⟨⟨⟨y34A,y34B,y34D,y34C⟩,y35,y36⟩,hy34,h⟩:=zAc h;refine⟨_,⟨_,_,_,_,_,_,hy34,rfl,rfl⟩,?_⟩
        show Tri ..;refine zAj (Le.giveBox 4 [.int .i64 y34A,.str y34B,.int .i64 y34D,.sl 4 (Nd.encs y34C)] rfl rfl) ?_;refine zAa ?_;refine zAa ?_;obtain⟨x37,hj,h⟩:=zAc h
        refine zAq ⟨ofL [(1,.s (.int .i64 a2)),(4,.op 0 0),(6,.op 1 0),(7,.op 2 0),(8,.s (.int .i64 x19)),(10,.s (.pt [.int .i64 y34A,.str y34B,.int .i64 y34D,.sl 4 (Nd.encs y34C)])),(48,.s (.sl 5 ((List.map zAi) a1G))),(49,.s (.int .i64 (a1G.length:Int))),(50,.s (.int .i64 x19)),(78,.s (.bool x37))],ofH [(0,.box 24 [.s (.int .i64 0),.s (.str []),.s (.int .i64 0),.nl 4]),(1,.box 24 [.s (.int .i64 x11),.s (.str x12),.s (.int .i64 x13),.s (.sl 4 (Nd.encs x14))]),(2,.box 24 [.s (.int .i64 x15),.s (.str x16),.s (.int .i64 x17),.s (.sl 4 (Nd.encs x18))])],3⟩ ?_ (fun σ' hle=>?_)
        ·replace h:=hj;refine zAb [] [65,72] rfl ?_;intro b hb;cases b with
         | true =>
          replace h:=zAD hb.symm h;intro b hb;subst hb;cases h;exact(Le.rnm [(0,0),(1,1),(2,2)] _ _ _ ⟨rfl,rfl,rfl,rfl,rfl,rfl,rfl,rfl,rfl,rfl,trivial⟩ ⟨rfl,⟨_,rfl,rfl⟩,rfl,⟨_,rfl,rfl⟩,rfl,⟨_,rfl,rfl⟩,trivial⟩)
         | false =>
          replace h:=zAC hb.symm h;obtain⟨y38,hy38,h⟩:=zAc h;refine⟨_,⟨_,_,_,_,hy38,rfl,rfl⟩,?_⟩
          intro b hb;cases b with
          | true =>
           replace h:=zAD hb.symm h;cases h;exact(Le.rnm [(0,0),(1,1),(2,2)] _ _ _ ⟨rfl,rfl,rfl,rfl,rfl,rfl,rfl,rfl,rfl,rfl,trivial⟩ ⟨rfl,⟨_,rfl,rfl⟩,rfl,⟨_,rfl,rfl⟩,rfl,⟨_,rfl,rfl⟩,trivial⟩)
          | false =>
           replace h:=zAC hb.symm h;obtain⟨y39,hy39,h⟩:=zAc h;refine⟨_,⟨_,_,_,_,hy39,rfl,rfl⟩,?_⟩
           cases h;exact(Le.rnm [(0,0),(1,1),(2,2)] _ _ _ ⟨rfl,rfl,rfl,rfl,rfl,rfl,rfl,rfl,rfl,rfl,trivial⟩ ⟨rfl,⟨_,rfl,rfl⟩,rfl,⟨_,rfl,rfl⟩,rfl,⟨_,rfl,rfl⟩,trivial⟩)
        ·show Tri ..;refine zAj hle ?_;refine zAh rfl h (fun hb h=>?_) (fun hb h=>?_)
         ·refine zAa ?_;refine zAb [] [] rfl ?_;show Tri ..;refine zAd ?_;cases h;replace h:some _=some _:=ho2;cases h;replace h:some _=some _:=ho1;obtain⟨hj1,hk1⟩:=pij h;subst hj1 hk1;unfold zAt;exact⟨_,Le.refl _ _,rfl,rfl⟩
         ·refine zAf ?_;show Tri ..;refine zAa ?_;refine zAb [] [] rfl ?_;show Tri ..;refine zAa ?_;refine zAb [] [] rfl ?_;show Tri ..;refine zAh rfl h (fun hb h=>?_) (fun hb h=>?_)
          ·refine zAb [] [] rfl ?_;cases h;exact⟨_,rfl,(Le.rnm [(0,0),(1,1),(2,2)] _ _ _ ⟨rfl,rfl,rfl,rfl,rfl,rfl,rfl,trivial⟩ ⟨rfl,⟨_,rfl,rfl⟩,rfl,⟨_,rfl,rfl⟩,rfl,⟨_,rfl,rfl⟩,trivial⟩)⟩
          ·refine zAf ?_;cases h;exact⟨_,rfl,(Le.rnm [(0,0),(1,1),(2,2)] _ _ _ ⟨rfl,rfl,rfl,rfl,rfl,rfl,rfl,trivial⟩ ⟨rfl,⟨_,rfl,rfl⟩,rfl,⟨_,rfl,rfl⟩,rfl,⟨_,rfl,rfl⟩,trivial⟩)⟩
       ·subst hz;obtain⟨x24,x25,x26,x27,x28,x29,x30,x31⟩:=z;replace h:=ho2;show Tri ..;refine zAj hle ?_;refine zAb [] [] rfl ?_;refine⟨(k,x24,x25,x26,x27,x28,x29,x30,x31,IntKind.i64.wrap (x19+1)),h,(Le.rnm [(0,0),(1,1),(2,2)] _ _ _ ⟨rfl,rfl,rfl,rfl,rfl,rfl,rfl,trivial⟩ ⟨rfl,⟨_,rfl,rfl⟩,rfl,⟨_,rfl,rfl⟩,rfl,⟨_,rfl,rfl⟩,trivial⟩),Nat.lt_succ_self k⟩
      ·refine zAI ?_;cases h;exact⟨_,rfl,(Le.rnm [(0,0),(2,1)] _ _ _ ⟨rfl,rfl,trivial⟩ ⟨rfl,⟨_,rfl,rfl⟩,rfl,⟨_,rfl,rfl⟩,trivial⟩)⟩
   ·subst hz;obtain⟨x20,x21,x22,x23⟩:=z;replace h:=ho1;show Tri ..;refine zAj hle ?_;refine zAa ?_;refine zAb [] [] rfl ?_;show Tri ..;refine zAd ?_;obtain⟨hj1,hk1⟩:=pij h;subst hj1 hk1;unfold zAt;exact⟨_,Le.refl _ _,rfl,rfl⟩
def zOs (n:Nat) (xs:List AV) (r:Ret):Prop:=∃ (a0:(List UInt8×Nd×List zRc×Int)) (y0:Bool),zG4 n a0=some y0/\xs=[.agg ((zAn a0).map .s)]/\r = .val (.s (.bool y0))
def zJG:zAy:=zAx fun xs r=>∃ n,zOs n xs r
theorem zNT:PSound Tryz.prog 12 zJG:=by
 have gok:∀ f s,look? f [(33,zFN)]=some s->PSound Tryz.prog f s:=zAv (by
  simp only[List.forall_mem_cons]
  exact⟨zHg,by simp⟩)
 refine zAz tokW Tryz.call12 Tryz.func12 rfl (fun xs r h=>by obtain⟨n,_,_,_,rfl,_⟩:=h; show 1<=11; decide) 11 rfl ?_;rintro xs r w0 G0 ⟨n,⟨d1V,⟨d1R,d1S,d1T,d1U⟩,d1G,d1W⟩,y0,h,rfl,rfl⟩ _;rw[zG4]at h;refine zAa ?_;refine zAb [] [] rfl ?_;show Tri ..;refine zAa ?_;refine zAb [3] [] rfl ?_;obtain⟨⟨⟨y2A,y2B,y2D,y2C⟩,y3⟩,hy2,h⟩:=zAc h;refine⟨_,⟨_,_,_,_,_,hy2,rfl,rfl⟩,?_⟩
 show Tri ..;refine zAj (Le.giveBox 0 [.int .i64 y2A,.str y2B,.int .i64 y2D,.sl 4 (Nd.encs y2C)] rfl rfl) ?_;refine zAa ?_;refine zAb [] [] rfl ?_;show Tri ..;refine zAd ?_;have hy:=Option.some.inj h;subst hy;unfold zAt;exact⟨_,Le.refl _ _,rfl,rfl⟩
def zP8 (xs:List AV) (r:Ret):Prop:=∃ (a0:List UInt8) (y0:CV),zEe a0=some y0/\xs=[.s (.str a0)]/\r = .val (.agg ((CV.enc y0).map .s))
def zGl:zAy:=zAx fun xs r=>zP8 xs r
theorem zHf:PSound Tryz.prog 59 zGl:=by
 have gok:=@gok0 Tryz.prog;refine zAz tokW Tryz.call59 Tryz.func59 rfl (fun xs r h=>by obtain⟨_,_,_,rfl,_⟩:=h; show 1<=5; decide) 5 rfl ?_;rintro xs r w0 G0 ⟨s1,y0,h,rfl,rfl⟩ _;rw[zEe]at h;refine zAa ?_;refine zAb [2] [] rfl ?_;show Tri ..;refine zAa ?_;refine zAb [] [] rfl ?_;show Tri ..;refine zAd ?_;have hy:=Option.some.inj h;subst hy;unfold zAt;exact⟨_,Le.refl _ _,rfl,rfl⟩
def zP7 (xs:List AV) (r:Ret):Prop:=∃ (a0:List CV) (y0:CV),zDA a0=some y0/\xs=[.s (.sl 4 (CV.encs a0))]/\r = .val (.agg ((CV.enc y0).map .s))
def zD9:zAy:=zAx fun xs r=>zP7 xs r
theorem zEC:PSound Tryz.prog 58 zD9:=by
 have gok:=@gok0 Tryz.prog;refine zAz tokW Tryz.call58 Tryz.func58 rfl (fun xs r h=>by obtain⟨_,_,_,rfl,_⟩:=h; show 1<=5; decide) 5 rfl ?_;rintro xs r w0 G0 ⟨l1,y0,h,rfl,rfl⟩ _;rw[zDA]at h;refine zAa ?_;refine zAb [2] [] rfl ?_;show Tri ..;refine zAa ?_;refine zAb [] [] rfl ?_;show Tri ..;refine zAd ?_;have hy:=Option.some.inj h;subst hy;unfold zAt;exact⟨_,Le.refl _ _,rfl,rfl⟩
def zNo (xs:List AV) (r:Ret):Prop:=∃ (a0:Int) (y0:CV),zBs a0=some y0/\xs=[.s (.int .i64 a0)]/\r = .val (.agg ((CV.enc y0).map .s))
def zDT:zAy:=zAx fun xs r=>zNo xs r
theorem zEq:PSound Tryz.prog 61 zDT:=by
 have gok:=@gok0 Tryz.prog;refine zAz tokW Tryz.call61 Tryz.func61 rfl (fun xs r h=>by obtain⟨_,_,_,rfl,_⟩:=h; show 1<=5; decide) 5 rfl ?_;rintro xs r w0 G0 ⟨n1,y0,h,rfl,rfl⟩ _;rw[zBs]at h;refine zAa ?_;refine zAb [2] [] rfl ?_;show Tri ..;refine zAa ?_;refine zAb [] [] rfl ?_;show Tri ..;refine zAd ?_;have hy:=Option.some.inj h;subst hy;unfold zAt;exact⟨_,Le.refl _ _,rfl,rfl⟩
def zBU (n:Nat) (xs:List AV) (r:Ret):Prop:=∃ (a0:List Nd) (y0:CV),zCH n a0=some y0/\xs=[.s (.sl 4 (Nd.encs a0)),.s (.fn 60)]/\r = .val (.agg ((CV.enc y0).map .s))
def zBV (n:Nat) (xs:List AV) (r:Ret):Prop:=∃ (a0:Nd) (y0:CV),zBB n a0=some y0/\xs=[.agg ((Nd.enc a0).map .s)]/\r = .val (.agg ((CV.enc y0).map .s))
theorem zIs (n:Nat) (ih_file_each_Node:PSound Tryz.prog 101 (zAx (zBU n))) (ih_file_writeTree:PSound Tryz.prog 60 (zAx (zBV n))):PSound Tryz.prog 101 (zAx (zBU (n+1))):=by
 have gok:∀ f s,look? f [(58,zCU),(60,zAx (zBV n))]=some s->PSound Tryz.prog f s:=zAv (by
  simp only[List.forall_mem_cons]
  exact⟨zDy,ih_file_writeTree,by simp⟩)
 refine zAz tokW Tryz.call101 Tryz.func101 rfl (fun xs r h=>by obtain⟨_,_,_,rfl,_⟩:=h; show 2<=25; decide) 25 rfl ?_;rintro xs r w0 G0 ⟨l1,y0,h,rfl,rfl⟩ _;rw[zCH]at h;refine zAa ?_;refine zAb [4] [] rfl ?_;show Tri ..;refine zAa ?_;refine zAb [5] [] rfl ?_;obtain⟨⟨y2A,y2F,y2B,y2E⟩,hy2,h⟩:=zAc h;refine⟨_,_,⟨_,hy2,rfl,rfl,rfl,rfl⟩,?_⟩
 show Tri ..;refine zAa ?_;refine zAa ?_;refine zAb [] [10] rfl ?_;intro n3 hn3;obtain rfl:(l1.length:Int)=n3:=(hn3.trans (congrArg (fun m:Nat=>(m:Int)) (rlen Nd.encs_eq l1))).symm;show Tri ..;obtain⟨l8,hl,h⟩:=zAc h;refine zAq ⟨ofL [(4,.op 0 0),(5,.op 1 0)],ofH [(0,.box 68 [.s (.int .i64 0),.s (.int .i64 0),.s (.str []),.nl 4]),(1,.box 68 [.s (.int .i64 y2A),.s (.int .i64 y2F),.s (.str y2B),.orow 2]),(2,.row 68 4 (CV.encs l8))],3⟩ ?_ (fun σ' hle=>?_)
 ·refine zAk (zAG (X:=Nat×Int×(List CV)) (fun y=>match y with | (k,x6,l7)=>⟨ofL [(1,.s (.fn 60)),(4,.op 0 0),(5,.op 1 0),(9,.s (.sl 4 (Nd.encs l1))),(10,.s (.int .i64 (l1.length:Int))),(11,.s (.int .i64 x6))],ofH [(0,.box 68 [.s (.int .i64 0),.s (.int .i64 0),.s (.str []),.nl 4]),(1,.box 68 [.s (.int .i64 y2A),.s (.int .i64 y2F),.s (.str y2B),.orow 2]),(2,.row 68 4 (CV.encs l7))],3⟩) (fun y=>zBP (zBB n) l1 y.1 y.2.1 y.2.2=some l8) (fun y=>y.1) (n,0,y2E) hl ?_ ?_)
  ·exact(Le.rnm [(0,0),(3,1),(2,2)] _ _ _ ⟨rfl,rfl,rfl,rfl,rfl,rfl,trivial⟩ ⟨rfl,⟨_,rfl,rfl⟩,rfl,⟨_,rfl,rfl⟩,rfl,⟨_,rfl,rfl⟩,trivial⟩)
  ·rintro⟨k,x6,l7⟩ h;cases k with
   | zero=>cases h
   | succ k =>
    replace h:zBP (zBB n) l1 (k+1) x6 l7=some l8:=h;rw[zBP]at h;refine zAa ?_;refine zAb [] [] rfl ?_;show Tri ..;refine zAa ?_;refine zAh rfl h (fun hb h=>?_) (fun hb h=>?_)
    ·refine zAf ?_;show Tri ..;refine zAa ?_;refine zAk ?_;refine zAa ?_;refine zAb [7] [13] rfl ?_;obtain⟨⟨e9A,e9B,e9D,e9C⟩,he9,h⟩:=zAc h;refine And.intro (zAB Nd.encs_eq he9).1 ?_;intro r10 hr10;obtain rfl:[.int .i64 e9A,.str e9B,.int .i64 e9D,.sl 4 (Nd.encs e9C)]=r10:=(hr10.trans (zAB Nd.encs_eq he9).2.1).symm;show Tri ..;refine zAj (Le.giveBox 3 [.int .i64 e9A,.str e9B,.int .i64 e9D,.sl 4 (Nd.encs e9C)] rfl rfl) ?_;refine zA2 [21] [20] [1,6,8] rfl (by decide +kernel) ?_;obtain⟨⟨y11A,y11F,y11B,y11E⟩,hy11,h⟩:=zAc h
     refine⟨_,⟨_,_,hy11,rfl,rfl⟩,?_⟩
     intro r12 hr12;obtain rfl:CV.encs [CV.mk y11A y11F y11B y11E]=r12:=(hr12.trans (by simp[List.map_append,List.map_take,List.map_drop,irow,brow,zAH,List.map_cons,List.map_nil,zAE,CV.encs_eq,CV.enc,Nd.encs_eq,Nd.enc,zAo,zAl,zAA,zAp,zAm,zAr,zAu,zAw,zAi,zAn])).symm;obtain⟨hq,h⟩:=zAK h
     refine And.intro (show((CV.encs l7).length+(CV.encs [CV.mk y11A y11F y11B y11E]).length) * 56<=140737488355328/\(CV.encs l7).length+(CV.encs [CV.mk y11A y11F y11B y11E]).length<=9223372036854775807 from by simp only[List.length_append,List.length_cons,List.length_nil,List.length_map,rlen CV.encs_eq]at hq ⊢; omega) ?_;show Tri ..
     refine zAj (Le.rnm [(0,0),(1,1),(4,2)] [(1,.s (.fn 60)),(4,.op 0 0),(5,.op 1 0),(9,.s (.sl 4 (Nd.encs l1))),(10,.s (.int .i64 (l1.length:Int))),(11,.s (.int .i64 x6))] [(0,.box 68 [.s (.int .i64 0),.s (.int .i64 0),.s (.str []),.nl 4]),(1,.box 68 [.s (.int .i64 y2A),.s (.int .i64 y2F),.s (.str y2B),.orow 2]),(2,.row 68 4 (CV.encs (l7++[CV.mk y11A y11F y11B y11E])))] 3 ⟨rfl,rfl,rfl,rfl,rfl,rfl,trivial⟩ ⟨rfl,⟨_,rfl,rfl⟩,rfl,⟨_,rfl,rfl⟩,rfl,⟨_,rfl,congrArg (Ob.row 68 4) (by simp[List.map_append,List.map_take,List.map_drop,irow,brow,zAH,List.map_cons,List.map_nil,zAE,CV.encs_eq,CV.enc,Nd.encs_eq,Nd.enc,zAo,zAl,zAA,zAp,zAm,zAr,zAu,zAw,zAi,zAn])⟩,trivial⟩) ?_
     refine zAb [] [] rfl ?_;refine⟨(k,IntKind.i64.wrap (x6+1),l7++[CV.mk y11A y11F y11B y11E]),h,(Le.rnm [(0,0),(1,1),(2,2)] _ _ _ ⟨rfl,rfl,rfl,rfl,rfl,rfl,trivial⟩ ⟨rfl,⟨_,rfl,rfl⟩,rfl,⟨_,rfl,rfl⟩,rfl,⟨_,rfl,rfl⟩,trivial⟩),Nat.lt_succ_self k⟩
    ·refine zAI ?_;cases h;exact(Le.rnm [(0,0),(1,1),(2,2)] _ _ _ ⟨rfl,rfl,trivial⟩ ⟨rfl,⟨_,rfl,rfl⟩,rfl,⟨_,rfl,rfl⟩,rfl,⟨_,rfl,rfl⟩,trivial⟩)
 ·show Tri ..;refine zAj hle ?_;refine zAa ?_;refine zAb [] [] rfl ?_;show Tri ..;refine zAd ?_;have hy:=Option.some.inj h;subst hy;unfold zAt;exact⟨_,(Le.trans (Le.rnm [(0,0),(2,1)] [(4,.op 0 0)] [(0,.box 68 [.s (.int .i64 y2A),.s (.int .i64 y2F),.s (.str y2B),.orow 1]),(1,.row 68 4 (CV.encs l8))] 2 ⟨rfl,trivial⟩ ⟨rfl,⟨_,rfl,rfl⟩,rfl,⟨_,rfl,rfl⟩,trivial⟩) (Le.giveRow 1 rfl)),rfl,rfl⟩
theorem zIt (n:Nat) (ih_file_each_Node:PSound Tryz.prog 101 (zAx (zBU n))) (ih_file_writeTree:PSound Tryz.prog 60 (zAx (zBV n))):PSound Tryz.prog 60 (zAx (zBV (n+1))):=by
 have gok:∀ f s,look? f [(101,zAx (zBU n)),(61,zDT),(59,zGl),(58,zD9)]=some s->PSound Tryz.prog f s:=zAv (by
  simp only[List.forall_mem_cons]
  exact⟨ih_file_each_Node,zEq,zHf,zEC,by simp⟩)
 refine zAz tokW Tryz.call60 Tryz.func60 rfl (fun xs r h=>by obtain⟨_,_,_,rfl,_⟩:=h; show 1<=21; decide) 21 rfl ?_;rintro xs r w0 G0 ⟨⟨n1A,n1B,n1D,n1C⟩,y0,h,rfl,rfl⟩ _;rw[zBB]at h;refine zAa ?_;refine zAb [2] [] rfl ?_;show Tri ..;refine zAa ?_;refine zAb [3] [] rfl ?_;obtain⟨⟨y2A,y2F,y2B,y2E⟩,hy2,h⟩:=zAc h;refine⟨_,⟨_,_,hy2,rfl,rfl⟩,?_⟩
 show Tri ..;refine zAj (Le.giveBox 1 [.int .i64 y2A,.int .i64 y2F,.str y2B,.sl 4 (CV.encs y2E)] rfl rfl) ?_;refine zAa ?_;refine zJa [16,19] [] [9,12,13,14] [] rfl (by decide +kernel) ?_;obtain⟨⟨y3A,y3F,y3B,y3E⟩,hy3,h⟩:=zAc h;refine⟨_,⟨_,_,hy3,rfl,rfl⟩,?_⟩
 obtain⟨⟨y4A,y4F,y4B,y4E⟩,hy4,h⟩:=zAc h;refine⟨_,⟨_,_,hy4,rfl,rfl⟩,?_⟩
 obtain⟨⟨y5A,y5F,y5B,y5E⟩,hy5,h⟩:=zAc h;refine⟨_,⟨_,_,hy5,rfl,rfl⟩,?_⟩
 obtain⟨hq,h⟩:=zAK h
 refine And.intro (show([[.int .i64 y3A,.int .i64 y3F,.str y3B,.sl 4 (CV.encs y3E)],[.int .i64 y4A,.int .i64 y4F,.str y4B,.sl 4 (CV.encs y4E)],[.int .i64 y5A,.int .i64 y5F,.str y5B,.sl 4 (CV.encs y5E)]].length+(CV.encs y2E).length) * 56<=140737488355328/\[[.int .i64 y3A,.int .i64 y3F,.str y3B,.sl 4 (CV.encs y3E)],[.int .i64 y4A,.int .i64 y4F,.str y4B,.sl 4 (CV.encs y4E)],[.int .i64 y5A,.int .i64 y5F,.str y5B,.sl 4 (CV.encs y5E)]].length+(CV.encs y2E).length<=9223372036854775807 from by simp only[List.length_append,List.length_cons,List.length_nil,List.length_map,rlen CV.encs_eq]at hq ⊢; omega) ?_
 obtain⟨⟨y6A,y6F,y6B,y6E⟩,hy6,h⟩:=zAc h
 refine⟨_,⟨_,_,hy6,(congrArg (fun r=>[AV.s (.sl 4 r)]) (show[[.int .i64 y3A,.int .i64 y3F,.str y3B,.sl 4 (CV.encs y3E)],[.int .i64 y4A,.int .i64 y4F,.str y4B,.sl 4 (CV.encs y4E)],[.int .i64 y5A,.int .i64 y5F,.str y5B,.sl 4 (CV.encs y5E)]]++(CV.encs y2E)=CV.encs ([CV.mk y3A y3F y3B y3E,CV.mk y4A y4F y4B y4E,CV.mk y5A y5F y5B y5E]++y2E) from(by simp[List.map_append,List.map_take,List.map_drop,irow,brow,zAH,List.map_cons,List.map_nil,zAE,CV.encs_eq,CV.enc,Nd.encs_eq,Nd.enc,zAo,zAl,zAA,zAp,zAm,zAr,zAu,zAw,zAi,zAn]))),rfl⟩,?_⟩
 show Tri ..;refine zAd ?_;have hy:=Option.some.inj h;subst hy;unfold zAt;exact⟨_,Le.refl _ _,rfl,rfl⟩
theorem zFb:∀ n,PSound Tryz.prog 101 (zAx (zBU n))/\PSound Tryz.prog 60 (zAx (zBV n)):=by
 intro n
 induction n with
 | zero =>
  refine⟨?_,?_⟩
  ·exact zBq Tryz.call101 (fun xs r h=>by obtain⟨_,_,h,_⟩:=h; rw[zCH]at h; cases h)
  ·exact zBq Tryz.call60 (fun xs r h=>by obtain⟨_,_,h,_⟩:=h; rw[zBB]at h; cases h)
 | succ n ih =>
  obtain⟨ih_file_each_Node,ih_file_writeTree⟩:=ih;exact⟨zIs n ih_file_each_Node ih_file_writeTree,zIt n ih_file_each_Node ih_file_writeTree⟩
def zGz:zAy:=zAx fun xs r=>∃ n,zBU n xs r
theorem zJs:PSound Tryz.prog 101 zGz:=zBM (fun n=>(zFb n).1)
def zGA:zAy:=zAx fun xs r=>∃ n,zBV n xs r
theorem zJt:PSound Tryz.prog 60 zGA:=zBM (fun n=>(zFb n).2)
def zKB (n:Nat) (xs:List AV) (r:Ret):Prop:=∃ (a0:List Int) (y0:CV),zFl n a0=some y0/\xs=[.s (.sl 1 ((List.map (irow .i64)) a0)),.s (.fn 61)]/\r = .val (.agg ((CV.enc y0).map .s))
def zGQ:zAy:=zAx fun xs r=>∃ n,zKB n xs r
theorem zKj:PSound Tryz.prog 169 zGQ:=by
 have gok:∀ f s,look? f [(58,zCU),(61,zDT)]=some s->PSound Tryz.prog f s:=zAv (by
  simp only[List.forall_mem_cons]
  exact⟨zDy,zEq,by simp⟩)
 refine zAz tokW Tryz.call169 Tryz.func169 rfl (fun xs r h=>by obtain⟨n,_,_,_,rfl,_⟩:=h; show 2<=25; decide) 25 rfl ?_;rintro xs r w0 G0 ⟨n,l1,y0,h,rfl,rfl⟩ _;rw[zFl]at h;refine zAa ?_;refine zAb [4] [] rfl ?_;show Tri ..;refine zAa ?_;refine zAb [5] [] rfl ?_;obtain⟨⟨y2A,y2F,y2B,y2E⟩,hy2,h⟩:=zAc h;refine⟨_,_,⟨_,hy2,rfl,rfl,rfl,rfl⟩,?_⟩
 show Tri ..;refine zAa ?_;refine zAa ?_;refine zAb [] [10] rfl ?_;intro n3 hn3;obtain rfl:(l1.length:Int)=n3:=(hn3.trans (congrArg (fun m:Nat=>(m:Int)) (rlen (fun _=>rfl) l1))).symm;show Tri ..;obtain⟨l8,hl,h⟩:=zAc h;refine zAq ⟨ofL [(4,.op 0 0),(5,.op 1 0)],ofH [(0,.box 68 [.s (.int .i64 0),.s (.int .i64 0),.s (.str []),.nl 4]),(1,.box 68 [.s (.int .i64 y2A),.s (.int .i64 y2F),.s (.str y2B),.orow 2]),(2,.row 68 4 (CV.encs l8))],3⟩ ?_ (fun σ' hle=>?_)
 ·refine zAk (zAG (X:=Nat×Int×(List CV)) (fun y=>match y with | (k,x6,l7)=>⟨ofL [(1,.s (.fn 61)),(4,.op 0 0),(5,.op 1 0),(9,.s (.sl 1 ((List.map (irow .i64)) l1))),(10,.s (.int .i64 (l1.length:Int))),(11,.s (.int .i64 x6))],ofH [(0,.box 68 [.s (.int .i64 0),.s (.int .i64 0),.s (.str []),.nl 4]),(1,.box 68 [.s (.int .i64 y2A),.s (.int .i64 y2F),.s (.str y2B),.orow 2]),(2,.row 68 4 (CV.encs l7))],3⟩) (fun y=>zB3 l1 y.1 y.2.1 y.2.2=some l8) (fun y=>y.1) (n,0,y2E) hl ?_ ?_)
  ·exact(Le.rnm [(0,0),(3,1),(2,2)] _ _ _ ⟨rfl,rfl,rfl,rfl,rfl,rfl,trivial⟩ ⟨rfl,⟨_,rfl,rfl⟩,rfl,⟨_,rfl,rfl⟩,rfl,⟨_,rfl,rfl⟩,trivial⟩)
  ·rintro⟨k,x6,l7⟩ h;cases k with
   | zero=>cases h
   | succ k =>
    replace h:zB3 l1 (k+1) x6 l7=some l8:=h;rw[zB3]at h;refine zAa ?_;refine zAb [] [] rfl ?_;show Tri ..;refine zAa ?_;refine zAh rfl h (fun hb h=>?_) (fun hb h=>?_)
    ·refine zAf ?_;show Tri ..;refine zAa ?_;refine zAk ?_;refine zAa ?_;refine zAb [] [13] rfl ?_;obtain⟨e9,he9,h⟩:=zAc h;refine And.intro (zAB (fun _=>rfl) he9).1 ?_;intro r10 hr10;obtain rfl:[.int .i64 e9]=r10:=(hr10.trans (zAB (fun _=>rfl) he9).2.1).symm;show Tri ..;refine zA2 [21] [20] [1,6,8] rfl (by decide +kernel) ?_;obtain⟨⟨y11A,y11F,y11B,y11E⟩,hy11,h⟩:=zAc h;refine⟨_,⟨_,_,hy11,rfl,rfl⟩,?_⟩
     intro r12 hr12;obtain rfl:CV.encs [CV.mk y11A y11F y11B y11E]=r12:=(hr12.trans (by simp[List.map_append,List.map_take,List.map_drop,irow,brow,zAH,List.map_cons,List.map_nil,zAE,CV.encs_eq,CV.enc,Nd.encs_eq,Nd.enc,zAo,zAl,zAA,zAp,zAm,zAr,zAu,zAw,zAi,zAn])).symm;obtain⟨hq,h⟩:=zAK h
     refine And.intro (show((CV.encs l7).length+(CV.encs [CV.mk y11A y11F y11B y11E]).length) * 56<=140737488355328/\(CV.encs l7).length+(CV.encs [CV.mk y11A y11F y11B y11E]).length<=9223372036854775807 from by simp only[List.length_append,List.length_cons,List.length_nil,List.length_map,rlen CV.encs_eq]at hq ⊢; omega) ?_;show Tri ..
     refine zAj (Le.rnm [(0,0),(1,1),(3,2)] [(1,.s (.fn 61)),(4,.op 0 0),(5,.op 1 0),(9,.s (.sl 1 ((List.map (irow .i64)) l1))),(10,.s (.int .i64 (l1.length:Int))),(11,.s (.int .i64 x6))] [(0,.box 68 [.s (.int .i64 0),.s (.int .i64 0),.s (.str []),.nl 4]),(1,.box 68 [.s (.int .i64 y2A),.s (.int .i64 y2F),.s (.str y2B),.orow 2]),(2,.row 68 4 (CV.encs (l7++[CV.mk y11A y11F y11B y11E])))] 3 ⟨rfl,rfl,rfl,rfl,rfl,rfl,trivial⟩ ⟨rfl,⟨_,rfl,rfl⟩,rfl,⟨_,rfl,rfl⟩,rfl,⟨_,rfl,congrArg (Ob.row 68 4) (by simp[List.map_append,List.map_take,List.map_drop,irow,brow,zAH,List.map_cons,List.map_nil,zAE,CV.encs_eq,CV.enc,Nd.encs_eq,Nd.enc,zAo,zAl,zAA,zAp,zAm,zAr,zAu,zAw,zAi,zAn])⟩,trivial⟩) ?_
     refine zAb [] [] rfl ?_;refine⟨(k,IntKind.i64.wrap (x6+1),l7++[CV.mk y11A y11F y11B y11E]),h,(Le.rnm [(0,0),(1,1),(2,2)] _ _ _ ⟨rfl,rfl,rfl,rfl,rfl,rfl,trivial⟩ ⟨rfl,⟨_,rfl,rfl⟩,rfl,⟨_,rfl,rfl⟩,rfl,⟨_,rfl,rfl⟩,trivial⟩),Nat.lt_succ_self k⟩
    ·refine zAI ?_;cases h;exact(Le.rnm [(0,0),(1,1),(2,2)] _ _ _ ⟨rfl,rfl,trivial⟩ ⟨rfl,⟨_,rfl,rfl⟩,rfl,⟨_,rfl,rfl⟩,rfl,⟨_,rfl,rfl⟩,trivial⟩)
 ·show Tri ..;refine zAj hle ?_;refine zAa ?_;refine zAb [] [] rfl ?_;show Tri ..;refine zAd ?_;have hy:=Option.some.inj h;subst hy;unfold zAt;exact⟨_,(Le.trans (Le.rnm [(0,0),(2,1)] [(4,.op 0 0)] [(0,.box 68 [.s (.int .i64 y2A),.s (.int .i64 y2F),.s (.str y2B),.orow 1]),(1,.row 68 4 (CV.encs l8))] 2 ⟨rfl,trivial⟩ ⟨rfl,⟨_,rfl,rfl⟩,rfl,⟨_,rfl,rfl⟩,trivial⟩) (Le.giveRow 1 rfl)),rfl,rfl⟩
def zL1 (n:Nat) (xs:List AV) (r:Ret):Prop:=∃ (a0:List Int) (y0:CV),zDv n a0=some y0/\xs=[.s (.sl 1 ((List.map (irow .i64)) a0))]/\r = .val (.agg ((CV.enc y0).map .s))
def zFM:zAy:=zAx fun xs r=>∃ n,zL1 n xs r
theorem zHe:PSound Tryz.prog 137 zFM:=by
 have gok:∀ f s,look? f [(169,zGQ)]=some s->PSound Tryz.prog f s:=zAv (by
  simp only[List.forall_mem_cons]
  exact⟨zKj,by simp⟩)
 refine zAz tokW Tryz.call137 Tryz.func137 rfl (fun xs r h=>by obtain⟨n,_,_,_,rfl,_⟩:=h; show 1<=5; decide) 5 rfl ?_;rintro xs r w0 G0 ⟨n,l1,y0,h,rfl,rfl⟩ _;rw[zDv]at h;refine zAa ?_;refine zAb [2] [] rfl ?_;show Tri ..;refine zAa ?_;refine zAb [] [] rfl ?_;obtain⟨⟨y2A,y2F,y2B,y2E⟩,hy2,h⟩:=zAc h;refine⟨_,⟨_,_,_,hy2,rfl,rfl⟩,?_⟩
 show Tri ..;refine zAd ?_;have hy:=Option.some.inj h;subst hy;unfold zAt;exact⟨_,Le.refl _ _,rfl,rfl⟩
def zL4 (n:Nat) (xs:List AV) (r:Ret):Prop:=∃ (a0:zO8) (y0:CV),zFW n a0=some y0/\xs=[.agg ((zAr a0).map .s)]/\r = .val (.agg ((CV.enc y0).map .s))
def zHS:zAy:=zAx fun xs r=>∃ n,zL4 n xs r
theorem zLp:PSound Tryz.prog 103 zHS:=by
 have gok:∀ f s,look? f [(101,zGz),(61,zDT),(137,zFM),(59,zGl),(58,zD9)]=some s->PSound Tryz.prog f s:=zAv (by
  simp only[List.forall_mem_cons]
  exact⟨zJs,zEq,zHe,zHf,zEC,by simp⟩)
 refine zAz tokW Tryz.call103 Tryz.func103 rfl (fun xs r h=>by obtain⟨n,_,_,_,rfl,_⟩:=h; show 1<=31; decide) 31 rfl ?_;rintro xs r w0 G0 ⟨n,⟨op1A,op1N,op1I,op1M,op1H,op1L,op1O,op1B⟩,y0,h,rfl,rfl⟩ _;rw[zFW]at h;refine zAa ?_;refine zAb [2] [] rfl ?_;show Tri ..;refine zAa ?_;refine zAb [3] [] rfl ?_;obtain⟨⟨y2A,y2F,y2B,y2E⟩,hy2,h⟩:=zAc h;refine⟨_,⟨_,_,_,hy2,rfl,rfl⟩,?_⟩
 show Tri ..;refine zAj (Le.giveBox 1 [.int .i64 y2A,.int .i64 y2F,.str y2B,.sl 4 (CV.encs y2E)] rfl rfl) ?_;refine zAa ?_;refine zA2 [] [29] [24] rfl (by decide +kernel) ?_;obtain⟨⟨y3A,y3F,y3B,y3E⟩,hy3,h⟩:=zAc h;refine⟨_,⟨_,_,hy3,rfl,rfl⟩,?_⟩
 obtain⟨⟨y4A,y4F,y4B,y4E⟩,hy4,h⟩:=zAc h;refine⟨_,⟨_,_,_,hy4,rfl,rfl⟩,?_⟩
 obtain⟨⟨y5A,y5F,y5B,y5E⟩,hy5,h⟩:=zAc h;refine⟨_,⟨_,_,hy5,rfl,rfl⟩,?_⟩
 obtain⟨⟨y6A,y6F,y6B,y6E⟩,hy6,h⟩:=zAc h;refine⟨_,⟨_,_,hy6,rfl,rfl⟩,?_⟩
 obtain⟨⟨y7A,y7F,y7B,y7E⟩,hy7,h⟩:=zAc h;refine⟨_,⟨_,_,hy7,rfl,rfl⟩,?_⟩
 obtain⟨⟨y8A,y8F,y8B,y8E⟩,hy8,h⟩:=zAc h;refine⟨_,⟨_,_,hy8,rfl,rfl⟩,?_⟩
 obtain⟨⟨y9A,y9F,y9B,y9E⟩,hy9,h⟩:=zAc h;refine⟨_,⟨_,_,hy9,rfl,rfl⟩,?_⟩
 intro r10 hr10;obtain rfl:CV.encs [CV.mk y3A y3F y3B y3E,CV.mk y4A y4F y4B y4E,CV.mk y5A y5F y5B y5E,CV.mk y6A y6F y6B y6E,CV.mk y2A y2F y2B y2E,CV.mk y7A y7F y7B y7E,CV.mk y8A y8F y8B y8E,CV.mk y9A y9F y9B y9E]=r10:=(hr10.trans (by simp[List.map_append,List.map_take,List.map_drop,irow,brow,zAH,List.map_cons,List.map_nil,zAE,CV.encs_eq,CV.enc,Nd.encs_eq,Nd.enc,zAo,zAl,zAA,zAp,zAm,zAr,zAu,zAw,zAi,zAn])).symm
 obtain⟨⟨y11A,y11F,y11B,y11E⟩,hy11,h⟩:=zAc h;refine⟨_,⟨_,_,hy11,rfl,rfl⟩,?_⟩
 show Tri ..;refine zAd ?_;have hy:=Option.some.inj h;subst hy;unfold zAt;exact⟨_,Le.refl _ _,rfl,rfl⟩
def zL0 (n:Nat) (xs:List AV) (r:Ret):Prop:=∃ (a0:List zO8) (y0:CV),zFV n a0=some y0/\xs=[.s (.sl 8 ((List.map zAr) a0)),.s (.fn 103)]/\r = .val (.agg ((CV.enc y0).map .s))
def zHQ:zAy:=zAx fun xs r=>∃ n,zL0 n xs r
theorem zLn:PSound Tryz.prog 102 zHQ:=by
 have gok:∀ f s,look? f [(58,zCU),(103,zHS)]=some s->PSound Tryz.prog f s:=zAv (by
  simp only[List.forall_mem_cons]
  exact⟨zDy,zLp,by simp⟩)
 refine zAz tokW Tryz.call102 Tryz.func102 rfl (fun xs r h=>by obtain⟨n,_,_,_,rfl,_⟩:=h; show 2<=25; decide) 25 rfl ?_;rintro xs r w0 G0 ⟨n,l1,y0,h,rfl,rfl⟩ _;rw[zFV]at h;refine zAa ?_;refine zAb [4] [] rfl ?_;show Tri ..;refine zAa ?_;refine zAb [5] [] rfl ?_;obtain⟨⟨y2A,y2F,y2B,y2E⟩,hy2,h⟩:=zAc h;refine⟨_,_,⟨_,hy2,rfl,rfl,rfl,rfl⟩,?_⟩
 show Tri ..;refine zAa ?_;refine zAa ?_;refine zAb [] [10] rfl ?_;intro n3 hn3;obtain rfl:(l1.length:Int)=n3:=(hn3.trans (congrArg (fun m:Nat=>(m:Int)) (rlen (fun _=>rfl) l1))).symm;show Tri ..;obtain⟨l8,hl,h⟩:=zAc h;refine zAq ⟨ofL [(4,.op 0 0),(5,.op 1 0)],ofH [(0,.box 68 [.s (.int .i64 0),.s (.int .i64 0),.s (.str []),.nl 4]),(1,.box 68 [.s (.int .i64 y2A),.s (.int .i64 y2F),.s (.str y2B),.orow 2]),(2,.row 68 4 (CV.encs l8))],3⟩ ?_ (fun σ' hle=>?_)
 ·refine zAk (zAG (X:=Nat×Int×(List CV)) (fun y=>match y with | (k,x6,l7)=>⟨ofL [(1,.s (.fn 103)),(4,.op 0 0),(5,.op 1 0),(9,.s (.sl 8 ((List.map zAr) l1))),(10,.s (.int .i64 (l1.length:Int))),(11,.s (.int .i64 x6))],ofH [(0,.box 68 [.s (.int .i64 0),.s (.int .i64 0),.s (.str []),.nl 4]),(1,.box 68 [.s (.int .i64 y2A),.s (.int .i64 y2F),.s (.str y2B),.orow 2]),(2,.row 68 4 (CV.encs l7))],3⟩) (fun y=>zCk n l1 y.1 y.2.1 y.2.2=some l8) (fun y=>y.1) (n,0,y2E) hl ?_ ?_)
  ·exact(Le.rnm [(0,0),(3,1),(2,2)] _ _ _ ⟨rfl,rfl,rfl,rfl,rfl,rfl,trivial⟩ ⟨rfl,⟨_,rfl,rfl⟩,rfl,⟨_,rfl,rfl⟩,rfl,⟨_,rfl,rfl⟩,trivial⟩)
  ·rintro⟨k,x6,l7⟩ h;cases k with
   | zero=>cases h
   | succ k =>
    replace h:zCk n l1 (k+1) x6 l7=some l8:=h;rw[zCk]at h;refine zAa ?_;refine zAb [] [] rfl ?_;show Tri ..;refine zAa ?_;refine zAh rfl h (fun hb h=>?_) (fun hb h=>?_)
    ·refine zAf ?_;show Tri ..;refine zAa ?_;refine zAk ?_;refine zAa ?_;refine zAb [7] [13] rfl ?_;obtain⟨⟨e9A,e9N,e9I,e9M,e9H,e9L,e9O,e9B⟩,he9,h⟩:=zAc h;refine And.intro (zAB (fun _=>rfl) he9).1 ?_;intro r10 hr10;obtain rfl:[.int .i64 e9A,.sl 1 ((List.map (irow .i64)) e9N),.int .i64 e9I,.int .i64 e9M,.sl 4 (Nd.encs e9H),.int .i64 e9L,.str e9O,.str e9B]=r10:=(hr10.trans (zAB (fun _=>rfl) he9).2.1).symm;show Tri ..
     refine zAj (Le.giveBox 3 [.int .i64 e9A,.sl 1 ((List.map (irow .i64)) e9N),.int .i64 e9I,.int .i64 e9M,.sl 4 (Nd.encs e9H),.int .i64 e9L,.str e9O,.str e9B] rfl rfl) ?_;refine zA2 [21] [20] [1,6,8] rfl (by decide +kernel) ?_;obtain⟨⟨y11A,y11F,y11B,y11E⟩,hy11,h⟩:=zAc h;refine⟨_,⟨_,_,_,hy11,rfl,rfl⟩,?_⟩
     intro r12 hr12;obtain rfl:CV.encs [CV.mk y11A y11F y11B y11E]=r12:=(hr12.trans (by simp[List.map_append,List.map_take,List.map_drop,irow,brow,zAH,List.map_cons,List.map_nil,zAE,CV.encs_eq,CV.enc,Nd.encs_eq,Nd.enc,zAo,zAl,zAA,zAp,zAm,zAr,zAu,zAw,zAi,zAn])).symm;obtain⟨hq,h⟩:=zAK h
     refine And.intro (show((CV.encs l7).length+(CV.encs [CV.mk y11A y11F y11B y11E]).length) * 56<=140737488355328/\(CV.encs l7).length+(CV.encs [CV.mk y11A y11F y11B y11E]).length<=9223372036854775807 from by simp only[List.length_append,List.length_cons,List.length_nil,List.length_map,rlen CV.encs_eq]at hq ⊢; omega) ?_;show Tri ..
     refine zAj (Le.rnm [(0,0),(1,1),(4,2)] [(1,.s (.fn 103)),(4,.op 0 0),(5,.op 1 0),(9,.s (.sl 8 ((List.map zAr) l1))),(10,.s (.int .i64 (l1.length:Int))),(11,.s (.int .i64 x6))] [(0,.box 68 [.s (.int .i64 0),.s (.int .i64 0),.s (.str []),.nl 4]),(1,.box 68 [.s (.int .i64 y2A),.s (.int .i64 y2F),.s (.str y2B),.orow 2]),(2,.row 68 4 (CV.encs (l7++[CV.mk y11A y11F y11B y11E])))] 3 ⟨rfl,rfl,rfl,rfl,rfl,rfl,trivial⟩ ⟨rfl,⟨_,rfl,rfl⟩,rfl,⟨_,rfl,rfl⟩,rfl,⟨_,rfl,congrArg (Ob.row 68 4) (by simp[List.map_append,List.map_take,List.map_drop,irow,brow,zAH,List.map_cons,List.map_nil,zAE,CV.encs_eq,CV.enc,Nd.encs_eq,Nd.enc,zAo,zAl,zAA,zAp,zAm,zAr,zAu,zAw,zAi,zAn])⟩,trivial⟩) ?_
     refine zAb [] [] rfl ?_;refine⟨(k,IntKind.i64.wrap (x6+1),l7++[CV.mk y11A y11F y11B y11E]),h,(Le.rnm [(0,0),(1,1),(2,2)] _ _ _ ⟨rfl,rfl,rfl,rfl,rfl,rfl,trivial⟩ ⟨rfl,⟨_,rfl,rfl⟩,rfl,⟨_,rfl,rfl⟩,rfl,⟨_,rfl,rfl⟩,trivial⟩),Nat.lt_succ_self k⟩
    ·refine zAI ?_;cases h;exact(Le.rnm [(0,0),(1,1),(2,2)] _ _ _ ⟨rfl,rfl,trivial⟩ ⟨rfl,⟨_,rfl,rfl⟩,rfl,⟨_,rfl,rfl⟩,rfl,⟨_,rfl,rfl⟩,trivial⟩)
 ·show Tri ..;refine zAj hle ?_;refine zAa ?_;refine zAb [] [] rfl ?_;show Tri ..;refine zAd ?_;have hy:=Option.some.inj h;subst hy;unfold zAt;exact⟨_,(Le.trans (Le.rnm [(0,0),(2,1)] [(4,.op 0 0)] [(0,.box 68 [.s (.int .i64 y2A),.s (.int .i64 y2F),.s (.str y2B),.orow 1]),(1,.row 68 4 (CV.encs l8))] 2 ⟨rfl,trivial⟩ ⟨rfl,⟨_,rfl,rfl⟩,rfl,⟨_,rfl,rfl⟩,trivial⟩) (Le.giveRow 1 rfl)),rfl,rfl⟩
def zIA (n:Nat) (xs:List AV) (r:Ret):Prop:=∃ (a0:zCu) (y0:CV),zCS n a0=some y0/\xs=[.agg ((zAw a0).map .s)]/\r = .val (.agg ((CV.enc y0).map .s))
def zFw:zAy:=zAx fun xs r=>∃ n,zIA n xs r
theorem zIm:PSound Tryz.prog 104 zFw:=by
 have gok:∀ f s,look? f [(137,zFM),(58,zD9)]=some s->PSound Tryz.prog f s:=zAv (by
  simp only[List.forall_mem_cons]
  exact⟨zHe,zEC,by simp⟩)
 refine zAz tokW Tryz.call104 Tryz.func104 rfl (fun xs r h=>by obtain⟨n,_,_,_,rfl,_⟩:=h; show 1<=11; decide) 11 rfl ?_;rintro xs r w0 G0 ⟨n,⟨c1Ai,c1Ah⟩,y0,h,rfl,rfl⟩ _;rw[zCS]at h;refine zAa ?_;refine zAb [2] [] rfl ?_;show Tri ..;refine zAa ?_;refine zA2 [] [9] [8] rfl (by decide +kernel) ?_;obtain⟨⟨y2A,y2F,y2B,y2E⟩,hy2,h⟩:=zAc h;refine⟨_,⟨_,_,_,hy2,rfl,rfl⟩,?_⟩
 obtain⟨⟨y3A,y3F,y3B,y3E⟩,hy3,h⟩:=zAc h;refine⟨_,⟨_,_,_,hy3,rfl,rfl⟩,?_⟩
 intro r4 hr4;obtain rfl:CV.encs [CV.mk y2A y2F y2B y2E,CV.mk y3A y3F y3B y3E]=r4:=(hr4.trans (by simp[List.map_append,List.map_take,List.map_drop,irow,brow,zAH,List.map_cons,List.map_nil,zAE,CV.encs_eq,CV.enc,Nd.encs_eq,Nd.enc,zAo,zAl,zAA,zAp,zAm,zAr,zAu,zAw,zAi,zAn])).symm;obtain⟨⟨y5A,y5F,y5B,y5E⟩,hy5,h⟩:=zAc h;refine⟨_,⟨_,_,hy5,rfl,rfl⟩,?_⟩
 show Tri ..;refine zAd ?_;have hy:=Option.some.inj h;subst hy;unfold zAt;exact⟨_,Le.refl _ _,rfl,rfl⟩
def zIB (n:Nat) (xs:List AV) (r:Ret):Prop:=∃ (a0:zRc) (y0:CV),zDZ n a0=some y0/\xs=[.agg ((zAi a0).map .s)]/\r = .val (.agg ((CV.enc y0).map .s))
def zFx:zAy:=zAx fun xs r=>∃ n,zIB n xs r
theorem zIn:PSound Tryz.prog 63 zFx:=by
 have gok:∀ f s,look? f [(102,zHQ),(104,zFw),(58,zD9)]=some s->PSound Tryz.prog f s:=zAv (by
  simp only[List.forall_mem_cons]
  exact⟨zLn,zIm,zEC,by simp⟩)
 refine zAz tokW Tryz.call63 Tryz.func63 rfl (fun xs r h=>by obtain⟨n,_,_,_,rfl,_⟩:=h; show 1<=14; decide) 14 rfl ?_;rintro xs r w0 G0 ⟨n,⟨r1Z,⟨r1Ad,r1Ae⟩,⟨r1Af,r1Ag⟩⟩,y0,h,rfl,rfl⟩ _;rw[zDZ]at h;refine zAa ?_;refine zAb [2] [] rfl ?_;show Tri ..;refine zAa ?_;refine zA2 [] [12] [11] rfl (by decide +kernel) ?_;obtain⟨⟨y2A,y2F,y2B,y2E⟩,hy2,h⟩:=zAc h;refine⟨_,⟨_,_,_,hy2,rfl,rfl⟩,?_⟩
 obtain⟨⟨y3A,y3F,y3B,y3E⟩,hy3,h⟩:=zAc h;refine⟨_,⟨_,_,_,hy3,rfl,rfl⟩,?_⟩
 obtain⟨⟨y4A,y4F,y4B,y4E⟩,hy4,h⟩:=zAc h;refine⟨_,⟨_,_,_,hy4,rfl,rfl⟩,?_⟩
 intro r5 hr5;obtain rfl:CV.encs [CV.mk y2A y2F y2B y2E,CV.mk y3A y3F y3B y3E,CV.mk y4A y4F y4B y4E]=r5:=(hr5.trans (by simp[List.map_append,List.map_take,List.map_drop,irow,brow,zAH,List.map_cons,List.map_nil,zAE,CV.encs_eq,CV.enc,Nd.encs_eq,Nd.enc,zAo,zAl,zAA,zAp,zAm,zAr,zAu,zAw,zAi,zAn])).symm;obtain⟨⟨y6A,y6F,y6B,y6E⟩,hy6,h⟩:=zAc h;refine⟨_,⟨_,_,hy6,rfl,rfl⟩,?_⟩
 show Tri ..;refine zAd ?_;have hy:=Option.some.inj h;subst hy;unfold zAt;exact⟨_,Le.refl _ _,rfl,rfl⟩
def zIz (n:Nat) (xs:List AV) (r:Ret):Prop:=∃ (a0:List zRc) (y0:CV),zDX n a0=some y0/\xs=[.s (.sl 5 ((List.map zAi) a0)),.s (.fn 63)]/\r = .val (.agg ((CV.enc y0).map .s))
def zFv:zAy:=zAx fun xs r=>∃ n,zIz n xs r
theorem zIl:PSound Tryz.prog 62 zFv:=by
 have gok:∀ f s,look? f [(58,zCU),(63,zFx)]=some s->PSound Tryz.prog f s:=zAv (by
  simp only[List.forall_mem_cons]
  exact⟨zDy,zIn,by simp⟩)
 refine zAz tokW Tryz.call62 Tryz.func62 rfl (fun xs r h=>by obtain⟨n,_,_,_,rfl,_⟩:=h; show 2<=25; decide) 25 rfl ?_;rintro xs r w0 G0 ⟨n,l1,y0,h,rfl,rfl⟩ _;rw[zDX]at h;refine zAa ?_;refine zAb [4] [] rfl ?_;show Tri ..;refine zAa ?_;refine zAb [5] [] rfl ?_;obtain⟨⟨y2A,y2F,y2B,y2E⟩,hy2,h⟩:=zAc h;refine⟨_,_,⟨_,hy2,rfl,rfl,rfl,rfl⟩,?_⟩
 show Tri ..;refine zAa ?_;refine zAa ?_;refine zAb [] [10] rfl ?_;intro n3 hn3;obtain rfl:(l1.length:Int)=n3:=(hn3.trans (congrArg (fun m:Nat=>(m:Int)) (rlen (fun _=>rfl) l1))).symm;show Tri ..;obtain⟨l8,hl,h⟩:=zAc h;refine zAq ⟨ofL [(4,.op 0 0),(5,.op 1 0)],ofH [(0,.box 68 [.s (.int .i64 0),.s (.int .i64 0),.s (.str []),.nl 4]),(1,.box 68 [.s (.int .i64 y2A),.s (.int .i64 y2F),.s (.str y2B),.orow 2]),(2,.row 68 4 (CV.encs l8))],3⟩ ?_ (fun σ' hle=>?_)
 ·refine zAk (zAG (X:=Nat×Int×(List CV)) (fun y=>match y with | (k,x6,l7)=>⟨ofL [(1,.s (.fn 63)),(4,.op 0 0),(5,.op 1 0),(9,.s (.sl 5 ((List.map zAi) l1))),(10,.s (.int .i64 (l1.length:Int))),(11,.s (.int .i64 x6))],ofH [(0,.box 68 [.s (.int .i64 0),.s (.int .i64 0),.s (.str []),.nl 4]),(1,.box 68 [.s (.int .i64 y2A),.s (.int .i64 y2F),.s (.str y2B),.orow 2]),(2,.row 68 4 (CV.encs l7))],3⟩) (fun y=>zBv n l1 y.1 y.2.1 y.2.2=some l8) (fun y=>y.1) (n,0,y2E) hl ?_ ?_)
  ·exact(Le.rnm [(0,0),(3,1),(2,2)] _ _ _ ⟨rfl,rfl,rfl,rfl,rfl,rfl,trivial⟩ ⟨rfl,⟨_,rfl,rfl⟩,rfl,⟨_,rfl,rfl⟩,rfl,⟨_,rfl,rfl⟩,trivial⟩)
  ·rintro⟨k,x6,l7⟩ h;cases k with
   | zero=>cases h
   | succ k =>
    replace h:zBv n l1 (k+1) x6 l7=some l8:=h;rw[zBv]at h;refine zAa ?_;refine zAb [] [] rfl ?_;show Tri ..;refine zAa ?_;refine zAh rfl h (fun hb h=>?_) (fun hb h=>?_)
    ·refine zAf ?_;show Tri ..;refine zAa ?_;refine zAk ?_;refine zAa ?_;refine zAb [7] [13] rfl ?_;obtain⟨⟨e9Z,⟨e9Ad,e9Ae⟩,⟨e9Af,e9Ag⟩⟩,he9,h⟩:=zAc h;refine And.intro (zAB (fun _=>rfl) he9).1 ?_;intro r10 hr10;obtain rfl:[.sl 8 ((List.map zAr) e9Z),.sl 1 ((List.map (irow .i64)) e9Ad),.sl 1 ((List.map (irow .i64)) e9Ae),.sl 1 ((List.map (irow .i64)) e9Af),.sl 1 ((List.map (irow .i64)) e9Ag)]=r10:=(hr10.trans (zAB (fun _=>rfl) he9).2.1).symm;show Tri ..
     refine zAj (Le.giveBox 3 [.sl 8 ((List.map zAr) e9Z),.sl 1 ((List.map (irow .i64)) e9Ad),.sl 1 ((List.map (irow .i64)) e9Ae),.sl 1 ((List.map (irow .i64)) e9Af),.sl 1 ((List.map (irow .i64)) e9Ag)] rfl rfl) ?_;refine zA2 [21] [20] [1,6,8] rfl (by decide +kernel) ?_;obtain⟨⟨y11A,y11F,y11B,y11E⟩,hy11,h⟩:=zAc h;refine⟨_,⟨_,_,_,hy11,rfl,rfl⟩,?_⟩
     intro r12 hr12;obtain rfl:CV.encs [CV.mk y11A y11F y11B y11E]=r12:=(hr12.trans (by simp[List.map_append,List.map_take,List.map_drop,irow,brow,zAH,List.map_cons,List.map_nil,zAE,CV.encs_eq,CV.enc,Nd.encs_eq,Nd.enc,zAo,zAl,zAA,zAp,zAm,zAr,zAu,zAw,zAi,zAn])).symm;obtain⟨hq,h⟩:=zAK h
     refine And.intro (show((CV.encs l7).length+(CV.encs [CV.mk y11A y11F y11B y11E]).length) * 56<=140737488355328/\(CV.encs l7).length+(CV.encs [CV.mk y11A y11F y11B y11E]).length<=9223372036854775807 from by simp only[List.length_append,List.length_cons,List.length_nil,List.length_map,rlen CV.encs_eq]at hq ⊢; omega) ?_;show Tri ..
     refine zAj (Le.rnm [(0,0),(1,1),(4,2)] [(1,.s (.fn 63)),(4,.op 0 0),(5,.op 1 0),(9,.s (.sl 5 ((List.map zAi) l1))),(10,.s (.int .i64 (l1.length:Int))),(11,.s (.int .i64 x6))] [(0,.box 68 [.s (.int .i64 0),.s (.int .i64 0),.s (.str []),.nl 4]),(1,.box 68 [.s (.int .i64 y2A),.s (.int .i64 y2F),.s (.str y2B),.orow 2]),(2,.row 68 4 (CV.encs (l7++[CV.mk y11A y11F y11B y11E])))] 3 ⟨rfl,rfl,rfl,rfl,rfl,rfl,trivial⟩ ⟨rfl,⟨_,rfl,rfl⟩,rfl,⟨_,rfl,rfl⟩,rfl,⟨_,rfl,congrArg (Ob.row 68 4) (by simp[List.map_append,List.map_take,List.map_drop,irow,brow,zAH,List.map_cons,List.map_nil,zAE,CV.encs_eq,CV.enc,Nd.encs_eq,Nd.enc,zAo,zAl,zAA,zAp,zAm,zAr,zAu,zAw,zAi,zAn])⟩,trivial⟩) ?_
     refine zAb [] [] rfl ?_;refine⟨(k,IntKind.i64.wrap (x6+1),l7++[CV.mk y11A y11F y11B y11E]),h,(Le.rnm [(0,0),(1,1),(2,2)] _ _ _ ⟨rfl,rfl,rfl,rfl,rfl,rfl,trivial⟩ ⟨rfl,⟨_,rfl,rfl⟩,rfl,⟨_,rfl,rfl⟩,rfl,⟨_,rfl,rfl⟩,trivial⟩),Nat.lt_succ_self k⟩
    ·refine zAI ?_;cases h;exact(Le.rnm [(0,0),(1,1),(2,2)] _ _ _ ⟨rfl,rfl,trivial⟩ ⟨rfl,⟨_,rfl,rfl⟩,rfl,⟨_,rfl,rfl⟩,rfl,⟨_,rfl,rfl⟩,trivial⟩)
 ·show Tri ..;refine zAj hle ?_;refine zAa ?_;refine zAb [] [] rfl ?_;show Tri ..;refine zAd ?_;have hy:=Option.some.inj h;subst hy;unfold zAt;exact⟨_,(Le.trans (Le.rnm [(0,0),(2,1)] [(4,.op 0 0)] [(0,.box 68 [.s (.int .i64 y2A),.s (.int .i64 y2F),.s (.str y2B),.orow 1]),(1,.row 68 4 (CV.encs l8))] 2 ⟨rfl,trivial⟩ ⟨rfl,⟨_,rfl,rfl⟩,rfl,⟨_,rfl,rfl⟩,trivial⟩) (Le.giveRow 1 rfl)),rfl,rfl⟩
def zHC (n:Nat) (xs:List AV) (r:Ret):Prop:=∃ (a0:(List UInt8×Nd×List zRc×Int)) (y0:CV),zDp n a0=some y0/\xs=[.agg ((zAn a0).map .s)]/\r = .val (.agg ((CV.enc y0).map .s))
def zEM:zAy:=zAx fun xs r=>∃ n,zHC n xs r
theorem zHh:PSound Tryz.prog 27 zEM:=by
 have gok:∀ f s,look? f [(59,zGl),(60,zGA),(61,zDT),(62,zFv),(58,zD9)]=some s->PSound Tryz.prog f s:=zAv (by
  simp only[List.forall_mem_cons]
  exact⟨zHf,zJt,zEq,zIl,zEC,by simp⟩)
 refine zAz tokW Tryz.call27 Tryz.func27 rfl (fun xs r h=>by obtain⟨n,_,_,_,rfl,_⟩:=h; show 1<=17; decide) 17 rfl ?_;rintro xs r w0 G0 ⟨n,⟨d1V,⟨d1R,d1S,d1T,d1U⟩,d1G,d1W⟩,y0,h,rfl,rfl⟩ _;rw[zDp]at h;refine zAa ?_;refine zAb [2] [] rfl ?_;show Tri ..;refine zAa ?_;refine zA2 [] [15] [14] rfl (by decide +kernel) ?_;obtain⟨⟨y2A,y2F,y2B,y2E⟩,hy2,h⟩:=zAc h;refine⟨_,⟨_,_,hy2,rfl,rfl⟩,?_⟩
 obtain⟨⟨y3A,y3F,y3B,y3E⟩,hy3,h⟩:=zAc h;refine⟨_,⟨_,_,_,hy3,rfl,rfl⟩,?_⟩
 obtain⟨⟨y4A,y4F,y4B,y4E⟩,hy4,h⟩:=zAc h;refine⟨_,⟨_,_,hy4,rfl,rfl⟩,?_⟩
 obtain⟨⟨y5A,y5F,y5B,y5E⟩,hy5,h⟩:=zAc h;refine⟨_,⟨_,_,_,hy5,rfl,rfl⟩,?_⟩
 intro r6 hr6;obtain rfl:CV.encs [CV.mk y2A y2F y2B y2E,CV.mk y3A y3F y3B y3E,CV.mk y4A y4F y4B y4E,CV.mk y5A y5F y5B y5E]=r6:=(hr6.trans (by simp[List.map_append,List.map_take,List.map_drop,irow,brow,zAH,List.map_cons,List.map_nil,zAE,CV.encs_eq,CV.enc,Nd.encs_eq,Nd.enc,zAo,zAl,zAA,zAp,zAm,zAr,zAu,zAw,zAi,zAn])).symm;obtain⟨⟨y7A,y7F,y7B,y7E⟩,hy7,h⟩:=zAc h;refine⟨_,⟨_,_,hy7,rfl,rfl⟩,?_⟩
 show Tri ..;refine zAd ?_;have hy:=Option.some.inj h;subst hy;unfold zAt;exact⟨_,Le.refl _ _,rfl,rfl⟩
def zP6 (n:Nat) (xs:List AV) (r:Ret):Prop:=∃ (a0:(List UInt8×Nd×List zRc×Int)) (y0:List UInt8) (y1:Int),zIj n a0=some (y0,y1)/\xs=[.agg ((zAn a0).map .s)]/\r = .val (.tup [.s (.sl 1 ((List.map brow) y0)),.s (.int .i64 y1)])
def zKF:zAy:=zAx fun xs r=>∃ n,zP6 n xs r
theorem zPr:PSound Tryz.prog 10 zKF:=by
 have gok:∀ f s,look? f [(12,zJG),(27,zEM),(26,zHL),(28,zHO)]=some s->PSound Tryz.prog f s:=zAv (by
  simp only[List.forall_mem_cons]
  exact⟨zNT,zHh,zLh,zLl,by simp⟩)
 refine zAz tokW Tryz.call10 Tryz.func10 rfl (fun xs r h=>by obtain⟨n,_,_,_,_,rfl,_⟩:=h; show 1<=42; decide) 42 rfl ?_;rintro xs r w0 G0 ⟨n,⟨d1V,⟨d1R,d1S,d1T,d1U⟩,d1G,d1W⟩,y0,y1,h,rfl,rfl⟩ _;rw[zIj]at h;refine zAa ?_;refine zAb [2] [] rfl ?_;show Tri ..;refine zAj (Le.rnm [] [(1,.s (.pt [.str d1V,.int .i64 d1R,.str d1S,.int .i64 d1T,.sl 4 (Nd.encs d1U),.sl 5 ((List.map zAi) d1G),.int .i64 d1W]))] [] 0 ⟨rfl,trivial⟩ trivial) ?_;refine zAa ?_;refine zAa ?_;refine zAb [] [] rfl ?_
 obtain⟨y2,hy2,h⟩:=zAc h;refine⟨_,⟨_,_,_,hy2,rfl,rfl⟩,?_⟩
 show Tri ..;refine zAh rfl h (fun hb h=>?_) (fun hb h=>?_)
 ·refine zAa ?_;refine zAb [2] [] rfl ?_;show Tri ..;refine zAj (Le.rnm [(0,0)] [(2,.orow 0),(3,.s (.int .i64 1))] [(0,.row 5 1 ((List.map brow) []))] 1 ⟨rfl,rfl,trivial⟩ ⟨rfl,⟨_,rfl,congrArg (Ob.row 5 1) (by simp[List.map_append,List.map_take,List.map_drop,irow,brow,zAH,List.map_cons,List.map_nil,zAE,Nd.encs_eq,Nd.enc,CV.encs_eq,CV.enc,zAo,zAl,zAA,zAp,zAm,zAr,zAu,zAw,zAi,zAn])⟩,trivial⟩) ?_;refine zAd ?_;obtain⟨hj1,hk1⟩:=pij h;subst hj1 hk1;unfold zAt
  exact⟨_,(Le.trans (Le.rnm [(0,0)] [(2,.orow 0),(3,.s (.int .i64 1))] [(0,.row 5 1 ((List.map brow) []))] 1 ⟨rfl,rfl,trivial⟩ ⟨rfl,⟨_,rfl,rfl⟩,trivial⟩) (Le.giveRow 0 rfl)),rfl,rfl⟩
 ·refine zAf ?_;show Tri ..;refine zAa ?_;refine zAb [] [] rfl ?_;obtain⟨⟨y3A,y3F,y3B,y3E⟩,hy3,h⟩:=zAc h;refine⟨_,⟨_,_,_,hy3,rfl,rfl⟩,?_⟩
  obtain⟨⟨y4,y5⟩,hy4,h⟩:=zAc h;refine⟨_,⟨_,_,_,_,hy4,rfl,rfl⟩,?_⟩
  show Tri ..;refine zAa ?_;refine zAa ?_;refine zAb [] [] rfl ?_;show Tri ..;refine zAh rfl h (fun hb h=>?_) (fun hb h=>?_)
  ·refine zAa ?_;refine zAb [2] [] rfl ?_;show Tri ..;refine zAj (Le.rnm [(0,0)] [(2,.orow 0),(3,.s (.int .i64 6))] [(0,.row 5 1 ((List.map brow) []))] 1 ⟨rfl,rfl,trivial⟩ ⟨rfl,⟨_,rfl,congrArg (Ob.row 5 1) (by simp[List.map_append,List.map_take,List.map_drop,irow,brow,zAH,List.map_cons,List.map_nil,zAE,Nd.encs_eq,Nd.enc,CV.encs_eq,CV.enc,zAo,zAl,zAA,zAp,zAm,zAr,zAu,zAw,zAi,zAn])⟩,trivial⟩) ?_;refine zAd ?_;obtain⟨hj1,hk1⟩:=pij h;subst hj1 hk1;unfold zAt
   exact⟨_,(Le.trans (Le.rnm [(0,0)] [(2,.orow 0),(3,.s (.int .i64 6))] [(0,.row 5 1 ((List.map brow) []))] 1 ⟨rfl,rfl,trivial⟩ ⟨rfl,⟨_,rfl,rfl⟩,trivial⟩) (Le.giveRow 0 rfl)),rfl,rfl⟩
  ·refine zAf ?_;show Tri ..;refine zAa ?_;refine zAb [23] [21] rfl ?_;intro n6 hn6;obtain rfl:(y4.length:Int)=n6:=(hn6.trans (congrArg (fun m:Nat=>(m:Int)) (rlen (fun _=>rfl) y4))).symm;obtain⟨hq,h⟩:=zAK h;refine And.intro (show 0<=(0:Int)/\(0:Int)<=(IntKind.i64.wrap (12+(y4.length:Int)))/\(IntKind.i64.wrap (12+(y4.length:Int))) * ((1:Nat):Int)<=281474976710656/\(IntKind.i64.wrap (12+(y4.length:Int)))<=281474976710656 from⟨hq.1,hq.2.1,by have h1:=hq.1; have h2:=hq.2.1; have h3:=hq.2.2; omega,by have h3:=hq.2.2; omega⟩) ?_;show Tri ..
   refine zAj (Le.rnm [(0,0)] [(4,.s (.sl 1 ((List.map brow) y4))),(6,.orow 0)] [(0,.row 5 1 ((List.map brow) (List.replicate (0:Int).toNat (b8of 0))))] 1 ⟨rfl,rfl,trivial⟩ ⟨rfl,⟨_,rfl,congrArg (Ob.row 5 1) (by simp[List.map_append,List.map_take,List.map_drop,irow,brow,zAH,List.map_cons,List.map_nil,zAE,Nd.encs_eq,Nd.enc,CV.encs_eq,CV.enc,zAo,zAl,zAA,zAp,zAm,zAr,zAu,zAw,zAi,zAn])⟩,trivial⟩) ?_;refine zAa ?_;refine zAb [25] [] rfl ?_;obtain⟨hq,h⟩:=zAK h
   refine And.intro (show(((List.map brow) (List.replicate (0:Int).toNat (b8of 0))).length+(List.map brow [86,67,76,49]).length) * 1<=140737488355328/\((List.map brow) (List.replicate (0:Int).toNat (b8of 0))).length+(List.map brow [86,67,76,49]).length<=9223372036854775807 from by simp only[List.length_append,List.length_cons,List.length_nil,List.length_map,rlen (fun _=>rfl)]at hq ⊢; omega) ?_;show Tri ..
   refine zAj (Le.rnm [(1,0)] [(4,.s (.sl 1 ((List.map brow) y4))),(6,.orow 0)] [(0,.row 5 1 ((List.map brow) ((List.replicate (0:Int).toNat (b8of 0))++[86,67,76,49])))] 1 ⟨rfl,rfl,trivial⟩ ⟨rfl,⟨_,rfl,congrArg (Ob.row 5 1) (by simp[List.map_append,List.map_take,List.map_drop,irow,brow,zAH,List.map_cons,List.map_nil,zAE,Nd.encs_eq,Nd.enc,CV.encs_eq,CV.enc,zAo,zAl,zAA,zAp,zAm,zAr,zAu,zAw,zAi,zAn])⟩,trivial⟩) ?_;refine zAa ?_;refine zAb [] [] rfl ?_;obtain⟨y7,hy7,h⟩:=zAc h
   refine⟨_,⟨_,_,_,hy7,rfl,rfl⟩,?_⟩
   show Tri ..;refine zAa ?_;refine zAa ?_;refine zAb [] [] rfl ?_;show Tri ..;obtain⟨l11,hl,h⟩:=zAc h;refine zAq ⟨ofL [(4,.s (.sl 1 ((List.map brow) y4))),(6,.orow 0)],ofH [(0,.row 5 1 ((List.map brow) l11))],1⟩ ?_ (fun σ' hle=>?_)
   ·refine zAk (zAG (X:=Nat×Int×(List UInt8)) (fun y=>match y with | (k,shift9,l10)=>⟨ofL [(4,.s (.sl 1 ((List.map brow) y4))),(6,.orow 0),(7,.s (.int .u64 y7)),(8,.s (.int .i64 shift9))],ofH [(0,.row 5 1 ((List.map brow) l10))],1⟩) (fun y=>zDu y7 y.1 y.2.1 y.2.2=some l11) (fun y=>y.1) (n,56,(List.replicate (0:Int).toNat (b8of 0))++[86,67,76,49]) hl ?_ ?_)
    ·exact(Le.rnm [(0,0)] _ _ _ ⟨rfl,rfl,rfl,rfl,trivial⟩ ⟨rfl,⟨_,rfl,rfl⟩,trivial⟩)
    ·rintro⟨k,shift9,l10⟩ h;cases k with
     | zero=>cases h
     | succ k =>
      replace h:zDu y7 (k+1) shift9 l10=some l11:=h;rw[zDu]at h;refine zAa ?_;refine zAa ?_;refine zAb [] [] rfl ?_;show Tri ..;refine zAh rfl h (fun hb h=>?_) (fun hb h=>?_)
      ·refine zAf ?_;show Tri ..;refine zAa ?_;refine zAk ?_;refine zAb [38] [37] rfl ?_;obtain⟨hq,h⟩:=zAK h;refine And.intro hq ?_;intro r12 hr12;obtain rfl:(List.map brow) [b8of (IntKind.u8.wrap (y7.fdiv (2 ^ (min shift9.toNat IntKind.u64.bits))))]=r12:=(hr12.trans (by simp[List.map_append,List.map_take,List.map_drop,irow,brow,zAH,List.map_cons,List.map_nil,zAE,Nd.encs_eq,Nd.enc,CV.encs_eq,CV.enc,zAo,zAl,zAA,zAp,zAm,zAr,zAu,zAw,zAi,zAn])).symm;obtain⟨hq,h⟩:=zAK h
       refine And.intro (show(((List.map brow) l10).length+((List.map brow) [b8of (IntKind.u8.wrap (y7.fdiv (2 ^ (min shift9.toNat IntKind.u64.bits))))]).length) * 1<=140737488355328/\((List.map brow) l10).length+((List.map brow) [b8of (IntKind.u8.wrap (y7.fdiv (2 ^ (min shift9.toNat IntKind.u64.bits))))]).length<=9223372036854775807 from by simp only[List.length_append,List.length_cons,List.length_nil,List.length_map,rlen (fun _=>rfl)]at hq ⊢; omega) ?_;show Tri ..
       refine zAj (Le.rnm [(1,0)] [(4,.s (.sl 1 ((List.map brow) y4))),(6,.orow 0),(7,.s (.int .u64 y7)),(8,.s (.int .i64 shift9))] [(0,.row 5 1 ((List.map brow) (l10++[b8of (IntKind.u8.wrap (y7.fdiv (2 ^ (min shift9.toNat IntKind.u64.bits))))])))] 1 ⟨rfl,rfl,rfl,rfl,trivial⟩ ⟨rfl,⟨_,rfl,congrArg (Ob.row 5 1) (by simp[List.map_append,List.map_take,List.map_drop,irow,brow,zAH,List.map_cons,List.map_nil,zAE,Nd.encs_eq,Nd.enc,CV.encs_eq,CV.enc,zAo,zAl,zAA,zAp,zAm,zAr,zAu,zAw,zAi,zAn])⟩,trivial⟩) ?_
       refine zAb [] [] rfl ?_;refine⟨(k,IntKind.i64.wrap (shift9 - 8),l10++[b8of (IntKind.u8.wrap (y7.fdiv (2 ^ (min shift9.toNat IntKind.u64.bits))))]),h,(Le.rnm [(0,0)] _ _ _ ⟨rfl,rfl,rfl,rfl,trivial⟩ ⟨rfl,⟨_,rfl,rfl⟩,trivial⟩),Nat.lt_succ_self k⟩
      ·refine zAI ?_;cases h;exact(Le.rnm [(0,0)] _ _ _ ⟨rfl,rfl,trivial⟩ ⟨rfl,⟨_,rfl,rfl⟩,trivial⟩)
   ·show Tri ..;refine zAj hle ?_;refine zAa ?_;refine zAb [41] [] rfl ?_;obtain⟨hq,h⟩:=zAK h;refine And.intro (show(((List.map brow) l11).length+((List.map brow) y4).length) * 1<=140737488355328/\((List.map brow) l11).length+((List.map brow) y4).length<=9223372036854775807 from by simp only[List.length_append,List.length_cons,List.length_nil,List.length_map,rlen (fun _=>rfl)]at hq ⊢; omega) ?_;show Tri ..
    refine zAj (Le.rnm [(1,0)] [(2,.orow 0),(3,.s (.int .i64 0))] [(0,.row 5 1 ((List.map brow) (l11++y4)))] 1 ⟨rfl,rfl,trivial⟩ ⟨rfl,⟨_,rfl,congrArg (Ob.row 5 1) (by simp[List.map_append,List.map_take,List.map_drop,irow,brow,zAH,List.map_cons,List.map_nil,zAE,Nd.encs_eq,Nd.enc,CV.encs_eq,CV.enc,zAo,zAl,zAA,zAp,zAm,zAr,zAu,zAw,zAi,zAn])⟩,trivial⟩) ?_;refine zAd ?_;obtain⟨hj1,hk1⟩:=pij h;subst hj1 hk1;unfold zAt
    exact⟨_,(Le.trans (Le.rnm [(0,0)] [(2,.orow 0),(3,.s (.int .i64 0))] [(0,.row 5 1 ((List.map brow) (l11++y4)))] 1 ⟨rfl,rfl,trivial⟩ ⟨rfl,⟨_,rfl,rfl⟩,trivial⟩) (Le.giveRow 0 rfl)),rfl,rfl⟩
def zP9 (n:Nat) (xs:List AV) (r:Ret):Prop:=∃ (y0:Bool),zEf n=some y0/\xs=[]/\r = .val (.s (.bool y0))
def zKG:zAy:=zAx fun xs r=>∃ n,zP9 n xs r
theorem zPs:PSound Tryz.prog 8 zKG:=by
 have gok:∀ f s,look? f [(10,zKF)]=some s->PSound Tryz.prog f s:=zAv (by
  simp only[List.forall_mem_cons]
  exact⟨zPr,by simp⟩)
 refine zAz tokW Tryz.call8 Tryz.func8 rfl (fun xs r h=>by obtain⟨n,_,_,rfl,_⟩:=h; show 0<=22; decide) 22 rfl ?_;rintro xs r w0 G0 ⟨n,y0,h,rfl,rfl⟩ _;rw[zEf]at h;refine zAa ?_;refine zAb [] [] rfl ?_;show Tri ..;refine zAa ?_;refine zAb [] [] rfl ?_;obtain⟨⟨y1,y2⟩,hy1,h⟩:=zAc h;refine⟨_,⟨_,_,_,_,hy1,rfl,rfl⟩,?_⟩
 show Tri ..;refine zAa ?_;obtain⟨x3,hj,h⟩:=zAc h;refine zAq ⟨ofL [(0,.s (.bool x3))],fun _=>none,0⟩ ?_ (fun σ' hle=>?_)
 ·replace h:=hj;refine zAb [] [11,13,16,18,19] rfl ?_;intro b hb;cases b with
  | true =>
   replace h:=zAD hb.symm h;intro n4 hn4;obtain rfl:(y1.length:Int)=n4:=(hn4.trans (congrArg (fun m:Nat=>(m:Int)) (rlen (fun _=>rfl) y1))).symm;intro b hb;cases b with
   | true =>
    replace h:=zAD hb.symm h;obtain⟨hq,h⟩:=zAK h;refine And.intro ⟨hq.1,Int.le_trans hq.2.1 (Int.ofNat_le.2 (Nat.le_of_eq (rlen (fun _=>rfl) _).symm)),Int.le_refl _⟩ ?_;intro r5 hr5;obtain rfl:(List.map brow) ((y1.take (y1.length:Int).toNat).drop (12:Int).toNat)=r5:=(hr5.trans ((congrArg (fun m:Nat=>(((List.map brow) y1).take m).drop (12:Int).toNat) (rlen (fun _=>rfl) _)).trans (rcut (fun _=>rfl) _ _ _))).symm;refine And.intro (show List.map brow ((y1.take (y1.length:Int).toNat).drop (12:Int).toNat)=((List.map brow ((y1.take (y1.length:Int).toNat).drop (12:Int).toNat)).map zHY).map brow from by rw[zOV]) ?_;intro s6 hs6
    obtain rfl:(y1.take (y1.length:Int).toNat).drop (12:Int).toNat=s6:=(hs6.trans (zOV _)).symm;cases h;exact(Le.forget _ ⟨rfl,trivial⟩)
   | false =>
    replace h:=zAC hb.symm h;cases h;exact(Le.forget _ ⟨rfl,trivial⟩)
  | false =>
   replace h:=zAC hb.symm h;intro b hb;subst hb;cases h;exact(Le.forget _ ⟨rfl,trivial⟩)
 ·show Tri ..;refine zAj hle ?_;refine zAd ?_;have hy:=Option.some.inj h;subst hy;unfold zAt;exact⟨_,Le.refl _ _,rfl,rfl⟩
def zQd (xs:List AV) (r:Ret):Prop:=∃ (a0:List Nd) (y0:Nd),zCy a0=some y0/\xs=[.s (.sl 4 (Nd.encs a0))]/\r = .val (.agg ((Nd.enc y0).map .s))
def zE7:zAy:=zAx fun xs r=>zQd xs r
theorem zFF:PSound Tryz.prog 54 zE7:=by
 have gok:=@gok0 Tryz.prog;refine zAz tokW Tryz.call54 Tryz.func54 rfl (fun xs r h=>by obtain⟨_,_,_,rfl,_⟩:=h; show 1<=5; decide) 5 rfl ?_;rintro xs r w0 G0 ⟨l1,y0,h,rfl,rfl⟩ _;rw[zCy]at h;refine zAa ?_;refine zAb [2] [] rfl ?_;show Tri ..;refine zAa ?_;refine zAb [] [] rfl ?_;show Tri ..;refine zAd ?_;have hy:=Option.some.inj h;subst hy;unfold zAt;exact⟨_,Le.refl _ _,rfl,rfl⟩
def zF2 (n:Nat) (xs:List AV) (r:Ret):Prop:=∃ (a0:Nd) (a1:Int) (y0:Int),zDi n a0 a1=some y0/\xs=[.agg ((Nd.enc a0).map .s),.s (.int .i64 a1)]/\r = .val (.s (.int .i64 y0))
theorem zOk (n:Nat) (ih:PSound Tryz.prog 55 (zAx (zF2 n))):PSound Tryz.prog 55 (zAx (zF2 (n+1))):=by
 have gok:∀ f s,look? f [(55,zAx (zF2 n))]=some s->PSound Tryz.prog f s:=zAv (by
  simp only[List.forall_mem_cons]
  exact⟨ih,by simp⟩)
 refine zAz tokW Tryz.call55 Tryz.func55 rfl (fun xs r h=>by obtain⟨_,_,_,_,rfl,_⟩:=h; show 2<=27; decide) 27 rfl ?_;rintro xs r w0 G0 ⟨⟨n1A,n1B,n1D,n1C⟩,most2,y0,h,rfl,rfl⟩ _;rw[zDi]at h;refine zAa ?_;refine zAb [] [] rfl ?_;show Tri ..;refine zAa ?_;refine zAb [] [] rfl ?_;show Tri ..;refine zAa ?_;refine zAa ?_;refine zAb [] [] rfl ?_;show Tri ..;obtain⟨most5,hl,h⟩:=zAc h;refine zAq ⟨ofL [(1,.s (.int .i64 most5))],fun _=>none,0⟩ ?_ (fun σ' hle=>?_)
 ·refine zAk (zAG (X:=Nat×Int×Int) (fun y=>match y with | (k,most3,i4)=>⟨ofL [(1,.s (.int .i64 most3)),(2,.s (.pt [.int .i64 n1A,.str n1B,.int .i64 n1D,.sl 4 (Nd.encs n1C)])),(5,.s (.int .i64 i4))],fun _=>none,0⟩) (fun y=>zB5 (zDi n) n1C y.1 y.2.1 y.2.2=some most5) (fun y=>y.1) (n,IntKind.i64.wrap (most2 - 1),0) hl ?_ ?_)
  ·exact(Le.forget _ ⟨rfl,rfl,rfl,trivial⟩)
  ·rintro⟨k,most3,i4⟩ h;cases k with
   | zero=>cases h
   | succ k =>
    replace h:zB5 (zDi n) n1C (k+1) most3 i4=some most5:=h;rw[zB5]at h;refine zAa ?_;refine zAa ?_;obtain⟨x6,hj,h⟩:=zAc h;refine zAq ⟨ofL [(1,.s (.int .i64 most3)),(2,.s (.pt [.int .i64 n1A,.str n1B,.int .i64 n1D,.sl 4 (Nd.encs n1C)])),(5,.s (.int .i64 i4)),(16,.s (.bool x6))],fun _=>none,0⟩ ?_ (fun σ' hle=>?_)
    ·replace h:=hj;refine zAb [] [11,13] rfl ?_;intro n7 hn7;obtain rfl:(n1C.length:Int)=n7:=(hn7.trans (congrArg (fun m:Nat=>(m:Int)) (rlen Nd.encs_eq n1C))).symm;intro b hb;cases b with
     | true =>
      replace h:=zAD hb.symm h;cases h;exact(Le.forget _ ⟨rfl,rfl,rfl,rfl,trivial⟩)
     | false =>
      replace h:=zAC hb.symm h;cases h;exact(Le.forget _ ⟨rfl,rfl,rfl,rfl,trivial⟩)
    ·show Tri ..;refine zAj hle ?_;refine zAh rfl h (fun hb h=>?_) (fun hb h=>?_)
     ·refine zAf ?_;show Tri ..;refine zAa ?_;refine zAk ?_;refine zAb [] [22] rfl ?_;obtain⟨⟨e8A,e8B,e8D,e8C⟩,he8,h⟩:=zAc h;refine And.intro (zAB Nd.encs_eq he8).1 ?_;intro r9 hr9;obtain rfl:[.int .i64 e8A,.str e8B,.int .i64 e8D,.sl 4 (Nd.encs e8C)]=r9:=(hr9.trans (zAB Nd.encs_eq he8).2.1).symm;obtain⟨y10,hy10,h⟩:=zAc h;refine⟨_,⟨_,_,_,hy10,rfl,rfl⟩,?_⟩
      show Tri ..;refine zAb [] [] rfl ?_;refine⟨(k,y10,IntKind.i64.wrap (i4+1)),h,(Le.forget _ ⟨rfl,rfl,rfl,trivial⟩),Nat.lt_succ_self k⟩
     ·refine zAI ?_;cases h;exact(Le.forget _ ⟨rfl,trivial⟩)
 ·show Tri ..;refine zAj hle ?_;refine zAa ?_;refine zAb [] [] rfl ?_;show Tri ..;refine zAd ?_;have hy:=Option.some.inj h;subst hy;unfold zAt;exact⟨_,Le.refl _ _,rfl,rfl⟩
theorem zOR:∀ n,PSound Tryz.prog 55 (zAx (zF2 n)):=by
 intro n
 induction n with
 | zero=>exact zBq Tryz.call55 (fun xs r h=>by obtain⟨_,_,_,h,_⟩:=h; cases h)
 | succ n ih=>exact zOk n ih
def zMG:zAy:=zAx fun xs r=>∃ n,zF2 n xs r
theorem zQD:PSound Tryz.prog 55 zMG:=zBM zOR
def zSa (n:Nat) (xs:List AV) (r:Ret):Prop:=∃ (a0:Nd) (a1:Int) (y0:Bool),zGd n a0 a1=some y0/\xs=[.agg ((Nd.enc a0).map .s),.s (.int .i64 a1)]/\r = .val (.s (.bool y0))
def zKM:zAy:=zAx fun xs r=>∃ n,zSa n xs r
theorem zMZ:PSound Tryz.prog 25 zKM:=by
 have gok:∀ f s,look? f [(55,zMG)]=some s->PSound Tryz.prog f s:=zAv (by
  simp only[List.forall_mem_cons]
  exact⟨zQD,by simp⟩)
 refine zAz tokW Tryz.call25 Tryz.func25 rfl (fun xs r h=>by obtain⟨n,_,_,_,_,rfl,_⟩:=h; show 2<=9; decide) 9 rfl ?_;rintro xs r w0 G0 ⟨n,⟨n1A,n1B,n1D,n1C⟩,most2,y0,h,rfl,rfl⟩ _;rw[zGd]at h;refine zAa ?_;refine zAb [] [] rfl ?_;show Tri ..;refine zAa ?_;refine zAb [] [] rfl ?_;obtain⟨y3,hy3,h⟩:=zAc h;refine⟨_,⟨_,_,_,_,hy3,rfl,rfl⟩,?_⟩
 show Tri ..;refine zAd ?_;have hy:=Option.some.inj h;subst hy;unfold zAt;exact⟨_,Le.refl _ _,rfl,rfl⟩
def zSe (n:Nat) (xs:List AV) (r:Ret):Prop:=∃ (a0:zO8) (y0:Bool),zG7 n a0=some y0/\xs=[.agg ((zAr a0).map .s)]/\r = .val (.s (.bool y0))
def zOL:zAy:=zAx fun xs r=>∃ n,zSe n xs r
theorem zRV:PSound Tryz.prog 24 zOL:=by
 have gok:∀ f s,look? f [(54,zE7),(25,zKM)]=some s->PSound Tryz.prog f s:=zAv (by
  simp only[List.forall_mem_cons]
  exact⟨zFF,zMZ,by simp⟩)
 refine zAz tokW Tryz.call24 Tryz.func24 rfl (fun xs r h=>by obtain⟨n,_,_,_,rfl,_⟩:=h; show 1<=13; decide) 13 rfl ?_;rintro xs r w0 G0 ⟨n,⟨op1A,op1N,op1I,op1M,op1H,op1L,op1O,op1B⟩,y0,h,rfl,rfl⟩ _;rw[zG7]at h;refine zAa ?_;refine zAb [] [] rfl ?_;show Tri ..;refine zAa ?_;obtain⟨x2,hj,h⟩:=zAc h;refine zAq ⟨ofL [(2,.s (.bool x2))],fun _=>none,0⟩ ?_ (fun σ' hle=>?_)
 ·replace h:=hj;refine zAb [] [7,10] rfl ?_;obtain⟨⟨y3A,y3B,y3D,y3C⟩,hy3,h⟩:=zAc h;refine⟨_,⟨_,_,hy3,rfl,rfl⟩,?_⟩
  obtain⟨y4,hy4,h⟩:=zAc h;refine⟨_,⟨_,_,_,_,hy4,rfl,rfl⟩,?_⟩
  intro b hb;cases b with
  | true =>
   replace h:=zAD hb.symm h;intro n5 hn5;obtain rfl:(op1N.length:Int)=n5:=(hn5.trans (congrArg (fun m:Nat=>(m:Int)) (rlen (fun _=>rfl) op1N))).symm;cases h;exact(Le.forget _ ⟨rfl,trivial⟩)
  | false =>
   replace h:=zAC hb.symm h;cases h;exact(Le.forget _ ⟨rfl,trivial⟩)
 ·show Tri ..;refine zAj hle ?_;refine zAd ?_;have hy:=Option.some.inj h;subst hy;unfold zAt;exact⟨_,Le.refl _ _,rfl,rfl⟩
def zAs:(List UInt8×Nd×List zRc×Int)->List S
| ⟨p_title,⟨p_origin_kind,p_origin_text,p_origin_cols,p_origin_kids⟩,p_records,p_done⟩=>[.str p_title,.int .i64 p_origin_kind,.str p_origin_text,.int .i64 p_origin_cols,.sl 4 (Nd.encs p_origin_kids),.sl 5 ((List.map zAi) p_records),.int .i64 p_done]
def zSf (n:Nat) (xs:List AV) (r:Ret):Prop:=∃ (a0:(List UInt8×Nd×List zRc×Int)) (y0:Bool),zG8 n a0=some y0/\xs=[.agg ((zAs a0).map .s)]/\r = .val (.s (.bool y0))
def zON:zAy:=zAx fun xs r=>∃ n,zSf n xs r
theorem zRX:PSound Tryz.prog 9 zON:=by
 have gok:∀ f s,look? f [(24,zOL),(25,zKM)]=some s->PSound Tryz.prog f s:=zAv (by
  simp only[List.forall_mem_cons]
  exact⟨zRV,zMZ,by simp⟩)
 refine zAz tokW Tryz.call9 Tryz.func9 rfl (fun xs r h=>by obtain⟨n,_,_,_,rfl,_⟩:=h; show 1<=73; decide) 73 rfl ?_;rintro xs r w0 G0 ⟨n,⟨a1V,⟨a1R,a1S,a1T,a1U⟩,a1G,a1W⟩,y0,h,rfl,rfl⟩ _;rw[zG8]at h;refine zAa ?_;refine zAb [] [] rfl ?_;show Tri ..;refine zAa ?_;refine zAa ?_;refine zAb [] [] rfl ?_;show Tri ..;obtain⟨fl,hl,ho1⟩:=zAc h
 refine zBA (fl:=fl) (fun z=>match z with | _=>⟨ofL [(1,.s (.pt [.str a1V,.int .i64 a1R,.str a1S,.int .i64 a1T,.sl 4 (Nd.encs a1U),.sl 5 ((List.map zAi) a1G),.int .i64 a1W]))],fun _=>none,0⟩) ?_ (fun z σ' hz hle=>?_)
 ·refine zAk (zAG (X:=Nat×Int) (fun y=>match y with | (k,x2)=>⟨ofL [(1,.s (.pt [.str a1V,.int .i64 a1R,.str a1S,.int .i64 a1T,.sl 4 (Nd.encs a1U),.sl 5 ((List.map zAi) a1G),.int .i64 a1W])),(3,.s (.int .i64 x2))],fun _=>none,0⟩) (fun y=>zCs n a1G y.1 y.2=some fl) (fun y=>y.1) (n,0) hl ?_ ?_)
  ·exact(Le.forget _ ⟨rfl,rfl,trivial⟩)
  ·rintro⟨k,x2⟩ h;cases k with
   | zero=>cases h
   | succ k =>
    replace h:zCs n a1G (k+1) x2=some fl:=h;rw[zCs]at h;refine zAa ?_;refine zAa ?_;refine zAb [] [9] rfl ?_;intro n3 hn3;obtain rfl:(a1G.length:Int)=n3:=(hn3.trans (congrArg (fun m:Nat=>(m:Int)) (rlen (fun _=>rfl) a1G))).symm;show Tri ..;refine zAh rfl h (fun hb h=>?_) (fun hb h=>?_)
    ·refine zAf ?_;show Tri ..;refine zAa ?_;refine zAk ?_;refine zAa ?_;refine zAb [4] [16] rfl ?_;obtain⟨⟨e4Z,⟨e4Ad,e4Ae⟩,⟨e4Af,e4Ag⟩⟩,he4,h⟩:=zAc h;refine And.intro (zAB (fun _=>rfl) he4).1 ?_;intro r5 hr5;obtain rfl:[.sl 8 ((List.map zAr) e4Z),.sl 1 ((List.map (irow .i64)) e4Ad),.sl 1 ((List.map (irow .i64)) e4Ae),.sl 1 ((List.map (irow .i64)) e4Af),.sl 1 ((List.map (irow .i64)) e4Ag)]=r5:=(hr5.trans (zAB (fun _=>rfl) he4).2.1).symm;show Tri ..
     refine zAj (Le.giveBox 0 [.sl 8 ((List.map zAr) e4Z),.sl 1 ((List.map (irow .i64)) e4Ad),.sl 1 ((List.map (irow .i64)) e4Ae),.sl 1 ((List.map (irow .i64)) e4Af),.sl 1 ((List.map (irow .i64)) e4Ag)] rfl rfl) ?_;refine zAa ?_;refine zAa ?_;obtain⟨x6,hj,h⟩:=zAc h
     refine zAq ⟨ofL [(1,.s (.pt [.str a1V,.int .i64 a1R,.str a1S,.int .i64 a1T,.sl 4 (Nd.encs a1U),.sl 5 ((List.map zAi) a1G),.int .i64 a1W])),(3,.s (.int .i64 x2)),(4,.s (.pt [.sl 8 ((List.map zAr) e4Z),.sl 1 ((List.map (irow .i64)) e4Ad),.sl 1 ((List.map (irow .i64)) e4Ae),.sl 1 ((List.map (irow .i64)) e4Af),.sl 1 ((List.map (irow .i64)) e4Ag)])),(43,.s (.bool x6))],fun _=>none,0⟩ ?_ (fun σ' hle=>?_)
     ·replace h:=hj;refine zAb [] [20,22,26,30,35,40] rfl ?_;intro n7 hn7;obtain rfl:(e4Z.length:Int)=n7:=(hn7.trans (congrArg (fun m:Nat=>(m:Int)) (rlen (fun _=>rfl) e4Z))).symm;intro b hb;cases b with
      | true =>
       replace h:=zAD hb.symm h;cases h;exact(Le.rnm [] _ [] 0 ⟨rfl,rfl,rfl,rfl,trivial⟩ trivial)
      | false =>
       replace h:=zAC hb.symm h;intro n8 hn8;obtain rfl:(e4Ad.length:Int)=n8:=(hn8.trans (congrArg (fun m:Nat=>(m:Int)) (rlen (fun _=>rfl) e4Ad))).symm;intro n9 hn9;obtain rfl:(e4Ae.length:Int)=n9:=(hn9.trans (congrArg (fun m:Nat=>(m:Int)) (rlen (fun _=>rfl) e4Ae))).symm;intro n10 hn10;obtain rfl:(e4Af.length:Int)=n10:=(hn10.trans (congrArg (fun m:Nat=>(m:Int)) (rlen (fun _=>rfl) e4Af))).symm;intro n11 hn11;obtain rfl:(e4Ag.length:Int)=n11:=(hn11.trans (congrArg (fun m:Nat=>(m:Int)) (rlen (fun _=>rfl) e4Ag))).symm;cases h
       exact(Le.rnm [] _ [] 0 ⟨rfl,rfl,rfl,rfl,trivial⟩ trivial)
     ·show Tri ..;refine zAj hle ?_;refine zAh rfl h (fun hb h=>?_) (fun hb h=>?_)
      ·refine zAa ?_;refine zAb [] [] rfl ?_;show Tri ..;refine zAd ?_;cases h;replace h:some _=some _:=ho1;have hy:=Option.some.inj h;subst hy;unfold zAt;exact⟨_,Le.refl _ _,rfl,rfl⟩
      ·refine zAf ?_;show Tri ..;refine zAa ?_;refine zAb [] [] rfl ?_;show Tri ..;obtain⟨fl,hl,ho2⟩:=zAc h;refine zBA (fl:=fl) (fun z=>match z with | _=>⟨ofL [(1,.s (.pt [.str a1V,.int .i64 a1R,.str a1S,.int .i64 a1T,.sl 4 (Nd.encs a1U),.sl 5 ((List.map zAi) a1G),.int .i64 a1W])),(3,.s (.int .i64 x2))],fun _=>none,0⟩) ?_ (fun z σ' hz hle=>?_)
       ·refine zAk (zAG (X:=Nat×Int) (fun y=>match y with | (k,x12)=>⟨ofL [(1,.s (.pt [.str a1V,.int .i64 a1R,.str a1S,.int .i64 a1T,.sl 4 (Nd.encs a1U),.sl 5 ((List.map zAi) a1G),.int .i64 a1W])),(3,.s (.int .i64 x2)),(4,.s (.pt [.sl 8 ((List.map zAr) e4Z),.sl 1 ((List.map (irow .i64)) e4Ad),.sl 1 ((List.map (irow .i64)) e4Ae),.sl 1 ((List.map (irow .i64)) e4Af),.sl 1 ((List.map (irow .i64)) e4Ag)])),(5,.s (.int .i64 x12))],fun _=>none,0⟩) (fun y=>zC7 n e4Z y.1 y.2=some fl) (fun y=>y.1) (n,0) hl ?_ ?_)
        ·exact(Le.forget _ ⟨rfl,rfl,rfl,rfl,trivial⟩)
        ·rintro⟨k,x12⟩ h;cases k with
         | zero=>cases h
         | succ k =>
          replace h:zC7 n e4Z (k+1) x12=some fl:=h;rw[zC7]at h;refine zAa ?_;refine zAa ?_;refine zAb [] [47] rfl ?_;intro n13 hn13;obtain rfl:(e4Z.length:Int)=n13:=(hn13.trans (congrArg (fun m:Nat=>(m:Int)) (rlen (fun _=>rfl) e4Z))).symm;show Tri ..;refine zAh rfl h (fun hb h=>?_) (fun hb h=>?_)
          ·refine zAf ?_;show Tri ..;refine zAa ?_;refine zAk ?_;refine zAa ?_;refine zAb [] [54] rfl ?_;obtain⟨⟨e14A,e14N,e14I,e14M,e14H,e14L,e14O,e14B⟩,he14,h⟩:=zAc h;refine And.intro (zAB (fun _=>rfl) he14).1 ?_;intro r15 hr15;obtain rfl:[.int .i64 e14A,.sl 1 ((List.map (irow .i64)) e14N),.int .i64 e14I,.int .i64 e14M,.sl 4 (Nd.encs e14H),.int .i64 e14L,.str e14O,.str e14B]=r15:=(hr15.trans (zAB (fun _=>rfl) he14).2.1).symm;obtain⟨y16,hy16,h⟩:=zAc h;refine⟨_,⟨_,_,_,hy16,rfl,rfl⟩,?_⟩
           show Tri ..;refine zAh rfl h (fun hb h=>?_) (fun hb h=>?_)
           ·refine zAa ?_;refine zAb [] [] rfl ?_;show Tri ..;refine zAd ?_;cases h;replace h:some _=some _:=ho2;cases h;replace h:some _=some _:=ho1;have hy:=Option.some.inj h;subst hy;unfold zAt;exact⟨_,Le.refl _ _,rfl,rfl⟩
           ·refine zAf ?_;show Tri ..;refine zAb [] [] rfl ?_;refine⟨(k,IntKind.i64.wrap (x12+1)),h,(Le.forget _ ⟨rfl,rfl,rfl,rfl,trivial⟩),Nat.lt_succ_self k⟩
          ·refine zAI ?_;cases h;exact⟨_,rfl,(Le.forget _ ⟨rfl,rfl,trivial⟩)⟩
       ·subst hz;obtain _:=z;replace h:=ho2;show Tri ..;refine zAj hle ?_;refine zAb [] [] rfl ?_;refine⟨(k,IntKind.i64.wrap (x2+1)),h,(Le.forget _ ⟨rfl,rfl,trivial⟩),Nat.lt_succ_self k⟩
    ·refine zAI ?_;cases h;exact⟨_,rfl,(Le.forget _ ⟨rfl,trivial⟩)⟩
 ·subst hz;obtain _:=z;replace h:=ho1;show Tri ..;refine zAj hle ?_;refine zAa ?_;obtain⟨x17,hj,h⟩:=zAc h;refine zAq ⟨ofL [(2,.s (.bool x17))],fun _=>none,0⟩ ?_ (fun σ' hle=>?_)
  ·replace h:=hj;refine zAb [] [61,64,67] rfl ?_;obtain⟨y18,hy18,h⟩:=zAc h;refine⟨_,⟨_,_,_,_,hy18,rfl,rfl⟩,?_⟩
   intro b hb;cases b with
   | true =>
    replace h:=zAD hb.symm h;intro n19 hn19;obtain rfl:(a1G.length:Int)=n19:=(hn19.trans (congrArg (fun m:Nat=>(m:Int)) (rlen (fun _=>rfl) a1G))).symm;intro b hb;cases b with
    | true =>
     replace h:=zAD hb.symm h;cases h;exact(Le.forget _ ⟨rfl,trivial⟩)
    | false =>
     replace h:=zAC hb.symm h;cases h;exact(Le.forget _ ⟨rfl,trivial⟩)
   | false =>
    replace h:=zAC hb.symm h;intro b hb;subst hb;cases h;exact(Le.forget _ ⟨rfl,trivial⟩)
  ·show Tri ..;refine zAj hle ?_;refine zAd ?_;have hy:=Option.some.inj h;subst hy;unfold zAt;exact⟨_,Le.refl _ _,rfl,rfl⟩
def zLZ (n:Nat) (xs:List AV) (r:Ret):Prop:=∃ (a0:(List UInt8×Nd×List zRc×Int)) (a1:Int) (y0:Nd) (y1:Int),zCM n a0 a1=some (y0,y1)/\xs=[.agg ((zAn a0).map .s),.s (.int .i64 a1)]/\r = .val (.tup [.agg ((Nd.enc y0).map .s),.s (.int .i64 y1)])
def zHP:zAy:=zAx fun xs r=>∃ n,zLZ n xs r
theorem zLm:PSound Tryz.prog 14 zHP:=by
 have gok:∀ f s,look? f [(33,zFN)]=some s->PSound Tryz.prog f s:=zAv (by
  simp only[List.forall_mem_cons]
  exact⟨zHg,by simp⟩)
 refine zAz tokW Tryz.call14 Tryz.func14 rfl (fun xs r h=>by obtain⟨n,_,_,_,_,_,rfl,_⟩:=h; show 2<=28; decide) 28 rfl ?_;rintro xs r w0 G0 ⟨n,⟨d1V,⟨d1R,d1S,d1T,d1U⟩,d1G,d1W⟩,done2,y0,y1,h,rfl,rfl⟩ _;rw[zCM]at h;refine zAa ?_;refine zAb [4] [] rfl ?_;show Tri ..;refine zAa ?_;refine zAb [6] [] rfl ?_;obtain⟨⟨⟨y3A,y3B,y3D,y3C⟩,y4⟩,hy3,h⟩:=zAc h;refine⟨_,⟨_,_,_,_,_,hy3,rfl,rfl⟩,?_⟩
 show Tri ..;refine zAj (Le.giveBox 1 [.int .i64 y3A,.str y3B,.int .i64 y3D,.sl 4 (Nd.encs y3C)] rfl rfl) ?_;refine zAa ?_;refine zAa ?_;refine zAb [] [] rfl ?_;show Tri ..;refine zAh rfl h (fun hb h=>?_) (fun hb h=>?_)
 ·refine zAa ?_;refine zAb [] [] rfl ?_;show Tri ..;refine zAd ?_;obtain⟨hj1,hk1⟩:=pij h;subst hj1 hk1;unfold zAt;exact⟨_,Le.refl _ _,rfl,rfl⟩
 ·refine zAf ?_;show Tri ..;refine zAa ?_;refine zAa ?_;obtain⟨x5,hj,h⟩:=zAc h;refine zAq ⟨ofL [(4,.op 0 0),(6,.s (.pt [.int .i64 y3A,.str y3B,.int .i64 y3D,.sl 4 (Nd.encs y3C)])),(25,.s (.bool x5))],ofH [(0,.box 24 [.s (.int .i64 0),.s (.str []),.s (.int .i64 0),.nl 4])],1⟩ ?_ (fun σ' hle=>?_)
  ·replace h:=hj;refine zAb [] [19,23] rfl ?_;intro b hb;cases b with
   | true =>
    replace h:=zAD hb.symm h;cases h;exact(Le.rnm [(0,0)] _ _ _ ⟨rfl,rfl,rfl,trivial⟩ ⟨rfl,⟨_,rfl,rfl⟩,trivial⟩)
   | false =>
    replace h:=zAC hb.symm h;intro n6 hn6;obtain rfl:(d1G.length:Int)=n6:=(hn6.trans (congrArg (fun m:Nat=>(m:Int)) (rlen (fun _=>rfl) d1G))).symm;cases h;exact(Le.rnm [(0,0)] _ _ _ ⟨rfl,rfl,rfl,trivial⟩ ⟨rfl,⟨_,rfl,rfl⟩,trivial⟩)
  ·show Tri ..;refine zAj hle ?_;refine zAh rfl h (fun hb h=>?_) (fun hb h=>?_)
   ·refine zAa ?_;refine zAb [] [] rfl ?_;show Tri ..;refine zAd ?_;obtain⟨hj1,hk1⟩:=pij h;subst hj1 hk1;unfold zAt;exact⟨_,Le.refl _ _,rfl,rfl⟩
   ·refine zAf ?_;show Tri ..;refine zAa ?_;refine zAb [] [] rfl ?_;show Tri ..;refine zAd ?_;obtain⟨hj1,hk1⟩:=pij h;subst hj1 hk1;unfold zAt;exact⟨_,Le.refl _ _,rfl,rfl⟩
def zKc (n:Nat) (xs:List AV) (r:Ret):Prop:=∃ (a0:List Nd) (y0:Bool),zBZ n a0=some y0/\xs=[.s (.sl 4 (Nd.encs a0))]/\r = .val (.s (.bool y0))
def zEE:zAy:=zAx fun xs r=>∃ n,zKc n xs r
theorem zGh:PSound Tryz.prog 155 zEE:=by
 have gok:∀ f s,look? f [(54,zE7),(35,zDz)]=some s->PSound Tryz.prog f s:=zAv (by
  simp only[List.forall_mem_cons]
  exact⟨zFF,zDP,by simp⟩)
 refine zAz tokW Tryz.call155 Tryz.func155 rfl (fun xs r h=>by obtain⟨n,_,_,_,rfl,_⟩:=h; show 1<=6; decide) 6 rfl ?_;rintro xs r w0 G0 ⟨n,l1,y0,h,rfl,rfl⟩ _;rw[zBZ]at h;refine zAa ?_;refine zAb [] [] rfl ?_;show Tri ..;refine zAa ?_;refine zAb [] [] rfl ?_;obtain⟨⟨y2A,y2B,y2D,y2C⟩,hy2,h⟩:=zAc h;refine⟨_,⟨_,_,hy2,rfl,rfl⟩,?_⟩
 obtain⟨y3,hy3,h⟩:=zAc h;refine⟨_,⟨_,_,_,hy3,rfl,rfl⟩,?_⟩
 show Tri ..;refine zAd ?_;have hy:=Option.some.inj h;subst hy;unfold zAt;exact⟨_,Le.refl _ _,rfl,rfl⟩
def zMa (n:Nat) (xs:List AV) (r:Ret):Prop:=∃ (a0:List Nd) (a1:Int) (y0:Bool),zDx n a0 a1=some y0/\xs=[.s (.sl 4 (Nd.encs a0)),.s (.int .i64 a1)]/\r = .val (.s (.bool y0))
def zHW:zAy:=zAx fun xs r=>∃ n,zMa n xs r
theorem zLt:PSound Tryz.prog 156 zHW:=by
 have gok:∀ f s,look? f [(155,zEE)]=some s->PSound Tryz.prog f s:=zAv (by
  simp only[List.forall_mem_cons]
  exact⟨zGh,by simp⟩)
 refine zAz tokW Tryz.call156 Tryz.func156 rfl (fun xs r h=>by obtain⟨n,_,_,_,_,rfl,_⟩:=h; show 2<=37; decide) 37 rfl ?_;rintro xs r w0 G0 ⟨n,l1,slot2,y0,h,rfl,rfl⟩ _;rw[zDx]at h;refine zAa ?_;refine zAb [] [] rfl ?_;show Tri ..;refine zAa ?_;obtain⟨x3,hj,h⟩:=zAc h;refine zAq ⟨ofL [(4,.s (.bool x3))],fun _=>none,0⟩ ?_ (fun σ' hle=>?_)
 ·replace h:=hj;refine zAb [] [6,8,12,16,19,22,25,27,31,34] rfl ?_;intro n4 hn4;obtain rfl:(l1.length:Int)=n4:=(hn4.trans (congrArg (fun m:Nat=>(m:Int)) (rlen Nd.encs_eq l1))).symm;intro b hb;cases b with
  | true =>
   replace h:=zAD hb.symm h;obtain⟨y5,hy5,h⟩:=zAc h;refine⟨_,⟨_,_,_,hy5,rfl,rfl⟩,?_⟩
   intro b hb;cases b with
   | true =>
    replace h:=zAD hb.symm h;intro b hb;cases b with
    | true =>
     replace h:=zAD hb.symm h;obtain⟨⟨e6A,e6B,e6D,e6C⟩,he6,h⟩:=zAc h;refine And.intro (zAB Nd.encs_eq he6).1 ?_;intro r7 hr7;obtain rfl:[.int .i64 e6A,.str e6B,.int .i64 e6D,.sl 4 (Nd.encs e6C)]=r7:=(hr7.trans (zAB Nd.encs_eq he6).2.1).symm;intro n8 hn8;obtain rfl:(e6C.length:Int)=n8:=(hn8.trans (congrArg (fun m:Nat=>(m:Int)) (rlen Nd.encs_eq e6C))).symm;intro b hb;cases b with
     | true =>
      replace h:=zAD hb.symm h;obtain⟨⟨e9A,e9B,e9D,e9C⟩,he9,h⟩:=zAc h;refine And.intro (zAB Nd.encs_eq he9).1 ?_;intro r10 hr10;obtain rfl:[.int .i64 e9A,.str e9B,.int .i64 e9D,.sl 4 (Nd.encs e9C)]=r10:=(hr10.trans (zAB Nd.encs_eq he9).2.1).symm;obtain⟨⟨e11A,e11B,e11D,e11C⟩,he11,h⟩:=zAc h;refine And.intro (zAB Nd.encs_eq he11).1 ?_;intro r12 hr12;obtain rfl:[.int .i64 e11A,.str e11B,.int .i64 e11D,.sl 4 (Nd.encs e11C)]=r12:=(hr12.trans (zAB Nd.encs_eq he11).2.1).symm;intro n13 hn13
      obtain rfl:(e11C.length:Int)=n13:=(hn13.trans (congrArg (fun m:Nat=>(m:Int)) (rlen Nd.encs_eq e11C))).symm;cases h;exact(Le.forget _ ⟨rfl,trivial⟩)
     | false =>
      replace h:=zAC hb.symm h;cases h;exact(Le.forget _ ⟨rfl,trivial⟩)
    | false =>
     replace h:=zAC hb.symm h;intro b hb;subst hb;cases h;exact(Le.forget _ ⟨rfl,trivial⟩)
   | false =>
    replace h:=zAC hb.symm h;intro b hb;subst hb;intro b hb;subst hb;cases h;exact(Le.forget _ ⟨rfl,trivial⟩)
  | false =>
   replace h:=zAC hb.symm h;intro b hb;subst hb;intro b hb;subst hb;intro b hb;subst hb;cases h;exact(Le.forget _ ⟨rfl,trivial⟩)
 ·show Tri ..;refine zAj hle ?_;refine zAd ?_;have hy:=Option.some.inj h;subst hy;unfold zAt;exact⟨_,Le.refl _ _,rfl,rfl⟩
def zOC (n:Nat) (xs:List AV) (r:Ret):Prop:=∃ (a0:zO8) (y0:Bool),zEz n a0=some y0/\xs=[.agg ((zAr a0).map .s)]/\r = .val (.s (.bool y0))
def zJO:zAy:=zAx fun xs r=>∃ n,zOC n xs r
theorem zN1:PSound Tryz.prog 115 zJO:=by
 have gok:∀ f s,look? f [(155,zEE),(156,zHW)]=some s->PSound Tryz.prog f s:=zAv (by
  simp only[List.forall_mem_cons]
  exact⟨zGh,zLt,by simp⟩)
 refine zAz tokW Tryz.call115 Tryz.func115 rfl (fun xs r h=>by obtain⟨n,_,_,_,rfl,_⟩:=h; show 1<=83; decide) 83 rfl ?_;rintro xs r w0 G0 ⟨n,⟨a1A,a1N,a1I,a1M,a1H,a1L,a1O,a1B⟩,y0,h,rfl,rfl⟩ _;rw[zEz]at h;refine zAa ?_;refine zAb [] [] rfl ?_;show Tri ..;refine zAa ?_;refine zAa ?_;refine zAb [] [] rfl ?_;show Tri ..;obtain⟨fl,hj,ho1⟩:=zAc h;refine zBA (fl:=fl) (fun z=>match z with | _=>⟨ofL [],fun _=>none,0⟩) ?_ (fun z σ' hz hle=>?_)
 ·replace h:=hj;refine zAk ?_;refine zAa ?_;refine zAa ?_;refine zAb [] [] rfl ?_;show Tri ..;obtain⟨x2,hj,h⟩:=zAc h;refine zAq ⟨ofL [(1,.s (.pt [.int .i64 a1A,.sl 1 ((List.map (irow .i64)) a1N),.int .i64 a1I,.int .i64 a1M,.sl 4 (Nd.encs a1H),.int .i64 a1L,.str a1O,.str a1B])),(4,.s (.int .i64 a1A)),(5,.s (.bool x2))],fun _=>none,0⟩ ?_ (fun σ' hle=>?_)
  ·replace h:=hj;refine zAh rfl h (fun hb h=>?_) (fun hb h=>?_)
   ·refine zAf ?_;cases h;exact(Le.forget _ ⟨rfl,rfl,rfl,trivial⟩)
   ·refine zAb [] [] rfl ?_;cases h;exact(Le.forget _ ⟨rfl,rfl,rfl,trivial⟩)
  ·show Tri ..;refine zAj hle ?_;refine zAh rfl h (fun hb h=>?_) (fun hb h=>?_)
   ·refine zAa ?_;obtain⟨x3,hj,h⟩:=zAc h;refine zAq ⟨ofL [(2,.s (.bool x3))],fun _=>none,0⟩ ?_ (fun σ' hle=>?_)
    ·replace h:=hj;refine zAb [] [10,12,17,22,27,32] rfl ?_;intro n4 hn4;obtain rfl:(a1H.length:Int)=n4:=(hn4.trans (congrArg (fun m:Nat=>(m:Int)) (rlen Nd.encs_eq a1H))).symm;intro b hb;cases b with
     | true =>
      replace h:=zAD hb.symm h;obtain⟨y5,hy5,h⟩:=zAc h;refine⟨_,⟨_,_,_,hy5,rfl,rfl⟩,?_⟩
      intro b hb;cases b with
      | true =>
       replace h:=zAD hb.symm h;intro b hb;cases b with
       | true =>
        replace h:=zAD hb.symm h;intro b hb;cases b with
        | true =>
         replace h:=zAD hb.symm h;intro b hb;cases b with
         | true =>
          replace h:=zAD hb.symm h;cases h;exact(Le.forget _ ⟨rfl,trivial⟩)
         | false =>
          replace h:=zAC hb.symm h;cases h;exact(Le.forget _ ⟨rfl,trivial⟩)
        | false =>
         replace h:=zAC hb.symm h;intro b hb;subst hb;cases h;exact(Le.forget _ ⟨rfl,trivial⟩)
       | false =>
        replace h:=zAC hb.symm h;intro b hb;subst hb;intro b hb;subst hb;cases h;exact(Le.forget _ ⟨rfl,trivial⟩)
      | false =>
       replace h:=zAC hb.symm h;intro b hb;subst hb;intro b hb;subst hb;intro b hb;subst hb;cases h;exact(Le.forget _ ⟨rfl,trivial⟩)
     | false =>
      replace h:=zAC hb.symm h;intro b hb;subst hb;intro b hb;subst hb;intro b hb;subst hb;intro b hb;subst hb;cases h;exact(Le.forget _ ⟨rfl,trivial⟩)
    ·show Tri ..;refine zAj hle ?_;refine zAd ?_;cases h;replace h:some _=some _:=ho1;have hy:=Option.some.inj h;subst hy;unfold zAt;exact⟨_,Le.refl _ _,rfl,rfl⟩
   ·refine zAa ?_;refine zAa ?_;refine zAb [] [] rfl ?_;show Tri ..;obtain⟨x6,hj,h⟩:=zAc h;refine zAq ⟨ofL [(1,.s (.pt [.int .i64 a1A,.sl 1 ((List.map (irow .i64)) a1N),.int .i64 a1I,.int .i64 a1M,.sl 4 (Nd.encs a1H),.int .i64 a1L,.str a1O,.str a1B])),(4,.s (.int .i64 a1A)),(37,.s (.bool x6))],fun _=>none,0⟩ ?_ (fun σ' hle=>?_)
    ·replace h:=hj;refine zAh rfl h (fun hb h=>?_) (fun hb h=>?_)
     ·refine zAf ?_;cases h;exact(Le.forget _ ⟨rfl,rfl,rfl,trivial⟩)
     ·refine zAb [] [] rfl ?_;cases h;exact(Le.forget _ ⟨rfl,rfl,rfl,trivial⟩)
    ·show Tri ..;refine zAj hle ?_;refine zAh rfl h (fun hb h=>?_) (fun hb h=>?_)
     ·refine zAa ?_;obtain⟨x7,hj,h⟩:=zAc h;refine zAq ⟨ofL [(2,.s (.bool x7))],fun _=>none,0⟩ ?_ (fun σ' hle=>?_)
      ·replace h:=hj;refine zAb [] [43,50,55] rfl ?_;intro b hb;cases b with
       | true =>
        replace h:=zAD hb.symm h;obtain⟨y8,hy8,h⟩:=zAc h;refine⟨_,⟨_,_,_,_,hy8,rfl,rfl⟩,?_⟩
        intro b hb;cases b with
        | true =>
         replace h:=zAD hb.symm h;intro b hb;cases b with
         | true =>
          replace h:=zAD hb.symm h;cases h;exact(Le.forget _ ⟨rfl,trivial⟩)
         | false =>
          replace h:=zAC hb.symm h;cases h;exact(Le.forget _ ⟨rfl,trivial⟩)
        | false =>
         replace h:=zAC hb.symm h;intro b hb;subst hb;cases h;exact(Le.forget _ ⟨rfl,trivial⟩)
       | false =>
        replace h:=zAC hb.symm h;intro b hb;subst hb;intro b hb;subst hb;cases h;exact(Le.forget _ ⟨rfl,trivial⟩)
      ·show Tri ..;refine zAj hle ?_;refine zAd ?_;cases h;replace h:some _=some _:=ho1;have hy:=Option.some.inj h;subst hy;unfold zAt;exact⟨_,Le.refl _ _,rfl,rfl⟩
     ·refine zAa ?_;refine zAb [] [] rfl ?_;show Tri ..;refine zAh rfl h (fun hb h=>?_) (fun hb h=>?_)
      ·refine zAa ?_;obtain⟨x9,hj,h⟩:=zAc h;refine zAq ⟨ofL [(2,.s (.bool x9))],fun _=>none,0⟩ ?_ (fun σ' hle=>?_)
       ·replace h:=hj;refine zAb [] [67,70,73,78] rfl ?_;intro b hb;cases b with
        | true =>
         replace h:=zAD hb.symm h;intro n10 hn10;obtain rfl:(a1H.length:Int)=n10:=(hn10.trans (congrArg (fun m:Nat=>(m:Int)) (rlen Nd.encs_eq a1H))).symm;intro b hb;cases b with
         | true =>
          replace h:=zAD hb.symm h;intro b hb;cases b with
          | true =>
           replace h:=zAD hb.symm h;cases h;exact(Le.forget _ ⟨rfl,trivial⟩)
          | false =>
           replace h:=zAC hb.symm h;cases h;exact(Le.forget _ ⟨rfl,trivial⟩)
         | false =>
          replace h:=zAC hb.symm h;intro b hb;subst hb;cases h;exact(Le.forget _ ⟨rfl,trivial⟩)
        | false =>
         replace h:=zAC hb.symm h;intro b hb;subst hb;intro b hb;subst hb;cases h;exact(Le.forget _ ⟨rfl,trivial⟩)
       ·show Tri ..;refine zAj hle ?_;refine zAd ?_;cases h;replace h:some _=some _:=ho1;have hy:=Option.some.inj h;subst hy;unfold zAt;exact⟨_,Le.refl _ _,rfl,rfl⟩
      ·refine zAf ?_;cases h;exact⟨_,rfl,(Le.forget _ trivial)⟩
 ·subst hz;obtain _:=z;replace h:=ho1;show Tri ..;refine zAj hle ?_;refine zAa ?_;refine zAb [] [] rfl ?_;show Tri ..;refine zAd ?_;have hy:=Option.some.inj h;subst hy;unfold zAt;exact⟨_,Le.refl _ _,rfl,rfl⟩
def zRu (n:Nat) (xs:List AV) (r:Ret):Prop:=∃ (a0:Nd) (a1:List Int) (y0:Nd) (y1:Bool),zGe n a0 a1=some (y0,y1)/\xs=[.agg ((Nd.enc a0).map .s),.s (.sl 1 ((List.map (irow .i64)) a1))]/\r = .val (.tup [.agg ((Nd.enc y0).map .s),.s (.bool y1)])
def zMD:zAy:=zAx fun xs r=>∃ n,zRu n xs r
theorem zQA:PSound Tryz.prog 157 zMD:=by
 have gok:=@gok0 Tryz.prog;refine zAz tokW Tryz.call157 Tryz.func157 rfl (fun xs r h=>by obtain⟨n,_,_,_,_,_,rfl,_⟩:=h; show 2<=57; decide) 57 rfl ?_;rintro xs r w0 G0 ⟨n,⟨n1A,n1B,n1D,n1C⟩,path2,y0,y1,h,rfl,rfl⟩ _;rw[zGe]at h;refine zAa ?_;refine zAb [2,4] [] rfl ?_;show Tri ..;refine zAa ?_;obtain⟨fl,hl,ho1⟩:=zAc h
 refine zBA (fl:=fl) (fun z=>match z with | ⟨path9,x10,x11,x12,x13⟩=>⟨ofL [(1,.s (.sl 1 ((List.map (irow .i64)) path9))),(2,.op 0 0),(4,.op 1 0)],ofH [(0,.box 24 [.s (.int .i64 x10),.s (.str x11),.s (.int .i64 x12),.s (.sl 4 (Nd.encs x13))]),(1,.box 24 [.s (.int .i64 0),.s (.str []),.s (.int .i64 0),.nl 4])],2⟩) ?_ (fun z σ' hz hle=>?_)
 ·refine zAk (zAG (X:=Nat×Int×(List UInt8)×Int×(List Nd)×(List Int)) (fun y=>match y with | (k,x3,x4,x5,x6,path8)=>⟨ofL [(1,.s (.sl 1 ((List.map (irow .i64)) path8))),(2,.op 0 0),(4,.op 1 0)],ofH [(0,.box 24 [.s (.int .i64 x3),.s (.str x4),.s (.int .i64 x5),.s (.sl 4 (Nd.encs x6))]),(1,.box 24 [.s (.int .i64 0),.s (.str []),.s (.int .i64 0),.nl 4])],2⟩) (fun y=>zBG  y.1 y.2.1 y.2.2.1 y.2.2.2.1 y.2.2.2.2.1 y.2.2.2.2.2=some fl) (fun y=>y.1) (n,n1A,n1B,n1D,n1C,path2) hl ?_ ?_)
  ·exact(Le.rnm [(0,0),(1,1)] _ _ _ ⟨rfl,rfl,rfl,trivial⟩ ⟨rfl,⟨_,rfl,rfl⟩,rfl,⟨_,rfl,rfl⟩,trivial⟩)
  ·rintro⟨k,x3,x4,x5,x6,path8⟩ h;cases k with
   | zero=>cases h
   | succ k =>
    replace h:zBG  (k+1) x3 x4 x5 x6 path8=some fl:=h;rw[zBG]at h;refine zAa ?_;refine zAa ?_;refine zAb [] [7] rfl ?_;intro n14 hn14;obtain rfl:(path8.length:Int)=n14:=(hn14.trans (congrArg (fun m:Nat=>(m:Int)) (rlen (fun _=>rfl) path8))).symm;show Tri ..;refine zAh rfl h (fun hb h=>?_) (fun hb h=>?_)
    ·refine zAf ?_;show Tri ..;refine zAk ?_;refine zAa ?_;refine zAa ?_;obtain⟨x15,hj,h⟩:=zAc h;refine zAq ⟨ofL [(1,.s (.sl 1 ((List.map (irow .i64)) path8))),(2,.op 0 0),(4,.op 1 0),(21,.s (.bool x15))],ofH [(0,.box 24 [.s (.int .i64 x3),.s (.str x4),.s (.int .i64 x5),.s (.sl 4 (Nd.encs x6))]),(1,.box 24 [.s (.int .i64 0),.s (.str []),.s (.int .i64 0),.nl 4])],2⟩ ?_ (fun σ' hle=>?_)
     ·replace h:=hj;refine zA2 [] [10,13,15,19] [9] rfl (by decide +kernel) ?_;obtain⟨e16,he16,h⟩:=zAc h;refine And.intro (zAB (fun _=>rfl) he16).1 ?_;intro r17 hr17;obtain rfl:[.int .i64 e16]=r17:=(hr17.trans (zAB (fun _=>rfl) he16).2.1).symm;intro b hb;cases b with
      | true =>
       replace h:=zAD hb.symm h;cases h;exact(Le.rnm [(0,0),(1,1)] _ _ _ ⟨rfl,rfl,rfl,rfl,trivial⟩ ⟨rfl,⟨_,rfl,rfl⟩,rfl,⟨_,rfl,rfl⟩,trivial⟩)
      | false =>
       replace h:=zAC hb.symm h;obtain⟨e18,he18,h⟩:=zAc h;refine And.intro (zAB (fun _=>rfl) he18).1 ?_;intro r19 hr19;obtain rfl:[.int .i64 e18]=r19:=(hr19.trans (zAB (fun _=>rfl) he18).2.1).symm;intro n20 hn20;obtain rfl:(x6.length:Int)=n20:=(hn20.trans (congrArg (fun m:Nat=>(m:Int)) (rlen Nd.encs_eq x6))).symm;cases h;exact(Le.rnm [(0,0),(1,1)] _ _ _ ⟨rfl,rfl,rfl,rfl,trivial⟩ ⟨rfl,⟨_,rfl,rfl⟩,rfl,⟨_,rfl,rfl⟩,trivial⟩)
     ·show Tri ..;refine zAj hle ?_;refine zAh rfl h (fun hb h=>?_) (fun hb h=>?_)
      ·refine zAa ?_;refine zAb [] [] rfl ?_;show Tri ..;refine zAd ?_;cases h;replace h:some _=some _:=ho1;obtain⟨hj1,hk1⟩:=pij h;subst hj1 hk1;unfold zAt;exact⟨_,Le.refl _ _,rfl,rfl⟩
      ·refine zAf ?_;show Tri ..;refine zAa ?_;refine zA2 [] [26,28] [1,7] rfl (by decide +kernel) ?_;obtain⟨e21,he21,h⟩:=zAc h;refine And.intro (zAB (fun _=>rfl) he21).1 ?_;intro r22 hr22;obtain rfl:[.int .i64 e21]=r22:=(hr22.trans (zAB (fun _=>rfl) he21).2.1).symm;obtain⟨⟨e23A,e23B,e23D,e23C⟩,he23,h⟩:=zAc h;refine And.intro (zAB Nd.encs_eq he23).1 ?_;intro r24 hr24;obtain rfl:[.int .i64 e23A,.str e23B,.int .i64 e23D,.sl 4 (Nd.encs e23C)]=r24:=(hr24.trans (zAB Nd.encs_eq he23).2.1).symm;show Tri ..;refine zAa ?_;refine zAa ?_;obtain⟨x25,hj,h⟩:=zAc h
       refine zAq ⟨ofL [(1,.s (.sl 1 ((List.map (irow .i64)) path8))),(2,.op 0 0),(4,.op 1 0),(42,.s (.bool x25))],ofH [(0,.box 24 [.s (.int .i64 e23A),.s (.str e23B),.s (.int .i64 e23D),.s (.sl 4 (Nd.encs e23C))]),(1,.box 24 [.s (.int .i64 0),.s (.str []),.s (.int .i64 0),.nl 4])],2⟩ ?_ (fun σ' hle=>?_)
       ·replace h:=hj;refine zA2 [] [31,34,36,40] [9] rfl (by decide +kernel) ?_;obtain⟨e26,he26,h⟩:=zAc h;refine And.intro (zAB (fun _=>rfl) he26).1 ?_;intro r27 hr27;obtain rfl:[.int .i64 e26]=r27:=(hr27.trans (zAB (fun _=>rfl) he26).2.1).symm;intro b hb;cases b with
        | true =>
         replace h:=zAD hb.symm h;cases h;exact(Le.rnm [(0,0),(1,1)] _ _ _ ⟨rfl,rfl,rfl,rfl,trivial⟩ ⟨rfl,⟨_,rfl,rfl⟩,rfl,⟨_,rfl,rfl⟩,trivial⟩)
        | false =>
         replace h:=zAC hb.symm h;obtain⟨e28,he28,h⟩:=zAc h;refine And.intro (zAB (fun _=>rfl) he28).1 ?_;intro r29 hr29;obtain rfl:[.int .i64 e28]=r29:=(hr29.trans (zAB (fun _=>rfl) he28).2.1).symm;intro n30 hn30;obtain rfl:(e23C.length:Int)=n30:=(hn30.trans (congrArg (fun m:Nat=>(m:Int)) (rlen Nd.encs_eq e23C))).symm;cases h;exact(Le.rnm [(0,0),(1,1)] _ _ _ ⟨rfl,rfl,rfl,rfl,trivial⟩ ⟨rfl,⟨_,rfl,rfl⟩,rfl,⟨_,rfl,rfl⟩,trivial⟩)
       ·show Tri ..;refine zAj hle ?_;refine zAh rfl h (fun hb h=>?_) (fun hb h=>?_)
        ·refine zAa ?_;refine zAb [] [] rfl ?_;show Tri ..;refine zAd ?_;cases h;replace h:some _=some _:=ho1;obtain⟨hj1,hk1⟩:=pij h;subst hj1 hk1;unfold zAt;exact⟨_,Le.refl _ _,rfl,rfl⟩
        ·refine zAf ?_;show Tri ..;refine zAa ?_;refine zA2 [] [47,49] [1,7] rfl (by decide +kernel) ?_;obtain⟨e31,he31,h⟩:=zAc h;refine And.intro (zAB (fun _=>rfl) he31).1 ?_;intro r32 hr32;obtain rfl:[.int .i64 e31]=r32:=(hr32.trans (zAB (fun _=>rfl) he31).2.1).symm;obtain⟨⟨e33A,e33B,e33D,e33C⟩,he33,h⟩:=zAc h;refine And.intro (zAB Nd.encs_eq he33).1 ?_;intro r34 hr34;obtain rfl:[.int .i64 e33A,.str e33B,.int .i64 e33D,.sl 4 (Nd.encs e33C)]=r34:=(hr34.trans (zAB Nd.encs_eq he33).2.1).symm;show Tri ..;refine zAb [] [52] rfl ?_;obtain⟨hq,h⟩:=zAK h
         refine And.intro ⟨hq.1,Int.le_trans hq.2.1 (Int.ofNat_le.2 (Nat.le_of_eq (rlen (fun _=>rfl) _).symm)),Int.le_refl _⟩ ?_;intro r35 hr35;obtain rfl:(List.map (irow .i64)) ((path8.take (path8.length:Int).toNat).drop (2:Int).toNat)=r35:=(hr35.trans ((congrArg (fun m:Nat=>(((List.map (irow .i64)) path8).take m).drop (2:Int).toNat) (rlen (fun _=>rfl) _)).trans (rcut (fun _=>rfl) _ _ _))).symm;refine⟨(k,e33A,e33B,e33D,e33C,(path8.take (path8.length:Int).toNat).drop (2:Int).toNat),h,(Le.rnm [(0,0),(1,1)] _ _ _ ⟨rfl,rfl,rfl,trivial⟩ ⟨rfl,⟨_,rfl,rfl⟩,rfl,⟨_,rfl,rfl⟩,trivial⟩),Nat.lt_succ_self k⟩
    ·refine zAI ?_;cases h;exact⟨_,rfl,(Le.rnm [(0,0),(1,1)] _ _ _ ⟨rfl,rfl,rfl,trivial⟩ ⟨rfl,⟨_,rfl,rfl⟩,rfl,⟨_,rfl,rfl⟩,trivial⟩)⟩
 ·subst hz;obtain⟨path9,x10,x11,x12,x13⟩:=z;replace h:=ho1;show Tri ..;refine zAj hle ?_;refine zAa ?_;refine zAb [] [55] rfl ?_;intro n36 hn36;obtain rfl:(path9.length:Int)=n36:=(hn36.trans (congrArg (fun m:Nat=>(m:Int)) (rlen (fun _=>rfl) path9))).symm;show Tri ..;refine zAd ?_;obtain⟨hj1,hk1⟩:=pij h;subst hj1 hk1;unfold zAt;exact⟨_,Le.refl _ _,rfl,rfl⟩
def zSb (n:Nat) (xs:List AV) (r:Ret):Prop:=∃ (a0:Nd) (a1:List Int) (y0:Nd) (y1:Int),zG5 n a0 a1=some (y0,y1)/\xs=[.agg ((Nd.enc a0).map .s),.s (.sl 1 ((List.map (irow .i64)) a1))]/\r = .val (.tup [.agg ((Nd.enc y0).map .s),.s (.int .i64 y1)])
def zOI:zAy:=zAx fun xs r=>∃ n,zSb n xs r
theorem zRS:PSound Tryz.prog 116 zOI:=by
 have gok:∀ f s,look? f [(35,zDz),(157,zMD)]=some s->PSound Tryz.prog f s:=zAv (by
  simp only[List.forall_mem_cons]
  exact⟨zDP,zQA,by simp⟩)
 refine zAz tokW Tryz.call116 Tryz.func116 rfl (fun xs r h=>by obtain⟨n,_,_,_,_,_,rfl,_⟩:=h; show 2<=22; decide) 22 rfl ?_;rintro xs r w0 G0 ⟨n,⟨n1A,n1B,n1D,n1C⟩,path2,y0,y1,h,rfl,rfl⟩ _;rw[zG5]at h;refine zAa ?_;refine zAb [4] [] rfl ?_;show Tri ..;refine zAa ?_;refine zAa ?_;refine zAb [] [] rfl ?_;obtain⟨y3,hy3,h⟩:=zAc h;refine⟨_,⟨_,_,_,hy3,rfl,rfl⟩,?_⟩
 show Tri ..;refine zAh rfl h (fun hb h=>?_) (fun hb h=>?_)
 ·refine zAa ?_;refine zAb [] [] rfl ?_;show Tri ..;refine zAd ?_;obtain⟨hj1,hk1⟩:=pij h;subst hj1 hk1;unfold zAt;exact⟨_,Le.refl _ _,rfl,rfl⟩
 ·refine zAf ?_;show Tri ..;refine zAa ?_;refine zAb [6] [] rfl ?_;obtain⟨⟨⟨y4A,y4B,y4D,y4C⟩,y5⟩,hy4,h⟩:=zAc h;refine⟨_,⟨_,_,_,_,_,hy4,rfl,rfl⟩,?_⟩
  show Tri ..;refine zAj (Le.giveBox 1 [.int .i64 y4A,.str y4B,.int .i64 y4D,.sl 4 (Nd.encs y4C)] rfl rfl) ?_;refine zAa ?_;refine zAa ?_;refine zAb [] [] rfl ?_;show Tri ..;refine zAh rfl h (fun hb h=>?_) (fun hb h=>?_)
  ·refine zAa ?_;refine zAb [] [] rfl ?_;show Tri ..;refine zAd ?_;obtain⟨hj1,hk1⟩:=pij h;subst hj1 hk1;unfold zAt;exact⟨_,Le.refl _ _,rfl,rfl⟩
  ·refine zAf ?_;show Tri ..;refine zAa ?_;refine zAb [] [] rfl ?_;show Tri ..;refine zAd ?_;obtain⟨hj1,hk1⟩:=pij h;subst hj1 hk1;unfold zAt;exact⟨_,Le.refl _ _,rfl,rfl⟩
def zOF (xs:List AV) (r:Ret):Prop:=∃ (a0:List Nd) (a1:Int) (a2:Int) (a3:List Nd) (y0:List Nd),zBK a0 a1 a2 a3=some y0/\xs=[.s (.sl 4 (Nd.encs a0)),.s (.int .i64 a1),.s (.int .i64 a2),.s (.sl 4 (Nd.encs a3))]/\r = .row 24 4 (Nd.encs y0)
def zJR:zAy:=zAx fun xs r=>zOF xs r
theorem zN4:PSound Tryz.prog 158 zJR:=by
 have gok:=@gok0 Tryz.prog;refine zAz tokW Tryz.call158 Tryz.func158 rfl (fun xs r h=>by obtain⟨_,_,_,_,_,_,rfl,_⟩:=h; show 4<=23; decide) 23 rfl ?_;rintro xs r w0 G0 ⟨l1,at2,to3,by4,y0,h,rfl,rfl⟩ _;rw[zBK]at h;refine zAa ?_;refine zAb [8] [] rfl ?_;show Tri ..;refine zAj (Le.rnm [] [(0,.s (.sl 4 (Nd.encs l1))),(1,.s (.int .i64 at2)),(2,.s (.int .i64 to3)),(3,.s (.sl 4 (Nd.encs by4)))] [] 0 ⟨rfl,rfl,rfl,rfl,trivial⟩ trivial) ?_;refine zAa ?_;refine zAb [10,14] [13] rfl ?_;obtain⟨hq,h⟩:=zAK h;refine And.intro ⟨hq.1,hq.2.1,Int.le_trans hq.2.2 (Int.ofNat_le.2 (Nat.le_of_eq (rlen Nd.encs_eq _).symm))⟩ ?_
 intro r5 hr5;obtain rfl:Nd.encs ((l1.take at2.toNat).drop (0:Int).toNat)=r5:=(hr5.trans (rcut Nd.encs_eq _ _ _)).symm;obtain⟨hq,h⟩:=zAK h;refine And.intro (show(([]:List (List S)).length+(Nd.encs ((l1.take at2.toNat).drop (0:Int).toNat)).length) * 56<=140737488355328/\([]:List (List S)).length+(Nd.encs ((l1.take at2.toNat).drop (0:Int).toNat)).length<=9223372036854775807 from by simp only[List.length_append,List.length_cons,List.length_nil,List.length_map,rlen Nd.encs_eq]at hq ⊢; omega) ?_;show Tri ..
 refine zAj (Le.rnm [(1,0)] [(0,.s (.sl 4 (Nd.encs l1))),(2,.s (.int .i64 to3)),(3,.s (.sl 4 (Nd.encs by4))),(9,.orow 0)] [(0,.row 24 4 (Nd.encs ((l1.take at2.toNat).drop (0:Int).toNat)))] 1 ⟨rfl,rfl,rfl,rfl,trivial⟩ ⟨rfl,⟨_,rfl,congrArg (Ob.row 24 4) (by simp[List.map_append,List.map_take,List.map_drop,irow,brow,zAH,List.map_cons,List.map_nil,zAE,Nd.encs_eq,Nd.enc,CV.encs_eq,CV.enc,zAo,zAl,zAA,zAp,zAm,zAr,zAu,zAw,zAi,zAn,zAs])⟩,trivial⟩) ?_;refine zAa ?_;refine zAb [17] [] rfl ?_
 obtain⟨hq,h⟩:=zAK h;refine And.intro (show((Nd.encs ((l1.take at2.toNat).drop (0:Int).toNat)).length+(Nd.encs by4).length) * 56<=140737488355328/\(Nd.encs ((l1.take at2.toNat).drop (0:Int).toNat)).length+(Nd.encs by4).length<=9223372036854775807 from by simp only[List.length_append,List.length_cons,List.length_nil,List.length_map,List.length_take,rlen Nd.encs_eq]at hq ⊢; omega) ?_;show Tri ..
 refine zAj (Le.rnm [(1,0)] [(0,.s (.sl 4 (Nd.encs l1))),(2,.s (.int .i64 to3)),(9,.orow 0)] [(0,.row 24 4 (Nd.encs (((l1.take at2.toNat).drop (0:Int).toNat)++by4)))] 1 ⟨rfl,rfl,rfl,trivial⟩ ⟨rfl,⟨_,rfl,congrArg (Ob.row 24 4) (by simp[List.map_append,List.map_take,List.map_drop,irow,brow,zAH,List.map_cons,List.map_nil,zAE,Nd.encs_eq,Nd.enc,CV.encs_eq,CV.enc,zAo,zAl,zAA,zAp,zAm,zAr,zAu,zAw,zAi,zAn,zAs])⟩,trivial⟩) ?_;refine zAa ?_;refine zAb [22] [21] rfl ?_;obtain⟨hq,h⟩:=zAK h
 refine And.intro ⟨hq.1,Int.le_trans hq.2.1 (Int.ofNat_le.2 (Nat.le_of_eq (rlen Nd.encs_eq _).symm)),Int.le_refl _⟩ ?_;intro r6 hr6;obtain rfl:Nd.encs ((l1.take (l1.length:Int).toNat).drop to3.toNat)=r6:=(hr6.trans ((congrArg (fun m:Nat=>((Nd.encs l1).take m).drop to3.toNat) (rlen Nd.encs_eq _)).trans (rcut Nd.encs_eq _ _ _))).symm;obtain⟨hq,h⟩:=zAK h
 refine And.intro (show((Nd.encs (((l1.take at2.toNat).drop (0:Int).toNat)++by4)).length+(Nd.encs ((l1.take (l1.length:Int).toNat).drop to3.toNat)).length) * 56<=140737488355328/\(Nd.encs (((l1.take at2.toNat).drop (0:Int).toNat)++by4)).length+(Nd.encs ((l1.take (l1.length:Int).toNat).drop to3.toNat)).length<=9223372036854775807 from by simp only[List.length_append,List.length_cons,List.length_nil,List.length_map,List.length_take,rlen Nd.encs_eq]at hq ⊢; omega) ?_;show Tri ..
 refine zAj (Le.rnm [(1,0)] [(8,.orow 0)] [(0,.row 24 4 (Nd.encs ((((l1.take at2.toNat).drop (0:Int).toNat)++by4)++((l1.take (l1.length:Int).toNat).drop to3.toNat))))] 1 ⟨rfl,trivial⟩ ⟨rfl,⟨_,rfl,congrArg (Ob.row 24 4) (by simp[List.map_append,List.map_take,List.map_drop,irow,brow,zAH,List.map_cons,List.map_nil,zAE,Nd.encs_eq,Nd.enc,CV.encs_eq,CV.enc,zAo,zAl,zAA,zAp,zAm,zAr,zAu,zAw,zAi,zAn,zAs])⟩,trivial⟩) ?_;refine zAd ?_;have hy:=Option.some.inj h;subst hy;unfold zAt
 exact⟨_,Le.refl _ _,0,rfl,rfl⟩
def zL8 (xs:List AV) (r:Ret):Prop:=∃ (a0:Nd) (a1:Int) (a2:Nd) (y0:Nd),zBt a0 a1 a2=some y0/\xs=[.agg ((Nd.enc a0).map .s),.s (.int .i64 a1),.agg ((Nd.enc a2).map .s)]/\r = .val (.agg ((Nd.enc y0).map .s))
def zFO:zAy:=zAx fun xs r=>zL8 xs r
theorem zHi:PSound Tryz.prog 160 zFO:=by
 have gok:=@gok0 Tryz.prog;refine zAz tokW Tryz.call160 Tryz.func160 rfl (fun xs r h=>by obtain⟨_,_,_,_,_,rfl,_⟩:=h; show 3<=18; decide) 18 rfl ?_;rintro xs r w0 G0 ⟨⟨n1A,n1B,n1D,n1C⟩,i2,⟨kid3A,kid3B,kid3D,kid3C⟩,y0,h,rfl,rfl⟩ _;rw[zBt]at h;refine zAa ?_;refine zAb [3,6] [] rfl ?_;show Tri ..;refine zAa ?_;refine zAb [7,10] [] rfl ?_;obtain⟨hq,h⟩:=zAK h
 refine And.intro (show(([]:List (List S)).length+(Nd.encs n1C).length) * 56<=140737488355328/\([]:List (List S)).length+(Nd.encs n1C).length<=9223372036854775807 from by simp only[List.length_append,List.length_cons,List.length_nil,List.length_map,rlen Nd.encs_eq]at hq ⊢; omega) ?_;show Tri ..
 refine zAj (Le.rnm [(0,0),(3,1),(1,2)] [(1,.s (.int .i64 i2)),(3,.op 0 0),(5,.s (.pt [.int .i64 kid3A,.str kid3B,.int .i64 kid3D,.sl 4 (Nd.encs kid3C)])),(6,.op 2 0)] [(0,.box 24 [.s (.int .i64 n1A),.s (.str n1B),.s (.int .i64 n1D),.orow 1]),(1,.row 24 4 (Nd.encs n1C)),(2,.box 24 [.s (.int .i64 0),.s (.str []),.s (.int .i64 0),.nl 4])] 3 ⟨rfl,rfl,rfl,rfl,trivial⟩ ⟨rfl,⟨_,rfl,rfl⟩,rfl,⟨_,rfl,congrArg (Ob.row 24 4) (by simp[List.map_append,List.map_take,List.map_drop,irow,brow,zAH,List.map_cons,List.map_nil,zAE,Nd.encs_eq,Nd.enc,CV.encs_eq,CV.enc,zAo,zAl,zAA,zAp,zAm,zAr,zAu,zAw,zAi,zAn,zAs])⟩,rfl,⟨_,rfl,rfl⟩,trivial⟩) ?_
 refine zAa ?_;refine zAb [] [] rfl ?_;obtain⟨⟨e4A,e4B,e4D,e4C⟩,he4,h⟩:=zAc h;refine And.intro (zAB Nd.encs_eq he4).1 ?_;have hset5:=(rset (R:=Nd.encs) (f:=Nd.enc) Nd.encs_eq he4 (Nd.mk kid3A kid3B kid3D kid3C) 0 4 [.int .i64 kid3A,.str kid3B,.int .i64 kid3D,.sl 4 (Nd.encs kid3C)] rfl)
 have hat5:=at_set he4 (Nd.mk kid3A kid3B kid3D kid3C)
 refine And.intro (zAB Nd.encs_eq he4).2.2 ?_;show Tri ..;refine zAj (Le.rnm [(0,0),(1,1),(2,2)] [(3,.op 0 0),(6,.op 2 0)] [(0,.box 24 [.s (.int .i64 n1A),.s (.str n1B),.s (.int .i64 n1D),.orow 1]),(1,.row 24 4 (Nd.encs (n1C.set i2.toNat (Nd.mk kid3A kid3B kid3D kid3C)))),(2,.box 24 [.s (.int .i64 0),.s (.str []),.s (.int .i64 0),.nl 4])] 3 ⟨rfl,rfl,trivial⟩ ⟨rfl,⟨_,rfl,rfl⟩,rfl,⟨_,rfl,congrArg (Ob.row 24 4) hset5⟩,rfl,⟨_,rfl,rfl⟩,trivial⟩) ?_;refine zAa ?_;refine zAb [] [] rfl ?_;show Tri ..;refine zAd ?_;have hy:=Option.some.inj h;subst hy;unfold zAt
 exact⟨_,(Le.trans (Le.rnm [(2,0),(1,1)] [(6,.op 0 0)] [(0,.box 24 [.s (.int .i64 n1A),.s (.str n1B),.s (.int .i64 n1D),.orow 1]),(1,.row 24 4 (Nd.encs (n1C.set i2.toNat (Nd.mk kid3A kid3B kid3D kid3C))))] 2 ⟨rfl,trivial⟩ ⟨rfl,⟨_,rfl,rfl⟩,rfl,⟨_,rfl,rfl⟩,trivial⟩) (Le.giveRow 1 rfl)),rfl,rfl⟩
def zOE (xs:List AV) (r:Ret):Prop:=∃ (a0:Nd) (a1:Int) (a2:List Nd) (y0:Nd),zC6 a0 a1 a2=some y0/\xs=[.agg ((Nd.enc a0).map .s),.s (.int .i64 a1),.s (.sl 4 (Nd.encs a2))]/\r = .val (.agg ((Nd.enc y0).map .s))
def zJQ:zAy:=zAx fun xs r=>zOE xs r
theorem zN3:PSound Tryz.prog 159 zJQ:=by
 have gok:∀ f s,look? f [(54,zE7),(160,zFO)]=some s->PSound Tryz.prog f s:=zAv (by
  simp only[List.forall_mem_cons]
  exact⟨zFF,zHi,by simp⟩)
 refine zAz tokW Tryz.call159 Tryz.func159 rfl (fun xs r h=>by obtain⟨_,_,_,_,_,rfl,_⟩:=h; show 3<=14; decide) 14 rfl ?_;rintro xs r w0 G0 ⟨⟨n1A,n1B,n1D,n1C⟩,slot2,l3,y0,h,rfl,rfl⟩ _;rw[zC6]at h;refine zAa ?_;refine zAb [6] [] rfl ?_;show Tri ..;refine zAa ?_;refine zJa [9,11] [] [2,4,5,7] [] rfl (by decide +kernel) ?_;obtain⟨hq,h⟩:=zAK h
 refine And.intro (show(([]:List (List S)).length+(Nd.encs l3).length) * 56<=140737488355328/\([]:List (List S)).length+(Nd.encs l3).length<=9223372036854775807 from by simp only[List.length_append,List.length_cons,List.length_nil,List.length_map,rlen Nd.encs_eq]at hq ⊢; omega) ?_;obtain⟨⟨y4A,y4B,y4D,y4C⟩,hy4,h⟩:=zAc h
 refine⟨_,⟨_,_,hy4,(congrArg (fun r=>[AV.s (.sl 4 r)]) (show[]++(Nd.encs l3)=Nd.encs l3 from(by simp[List.map_append,List.map_take,List.map_drop,irow,brow,zAH,List.map_cons,List.map_nil,zAE,Nd.encs_eq,Nd.enc,CV.encs_eq,CV.enc,zAo,zAl,zAA,zAp,zAm,zAr,zAu,zAw,zAi,zAn,zAs]))),rfl⟩,?_⟩
 obtain⟨⟨y5A,y5B,y5D,y5C⟩,hy5,h⟩:=zAc h;refine⟨_,⟨_,_,_,_,hy5,rfl,rfl⟩,?_⟩
 show Tri ..;refine zAd ?_;have hy:=Option.some.inj h;subst hy;unfold zAt;exact⟨_,Le.refl _ _,rfl,rfl⟩
def zOD (n:Nat) (xs:List AV) (r:Ret):Prop:=∃ (a0:List Nd) (a1:zO8) (y0:List Nd) (y1:Int),zEA n a0 a1=some (y0,y1)/\xs=[.s (.sl 4 (Nd.encs a0)),.agg ((zAr a1).map .s)]/\r = .val (.tup [.s (.sl 4 (Nd.encs y0)),.s (.int .i64 y1)])
def zJP:zAy:=zAx fun xs r=>∃ n,zOD n xs r
theorem zN2:PSound Tryz.prog 117 zJP:=by
 have gok:∀ f s,look? f [(158,zJR),(38,zGT),(159,zJQ),(16,zIa)]=some s->PSound Tryz.prog f s:=zAv (by
  simp only[List.forall_mem_cons]
  exact⟨zN4,zKl,zN3,zJ1,by simp⟩)
 refine zAz tokW Tryz.call117 Tryz.func117 rfl (fun xs r h=>by obtain⟨n,_,_,_,_,_,rfl,_⟩:=h; show 2<=173; decide) 173 rfl ?_;rintro xs r w0 G0 ⟨n,a1,⟨a2A,a2N,a2I,a2M,a2H,a2L,a2O,a2B⟩,y0,y1,h,rfl,rfl⟩ _;rw[zEA]at h;refine zAa ?_;refine zAb [] [] rfl ?_;show Tri ..;refine zAa ?_;refine zAb [] [] rfl ?_;show Tri ..;refine zAa ?_;refine zAa ?_;refine zAb [] [] rfl ?_;show Tri ..;obtain⟨x3,hj,h⟩:=zAc h
 refine zAq ⟨ofL [(0,.s (.sl 4 (Nd.encs a1))),(3,.s (.pt [.int .i64 a2A,.sl 1 ((List.map (irow .i64)) a2N),.int .i64 a2I,.int .i64 a2M,.sl 4 (Nd.encs a2H),.int .i64 a2L,.str a2O,.str a2B])),(6,.s (.int .i64 x3))],fun _=>none,0⟩ ?_ (fun σ' hle=>?_)
 ·replace h:=hj;refine zAk ?_;refine zAa ?_;refine zAb [] [] rfl ?_;show Tri ..;refine zAh rfl h (fun hb h=>?_) (fun hb h=>?_)
  ·refine zAb [] [] rfl ?_;cases h;exact(Le.forget _ ⟨rfl,rfl,rfl,trivial⟩)
  ·refine zAa ?_;refine zAb [] [] rfl ?_;show Tri ..;refine zAh rfl h (fun hb h=>?_) (fun hb h=>?_)
   ·refine zAb [] [17] rfl ?_;intro n4 hn4;obtain rfl:(a2H.length:Int)=n4:=(hn4.trans (congrArg (fun m:Nat=>(m:Int)) (rlen Nd.encs_eq a2H))).symm;cases h;exact(Le.forget _ ⟨rfl,rfl,rfl,trivial⟩)
   ·refine zAa ?_;refine zAb [] [] rfl ?_;show Tri ..;refine zAh rfl h (fun hb h=>?_) (fun hb h=>?_)
    ·refine zAb [] [] rfl ?_;cases h;exact(Le.forget _ ⟨rfl,rfl,rfl,trivial⟩)
    ·refine zAf ?_;cases h;exact(Le.forget _ ⟨rfl,rfl,rfl,trivial⟩)
 ·show Tri ..;refine zAj hle ?_;refine zAa ?_;refine zAa ?_;obtain⟨x5,hj,h⟩:=zAc h;refine zAq ⟨ofL [(0,.s (.sl 4 (Nd.encs a1))),(3,.s (.pt [.int .i64 a2A,.sl 1 ((List.map (irow .i64)) a2N),.int .i64 a2I,.int .i64 a2M,.sl 4 (Nd.encs a2H),.int .i64 a2L,.str a2O,.str a2B])),(6,.s (.int .i64 x3)),(40,.s (.bool x5))],fun _=>none,0⟩ ?_ (fun σ' hle=>?_)
  ·replace h:=hj;refine zAb [] [25,29,32,35] rfl ?_;intro b hb;cases b with
   | true =>
    replace h:=zAD hb.symm h;intro b hb;subst hb;cases h;exact(Le.forget _ ⟨rfl,rfl,rfl,rfl,trivial⟩)
   | false =>
    replace h:=zAC hb.symm h;intro n6 hn6;obtain rfl:(a1.length:Int)=n6:=(hn6.trans (congrArg (fun m:Nat=>(m:Int)) (rlen Nd.encs_eq a1))).symm;intro b hb;cases b with
    | true =>
     replace h:=zAD hb.symm h;cases h;exact(Le.forget _ ⟨rfl,rfl,rfl,rfl,trivial⟩)
    | false =>
     replace h:=zAC hb.symm h;intro n7 hn7;obtain rfl:(a1.length:Int)=n7:=(hn7.trans (congrArg (fun m:Nat=>(m:Int)) (rlen Nd.encs_eq a1))).symm;cases h;exact(Le.forget _ ⟨rfl,rfl,rfl,rfl,trivial⟩)
  ·show Tri ..;refine zAj hle ?_;refine zAh rfl h (fun hb h=>?_) (fun hb h=>?_)
   ·refine zAa ?_;refine zAb [] [] rfl ?_;show Tri ..;refine zAd ?_;obtain⟨hj1,hk1⟩:=pij h;subst hj1 hk1;unfold zAt;exact⟨_,Le.refl _ _,rfl,rfl⟩
   ·refine zAf ?_;show Tri ..;refine zAa ?_;refine zAb [] [] rfl ?_;show Tri ..;refine zAa ?_;refine zAa ?_;refine zAb [] [] rfl ?_;show Tri ..;refine zAk ?_;refine zAa ?_;refine zAb [] [] rfl ?_;show Tri ..;refine zAh rfl h (fun hb h=>?_) (fun hb h=>?_)
    ·refine zAa ?_;refine zAb [] [] rfl ?_;obtain⟨y8,hy8,h⟩:=zAc h;refine⟨_,⟨_,_,_,_,_,hy8,rfl,rfl⟩,?_⟩
     show Tri ..;refine zAd ?_;obtain⟨hj1,hk1⟩:=pij h;subst hj1 hk1;unfold zAt;exact⟨_,Le.refl _ _,rfl,rfl⟩
    ·refine zAa ?_;refine zAb [] [] rfl ?_;show Tri ..;refine zAh rfl h (fun hb h=>?_) (fun hb h=>?_)
     ·refine zAa ?_;refine zAa ?_;refine zA2 [] [62] [] rfl (by decide +kernel) ?_;obtain⟨hq,h⟩:=zAK h;refine And.intro ⟨hq.1,hq.2.1,Int.le_trans hq.2.2 (Int.ofNat_le.2 (Nat.le_of_eq (rlen Nd.encs_eq _).symm))⟩ ?_;intro r9 hr9;obtain rfl:Nd.encs ((a1.take (IntKind.i64.wrap (a2I+x3)).toNat).drop a2I.toNat)=r9:=(hr9.trans (rcut Nd.encs_eq _ _ _)).symm;obtain⟨y10,hy10,h⟩:=zAc h;refine⟨_,⟨_,_,_,_,hy10,rfl,rfl⟩,?_⟩
      show Tri ..;refine zAh rfl h (fun hb h=>?_) (fun hb h=>?_)
      ·refine zAa ?_;refine zAb [] [] rfl ?_;show Tri ..;refine zAd ?_;obtain⟨hj1,hk1⟩:=pij h;subst hj1 hk1;unfold zAt;exact⟨_,Le.refl _ _,rfl,rfl⟩
      ·refine zAf ?_;show Tri ..;refine zAa ?_;refine zAb [] [] rfl ?_;obtain⟨y11,hy11,h⟩:=zAc h;refine⟨_,⟨_,_,_,_,_,hy11,rfl,rfl⟩,?_⟩
       show Tri ..;refine zAd ?_;obtain⟨hj1,hk1⟩:=pij h;subst hj1 hk1;unfold zAt;exact⟨_,Le.refl _ _,rfl,rfl⟩
     ·refine zAa ?_;refine zAb [] [] rfl ?_;show Tri ..;refine zAh rfl h (fun hb h=>?_) (fun hb h=>?_)
      ·refine zAa ?_;refine zA2 [] [80,88,90] [] rfl (by decide +kernel) ?_;obtain⟨⟨e12A,e12B,e12D,e12C⟩,he12,h⟩:=zAc h;refine And.intro (zAB Nd.encs_eq he12).1 ?_;intro r13 hr13;obtain rfl:[.int .i64 e12A,.str e12B,.int .i64 e12D,.sl 4 (Nd.encs e12C)]=r13:=(hr13.trans (zAB Nd.encs_eq he12).2.1).symm;obtain⟨hq,h⟩:=zAK h;refine And.intro ⟨hq.1,hq.2.1,Int.le_trans hq.2.2 (Int.ofNat_le.2 (Nat.le_of_eq (rlen Nd.encs_eq _).symm))⟩ ?_;intro r14 hr14;obtain rfl:Nd.encs ((a1.take (IntKind.i64.wrap (a2I+x3)).toNat).drop a2I.toNat)=r14:=(hr14.trans (rcut Nd.encs_eq _ _ _)).symm
       obtain⟨⟨y15A,y15B,y15D,y15C⟩,hy15,h⟩:=zAc h;refine⟨_,⟨_,_,_,_,hy15,rfl,rfl⟩,?_⟩
       intro r16 hr16;obtain rfl:Nd.encs [Nd.mk y15A y15B y15D y15C]=r16:=(hr16.trans (by simp[List.map_append,List.map_take,List.map_drop,irow,brow,zAH,List.map_cons,List.map_nil,zAE,Nd.encs_eq,Nd.enc,CV.encs_eq,CV.enc,zAo,zAl,zAA,zAp,zAm,zAr,zAu,zAw,zAi,zAn,zAs])).symm;obtain⟨y17,hy17,h⟩:=zAc h;refine⟨_,⟨_,_,_,_,_,hy17,rfl,rfl⟩,?_⟩
       show Tri ..;refine zAd ?_;obtain⟨hj1,hk1⟩:=pij h;subst hj1 hk1;unfold zAt;exact⟨_,Le.refl _ _,rfl,rfl⟩
      ·refine zAf ?_;show Tri ..;refine zAa ?_;refine zAb [8] [95] rfl ?_;obtain⟨⟨e18A,e18B,e18D,e18C⟩,he18,h⟩:=zAc h;refine And.intro (zAB Nd.encs_eq he18).1 ?_;intro r19 hr19;obtain rfl:[.int .i64 e18A,.str e18B,.int .i64 e18D,.sl 4 (Nd.encs e18C)]=r19:=(hr19.trans (zAB Nd.encs_eq he18).2.1).symm;show Tri ..;refine zAa ?_;refine zAa ?_;refine zAb [] [] rfl ?_;show Tri ..;refine zAh rfl h (fun hb h=>?_) (fun hb h=>?_)
       ·refine zAa ?_;refine zAa ?_;obtain⟨x20,hj,h⟩:=zAc h;refine zAq ⟨ofL [(0,.s (.sl 4 (Nd.encs a1))),(3,.s (.pt [.int .i64 a2A,.sl 1 ((List.map (irow .i64)) a2N),.int .i64 a2I,.int .i64 a2M,.sl 4 (Nd.encs a2H),.int .i64 a2L,.str a2O,.str a2B])),(7,.s (.int .i64 (IntKind.i64.wrap (a2I+x3)))),(8,.op 0 0),(137,.s (.bool x20))],ofH [(0,.box 24 [.s (.int .i64 e18A),.s (.str e18B),.s (.int .i64 e18D),.s (.sl 4 (Nd.encs e18C))])],1⟩ ?_ (fun σ' hle=>?_)
        ·replace h:=hj;refine zA2 [] [104,106,111,114,119,123,131] [3,8,20,28] rfl (by decide +kernel) ?_;intro n21 hn21;obtain rfl:(e18C.length:Int)=n21:=(hn21.trans (congrArg (fun m:Nat=>(m:Int)) (rlen Nd.encs_eq e18C))).symm;intro b hb;cases b with
         | true =>
          replace h:=zAD hb.symm h;intro b hb;subst hb;cases h;exact(Le.rnm [(0,0)] _ _ _ ⟨rfl,rfl,rfl,rfl,rfl,trivial⟩ ⟨rfl,⟨_,rfl,rfl⟩,trivial⟩)
         | false =>
          replace h:=zAC hb.symm h;obtain⟨⟨e22A,e22B,e22D,e22C⟩,he22,h⟩:=zAc h;refine And.intro (zAB Nd.encs_eq he22).1 ?_;intro r23 hr23;obtain rfl:[.int .i64 e22A,.str e22B,.int .i64 e22D,.sl 4 (Nd.encs e22C)]=r23:=(hr23.trans (zAB Nd.encs_eq he22).2.1).symm;intro n24 hn24;obtain rfl:(e22C.length:Int)=n24:=(hn24.trans (congrArg (fun m:Nat=>(m:Int)) (rlen Nd.encs_eq e22C))).symm;intro b hb;cases b with
          | true =>
           replace h:=zAD hb.symm h;cases h;exact(Le.rnm [(0,0)] _ _ _ ⟨rfl,rfl,rfl,rfl,rfl,trivial⟩ ⟨rfl,⟨_,rfl,rfl⟩,trivial⟩)
          | false =>
           replace h:=zAC hb.symm h;obtain⟨⟨e25A,e25B,e25D,e25C⟩,he25,h⟩:=zAc h;refine And.intro (zAB Nd.encs_eq he25).1 ?_;intro r26 hr26;obtain rfl:[.int .i64 e25A,.str e25B,.int .i64 e25D,.sl 4 (Nd.encs e25C)]=r26:=(hr26.trans (zAB Nd.encs_eq he25).2.1).symm;obtain⟨⟨e27A,e27B,e27D,e27C⟩,he27,h⟩:=zAc h;refine And.intro (zAB Nd.encs_eq he27).1 ?_;intro r28 hr28;obtain rfl:[.int .i64 e27A,.str e27B,.int .i64 e27D,.sl 4 (Nd.encs e27C)]=r28:=(hr28.trans (zAB Nd.encs_eq he27).2.1).symm;obtain⟨⟨y29A,y29B,y29D,y29C⟩,hy29,h⟩:=zAc h
           refine⟨_,⟨_,_,_,_,hy29,rfl,rfl⟩,?_⟩
           obtain⟨y30,hy30,h⟩:=zAc h;refine⟨_,⟨_,_,_,_,hy30,rfl,rfl⟩,?_⟩
           cases h;exact(Le.rnm [(0,0)] _ _ _ ⟨rfl,rfl,rfl,rfl,rfl,trivial⟩ ⟨rfl,⟨_,rfl,rfl⟩,trivial⟩)
        ·show Tri ..;refine zAj hle ?_;refine zAh rfl h (fun hb h=>?_) (fun hb h=>?_)
         ·refine zAa ?_;refine zAb [] [] rfl ?_;show Tri ..;refine zAd ?_;obtain⟨hj1,hk1⟩:=pij h;subst hj1 hk1;unfold zAt;exact⟨_,Le.refl _ _,rfl,rfl⟩
         ·refine zAf ?_;show Tri ..;refine zAa ?_;refine zA2 [] [146] [5] rfl (by decide +kernel) ?_;obtain⟨⟨e31A,e31B,e31D,e31C⟩,he31,h⟩:=zAc h;refine And.intro (zAB Nd.encs_eq he31).1 ?_;intro r32 hr32;obtain rfl:[.int .i64 e31A,.str e31B,.int .i64 e31D,.sl 4 (Nd.encs e31C)]=r32:=(hr32.trans (zAB Nd.encs_eq he31).2.1).symm;obtain⟨y33,hy33,h⟩:=zAc h;refine⟨_,⟨_,_,_,_,_,hy33,rfl,rfl⟩,?_⟩
          show Tri ..;refine zAd ?_;obtain⟨hj1,hk1⟩:=pij h;subst hj1 hk1;unfold zAt;exact⟨_,Le.refl _ _,rfl,rfl⟩
       ·refine zAf ?_;show Tri ..;refine zAa ?_;refine zAa ?_;refine zAb [] [] rfl ?_;show Tri ..;obtain⟨fl,hj,ho1⟩:=zAc h;refine zBA (fl:=fl) (fun z=>match z with | _=>⟨ofL [],fun _=>none,0⟩) ?_ (fun z σ' hz hle=>?_)
        ·replace h:=hj;refine zAk ?_;refine zAa ?_;refine zAa ?_;refine zAb [] [] rfl ?_;show Tri ..;obtain⟨x34,hj,h⟩:=zAc h;refine zAq ⟨ofL [(0,.s (.sl 4 (Nd.encs a1))),(3,.s (.pt [.int .i64 a2A,.sl 1 ((List.map (irow .i64)) a2N),.int .i64 a2I,.int .i64 a2M,.sl 4 (Nd.encs a2H),.int .i64 a2L,.str a2O,.str a2B])),(7,.s (.int .i64 (IntKind.i64.wrap (a2I+x3)))),(8,.op 0 0),(152,.s (.bool x34))],ofH [(0,.box 24 [.s (.int .i64 e18A),.s (.str e18B),.s (.int .i64 e18D),.s (.sl 4 (Nd.encs e18C))])],1⟩ ?_ (fun σ' hle=>?_)
         ·replace h:=hj;refine zAh rfl h (fun hb h=>?_) (fun hb h=>?_)
          ·refine zAf ?_;cases h;exact(Le.rnm [(0,0)] _ _ _ ⟨rfl,rfl,rfl,rfl,rfl,trivial⟩ ⟨rfl,⟨_,rfl,rfl⟩,trivial⟩)
          ·refine zAa ?_;refine zAb [] [] rfl ?_;show Tri ..;refine zAh rfl h (fun hb h=>?_) (fun hb h=>?_)
           ·refine zAf ?_;cases h;exact(Le.rnm [(0,0)] _ _ _ ⟨rfl,rfl,rfl,rfl,rfl,trivial⟩ ⟨rfl,⟨_,rfl,rfl⟩,trivial⟩)
           ·refine zAa ?_;refine zAb [] [] rfl ?_;show Tri ..;refine zAh rfl h (fun hb h=>?_) (fun hb h=>?_)
            ·refine zAf ?_;cases h;exact(Le.rnm [(0,0)] _ _ _ ⟨rfl,rfl,rfl,rfl,rfl,trivial⟩ ⟨rfl,⟨_,rfl,rfl⟩,trivial⟩)
            ·refine zAa ?_;refine zAb [] [] rfl ?_;show Tri ..;refine zAh rfl h (fun hb h=>?_) (fun hb h=>?_)
             ·refine zAf ?_;cases h;exact(Le.rnm [(0,0)] _ _ _ ⟨rfl,rfl,rfl,rfl,rfl,trivial⟩ ⟨rfl,⟨_,rfl,rfl⟩,trivial⟩)
             ·refine zAb [] [] rfl ?_;cases h;exact(Le.rnm [(0,0)] _ _ _ ⟨rfl,rfl,rfl,rfl,rfl,trivial⟩ ⟨rfl,⟨_,rfl,rfl⟩,trivial⟩)
         ·show Tri ..;refine zAj hle ?_;refine zAh rfl h (fun hb h=>?_) (fun hb h=>?_)
          ·refine zAa ?_;refine zAb [] [] rfl ?_;show Tri ..;refine zAh rfl h (fun hb h=>?_) (fun hb h=>?_)
           ·refine zAa ?_;refine zAb [] [] rfl ?_;show Tri ..;refine zAa ?_;refine zAb [] [171] rfl ?_;intro r35 hr35;obtain rfl:Nd.encs [Nd.mk e18A a2B e18D e18C]=r35:=(hr35.trans (by simp[List.map_append,List.map_take,List.map_drop,irow,brow,zAH,List.map_cons,List.map_nil,zAE,Nd.encs_eq,Nd.enc,CV.encs_eq,CV.enc,zAo,zAl,zAA,zAp,zAm,zAr,zAu,zAw,zAi,zAn,zAs])).symm;obtain⟨y36,hy36,h⟩:=zAc h;refine⟨_,⟨_,_,_,_,_,hy36,rfl,rfl⟩,?_⟩
            show Tri ..;refine zAd ?_;cases h;replace h:some _=some _:=ho1;obtain⟨hj1,hk1⟩:=pij h;subst hj1 hk1;unfold zAt;exact⟨_,Le.refl _ _,rfl,rfl⟩
           ·refine zAf ?_;cases h;exact⟨_,rfl,(Le.rnm [] _ [] 0 trivial trivial)⟩
          ·refine zAf ?_;cases h;exact⟨_,rfl,(Le.rnm [] _ [] 0 trivial trivial)⟩
        ·subst hz;obtain _:=z;replace h:=ho1;show Tri ..;refine zAj hle ?_;refine zAa ?_;refine zAb [] [] rfl ?_;show Tri ..;refine zAd ?_;obtain⟨hj1,hk1⟩:=pij h;subst hj1 hk1;unfold zAt;exact⟨_,Le.refl _ _,rfl,rfl⟩
def zGL (n:Nat) (xs:List AV) (r:Ret):Prop:=∃ (a0:Nd) (a1:List Int) (a2:List Nd) (y0:Nd),zEB n a0 a1 a2=some y0/\xs=[.agg ((Nd.enc a0).map .s),.s (.sl 1 ((List.map (irow .i64)) a1)),.s (.sl 4 (Nd.encs a2))]/\r = .val (.agg ((Nd.enc y0).map .s))
theorem zPX (n:Nat) (ih:PSound Tryz.prog 118 (zAx (zGL n))):PSound Tryz.prog 118 (zAx (zGL (n+1))):=by
 have gok:∀ f s,look? f [(54,zE7),(118,zAx (zGL n)),(160,zFO)]=some s->PSound Tryz.prog f s:=zAv (by
  simp only[List.forall_mem_cons]
  exact⟨zFF,ih,zHi,by simp⟩)
 refine zAz tokW Tryz.call118 Tryz.func118 rfl (fun xs r h=>by obtain⟨_,_,_,_,_,rfl,_⟩:=h; show 3<=41; decide) 41 rfl ?_;rintro xs r w0 G0 ⟨⟨n1A,n1B,n1D,n1C⟩,path2,l3,y0,h,rfl,rfl⟩ _;rw[zEB]at h;refine zAa ?_;refine zAb [6] [] rfl ?_;show Tri ..;refine zAa ?_;refine zAa ?_;refine zAb [] [9] rfl ?_;intro n4 hn4;obtain rfl:(path2.length:Int)=n4:=(hn4.trans (congrArg (fun m:Nat=>(m:Int)) (rlen (fun _=>rfl) path2))).symm;show Tri ..;refine zAh rfl h (fun hb h=>?_) (fun hb h=>?_)
 ·refine zAa ?_;refine zAb [] [] rfl ?_;obtain⟨⟨y5A,y5B,y5D,y5C⟩,hy5,h⟩:=zAc h;refine⟨_,⟨_,_,hy5,rfl,rfl⟩,?_⟩
  show Tri ..;refine zAd ?_;have hy:=Option.some.inj h;subst hy;unfold zAt;exact⟨_,Le.refl _ _,rfl,rfl⟩
 ·refine zAf ?_;show Tri ..;refine zAa ?_;refine zJa [7] [16,18] [7,8] [] rfl (by decide +kernel) ?_;obtain⟨e6,he6,h⟩:=zAc h;refine And.intro (zAB (fun _=>rfl) he6).1 ?_;intro r7 hr7;obtain rfl:[.int .i64 e6]=r7:=(hr7.trans (zAB (fun _=>rfl) he6).2.1).symm;obtain⟨⟨e8A,e8B,e8D,e8C⟩,he8,h⟩:=zAc h;refine And.intro (zAB Nd.encs_eq he8).1 ?_;intro r9 hr9;obtain rfl:[.int .i64 e8A,.str e8B,.int .i64 e8D,.sl 4 (Nd.encs e8C)]=r9:=(hr9.trans (zAB Nd.encs_eq he8).2.1).symm;show Tri ..
  refine zAj (Le.giveBox 1 [.int .i64 e8A,.str e8B,.int .i64 e8D,.sl 4 (Nd.encs e8C)] rfl rfl) ?_;refine zAa ?_;refine zA2 [] [22,26,31,33,36] [21] rfl (by decide +kernel) ?_;obtain⟨e10,he10,h⟩:=zAc h;refine And.intro (zAB (fun _=>rfl) he10).1 ?_;intro r11 hr11;obtain rfl:[.int .i64 e10]=r11:=(hr11.trans (zAB (fun _=>rfl) he10).2.1).symm;obtain⟨e12,he12,h⟩:=zAc h;refine And.intro (zAB (fun _=>rfl) he12).1 ?_;intro r13 hr13;obtain rfl:[.int .i64 e12]=r13:=(hr13.trans (zAB (fun _=>rfl) he12).2.1).symm;obtain⟨e14,he14,h⟩:=zAc h;refine And.intro (zAB (fun _=>rfl) he14).1 ?_;intro r15 hr15
  obtain rfl:[.int .i64 e14]=r15:=(hr15.trans (zAB (fun _=>rfl) he14).2.1).symm;obtain⟨⟨e16A,e16B,e16D,e16C⟩,he16,h⟩:=zAc h;refine And.intro (zAB Nd.encs_eq he16).1 ?_;intro r17 hr17;obtain rfl:[.int .i64 e16A,.str e16B,.int .i64 e16D,.sl 4 (Nd.encs e16C)]=r17:=(hr17.trans (zAB Nd.encs_eq he16).2.1).symm;obtain⟨hq,h⟩:=zAK h;refine And.intro ⟨hq.1,Int.le_trans hq.2.1 (Int.ofNat_le.2 (Nat.le_of_eq (rlen (fun _=>rfl) _).symm)),Int.le_refl _⟩ ?_;intro r18 hr18
  obtain rfl:(List.map (irow .i64)) ((path2.take (path2.length:Int).toNat).drop (2:Int).toNat)=r18:=(hr18.trans ((congrArg (fun m:Nat=>(((List.map (irow .i64)) path2).take m).drop (2:Int).toNat) (rlen (fun _=>rfl) _)).trans (rcut (fun _=>rfl) _ _ _))).symm;obtain⟨⟨y19A,y19B,y19D,y19C⟩,hy19,h⟩:=zAc h;refine⟨_,⟨_,_,_,_,hy19,rfl,rfl⟩,?_⟩
  obtain⟨⟨y20A,y20B,y20D,y20C⟩,hy20,h⟩:=zAc h;refine⟨_,⟨_,_,_,_,hy20,rfl,rfl⟩,?_⟩
  obtain⟨⟨y21A,y21B,y21D,y21C⟩,hy21,h⟩:=zAc h;refine⟨_,⟨_,_,_,_,hy21,rfl,rfl⟩,?_⟩
  show Tri ..;refine zAd ?_;have hy:=Option.some.inj h;subst hy;unfold zAt;exact⟨_,Le.refl _ _,rfl,rfl⟩
theorem zQm:∀ n,PSound Tryz.prog 118 (zAx (zGL n)):=by
 intro n
 induction n with
 | zero=>exact zBq Tryz.call118 (fun xs r h=>by obtain⟨_,_,_,_,h,_⟩:=h; cases h)
 | succ n ih=>exact zPX n ih
def zOM:zAy:=zAx fun xs r=>∃ n,zGL n xs r
theorem zRW:PSound Tryz.prog 118 zOM:=zBM zQm
def zQh (n:Nat) (xs:List AV) (r:Ret):Prop:=∃ (a0:Nd) (a1:zO8) (y0:Nd) (y1:Int),zEi n a0 a1=some (y0,y1)/\xs=[.agg ((Nd.enc a0).map .s),.agg ((zAr a1).map .s)]/\r = .val (.tup [.agg ((Nd.enc y0).map .s),.s (.int .i64 y1)])
def zKQ:zAy:=zAx fun xs r=>∃ n,zQh n xs r
theorem zPB:PSound Tryz.prog 79 zKQ:=by
 have gok:∀ f s,look? f [(35,zDz),(115,zJO),(116,zOI),(117,zJP),(118,zOM)]=some s->PSound Tryz.prog f s:=zAv (by
  simp only[List.forall_mem_cons]
  exact⟨zDP,zN1,zRS,zN2,zRW,by simp⟩)
 refine zAz tokW Tryz.call79 Tryz.func79 rfl (fun xs r h=>by obtain⟨n,_,_,_,_,_,rfl,_⟩:=h; show 2<=50; decide) 50 rfl ?_;rintro xs r w0 G0 ⟨n,⟨n1A,n1B,n1D,n1C⟩,⟨op2A,op2N,op2I,op2M,op2H,op2L,op2O,op2B⟩,y0,y1,h,rfl,rfl⟩ _;rw[zEi]at h;refine zAa ?_;refine zAb [4] [] rfl ?_;show Tri ..;refine zAa ?_;refine zAa ?_;refine zAb [] [] rfl ?_;obtain⟨y3,hy3,h⟩:=zAc h;refine⟨_,⟨_,_,_,hy3,rfl,rfl⟩,?_⟩
 show Tri ..;refine zAh rfl h (fun hb h=>?_) (fun hb h=>?_)
 ·refine zAa ?_;refine zAb [] [] rfl ?_;show Tri ..;refine zAd ?_;obtain⟨hj1,hk1⟩:=pij h;subst hj1 hk1;unfold zAt;exact⟨_,Le.refl _ _,rfl,rfl⟩
 ·refine zAf ?_;show Tri ..;refine zAa ?_;refine zAa ?_;refine zAb [] [] rfl ?_;obtain⟨y4,hy4,h⟩:=zAc h;refine⟨_,⟨_,_,_,hy4,rfl,rfl⟩,?_⟩
  show Tri ..;refine zAh rfl h (fun hb h=>?_) (fun hb h=>?_)
  ·refine zAa ?_;refine zAb [] [] rfl ?_;show Tri ..;refine zAd ?_;obtain⟨hj1,hk1⟩:=pij h;subst hj1 hk1;unfold zAt;exact⟨_,Le.refl _ _,rfl,rfl⟩
  ·refine zAf ?_;show Tri ..;refine zAa ?_;refine zAb [6] [] rfl ?_;obtain⟨⟨⟨y5A,y5B,y5D,y5C⟩,y6⟩,hy5,h⟩:=zAc h;refine⟨_,⟨_,_,_,_,_,hy5,rfl,rfl⟩,?_⟩
   show Tri ..;refine zAj (Le.giveBox 1 [.int .i64 y5A,.str y5B,.int .i64 y5D,.sl 4 (Nd.encs y5C)] rfl rfl) ?_;refine zAa ?_;refine zAa ?_;refine zAb [] [] rfl ?_;show Tri ..;refine zAh rfl h (fun hb h=>?_) (fun hb h=>?_)
   ·refine zAa ?_;refine zAb [] [] rfl ?_;show Tri ..;refine zAd ?_;obtain⟨hj1,hk1⟩:=pij h;subst hj1 hk1;unfold zAt;exact⟨_,Le.refl _ _,rfl,rfl⟩
   ·refine zAf ?_;show Tri ..;refine zAa ?_;refine zAb [] [] rfl ?_;obtain⟨⟨y7,y8⟩,hy7,h⟩:=zAc h;refine⟨_,⟨_,_,_,_,_,hy7,rfl,rfl⟩,?_⟩
    show Tri ..;refine zAa ?_;refine zAa ?_;refine zAb [] [] rfl ?_;show Tri ..;refine zAh rfl h (fun hb h=>?_) (fun hb h=>?_)
    ·refine zAa ?_;refine zAb [] [] rfl ?_;show Tri ..;refine zAd ?_;obtain⟨hj1,hk1⟩:=pij h;subst hj1 hk1;unfold zAt;exact⟨_,Le.refl _ _,rfl,rfl⟩
    ·refine zAf ?_;show Tri ..;refine zAa ?_;refine zAb [9] [] rfl ?_;obtain⟨⟨y9A,y9B,y9D,y9C⟩,hy9,h⟩:=zAc h;refine⟨_,⟨_,_,_,_,_,hy9,rfl,rfl⟩,?_⟩
     show Tri ..;refine zAj (Le.giveBox 2 [.int .i64 y9A,.str y9B,.int .i64 y9D,.sl 4 (Nd.encs y9C)] rfl rfl) ?_;refine zAa ?_;refine zAa ?_;refine zAb [] [] rfl ?_;obtain⟨y10,hy10,h⟩:=zAc h;refine⟨_,⟨_,_,_,hy10,rfl,rfl⟩,?_⟩
     show Tri ..;refine zAh rfl h (fun hb h=>?_) (fun hb h=>?_)
     ·refine zAa ?_;refine zAb [] [] rfl ?_;show Tri ..;refine zAd ?_;obtain⟨hj1,hk1⟩:=pij h;subst hj1 hk1;unfold zAt;exact⟨_,Le.refl _ _,rfl,rfl⟩
     ·refine zAf ?_;show Tri ..;refine zAa ?_;refine zAb [] [] rfl ?_;show Tri ..;refine zAd ?_;obtain⟨hj1,hk1⟩:=pij h;subst hj1 hk1;unfold zAt;exact⟨_,Le.refl _ _,rfl,rfl⟩
def zL9 (n:Nat) (xs:List AV) (r:Ret):Prop:=∃ (a0:Nd) (a1:List zO8) (y0:Nd) (y1:Int) (y2:Int),zCb n a0 a1=some (y0,y1,y2)/\xs=[.agg ((Nd.enc a0).map .s),.s (.sl 8 ((List.map zAr) a1))]/\r = .val (.tup [.agg ((Nd.enc y0).map .s),.s (.int .i64 y1),.s (.int .i64 y2)])
def zFP:zAy:=zAx fun xs r=>∃ n,zL9 n xs r
theorem zHj:PSound Tryz.prog 36 zFP:=by
 have gok:∀ f s,look? f [(35,zDz),(79,zKQ)]=some s->PSound Tryz.prog f s:=zAv (by
  simp only[List.forall_mem_cons]
  exact⟨zDP,zPB,by simp⟩)
 refine zAz tokW Tryz.call36 Tryz.func36 rfl (fun xs r h=>by obtain⟨n,_,_,_,_,_,_,rfl,_⟩:=h; show 2<=36; decide) 36 rfl ?_;rintro xs r w0 G0 ⟨n,⟨n1A,n1B,n1D,n1C⟩,ops2,y0,y1,y2,h,rfl,rfl⟩ _;rw[zCb]at h;refine zAa ?_;refine zAb [2,4] [] rfl ?_;show Tri ..;refine zAa ?_;refine zAa ?_;refine zAb [] [] rfl ?_;obtain⟨y3,hy3,h⟩:=zAc h;refine⟨_,⟨_,_,_,hy3,rfl,rfl⟩,?_⟩
 show Tri ..;refine zAh rfl h (fun hb h=>?_) (fun hb h=>?_)
 ·refine zAa ?_;refine zAb [] [] rfl ?_;show Tri ..;refine zAd ?_;obtain⟨hj1,hk1⟩:=pij h;subst hj1;obtain⟨hj2,hk2⟩:=Prod.mk.inj hk1;subst hj2;subst hk2;unfold zAt;exact⟨_,Le.refl _ _,rfl,rfl⟩
 ·refine zAf ?_;show Tri ..;refine zAa ?_;refine zAa ?_;refine zAb [] [] rfl ?_;show Tri ..;obtain⟨fl,hl,ho1⟩:=zAc h;refine zBA (fl:=fl) (fun z=>match z with | ⟨x10,x11,x12,x13⟩=>⟨ofL [(2,.op 0 0),(4,.op 1 0)],ofH [(0,.box 24 [.s (.int .i64 x10),.s (.str x11),.s (.int .i64 x12),.s (.sl 4 (Nd.encs x13))]),(1,.box 24 [.s (.int .i64 0),.s (.str []),.s (.int .i64 0),.nl 4])],2⟩) ?_ (fun z σ' hz hle=>?_)
  ·refine zAk (zAG (X:=Nat×Int×(List UInt8)×Int×(List Nd)×Int) (fun y=>match y with | (k,x4,x5,x6,x7,i9)=>⟨ofL [(1,.s (.sl 8 ((List.map zAr) ops2))),(2,.op 0 0),(4,.op 1 0),(7,.s (.int .i64 i9))],ofH [(0,.box 24 [.s (.int .i64 x4),.s (.str x5),.s (.int .i64 x6),.s (.sl 4 (Nd.encs x7))]),(1,.box 24 [.s (.int .i64 0),.s (.str []),.s (.int .i64 0),.nl 4])],2⟩) (fun y=>zBp n ops2 y.1 y.2.1 y.2.2.1 y.2.2.2.1 y.2.2.2.2.1 y.2.2.2.2.2=some fl) (fun y=>y.1) (n,n1A,n1B,n1D,n1C,0) hl ?_ ?_)
   ·exact(Le.rnm [(0,0),(1,1)] _ _ _ ⟨rfl,rfl,rfl,rfl,trivial⟩ ⟨rfl,⟨_,rfl,rfl⟩,rfl,⟨_,rfl,rfl⟩,trivial⟩)
   ·rintro⟨k,x4,x5,x6,x7,i9⟩ h;cases k with
    | zero=>cases h
    | succ k =>
     replace h:zBp n ops2 (k+1) x4 x5 x6 x7 i9=some fl:=h;rw[zBp]at h;refine zAa ?_;refine zAa ?_;refine zAb [] [16] rfl ?_;intro n14 hn14;obtain rfl:(ops2.length:Int)=n14:=(hn14.trans (congrArg (fun m:Nat=>(m:Int)) (rlen (fun _=>rfl) ops2))).symm;show Tri ..;refine zAh rfl h (fun hb h=>?_) (fun hb h=>?_)
     ·refine zAf ?_;show Tri ..;refine zAa ?_;refine zAk ?_;refine zAa ?_;refine zJa [8] [24] [0,9,10] [0] rfl (by decide +kernel) ?_;obtain⟨⟨e15A,e15N,e15I,e15M,e15H,e15L,e15O,e15B⟩,he15,h⟩:=zAc h;refine And.intro (zAB (fun _=>rfl) he15).1 ?_;intro r16 hr16;obtain rfl:[.int .i64 e15A,.sl 1 ((List.map (irow .i64)) e15N),.int .i64 e15I,.int .i64 e15M,.sl 4 (Nd.encs e15H),.int .i64 e15L,.str e15O,.str e15B]=r16:=(hr16.trans (zAB (fun _=>rfl) he15).2.1).symm;obtain⟨⟨⟨y17A,y17B,y17D,y17C⟩,y18⟩,hy17,h⟩:=zAc h
      refine⟨_,⟨_,_,_,_,_,hy17,rfl,rfl⟩,?_⟩
      show Tri ..;refine zAj (Le.giveBox 2 [.int .i64 y17A,.str y17B,.int .i64 y17D,.sl 4 (Nd.encs y17C)] rfl rfl) ?_;refine zAa ?_;refine zAa ?_;refine zAb [] [] rfl ?_;show Tri ..;refine zAh rfl h (fun hb h=>?_) (fun hb h=>?_)
      ·refine zAa ?_;refine zAb [] [] rfl ?_;show Tri ..;refine zAd ?_;cases h;replace h:some _=some _:=ho1;obtain⟨hj1,hk1⟩:=pij h;subst hj1;obtain⟨hj2,hk2⟩:=Prod.mk.inj hk1;subst hj2;subst hk2;unfold zAt;exact⟨_,Le.refl _ _,rfl,rfl⟩
      ·refine zAf ?_;show Tri ..;refine zAb [] [] rfl ?_;show Tri ..;refine zAb [] [] rfl ?_;refine⟨(k,y17A,y17B,y17D,y17C,IntKind.i64.wrap (i9+1)),h,(Le.rnm [(0,0),(1,1)] _ _ _ ⟨rfl,rfl,rfl,rfl,trivial⟩ ⟨rfl,⟨_,rfl,rfl⟩,rfl,⟨_,rfl,rfl⟩,trivial⟩),Nat.lt_succ_self k⟩
     ·refine zAI ?_;cases h;exact⟨_,rfl,(Le.rnm [(0,0),(1,1)] _ _ _ ⟨rfl,rfl,trivial⟩ ⟨rfl,⟨_,rfl,rfl⟩,rfl,⟨_,rfl,rfl⟩,trivial⟩)⟩
  ·subst hz;obtain⟨x10,x11,x12,x13⟩:=z;replace h:=ho1;show Tri ..;refine zAj hle ?_;refine zAa ?_;refine zAb [] [] rfl ?_;show Tri ..;refine zAd ?_;obtain⟨hj1,hk1⟩:=pij h;subst hj1;obtain⟨hj2,hk2⟩:=Prod.mk.inj hk1;subst hj2;subst hk2;unfold zAt;exact⟨_,Le.refl _ _,rfl,rfl⟩
def zAZ (p:List Int):List S:=[.sl 1 ((List.map (irow .i64)) p)]
def zGK (n:Nat) (xs:List AV) (r:Ret):Prop:=∃ (a0:Nd) (a1:List Int) (y0:List (List Int)),zC3 n a0 a1=some y0/\xs=[.agg ((Nd.enc a0).map .s),.s (.sl 1 ((List.map (irow .i64)) a1))]/\r = .row 56 1 ((List.map zAZ) y0)
theorem zPW (n:Nat) (ih:PSound Tryz.prog 189 (zAx (zGK n))):PSound Tryz.prog 189 (zAx (zGK (n+1))):=by
 have gok:∀ f s,look? f [(189,zAx (zGK n))]=some s->PSound Tryz.prog f s:=zAv (by
  simp only[List.forall_mem_cons]
  exact⟨ih,by simp⟩)
 refine zAz tokW Tryz.call189 Tryz.func189 rfl (fun xs r h=>by obtain⟨_,_,_,_,rfl,_⟩:=h; show 2<=60; decide) 60 rfl ?_;rintro xs r w0 G0 ⟨⟨row1A,row1B,row1D,row1C⟩,path2,y0,h,rfl,rfl⟩ _;rw[zC3]at h;refine zAa ?_;refine zAb [4] [] rfl ?_;show Tri ..;refine zAj (Le.rnm [] [(1,.s (.sl 1 ((List.map (irow .i64)) path2))),(2,.s (.pt [.int .i64 row1A,.str row1B,.int .i64 row1D,.sl 4 (Nd.encs row1C)]))] [] 0 ⟨rfl,rfl,trivial⟩ trivial) ?_;refine zAa ?_;refine zAb [5] [] rfl ?_;show Tri ..
 refine zAj (Le.rnm [(0,0)] [(1,.s (.sl 1 ((List.map (irow .i64)) path2))),(2,.s (.pt [.int .i64 row1A,.str row1B,.int .i64 row1D,.sl 4 (Nd.encs row1C)])),(5,.orow 0)] [(0,.row 56 1 ((List.map zAZ) []))] 1 ⟨rfl,rfl,rfl,trivial⟩ ⟨rfl,⟨_,rfl,congrArg (Ob.row 56 1) (by simp[List.map_append,List.map_take,List.map_drop,irow,brow,zAH,List.map_cons,List.map_nil,zAE,Nd.encs_eq,Nd.enc,CV.encs_eq,CV.enc,zAo,zAl,zAA,zAp,zAm,zAr,zAu,zAw,zAi,zAn,zAs,zAZ])⟩,trivial⟩) ?_;refine zAa ?_
 refine zAa ?_;refine zAb [] [] rfl ?_;show Tri ..;obtain⟨l6,hl,h⟩:=zAc h;refine zAq ⟨ofL [(5,.orow 0)],ofH [(0,.row 56 1 ((List.map zAZ) l6))],1⟩ ?_ (fun σ' hle=>?_)
 ·refine zAk (zAG (X:=Nat×Int×(List (List Int))) (fun y=>match y with | (k,i4,l5)=>⟨ofL [(1,.s (.sl 1 ((List.map (irow .i64)) path2))),(2,.s (.pt [.int .i64 row1A,.str row1B,.int .i64 row1D,.sl 4 (Nd.encs row1C)])),(5,.orow 0),(6,.s (.int .i64 i4))],ofH [(0,.row 56 1 ((List.map zAZ) l5))],1⟩) (fun y=>zC4 (zC3 n) n row1C path2 y.1 y.2.1 y.2.2=some l6) (fun y=>y.1) (n,0,[]) hl ?_ ?_)
  ·exact(Le.rnm [(0,0)] _ _ _ ⟨rfl,rfl,rfl,rfl,trivial⟩ ⟨rfl,⟨_,rfl,rfl⟩,trivial⟩)
  ·rintro⟨k,i4,l5⟩ h;cases k with
   | zero=>cases h
   | succ k =>
    replace h:zC4 (zC3 n) n row1C path2 (k+1) i4 l5=some l6:=h;rw[zC4]at h;refine zAa ?_;refine zAa ?_;refine zAb [] [11] rfl ?_;intro n7 hn7;obtain rfl:(row1C.length:Int)=n7:=(hn7.trans (congrArg (fun m:Nat=>(m:Int)) (rlen Nd.encs_eq row1C))).symm;show Tri ..;refine zAh rfl h (fun hb h=>?_) (fun hb h=>?_)
    ·refine zAf ?_;show Tri ..;refine zAa ?_;refine zAk ?_;refine zAa ?_;refine zAj (Le.toA 0 rfl) ?_;obtain⟨y9,hy9,h⟩:=zAc h;obtain⟨hqp,hyq⟩:=zAK hy9;replace hyq:=Option.some.inj hyq;rw[List.length_singleton]at hqp;refine zAb [16,18,21,22,23] [20] rfl ?_;refine And.intro (show((0:Nat)+((List.map (irow .i64)) path2).length) * 8<=140737488355328/\(0:Nat)+((List.map (irow .i64)) path2).length<=9223372036854775807 by rw[List.length_map]; omega) ?_;intro r8 hr8;have hl1:r8.length=1:=by rw[hr8]; rfl
     refine And.intro (show(([]++((List.map (irow .i64)) path2)).length+r8.length) * 8<=140737488355328/\([]++((List.map (irow .i64)) path2)).length+r8.length<=9223372036854775807 by rw[hl1,List.nil_append,List.length_map]; omega) ?_
     clear hl1
     obtain rfl:(List.map (irow .i64)) [i4]=r8:=(hr8.trans (by simp[List.map_append,List.map_take,List.map_drop,irow,brow,zAH,List.map_cons,List.map_nil,zAE,Nd.encs_eq,Nd.enc,CV.encs_eq,CV.enc,zAo,zAl,zAA,zAp,zAm,zAr,zAu,zAw,zAi,zAn,zAs,zAZ])).symm;obtain⟨hq,h⟩:=zAK h
     refine And.intro (show((((List.map zAZ) l5).map (·.map AV.s)).length+1) * 24<=140737488355328/\(((List.map zAZ) l5).map (·.map AV.s)).length+1<=9223372036854775807 by rw[List.length_map,List.length_map]; simp only[List.length_cons,List.length_nil]at hq; omega) ?_;show Tri ..;refine zAj (Le.giveRow 3 rfl) ?_;refine zAj (Le.ofA 5 ((List.map zAZ) (l5++[y9])) rfl (by rw[← hyq,List.map_append,List.map_append,zRI]; exact zI8 (zRs _) (show some [[S.sl 1 ([]++(List.map (irow .i64)) path2++(List.map (irow .i64)) [i4])]]=some ((List.map zAZ) [path2++[i4]]) by simp[zAZ]))) ?_
     refine zAj (Le.rnm [(5,0)] [(1,.s (.sl 1 ((List.map (irow .i64)) path2))),(2,.s (.pt [.int .i64 row1A,.str row1B,.int .i64 row1D,.sl 4 (Nd.encs row1C)])),(5,.orow 0),(6,.s (.int .i64 i4))] [(0,.row 56 1 ((List.map zAZ) (l5++[y9])))] 1 ⟨rfl,rfl,rfl,rfl,trivial⟩ ⟨rfl,⟨_,rfl,congrArg (Ob.row 56 1) (by simp[List.map_append,List.map_take,List.map_drop,irow,brow,zAH,List.map_cons,List.map_nil,zAE,Nd.encs_eq,Nd.enc,CV.encs_eq,CV.enc,zAo,zAl,zAA,zAp,zAm,zAr,zAu,zAw,zAi,zAn,zAs,zAZ])⟩,trivial⟩) ?_
     refine zAa ?_;refine zAa ?_;refine zAb [] [27] rfl ?_;intro n11 hn11;obtain rfl:(row1C.length:Int)=n11:=(hn11.trans (congrArg (fun m:Nat=>(m:Int)) (rlen Nd.encs_eq row1C))).symm;show Tri ..;refine zAh rfl h (fun hb h=>?_) (fun hb h=>?_)
     ·refine zAI ?_;cases h;exact(Le.rnm [(0,0)] _ _ _ ⟨rfl,trivial⟩ ⟨rfl,⟨_,rfl,rfl⟩,trivial⟩)
     ·refine zAf ?_;show Tri ..;refine zAa ?_;refine zAb [] [] rfl ?_;show Tri ..;obtain⟨l15,hl,h⟩:=zAc h;refine zAq ⟨ofL [(1,.s (.sl 1 ((List.map (irow .i64)) path2))),(2,.s (.pt [.int .i64 row1A,.str row1B,.int .i64 row1D,.sl 4 (Nd.encs row1C)])),(5,.orow 0),(6,.s (.int .i64 i4))],ofH [(0,.row 56 1 ((List.map zAZ) l15))],1⟩ ?_ (fun σ' hle=>?_)
      ·refine zAk (zAG (X:=Nat×Int×(List (List Int))) (fun y=>match y with | (k,k13,l14)=>⟨ofL [(1,.s (.sl 1 ((List.map (irow .i64)) path2))),(2,.s (.pt [.int .i64 row1A,.str row1B,.int .i64 row1D,.sl 4 (Nd.encs row1C)])),(5,.orow 0),(6,.s (.int .i64 i4)),(7,.s (.int .i64 k13))],ofH [(0,.row 56 1 ((List.map zAZ) l14))],1⟩) (fun y=>zC5 (zC3 n) row1C path2 i4 y.1 y.2.1 y.2.2=some l15) (fun y=>y.1) (n,0,l5++[y9]) hl ?_ ?_)
       ·exact(Le.rnm [(0,0)] _ _ _ ⟨rfl,rfl,rfl,rfl,rfl,trivial⟩ ⟨rfl,⟨_,rfl,rfl⟩,trivial⟩)
       ·rintro⟨k,k13,l14⟩ h;cases k with
        | zero=>cases h
        | succ k =>
         replace h:zC5 (zC3 n) row1C path2 i4 (k+1) k13 l14=some l15:=h;rw[zC5]at h;refine zAa ?_;refine zAa ?_;refine zAb [] [33,36] rfl ?_;obtain⟨⟨e16A,e16B,e16D,e16C⟩,he16,h⟩:=zAc h;refine And.intro (zAB Nd.encs_eq he16).1 ?_;intro r17 hr17;obtain rfl:[.int .i64 e16A,.str e16B,.int .i64 e16D,.sl 4 (Nd.encs e16C)]=r17:=(hr17.trans (zAB Nd.encs_eq he16).2.1).symm;intro n18 hn18;obtain rfl:(e16C.length:Int)=n18:=(hn18.trans (congrArg (fun m:Nat=>(m:Int)) (rlen Nd.encs_eq e16C))).symm;show Tri ..;refine zAh rfl h (fun hb h=>?_) (fun hb h=>?_)
         ·refine zAf ?_;show Tri ..;refine zAa ?_;refine zAk ?_;refine zJa [50,52,56,58] [44,48,55] [10,12,16,17,18] [] rfl (by decide +kernel) ?_;obtain⟨⟨e19A,e19B,e19D,e19C⟩,he19,h⟩:=zAc h;refine And.intro (zAB Nd.encs_eq he19).1 ?_;intro r20 hr20;obtain rfl:[.int .i64 e19A,.str e19B,.int .i64 e19D,.sl 4 (Nd.encs e19C)]=r20:=(hr20.trans (zAB Nd.encs_eq he19).2.1).symm;obtain⟨⟨e21A,e21B,e21D,e21C⟩,he21,h⟩:=zAc h;refine And.intro (zAB Nd.encs_eq he21).1 ?_;intro r22 hr22
          obtain rfl:[.int .i64 e21A,.str e21B,.int .i64 e21D,.sl 4 (Nd.encs e21C)]=r22:=(hr22.trans (zAB Nd.encs_eq he21).2.1).symm;obtain⟨hq,h⟩:=zAK h;refine And.intro (show(([]:List (List S)).length+((List.map (irow .i64)) path2).length) * 8<=140737488355328/\([]:List (List S)).length+((List.map (irow .i64)) path2).length<=9223372036854775807 from by simp only[List.length_append,List.length_cons,List.length_nil,List.length_map,rlen (fun _=>rfl)]at hq ⊢; omega) ?_;intro r23 hr23;have hl2:r23.length=2 :=(by rw[hr23]; rfl);obtain⟨hq,h⟩:=zAK h
          refine And.intro (show((([]:List (List S))++((List.map (irow .i64)) path2)).length+r23.length) * 8<=140737488355328/\(([]:List (List S))++((List.map (irow .i64)) path2)).length+r23.length<=9223372036854775807 from by rw[hl2]; simp only[List.length_append,List.length_cons,List.length_nil,List.length_map]at hq ⊢; omega) ?_
          clear hl2
          obtain rfl:(List.map (irow .i64)) [i4,k13]=r23:=(hr23.trans (by simp[List.map_append,List.map_take,List.map_drop,irow,brow,zAH,List.map_cons,List.map_nil,zAE,Nd.encs_eq,Nd.enc,CV.encs_eq,CV.enc,zAo,zAl,zAA,zAp,zAm,zAr,zAu,zAw,zAi,zAn,zAs,zAZ])).symm;obtain⟨y24,hy24,h⟩:=zAc h
          refine⟨_,⟨_,_,_,hy24,(congrArg (fun r=>[(AV.agg [.s (.int .i64 e21A),.s (.str e21B),.s (.int .i64 e21D),.s (.sl 4 (Nd.encs e21C))]),AV.s (.sl 1 r)]) (show([]++((List.map (irow .i64)) path2))++((List.map (irow .i64)) [i4,k13])=(List.map (irow .i64)) (path2++[i4,k13]) from(by simp[List.map_append,List.map_take,List.map_drop,irow,brow,zAH,List.map_cons,List.map_nil,zAE,Nd.encs_eq,Nd.enc,CV.encs_eq,CV.enc,zAo,zAl,zAA,zAp,zAm,zAr,zAu,zAw,zAi,zAn,zAs,zAZ]))),rfl⟩,?_⟩
          obtain⟨hq,h⟩:=zAK h;refine And.intro (show(((List.map zAZ) l14).length+((List.map zAZ) y24).length) * 24<=140737488355328/\((List.map zAZ) l14).length+((List.map zAZ) y24).length<=9223372036854775807 from by simp only[List.length_append,List.length_cons,List.length_nil,List.length_map,rlen (fun _=>rfl)]at hq ⊢; omega) ?_;show Tri ..
          refine zAj (Le.rnm [(4,0)] [(1,.s (.sl 1 ((List.map (irow .i64)) path2))),(2,.s (.pt [.int .i64 row1A,.str row1B,.int .i64 row1D,.sl 4 (Nd.encs row1C)])),(5,.orow 0),(6,.s (.int .i64 i4)),(7,.s (.int .i64 k13))] [(0,.row 56 1 ((List.map zAZ) (l14++y24)))] 1 ⟨rfl,rfl,rfl,rfl,rfl,trivial⟩ ⟨rfl,⟨_,rfl,congrArg (Ob.row 56 1) (by simp[List.map_append,List.map_take,List.map_drop,irow,brow,zAH,List.map_cons,List.map_nil,zAE,Nd.encs_eq,Nd.enc,CV.encs_eq,CV.enc,zAo,zAl,zAA,zAp,zAm,zAr,zAu,zAw,zAi,zAn,zAs,zAZ])⟩,trivial⟩) ?_
          refine zAb [] [] rfl ?_;refine⟨(k,IntKind.i64.wrap (k13+1),l14++y24),h,(Le.rnm [(0,0)] _ _ _ ⟨rfl,rfl,rfl,rfl,rfl,trivial⟩ ⟨rfl,⟨_,rfl,rfl⟩,trivial⟩),Nat.lt_succ_self k⟩
         ·refine zAI ?_;cases h;exact(Le.rnm [(0,0)] _ _ _ ⟨rfl,rfl,rfl,rfl,trivial⟩ ⟨rfl,⟨_,rfl,rfl⟩,trivial⟩)
      ·show Tri ..;refine zAj hle ?_;refine zAb [] [] rfl ?_;refine⟨(k,IntKind.i64.wrap (i4+1),l15),h,(Le.rnm [(0,0)] _ _ _ ⟨rfl,rfl,rfl,rfl,trivial⟩ ⟨rfl,⟨_,rfl,rfl⟩,trivial⟩),Nat.lt_succ_self k⟩
    ·refine zAI ?_;cases h;exact(Le.rnm [(0,0)] _ _ _ ⟨rfl,trivial⟩ ⟨rfl,⟨_,rfl,rfl⟩,trivial⟩)
 ·show Tri ..;refine zAj hle ?_;refine zAa ?_;refine zAb [] [] rfl ?_;show Tri ..;refine zAd ?_;have hy:=Option.some.inj h;subst hy;unfold zAt;exact⟨_,Le.refl _ _,0,rfl,rfl⟩
theorem zQl:∀ n,PSound Tryz.prog 189 (zAx (zGK n)):=by
 intro n
 induction n with
 | zero=>exact zBq Tryz.call189 (fun xs r h=>by obtain⟨_,_,_,h,_⟩:=h; cases h)
 | succ n ih=>exact zPW n ih
def zOK:zAy:=zAx fun xs r=>∃ n,zGK n xs r
theorem zRU:PSound Tryz.prog 189 zOK:=zBM zQl
def zSd (n:Nat) (xs:List AV) (r:Ret):Prop:=∃ (a0:Nd) (y0:List (List Int)) (y1:Int),zG6 n a0=some (y0,y1)/\xs=[.agg ((Nd.enc a0).map .s)]/\r = .val (.tup [.s (.sl 1 ((List.map zAZ) y0)),.s (.int .i64 y1)])
def zOJ:zAy:=zAx fun xs r=>∃ n,zSd n xs r
theorem zRT:PSound Tryz.prog 161 zOJ:=by
 have gok:∀ f s,look? f [(35,zDz),(189,zOK)]=some s->PSound Tryz.prog f s:=zAv (by
  simp only[List.forall_mem_cons]
  exact⟨zDP,zRU,by simp⟩)
 refine zAz tokW Tryz.call161 Tryz.func161 rfl (fun xs r h=>by obtain⟨n,_,_,_,_,rfl,_⟩:=h; show 1<=9; decide) 9 rfl ?_;rintro xs r w0 G0 ⟨n,⟨n1A,n1B,n1D,n1C⟩,y0,y1,h,rfl,rfl⟩ _;rw[zG6]at h;refine zAa ?_;refine zAb [] [] rfl ?_;show Tri ..;refine zAa ?_;refine zAa ?_;refine zAb [] [] rfl ?_;obtain⟨y2,hy2,h⟩:=zAc h;refine⟨_,⟨_,_,_,hy2,rfl,rfl⟩,?_⟩
 show Tri ..;refine zAh rfl h (fun hb h=>?_) (fun hb h=>?_)
 ·refine zAa ?_;refine zAb [] [] rfl ?_;show Tri ..;refine zAd ?_;obtain⟨hj1,hk1⟩:=pij h;subst hj1 hk1;unfold zAt;exact⟨_,Le.refl _ _,rfl,rfl⟩
 ·refine zAf ?_;show Tri ..;refine zAa ?_;refine zAb [] [] rfl ?_;obtain⟨y3,hy3,h⟩:=zAc h;refine⟨_,⟨_,_,_,_,hy3,rfl,rfl⟩,?_⟩
  show Tri ..;refine zAd ?_;obtain⟨hj1,hk1⟩:=pij h;subst hj1 hk1;unfold zAt;exact⟨_,Le.refl _ _,rfl,rfl⟩
def zNw (n:Nat) (xs:List AV) (r:Ret):Prop:=∃ (a0:List Int) (a1:List Int) (y0:Int),zD3 n a0 a1=some y0/\xs=[.s (.sl 1 ((List.map (irow .i64)) a0)),.s (.sl 1 ((List.map (irow .i64)) a1))]/\r = .val (.s (.int .i64 y0))
def zIM:zAy:=zAx fun xs r=>∃ n,zNw n xs r
theorem zMq:PSound Tryz.prog 162 zIM:=by
 have gok:=@gok0 Tryz.prog;refine zAz tokW Tryz.call162 Tryz.func162 rfl (fun xs r h=>by obtain⟨n,_,_,_,_,rfl,_⟩:=h; show 2<=48; decide) 48 rfl ?_;rintro xs r w0 G0 ⟨n,a1,b2,y0,h,rfl,rfl⟩ _;rw[zD3]at h;refine zAa ?_;refine zAb [] [] rfl ?_;show Tri ..;refine zAa ?_;refine zAa ?_;refine zAb [] [] rfl ?_;show Tri ..;obtain⟨fl,hl,ho1⟩:=zAc h;refine zBA (fl:=fl) (fun z=>match z with | _=>⟨ofL [(0,.s (.sl 1 ((List.map (irow .i64)) a1))),(1,.s (.sl 1 ((List.map (irow .i64)) b2)))],fun _=>none,0⟩) ?_ (fun z σ' hz hle=>?_)
 ·refine zAk (zAG (X:=Nat×Int) (fun y=>match y with | (k,i3)=>⟨ofL [(0,.s (.sl 1 ((List.map (irow .i64)) a1))),(1,.s (.sl 1 ((List.map (irow .i64)) b2))),(5,.s (.int .i64 i3))],fun _=>none,0⟩) (fun y=>zBD a1 b2 y.1 y.2=some fl) (fun y=>y.1) (n,0) hl ?_ ?_)
  ·exact(Le.forget _ ⟨rfl,rfl,rfl,trivial⟩)
  ·rintro⟨k,i3⟩ h;cases k with
   | zero=>cases h
   | succ k =>
    replace h:zBD a1 b2 (k+1) i3=some fl:=h;rw[zBD]at h;refine zAa ?_;refine zAa ?_;obtain⟨x4,hj,h⟩:=zAc h;refine zAq ⟨ofL [(0,.s (.sl 1 ((List.map (irow .i64)) a1))),(1,.s (.sl 1 ((List.map (irow .i64)) b2))),(5,.s (.int .i64 i3)),(15,.s (.bool x4))],fun _=>none,0⟩ ?_ (fun σ' hle=>?_)
    ·replace h:=hj;refine zAb [] [8,10,13] rfl ?_;intro n5 hn5;obtain rfl:(a1.length:Int)=n5:=(hn5.trans (congrArg (fun m:Nat=>(m:Int)) (rlen (fun _=>rfl) a1))).symm;intro b hb;cases b with
     | true =>
      replace h:=zAD hb.symm h;intro n6 hn6;obtain rfl:(b2.length:Int)=n6:=(hn6.trans (congrArg (fun m:Nat=>(m:Int)) (rlen (fun _=>rfl) b2))).symm;cases h;exact(Le.forget _ ⟨rfl,rfl,rfl,rfl,trivial⟩)
     | false =>
      replace h:=zAC hb.symm h;cases h;exact(Le.forget _ ⟨rfl,rfl,rfl,rfl,trivial⟩)
    ·show Tri ..;refine zAj hle ?_;refine zAh rfl h (fun hb h=>?_) (fun hb h=>?_)
     ·refine zAf ?_;show Tri ..;refine zAa ?_;refine zAk ?_;refine zAa ?_;refine zAa ?_;refine zA2 [] [20,24] [] rfl (by decide +kernel) ?_;obtain⟨e7,he7,h⟩:=zAc h;refine And.intro (zAB (fun _=>rfl) he7).1 ?_;intro r8 hr8;obtain rfl:[.int .i64 e7]=r8:=(hr8.trans (zAB (fun _=>rfl) he7).2.1).symm;obtain⟨e9,he9,h⟩:=zAc h;refine And.intro (zAB (fun _=>rfl) he9).1 ?_;intro r10 hr10;obtain rfl:[.int .i64 e9]=r10:=(hr10.trans (zAB (fun _=>rfl) he9).2.1).symm;show Tri ..;refine zAh rfl h (fun hb h=>?_) (fun hb h=>?_)
      ·refine zAa ?_;refine zAb [] [] rfl ?_;show Tri ..;refine zAd ?_;cases h;replace h:some _=some _:=ho1;have hy:=Option.some.inj h;subst hy;unfold zAt;exact⟨_,Le.refl _ _,rfl,rfl⟩
      ·refine zAf ?_;show Tri ..;refine zAa ?_;refine zA2 [] [29,33] [] rfl (by decide +kernel) ?_;obtain⟨e11,he11,h⟩:=zAc h;refine And.intro (zAB (fun _=>rfl) he11).1 ?_;intro r12 hr12;obtain rfl:[.int .i64 e11]=r12:=(hr12.trans (zAB (fun _=>rfl) he11).2.1).symm;obtain⟨e13,he13,h⟩:=zAc h;refine And.intro (zAB (fun _=>rfl) he13).1 ?_;intro r14 hr14;obtain rfl:[.int .i64 e13]=r14:=(hr14.trans (zAB (fun _=>rfl) he13).2.1).symm;show Tri ..;refine zAh rfl h (fun hb h=>?_) (fun hb h=>?_)
       ·refine zAa ?_;refine zAb [] [] rfl ?_;show Tri ..;refine zAd ?_;cases h;replace h:some _=some _:=ho1;have hy:=Option.some.inj h;subst hy;unfold zAt;exact⟨_,Le.refl _ _,rfl,rfl⟩
       ·refine zAf ?_;show Tri ..;refine zAb [] [] rfl ?_;refine⟨(k,IntKind.i64.wrap (i3+1)),h,(Le.forget _ ⟨rfl,rfl,rfl,trivial⟩),Nat.lt_succ_self k⟩
     ·refine zAI ?_;cases h;exact⟨_,rfl,(Le.forget _ ⟨rfl,rfl,trivial⟩)⟩
 ·subst hz;obtain _:=z;replace h:=ho1;show Tri ..;refine zAj hle ?_;refine zAa ?_;refine zAk ?_;refine zAa ?_;refine zAb [] [38,40] rfl ?_;intro n15 hn15;obtain rfl:(a1.length:Int)=n15:=(hn15.trans (congrArg (fun m:Nat=>(m:Int)) (rlen (fun _=>rfl) a1))).symm;intro n16 hn16;obtain rfl:(b2.length:Int)=n16:=(hn16.trans (congrArg (fun m:Nat=>(m:Int)) (rlen (fun _=>rfl) b2))).symm;show Tri ..;refine zAh rfl h (fun hb h=>?_) (fun hb h=>?_)
  ·refine zAa ?_;refine zAb [] [] rfl ?_;show Tri ..;refine zAd ?_;have hy:=Option.some.inj h;subst hy;unfold zAt;exact⟨_,Le.refl _ _,rfl,rfl⟩
  ·refine zAa ?_;refine zAb [] [44,46] rfl ?_;intro n17 hn17;obtain rfl:(a1.length:Int)=n17:=(hn17.trans (congrArg (fun m:Nat=>(m:Int)) (rlen (fun _=>rfl) a1))).symm;intro n18 hn18;obtain rfl:(b2.length:Int)=n18:=(hn18.trans (congrArg (fun m:Nat=>(m:Int)) (rlen (fun _=>rfl) b2))).symm;show Tri ..;refine zAh rfl h (fun hb h=>?_) (fun hb h=>?_)
   ·refine zAa ?_;refine zAb [] [] rfl ?_;show Tri ..;refine zAd ?_;have hy:=Option.some.inj h;subst hy;unfold zAt;exact⟨_,Le.refl _ _,rfl,rfl⟩
   ·refine zAf ?_;show Tri ..;refine zAa ?_;refine zAb [] [] rfl ?_;show Tri ..;refine zAd ?_;have hy:=Option.some.inj h;subst hy;unfold zAt;exact⟨_,Le.refl _ _,rfl,rfl⟩
def zQf (n:Nat) (xs:List AV) (r:Ret):Prop:=∃ (a0:Nd) (a1:List Int) (y0:Int) (y1:Int),zEh n a0 a1=some (y0,y1)/\xs=[.agg ((Nd.enc a0).map .s),.s (.sl 1 ((List.map (irow .i64)) a1))]/\r = .val (.tup [.s (.int .i64 y0),.s (.int .i64 y1)])
def zKO:zAy:=zAx fun xs r=>∃ n,zQf n xs r
theorem zPz:PSound Tryz.prog 119 zKO:=by
 have gok:∀ f s,look? f [(161,zOJ),(162,zIM)]=some s->PSound Tryz.prog f s:=zAv (by
  simp only[List.forall_mem_cons]
  exact⟨zRT,zMq,by simp⟩)
 refine zAz tokW Tryz.call119 Tryz.func119 rfl (fun xs r h=>by obtain⟨n,_,_,_,_,_,rfl,_⟩:=h; show 2<=31; decide) 31 rfl ?_;rintro xs r w0 G0 ⟨n,⟨n1A,n1B,n1D,n1C⟩,pos2,y0,y1,h,rfl,rfl⟩ _;rw[zEh]at h;refine zAa ?_;refine zAb [] [] rfl ?_;show Tri ..;refine zAa ?_;refine zAb [] [] rfl ?_;obtain⟨⟨y3,y4⟩,hy3,h⟩:=zAc h;refine⟨_,⟨_,_,_,_,hy3,rfl,rfl⟩,?_⟩
 show Tri ..;refine zAa ?_;refine zAa ?_;refine zAb [] [] rfl ?_;show Tri ..;refine zAh rfl h (fun hb h=>?_) (fun hb h=>?_)
 ·refine zAa ?_;refine zAb [] [] rfl ?_;show Tri ..;refine zAd ?_;obtain⟨hj1,hk1⟩:=pij h;subst hj1 hk1;unfold zAt;exact⟨_,Le.refl _ _,rfl,rfl⟩
 ·refine zAf ?_;show Tri ..;refine zAa ?_;refine zAa ?_;refine zAb [] [] rfl ?_;show Tri ..;obtain⟨fl,hl,ho1⟩:=zAc h;refine zBA (fl:=fl) (fun z=>match z with | _=>⟨ofL [],fun _=>none,0⟩) ?_ (fun z σ' hz hle=>?_)
  ·refine zAk (zAG (X:=Nat×Int) (fun y=>match y with | (k,i5)=>⟨ofL [(1,.s (.sl 1 ((List.map (irow .i64)) pos2))),(6,.s (.sl 1 ((List.map zAZ) y3))),(8,.s (.int .i64 i5))],fun _=>none,0⟩) (fun y=>zCa n pos2 y3 y.1 y.2=some fl) (fun y=>y.1) (n,0) hl ?_ ?_)
   ·exact(Le.forget _ ⟨rfl,rfl,rfl,trivial⟩)
   ·rintro⟨k,i5⟩ h;cases k with
    | zero=>cases h
    | succ k =>
     replace h:zCa n pos2 y3 (k+1) i5=some fl:=h;rw[zCa]at h;refine zAa ?_;refine zAa ?_;refine zAb [] [19] rfl ?_;intro n6 hn6;obtain rfl:(y3.length:Int)=n6:=(hn6.trans (congrArg (fun m:Nat=>(m:Int)) (rlen (fun _=>rfl) y3))).symm;show Tri ..;refine zAh rfl h (fun hb h=>?_) (fun hb h=>?_)
     ·refine zAf ?_;show Tri ..;refine zAa ?_;refine zAk ?_;refine zAa ?_;refine zAb [] [25] rfl ?_;obtain⟨e7,he7,h⟩:=zAc h;refine And.intro (zAB (fun _=>rfl) he7).1 ?_;intro r8 hr8;obtain rfl:[.sl 1 ((List.map (irow .i64)) e7)]=r8:=(hr8.trans (zAB (fun _=>rfl) he7).2.1).symm;obtain⟨y9,hy9,h⟩:=zAc h;refine⟨_,⟨_,_,_,_,hy9,rfl,rfl⟩,?_⟩
      show Tri ..;refine zAh rfl h (fun hb h=>?_) (fun hb h=>?_)
      ·refine zAa ?_;refine zAb [] [] rfl ?_;show Tri ..;refine zAd ?_;cases h;replace h:some _=some _:=ho1;obtain⟨hj1,hk1⟩:=pij h;subst hj1 hk1;unfold zAt;exact⟨_,Le.refl _ _,rfl,rfl⟩
      ·refine zAf ?_;show Tri ..;refine zAb [] [] rfl ?_;refine⟨(k,IntKind.i64.wrap (i5+1)),h,(Le.forget _ ⟨rfl,rfl,rfl,trivial⟩),Nat.lt_succ_self k⟩
     ·refine zAI ?_;cases h;exact⟨_,rfl,(Le.forget _ trivial)⟩
  ·subst hz;obtain _:=z;replace h:=ho1;show Tri ..;refine zAj hle ?_;refine zAa ?_;refine zAb [] [] rfl ?_;show Tri ..;refine zAd ?_;obtain⟨hj1,hk1⟩:=pij h;subst hj1 hk1;unfold zAt;exact⟨_,Le.refl _ _,rfl,rfl⟩
def zQg (n:Nat) (xs:List AV) (r:Ret):Prop:=∃ (a0:Nd) (a1:List Int) (y0:Bool),zDB n a0 a1=some y0/\xs=[.agg ((Nd.enc a0).map .s),.s (.sl 1 ((List.map (irow .i64)) a1))]/\r = .val (.s (.bool y0))
def zKP:zAy:=zAx fun xs r=>∃ n,zQg n xs r
theorem zPA:PSound Tryz.prog 80 zKP:=by
 have gok:∀ f s,look? f [(119,zKO)]=some s->PSound Tryz.prog f s:=zAv (by
  simp only[List.forall_mem_cons]
  exact⟨zPz,by simp⟩)
 refine zAz tokW Tryz.call80 Tryz.func80 rfl (fun xs r h=>by obtain⟨n,_,_,_,_,rfl,_⟩:=h; show 2<=15; decide) 15 rfl ?_;rintro xs r w0 G0 ⟨n,⟨n1A,n1B,n1D,n1C⟩,pos2,y0,h,rfl,rfl⟩ _;rw[zDB]at h;refine zAa ?_;refine zAb [] [] rfl ?_;show Tri ..;refine zAa ?_;refine zAb [] [] rfl ?_;obtain⟨⟨y3,y4⟩,hy3,h⟩:=zAc h;refine⟨_,⟨_,_,_,_,_,hy3,rfl,rfl⟩,?_⟩
 show Tri ..;refine zAa ?_;refine zAb [] [] rfl ?_;show Tri ..;refine zAd ?_;have hy:=Option.some.inj h;subst hy;unfold zAt;exact⟨_,Le.refl _ _,rfl,rfl⟩
def zOG (n:Nat) (xs:List AV) (r:Ret):Prop:=∃ (a0:Nd) (a1:zCu) (y0:Bool),zC8 n a0 a1=some y0/\xs=[.agg ((Nd.enc a0).map .s),.agg ((zAw a1).map .s)]/\r = .val (.s (.bool y0))
def zJS:zAy:=zAx fun xs r=>∃ n,zOG n xs r
theorem zN5:PSound Tryz.prog 37 zJS:=by
 have gok:∀ f s,look? f [(80,zKP)]=some s->PSound Tryz.prog f s:=zAv (by
  simp only[List.forall_mem_cons]
  exact⟨zPA,by simp⟩)
 refine zAz tokW Tryz.call37 Tryz.func37 rfl (fun xs r h=>by obtain⟨n,_,_,_,_,rfl,_⟩:=h; show 2<=21; decide) 21 rfl ?_;rintro xs r w0 G0 ⟨n,⟨n1A,n1B,n1D,n1C⟩,⟨c2Ai,c2Ah⟩,y0,h,rfl,rfl⟩ _;rw[zC8]at h;refine zAa ?_;refine zAb [] [] rfl ?_;show Tri ..;refine zAa ?_;obtain⟨x3,hj,h⟩:=zAc h;refine zAq ⟨ofL [(4,.s (.bool x3))],fun _=>none,0⟩ ?_ (fun σ' hle=>?_)
 ·replace h:=hj;refine zAb [] [9,12,14] rfl ?_;obtain⟨y4,hy4,h⟩:=zAc h;refine⟨_,⟨_,_,_,_,hy4,rfl,rfl⟩,?_⟩
  intro b hb;cases b with
  | true =>
   replace h:=zAD hb.symm h;intro n5 hn5;obtain rfl:(c2Ah.length:Int)=n5:=(hn5.trans (congrArg (fun m:Nat=>(m:Int)) (rlen (fun _=>rfl) c2Ah))).symm;intro b hb;cases b with
   | true =>
    replace h:=zAD hb.symm h;cases h;exact(Le.forget _ ⟨rfl,trivial⟩)
   | false =>
    replace h:=zAC hb.symm h;obtain⟨y6,hy6,h⟩:=zAc h;refine⟨_,⟨_,_,_,_,hy6,rfl,rfl⟩,?_⟩
    cases h;exact(Le.forget _ ⟨rfl,trivial⟩)
  | false =>
   replace h:=zAC hb.symm h;cases h;exact(Le.forget _ ⟨rfl,trivial⟩)
 ·show Tri ..;refine zAj hle ?_;refine zAd ?_;have hy:=Option.some.inj h;subst hy;unfold zAt;exact⟨_,Le.refl _ _,rfl,rfl⟩
def zQi (n:Nat) (xs:List AV) (r:Ret):Prop:=∃ (a0:(List UInt8×Nd×List zRc×Int)) (y0:Bool),zDC n a0=some y0/\xs=[.agg ((zAs a0).map .s)]/\r = .val (.s (.bool y0))
def zKR:zAy:=zAx fun xs r=>∃ n,zQi n xs r
theorem zPC:PSound Tryz.prog 13 zKR:=by
 have gok:∀ f s,look? f [(34,zE6),(35,zDz),(36,zFP),(37,zJS)]=some s->PSound Tryz.prog f s:=zAv (by
  simp only[List.forall_mem_cons]
  exact⟨zGD,zDP,zHj,zN5,by simp⟩)
 refine zAz tokW Tryz.call13 Tryz.func13 rfl (fun xs r h=>by obtain⟨n,_,_,_,rfl,_⟩:=h; show 1<=83; decide) 83 rfl ?_;rintro xs r w0 G0 ⟨n,⟨a1V,⟨a1R,a1S,a1T,a1U⟩,a1G,a1W⟩,y0,h,rfl,rfl⟩ _;rw[zDC]at h;refine zAa ?_;refine zAb [] [] rfl ?_;show Tri ..;refine zAa ?_;refine zAa ?_;obtain⟨x2,hj,h⟩:=zAc h
 refine zAq ⟨ofL [(1,.s (.pt [.str a1V,.int .i64 a1R,.str a1S,.int .i64 a1T,.sl 4 (Nd.encs a1U),.sl 5 ((List.map zAi) a1G),.int .i64 a1W])),(43,.s (.bool x2))],fun _=>none,0⟩ ?_ (fun σ' hle=>?_)
 ·replace h:=hj;refine zAb [] [13,19,25,28,31,36,41] rfl ?_;intro b hb;cases b with
  | true =>
   replace h:=zAD hb.symm h;intro b hb;subst hb;intro b hb;subst hb;intro b hb;subst hb;intro b hb;subst hb;cases h;exact(Le.forget _ ⟨rfl,rfl,trivial⟩)
  | false =>
   replace h:=zAC hb.symm h;obtain⟨y3,hy3,h⟩:=zAc h;refine⟨_,⟨_,_,_,hy3,rfl,rfl⟩,?_⟩
   intro b hb;cases b with
   | true =>
    replace h:=zAD hb.symm h;intro b hb;subst hb;intro b hb;subst hb;intro b hb;subst hb;cases h;exact(Le.forget _ ⟨rfl,rfl,trivial⟩)
   | false =>
    replace h:=zAC hb.symm h;obtain⟨y4,hy4,h⟩:=zAc h;refine⟨_,⟨_,_,_,hy4,rfl,rfl⟩,?_⟩
    intro b hb;cases b with
    | true =>
     replace h:=zAD hb.symm h;intro b hb;subst hb;intro b hb;subst hb;cases h;exact(Le.forget _ ⟨rfl,rfl,trivial⟩)
    | false =>
     replace h:=zAC hb.symm h;intro n5 hn5;obtain rfl:(a1G.length:Int)=n5:=(hn5.trans (congrArg (fun m:Nat=>(m:Int)) (rlen (fun _=>rfl) a1G))).symm;intro b hb;cases b with
     | true =>
      replace h:=zAD hb.symm h;intro b hb;subst hb;cases h;exact(Le.forget _ ⟨rfl,rfl,trivial⟩)
     | false =>
      replace h:=zAC hb.symm h;intro b hb;cases b with
      | true =>
       replace h:=zAD hb.symm h;cases h;exact(Le.forget _ ⟨rfl,rfl,trivial⟩)
      | false =>
       replace h:=zAC hb.symm h;intro n6 hn6;obtain rfl:(a1G.length:Int)=n6:=(hn6.trans (congrArg (fun m:Nat=>(m:Int)) (rlen (fun _=>rfl) a1G))).symm;cases h;exact(Le.forget _ ⟨rfl,rfl,trivial⟩)
 ·show Tri ..;refine zAj hle ?_;refine zAh rfl h (fun hb h=>?_) (fun hb h=>?_)
  ·refine zAa ?_;refine zAb [] [] rfl ?_;show Tri ..;refine zAd ?_;have hy:=Option.some.inj h;subst hy;unfold zAt;exact⟨_,Le.refl _ _,rfl,rfl⟩
  ·refine zAf ?_;show Tri ..;refine zAa ?_;refine zAb [3] [] rfl ?_;show Tri ..;refine zAa ?_;refine zAa ?_;refine zAb [] [] rfl ?_;show Tri ..;obtain⟨fl,hl,ho1⟩:=zAc h;refine zBA (fl:=fl) (fun z=>match z with | _=>⟨ofL [],fun _=>none,0⟩) ?_ (fun z σ' hz hle=>?_)
   ·refine zAk (zAG (X:=Nat×Int×(List UInt8)×Int×(List Nd)×Int) (fun y=>match y with | (k,x7,x8,x9,x10,x11)=>⟨ofL [(1,.s (.pt [.str a1V,.int .i64 a1R,.str a1S,.int .i64 a1T,.sl 4 (Nd.encs a1U),.sl 5 ((List.map zAi) a1G),.int .i64 a1W])),(3,.op 0 0),(4,.s (.int .i64 x11))],ofH [(0,.box 24 [.s (.int .i64 x7),.s (.str x8),.s (.int .i64 x9),.s (.sl 4 (Nd.encs x10))])],1⟩) (fun y=>zCc n a1G y.1 y.2.1 y.2.2.1 y.2.2.2.1 y.2.2.2.2.1 y.2.2.2.2.2=some fl) (fun y=>y.1) (n,a1R,a1S,a1T,a1U,0) hl ?_ ?_)
    ·exact(Le.rnm [(0,0)] _ _ _ ⟨rfl,rfl,rfl,trivial⟩ ⟨rfl,⟨_,rfl,rfl⟩,trivial⟩)
    ·rintro⟨k,x7,x8,x9,x10,x11⟩ h;cases k with
     | zero=>cases h
     | succ k =>
      replace h:zCc n a1G (k+1) x7 x8 x9 x10 x11=some fl:=h;rw[zCc]at h;refine zAa ?_;refine zAa ?_;refine zAb [] [49] rfl ?_;intro n12 hn12;obtain rfl:(a1G.length:Int)=n12:=(hn12.trans (congrArg (fun m:Nat=>(m:Int)) (rlen (fun _=>rfl) a1G))).symm;show Tri ..;refine zAh rfl h (fun hb h=>?_) (fun hb h=>?_)
      ·refine zAf ?_;show Tri ..;refine zAa ?_;refine zAk ?_;refine zAa ?_;refine zAb [5] [56] rfl ?_;obtain⟨⟨e13Z,⟨e13Ad,e13Ae⟩,⟨e13Af,e13Ag⟩⟩,he13,h⟩:=zAc h;refine And.intro (zAB (fun _=>rfl) he13).1 ?_;intro r14 hr14;obtain rfl:[.sl 8 ((List.map zAr) e13Z),.sl 1 ((List.map (irow .i64)) e13Ad),.sl 1 ((List.map (irow .i64)) e13Ae),.sl 1 ((List.map (irow .i64)) e13Af),.sl 1 ((List.map (irow .i64)) e13Ag)]=r14:=(hr14.trans (zAB (fun _=>rfl) he13).2.1).symm;show Tri ..
       refine zAj (Le.giveBox 1 [.sl 8 ((List.map zAr) e13Z),.sl 1 ((List.map (irow .i64)) e13Ad),.sl 1 ((List.map (irow .i64)) e13Ae),.sl 1 ((List.map (irow .i64)) e13Af),.sl 1 ((List.map (irow .i64)) e13Ag)] rfl rfl) ?_;refine zAa ?_;refine zAb [6] [] rfl ?_;obtain⟨⟨⟨y15A,y15B,y15D,y15C⟩,y16,y17⟩,hy15,h⟩:=zAc h;refine⟨_,⟨_,_,_,_,_,_,hy15,rfl,rfl⟩,?_⟩
       show Tri ..;refine zAj (Le.giveBox 2 [.int .i64 y15A,.str y15B,.int .i64 y15D,.sl 4 (Nd.encs y15C)] rfl rfl) ?_;refine zAa ?_;refine zAa ?_;obtain⟨x18,hj,h⟩:=zAc h
       refine zAq ⟨ofL [(1,.s (.pt [.str a1V,.int .i64 a1R,.str a1S,.int .i64 a1T,.sl 4 (Nd.encs a1U),.sl 5 ((List.map zAi) a1G),.int .i64 a1W])),(3,.op 0 0),(4,.s (.int .i64 x11)),(6,.s (.pt [.int .i64 y15A,.str y15B,.int .i64 y15D,.sl 4 (Nd.encs y15C)])),(81,.s (.bool x18))],ofH [(0,.box 24 [.s (.int .i64 x7),.s (.str x8),.s (.int .i64 x9),.s (.sl 4 (Nd.encs x10))])],1⟩ ?_ (fun σ' hle=>?_)
       ·replace h:=hj;refine zAb [] [68,75] rfl ?_;intro b hb;cases b with
        | true =>
         replace h:=zAD hb.symm h;intro b hb;subst hb;cases h;exact(Le.rnm [(0,0)] _ _ _ ⟨rfl,rfl,rfl,rfl,rfl,trivial⟩ ⟨rfl,⟨_,rfl,rfl⟩,trivial⟩)
        | false =>
         replace h:=zAC hb.symm h;obtain⟨y19,hy19,h⟩:=zAc h;refine⟨_,⟨_,_,_,_,hy19,rfl,rfl⟩,?_⟩
         intro b hb;cases b with
         | true =>
          replace h:=zAD hb.symm h;cases h;exact(Le.rnm [(0,0)] _ _ _ ⟨rfl,rfl,rfl,rfl,rfl,trivial⟩ ⟨rfl,⟨_,rfl,rfl⟩,trivial⟩)
         | false =>
          replace h:=zAC hb.symm h;obtain⟨y20,hy20,h⟩:=zAc h;refine⟨_,⟨_,_,_,_,hy20,rfl,rfl⟩,?_⟩
          cases h;exact(Le.rnm [(0,0)] _ _ _ ⟨rfl,rfl,rfl,rfl,rfl,trivial⟩ ⟨rfl,⟨_,rfl,rfl⟩,trivial⟩)
       ·show Tri ..;refine zAj hle ?_;refine zAh rfl h (fun hb h=>?_) (fun hb h=>?_)
        ·refine zAa ?_;refine zAb [] [] rfl ?_;show Tri ..;refine zAd ?_;cases h;replace h:some _=some _:=ho1;have hy:=Option.some.inj h;subst hy;unfold zAt;exact⟨_,Le.refl _ _,rfl,rfl⟩
        ·refine zAf ?_;show Tri ..;refine zAb [] [] rfl ?_;show Tri ..;refine zAb [] [] rfl ?_;refine⟨(k,y15A,y15B,y15D,y15C,IntKind.i64.wrap (x11+1)),h,(Le.rnm [(0,0)] _ _ _ ⟨rfl,rfl,rfl,trivial⟩ ⟨rfl,⟨_,rfl,rfl⟩,trivial⟩),Nat.lt_succ_self k⟩
      ·refine zAI ?_;cases h;exact⟨_,rfl,(Le.rnm [] _ [] 0 trivial trivial)⟩
   ·subst hz;obtain _:=z;replace h:=ho1;show Tri ..;refine zAj hle ?_;refine zAa ?_;refine zAb [] [] rfl ?_;show Tri ..;refine zAd ?_;have hy:=Option.some.inj h;subst hy;unfold zAt;exact⟨_,Le.refl _ _,rfl,rfl⟩
def zNx (n:Nat) (xs:List AV) (r:Ret):Prop:=∃ (a0:(List UInt8×Nd×List zRc×Int)) (a1:Int) (y0:Nd) (y1:Int),zCA n a0 a1=some (y0,y1)/\xs=[.agg ((zAs a0).map .s),.s (.int .i64 a1)]/\r = .val (.tup [.agg ((Nd.enc y0).map .s),.s (.int .i64 y1)])
def zIN:zAy:=zAx fun xs r=>∃ n,zNx n xs r
theorem zMr:PSound Tryz.prog 15 zIN:=by
 have gok:∀ f s,look? f [(13,zKR),(36,zFP)]=some s->PSound Tryz.prog f s:=zAv (by
  simp only[List.forall_mem_cons]
  exact⟨zPC,zHj,by simp⟩)
 refine zAz tokW Tryz.call15 Tryz.func15 rfl (fun xs r h=>by obtain⟨n,_,_,_,_,_,rfl,_⟩:=h; show 2<=42; decide) 42 rfl ?_;rintro xs r w0 G0 ⟨n,⟨d1V,⟨d1R,d1S,d1T,d1U⟩,d1G,d1W⟩,done2,y0,y1,h,rfl,rfl⟩ _;rw[zCA]at h;refine zAa ?_;refine zAb [4] [] rfl ?_;show Tri ..;refine zAa ?_;refine zAa ?_;refine zAb [] [] rfl ?_;obtain⟨y3,hy3,h⟩:=zAc h;refine⟨_,⟨_,_,_,hy3,rfl,rfl⟩,?_⟩
 show Tri ..;refine zAh rfl h (fun hb h=>?_) (fun hb h=>?_)
 ·refine zAa ?_;refine zAb [] [] rfl ?_;show Tri ..;refine zAd ?_;obtain⟨hj1,hk1⟩:=pij h;subst hj1 hk1;unfold zAt;exact⟨_,Le.refl _ _,rfl,rfl⟩
 ·refine zAf ?_;show Tri ..;refine zAa ?_;refine zAa ?_;obtain⟨x4,hj,h⟩:=zAc h;refine zAq ⟨ofL [(1,.s (.int .i64 done2)),(2,.s (.pt [.str d1V,.int .i64 d1R,.str d1S,.int .i64 d1T,.sl 4 (Nd.encs d1U),.sl 5 ((List.map zAi) d1G),.int .i64 d1W])),(4,.op 0 0),(20,.s (.bool x4))],ofH [(0,.box 24 [.s (.int .i64 0),.s (.str []),.s (.int .i64 0),.nl 4])],1⟩ ?_ (fun σ' hle=>?_)
  ·replace h:=hj;refine zAb [] [14,18] rfl ?_;intro b hb;cases b with
   | true =>
    replace h:=zAD hb.symm h;cases h;exact(Le.rnm [(0,0)] _ _ _ ⟨rfl,rfl,rfl,rfl,trivial⟩ ⟨rfl,⟨_,rfl,rfl⟩,trivial⟩)
   | false =>
    replace h:=zAC hb.symm h;intro n5 hn5;obtain rfl:(d1G.length:Int)=n5:=(hn5.trans (congrArg (fun m:Nat=>(m:Int)) (rlen (fun _=>rfl) d1G))).symm;cases h;exact(Le.rnm [(0,0)] _ _ _ ⟨rfl,rfl,rfl,rfl,trivial⟩ ⟨rfl,⟨_,rfl,rfl⟩,trivial⟩)
  ·show Tri ..;refine zAj hle ?_;refine zAh rfl h (fun hb h=>?_) (fun hb h=>?_)
   ·refine zAa ?_;refine zAb [] [] rfl ?_;show Tri ..;refine zAd ?_;obtain⟨hj1,hk1⟩:=pij h;subst hj1 hk1;unfold zAt;exact⟨_,Le.refl _ _,rfl,rfl⟩
   ·refine zAf ?_;show Tri ..;refine zAa ?_;refine zAb [6] [] rfl ?_;show Tri ..;refine zAa ?_;refine zAa ?_;refine zAb [] [] rfl ?_;show Tri ..;obtain⟨⟨x12,x13,x14,x15⟩,hl,h⟩:=zAc h;refine zAq ⟨ofL [(4,.op 0 0),(6,.op 1 0)],ofH [(0,.box 24 [.s (.int .i64 0),.s (.str []),.s (.int .i64 0),.nl 4]),(1,.box 24 [.s (.int .i64 x12),.s (.str x13),.s (.int .i64 x14),.s (.sl 4 (Nd.encs x15))])],2⟩ ?_ (fun σ' hle=>?_)
    ·refine zAk (zAG (X:=Nat×Int×(List UInt8)×Int×(List Nd)×Int) (fun y=>match y with | (k,x7,x8,x9,x10,i11)=>⟨ofL [(1,.s (.int .i64 done2)),(2,.s (.pt [.str d1V,.int .i64 d1R,.str d1S,.int .i64 d1T,.sl 4 (Nd.encs d1U),.sl 5 ((List.map zAi) d1G),.int .i64 d1W])),(4,.op 0 0),(6,.op 1 0),(7,.s (.int .i64 i11))],ofH [(0,.box 24 [.s (.int .i64 0),.s (.str []),.s (.int .i64 0),.nl 4]),(1,.box 24 [.s (.int .i64 x7),.s (.str x8),.s (.int .i64 x9),.s (.sl 4 (Nd.encs x10))])],2⟩) (fun y=>zBE n d1G done2 y.1 y.2.1 y.2.2.1 y.2.2.2.1 y.2.2.2.2.1 y.2.2.2.2.2=some (x12,x13,x14,x15)) (fun y=>y.1) (n,d1R,d1S,d1T,d1U,0) hl ?_ ?_)
     ·exact(Le.rnm [(0,0),(1,1)] _ _ _ ⟨rfl,rfl,rfl,rfl,rfl,trivial⟩ ⟨rfl,⟨_,rfl,rfl⟩,rfl,⟨_,rfl,rfl⟩,trivial⟩)
     ·rintro⟨k,x7,x8,x9,x10,i11⟩ h;cases k with
      | zero=>cases h
      | succ k =>
       replace h:zBE n d1G done2 (k+1) x7 x8 x9 x10 i11=some (x12,x13,x14,x15):=h;rw[zBE]at h;refine zAa ?_;refine zAa ?_;refine zAb [] [] rfl ?_;show Tri ..;refine zAh rfl h (fun hb h=>?_) (fun hb h=>?_)
       ·refine zAf ?_;show Tri ..;refine zAa ?_;refine zAk ?_;refine zA2 [] [34] [0,12] rfl (by decide +kernel) ?_;obtain⟨⟨e16Z,⟨e16Ad,e16Ae⟩,⟨e16Af,e16Ag⟩⟩,he16,h⟩:=zAc h;refine And.intro (zAB (fun _=>rfl) he16).1 ?_;intro r17 hr17;obtain rfl:[.sl 8 ((List.map zAr) e16Z),.sl 1 ((List.map (irow .i64)) e16Ad),.sl 1 ((List.map (irow .i64)) e16Ae),.sl 1 ((List.map (irow .i64)) e16Af),.sl 1 ((List.map (irow .i64)) e16Ag)]=r17:=(hr17.trans (zAB (fun _=>rfl) he16).2.1).symm
        obtain⟨⟨⟨y18A,y18B,y18D,y18C⟩,y19,y20⟩,hy18,h⟩:=zAc h;refine⟨_,⟨_,_,_,_,_,_,hy18,rfl,rfl⟩,?_⟩
        show Tri ..;refine zAb [] [] rfl ?_;refine⟨(k,y18A,y18B,y18D,y18C,IntKind.i64.wrap (i11+1)),h,(Le.rnm [(0,0),(1,1)] _ _ _ ⟨rfl,rfl,rfl,rfl,rfl,trivial⟩ ⟨rfl,⟨_,rfl,rfl⟩,rfl,⟨_,rfl,rfl⟩,trivial⟩),Nat.lt_succ_self k⟩
       ·refine zAI ?_;cases h;exact(Le.rnm [(0,0),(1,1)] _ _ _ ⟨rfl,rfl,trivial⟩ ⟨rfl,⟨_,rfl,rfl⟩,rfl,⟨_,rfl,rfl⟩,trivial⟩)
    ·show Tri ..;refine zAj hle ?_;refine zAa ?_;refine zAb [] [] rfl ?_;show Tri ..;refine zAd ?_;obtain⟨hj1,hk1⟩:=pij h;subst hj1 hk1;unfold zAt;exact⟨_,Le.refl _ _,rfl,rfl⟩
def zJh (n:Nat) (xs:List AV) (r:Ret):Prop:=∃ (a0:(List UInt8×Nd×List zRc×Int)) (a1:Int) (y0:Bool),zBo n a0 a1=some y0/\xs=[.agg ((zAs a0).map .s),.s (.int .i64 a1)]/\r = .val (.s (.bool y0))
def zJk:zAy:=zAx fun xs r=>∃ n,zJh n xs r
theorem zIY:PSound Tryz.prog 4 zJk:=by
 have gok:∀ f s,look? f [(8,zKG),(9,zON),(14,zHP),(15,zIN),(16,zIa)]=some s->PSound Tryz.prog f s:=zAv (by
  simp only[List.forall_mem_cons]
  exact⟨zPs,zRX,zLm,zMr,zJ1,by simp⟩)
 refine zAz tokW Tryz.call4 Tryz.func4 rfl (fun xs r h=>by obtain⟨n,_,_,_,_,rfl,_⟩:=h; show 2<=37; decide) 37 rfl ?_;rintro xs r w0 G0 ⟨n,⟨d1V,⟨d1R,d1S,d1T,d1U⟩,d1G,d1W⟩,done2,y0,h,rfl,rfl⟩ _;rw[zBo]at h;refine zAa ?_;refine zAb [] [] rfl ?_;show Tri ..;refine zAa ?_;refine zAa ?_;obtain⟨x3,hj,h⟩:=zAc h
 refine zAq ⟨ofL [(1,.s (.int .i64 done2)),(2,.s (.pt [.str d1V,.int .i64 d1R,.str d1S,.int .i64 d1T,.sl 4 (Nd.encs d1U),.sl 5 ((List.map zAi) d1G),.int .i64 d1W])),(15,.s (.bool x3))],fun _=>none,0⟩ ?_ (fun σ' hle=>?_)
 ·replace h:=hj;refine zAb [] [11] rfl ?_;obtain⟨y4,hy4,h⟩:=zAc h;refine⟨_,⟨_,_,hy4,rfl,rfl⟩,?_⟩
  intro b hb;cases b with
  | true =>
   replace h:=zAD hb.symm h;cases h;exact(Le.forget _ ⟨rfl,rfl,rfl,trivial⟩)
  | false =>
   replace h:=zAC hb.symm h;obtain⟨y5,hy5,h⟩:=zAc h;refine⟨_,⟨_,_,_,hy5,rfl,rfl⟩,?_⟩
   cases h;exact(Le.forget _ ⟨rfl,rfl,rfl,trivial⟩)
 ·show Tri ..;refine zAj hle ?_;refine zAh rfl h (fun hb h=>?_) (fun hb h=>?_)
  ·refine zAa ?_;refine zAb [] [] rfl ?_;obtain⟨y6,hy6,h⟩:=zAc h;refine⟨_,⟨_,_,hy6,rfl,rfl⟩,?_⟩
   show Tri ..;refine zAd ?_;have hy:=Option.some.inj h;subst hy;unfold zAt;exact⟨_,Le.refl _ _,rfl,rfl⟩
  ·refine zAf ?_;show Tri ..;refine zAa ?_;refine zAb [5] [] rfl ?_;obtain⟨⟨⟨y7A,y7B,y7D,y7C⟩,y8⟩,hy7,h⟩:=zAc h;refine⟨_,⟨_,_,_,_,_,hy7,rfl,rfl⟩,?_⟩
   show Tri ..;refine zAj (Le.giveBox 0 [.int .i64 y7A,.str y7B,.int .i64 y7D,.sl 4 (Nd.encs y7C)] rfl rfl) ?_;refine zAa ?_;refine zAb [7] [] rfl ?_;obtain⟨⟨⟨y9A,y9B,y9D,y9C⟩,y10⟩,hy9,h⟩:=zAc h;refine⟨_,⟨_,_,_,_,_,hy9,rfl,rfl⟩,?_⟩
   show Tri ..;refine zAj (Le.giveBox 1 [.int .i64 y9A,.str y9B,.int .i64 y9D,.sl 4 (Nd.encs y9C)] rfl rfl) ?_;refine zAa ?_;obtain⟨x11,hj,h⟩:=zAc h;refine zAq ⟨ofL [(4,.s (.bool x11))],fun _=>none,0⟩ ?_ (fun σ' hle=>?_)
   ·replace h:=hj;refine zAb [] [32] rfl ?_;intro b hb;cases b with
    | true =>
     replace h:=zAD hb.symm h;obtain⟨y12,hy12,h⟩:=zAc h;refine⟨_,⟨_,_,_,_,hy12,rfl,rfl⟩,?_⟩
     cases h;exact(Le.rnm [] _ [] 0 ⟨rfl,trivial⟩ trivial)
    | false =>
     replace h:=zAC hb.symm h;cases h;exact(Le.rnm [] _ [] 0 ⟨rfl,trivial⟩ trivial)
   ·show Tri ..;refine zAj hle ?_;refine zAd ?_;have hy:=Option.some.inj h;subst hy;unfold zAt;exact⟨_,Le.refl _ _,rfl,rfl⟩
theorem zT4 {n:Nat}{ss:List S} (h:Typed T n 24 ss):∃ t:Nd,ss=t.enc/\t.rng :=
 zNi (T:=T) (e:=24) (s:=22) (ki:=3) (st:=9) rfl rfl rfl rfl rfl rfl rfl rfl rfl n h
theorem zQU {n t:Nat}{ss:List S} (h:Typed T n 22 ss):∃ l:List Nd,ss=[.sl 4 (Nd.encs l)]/\Nd.rngs l:=by
 obtain⟨m,rows,rfl,rfl,_,hr⟩:=zFr (T:=T) (e:=24) rfl rfl h;obtain⟨ks,rfl,hks⟩:=zJl (f:=Nd.enc) (q:=Nd.rng) (l:=rows) fun r hr'=>zNi (T:=T) (e:=24) (s:=22) (ki:=3) (st:=9) rfl rfl rfl rfl rfl rfl rfl rfl rfl m (hr r hr')
 exact⟨ks,by rw[Nd.encs_eq]; rfl,Nd.rngAll hks⟩
theorem zT5 {n:Nat}{ss:List S} (h:Typed T n 63 ss):∃ o:zO8,ss=zAr o/\True:=by
 obtain⟨m,rfl,a0,q0,rfl,u0,a1,q1,rfl,u1,a2,q2,rfl,u2,a3,q3,rfl,u3,a4,q4,rfl,u4,a5,q5,rfl,u5,a6,q6,rfl,u6,a7,q7,rfl,u7,rfl⟩:=zED (T:=T) (t:=63) rfl rfl h;obtain⟨x0,rfl,_⟩:=zD6 (T:=T) (k:=.i64) rfl rfl u0;obtain⟨x1,rfl,_⟩:=zNh (T:=T) (k:=.i64) (e:=3) rfl rfl rfl rfl u1;obtain⟨x2,rfl,_⟩:=zD6 (T:=T) (k:=.i64) rfl rfl u2;obtain⟨x3,rfl,_⟩:=zD6 (T:=T) (k:=.i64) rfl rfl u3;obtain⟨x4,rfl,_⟩:=zQU (t:=0) u4;obtain⟨x5,rfl,_⟩:=zD6 (T:=T) (k:=.i64) rfl rfl u5;obtain⟨x6,rfl,_⟩:=zJc (T:=T) rfl rfl u6;obtain⟨x7,rfl,_⟩:=zJc (T:=T) rfl rfl u7
 exact⟨(x0,x1,x2,x3,x4,x5,x6,x7),rfl,trivial⟩
theorem zTb {n:Nat}{ss:List S} (h:Typed T n 55 ss):∃ l:List zO8,ss=[.sl 8 (l.map zAr)]:=by
 obtain⟨m,rows,rfl,rfl,_,hr⟩:=zFr (T:=T) (e:=63) rfl rfl h;obtain⟨ks,rfl,hks⟩:=zJl (f:=zAr) (q:=fun _=>True) (l:=rows) fun r hr'=>zT5 (hr r hr')
 exact⟨ks,rfl⟩
theorem zNj {n:Nat}{ss:List S} (h:Typed T n 56 ss):∃ l:List Int,ss=[.sl 1 (l.map fun z=>[.int .i64 z])]/\True:=by
 obtain⟨x,rfl,_⟩:=zNh (T:=T) (k:=.i64) (e:=3) rfl rfl rfl rfl h;exact⟨x,rfl,trivial⟩
theorem zND {α:Type}{f:α->List S}:∀ {l:List α}{x:α},x∈l->zCV (f x)<=zDJ (l.map f)
 | y::l,x,h=>by
  simp only[List.map_cons,zDJ]
  rcases List.mem_cons.1 h with rfl | h
  ·omega
  ·have:=zND (f:=f) h; omega
theorem zUD {l:List zO8}:l.length<=zDJ (l.map zAr):=by
 have:=zIQ (rows:=l.map zAr) fun r hr=>by
  obtain⟨o,_,rfl⟩:=List.mem_map.1 hr;simp only[zAr,List.length_cons]
  omega
 simpa using this
theorem zJ7 {n:Nat}{ss:List S} (h:Typed T n 58 ss):∃ c:List Int×List Int,ss=[.sl 1 (c.1.map (irow .i64)),.sl 1 (c.2.map (irow .i64))]:=by
 obtain⟨m,rfl,a0,q0,rfl,u0,a1,q1,rfl,u1,rfl⟩:=zED (T:=T) (t:=58) rfl rfl h;obtain⟨x0,rfl,_⟩:=zNj u0;obtain⟨x1,rfl,_⟩:=zNj u1;exact⟨(x0,x1),rfl⟩
theorem zPZ {n:Nat}{ss:List S} (h:Typed T n 60 ss):∃ r:List zO8×zCu×zCu,ss=zAi r:=by
 obtain⟨m,rfl,a0,q0,rfl,u0,a1,q1,rfl,u1,a2,q2,rfl,u2,rfl⟩:=zED (T:=T) (t:=60) rfl rfl h;obtain⟨x0,rfl⟩:=zTb u0;obtain⟨x1,rfl⟩:=zJ7 u1;obtain⟨x2,rfl⟩:=zJ7 u2;exact⟨(x0,x1,x2),rfl⟩
theorem zAN {φ:Prop} [Decidable φ] (h:φ):decide φ=true:=decide_eq_true h
theorem zAL {φ:Prop} [Decidable φ] (h:¬ φ):decide φ=false:=decide_eq_false h
theorem zH4 {F:Nd->Option Int}{ks:List Nd} (hF:∀ v∈ks,F v=some (v.cnt:Int)) :
  ∀ (k i:Nat) (o:Nat),ks.length - i<k->i<=ks.length->o+Nd.cnts (ks.drop i)<=1073741824->ks.length<=1073741824->zB8 F ks k (o:Int) (i:Int)=some ((o+Nd.cnts (ks.drop i):Nat):Int)
 | 0,_,_,h,_,_,_=>by omega
 | k+1,i,o,hk,hi,ho,hl=>by
  unfold zB8
  by_cases h:i<ks.length
  ·rw[zAN (Int.ofNat_lt.2 h),cond_true,zBc h]
   have hd:=Nd.cnts_drop h;have hf:=hF _ (List.getElem_mem h)
   rcases e:ks[i] with ⟨a,b,c,d⟩
   rw[e]at hd hf;simp only[Option.bind_some,hf]
   rw[wrap64_in (by omega) (by omega),zA4 (by omega),← Int.natCast_add,zH4 hF k (i+1) _ (by omega) (by omega) (by omega) hl,hd]
   congr 2; omega
  ·rw[zAL (by omega),cond_false]
   obtain rfl:i=ks.length :=(by omega);simp[Nd.cnts]
theorem zJ3:∀ (n:Nat) (t:Nd),t.cnt<n->t.cnt<=67108864->zCw n t=some (t.cnt:Int)
 | 0,_,h,_=>by omega
 | n+1,.mk a b c ks,h,hb=>by
  simp only[Nd.cnt]at h hb;have hl:=Nd.cnts_len ks;unfold zCw;have:=zH4 (F:=zCw n) (ks:=ks) (fun v hv=>zJ3 n v (by have:=Nd.cnts_mem hv; omega) (by have:=Nd.cnts_mem hv; omega)) n 0 1 (by omega) (by omega) (by simp; omega) (by omega)
  rw[show((0:Nat):Int)=0 from rfl,show((1:Nat):Int)=1 from rfl]at this;rw[this]
  simp only[Option.bind_some,List.drop_zero,Nd.cnt]
  congr 2; omega
theorem zPj {F:Nd->Int->Option Int}{ks:List Nd}{b:Nat} (hF:∀ (v:Nd) (m:Nat),m<=b->∃ r,F v (m:Int)=some r/\-1<=r/\r<m/\(0<=r->r+v.cnt=m)) :
  ∀ (k i:Nat) (m:Int),m+1<k->-1<=m->m<=b->i<=ks.length->(i:Int)+m<4611686018427387904->∃ r,zB5 F ks k m (i:Int)=some r/\-1<=r/\r<=m/\(0<=r->r+Nd.cnts (ks.drop i)=m)
 | 0,_,_,h,_,_,_,_=>by omega
 | k+1,i,m,hk,hm,hb,hi,hx=>by
  unfold zB5
  by_cases h:i<ks.length
  ·rw[zAN (Int.ofNat_lt.2 h),cond_true]
   simp only[Option.bind_some]
   by_cases h0:0<=m
   ·rw[zAN h0,cond_true,zBc h]
    have hd:=Nd.cnts_drop h;rcases e:ks[i] with ⟨e1,e2,e3,e4⟩
    rw[e]at hd;simp only[Option.bind_some]
    obtain⟨m',rfl⟩:=Int.eq_ofNat_of_zero_le h0;obtain⟨r,h1,h2,h3,h4⟩:=hF (.mk e1 e2 e3 e4) m' (by omega)
    rw[h1,Option.bind_some,zA4 (by omega)]
    obtain⟨r',g1,g2,g3,g4⟩:=zPj (ks:=ks) hF k (i+1) r (by omega) h2 (by omega) (by omega) (by omega)
    exact⟨r',g1,g2,by omega,fun g=>by have:=g4 g; have:=h4 (by omega); omega⟩
   ·rw[zAL h0,cond_false]
    exact⟨m,rfl,hm,Int.le_refl _,fun g=>by omega⟩
  ·rw[zAL (by omega),cond_false]
   simp only[Option.bind_some,cond_false]
   obtain rfl:i=ks.length :=(by omega);exact⟨m,rfl,hm,Int.le_refl _,fun _=>by simp[Nd.cnts]⟩
theorem left_eq:∀ (n:Nat) (t:Nd) (m:Nat),m+1<n->m<=67108864->∃ r,zDi n t (m:Int)=some r/\-1<=r/\r<m/\(0<=r->r+t.cnt=m)
 | 0,_,_,h,_=>by omega
 | n+1,.mk a b c ks,m,h,hm=>by
  unfold zDi;rw[wrap64_in (by omega) (by omega)]
  cases m with
  | zero =>
   cases n with
   | zero=>omega
   | succ n =>
    refine⟨-1,?_,by omega,by omega,fun h=>by omega⟩
    unfold zB5;cases decide (((0:Nat):Int)<(ks.length:Int)) <;> simp <;> rfl
  | succ m =>
   obtain⟨r,h1,h2,h3,h4⟩:=zPj (F:=zDi n) (ks:=ks) (b:=m) (fun v q hq=>left_eq n v q (by omega) (by omega)) n 0 (m:Int) (by omega) (by omega) (by omega) (by omega) (by omega)
   rw[show((0:Nat):Int)=0 from rfl]at h1;rw[show((m+1:Nat):Int) - 1=(m:Int) by omega,h1]
   exact⟨r,rfl,h2,by omega,fun g=>by have:=h4 g; rw[List.drop_zero]at this; simp only[Nd.cnt]; omega⟩
theorem zT7 (n:Nat) (t:Nd) (m:Nat) (h:m+1<n) (hm:m<=67108864):∃ b,zGd n t (m:Int)=some b/\(b=true->t.cnt<=m):=by
 obtain⟨a,b,c,ks⟩:=t;obtain⟨r,h1,h2,h3,h4⟩:=left_eq n (.mk a b c ks) m h hm;refine⟨decide (0<=r),by simp[zGd,h1],fun g=>by have g0:=of_decide_eq_true g; have:=h4 g0; omega⟩
def zMb {α:Type} (p:α->Bool) (l:List α):Fl Bool Unit:=if l.all p then .go () else .ret false
theorem zTi {α:Type}{p:α->Bool}{l:List α}{i:Nat} (h:i<l.length):(l.drop i).all p=(p l[i]&&(l.drop (i+1)).all p):=by
 rw[List.drop_eq_getElem_cons h]; rfl
theorem zTj {α:Type}{p:α->Bool}{l:List α}{i:Nat} (h:i<l.length):(l.drop i).any p=(p l[i]||(l.drop (i+1)).any p):=by
 rw[List.drop_eq_getElem_cons h]; rfl
theorem zGr {α:Type}{p:α->Bool}{l:List α} (L:Nat->Int->Option (Fl Bool Unit)) (hb:l.length<=1073741824)
  (h1:∀ (k i:Nat) (h:i<l.length),L (k+1) (i:Int)=if p l[i] then L k (((i+1:Nat)):Int) else some (.ret false)) (h2:∀ k,L (k+1) (l.length:Int)=some (.go ())) :
  ∀ (k i:Nat),l.length - i<k->i<=l.length->L k (i:Int)=some (zMb p (l.drop i))
 | 0,_,h,_=>by omega
 | k+1,i,hk,hi=>by
  by_cases h:i<l.length
  ·rw[h1 k i h,zGr L hb h1 h2 k (i+1) (by omega) (by omega)]
   unfold zMb;rw[zTi h]
   cases p l[i] <;> simp
  ·obtain rfl:i=l.length :=(by omega);rw[h2]; simp[zMb]
theorem zNM {α:Type}{p:α->Bool}{l:List α} (L:Nat->Int->Option (Fl Bool Unit)) (hb:l.length<=1073741824)
  (h1:∀ (k i:Nat) (h:i<l.length),L (k+1) (i:Int)=if p l[i] then some (.ret true) else L k (((i+1:Nat)):Int)) (h2:∀ k,L (k+1) (l.length:Int)=some (.go ())) :
  ∀ (k i:Nat),l.length - i<k->i<=l.length->L k (i:Int)=some (if (l.drop i).any p then .ret true else .go ())
 | 0,_,h,_=>by omega
 | k+1,i,hk,hi=>by
  by_cases h:i<l.length
  ·rw[h1 k i h,zNM L hb h1 h2 k (i+1) (by omega) (by omega),zTj h]
   cases p l[i] <;> simp
  ·obtain rfl:i=l.length :=(by omega);rw[h2]; simp
theorem zNk {P:UInt8->Bool} (h:(List.range 256).all (fun n=>P n.toUInt8)=true) (b:UInt8):P b=true:=by
 have:P (UInt8.ofNat b.toNat)=true:=List.all_eq_true.1 h b.toNat (List.mem_range.2 b.toNat_lt)
 rwa [UInt8.ofNat_toNat]at this
def zCX (b:UInt8):Bool:=(decide (97<=b.toNat)&&decide (b.toNat<=122))||(decide (65<=b.toNat)&&decide (b.toNat<=90))
def zDn (b:UInt8):Bool:=decide (48<=b.toNat)&&decide (b.toNat<=57)
def zD7 (b:UInt8):Bool:=decide (32<=b.toNat)&&decide (b.toNat<=126)
theorem zOX (b:UInt8):(bif decide ((zJm .or .u8 (b.toNat:Int) 32)<97) then some true else some (decide (122<(zJm .or .u8 (b.toNat:Int) 32))))=some (!zCX b) :=
 of_decide_eq_true (zNk (P:=fun b=>decide ((bif decide ((zJm .or .u8 (b.toNat:Int) 32)<97) then some true else some (decide (122<(zJm .or .u8 (b.toNat:Int) 32))))=some (!zCX b))) (by decide +kernel) b)
theorem zJW (b:UInt8):zDO (b.toNat:Int)=some (zCX b) :=
 of_decide_eq_true (zNk (P:=fun b=>decide (zDO (b.toNat:Int)=some (zCX b))) (by decide +kernel) b)
theorem zQo (b:UInt8):zFm (b.toNat:Int)=some (zDn b) :=
 of_decide_eq_true (zNk (P:=fun b=>decide (zFm (b.toNat:Int)=some (zDn b))) (by decide +kernel) b)
theorem zLg (n:Nat) (s:List UInt8) (h:s.length<n) (hb:s.length<=1073741824):zCN n s=some (s.all zCX):=by
 have:=zGr (p:=zCX) (l:=s) (zBd s) hb (fun k i h=>by
  rw[zBd,zAN (Int.ofNat_lt.2 h),cond_true,zBc h]
  simp only[Option.bind_some,zOX]
  rw[zA4 (by omega)]
  cases zCX s[i] <;> rfl) (fun k=>by rw[zBd,zAL (by omega)]; rfl) n 0 (by omega) (by omega)
 rw[show((0:Nat):Int)=0 from rfl,List.drop_zero]at this;rw[zCN,this]
 unfold zMb;cases s.all zCX <;> rfl
theorem zMu (n:Nat) (s:List UInt8) (h:s.length<n) (hb:s.length<=1073741824):zBg s n 0=some (zMb zCX s):=by
 have:=zGr (p:=zCX) (l:=s) (zBg s) hb (fun k i h=>by
  rw[zBg,zAN (Int.ofNat_lt.2 h),cond_true,zBc h]
  simp only[Option.bind_some,zJW]
  rw[zA4 (by omega)]
  cases zCX s[i] <;> rfl) (fun k=>by rw[zBg,zAL (by omega)]; rfl) n 0 (by omega) (by omega)
 rwa [show((0:Nat):Int)=0 from rfl,List.drop_zero]at this
theorem zM6 (n:Nat) (s:List UInt8) (c:Int) (h:s.length<n) (hb:s.length<=1073741824):zC2 n s c=some (s.any fun b=>(b.toNat:Int) == c):=by
 have:=zNM (p:=fun b=>(b.toNat:Int) == c) (l:=s) (zCr s c) hb (fun k i h=>by
  rw[zCr,zAN (Int.ofNat_lt.2 h),cond_true,zBc h]
  simp only[Option.bind_some]
  rw[zA4 (by omega)]
  cases((s[i].toNat:Int) == c) <;> rfl) (fun k=>by rw[zCr,zAL (by omega)]; rfl) n 0 (by omega) (by omega)
 rw[show((0:Nat):Int)=0 from rfl,List.drop_zero]at this;rw[zC2,this]
 cases s.any fun b=>(b.toNat:Int) == c <;> rfl
theorem zLA (n:Nat) (l:List (List UInt8)) (s:List UInt8) (h:l.length<n) (hb:l.length<=1073741824):zEo n l s=some (l.any fun e=>e == s):=by
 have:=zNM (p:=fun e=>e == s) (l:=l) (zC1 l s) hb (fun k i h=>by
  rw[zC1,zAN (Int.ofNat_lt.2 h),cond_true,zBc h]
  simp only[Option.bind_some]
  rw[zA4 (by omega)]
  cases(l[i] == s) <;> rfl) (fun k=>by rw[zC1,zAL (by omega)]; rfl) n 0 (by omega) (by omega)
 rw[show((0:Nat):Int)=0 from rfl,List.drop_zero]at this;rw[zEo,this]
 cases l.any fun e=>e == s <;> rfl
theorem zFX (n:Nat) (s:List UInt8) (h:s.length<n) (hb:s.length<=1073741824):zDf n s=some (s.all zDn&&!(s == [])):=by
 have:=zGr (p:=zDn) (l:=s) (zBi s) hb (fun k i h=>by
  rw[zBi,zAN (Int.ofNat_lt.2 h),cond_true,zBc h]
  simp only[Option.bind_some]
  rw[zA4 (by omega)]
  unfold zDn
  by_cases a:48<=s[i].toNat
  ·by_cases b:s[i].toNat<=57
   ·simp[a,b,show ¬ ((s[i].toNat:Int)<48) by omega,show ¬ (57<(s[i].toNat:Int)) by omega]
   ·simp[a,b,show ¬ ((s[i].toNat:Int)<48) by omega,show(57<(s[i].toNat:Int)) by omega]
  ·simp[a,show((s[i].toNat:Int)<48) by omega]) (fun k=>by rw[zBi,zAL (by omega)]; rfl) n 0 (by omega) (by omega)
 rw[show((0:Nat):Int)=0 from rfl,List.drop_zero]at this;rw[zDf,this]
 unfold zMb;cases s.all zDn <;> rfl
theorem zLy (b:UInt8):(bif decide ((b.toNat:Int)<32) then some true else some (decide (126<(b.toNat:Int))):Option Bool)=some (!zD7 b):=by
 unfold zD7
 by_cases a:32<=b.toNat
 ·by_cases c:b.toNat<=126
  ·simp[a,c,show ¬ ((b.toNat:Int)<32) by omega,show ¬ (126<(b.toNat:Int)) by omega]
  ·simp[a,c,show ¬ ((b.toNat:Int)<32) by omega,show(126<(b.toNat:Int)) by omega]
 ·simp[a,show((b.toNat:Int)<32) by omega]
theorem zNP (n:Nat) (s:List UInt8) (h:s.length<n) (hb:s.length<=1073741824):zEw n s=some (s.all zD7&&decide ((s.length:Int)<=200)):=by
 have:=zGr (p:=zD7) (l:=s) (zBw s) hb (fun k i h=>by
  rw[zBw,zAN (Int.ofNat_lt.2 h),cond_true,zBc h]
  simp only[Option.bind_some,zLy]
  rw[zA4 (by omega)]
  cases zD7 s[i] <;> rfl) (fun k=>by rw[zBw,zAL (by omega)]; rfl) n 0 (by omega) (by omega)
 rw[show((0:Nat):Int)=0 from rfl,List.drop_zero]at this;rw[zEw,this]
 unfold zMb;cases s.all zD7 <;> rfl
theorem zGE (n:Nat) (s:List UInt8) (h:s.length<n) (hb:s.length<=1073741824):zCm n s=some (s.all zD7):=by
 have:=zGr (p:=zD7) (l:=s) (zA8 s) hb (fun k i h=>by
  rw[zA8,zAN (Int.ofNat_lt.2 h),cond_true,zBc h]
  simp only[Option.bind_some,zLy]
  rw[zA4 (by omega)]
  cases zD7 s[i] <;> rfl) (fun k=>by rw[zA8,zAL (by omega)]; rfl) n 0 (by omega) (by omega)
 rw[show((0:Nat):Int)=0 from rfl,List.drop_zero]at this;rw[zCm,this]
 unfold zMb;cases s.all zD7 <;> rfl
def spL:List UInt8:=[43,45,42,47,61,60,62,44,59,58,33,124,39,63,126,64]
def fsL:List UInt8:=[40,41,91,93,123,125,60,62,47,124,46]
def kwL:List (List UInt8):=[[102,114,97,99],[114,111,111,116],[109,97,116,114,105,120],[102,101,110,99,101]]
def acL:List (List UInt8):=[[104,97,116],[98,97,114],[118,101,99],[100,111,116],[116,105,108,100,101],[99,104,101,99,107]]
def spB (c:UInt8):Bool:=decide (0<=Lib.indexByte spL c)
def fsB (c:UInt8):Bool:=decide (0<=Lib.indexByte fsL c)
theorem zUo (c:UInt8):(spL.any fun b=>(b.toNat:Int) == (c.toNat:Int))=spB c :=
 of_decide_eq_true (zNk (P:=fun c=>decide ((spL.any fun b=>(b.toNat:Int) == (c.toNat:Int))=spB c)) (by decide +kernel) c)
theorem zUn (c:UInt8):(([40,41,91,93,123,125,124,60,62,47,46]:List UInt8).any fun b=>(b.toNat:Int) == (c.toNat:Int))=fsB c :=
 of_decide_eq_true (zNk (P:=fun c=>decide ((([40,41,91,93,123,125,124,60,62,47,46]:List UInt8).any fun b=>(b.toNat:Int) == (c.toNat:Int))=fsB c)) (by decide +kernel) c)
theorem zTm (c:UInt8):Lib.indexByte fsL ((c.toNat:Int).toNat.toUInt8)=Lib.indexByte fsL c:=by
 rw[Int.toNat_natCast]; congr 1; exact UInt8.ofNat_toNat
theorem zMc (e s:List UInt8):(e == s)=(s == e):=by
 rw[Bool.eq_iff_iff]; simp only[beq_iff_eq]; exact eq_comm
theorem zLf (s:List UInt8):zDw s=some (kwL.any fun e=>e == s):=by
 simp only[zDw,kwL,List.any_cons,List.any_nil,zMc [102,114,97,99] s,zMc [114,111,111,116] s,zMc [109,97,116,114,105,120] s,zMc [102,101,110,99,101] s]
 generalize (s == [102,114,97,99])=b1;generalize (s == [114,111,111,116])=b2;generalize (s == [109,97,116,114,105,120])=b3;generalize (s == [102,101,110,99,101])=b4;cases b1 <;> cases b2 <;> cases b3 <;> cases b4 <;> rfl
theorem zH1 (s:List UInt8):zDe s=some (acL.any fun e=>e == s):=by
 simp only[zDe,acL,List.any_cons,List.any_nil,zMc [104,97,116] s,zMc [98,97,114] s,zMc [118,101,99] s,zMc [100,111,116] s,zMc [116,105,108,100,101] s,zMc [99,104,101,99,107] s]
 generalize (s == [104,97,116])=b1;generalize (s == [98,97,114])=b2;generalize (s == [118,101,99])=b3;generalize (s == [100,111,116])=b4;generalize (s == [116,105,108,100,101])=b5;generalize (s == [99,104,101,99,107])=b6;cases b1 <;> cases b2 <;> cases b3 <;> cases b4 <;> cases b5 <;> cases b6 <;> rfl
def symB (s:List UInt8):Bool :=
 if s.length=1 then s.all zCX||s.all spB
 else s.all zCX&&(decide (2<=s.length)&&(decide (s.length<=16)&&(!(kwL.any fun e=>e == s)&&!(acL.any fun e=>e == s))))
theorem len1 (s:List UInt8):((s.length:Int) == 1)=decide (s.length=1):=by
 by_cases h:s.length=1
 ·simp[h]
 ·rw[zAL h]
  cases e:((s.length:Int) == 1) with
  | false=>rfl
  | true=>have:=eq_of_beq e; omega
theorem zFc (a b:Nat):decide ((a:Int)<=(b:Int))=decide (a<=b):=by
 by_cases h:a<=b
 ·rw[zAN h,zAN (by omega)]
 ·rw[zAL h,zAL (by omega)]
theorem zSj (a b:Nat):decide ((a:Int)<(b:Int))=decide (a<b):=by
 by_cases h:a<b
 ·rw[zAN h,zAN (by omega)]
 ·rw[zAL h,zAL (by omega)]
theorem zMg (n:Nat) (s:List UInt8) (h:s.length+40<n) (hb:s.length<=1073741824):zD0 n s=some (symB s):=by
 rw[zD0,len1,zLg n s (by omega) hb]
 unfold symB
 by_cases h1:s.length=1
 ·rw[zAN h1,if_pos h1]
  obtain⟨c,rfl⟩:=List.length_eq_one_iff.1 h1;have:zD4 [43,45,42,47,61,60,62,44,59,58,33,124,39,63,126,64] [c]=some (spB c):=rfl;simp only[cond_true,Option.bind_some,this,List.all_cons,List.all_nil,Bool.and_true]
  cases zCX c <;> rfl
 ·rw[zAL h1,if_neg h1]
  have e2:=zFc 2 s.length;have e16:=zFc s.length 16;rw[show((2:Nat):Int)=2 from rfl]at e2;rw[show((16:Nat):Int)=16 from rfl]at e16;simp only[cond_false,Option.bind_some,zLf,zH1,e2,e16]
  cases s.all zCX <;> cases decide (2<=s.length) <;> cases decide (s.length<=16) <;> cases(kwL.any fun e=>e == s) <;> rfl
theorem zOd (n:Nat) (s:List UInt8) (h:s.length+40<n) (hb:s.length<=1073741824):zEy n s=some (symB s):=by
 rw[zEy,len1,zMu n s (by omega) hb]
 unfold symB
 by_cases h1:s.length=1
 ·rw[zAN h1,if_pos h1]
  obtain⟨c,rfl⟩:=List.length_eq_one_iff.1 h1;have e1:at? [c] (0:Int)=some c:=rfl;have e2:zC2 n [43,45,42,47,61,60,62,44,59,58,33,124,39,63,126,64] (c.toNat:Int)=some (spB c):=by
   rw[zM6 n _ _ (by simp only[List.length_cons,List.length_nil]; omega) (by simp only[List.length_cons,List.length_nil]; omega)]
   exact congrArg some (zUo c)
  simp only[cond_true,Option.bind_some,e1,zD2,zJW,e2,List.all_cons,List.all_nil,Bool.and_true]
  cases zCX c <;> rfl
 ·rw[zAL h1,if_neg h1]
  have e2:=zFc 2 s.length;have e16:=zFc s.length 16;rw[show((2:Nat):Int)=2 from rfl]at e2;rw[show((16:Nat):Int)=16 from rfl]at e16;have ek:zEo n kwL s=some (kwL.any fun e=>e == s):=zLA n kwL s (by simp only[kwL,List.length_cons,List.length_nil]; omega) (by simp[kwL])
  have ea:zEo n acL s=some (acL.any fun e=>e == s):=zLA n acL s (by simp only[acL,List.length_cons,List.length_nil]; omega) (by simp[acL])
  have k1:zEp=some kwL:=rfl;have a1:zDg=some acL:=rfl;unfold zMb;simp only[cond_false,Option.bind_some,k1,a1,ek,ea,e2,e16]
  cases s.all zCX <;> cases decide (2<=s.length) <;> cases decide (s.length<=16) <;> cases(kwL.any fun e=>e == s) <;> rfl
def fenB (s:List UInt8):Bool:=decide (s.length=2)&&s.all fsB
theorem len2 (s:List UInt8):((s.length:Int) == 2)=decide (s.length=2):=by
 by_cases h:s.length=2
 ·simp[h]
 ·rw[zAL h]
  cases e:((s.length:Int) == 2) with
  | false=>rfl
  | true=>have:=eq_of_beq e; omega
theorem zNO (s:List UInt8):zEv s=some (fenB s):=by
 rw[zEv,len2]
 unfold fenB
 by_cases h1:s.length=2
 ·rw[zAN h1]
  match s,h1 with
  | [c,d],_ =>
   have e0:at? [c,d] (0:Int)=some c:=rfl;have e1:at? [c,d] (1:Int)=some d:=rfl;have f:∀ c:UInt8,zCB [40,41,91,93,123,125,60,62,47,124,46] (c.toNat:Int)=some (Lib.indexByte fsL c):=fun c=>congrArg some (zTm c)
   have g:∀ c:UInt8,decide (0<=Lib.indexByte fsL c)=fsB c:=fun c=>rfl
   simp only[cond_true,e0,e1,f,Option.bind_some,g,List.all_cons,List.all_nil,Bool.and_true,Bool.true_and]
   cases fsB c <;> rfl
 ·rw[zAL h1]; rfl
theorem zPK (n:Nat) (s:List UInt8) (h:40<n):(bif ((s.length:Int) == 2) then (
        (at? s 0).bind fun c9 =>
        (zC2 n [40,41,91,93,123,125,124,60,62,47,46] (c9.toNat:Int)).bind fun y11 =>
        bif y11 then (
         (at? s 1).bind fun c12 =>
         (zC2 n [40,41,91,93,123,125,124,60,62,47,46] (c12.toNat:Int)).bind fun y14 =>
         some y14
        ) else (
         some false
        )
       ) else (
        some false
       ))=some (fenB s):=by
 rw[len2]
 unfold fenB
 by_cases h1:s.length=2
 ·rw[zAN h1]
  match s,h1 with
  | [c,d],_ =>
   have e0:at? [c,d] (0:Int)=some c:=rfl;have e1:at? [c,d] (1:Int)=some d:=rfl;have f:∀ c:UInt8,zC2 n [40,41,91,93,123,125,124,60,62,47,46] (c.toNat:Int)=some (fsB c):=fun c=>by
    rw[zM6 n _ _ (by simp only[List.length_cons,List.length_nil]; omega) (by simp only[List.length_cons,List.length_nil]; omega)]
    exact congrArg some (zUn c)
   simp only[cond_true,e0,e1,f,Option.bind_some,List.all_cons,List.all_nil,Bool.and_true,Bool.true_and]
   cases fsB c <;> rfl
 ·rw[zAL h1]; rfl
def okL (L:Nat):Nat->List UInt8->Bool
 | _,[]=>true
 | i,c::r=>((c == 46&&(decide (0<i)&&decide (i+1<L)))||zDn c)&&okL L (i+1) r
def numB (s:List UInt8):Bool:=okL s.length 0 s&&(decide (0<s.length)&&(decide (s.length<=20)&&decide (s.count 46<=1)))
theorem zUU (c:UInt8):((c.toNat:Int) == 46)=(c == 46) :=
 of_decide_eq_true (zNk (P:=fun c=>decide (((c.toNat:Int) == 46)=(c == 46))) (by decide +kernel) c)
theorem zUr:zDn 46=false:=by decide
theorem zNQ (s:List UInt8) (hb:s.length<=1073741824):∀ (k i p:Nat),s.length - i<k->i<=s.length->p<=i ->
  zBQ s k (p:Int) (i:Int)=some (if okL s.length i (s.drop i) then .go ((p+(s.drop i).count 46:Nat):Int) else .ret false)
 | 0,_,_,h,_,_=>by omega
 | k+1,i,p,hk,hi,hp=>by
  unfold zBQ
  by_cases h:i<s.length
  ·rw[zAN (Int.ofNat_lt.2 h),cond_true,zBc h,List.drop_eq_getElem_cons h]
   generalize s[i]=c;simp only[Option.bind_some,zUU,zQo,okL,List.count_cons]
   rw[zA4 (by omega),zA4 (by omega),wrap64_in (by omega) (by omega)]
   have d1:decide ((0:Int)<(i:Int))=decide (0<i):=zSj 0 i;have d2:decide ((i:Int)<(s.length:Int) - 1)=decide (i+1<s.length):=by
    by_cases h:i+1<s.length
    ·rw[zAN h,zAN (by omega)]
    ·rw[zAL h,zAL (by omega)]
   rw[d1,d2]
   cases e:c == 46 with
   | true =>
    obtain rfl:c=46:=eq_of_beq e;simp only[cond_true,zUr,Bool.true_and,Bool.or_false]
    cases decide (0<i) with
    | false=>rfl
    | true =>
     simp only[cond_true,Option.bind_some,Bool.true_and]
     cases decide (i+1<s.length) with
     | false=>rfl
     | true =>
      simp only[cond_true,Option.bind_some,Bool.true_and]
      rw[zNQ s hb k (i+1) (p+1) (by omega) (by omega) (by omega)]
      simp only[if_true]
      rw[show p+1+(s.drop (i+1)).count 46=p+((s.drop (i+1)).count 46+1) by omega]
   | false =>
    simp only[cond_false,Option.bind_some,Bool.false_and,Bool.false_or]
    cases zDn c with
    | false=>rfl
    | true =>
     simp only[Bool.not_true,cond_false,Option.bind_some,Bool.true_and]
     rw[zNQ s hb k (i+1) p (by omega) (by omega) (by omega)]
     simp
  ·rw[zAL (by omega),cond_false]
   obtain rfl:i=s.length :=(by omega);simp[okL]
theorem zOc (n:Nat) (s:List UInt8) (h:s.length<n) (hb:s.length<=1073741824):zEx n s=some (numB s):=by
 have:=zNQ s hb n 0 0 (by omega) (by omega) (by omega)
 rw[show((0:Nat):Int)=0 from rfl,List.drop_zero]at this;rw[zEx,this]
 unfold numB;have e0:=zSj 0 s.length;have e20:=zFc s.length 20;have e1:=zFc (s.count 46) 1;rw[show((0:Nat):Int)=0 from rfl]at e0;rw[show((20:Nat):Int)=20 from rfl]at e20;rw[show((1:Nat):Int)=1 from rfl]at e1;cases okL s.length 0 s with
 | false=>rfl
 | true =>
  simp only[if_true,Option.bind_some,e0,e20,Nat.zero_add,e1]
  cases decide (0<s.length) <;> cases decide (s.length<=20) <;> rfl
theorem zO0:∀ s:List UInt8,(s.count 46=0/\Lib.indexByte s 46 = -1)∨∃ a b,s=a++46::b/\a.count 46=0/\Lib.indexByte s 46=(a.length:Int)
 | []=>.inl ⟨rfl,rfl⟩
 | c::s=>by
  by_cases h:c=46
  ·subst h;exact .inr ⟨[],s,rfl,rfl,by simp[Lib.indexByte]⟩
  ·have hc:(c == 46)=false :=(by simpa using h);rcases zO0 s with ⟨h1,h2⟩ | ⟨a,b,rfl,h1,h2⟩
   ·exact .inl ⟨by rw[List.count_cons,h1,hc]; rfl,by simp[Lib.indexByte,hc,h2]⟩
   ·refine .inr ⟨c::a,b,rfl,by rw[List.count_cons,h1,hc]; rfl,?_⟩
    have h3:((a.length:Int) == -1)=false:=by
     cases e:((a.length:Int) == -1) with
     | false=>rfl
     | true=>have:=eq_of_beq e; omega
    simp[Lib.indexByte,hc,h2,h3]
theorem zG9 (L:Nat):∀ (i:Nat) (a:List UInt8),a.count 46=0->okL L i a=a.all zDn
 | _,[],_=>rfl
 | i,c::a,h=>by
  have hc:(c == 46)=false:=by
   cases e:c == 46 with
   | false=>rfl
   | true=>rw[List.count_cons,e]at h; simp at h
  rw[List.count_cons,hc]at h;rw[okL,hc,zG9 L (i+1) a (by simpa using h)]
  simp
theorem zMY (L:Nat):∀ (i:Nat) (a b:List UInt8),okL L i (a++b)=(okL L i a&&okL L (i+a.length) b)
 | _,[],b=>by simp[okL]
 | i,c::a,b=>by
  simp only[List.cons_append,okL,zMY L (i+1) a b,List.length_cons,Bool.and_assoc,show i+1+a.length=i+(a.length+1) by omega]
theorem zNH:∀ a:List UInt8,a.all zDn=true->a.count 46=0
 | [],_=>rfl
 | c::a,h=>by
  simp only[List.all_cons,Bool.and_eq_true]at h;have hc:(c == 46)=false:=by
   cases e:c == 46 with
   | false=>rfl
   | true=>obtain rfl:c=46:=eq_of_beq e; simp[zUr]at h
  rw[List.count_cons,hc,zNH a h.2]; rfl
theorem zUC (a b:List UInt8) (ha:a.count 46=0):numB (a++46::b)=(decide ((a++46::b).length<=20)&&((a.all zDn&&!(a == []))&&(b.all zDn&&!(b == [])))):=by
 unfold numB;have hl:(a++46::b).length=a.length+(b.length+1) :=(by simp);rw[zMY,zG9 _ _ a ha,hl]
 simp only[okL,zUr,Bool.or_false,List.count_append,List.count_cons,ha,beq_self_eq_true,Bool.true_and,if_true,Nat.zero_add]
 have e1:decide (0<a.length) = !(a == []) :=(by cases a <;> rfl);have e2:decide (a.length+1<a.length+(b.length+1)) = !(b == []):=by
  cases b with
  | nil=>simp
  | cons c b=>simp
 have e3:decide (0<a.length+(b.length+1))=true:=zAN (by omega)
 rw[e1,e2,e3]
 cases hb:b.all zDn with
 | true =>
  rw[zG9 _ _ b (zNH b hb),hb,zNH b hb]
  cases a.all zDn <;> cases a == [] <;> cases b == [] <;> cases decide (a.length+(b.length+1)<=20) <;> rfl
 | false =>
  cases hc:decide (b.count 46+1<=1) with
  | true =>
   have:b.count 46=0 :=(by have:=of_decide_eq_true hc; omega);rw[zG9 _ _ b this,hb]
   cases a.all zDn <;> cases a == [] <;> cases b == [] <;> cases decide (a.length+(b.length+1)<=20) <;> rfl
  | false =>
   generalize okL _ _ b=z;cases z <;> cases a.all zDn <;> cases a == [] <;> cases b == [] <;> cases decide (a.length+(b.length+1)<=20) <;> rfl
theorem zSI (s:List UInt8) (h:s.count 46=0):numB s=(decide (s.length<=20)&&(s.all zDn&&!(s == []))):=by
 unfold numB;rw[zG9 _ _ s h,h]
 have e1:decide (0<s.length) = !(s == []) :=(by cases s <;> rfl);rw[e1]
 cases s.all zDn <;> cases s == [] <;> cases decide (s.length<=20) <;> rfl
theorem zMf (n:Nat) (s:List UInt8) (h:s.length<n) (hb:s.length<=1073741824):zDd n s=some (numB s):=by
 have e20:=zFc s.length 20;rw[show((20:Nat):Int)=20 from rfl]at e20;have hi:zDE s [46]=some (Lib.indexByte s 46):=rfl;rcases zO0 s with ⟨h1,h2⟩ | ⟨a,b,rfl,h1,h2⟩
 ·rw[zSI s h1]
  simp only[zDd,zD5,zCn,hi,h2,Option.bind_some,show decide ((0:Int)<=-1)=false from rfl,cond_false,e20,zFX n s h hb]
  cases decide (s.length<=20) <;> cases(s.all zDn&&!(s == [])) <;> rfl
 ·have hl:(a++46::b).length=a.length+(b.length+1) :=(by simp);rw[zUC a b h1]
  have w1:IntKind.i64.wrap ((a.length:Int)+(([46]:List UInt8).length:Int))=((a.length+1:Nat):Int):=zA4 (by omega)
  have t1:((a++46::b).take ((a.length:Int)).toNat).drop (0:Int).toNat=a :=(by simp);have t2:((a++46::b).take (((a++46::b).length:Int)).toNat).drop (((a.length+1:Nat):Int)).toNat=b:=by
   rw[Int.toNat_natCast,Int.toNat_natCast,List.take_length,List.drop_append]
   simp
  simp only[zDd,zD5,zCn,hi,h2,Option.bind_some,w1]
  rw[zAN (by omega),cond_true,zDr (by omega),zDr (by omega),t1,t2]
  simp only[Option.bind_some,e20,zFX n a (by omega) (by omega),zFX n b (by omega) (by omega)]
  cases decide ((a++46::b).length<=20) <;> cases(a.all zDn&&!(a == [])) <;> cases(b.all zDn&&!(b == [])) <;> rfl
def Nd.kind:Nd->Int | .mk k _ _ _=>k
def zPY (k:Int) (t:List UInt8):Bool :=
 if k=2 then symB t else if k=3 then numB t else if k=4 then (decide (t.length<=200)&&t.all zD7) else if k=10 then acL.any (fun e=>e == t) else if k=11 then fenB t else t == []
def zF9 (k c:Int) (m:Int):Bool :=
 if k=12 then decide (1<=c)&&(decide (c<=16)&&(decide (1<=m)&&(decide (m<=256)&&(m.tmod c == 0))))
 else (c == 0)&&(if k=1 then decide (m<=200) else if k=2 then m == 0 else if k=3 then m == 0 else if k=4 then m == 0 else if k=5 then m == 2 else if k=6 then m == 2 else if k=7 then m == 2 else if k=8 then m == 2
  else if k=9 then m == 3 else if k=10 then m == 1 else if k=11 then m == 1 else false)
mutual
def zFh:Nd->Bool
 | .mk k t c ks=>(zPY k t&&zF9 k c (ks.length:Int))&&zDM k ks
def zDM:Int->List Nd->Bool
 | _,[]=>true
 | k,v::vs=>(!((v.kind == 1) == (k == 1))&&zFh v)&&zDM k vs
end
mutual
def Nd.dep:Nd->Nat
 | .mk _ _ _ ks=>Nd.deps ks+1
def Nd.deps:List Nd->Nat
 | []=>0
 | v::vs=>Nat.max v.dep (Nd.deps vs)
end
theorem zMQ {k:Int}{a:List Nd}{i:Nat} (h:i<a.length):zDM k (a.drop i)=((!((a[i].kind == 1) == (k == 1))&&zFh a[i])&&zDM k (a.drop (i+1))):=by
 rw[List.drop_eq_getElem_cons h]; rfl
theorem zO1 {a:List Nd}{i:Nat} (h:i<a.length):Nd.deps (a.drop i)=Nat.max (a[i]).dep (Nd.deps (a.drop (i+1))):=by
 rw[List.drop_eq_getElem_cons h]; rfl
mutual
theorem Nd.dep_cnt:∀ v:Nd,v.dep<=v.cnt
 | .mk _ _ _ ks=>by have:=Nd.deps_cnts ks; simp only[Nd.dep,Nd.cnt]; omega
theorem Nd.deps_cnts:∀ vs:List Nd,Nd.deps vs<=Nd.cnts vs
 | []=>Nat.le_refl _
 | v::vs=>by
  have:=Nd.dep_cnt v; have:=Nd.deps_cnts vs
  simp only[Nd.deps,Nd.cnts]
  exact Nat.max_le.2 ⟨by omega,by omega⟩
end
mutual
theorem Nd.cnt_w:∀ v:Nd,v.cnt<=v.w
 | .mk _ t _ ks=>by have:=Nd.cnts_ws ks; simp only[Nd.cnt,Nd.w]; omega
theorem Nd.cnts_ws:∀ vs:List Nd,Nd.cnts vs<=Nd.ws vs
 | []=>Nat.le_refl _
 | v::vs=>by have:=Nd.cnt_w v; have:=Nd.cnts_ws vs; simp only[Nd.cnts,Nd.ws]; omega
end
theorem zCI {a b:Int} (h:a ≠ b):(a == b)=false:=by
 cases e:(a == b) with
 | false=>rfl
 | true=>exact absurd (eq_of_beq e) h
theorem zQK (n:Nat) (k:Int) (t:List UInt8) (c:Int) (ks:List Nd) (h:t.length+40<n) (hb:t.length<=1073741824):zGg n (.mk k t c ks)=some (zPY k t):=by
 have e200:=zFc t.length 200;rw[show((200:Nat):Int)=200 from rfl]at e200;have ea:zEo n acL t=some (acL.any fun e=>e == t):=zLA n acL t (by simp only[acL,List.length_cons,List.length_nil]; omega) (by simp[acL])
 have a1:zDg=some acL:=rfl;unfold zGg zPY;dsimp only
 by_cases h2:k=2
 ·subst h2; simp only[beq_self_eq_true,cond_true,zOd n t h hb,Option.bind_some,if_true]
 rw[zCI h2,if_neg h2,cond_false]
 by_cases h3:k=3
 ·subst h3; simp only[beq_self_eq_true,cond_true,zOc n t (by omega) hb,Option.bind_some,if_true]
 rw[zCI h3,if_neg h3,cond_false]
 by_cases h4:k=4
 ·subst h4; simp only[beq_self_eq_true,cond_true,zGE n t (by omega) hb,Option.bind_some,if_true,e200]
  cases decide (t.length<=200) <;> rfl
 rw[zCI h4,if_neg h4,cond_false]
 by_cases h10:k=10
 ·subst h10; simp only[beq_self_eq_true,cond_true,a1,ea,Option.bind_some,if_true]
 rw[zCI h10,if_neg h10,cond_false]
 by_cases h11:k=11
 ·subst h11; rw[if_pos rfl,beq_self_eq_true,cond_true,zPK n t (by omega)]; rfl
 rw[zCI h11,if_neg h11,cond_false]
theorem kinds (k:Int):k=1∨k=2∨k=3∨k=4∨k=5∨k=6∨k=7∨k=8∨k=9∨k=10∨k=11∨k=12∨(k<1∨12<k):=by omega
theorem zQJ (k:Int) (t:List UInt8) (c:Int) (ks:List Nd):zGf (.mk k t c ks)=some (zF9 k c (ks.length:Int)):=by
 unfold zGf;dsimp only;generalize (ks.length:Int)=m;rcases kinds k with rfl | rfl | rfl | rfl | rfl | rfl | rfl | rfl | rfl | rfl | rfl | rfl | h
 ·simp only[bne,zF9]; generalize (c == 0)=z; generalize decide (m<=200)=y; cases z <;> rfl
 ·simp only[bne,zF9]; generalize (c == 0)=z; generalize (m == 0)=y; cases z <;> rfl
 ·simp only[bne,zF9]; generalize (c == 0)=z; generalize (m == 0)=y; cases z <;> rfl
 ·simp only[bne,zF9]; generalize (c == 0)=z; generalize (m == 0)=y; cases z <;> rfl
 ·simp only[bne,zF9]; generalize (c == 0)=z; generalize (m == 2)=y; cases z <;> rfl
 ·simp only[bne,zF9]; generalize (c == 0)=z; generalize (m == 2)=y; cases z <;> rfl
 ·simp only[bne,zF9]; generalize (c == 0)=z; generalize (m == 2)=y; cases z <;> rfl
 ·simp only[bne,zF9]; generalize (c == 0)=z; generalize (m == 2)=y; cases z <;> rfl
 ·simp only[bne,zF9]; generalize (c == 0)=z; generalize (m == 3)=y; cases z <;> rfl
 ·simp only[bne,zF9]; generalize (c == 0)=z; generalize (m == 1)=y; cases z <;> rfl
 ·simp only[bne,zF9]; generalize (c == 0)=z; generalize (m == 1)=y; cases z <;> rfl
 ·unfold zF9;rw[if_pos rfl,beq_self_eq_true,cond_true]
  by_cases h1:1<=c
  ·rw[zAN h1,zDr (by omega)]
   generalize (m.tmod c == 0)=y;cases decide (c<=16) <;> cases decide (1<=m) <;> cases decide (m<=256) <;> rfl
  ·rw[zAL h1]; rfl
 ·have e:∀ i:Int,1<=i->i<=12->(k == i)=false:=fun i h1 h2=>zCI (by omega)
  have f:∀ i:Int,1<=i->i<=12->k ≠ i:=fun i h1 h2=>by omega
  unfold zF9;rw[if_neg (f 12 (by decide) (by decide)),if_neg (f 1 (by decide) (by decide)),if_neg (f 2 (by decide) (by decide)),if_neg (f 3 (by decide) (by decide)),if_neg (f 4 (by decide) (by decide)),if_neg (f 5 (by decide) (by decide)),
   if_neg (f 6 (by decide) (by decide)),if_neg (f 7 (by decide) (by decide)),if_neg (f 8 (by decide) (by decide)),if_neg (f 9 (by decide) (by decide)),if_neg (f 10 (by decide) (by decide)),if_neg (f 11 (by decide) (by decide))]
  rw[e 12 (by decide) (by decide),e 1 (by decide) (by decide),e 2 (by decide) (by decide),e 3 (by decide) (by decide),e 4 (by decide) (by decide),e 5 (by decide) (by decide),
   e 6 (by decide) (by decide),e 7 (by decide) (by decide),e 8 (by decide) (by decide),e 9 (by decide) (by decide),e 10 (by decide) (by decide),e 11 (by decide) (by decide)]
  cases(c == 0) <;> cases(c != 0) <;> rfl
theorem zU2 (n:Nat) (x:Int) (k:Int) (t:List UInt8) (c:Int) (ks:List Nd) (h:t.length+40<n) (hb:t.length<=1073741824) :
  zB4 n ((),x) (.mk k t c ks)=some (zPY k t&&zF9 k c (ks.length:Int),((),x)):=by
 have e200:=zFc t.length 200;rw[show((200:Nat):Int)=200 from rfl]at e200;unfold zB4;dsimp only;generalize (ks.length:Int)=m;have em:zBJ t=some (t == []):=rfl;rcases kinds k with rfl | rfl | rfl | rfl | rfl | rfl | rfl | rfl | rfl | rfl | rfl | rfl | h
 ·simp only[em]
  show _=some ((t == [])&&((c == 0)&&decide (m<=200)),((),x))
  cases t == [] <;> cases c == 0 <;> rfl
 ·simp only[zMg n t h hb]
  show _=some (symB t&&((c == 0)&&(m == 0)),((),x))
  cases symB t <;> cases c == 0 <;> rfl
 ·simp only[zMf n t (by omega) hb]
  show _=some (numB t&&((c == 0)&&(m == 0)),((),x))
  cases numB t <;> cases c == 0 <;> rfl
 ·simp only[zNP n t (by omega) hb,e200]
  show _=some ((decide (t.length<=200)&&t.all zD7)&&((c == 0)&&(m == 0)),((),x))
  cases decide (t.length<=200) <;> cases t.all zD7 <;> cases c == 0 <;> rfl
 ·simp only[em]
  show _=some ((t == [])&&((c == 0)&&(m == 2)),((),x))
  cases t == [] <;> cases c == 0 <;> rfl
 ·simp only[em]
  show _=some ((t == [])&&((c == 0)&&(m == 2)),((),x))
  cases t == [] <;> cases c == 0 <;> rfl
 ·simp only[em]
  show _=some ((t == [])&&((c == 0)&&(m == 2)),((),x))
  cases t == [] <;> cases c == 0 <;> rfl
 ·simp only[em]
  show _=some ((t == [])&&((c == 0)&&(m == 2)),((),x))
  cases t == [] <;> cases c == 0 <;> rfl
 ·simp only[em]
  show _=some ((t == [])&&((c == 0)&&(m == 3)),((),x))
  cases t == [] <;> cases c == 0 <;> rfl
 ·simp only[zH1]
  show _=some ((acL.any fun e=>e == t)&&((c == 0)&&(m == 1)),((),x))
  cases(acL.any fun e=>e == t) <;> cases c == 0 <;> rfl
 ·simp only[zNO]
  show _=some (fenB t&&((c == 0)&&(m == 1)),((),x))
  cases fenB t <;> cases c == 0 <;> rfl
 ·simp only[em]
  show _=some ((t == [])&&(decide (1<=c)&&(decide (c<=16)&&(decide (1<=m)&&(decide (m<=256)&&(m.tmod c == 0))))),((),x))
  by_cases h1:1<=c
  ·rw[zAN h1,zDr (by omega)]
   generalize (m.tmod c == 0)=y;cases t == [] <;> cases decide (c<=16) <;> cases decide (1<=m) <;> cases decide (m<=256) <;> rfl
  ·rw[zAL h1]
   cases t == [] <;> rfl
 ·have f:∀ i:Int,1<=i->i<=12->k ≠ i:=fun i h1 h2=>by omega
  have hk:zF9 k c m=false:=by
   unfold zF9;rw[if_neg (f 12 (by decide) (by decide)),if_neg (f 1 (by decide) (by decide)),if_neg (f 2 (by decide) (by decide)),if_neg (f 3 (by decide) (by decide)),if_neg (f 4 (by decide) (by decide)),if_neg (f 5 (by decide) (by decide)),
    if_neg (f 6 (by decide) (by decide)),if_neg (f 7 (by decide) (by decide)),if_neg (f 8 (by decide) (by decide)),if_neg (f 9 (by decide) (by decide)),if_neg (f 10 (by decide) (by decide)),if_neg (f 11 (by decide) (by decide))]
   exact Bool.and_false _
  rw[hk,Bool.and_false]
  by_cases h1:k<1
  ·rw[zAN h1]; rfl
  ·rw[zAL h1,zAN (show 12<k by omega)]; rfl
theorem zI2 {F:Nd->Option Bool}{k:Int}{ks:List Nd} (hF:∀ v∈ks,F v=some (zFh v)) (hl:ks.length<=1073741824) :
  ∀ (q i:Nat),ks.length - i<q->i<=ks.length->zCz F k ks q (i:Int)=some (if zDM k (ks.drop i) then .go () else .ret false)
 | 0,_,h,_=>by omega
 | q+1,i,hq,hi=>by
  unfold zCz
  by_cases h:i<ks.length
  ·rw[zAN (Int.ofNat_lt.2 h),cond_true,zBc h]
   have hf:=hF _ (List.getElem_mem h)
   have g1:=zMQ (k:=k) h;rcases e:ks[i] with ⟨a,b,c,d⟩
   rw[e]at hf g1;simp only[Nd.kind]at g1;generalize zDM k (ks.drop i)=g at g1 ⊢;subst g1;simp only[Option.bind_some,hf]
   rw[zA4 (by omega),zI2 hF hl q (i+1) (by omega) (by omega)]
   cases((a == 1) == (k == 1)) <;> cases zFh (Nd.mk a b c d) <;> simp
  ·rw[zAL (by omega),cond_false]
   obtain rfl:i=ks.length :=(by omega);simp[zDM]
theorem zLB:∀ (n:Nat) (t:Nd),t.w+45<n->t.w<=1073741824->zDh n t=some (zFh t)
 | 0,_,h,_=>by omega
 | n+1,.mk k t c ks,h,hb=>by
  simp only[Nd.w]at h hb;have hl:=Nd.ws_len ks;unfold zDh;rw[zQK n k t c ks (by omega) (by omega),zQJ]
  have:=zI2 (F:=zDh n) (k:=k) (ks:=ks) (fun v hv=>zLB n v (by have:=Nd.w_mem hv; omega) (by have:=Nd.w_mem hv; omega)) (by omega) n 0 (by omega) (by omega)
  rw[show((0:Nat):Int)=0 from rfl,List.drop_zero]at this;simp only[Option.bind_some,this,zFh]
  cases zPY k t <;> cases zF9 k c (ks.length:Int) <;> cases zDM k ks <;> rfl
theorem zH5 {F:Nd->Option Int}{ks:List Nd} (hF:∀ v∈ks,F v=some (v.dep:Int)) (hl:ks.length<=1073741824) :
  ∀ (q i o:Nat),ks.length - i<q->i<=ks.length->zB9 F ks q (o:Int) (i:Int)=some ((Nat.max o (Nd.deps (ks.drop i)):Nat):Int)
 | 0,_,_,h,_=>by omega
 | q+1,i,o,hq,hi=>by
  unfold zB9
  by_cases h:i<ks.length
  ·rw[zAN (Int.ofNat_lt.2 h),cond_true,zBc h,zO1 h]
   have hf:=hF _ (List.getElem_mem h)
   rcases e:ks[i] with ⟨a,b,c,d⟩
   rw[e]at hf;simp only[Option.bind_some,hf]
   have hm:(if (o:Int)<((Nd.mk a b c d).dep:Int) then ((Nd.mk a b c d).dep:Int) else (o:Int))=((Nat.max o (Nd.mk a b c d).dep:Nat):Int):=by
    by_cases g:(o:Int)<((Nd.mk a b c d).dep:Int)
    ·rw[if_pos g]; congr 1; exact(Nat.max_eq_right (by omega)).symm
    ·rw[if_neg g]; congr 1; exact(Nat.max_eq_left (by omega)).symm
   rw[zA4 (by omega),hm,zH5 hF hl q (i+1) _ (by omega) (by omega)]
   congr 2
   exact Nat.max_assoc _ _ _
  ·rw[zAL (by omega),cond_false]
   obtain rfl:i=ks.length :=(by omega);rw[List.drop_length]
   congr 2
   exact(Nat.max_eq_left (Nat.zero_le _)).symm
theorem zJ4:∀ (n:Nat) (t:Nd),t.cnt<n->t.cnt<=67108864->zCx n t=some (t.dep:Int)
 | 0,_,h,_=>by omega
 | n+1,.mk k t c ks,h,hb=>by
  simp only[Nd.cnt]at h hb;have hl:=Nd.cnts_len ks;have hd:=Nd.deps_cnts ks;unfold zCx;have:=zH5 (F:=zCx n) (ks:=ks) (fun v hv=>zJ4 n v (by have:=Nd.cnts_mem hv; omega) (by have:=Nd.cnts_mem hv; omega)) (by omega) n 0 0 (by omega) (by omega)
  rw[show((0:Nat):Int)=0 from rfl,List.drop_zero]at this;rw[this,Option.bind_some,show Nat.max 0 (Nd.deps ks)=Nd.deps ks from Nat.max_eq_right (Nat.zero_le _),zA4 (by omega)]
  rfl
def zAJ (t:Nd):Bool:=(t.kind == 1)&&(zFh t&&(decide (t.cnt<=1000)&&decide (t.dep<=24)))
theorem zDQ (n:Nat) (t:Nd) (h:t.w+45<n) (hb:t.w<=67108864):zA7 n t=some (zAJ t):=by
 have hc:=Nd.cnt_w t;have e1:=zLB n t h (by omega)
 have e2:=zJ3 n t (by omega) (by omega)
 have e3:=zJ4 n t (by omega) (by omega)
 have e4:=zFc t.cnt 1000;rw[show((1000:Nat):Int)=1000 from rfl]at e4;have e5:=zFc t.dep 24;rw[show((24:Nat):Int)=24 from rfl]at e5;obtain⟨k,s,c,ks⟩:=t;unfold zA7 zAJ;simp only[e1,e2,e3,Option.bind_some,e4,e5,Nd.kind]
 cases k == 1 <;> cases zFh (.mk k s c ks) <;> cases decide ((Nd.mk k s c ks).cnt<=1000) <;> rfl
abbrev okN (t:Nd) (x d:Nat):Prop:=zFh t=true/\x+t.cnt<=1000/\d+t.dep<=25
abbrev okNs (k:Int) (vs:List Nd) (x d:Nat):Prop:=zDM k vs=true/\x+Nd.cnts vs<=1000/\d+Nd.deps vs<=24
theorem zMN {F:(Unit×Int)->Nd->Int->Option (Bool×(Unit×Int))}{k:Int}{ks:List Nd}{d:Nat} (hd:d<=24)
  (hF:∀ v∈ks,∀ x:Nat,x<=1000->∃ y,F ((),(x:Int)) v ((d+1:Nat):Int)=some (decide (okN v x (d+1)),((),y))/\(okN v x (d+1)->y=((x+v.cnt:Nat):Int))) (hl:ks.length<=1073741824) :
  ∀ (q i x:Nat),ks.length - i<q->i<=ks.length->x<=1000 ->
   (okNs k (ks.drop i) x d/\zAP F k ks (d:Int) q (x:Int) (i:Int)=some (.go ((x+Nd.cnts (ks.drop i):Nat):Int))) ∨
   (¬ okNs k (ks.drop i) x d/\∃ z,zAP F k ks (d:Int) q (x:Int) (i:Int)=some (.ret (false,((),z))))
 | 0,_,_,h,_,_=>by omega
 | q+1,i,x,hq,hi,hx=>by
  unfold zAP
  by_cases h:i<ks.length
  ·rw[zAN (Int.ofNat_lt.2 h),cond_true,zBc h]
   obtain⟨y,hf,hy⟩:=hF _ (List.getElem_mem h) x hx;have g1:=zMQ (k:=k) h;have g2:=Nd.cnts_drop h;have g3:=zO1 h;rcases e:ks[i] with ⟨a,b,c,ds⟩
   rw[e]at hf hy g1 g2 g3;simp only[Option.bind_some]
   rw[zA4 (by omega),zA4 (by omega),hf]
   simp only[Option.bind_some]
   have g4:Nd.deps (ks.drop i)=Nat.max (Nd.mk a b c ds).dep (Nd.deps (ks.drop (i+1))):=g3;have g5:(Nd.mk a b c ds).dep<=Nd.deps (ks.drop i) :=(by rw[g4]; exact Nat.le_max_left _ _);have g6:Nd.deps (ks.drop (i+1))<=Nd.deps (ks.drop i) :=(by rw[g4]; exact Nat.le_max_right _ _);rw[show((k == 1) == (a == 1))=((a == 1) == (k == 1)) by cases k == 1 <;> cases a == 1 <;> rfl]
   cases hkk:((a == 1) == (k == 1)) with
   | true =>
    simp only[cond_true,Option.bind_some]
    refine .inr ⟨fun⟨h1,_⟩=>?_,_,rfl⟩
    rw[g1]at h1;simp[Nd.kind,hkk]at h1
   | false =>
    simp only[cond_false,Option.bind_some]
    by_cases hok:okN (Nd.mk a b c ds) x (d+1)
    ·rw[zAN hok]
     simp only[Bool.not_true,cond_false]
     rw[hy hok]
     have hp:=(Nd.mk a b c ds).cnt_pos;rcases zMN hd hF hl q (i+1) (x+(Nd.mk a b c ds).cnt) (by omega) (by omega) hok.2.1 with ⟨hr,hr2⟩ | ⟨hr,z,hr2⟩
     ·refine .inl ⟨⟨?_,?_,?_⟩,?_⟩
      ·rw[g1,hr.1,hok.1]; simp[Nd.kind,hkk]
      ·have:=hr.2.1; omega
      ·have:=hr.2.2;have:=hok.2.2;have:Nd.deps (ks.drop i)<=24 - d:=by rw[g4]; exact Nat.max_le.2 ⟨by omega,by omega⟩
       omega
      ·rw[hr2,g2]; congr 3; omega
     ·refine .inr ⟨fun⟨h1,h2,h3⟩=>hr ⟨?_,by omega,by omega⟩,z,hr2⟩
      rw[g1]at h1;simp only[Bool.and_eq_true]at h1;exact h1.2
    ·rw[zAL hok]
     simp only[Bool.not_false,cond_true]
     refine .inr ⟨fun⟨h1,h2,h3⟩=>hok ⟨?_,by omega,by omega⟩,y,rfl⟩
     rw[g1]at h1;simp only[Bool.and_eq_true]at h1;exact h1.1.2
  ·rw[zAL (by omega),cond_false]
   obtain rfl:i=ks.length :=(by omega);rw[List.drop_length]
   exact .inl ⟨⟨rfl,hx,hd⟩,rfl⟩
theorem zQ1:∀ (n:Nat) (t:Nd) (x d:Nat),t.w+45<n->t.w<=67108864->x<=1000->d<=25 ->
  ∃ y,zAY n ((),(x:Int)) t (d:Int)=some (decide (okN t x d),((),y))/\(okN t x d->y=((x+t.cnt:Nat):Int))
 | 0,_,_,_,h,_,_,_=>by omega
 | n+1,.mk k t c ks,x,d,h,hb,hx,hd=>by
  simp only[Nd.w]at h hb;have hl:=Nd.ws_len ks;unfold zAY;rw[zA4 (by omega)]
  by_cases h1:1000<((x+1:Nat):Int)
  ·rw[zAN h1]
   simp only[cond_true,Option.bind_some]
   have hn:¬ okN (.mk k t c ks) x d:=fun⟨_,h2,_⟩=>by simp only[Nd.cnt]at h2; omega
   exact⟨_,by rw[zAL hn],fun h=>absurd h hn⟩
  ·rw[zAL h1,cond_false]
   by_cases h2:24<(d:Int)
   ·rw[zAN h2]
    simp only[cond_true,Option.bind_some]
    have hn:¬ okN (.mk k t c ks) x d:=fun⟨_,_,h2⟩=>by simp only[Nd.dep]at h2; omega
    exact⟨_,by rw[zAL hn],fun h=>absurd h hn⟩
   ·rw[zAL h2,cond_false,zU2 n _ k t c ks (by omega) (by omega)]
    simp only[Option.bind_some]
    cases ho:(zPY k t&&zF9 k c (ks.length:Int)) with
    | false =>
     simp only[Bool.not_false,cond_true]
     have hn:¬ okN (.mk k t c ks) x d:=fun⟨h1,_⟩=>by rw[zFh,ho]at h1; cases h1
     exact⟨_,by rw[zAL hn],fun h=>absurd h hn⟩
    | true =>
     simp only[Bool.not_true,cond_false]
     have:=zMN (F:=zAY n) (k:=k) (ks:=ks) (d:=d) (by omega) (fun v hv z hz=>zQ1 n v z (d+1) (by have:=Nd.w_mem hv; omega) (by have:=Nd.w_mem hv; omega) hz (by omega)) (by omega) n 0 (x+1) (by omega) (by omega) (by omega)
     rw[show((0:Nat):Int)=0 from rfl,List.drop_zero]at this;rcases this with ⟨hr,hr2⟩ | ⟨hr,z,hr2⟩
     ·have hy:okN (.mk k t c ks) x d:=⟨by rw[zFh,ho,hr.1]; rfl,by have:=hr.2.1; simp only[Nd.cnt]; omega,by have:=hr.2.2; simp only[Nd.dep]; omega⟩
      rw[hr2]
      exact⟨_,by rw[zAN hy]; rfl,fun _=>by simp only[Nd.cnt]; omega⟩
     ·have hn:¬ okN (.mk k t c ks) x d:=fun⟨g1,g2,g3⟩=>hr ⟨by rw[zFh,ho]at g1; exact g1,by simp only[Nd.cnt]at g2; omega,by simp only[Nd.dep]at g3; omega⟩
      rw[hr2]
      exact⟨_,by rw[zAL hn]; rfl,fun h=>absurd h hn⟩
theorem zB6 (n:Nat) (t:Nd) (h:t.w+45<n) (hb:t.w<=67108864):zAX n t=some (zAJ t):=by
 obtain⟨y,h1,_⟩:=zQ1 n t 0 1 h hb (by omega) (by omega)
 rw[show((0:Nat):Int)=0 from rfl,show((1:Nat):Int)=1 from rfl]at h1;obtain⟨k,s,c,ks⟩:=t;unfold zAX zAJ;have hk:zFB=some ():=rfl;simp only[hk,h1,Option.bind_some,Nd.kind]
 cases k == 1 with
 | false=>rfl
 | true =>
  simp only[cond_true,Option.bind_some,Bool.true_and,Option.some.injEq,okN]
  cases zFh (.mk k s c ks) with
  | false=>simp
  | true =>
   by_cases g1:(Nd.mk k s c ks).cnt<=1000
   ·by_cases g2:(Nd.mk k s c ks).dep<=24
    ·rw[zAN g1,zAN g2,zAN ⟨rfl,by omega,by omega⟩]; rfl
    ·rw[zAN g1,zAL g2,zAL (fun h=>g2 (by omega))]; rfl
   ·rw[zAL g1,zAL (fun h=>g1 (by omega))]; rfl
def Nd.text:Nd->List UInt8 | .mk _ t _ _=>t
def Nd.cols:Nd->Int | .mk _ _ c _=>c
theorem Nd.cnt_kids:∀ x:Nd,x.cnt=Nd.cnts x.kids+1
 | .mk _ _ _ _=>rfl
def zUR (x y:Nd):Bool:=(x.kind == y.kind)&&(((x.kids.length:Int) == (y.kids.length:Int))&&(x.cols == y.cols))
def rowD (P:Nd->Nd->Nat) (x:Nd) (f:List Nd->Nat):List Nd->Nat
 | []=>x.cnt+f []
 | y::ys=>if zUR x y then min (min (x.cnt+f (y::ys)) (y.cnt+rowD P x f ys)) (P x y+f ys) else min (x.cnt+f (y::ys)) (y.cnt+rowD P x f ys)
def TD (P:Nd->Nd->Nat):List Nd->List Nd->Nat
 | []=>Nd.cnts
 | x::xs=>rowD P x (TD P xs)
def sumD (f:List Nd->List Nd->Nat):List Nd->List Nd->Nat
 | u::us,v::vs=>f u.kids v.kids+sumD f us vs
 | _,_=>0
def txt (x y:Nd):Nat:=bif x.text == y.text then 0 else 1
def PD:Nat->Nd->Nd->Nat
 | 0,_,_=>0
 | n+1,x,y=>txt x y+sumD (TD (PD n)) x.kids y.kids
def D (x y:Nd):Nat:=PD x.cnt x y
theorem zF8 {k:Int}:∀ {a:List Nd}{v:Nd},zDM k a=true->v∈a->zFh v=true/\((v.kind == 1) == (k == 1))=false
 | u::a,v,h,hm=>by
  simp only[zDM,Bool.and_eq_true,Bool.not_eq_true']at h;rcases List.mem_cons.1 hm with rfl | hm
  ·exact⟨h.1.2,h.1.1⟩
  ·exact zF8 h.2 hm
theorem zQ6 {u:Nd} (h:zFh u=true) (hk:u.kind=1):u = .mk 1 [] 0 u.kids/\zDM 1 u.kids=true:=by
 obtain⟨k,t,c,ks⟩:=u;simp only[Nd.kind]at hk;subst hk;simp only[zFh,Bool.and_eq_true]at h;obtain⟨⟨h1,h2⟩,h3⟩:=h;have h1':(t == [])=true:=h1;have h2':((c == 0)&&decide ((ks.length:Int)<=200))=true:=h2;simp only[Bool.and_eq_true]at h2';rw[eq_of_beq h1',eq_of_beq h2'.1]
 exact⟨rfl,h3⟩
theorem zPS {F:Nd->Nd->Option Bool}{a b:List Nd} (hF:∀ u∈a,∀ v∈b,∃ y,F u v=some y/\(y=true↔u=v)) (hl:a.length=b.length) (hb:a.length<=1073741824) :
  ∀ (q i:Nat),a.length - i<q->i<=a.length->∃ y,zBf F a b q (i:Int)=some (if y then .go () else .ret false)/\(y=true↔a.drop i=b.drop i)
 | 0,_,h,_=>by omega
 | q+1,i,hq,hi=>by
  unfold zBf
  by_cases h:i<a.length
  ·have h':i<b.length :=(by omega);rw[zAN (Int.ofNat_lt.2 h),cond_true,zBc h,zBc h']
   obtain⟨y,f1,f2⟩:=hF _ (List.getElem_mem h) _ (List.getElem_mem h')
   have d1:=List.drop_eq_getElem_cons h;have d2:=List.drop_eq_getElem_cons h';rcases e:a[i] with ⟨x1,x2,x3,x4⟩
   rcases e':b[i] with ⟨y1,y2,y3,y4⟩
   rw[e,e']at f1 f2;rw[e]at d1;rw[e']at d2;simp only[Option.bind_some,f1]
   cases y with
   | false =>
    refine⟨false,rfl,⟨(fun h=>by cases h),fun h=>?_⟩⟩
    rw[d1,d2]at h;exact f2.2 (List.cons.inj h).1
   | true =>
    simp only[Bool.not_true,cond_false]
    rw[zA4 (by omega)]
    obtain⟨z,g1,g2⟩:=zPS hF hl hb q (i+1) (by omega) (by omega)
    refine⟨z,g1,?_⟩
    rw[d1,d2,g2,f2.1 rfl]
    simp
  ·rw[zAL (by omega),cond_false]
   obtain rfl:i=a.length :=(by omega);refine⟨true,rfl,?_⟩
   rw[List.drop_length,hl,List.drop_length]
   simp
theorem zIw:∀ N:Nat,(∀ x y:Nd,2 * x.cnt<N->x.cnt<=67108864->∃ r,zBe N x y=some r/\(r=true↔x=y)) /\
  (∀ a b:List Nd,2 * Nd.cnts a+1<N->Nd.cnts a<=67108864->∃ r,zBR N a b=some r/\(r=true↔a=b))
 | 0=>⟨fun _ _ h _=>by omega,fun _ _ h _=>by omega⟩
 | n+1=>by
  obtain⟨ih1,ih2⟩:=zIw n;refine⟨fun x y h hx=>?_,fun a b h ha=>?_⟩
  ·obtain⟨a,b,c,d⟩:=x;obtain⟨a',b',c',d'⟩:=y;simp only[Nd.cnt]at h hx;obtain⟨r,h1,h2⟩:=ih2 d d' (by omega) (by omega)
   unfold zBe;simp only[h1,Option.bind_some]
   cases e1:a == a' with
   | false=>exact⟨false,rfl,⟨(fun h=>by cases h),fun h=>by cases h; simp at e1⟩⟩
   | true =>
    cases e2:b == b' with
    | false=>exact⟨false,rfl,⟨(fun h=>by cases h),fun h=>by cases h; simp at e2⟩⟩
    | true =>
     cases e3:c == c' with
     | false=>exact⟨false,rfl,⟨(fun h=>by cases h),fun h=>by cases h; simp at e3⟩⟩
     | true =>
      refine⟨r,rfl,h2.trans ⟨fun h=>?_,fun h=>by cases h; rfl⟩⟩
      rw[eq_of_beq e1,eq_of_beq e2,eq_of_beq e3,h]
  ·unfold zBR;have l1:=Nd.cnts_len a
   by_cases hl:a.length=b.length
   ·obtain⟨y,g1,g2⟩:=zPS (F:=zBe n) (a:=a) (b:=b) (fun u hu v _=>ih1 u v (by have:=Nd.cnts_mem hu; omega) (by have:=Nd.cnts_mem hu; omega)) hl (by omega) n 0 (by omega) (by omega)
    rw[show((0:Nat):Int)=0 from rfl]at g1;rw[hl,bne_self_eq_false,cond_false,g1]
    refine⟨y,by cases y <;> rfl,g2⟩
   ·have:((a.length:Int) != (b.length:Int))=true:=by
     unfold bne;rw[zCI (by omega)]; rfl
    rw[this]
    exact⟨false,rfl,⟨(fun h=>by cases h),fun h=>absurd (congrArg List.length h) hl⟩⟩
theorem zJe {x:Nd} (h:zAJ x=true):x = .mk 1 [] 0 x.kids/\zDM 1 x.kids=true:=by
 unfold zAJ at h;simp only[Bool.and_eq_true]at h;exact zQ6 h.2.1 (eq_of_beq h.1)
inductive Fd:Nd->List Int->Nd->Prop
 | nil (t:Nd):Fd t [] t
 | step {k:Int} {tx:List UInt8} {c:Int} {ks:List Nd} {i:Nat} {k2:Int} {tx2:List UInt8} {c2:Int} {ks2:List Nd} {s:Nat} {z r:Nd} {p:List Int}
   (hi:ks[i]? = some (.mk k2 tx2 c2 ks2)) (hs:ks2[s]? = some z) (h:Fd z p r):Fd (.mk k tx c ks) ((i:Int)::(s:Int)::p) r
theorem Fd.find {t r:Nd}{p:List Int} (h:Fd t p r):zBl t p=some r:=by
 induction h with
 | nil t=>rw[zBl]
 | @step k tx c ks i k2 tx2 c2 ks2 s z r p hi hs _ ih =>
  have hl:=(List.getElem?_eq_some_iff.1 hi).1;have hl2:=(List.getElem?_eq_some_iff.1 hs).1;rw[zBl,if_pos ⟨by omega,show(i:Int)<(ks.length:Int) by omega⟩]
  simp only[Nd.kids,List.getD_eq_getElem?_getD,Int.toNat_natCast,hi,hs,Option.getD_some]
  rw[if_pos ⟨by omega,show(s:Int)<(ks2.length:Int) by omega⟩]
  exact ih
theorem Fd.of:∀ (N:Nat) (p:List Int) (t r:Nd),p.length<N->zBl t p=some r->Fd t p r
 | 0,p,_,_,h,_=>by omega
 | N+1,[],t,r,_,h=>by
  rw[zBl]at h;cases h;exact .nil t
 | N+1,[_],t,r,_,h=>by
  rw[zBl]at h;cases h
 | N+1,i::s::p,.mk k tx c ks,r,hN,h=>by
  rw[zBl]at h;split at h
  ·rename_i hi
   replace hi:0<=i/\i<ks.length:=hi;obtain⟨i,rfl⟩:=Int.eq_ofNat_of_zero_le hi.1;have hx:ks[i]? = some ks[i]:=List.getElem?_eq_getElem (by omega)
   generalize ks[i]=x at hx;obtain⟨k2,tx2,c2,ks2⟩:=x;simp only[Nd.kids,List.getD_eq_getElem?_getD,Int.toNat_natCast,hx,Option.getD_some]at h;split at h
   ·rename_i hs
    obtain⟨s,rfl⟩:=Int.eq_ofNat_of_zero_le hs.1;have hz:ks2[s]? = some ks2[s]:=List.getElem?_eq_getElem (by omega)
    generalize ks2[s]=z at hz;rw[Int.toNat_natCast,hz,Option.getD_some]at h;exact .step hx hz (Fd.of N p z r (by simp only[List.length_cons]at hN; omega) h)
   ·cases h
  ·cases h
theorem zUv {p:List Int}{t r:Nd} (h:zBl t p=some r):Fd t p r:=Fd.of _ p t r (Nat.lt_succ_self _) h
theorem zHo {t r:Nd}:putL t [] r=r:=by cases t; rw[putL]; intros; contradiction
theorem zEk {k:Int}{tx:List UInt8}{c:Int}{ks:List Nd}{i:Nat}{k2:Int}{tx2:List UInt8}{c2:Int}{ks2:List Nd}{s:Nat}{z r:Nd}{p:List Int} (hi:ks[i]? = some (.mk k2 tx2 c2 ks2)) (hs:ks2[s]? = some z) :
  putL (.mk k tx c ks) ((i:Int)::(s:Int)::p) r = .mk k tx c (ks.set i (.mk k2 tx2 c2 (ks2.set s (putL z p r)))):=by
 rw[putL,Int.toNat_natCast,hi]
 dsimp only;rw[Int.toNat_natCast,hs]
theorem zLT:∀ {ks:List Nd}{i:Nat}{x y:Nd},ks[i]? = some x->Nd.ws (ks.set i y)+x.w=Nd.ws ks+y.w
 | [],i,x,y,h=>by simp at h
 | v::ks,0,x,y,h=>by
  obtain rfl:v=x :=(by simpa using h);simp only[List.set_cons_zero,Nd.ws]; omega
 | v::ks,i+1,x,y,h=>by
  have:=zLT (ks:=ks) (i:=i) (x:=x) (y:=y) (by simpa using h)
  simp only[List.set_cons_succ,Nd.ws]; omega
theorem Fd.w {t z:Nd}{p:List Int} (h:Fd t p z) (r:Nd):(putL t p r).w+z.w=t.w+r.w:=by
 induction h with
 | nil t=>rw[zHo]; omega
 | @step k tx c ks i k2 tx2 c2 ks2 s z r' p hi hs _ ih =>
  rw[zEk hi hs]
  have h1:=zLT (y:=.mk k2 tx2 c2 (ks2.set s (putL z p r))) hi;have h2:=zLT (y:=putL z p r) hs;simp only[Nd.w]at *
  omega
theorem zPU {α:Type}{l:List α}{i:Nat}{x y:α} (h:l[i]? = some x):(l.set i y)[i]? = some y:=by
 rw[List.getElem?_set,if_pos rfl,if_pos (List.getElem?_eq_some_iff.1 h).1]
theorem zKt {α:Type}{l:List α}{i:Nat}{x y:α} (h:l[i]? = some x):(l.set i y).set i x=l:=by
 refine List.ext_getElem? fun j=>?_
 rw[List.set_set,List.getElem?_set]
 split
 ·rename_i e
  subst e;rw[if_pos (List.getElem?_eq_some_iff.1 h).1,h]
 ·rfl
theorem Fd.put {t z:Nd}{p:List Int} (h:Fd t p z) (r:Nd):Fd (putL t p r) p r:=by
 induction h with
 | nil t=>rw[zHo]; exact .nil r
 | @step k tx c ks i k2 tx2 c2 ks2 s z r' p hi hs _ ih =>
  rw[zEk hi hs]
  exact .step (zPU hi) (zPU hs) ih
theorem Fd.put_put {t z:Nd}{p:List Int} (h:Fd t p z) (r q:Nd):putL (putL t p r) p q=putL t p q:=by
 induction h with
 | nil t=>simp only[zHo]
 | @step k tx c ks i k2 tx2 c2 ks2 s z r' p hi hs _ ih =>
  rw[zEk hi hs,zEk hi hs,zEk (zPU hi) (zPU hs),ih]
  simp only[List.set_set]
theorem Fd.put_self {t z:Nd}{p:List Int} (h:Fd t p z):putL t p z=t:=by
 induction h with
 | nil t=>rw[zHo]
 | @step k tx c ks i k2 tx2 c2 ks2 s z r' p hi hs _ ih =>
  rw[zEk hi hs,ih]
  have e1:ks2.set s z=ks2:=by
   have:=zKt (y:=z) hs
   rwa [List.set_set]at this
  have e2:ks.set i (.mk k2 tx2 c2 ks2)=ks:=by
   have:=zKt (y:=.mk k2 tx2 c2 ks2) hi
   rwa [List.set_set]at this
  rw[e1,e2]
theorem Fd.back {t z:Nd}{p:List Int} (h:Fd t p z) (r:Nd):putL (putL t p r) p z=t:=by rw[h.put_put,h.put_self]
theorem zGZ:∀ {ks:List Nd}{v:Nd},v∈ks->v.dep<=Nd.deps ks
 | u::ks,v,h=>by
  simp only[Nd.deps]
  rcases List.mem_cons.1 h with rfl | h
  ·exact Nat.le_max_left _ _
  ·exact Nat.le_trans (zGZ h) (Nat.le_max_right _ _)
theorem zK5 {k:Int}{tx:List UInt8}{c:Int}{ks:List Nd} (h:zFh (.mk k tx c ks)=true):zDM k ks=true:=by
 simp only[zFh,Bool.and_eq_true]at h;exact h.2
theorem Fd.form {t z:Nd}{p:List Int} (h:Fd t p z) (hf:zFh t=true) (hk:t.kind=1):zFh z=true/\z.kind=1:=by
 induction h with
 | nil t=>exact⟨hf,hk⟩
 | @step k tx c ks i k2 tx2 c2 ks2 s z r' p hi hs _ ih =>
  obtain⟨f1,f2⟩:=zF8 (zK5 hf) (List.mem_of_getElem? hi)
  obtain⟨g1,g2⟩:=zF8 (zK5 f1) (List.mem_of_getElem? hs)
  have hk:k=1:=hk;subst hk;have f3:(k2 == 1)=false :=(by simpa [Nd.kind] using f2);rw[f3]at g2;refine ih g1 ?_;cases e:z.kind == 1 with
  | true=>exact eq_of_beq e
  | false=>rw[e]at g2; cases g2
theorem Fd.small {t z:Nd}{p:List Int} (h:Fd t p z):z.cnt<=t.cnt/\z.dep<=t.dep/\z.w<=t.w:=by
 induction h with
 | nil t=>exact⟨Nat.le_refl _,Nat.le_refl _,Nat.le_refl _⟩
 | @step k tx c ks i k2 tx2 c2 ks2 s z r' p hi hs _ ih =>
  have m1:=Nd.w_mem (List.mem_of_getElem? hi)
  have m2:=Nd.w_mem (List.mem_of_getElem? hs)
  have n1:=Nd.cnts_mem (List.mem_of_getElem? hi)
  have n2:=Nd.cnts_mem (List.mem_of_getElem? hs)
  have d1:=zGZ (List.mem_of_getElem? hi)
  have d2:=zGZ (List.mem_of_getElem? hs)
  simp only[Nd.w,Nd.cnt,Nd.dep]at *
  omega
theorem Fd.valid {t z:Nd}{p:List Int} (h:Fd t p z) (hv:zAJ t=true):zAJ z=true:=by
 unfold zAJ at hv ⊢;simp only[Bool.and_eq_true,decide_eq_true_eq]at hv ⊢;obtain⟨h1,h2,h3,h4⟩:=hv;obtain⟨f1,f2⟩:=h.form h2 (eq_of_beq h1)
 obtain⟨s1,s2,_⟩:=h.small;exact⟨by rw[f2]; rfl,f1,by omega,by omega⟩
mutual
def posI:List Int->Nat->List Nd->List (List Int)
 | p,i,[]=>[p++[(i:Int)]]
 | p,i,x::xs=>(p++[(i:Int)])::(posX p i x++posI p (i+1) xs)
def posX:List Int->Nat->Nd->List (List Int)
 | p,i,.mk _ _ _ ks=>posS p i 0 ks
def posS:List Int->Nat->Nat->List Nd->List (List Int)
 | _,_,_,[]=>[]
 | p,i,s,u::us=>posU (p++[(i:Int),(s:Int)]) u++posS p i (s+1) us
def posU:List Int->Nd->List (List Int)
 | p,.mk _ _ _ ks=>posI p 0 ks
end
def inL:List Nd->List Int->Prop
 | l,[o]=>0<=o/\o<=(l.length:Int)
 | l,i::s::r=>0<=i/\∃ x,l[i.toNat]? = some x/\0<=s/\∃ u,x.kids[s.toNat]? = some u/\inL u.kids r
 | _,[]=>False
theorem zK7 {l:List Nd}{o:Int}:inL l [o]↔0<=o/\o<=(l.length:Int):=Iff.rfl
theorem zFi {l:List Nd}{i s:Int}{r:List Int}:inL l (i::s::r)↔0<=i/\∃ x,l[i.toNat]? = some x/\0<=s/\∃ u,x.kids[s.toNat]? = some u/\inL u.kids r:=by
 cases r <;> rfl
mutual
theorem zRf:∀ (p:List Int) (i:Nat) (xs:List Nd) (q:List Int),q∈posI p i xs↔∃ a r,q=p++a::r/\(i:Int)<=a/\inL xs ((a - i)::r)
 | p,i,[],q=>by
  rw[posI,List.mem_singleton]
  constructor
  ·rintro rfl
   exact⟨i,[],rfl,Int.le_refl _,by rw[Int.sub_self]; exact⟨Int.le_refl _,Int.le_refl _⟩⟩
  ·rintro⟨a,r,rfl,h1,h2⟩
   cases r with
   | nil =>
    have:=zK7.1 h2
    have e:a=i:=by simp at this; omega
    rw[e]
   | cons s r =>
    obtain⟨_,x,h,_⟩:=zFi.1 h2
    simp at h
 | p,i,x::xs,q=>by
  rw[posI,List.mem_cons,List.mem_append,zTz p i x q,zRf p (i+1) xs q]
  constructor
  ·rintro(rfl | ⟨s,r,rfl,h0,u,h1,h2⟩ | ⟨a,r,rfl,h1,h2⟩)
   ·exact⟨i,[],rfl,Int.le_refl _,by rw[Int.sub_self]; exact⟨Int.le_refl _,by simp; omega⟩⟩
   ·refine⟨i,s::r,by simp,Int.le_refl _,?_⟩
    rw[Int.sub_self]
    exact zFi.2 ⟨Int.le_refl _,x,rfl,h0,u,h1,h2⟩
   ·refine⟨a,r,rfl,by omega,?_⟩
    have e:a - (i:Int)=(a - ((i+1:Nat):Int))+1:=by omega
    rw[e]
    cases r with
    | nil =>
     have:=zK7.1 h2
     exact⟨by omega,by simp; omega⟩
    | cons s r =>
     obtain⟨g0,y,g1,g2⟩:=zFi.1 h2
     refine zFi.2 ⟨by omega,y,?_,g2⟩
     rw[show(a - ((i+1:Nat):Int)+1).toNat=(a - ((i+1:Nat):Int)).toNat+1 by omega]
     simpa using g1
  ·rintro⟨a,r,rfl,h1,h2⟩
   by_cases ha:a=i
   ·subst ha
    rw[Int.sub_self]at h2
    cases r with
    | nil=>exact .inl rfl
    | cons s r =>
     obtain⟨g0,y,g1,g2,u,g3,g4⟩:=zFi.1 h2
     obtain rfl:x=y:=by simpa using g1
     exact .inr (.inl ⟨s,r,by simp,g2,u,g3,g4⟩)
   ·refine .inr (.inr ⟨a,r,rfl,by omega,?_⟩)
    have e:a - (i:Int)=(a - ((i+1:Nat):Int))+1:=by omega
    rw[e]at h2
    cases r with
    | nil =>
     have:=zK7.1 h2
     exact⟨by omega,by simp at this; omega⟩
    | cons s r =>
     obtain⟨g0,y,g1,g2⟩:=zFi.1 h2
     refine zFi.2 ⟨by omega,y,?_,g2⟩
     rw[show(a - ((i+1:Nat):Int)+1).toNat=(a - ((i+1:Nat):Int)).toNat+1 by omega]at g1
     simpa using g1
theorem zTz:∀ (p:List Int) (i:Nat) (x:Nd) (q:List Int),q∈posX p i x↔∃ s r,q=p++[(i:Int)]++s::r/\0<=s/\∃ u,x.kids[s.toNat]? = some u/\inL u.kids r
 | p,i,.mk k t c ks,q=>by
  rw[posX,zRg p i 0 ks q]
  constructor
  ·rintro⟨s,r,h1,h2,u,h3,h4⟩
   exact⟨s,r,h1,by omega,u,by simpa [Nd.kids] using h3,h4⟩
  ·rintro⟨s,r,h1,h2,u,h3,h4⟩
   exact⟨s,r,h1,by omega,u,by simpa [Nd.kids] using h3,h4⟩
theorem zRg:∀ (p:List Int) (i s:Nat) (us:List Nd) (q:List Int),q∈posS p i s us↔∃ b r,q=p++[(i:Int)]++b::r/\(s:Int)<=b/\∃ u,us[(b - s).toNat]? = some u/\inL u.kids r
 | p,i,s,[],q=>by
  rw[posS]
  constructor
  ·intro h; cases h
  ·rintro⟨b,r,_,_,u,h,_⟩; simp at h
 | p,i,s,u::us,q=>by
  rw[posS,List.mem_append,zRh (p++[(i:Int),(s:Int)]) u q,zRg p i (s+1) us q]
  constructor
  ·rintro(⟨r,rfl,h⟩ | ⟨b,r,rfl,h1,v,h2,h3⟩)
   ·exact⟨s,r,by simp,Int.le_refl _,u,by rw[Int.sub_self]; rfl,h⟩
   ·refine⟨b,r,rfl,by omega,v,?_,h3⟩
    rw[show(b - (s:Int)).toNat=(b - ((s+1:Nat):Int)).toNat+1 by omega]
    simpa using h2
  ·rintro⟨b,r,rfl,h1,v,h2,h3⟩
   by_cases hb:b=s
   ·subst hb
    rw[Int.sub_self]at h2
    obtain rfl:u=v:=by simpa using h2
    exact .inl ⟨r,by simp,h3⟩
   ·refine .inr ⟨b,r,rfl,by omega,v,?_,h3⟩
    rw[show(b - (s:Int)).toNat=(b - ((s+1:Nat):Int)).toNat+1 by omega]at h2
    simpa using h2
theorem zRh:∀ (p:List Int) (u:Nd) (q:List Int),q∈posU p u↔∃ r,q=p++r/\inL u.kids r
 | p,.mk k t c ks,q=>by
  rw[posU,zRf p 0 ks q]
  constructor
  ·rintro⟨a,r,rfl,h1,h2⟩
   exact⟨a::r,rfl,by simpa [Nd.kids] using h2⟩
  ·rintro⟨r,rfl,h⟩
   cases r with
   | nil=>exact h.elim
   | cons a r =>
    refine⟨a,r,rfl,?_,by simpa [Nd.kids] using h⟩
    cases r with
    | nil=>exact(zK7.1 h).1
    | cons s r=>exact(zFi.1 h).1
end
def posT (t:Nd):List (List Int):=posU [] t
theorem zNN (t:Nd) (q:List Int):q∈posT t↔inL t.kids q:=by
 unfold posT;rw[zRh]
 constructor
 ·rintro⟨r,rfl,h⟩; exact h
 ·intro h; exact⟨q,rfl,h⟩
mutual
theorem zOa:∀ (p:List Int) (i:Nat) (xs:List Nd),(posI p i xs).length<=Nd.cnts xs+1
 | p,i,[]=>by rw[posI]; simp
 | p,i,x::xs=>by
  have h1:=zTJ p i x
  have h2:=zOa p (i+1) xs
  rw[posI]
  simp only[List.length_cons,List.length_append,Nd.cnts]
  omega
theorem zTJ:∀ (p:List Int) (i:Nat) (x:Nd),(posX p i x).length+1<=x.cnt
 | p,i,.mk k t c ks=>by
  have h:=zRo p i 0 ks
  rw[posX]
  simp only[Nd.cnt]
  omega
theorem zRo:∀ (p:List Int) (i s:Nat) (us:List Nd),(posS p i s us).length<=Nd.cnts us
 | p,i,s,[]=>by rw[posS]; simp
 | p,i,s,u::us=>by
  have h1:=zRp (p++[(i:Int),(s:Int)]) u
  have h2:=zRo p i (s+1) us
  rw[posS]
  simp only[List.length_append,Nd.cnts]
  omega
theorem zRp:∀ (p:List Int) (u:Nd),(posU p u).length<=u.cnt
 | p,.mk k t c ks=>by
  have h:=zOa p 0 ks
  rw[posU]
  simp only[Nd.cnt]
  omega
end
theorem zTI (t:Nd):(posT t).length<=t.cnt:=zRp [] t
theorem zSy:∀ (q:List Int) (l:List Nd),inL l q->q.length<=2 * Nd.deps l+1
 | [],_,h=>h.elim
 | [_],_,_=>by simp
 | i::s::r,l,h=>by
  obtain⟨_,x,h1,_,u,h2,h3⟩:=zFi.1 h;have ih:=zSy r u.kids h3;have d1:=zGZ (List.mem_of_getElem? h1)
  have d2:=zGZ (List.mem_of_getElem? h2)
  have e1:x.dep=Nd.deps x.kids+1 :=(by cases x; rfl);have e2:u.dep=Nd.deps u.kids+1 :=(by cases u; rfl);simp only[List.length_cons]
  omega
def hd (l:List UInt8) (s:List UInt8):Prop:=∀ b r,l=b::r->b∈s
theorem zMX {F:Nd->Nd->Option Bool}{a b:List Nd} (hF:∀ u∈a,∀ v∈b,∃ y,F u v=some y/\(y=true↔u=v)) (hl:a.length=b.length) (hb:a.length<=1073741824) :
  ∀ (q i:Nat),a.length - i<q->i<=a.length->∃ y,zAM F a b q (i:Int)=some (if y then .go () else .ret false)/\(y=true↔a.drop i=b.drop i)
 | 0,_,h,_=>by omega
 | q+1,i,hq,hi=>by
  unfold zAM
  by_cases h:i<a.length
  ·have h':i<b.length :=(by omega);rw[zAN (Int.ofNat_lt.2 h),cond_true,zBc h,zBc h']
   obtain⟨y,f1,f2⟩:=hF _ (List.getElem_mem h) _ (List.getElem_mem h')
   have d1:=List.drop_eq_getElem_cons h;have d2:=List.drop_eq_getElem_cons h';rcases e:a[i] with ⟨x1,x2,x3,x4⟩
   rcases e':b[i] with ⟨y1,y2,y3,y4⟩
   rw[e,e']at f1 f2;rw[e]at d1;rw[e']at d2;simp only[Option.bind_some,f1]
   cases y with
   | false =>
    refine⟨false,rfl,⟨(fun h=>by cases h),fun h=>?_⟩⟩
    rw[d1,d2]at h;exact f2.2 (List.cons.inj h).1
   | true =>
    simp only[Bool.not_true,cond_false]
    rw[zA4 (by omega)]
    obtain⟨z,g1,g2⟩:=zMX hF hl hb q (i+1) (by omega) (by omega)
    refine⟨z,g1,?_⟩
    rw[d1,d2,g2,f2.1 rfl]
    simp
  ·rw[zAL (by omega),cond_false]
   obtain rfl:i=a.length :=(by omega);refine⟨true,rfl,?_⟩
   rw[List.drop_length,hl,List.drop_length]
   simp
theorem zGt:∀ N:Nat,(∀ x y:Nd,2 * x.cnt<N->x.cnt<=67108864->∃ r,zBI N x y=some r/\(r=true↔x=y)) /\
  (∀ a b:List Nd,2 * Nd.cnts a+1<N->Nd.cnts a<=67108864->∃ r,zAU N a b=some r/\(r=true↔a=b))
 | 0=>⟨fun _ _ h _=>by omega,fun _ _ h _=>by omega⟩
 | n+1=>by
  obtain⟨ih1,ih2⟩:=zGt n;refine⟨fun x y h hx=>?_,fun a b h ha=>?_⟩
  ·obtain⟨a,b,c,d⟩:=x;obtain⟨a',b',c',d'⟩:=y;simp only[Nd.cnt]at h hx;obtain⟨r,h1,h2⟩:=ih2 d d' (by omega) (by omega)
   unfold zBI;simp only[h1,Option.bind_some]
   cases e1:a == a' with
   | false=>exact⟨false,rfl,⟨(fun h=>by cases h),fun h=>by cases h; simp at e1⟩⟩
   | true =>
    cases e2:b == b' with
    | false=>exact⟨false,rfl,⟨(fun h=>by cases h),fun h=>by cases h; simp at e2⟩⟩
    | true =>
     cases e3:c == c' with
     | false=>exact⟨false,rfl,⟨(fun h=>by cases h),fun h=>by cases h; simp at e3⟩⟩
     | true =>
      refine⟨r,rfl,h2.trans ⟨fun h=>?_,fun h=>by cases h; rfl⟩⟩
      rw[eq_of_beq e1,eq_of_beq e2,eq_of_beq e3,h]
  ·unfold zAU;have l1:=Nd.cnts_len a
   by_cases hl:a.length=b.length
   ·obtain⟨y,g1,g2⟩:=zMX (F:=zBI n) (a:=a) (b:=b) (fun u hu v _=>ih1 u v (by have:=Nd.cnts_mem hu; omega) (by have:=Nd.cnts_mem hu; omega)) hl (by omega) n 0 (by omega) (by omega)
    rw[show((0:Nat):Int)=0 from rfl]at g1;rw[hl,bne_self_eq_false,cond_false,g1]
    refine⟨y,by cases y <;> rfl,g2⟩
   ·have:((a.length:Int) != (b.length:Int))=true:=by
     unfold bne;rw[zCI (by omega)]; rfl
    rw[this]
    exact⟨false,rfl,⟨(fun h=>by cases h),fun h=>absurd (congrArg List.length h) hl⟩⟩
end Go.Proofs.YtgplhldfbkmmgaaGreat
