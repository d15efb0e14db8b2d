/-
  Joined out of: FzKA, FzKB, FzKC, PTypO, PCnt, PByte, PText, PVal, PDist, PMet, PPut, PPos, PDump.
-/
import Derived.Lib.ItoaLen
import Derived.Test.YtgplhldfbkmmgaaGreatZd
set_option linter.unusedVariables false
set_option linter.unusedSimpArgs false
set_option maxHeartbeats 2000000
set_option maxRecDepth 100000
namespace Go.Proofs.YtgplhldfbkmmgaaGreat
open Go.Abs
def zOX (n:Nat) (xs:List AV) (r:Ret):Prop:=∃ (a0:List UInt8) (y0:Bool),zEr n a0=some y0/\xs=[.s (.str a0)]/\r = .val (.s (.bool y0))
def zJH:zAp:=zAn fun xs r=>∃ n,zOX n xs r
theorem zNP:PSound Tryz.prog 72 zJH:=by
 have gok:=@gok0 Tryz.prog;refine zAo tokW Tryz.call72 Tryz.func72 rfl (fun xs r h=>by obtain⟨n,_,_,_,rfl,_⟩:=h; show 1<=23; decide) 23 rfl ?_;rintro xs r w0 G0 ⟨n,s1,y0,h,rfl,rfl⟩ _;rw[zEr]at h;refine zYc ?_;refine zAa ?_;refine zYc ?_;show Tri ..;obtain⟨fl,hl,ho1⟩:=zAc h;refine zBO (fl:=fl) (fun z=>match z with | _=>⟨ofL [(0,.s (.str s1))],fun _=>none,0⟩) ?_ (fun z σ' hz hle=>?_)
 ·refine zAj (zAt (X:=Nat×Int) (fun y=>match y with | (k,i2)=>⟨ofL [(0,.s (.str s1)),(3,.s (.int .i64 i2))],fun _=>none,0⟩) (fun y=>zBs s1 y.1 y.2=some fl) (fun y=>y.1) (n,0) hl ?_ ?_)
  ·exact(Le.forget _ ⟨rfl,rfl,trivial⟩)
  ·rintro⟨k,i2⟩ h;cases k with
   | zero=>cases h
   | succ k =>
    replace h:zBs s1 (k+1) i2=some fl:=h;rw[zBs]at h;refine zAa ?_;refine zYc ?_;refine zAg rfl h (fun hb h=>?_) (fun hb h=>?_)
    ·refine zAe ?_;refine zAa ?_;refine zAj ?_;refine zAa ?_;obtain⟨x3,hj,h⟩:=zAc h;refine zAk ⟨ofL [(0,.s (.str s1)),(3,.s (.int .i64 i2)),(19,.s (.bool x3))],fun _=>none,0⟩ ?_ (fun σ' hle=>?_)
     ·replace h:=hj;refine zAb [] [12,14,17] rfl ?_;obtain⟨c4,hc4,h⟩:=zAc h;refine And.intro (zBB hc4).1 ?_;intro v5 hv5;obtain rfl:(c4.toNat:Int)=v5:=(hv5.trans (zBB hc4).2).symm;intro b hb;cases b with
      | true =>
       replace h:=zAv hb.symm h;cases h;exact(Le.forget _ ⟨rfl,rfl,rfl,trivial⟩)
      | false =>
       replace h:=zAu hb.symm h;obtain⟨c6,hc6,h⟩:=zAc h;refine And.intro (zBB hc6).1 ?_;intro v7 hv7;obtain rfl:(c6.toNat:Int)=v7:=(hv7.trans (zBB hc6).2).symm;cases h;exact(Le.forget _ ⟨rfl,rfl,rfl,trivial⟩)
     ·refine zAi hle ?_;refine zAg rfl h (fun hb h=>?_) (fun hb h=>?_)
      ·refine zYc ?_;refine zAd ?_;cases h;replace h:some _=some _:=ho1;have hy:=osi h;subst hy;exact fin0 rfl rfl
      ·refine zAe ?_;refine zYb ?_;refine⟨(k,IntKind.i64.wrap (i2+1)),h,(Le.forget _ ⟨rfl,rfl,trivial⟩),Nat.lt_succ_self k⟩
    ·refine zAx ?_;cases h;exact⟨_,rfl,(Le.forget _ ⟨rfl,trivial⟩)⟩
 ·subst hz;obtain _:=z;replace h:=ho1;refine zAi hle ?_;refine zYc ?_;refine zAd ?_;have hy:=osi h;subst hy;exact fin0 rfl rfl
def zO2 (n:Nat) (xs:List AV) (r:Ret):Prop:=∃ (a0:Nd) (a1:List Int) (y0:Bool),zEt n a0 a1=some y0/\xs=[.agg ((Nd.enc a0).map .s),.s (.sl 1 ((List.map (irow .i64)) a1))]/\r = .val (.s (.bool y0))
def zJL:zAp:=zAn fun xs r=>∃ n,zO2 n xs r
theorem zNT:PSound Tryz.prog 149 zJL:=by
 have gok:=@gok0 Tryz.prog;refine zAo tokW Tryz.call149 Tryz.func149 rfl (fun xs r h=>by obtain⟨n,_,_,_,_,rfl,_⟩:=h; show 2<=77; decide) 77 rfl ?_;rintro xs r w0 G0 ⟨n,⟨a1A,a1B,a1D,a1C⟩,a2,y0,h,rfl,rfl⟩ _;rw[zEt]at h;refine zYc ?_;refine zYc ?_;refine zAa ?_;obtain⟨fl,hl,ho1⟩:=zAc h
 refine zBO (fl:=fl) (fun z=>match z with | ⟨x5,⟨x6A,x6B,x6D,x6C⟩⟩=>⟨ofL [(1,.s (.sl 1 ((List.map (irow .i64)) x5))),(5,.s (.pt [.int .i64 x6A,.str x6B,.int .i64 x6D,.sl 4 (Nd.encs x6C)]))],fun _=>none,0⟩) ?_ (fun z σ' hz hle=>?_)
 ·refine zAj (zAt (X:=Nat×(List Int)×Nd) (fun y=>match y with | (k,x3,⟨x4A,x4B,x4D,x4C⟩)=>⟨ofL [(1,.s (.sl 1 ((List.map (irow .i64)) x3))),(5,.s (.pt [.int .i64 x4A,.str x4B,.int .i64 x4D,.sl 4 (Nd.encs x4C)]))],fun _=>none,0⟩) (fun y=>zBR  y.1 y.2.1 y.2.2=some fl) (fun y=>y.1) (n,a2,Nd.mk a1A a1B a1D a1C) hl ?_ ?_)
  ·exact(Le.forget _ ⟨rfl,rfl,trivial⟩)
  ·rintro⟨k,x3,⟨x4A,x4B,x4D,x4C⟩⟩ h;cases k with
   | zero=>cases h
   | succ k =>
    replace h:zBR  (k+1) x3 ⟨x4A,x4B,x4D,x4C⟩=some fl:=h;rw[zBR]at h;refine zAa ?_;refine zXw [] [9] rfl ?_;intro n7 hn7;obtain rfl:(x3.length:Int)=n7:=(hn7.trans (congrArg (fun m:Nat=>(m:Int)) (rlen (fun _=>rfl) x3))).symm;refine zAg rfl h (fun hb h=>?_) (fun hb h=>?_)
    ·refine zAe ?_;refine zAa ?_;refine zAj ?_;refine zAa ?_;refine zAO [] [14,17] [] rfl (by decide +kernel) ?_;obtain⟨e8,he8,h⟩:=zAc h;refine And.intro (zAr (fun _=>rfl) he8).1 ?_;intro r9 hr9;obtain rfl:[.int .i64 e8]=r9:=(hr9.trans (zAr (fun _=>rfl) he8).2.1).symm;obtain⟨e10,he10,h⟩:=zAc h;refine And.intro (zAr (fun _=>rfl) he10).1 ?_;intro r11 hr11;obtain rfl:[.int .i64 e10]=r11:=(hr11.trans (zAr (fun _=>rfl) he10).2.1).symm;refine zAa ?_;refine zAa ?_;obtain⟨x12,hj,h⟩:=zAc h
     refine zAk ⟨ofL [(1,.s (.sl 1 ((List.map (irow .i64)) x3))),(5,.s (.pt [.int .i64 x4A,.str x4B,.int .i64 x4D,.sl 4 (Nd.encs x4C)])),(6,.s (.int .i64 e8)),(7,.s (.int .i64 e10)),(46,.s (.bool x12))],fun _=>none,0⟩ ?_ (fun σ' hle=>?_)
     ·replace h:=hj;refine zAb [] [21,27,30,34,41,44] rfl ?_;intro b hb;cases b with
      | true =>
       replace h:=zAv hb.symm h;intro b hb;subst hb;intro b hb;subst hb;cases h;exact(Le.forget _ ⟨rfl,rfl,rfl,rfl,rfl,trivial⟩)
      | false =>
       replace h:=zAu hb.symm h;intro n13 hn13;obtain rfl:(x4C.length:Int)=n13:=(hn13.trans (congrArg (fun m:Nat=>(m:Int)) (rlen Nd.encs_eq x4C))).symm;intro b hb;cases b with
       | true =>
        replace h:=zAv hb.symm h;intro b hb;subst hb;cases h;exact(Le.forget _ ⟨rfl,rfl,rfl,rfl,rfl,trivial⟩)
       | false =>
        replace h:=zAu hb.symm h;intro b hb;cases b with
        | true =>
         replace h:=zAv hb.symm h;cases h;exact(Le.forget _ ⟨rfl,rfl,rfl,rfl,rfl,trivial⟩)
        | false =>
         replace h:=zAu hb.symm h;obtain⟨⟨e14A,e14B,e14D,e14C⟩,he14,h⟩:=zAc h;refine And.intro (zAr Nd.encs_eq he14).1 ?_;intro r15 hr15;obtain rfl:[.int .i64 e14A,.str e14B,.int .i64 e14D,.sl 4 (Nd.encs e14C)]=r15:=(hr15.trans (zAr Nd.encs_eq he14).2.1).symm;intro n16 hn16;obtain rfl:(e14C.length:Int)=n16:=(hn16.trans (congrArg (fun m:Nat=>(m:Int)) (rlen Nd.encs_eq e14C))).symm;cases h;exact(Le.forget _ ⟨rfl,rfl,rfl,rfl,rfl,trivial⟩)
     ·refine zAi hle ?_;refine zAg rfl h (fun hb h=>?_) (fun hb h=>?_)
      ·refine zYc ?_;refine zAd ?_;cases h;replace h:some _=some _:=ho1;have hy:=osi h;subst hy;exact fin0 rfl rfl
      ·refine zAe ?_;refine zAb [] [52,56] rfl ?_;obtain⟨⟨e17A,e17B,e17D,e17C⟩,he17,h⟩:=zAc h;refine And.intro (zAr Nd.encs_eq he17).1 ?_;intro r18 hr18;obtain rfl:[.int .i64 e17A,.str e17B,.int .i64 e17D,.sl 4 (Nd.encs e17C)]=r18:=(hr18.trans (zAr Nd.encs_eq he17).2.1).symm;obtain⟨⟨e19A,e19B,e19D,e19C⟩,he19,h⟩:=zAc h;refine And.intro (zAr Nd.encs_eq he19).1 ?_;intro r20 hr20;obtain rfl:[.int .i64 e19A,.str e19B,.int .i64 e19D,.sl 4 (Nd.encs e19C)]=r20:=(hr20.trans (zAr Nd.encs_eq he19).2.1).symm;refine zAb [] [12] rfl ?_
       obtain⟨hq,h⟩:=zAy h;refine And.intro ⟨hq.1,Int.le_trans hq.2.1 (Int.ofNat_le.2 (Nat.le_of_eq (rlen (fun _=>rfl) _).symm)),Int.le_refl _⟩ ?_;intro r21 hr21;obtain rfl:(List.map (irow .i64)) ((x3.take (x3.length:Int).toNat).drop (2:Int).toNat)=r21:=(hr21.trans ((congrArg (fun m:Nat=>(((List.map (irow .i64)) x3).take m).drop (2:Int).toNat) (rlen (fun _=>rfl) _)).trans (rcut (fun _=>rfl) _ _ _))).symm;refine⟨(k,(x3.take (x3.length:Int).toNat).drop (2:Int).toNat,Nd.mk e19A e19B e19D e19C),h,(Le.forget _ ⟨rfl,rfl,trivial⟩),Nat.lt_succ_self k⟩
    ·refine zAx ?_;cases h;exact⟨_,rfl,(Le.forget _ ⟨rfl,rfl,trivial⟩)⟩
 ·subst hz;obtain⟨x5,⟨x6A,x6B,x6D,x6C⟩⟩:=z;replace h:=ho1;refine zAi hle ?_;refine zAa ?_;obtain⟨x22,hj,h⟩:=zAc h;refine zAk ⟨ofL [(4,.s (.bool x22))],fun _=>none,0⟩ ?_ (fun σ' hle=>?_)
  ·replace h:=hj;refine zAO [] [58,60,62,66,68,74] [] rfl (by decide +kernel) ?_;intro n23 hn23;obtain rfl:(x5.length:Int)=n23:=(hn23.trans (congrArg (fun m:Nat=>(m:Int)) (rlen (fun _=>rfl) x5))).symm;intro b hb;cases b with
   | true =>
    replace h:=zAv hb.symm h;obtain⟨e24,he24,h⟩:=zAc h;refine And.intro (zAr (fun _=>rfl) he24).1 ?_;intro r25 hr25;obtain rfl:[.int .i64 e24]=r25:=(hr25.trans (zAr (fun _=>rfl) he24).2.1).symm;intro b hb;cases b with
    | true =>
     replace h:=zAv hb.symm h;obtain⟨e26,he26,h⟩:=zAc h;refine And.intro (zAr (fun _=>rfl) he26).1 ?_;intro r27 hr27;obtain rfl:[.int .i64 e26]=r27:=(hr27.trans (zAr (fun _=>rfl) he26).2.1).symm;intro n28 hn28;obtain rfl:(x6C.length:Int)=n28:=(hn28.trans (congrArg (fun m:Nat=>(m:Int)) (rlen Nd.encs_eq x6C))).symm;cases h;exact(Le.forget _ ⟨rfl,trivial⟩)
    | false =>
     replace h:=zAu hb.symm h;cases h;exact(Le.forget _ ⟨rfl,trivial⟩)
   | false =>
    replace h:=zAu hb.symm h;intro b hb;subst hb;cases h;exact(Le.forget _ ⟨rfl,trivial⟩)
  ·refine zAi hle ?_;refine zAd ?_;have hy:=osi h;subst hy;exact fin0 rfl rfl
def zLn (n:Nat) (xs:List AV) (r:Ret):Prop:=∃ (a0:Nd) (a1:List Int) (y0:Bool),zCi n a0 a1=some y0/\xs=[.agg ((Nd.enc a0).map .s),.s (.sl 1 ((List.map (irow .i64)) a1))]/\r = .val (.s (.bool y0))
def zHp:zAp:=zAn fun xs r=>∃ n,zLn n xs r
theorem zKz:PSound Tryz.prog 112 zHp:=by
 have gok:∀ f s,look? f [(73,zCK),(149,zJL)]=some s->PSound Tryz.prog f s:=zAl (by
  simp only[List.forall_mem_cons]
  exact⟨zCY,zNT,by simp⟩)
 refine zAo tokW Tryz.call112 Tryz.func112 rfl (fun xs r h=>by obtain⟨n,_,_,_,_,rfl,_⟩:=h; show 2<=12; decide) 12 rfl ?_;rintro xs r w0 G0 ⟨n,⟨n1A,n1B,n1D,n1C⟩,pos2,y0,h,rfl,rfl⟩ _;rw[zCi]at h;refine zYc ?_;refine zAa ?_;obtain⟨x3,hj,h⟩:=zAc h;refine zAk ⟨ofL [(4,.s (.bool x3))],fun _=>none,0⟩ ?_ (fun σ' hle=>?_)
 ·replace h:=hj;refine zAb [] [7] rfl ?_;obtain⟨y4,hy4,h⟩:=zAc h;refine⟨_,⟨_,_,_,hy4,rfl,rfl⟩,?_⟩
  intro b hb;cases b with
  | true =>
   replace h:=zAv hb.symm h;obtain⟨y5,hy5,h⟩:=zAc h;refine⟨_,⟨_,_,_,_,hy5,rfl,rfl⟩,?_⟩
   cases h;exact(Le.forget _ ⟨rfl,trivial⟩)
  | false =>
   replace h:=zAu hb.symm h;cases h;exact(Le.forget _ ⟨rfl,trivial⟩)
 ·refine zAi hle ?_;refine zAd ?_;have hy:=osi h;subst hy;exact fin0 rfl rfl
def zBC (p:zCu):List S:=[.sl 1 ((List.map (irow .i64)) p.1),.sl 1 ((List.map (irow .i64)) p.2)]
def zNu (n:Nat) (xs:List AV) (r:Ret):Prop:=∃ (a0:Nd) (a1:zCu) (y0:Bool),zCs n a0 a1=some y0/\xs=[.agg ((Nd.enc a0).map .s),.agg ((zBC a1).map .s)]/\r = .val (.s (.bool y0))
def zIL:zAp:=zAn fun xs r=>∃ n,zNu n xs r
theorem zML:PSound Tryz.prog 75 zIL:=by
 have gok:∀ f s,look? f [(112,zHp)]=some s->PSound Tryz.prog f s:=zAl (by
  simp only[List.forall_mem_cons]
  exact⟨zKz,by simp⟩)
 refine zAo tokW Tryz.call75 Tryz.func75 rfl (fun xs r h=>by obtain⟨n,_,_,_,_,rfl,_⟩:=h; show 2<=21; decide) 21 rfl ?_;rintro xs r w0 G0 ⟨n,⟨n1A,n1B,n1D,n1C⟩,⟨c2Ai,c2Ah⟩,y0,h,rfl,rfl⟩ _;rw[zCs]at h;refine zYc ?_;refine zAa ?_;obtain⟨x3,hj,h⟩:=zAc h;refine zAk ⟨ofL [(4,.s (.bool x3))],fun _=>none,0⟩ ?_ (fun σ' hle=>?_)
 ·replace h:=hj;refine zAb [] [9,12,14] rfl ?_;obtain⟨y4,hy4,h⟩:=zAc h;refine⟨_,⟨_,_,_,_,hy4,rfl,rfl⟩,?_⟩
  intro b hb;cases b with
  | true =>
   replace h:=zAv hb.symm h;intro n5 hn5;obtain rfl:(c2Ah.length:Int)=n5:=(hn5.trans (congrArg (fun m:Nat=>(m:Int)) (rlen (fun _=>rfl) c2Ah))).symm;intro b hb;cases b with
   | true =>
    replace h:=zAv hb.symm h;cases h;exact(Le.forget _ ⟨rfl,trivial⟩)
   | false =>
    replace h:=zAu hb.symm h;obtain⟨y6,hy6,h⟩:=zAc h;refine⟨_,⟨_,_,_,_,hy6,rfl,rfl⟩,?_⟩
    cases h;exact(Le.forget _ ⟨rfl,trivial⟩)
  | false =>
   replace h:=zAu hb.symm h;cases h;exact(Le.forget _ ⟨rfl,trivial⟩)
 ·refine zAi hle ?_;refine zAd ?_;have hy:=osi h;subst hy;exact fin0 rfl rfl
def zAm (p:zRc):List S:=[.sl 8 ((List.map zAs) p.1),.sl 1 ((List.map (irow .i64)) p.2.1.1),.sl 1 ((List.map (irow .i64)) p.2.1.2),.sl 1 ((List.map (irow .i64)) p.2.2.1),.sl 1 ((List.map (irow .i64)) p.2.2.2)]
def zA2:(List UInt8×Nd×List zRc×Int)->List S
| ⟨p_title,⟨p_origin_kind,p_origin_text,p_origin_cols,p_origin_kids⟩,p_records,p_done⟩=>[.str p_title,.int .i64 p_origin_kind,.str p_origin_text,.int .i64 p_origin_cols,.sl 4 (Nd.encs p_origin_kids),.sl 5 ((List.map zAm) p_records),.int .i64 p_done]
def zNv (n:Nat) (xs:List AV) (r:Ret):Prop:=∃ (a0:(List UInt8×Nd×List zRc×Int)) (a1:Int) (y0:Nd) (y1:Bool),zCt n a0 a1=some (y0,y1)/\xs=[.agg ((zA2 a0).map .s),.s (.int .i64 a1)]/\r = .val (.tup [.agg ((Nd.enc y0).map .s),.s (.bool y1)])
def zIM:zAp:=zAn fun xs r=>∃ n,zNv n xs r
theorem zMM:PSound Tryz.prog 33 zIM:=by
 have gok:∀ f s,look? f [(72,zJH),(73,zCK),(53,zFI),(74,zHG),(75,zIL)]=some s->PSound Tryz.prog f s:=zAl (by
  simp only[List.forall_mem_cons]
  exact⟨zNP,zCY,zGp,zLv,zML,by simp⟩)
 refine zAo tokW Tryz.call33 Tryz.func33 rfl (fun xs r h=>by obtain⟨n,_,_,_,_,_,rfl,_⟩:=h; show 2<=88; decide) 88 rfl ?_;rintro xs r w0 G0 ⟨n,⟨a1V,⟨a1Q,a1R,a1S,a1T⟩,a1H,a1W⟩,a2,y0,y1,h,rfl,rfl⟩ _;rw[zCt]at h;refine zXw [4] [] rfl ?_;refine zAa ?_;refine zAa ?_;obtain⟨x3,hj,h⟩:=zAc h
 refine zAk ⟨ofL [(1,.s (.int .i64 a2)),(2,.s (.pt [.str a1V,.int .i64 a1Q,.str a1R,.int .i64 a1S,.sl 4 (Nd.encs a1T),.sl 5 ((List.map zAm) a1H),.int .i64 a1W])),(4,.op 0 0),(41,.s (.bool x3))],ofH [(0,.box 24 [.s (.int .i64 0),.s (.str []),.s (.int .i64 0),.nl 4])],1⟩ ?_ (fun σ' hle=>?_)
 ·replace h:=hj;refine zAb [] [17,23,26,29,34,39] rfl ?_;obtain⟨y4,hy4,h⟩:=zAc h;refine⟨_,⟨_,_,_,hy4,rfl,rfl⟩,?_⟩
  intro b hb;cases b with
  | true =>
   replace h:=zAv hb.symm h;intro b hb;subst hb;intro b hb;subst hb;intro b hb;subst hb;cases h;exact(Le.rnm [(0,0)] _ _ _ ⟨rfl,rfl,rfl,rfl,trivial⟩ ⟨rfl,⟨_,rfl,rfl⟩,trivial⟩)
  | false =>
   replace h:=zAu hb.symm h;obtain⟨y5,hy5,h⟩:=zAc h;refine⟨_,⟨_,_,_,hy5,rfl,rfl⟩,?_⟩
   intro b hb;cases b with
   | true =>
    replace h:=zAv hb.symm h;intro b hb;subst hb;intro b hb;subst hb;cases h;exact(Le.rnm [(0,0)] _ _ _ ⟨rfl,rfl,rfl,rfl,trivial⟩ ⟨rfl,⟨_,rfl,rfl⟩,trivial⟩)
   | false =>
    replace h:=zAu hb.symm h;intro n6 hn6;obtain rfl:(a1H.length:Int)=n6:=(hn6.trans (congrArg (fun m:Nat=>(m:Int)) (rlen (fun _=>rfl) a1H))).symm;intro b hb;cases b with
    | true =>
     replace h:=zAv hb.symm h;intro b hb;subst hb;cases h;exact(Le.rnm [(0,0)] _ _ _ ⟨rfl,rfl,rfl,rfl,trivial⟩ ⟨rfl,⟨_,rfl,rfl⟩,trivial⟩)
    | false =>
     replace h:=zAu hb.symm h;intro b hb;cases b with
     | true =>
      replace h:=zAv hb.symm h;cases h;exact(Le.rnm [(0,0)] _ _ _ ⟨rfl,rfl,rfl,rfl,trivial⟩ ⟨rfl,⟨_,rfl,rfl⟩,trivial⟩)
     | false =>
      replace h:=zAu hb.symm h;intro n7 hn7;obtain rfl:(a1H.length:Int)=n7:=(hn7.trans (congrArg (fun m:Nat=>(m:Int)) (rlen (fun _=>rfl) a1H))).symm;cases h;exact(Le.rnm [(0,0)] _ _ _ ⟨rfl,rfl,rfl,rfl,trivial⟩ ⟨rfl,⟨_,rfl,rfl⟩,trivial⟩)
 ·refine zAi hle ?_;refine zAg rfl h (fun hb h=>?_) (fun hb h=>?_)
  ·refine zYc ?_;refine zAd ?_;obtain⟨hj1,hk1⟩:=pij h;subst hj1 hk1;exact fin0 rfl rfl
  ·refine zAe ?_;refine zXw [6] [] rfl ?_;obtain⟨⟨y8A,y8B,y8D,y8C⟩,hy8,h⟩:=zAc h;refine⟨_,⟨_,_,hy8,rfl,rfl⟩,?_⟩
   refine zXw [7] [] rfl ?_;refine zAa ?_;refine zXw [] [49] rfl ?_;intro n9 hn9;obtain rfl:(a1H.length:Int)=n9:=(hn9.trans (congrArg (fun m:Nat=>(m:Int)) (rlen (fun _=>rfl) a1H))).symm;show Tri ..;obtain⟨fl,hl,ho1⟩:=zAc h;refine zBO (fl:=fl) (fun z=>match z with | ⟨x20,x21,x22,x23⟩=>⟨ofL [(4,.op 0 0),(7,.op 1 0)],ofH [(0,.box 24 [.s (.int .i64 0),.s (.str []),.s (.int .i64 0),.nl 4]),(1,.box 24 [.s (.int .i64 x20),.s (.str x21),.s (.int .i64 x22),.s (.sl 4 (Nd.encs x23))])],2⟩) ?_ (fun z σ' hz hle=>?_)
   ·refine zAj (zAt (X:=Nat×Int×(List UInt8)×Int×(List Nd)×Int×(List UInt8)×Int×(List Nd)×Int) (fun y=>match y with | (k,x11,x12,x13,x14,x15,x16,x17,x18,x19)=>⟨ofL [(1,.s (.int .i64 a2)),(4,.op 0 0),(6,.op 1 0),(7,.op 2 0),(48,.s (.sl 5 ((List.map zAm) a1H))),(49,.s (.int .i64 (a1H.length:Int))),(50,.s (.int .i64 x19))],ofH [(0,.box 24 [.s (.int .i64 0),.s (.str []),.s (.int .i64 0),.nl 4]),(1,.box 24 [.s (.int .i64 x11),.s (.str x12),.s (.int .i64 x13),.s (.sl 4 (Nd.encs x14))]),(2,.box 24 [.s (.int .i64 x15),.s (.str x16),.s (.int .i64 x17),.s (.sl 4 (Nd.encs x18))])],3⟩) (fun y=>zBz n a1H a2 y.1 y.2.1 y.2.2.1 y.2.2.2.1 y.2.2.2.2.1 y.2.2.2.2.2.1 y.2.2.2.2.2.2.1 y.2.2.2.2.2.2.2.1 y.2.2.2.2.2.2.2.2.1 y.2.2.2.2.2.2.2.2.2=some fl) (fun y=>y.1) (n,y8A,y8B,y8D,y8C,y8A,y8B,y8D,y8C,0) hl ?_ ?_)
    ·exact(Le.rnm [(0,0),(1,1),(2,2)] _ _ _ ⟨rfl,rfl,rfl,rfl,rfl,rfl,rfl,trivial⟩ ⟨rfl,⟨_,rfl,rfl⟩,rfl,⟨_,rfl,rfl⟩,rfl,⟨_,rfl,rfl⟩,trivial⟩)
    ·rintro⟨k,x11,x12,x13,x14,x15,x16,x17,x18,x19⟩ h;cases k with
     | zero=>cases h
     | succ k =>
      replace h:zBz n a1H a2 (k+1) x11 x12 x13 x14 x15 x16 x17 x18 x19=some fl:=h;rw[zBz]at h;refine zYc ?_;refine zAa ?_;refine zAg rfl h (fun hb h=>?_) (fun hb h=>?_)
      ·refine zAe ?_;refine zAa ?_;obtain⟨fl,hj,ho2⟩:=zAc h
       refine zBO (fl:=fl) (fun z=>match z with | ⟨x24,x25,x26,x27,x28,x29,x30,x31⟩=>⟨ofL [(1,.s (.int .i64 a2)),(4,.op 0 0),(6,.op 1 0),(7,.op 2 0),(48,.s (.sl 5 ((List.map zAm) a1H))),(49,.s (.int .i64 (a1H.length:Int))),(50,.s (.int .i64 x19))],ofH [(0,.box 24 [.s (.int .i64 0),.s (.str []),.s (.int .i64 0),.nl 4]),(1,.box 24 [.s (.int .i64 x24),.s (.str x25),.s (.int .i64 x26),.s (.sl 4 (Nd.encs x27))]),(2,.box 24 [.s (.int .i64 x28),.s (.str x29),.s (.int .i64 x30),.s (.sl 4 (Nd.encs x31))])],3⟩) ?_ (fun z σ' hz hle=>?_)
       ·replace h:=hj;refine zAj ?_;refine zXw [9] [53] rfl ?_;obtain⟨⟨e32P,⟨e32Ab,e32Ac⟩,⟨e32Ad,e32Ae⟩⟩,he32,h⟩:=zAc h;refine And.intro (zAr (fun _=>rfl) he32).1 ?_;intro r33 hr33;obtain rfl:[.sl 8 ((List.map zAs) e32P),.sl 1 ((List.map (irow .i64)) e32Ab),.sl 1 ((List.map (irow .i64)) e32Ac),.sl 1 ((List.map (irow .i64)) e32Ad),.sl 1 ((List.map (irow .i64)) e32Ae)]=r33:=(hr33.trans (zAr (fun _=>rfl) he32).2.1).symm;show Tri ..
        refine zAi (Le.giveBox 3 [.sl 8 ((List.map zAs) e32P),.sl 1 ((List.map (irow .i64)) e32Ab),.sl 1 ((List.map (irow .i64)) e32Ac),.sl 1 ((List.map (irow .i64)) e32Ad),.sl 1 ((List.map (irow .i64)) e32Ae)] rfl rfl) ?_;refine zXw [10] [] rfl ?_;obtain⟨⟨⟨y34A,y34B,y34D,y34C⟩,y35,y36⟩,hy34,h⟩:=zAc h;refine⟨_,⟨_,_,_,_,_,_,hy34,rfl,rfl⟩,?_⟩
        refine zAi (Le.giveBox 4 [.int .i64 y34A,.str y34B,.int .i64 y34D,.sl 4 (Nd.encs y34C)] rfl rfl) ?_;refine zAa ?_;refine zAa ?_;obtain⟨x37,hj,h⟩:=zAc h
        refine zAk ⟨ofL [(1,.s (.int .i64 a2)),(4,.op 0 0),(6,.op 1 0),(7,.op 2 0),(8,.s (.int .i64 x19)),(10,.s (.pt [.int .i64 y34A,.str y34B,.int .i64 y34D,.sl 4 (Nd.encs y34C)])),(48,.s (.sl 5 ((List.map zAm) a1H))),(49,.s (.int .i64 (a1H.length:Int))),(50,.s (.int .i64 x19)),(78,.s (.bool x37))],ofH [(0,.box 24 [.s (.int .i64 0),.s (.str []),.s (.int .i64 0),.nl 4]),(1,.box 24 [.s (.int .i64 x11),.s (.str x12),.s (.int .i64 x13),.s (.sl 4 (Nd.encs x14))]),(2,.box 24 [.s (.int .i64 x15),.s (.str x16),.s (.int .i64 x17),.s (.sl 4 (Nd.encs x18))])],3⟩ ?_ (fun σ' hle=>?_)
        ·replace h:=hj;refine zAb [] [65,72] rfl ?_;intro b hb;cases b with
         | true =>
          replace h:=zAv hb.symm h;intro b hb;subst hb;cases h;exact(Le.rnm [(0,0),(1,1),(2,2)] _ _ _ ⟨rfl,rfl,rfl,rfl,rfl,rfl,rfl,rfl,rfl,rfl,trivial⟩ ⟨rfl,⟨_,rfl,rfl⟩,rfl,⟨_,rfl,rfl⟩,rfl,⟨_,rfl,rfl⟩,trivial⟩)
         | false =>
          replace h:=zAu hb.symm h;obtain⟨y38,hy38,h⟩:=zAc h;refine⟨_,⟨_,_,_,_,hy38,rfl,rfl⟩,?_⟩
          intro b hb;cases b with
          | true =>
           replace h:=zAv hb.symm h;cases h;exact(Le.rnm [(0,0),(1,1),(2,2)] _ _ _ ⟨rfl,rfl,rfl,rfl,rfl,rfl,rfl,rfl,rfl,rfl,trivial⟩ ⟨rfl,⟨_,rfl,rfl⟩,rfl,⟨_,rfl,rfl⟩,rfl,⟨_,rfl,rfl⟩,trivial⟩)
          | false =>
           replace h:=zAu hb.symm h;obtain⟨y39,hy39,h⟩:=zAc h;refine⟨_,⟨_,_,_,_,hy39,rfl,rfl⟩,?_⟩
           cases h;exact(Le.rnm [(0,0),(1,1),(2,2)] _ _ _ ⟨rfl,rfl,rfl,rfl,rfl,rfl,rfl,rfl,rfl,rfl,trivial⟩ ⟨rfl,⟨_,rfl,rfl⟩,rfl,⟨_,rfl,rfl⟩,rfl,⟨_,rfl,rfl⟩,trivial⟩)
        ·refine zAi hle ?_;refine zAg rfl h (fun hb h=>?_) (fun hb h=>?_)
         ·refine zYc ?_;refine zAd ?_;cases h;replace h:some _=some _:=ho2;cases h;replace h:some _=some _:=ho1;obtain⟨hj1,hk1⟩:=pij h;subst hj1 hk1;exact fin0 rfl rfl
         ·refine zAe ?_;refine zYc ?_;refine zYc ?_;refine zAg rfl h (fun hb h=>?_) (fun hb h=>?_)
          ·refine zYb ?_;cases h;exact⟨_,rfl,(Le.rnm [(0,0),(1,1),(2,2)] _ _ _ ⟨rfl,rfl,rfl,rfl,rfl,rfl,rfl,trivial⟩ ⟨rfl,⟨_,rfl,rfl⟩,rfl,⟨_,rfl,rfl⟩,rfl,⟨_,rfl,rfl⟩,trivial⟩)⟩
          ·refine zAe ?_;cases h;exact⟨_,rfl,(Le.rnm [(0,0),(1,1),(2,2)] _ _ _ ⟨rfl,rfl,rfl,rfl,rfl,rfl,rfl,trivial⟩ ⟨rfl,⟨_,rfl,rfl⟩,rfl,⟨_,rfl,rfl⟩,rfl,⟨_,rfl,rfl⟩,trivial⟩)⟩
       ·subst hz;obtain⟨x24,x25,x26,x27,x28,x29,x30,x31⟩:=z;replace h:=ho2;refine zAi hle ?_;refine zYb ?_;refine⟨(k,x24,x25,x26,x27,x28,x29,x30,x31,IntKind.i64.wrap (x19+1)),h,(Le.rnm [(0,0),(1,1),(2,2)] _ _ _ ⟨rfl,rfl,rfl,rfl,rfl,rfl,rfl,trivial⟩ ⟨rfl,⟨_,rfl,rfl⟩,rfl,⟨_,rfl,rfl⟩,rfl,⟨_,rfl,rfl⟩,trivial⟩),Nat.lt_succ_self k⟩
      ·refine zAx ?_;cases h;exact⟨_,rfl,(Le.rnm [(0,0),(2,1)] _ _ _ ⟨rfl,rfl,trivial⟩ ⟨rfl,⟨_,rfl,rfl⟩,rfl,⟨_,rfl,rfl⟩,trivial⟩)⟩
   ·subst hz;obtain⟨x20,x21,x22,x23⟩:=z;replace h:=ho1;refine zAi hle ?_;refine zYc ?_;refine zAd ?_;obtain⟨hj1,hk1⟩:=pij h;subst hj1 hk1;exact fin0 rfl rfl
def zQg (n:Nat) (xs:List AV) (r:Ret):Prop:=∃ (a0:(List UInt8×Nd×List zRc×Int)) (y0:Bool),zDp n a0=some y0/\xs=[.agg ((zA2 a0).map .s)]/\r = .val (.s (.bool y0))
def zHH:zAp:=zAn fun xs r=>∃ n,zQg n xs r
theorem zJ2:PSound Tryz.prog 12 zHH:=by
 have gok:∀ f s,look? f [(33,zIM)]=some s->PSound Tryz.prog f s:=zAl (by
  simp only[List.forall_mem_cons]
  exact⟨zMM,by simp⟩)
 refine zAo tokW Tryz.call12 Tryz.func12 rfl (fun xs r h=>by obtain⟨n,_,_,_,rfl,_⟩:=h; show 1<=11; decide) 11 rfl ?_;rintro xs r w0 G0 ⟨n,⟨d1V,⟨d1Q,d1R,d1S,d1T⟩,d1H,d1W⟩,y0,h,rfl,rfl⟩ _;rw[zDp]at h;refine zYc ?_;refine zXw [3] [] rfl ?_;obtain⟨⟨⟨y2A,y2B,y2D,y2C⟩,y3⟩,hy2,h⟩:=zAc h;refine⟨_,⟨_,_,_,_,_,hy2,rfl,rfl⟩,?_⟩
 refine zAi (Le.giveBox 0 [.int .i64 y2A,.str y2B,.int .i64 y2D,.sl 4 (Nd.encs y2C)] rfl rfl) ?_;refine zYc ?_;refine zAd ?_;have hy:=osi h;subst hy;exact fin0 rfl rfl
def zR4 (xs:List AV) (r:Ret):Prop:=∃ (a0:List UInt8) (y0:CV),zCR a0=some y0/\xs=[.s (.str a0)]/\r = .val (.agg ((CV.enc y0).map .s))
def zG7:zAp:=zAn fun xs r=>zR4 xs r
theorem zH5:PSound Tryz.prog 59 zG7:=by
 have gok:=@gok0 Tryz.prog;refine zAo tokW Tryz.call59 Tryz.func59 rfl (fun xs r h=>by obtain⟨_,_,_,rfl,_⟩:=h; show 1<=5; decide) 5 rfl ?_;rintro xs r w0 G0 ⟨s1,y0,h,rfl,rfl⟩ _;rw[zCR]at h;refine zXw [2] [] rfl ?_;refine zYc ?_;refine zAd ?_;have hy:=osi h;subst hy;exact fin0 rfl rfl
def zR3 (xs:List AV) (r:Ret):Prop:=∃ (a0:List CV) (y0:CV),zBQ a0=some y0/\xs=[.s (.sl 4 (CV.encs a0))]/\r = .val (.agg ((CV.enc y0).map .s))
def zEC:zAp:=zAn fun xs r=>zR3 xs r
theorem zFc:PSound Tryz.prog 58 zEC:=by
 have gok:=@gok0 Tryz.prog;refine zAo tokW Tryz.call58 Tryz.func58 rfl (fun xs r h=>by obtain⟨_,_,_,rfl,_⟩:=h; show 1<=5; decide) 5 rfl ?_;rintro xs r w0 G0 ⟨l1,y0,h,rfl,rfl⟩ _;rw[zBQ]at h;refine zXw [2] [] rfl ?_;refine zYc ?_;refine zAd ?_;have hy:=osi h;subst hy;exact fin0 rfl rfl
def zOW (xs:List AV) (r:Ret):Prop:=∃ (a0:Int) (y0:CV),zAX a0=some y0/\xs=[.s (.int .i64 a0)]/\r = .val (.agg ((CV.enc y0).map .s))
def zEl:zAp:=zAn fun xs r=>zOW xs r
theorem zEV:PSound Tryz.prog 61 zEl:=by
 have gok:=@gok0 Tryz.prog;refine zAo tokW Tryz.call61 Tryz.func61 rfl (fun xs r h=>by obtain⟨_,_,_,rfl,_⟩:=h; show 1<=5; decide) 5 rfl ?_;rintro xs r w0 G0 ⟨n1,y0,h,rfl,rfl⟩ _;rw[zAX]at h;refine zXw [2] [] rfl ?_;refine zYc ?_;refine zAd ?_;have hy:=osi h;subst hy;exact fin0 rfl rfl
def zCd (n:Nat) (xs:List AV) (r:Ret):Prop:=∃ (a0:List Nd) (y0:CV),zBP n a0=some y0/\xs=[.s (.sl 4 (Nd.encs a0)),.s (.fn 60)]/\r = .val (.agg ((CV.enc y0).map .s))
def zCe (n:Nat) (xs:List AV) (r:Ret):Prop:=∃ (a0:Nd) (y0:CV),zA1 n a0=some y0/\xs=[.agg ((Nd.enc a0).map .s)]/\r = .val (.agg ((CV.enc y0).map .s))
theorem zKD {α:Type}{a b:α} (h:a=b:=by simp[List.map_append,List.map_take,List.map_drop,irow,brow,zEm,List.map_cons,List.map_nil,zDV,CV.encs_eq,CV.enc,Nd.encs_eq,Nd.enc,zBi,zAJ,zBL,zAF,zAC,zAs,zCg,zBC,zAm,zA2]):a=b :=
 h
theorem zJr (n:Nat) (ih_file_each_Node:PSound Tryz.prog 101 (zAn (zCd n))) (ih_file_writeTree:PSound Tryz.prog 60 (zAn (zCe n))):PSound Tryz.prog 101 (zAn (zCd (n+1))):=by
 have gok:∀ f s,look? f [(58,zDk),(60,zAn (zCe n))]=some s->PSound Tryz.prog f s:=zAl (by
  simp only[List.forall_mem_cons]
  exact⟨zD2,ih_file_writeTree,by simp⟩)
 refine zAo tokW Tryz.call101 Tryz.func101 rfl (fun xs r h=>by obtain⟨_,_,_,rfl,_⟩:=h; show 2<=25; decide) 25 rfl ?_;rintro xs r w0 G0 ⟨l1,y0,h,rfl,rfl⟩ _;rw[zBP]at h;refine zXw [4] [] rfl ?_;refine zXw [5] [] rfl ?_;obtain⟨⟨y2A,y2F,y2B,y2E⟩,hy2,h⟩:=zAc h;refine⟨_,_,⟨_,hy2,rfl,rfl,rfl,rfl⟩,?_⟩
 refine zAa ?_;refine zXw [] [10] rfl ?_;intro n3 hn3;obtain rfl:(l1.length:Int)=n3:=(hn3.trans (congrArg (fun m:Nat=>(m:Int)) (rlen Nd.encs_eq l1))).symm;show Tri ..;obtain⟨l8,hl,h⟩:=zAc h;refine zAk ⟨ofL [(4,.op 0 0),(5,.op 1 0)],ofH [(0,.box 68 [.s (.int .i64 0),.s (.int .i64 0),.s (.str []),.nl 4]),(1,.box 68 [.s (.int .i64 y2A),.s (.int .i64 y2F),.s (.str y2B),.orow 2]),(2,.row 68 4 (CV.encs l8))],3⟩ ?_ (fun σ' hle=>?_)
 ·refine zAj (zAt (X:=Nat×Int×(List CV)) (fun y=>match y with | (k,x6,l7)=>⟨ofL [(1,.s (.fn 60)),(4,.op 0 0),(5,.op 1 0),(9,.s (.sl 4 (Nd.encs l1))),(10,.s (.int .i64 (l1.length:Int))),(11,.s (.int .i64 x6))],ofH [(0,.box 68 [.s (.int .i64 0),.s (.int .i64 0),.s (.str []),.nl 4]),(1,.box 68 [.s (.int .i64 y2A),.s (.int .i64 y2F),.s (.str y2B),.orow 2]),(2,.row 68 4 (CV.encs l7))],3⟩) (fun y=>zA0 (zA1 n) l1 y.1 y.2.1 y.2.2=some l8) (fun y=>y.1) (n,0,y2E) hl ?_ ?_)
  ·exact(Le.rnm [(0,0),(3,1),(2,2)] _ _ _ ⟨rfl,rfl,rfl,rfl,rfl,rfl,trivial⟩ ⟨rfl,⟨_,rfl,rfl⟩,rfl,⟨_,rfl,rfl⟩,rfl,⟨_,rfl,rfl⟩,trivial⟩)
  ·rintro⟨k,x6,l7⟩ h;cases k with
   | zero=>cases h
   | succ k =>
    replace h:zA0 (zA1 n) l1 (k+1) x6 l7=some l8:=h;rw[zA0]at h;refine zYc ?_;refine zAa ?_;refine zAg rfl h (fun hb h=>?_) (fun hb h=>?_)
    ·refine zAe ?_;refine zAa ?_;refine zAj ?_;refine zXw [7] [13] rfl ?_;obtain⟨⟨e9A,e9B,e9D,e9C⟩,he9,h⟩:=zAc h;refine And.intro (zAr Nd.encs_eq he9).1 ?_;intro r10 hr10;obtain rfl:[.int .i64 e9A,.str e9B,.int .i64 e9D,.sl 4 (Nd.encs e9C)]=r10:=(hr10.trans (zAr Nd.encs_eq he9).2.1).symm;refine zAi (Le.giveBox 3 [.int .i64 e9A,.str e9B,.int .i64 e9D,.sl 4 (Nd.encs e9C)] rfl rfl) ?_;refine zAO [21] [20] [1,6,8] rfl (by decide +kernel) ?_;obtain⟨⟨y11A,y11F,y11B,y11E⟩,hy11,h⟩:=zAc h
     refine⟨_,⟨_,_,hy11,rfl,rfl⟩,?_⟩
     intro r12 hr12;obtain rfl:CV.encs [CV.mk y11A y11F y11B y11E]=r12:=(hr12.trans zKD).symm;obtain⟨hq,h⟩:=zAy h
     refine And.intro (show((CV.encs l7).length+(CV.encs [CV.mk y11A y11F y11B y11E]).length) * 56<=140737488355328/\(CV.encs l7).length+(CV.encs [CV.mk y11A y11F y11B y11E]).length<=9223372036854775807 from by simp only[List.length_append,List.length_cons,List.length_nil,List.length_map,rlen CV.encs_eq]at hq ⊢; omega) ?_;show Tri ..
     refine zAi (Le.rnm [(0,0),(1,1),(4,2)] [(1,.s (.fn 60)),(4,.op 0 0),(5,.op 1 0),(9,.s (.sl 4 (Nd.encs l1))),(10,.s (.int .i64 (l1.length:Int))),(11,.s (.int .i64 x6))] [(0,.box 68 [.s (.int .i64 0),.s (.int .i64 0),.s (.str []),.nl 4]),(1,.box 68 [.s (.int .i64 y2A),.s (.int .i64 y2F),.s (.str y2B),.orow 2]),(2,.row 68 4 (CV.encs (l7++[CV.mk y11A y11F y11B y11E])))] 3 ⟨rfl,rfl,rfl,rfl,rfl,rfl,trivial⟩ ⟨rfl,⟨_,rfl,rfl⟩,rfl,⟨_,rfl,rfl⟩,rfl,⟨_,rfl,congrArg (Ob.row 68 4) zKD⟩,trivial⟩) ?_
     refine zYb ?_;refine⟨(k,IntKind.i64.wrap (x6+1),l7++[CV.mk y11A y11F y11B y11E]),h,(Le.rnm [(0,0),(1,1),(2,2)] _ _ _ ⟨rfl,rfl,rfl,rfl,rfl,rfl,trivial⟩ ⟨rfl,⟨_,rfl,rfl⟩,rfl,⟨_,rfl,rfl⟩,rfl,⟨_,rfl,rfl⟩,trivial⟩),Nat.lt_succ_self k⟩
    ·refine zAx ?_;cases h;exact(Le.rnm [(0,0),(1,1),(2,2)] _ _ _ ⟨rfl,rfl,trivial⟩ ⟨rfl,⟨_,rfl,rfl⟩,rfl,⟨_,rfl,rfl⟩,rfl,⟨_,rfl,rfl⟩,trivial⟩)
 ·refine zAi hle ?_;refine zYc ?_;refine zAd ?_;have hy:=osi h;subst hy;unfold zCJ;exact⟨_,(Le.trans (Le.rnm [(0,0),(2,1)] [(4,.op 0 0)] [(0,.box 68 [.s (.int .i64 y2A),.s (.int .i64 y2F),.s (.str y2B),.orow 1]),(1,.row 68 4 (CV.encs l8))] 2 ⟨rfl,trivial⟩ ⟨rfl,⟨_,rfl,rfl⟩,rfl,⟨_,rfl,rfl⟩,trivial⟩) (Le.giveRow 1 rfl)),rfl,rfl⟩
theorem zJs (n:Nat) (ih_file_each_Node:PSound Tryz.prog 101 (zAn (zCd n))) (ih_file_writeTree:PSound Tryz.prog 60 (zAn (zCe n))):PSound Tryz.prog 60 (zAn (zCe (n+1))):=by
 have gok:∀ f s,look? f [(101,zAn (zCd n)),(61,zEl),(59,zG7),(58,zEC)]=some s->PSound Tryz.prog f s:=zAl (by
  simp only[List.forall_mem_cons]
  exact⟨ih_file_each_Node,zEV,zH5,zFc,by simp⟩)
 refine zAo tokW Tryz.call60 Tryz.func60 rfl (fun xs r h=>by obtain⟨_,_,_,rfl,_⟩:=h; show 1<=21; decide) 21 rfl ?_;rintro xs r w0 G0 ⟨⟨n1A,n1B,n1D,n1C⟩,y0,h,rfl,rfl⟩ _;rw[zA1]at h;refine zXw [2] [] rfl ?_;refine zXw [3] [] rfl ?_;obtain⟨⟨y2A,y2F,y2B,y2E⟩,hy2,h⟩:=zAc h;refine⟨_,⟨_,_,hy2,rfl,rfl⟩,?_⟩
 refine zAi (Le.giveBox 1 [.int .i64 y2A,.int .i64 y2F,.str y2B,.sl 4 (CV.encs y2E)] rfl rfl) ?_;refine zAa ?_;refine zIr [16,19] [] [9,12,13,14] [] rfl (by decide +kernel) ?_;obtain⟨⟨y3A,y3F,y3B,y3E⟩,hy3,h⟩:=zAc h;refine⟨_,⟨_,_,hy3,rfl,rfl⟩,?_⟩
 obtain⟨⟨y4A,y4F,y4B,y4E⟩,hy4,h⟩:=zAc h;refine⟨_,⟨_,_,hy4,rfl,rfl⟩,?_⟩
 obtain⟨⟨y5A,y5F,y5B,y5E⟩,hy5,h⟩:=zAc h;refine⟨_,⟨_,_,hy5,rfl,rfl⟩,?_⟩
 obtain⟨hq,h⟩:=zAy h
 refine And.intro (show([[.int .i64 y3A,.int .i64 y3F,.str y3B,.sl 4 (CV.encs y3E)],[.int .i64 y4A,.int .i64 y4F,.str y4B,.sl 4 (CV.encs y4E)],[.int .i64 y5A,.int .i64 y5F,.str y5B,.sl 4 (CV.encs y5E)]].length+(CV.encs y2E).length) * 56<=140737488355328/\[[.int .i64 y3A,.int .i64 y3F,.str y3B,.sl 4 (CV.encs y3E)],[.int .i64 y4A,.int .i64 y4F,.str y4B,.sl 4 (CV.encs y4E)],[.int .i64 y5A,.int .i64 y5F,.str y5B,.sl 4 (CV.encs y5E)]].length+(CV.encs y2E).length<=9223372036854775807 from by simp only[List.length_append,List.length_cons,List.length_nil,List.length_map,rlen CV.encs_eq]at hq ⊢; omega) ?_
 obtain⟨⟨y6A,y6F,y6B,y6E⟩,hy6,h⟩:=zAc h
 refine⟨_,⟨_,_,hy6,(congrArg (fun r=>[AV.s (.sl 4 r)]) (show[[.int .i64 y3A,.int .i64 y3F,.str y3B,.sl 4 (CV.encs y3E)],[.int .i64 y4A,.int .i64 y4F,.str y4B,.sl 4 (CV.encs y4E)],[.int .i64 y5A,.int .i64 y5F,.str y5B,.sl 4 (CV.encs y5E)]]++(CV.encs y2E)=CV.encs ([CV.mk y3A y3F y3B y3E,CV.mk y4A y4F y4B y4E,CV.mk y5A y5F y5B y5E]++y2E) from zKD)),rfl⟩,?_⟩
 refine zAd ?_;have hy:=osi h;subst hy;exact fin0 rfl rfl
theorem zFR:∀ n,PSound Tryz.prog 101 (zAn (zCd n))/\PSound Tryz.prog 60 (zAn (zCe n)):=by
 intro n
 induction n with
 | zero =>
  refine⟨?_,?_⟩
  ·exact zA7 Tryz.call101 (fun xs r h=>by obtain⟨_,_,h,_⟩:=h; rw[zBP]at h; cases h)
  ·exact zA7 Tryz.call60 (fun xs r h=>by obtain⟨_,_,h,_⟩:=h; rw[zA1]at h; cases h)
 | succ n ih =>
  obtain⟨ih_file_each_Node,ih_file_writeTree⟩:=ih;exact⟨zJr n ih_file_each_Node ih_file_writeTree,zJs n ih_file_each_Node ih_file_writeTree⟩
def zHn:zAp:=zAn fun xs r=>∃ n,zCd n xs r
theorem zKx:PSound Tryz.prog 101 zHn:=zBr (fun n=>(zFR n).1)
def zHo:zAp:=zAn fun xs r=>∃ n,zCe n xs r
theorem zKy:PSound Tryz.prog 60 zHo:=zBr (fun n=>(zFR n).2)
def zLQ (n:Nat) (xs:List AV) (r:Ret):Prop:=∃ (a0:List Int) (y0:CV),zDq n a0=some y0/\xs=[.s (.sl 1 ((List.map (irow .i64)) a0)),.s (.fn 61)]/\r = .val (.agg ((CV.enc y0).map .s))
def zHI:zAp:=zAn fun xs r=>∃ n,zLQ n xs r
theorem zLw:PSound Tryz.prog 169 zHI:=by
 have gok:∀ f s,look? f [(58,zDk),(61,zEl)]=some s->PSound Tryz.prog f s:=zAl (by
  simp only[List.forall_mem_cons]
  exact⟨zD2,zEV,by simp⟩)
 refine zAo tokW Tryz.call169 Tryz.func169 rfl (fun xs r h=>by obtain⟨n,_,_,_,rfl,_⟩:=h; show 2<=25; decide) 25 rfl ?_;rintro xs r w0 G0 ⟨n,l1,y0,h,rfl,rfl⟩ _;rw[zDq]at h;refine zXw [4] [] rfl ?_;refine zXw [5] [] rfl ?_;obtain⟨⟨y2A,y2F,y2B,y2E⟩,hy2,h⟩:=zAc h;refine⟨_,_,⟨_,hy2,rfl,rfl,rfl,rfl⟩,?_⟩
 refine zAa ?_;refine zXw [] [10] rfl ?_;intro n3 hn3;obtain rfl:(l1.length:Int)=n3:=(hn3.trans (congrArg (fun m:Nat=>(m:Int)) (rlen (fun _=>rfl) l1))).symm;show Tri ..;obtain⟨l8,hl,h⟩:=zAc h;refine zAk ⟨ofL [(4,.op 0 0),(5,.op 1 0)],ofH [(0,.box 68 [.s (.int .i64 0),.s (.int .i64 0),.s (.str []),.nl 4]),(1,.box 68 [.s (.int .i64 y2A),.s (.int .i64 y2F),.s (.str y2B),.orow 2]),(2,.row 68 4 (CV.encs l8))],3⟩ ?_ (fun σ' hle=>?_)
 ·refine zAj (zAt (X:=Nat×Int×(List CV)) (fun y=>match y with | (k,x6,l7)=>⟨ofL [(1,.s (.fn 61)),(4,.op 0 0),(5,.op 1 0),(9,.s (.sl 1 ((List.map (irow .i64)) l1))),(10,.s (.int .i64 (l1.length:Int))),(11,.s (.int .i64 x6))],ofH [(0,.box 68 [.s (.int .i64 0),.s (.int .i64 0),.s (.str []),.nl 4]),(1,.box 68 [.s (.int .i64 y2A),.s (.int .i64 y2F),.s (.str y2B),.orow 2]),(2,.row 68 4 (CV.encs l7))],3⟩) (fun y=>zA9 l1 y.1 y.2.1 y.2.2=some l8) (fun y=>y.1) (n,0,y2E) hl ?_ ?_)
  ·exact(Le.rnm [(0,0),(3,1),(2,2)] _ _ _ ⟨rfl,rfl,rfl,rfl,rfl,rfl,trivial⟩ ⟨rfl,⟨_,rfl,rfl⟩,rfl,⟨_,rfl,rfl⟩,rfl,⟨_,rfl,rfl⟩,trivial⟩)
  ·rintro⟨k,x6,l7⟩ h;cases k with
   | zero=>cases h
   | succ k =>
    replace h:zA9 l1 (k+1) x6 l7=some l8:=h;rw[zA9]at h;refine zYc ?_;refine zAa ?_;refine zAg rfl h (fun hb h=>?_) (fun hb h=>?_)
    ·refine zAe ?_;refine zAa ?_;refine zAj ?_;refine zXw [] [13] rfl ?_;obtain⟨e9,he9,h⟩:=zAc h;refine And.intro (zAr (fun _=>rfl) he9).1 ?_;intro r10 hr10;obtain rfl:[.int .i64 e9]=r10:=(hr10.trans (zAr (fun _=>rfl) he9).2.1).symm;show Tri ..;refine zAO [21] [20] [1,6,8] rfl (by decide +kernel) ?_;obtain⟨⟨y11A,y11F,y11B,y11E⟩,hy11,h⟩:=zAc h;refine⟨_,⟨_,_,hy11,rfl,rfl⟩,?_⟩
     intro r12 hr12;obtain rfl:CV.encs [CV.mk y11A y11F y11B y11E]=r12:=(hr12.trans zKD).symm;obtain⟨hq,h⟩:=zAy h
     refine And.intro (show((CV.encs l7).length+(CV.encs [CV.mk y11A y11F y11B y11E]).length) * 56<=140737488355328/\(CV.encs l7).length+(CV.encs [CV.mk y11A y11F y11B y11E]).length<=9223372036854775807 from by simp only[List.length_append,List.length_cons,List.length_nil,List.length_map,rlen CV.encs_eq]at hq ⊢; omega) ?_;show Tri ..
     refine zAi (Le.rnm [(0,0),(1,1),(3,2)] [(1,.s (.fn 61)),(4,.op 0 0),(5,.op 1 0),(9,.s (.sl 1 ((List.map (irow .i64)) l1))),(10,.s (.int .i64 (l1.length:Int))),(11,.s (.int .i64 x6))] [(0,.box 68 [.s (.int .i64 0),.s (.int .i64 0),.s (.str []),.nl 4]),(1,.box 68 [.s (.int .i64 y2A),.s (.int .i64 y2F),.s (.str y2B),.orow 2]),(2,.row 68 4 (CV.encs (l7++[CV.mk y11A y11F y11B y11E])))] 3 ⟨rfl,rfl,rfl,rfl,rfl,rfl,trivial⟩ ⟨rfl,⟨_,rfl,rfl⟩,rfl,⟨_,rfl,rfl⟩,rfl,⟨_,rfl,congrArg (Ob.row 68 4) zKD⟩,trivial⟩) ?_
     refine zYb ?_;refine⟨(k,IntKind.i64.wrap (x6+1),l7++[CV.mk y11A y11F y11B y11E]),h,(Le.rnm [(0,0),(1,1),(2,2)] _ _ _ ⟨rfl,rfl,rfl,rfl,rfl,rfl,trivial⟩ ⟨rfl,⟨_,rfl,rfl⟩,rfl,⟨_,rfl,rfl⟩,rfl,⟨_,rfl,rfl⟩,trivial⟩),Nat.lt_succ_self k⟩
    ·refine zAx ?_;cases h;exact(Le.rnm [(0,0),(1,1),(2,2)] _ _ _ ⟨rfl,rfl,trivial⟩ ⟨rfl,⟨_,rfl,rfl⟩,rfl,⟨_,rfl,rfl⟩,rfl,⟨_,rfl,rfl⟩,trivial⟩)
 ·refine zAi hle ?_;refine zYc ?_;refine zAd ?_;have hy:=osi h;subst hy;unfold zCJ;exact⟨_,(Le.trans (Le.rnm [(0,0),(2,1)] [(4,.op 0 0)] [(0,.box 68 [.s (.int .i64 y2A),.s (.int .i64 y2F),.s (.str y2B),.orow 1]),(1,.row 68 4 (CV.encs l8))] 2 ⟨rfl,trivial⟩ ⟨rfl,⟨_,rfl,rfl⟩,rfl,⟨_,rfl,rfl⟩,trivial⟩) (Le.giveRow 1 rfl)),rfl,rfl⟩
def zNt (n:Nat) (xs:List AV) (r:Ret):Prop:=∃ (a0:List Int) (y0:CV),zCr n a0=some y0/\xs=[.s (.sl 1 ((List.map (irow .i64)) a0))]/\r = .val (.agg ((CV.enc y0).map .s))
def zGz:zAp:=zAn fun xs r=>∃ n,zNt n xs r
theorem zH4:PSound Tryz.prog 137 zGz:=by
 have gok:∀ f s,look? f [(169,zHI)]=some s->PSound Tryz.prog f s:=zAl (by
  simp only[List.forall_mem_cons]
  exact⟨zLw,by simp⟩)
 refine zAo tokW Tryz.call137 Tryz.func137 rfl (fun xs r h=>by obtain⟨n,_,_,_,rfl,_⟩:=h; show 1<=5; decide) 5 rfl ?_;rintro xs r w0 G0 ⟨n,l1,y0,h,rfl,rfl⟩ _;rw[zCr]at h;refine zXw [2] [] rfl ?_;refine zYc ?_;obtain⟨⟨y2A,y2F,y2B,y2E⟩,hy2,h⟩:=zAc h;refine⟨_,⟨_,_,_,hy2,rfl,rfl⟩,?_⟩
 refine zAd ?_;have hy:=osi h;subst hy;exact fin0 rfl rfl
def zNw (n:Nat) (xs:List AV) (r:Ret):Prop:=∃ (a0:zO8) (y0:CV),zDZ n a0=some y0/\xs=[.agg ((zAs a0).map .s)]/\r = .val (.agg ((CV.enc y0).map .s))
def zIN:zAp:=zAn fun xs r=>∃ n,zNw n xs r
theorem zMN:PSound Tryz.prog 103 zIN:=by
 have gok:∀ f s,look? f [(101,zHn),(61,zEl),(137,zGz),(59,zG7),(58,zEC)]=some s->PSound Tryz.prog f s:=zAl (by
  simp only[List.forall_mem_cons]
  exact⟨zKx,zEV,zH4,zH5,zFc,by simp⟩)
 refine zAo tokW Tryz.call103 Tryz.func103 rfl (fun xs r h=>by obtain⟨n,_,_,_,rfl,_⟩:=h; show 1<=31; decide) 31 rfl ?_;rintro xs r w0 G0 ⟨n,⟨op1A,op1N,op1I,op1M,op1G,op1L,op1O,op1B⟩,y0,h,rfl,rfl⟩ _;rw[zDZ]at h;refine zXw [2] [] rfl ?_;refine zXw [3] [] rfl ?_;obtain⟨⟨y2A,y2F,y2B,y2E⟩,hy2,h⟩:=zAc h;refine⟨_,⟨_,_,_,hy2,rfl,rfl⟩,?_⟩
 refine zAi (Le.giveBox 1 [.int .i64 y2A,.int .i64 y2F,.str y2B,.sl 4 (CV.encs y2E)] rfl rfl) ?_;refine zAa ?_;refine zAO [] [29] [24] rfl (by decide +kernel) ?_;obtain⟨⟨y3A,y3F,y3B,y3E⟩,hy3,h⟩:=zAc h;refine⟨_,⟨_,_,hy3,rfl,rfl⟩,?_⟩
 obtain⟨⟨y4A,y4F,y4B,y4E⟩,hy4,h⟩:=zAc h;refine⟨_,⟨_,_,_,hy4,rfl,rfl⟩,?_⟩
 obtain⟨⟨y5A,y5F,y5B,y5E⟩,hy5,h⟩:=zAc h;refine⟨_,⟨_,_,hy5,rfl,rfl⟩,?_⟩
 obtain⟨⟨y6A,y6F,y6B,y6E⟩,hy6,h⟩:=zAc h;refine⟨_,⟨_,_,hy6,rfl,rfl⟩,?_⟩
 obtain⟨⟨y7A,y7F,y7B,y7E⟩,hy7,h⟩:=zAc h;refine⟨_,⟨_,_,hy7,rfl,rfl⟩,?_⟩
 obtain⟨⟨y8A,y8F,y8B,y8E⟩,hy8,h⟩:=zAc h;refine⟨_,⟨_,_,hy8,rfl,rfl⟩,?_⟩
 obtain⟨⟨y9A,y9F,y9B,y9E⟩,hy9,h⟩:=zAc h;refine⟨_,⟨_,_,hy9,rfl,rfl⟩,?_⟩
 intro r10 hr10;obtain rfl:CV.encs [CV.mk y3A y3F y3B y3E,CV.mk y4A y4F y4B y4E,CV.mk y5A y5F y5B y5E,CV.mk y6A y6F y6B y6E,CV.mk y2A y2F y2B y2E,CV.mk y7A y7F y7B y7E,CV.mk y8A y8F y8B y8E,CV.mk y9A y9F y9B y9E]=r10:=(hr10.trans zKD).symm
 obtain⟨⟨y11A,y11F,y11B,y11E⟩,hy11,h⟩:=zAc h;refine⟨_,⟨_,_,hy11,rfl,rfl⟩,?_⟩
 refine zAd ?_;have hy:=osi h;subst hy;exact fin0 rfl rfl
def zNs (n:Nat) (xs:List AV) (r:Ret):Prop:=∃ (a0:List zO8) (y0:CV),zDY n a0=some y0/\xs=[.s (.sl 8 ((List.map zAs) a0)),.s (.fn 103)]/\r = .val (.agg ((CV.enc y0).map .s))
def zIK:zAp:=zAn fun xs r=>∃ n,zNs n xs r
theorem zMK:PSound Tryz.prog 102 zIK:=by
 have gok:∀ f s,look? f [(58,zDk),(103,zIN)]=some s->PSound Tryz.prog f s:=zAl (by
  simp only[List.forall_mem_cons]
  exact⟨zD2,zMN,by simp⟩)
 refine zAo tokW Tryz.call102 Tryz.func102 rfl (fun xs r h=>by obtain⟨n,_,_,_,rfl,_⟩:=h; show 2<=25; decide) 25 rfl ?_;rintro xs r w0 G0 ⟨n,l1,y0,h,rfl,rfl⟩ _;rw[zDY]at h;refine zXw [4] [] rfl ?_;refine zXw [5] [] rfl ?_;obtain⟨⟨y2A,y2F,y2B,y2E⟩,hy2,h⟩:=zAc h;refine⟨_,_,⟨_,hy2,rfl,rfl,rfl,rfl⟩,?_⟩
 refine zAa ?_;refine zXw [] [10] rfl ?_;intro n3 hn3;obtain rfl:(l1.length:Int)=n3:=(hn3.trans (congrArg (fun m:Nat=>(m:Int)) (rlen (fun _=>rfl) l1))).symm;show Tri ..;obtain⟨l8,hl,h⟩:=zAc h;refine zAk ⟨ofL [(4,.op 0 0),(5,.op 1 0)],ofH [(0,.box 68 [.s (.int .i64 0),.s (.int .i64 0),.s (.str []),.nl 4]),(1,.box 68 [.s (.int .i64 y2A),.s (.int .i64 y2F),.s (.str y2B),.orow 2]),(2,.row 68 4 (CV.encs l8))],3⟩ ?_ (fun σ' hle=>?_)
 ·refine zAj (zAt (X:=Nat×Int×(List CV)) (fun y=>match y with | (k,x6,l7)=>⟨ofL [(1,.s (.fn 103)),(4,.op 0 0),(5,.op 1 0),(9,.s (.sl 8 ((List.map zAs) l1))),(10,.s (.int .i64 (l1.length:Int))),(11,.s (.int .i64 x6))],ofH [(0,.box 68 [.s (.int .i64 0),.s (.int .i64 0),.s (.str []),.nl 4]),(1,.box 68 [.s (.int .i64 y2A),.s (.int .i64 y2F),.s (.str y2B),.orow 2]),(2,.row 68 4 (CV.encs l7))],3⟩) (fun y=>zBk n l1 y.1 y.2.1 y.2.2=some l8) (fun y=>y.1) (n,0,y2E) hl ?_ ?_)
  ·exact(Le.rnm [(0,0),(3,1),(2,2)] _ _ _ ⟨rfl,rfl,rfl,rfl,rfl,rfl,trivial⟩ ⟨rfl,⟨_,rfl,rfl⟩,rfl,⟨_,rfl,rfl⟩,rfl,⟨_,rfl,rfl⟩,trivial⟩)
  ·rintro⟨k,x6,l7⟩ h;cases k with
   | zero=>cases h
   | succ k =>
    replace h:zBk n l1 (k+1) x6 l7=some l8:=h;rw[zBk]at h;refine zYc ?_;refine zAa ?_;refine zAg rfl h (fun hb h=>?_) (fun hb h=>?_)
    ·refine zAe ?_;refine zAa ?_;refine zAj ?_;refine zXw [7] [13] rfl ?_;obtain⟨⟨e9A,e9N,e9I,e9M,e9G,e9L,e9O,e9B⟩,he9,h⟩:=zAc h;refine And.intro (zAr (fun _=>rfl) he9).1 ?_;intro r10 hr10;obtain rfl:[.int .i64 e9A,.sl 1 ((List.map (irow .i64)) e9N),.int .i64 e9I,.int .i64 e9M,.sl 4 (Nd.encs e9G),.int .i64 e9L,.str e9O,.str e9B]=r10:=(hr10.trans (zAr (fun _=>rfl) he9).2.1).symm;show Tri ..
     refine zAi (Le.giveBox 3 [.int .i64 e9A,.sl 1 ((List.map (irow .i64)) e9N),.int .i64 e9I,.int .i64 e9M,.sl 4 (Nd.encs e9G),.int .i64 e9L,.str e9O,.str e9B] rfl rfl) ?_;refine zAO [21] [20] [1,6,8] rfl (by decide +kernel) ?_;obtain⟨⟨y11A,y11F,y11B,y11E⟩,hy11,h⟩:=zAc h;refine⟨_,⟨_,_,_,hy11,rfl,rfl⟩,?_⟩
     intro r12 hr12;obtain rfl:CV.encs [CV.mk y11A y11F y11B y11E]=r12:=(hr12.trans zKD).symm;obtain⟨hq,h⟩:=zAy h
     refine And.intro (show((CV.encs l7).length+(CV.encs [CV.mk y11A y11F y11B y11E]).length) * 56<=140737488355328/\(CV.encs l7).length+(CV.encs [CV.mk y11A y11F y11B y11E]).length<=9223372036854775807 from by simp only[List.length_append,List.length_cons,List.length_nil,List.length_map,rlen CV.encs_eq]at hq ⊢; omega) ?_;show Tri ..
     refine zAi (Le.rnm [(0,0),(1,1),(4,2)] [(1,.s (.fn 103)),(4,.op 0 0),(5,.op 1 0),(9,.s (.sl 8 ((List.map zAs) l1))),(10,.s (.int .i64 (l1.length:Int))),(11,.s (.int .i64 x6))] [(0,.box 68 [.s (.int .i64 0),.s (.int .i64 0),.s (.str []),.nl 4]),(1,.box 68 [.s (.int .i64 y2A),.s (.int .i64 y2F),.s (.str y2B),.orow 2]),(2,.row 68 4 (CV.encs (l7++[CV.mk y11A y11F y11B y11E])))] 3 ⟨rfl,rfl,rfl,rfl,rfl,rfl,trivial⟩ ⟨rfl,⟨_,rfl,rfl⟩,rfl,⟨_,rfl,rfl⟩,rfl,⟨_,rfl,congrArg (Ob.row 68 4) zKD⟩,trivial⟩) ?_
     refine zYb ?_;refine⟨(k,IntKind.i64.wrap (x6+1),l7++[CV.mk y11A y11F y11B y11E]),h,(Le.rnm [(0,0),(1,1),(2,2)] _ _ _ ⟨rfl,rfl,rfl,rfl,rfl,rfl,trivial⟩ ⟨rfl,⟨_,rfl,rfl⟩,rfl,⟨_,rfl,rfl⟩,rfl,⟨_,rfl,rfl⟩,trivial⟩),Nat.lt_succ_self k⟩
    ·refine zAx ?_;cases h;exact(Le.rnm [(0,0),(1,1),(2,2)] _ _ _ ⟨rfl,rfl,trivial⟩ ⟨rfl,⟨_,rfl,rfl⟩,rfl,⟨_,rfl,rfl⟩,rfl,⟨_,rfl,rfl⟩,trivial⟩)
 ·refine zAi hle ?_;refine zYc ?_;refine zAd ?_;have hy:=osi h;subst hy;unfold zCJ;exact⟨_,(Le.trans (Le.rnm [(0,0),(2,1)] [(4,.op 0 0)] [(0,.box 68 [.s (.int .i64 y2A),.s (.int .i64 y2F),.s (.str y2B),.orow 1]),(1,.row 68 4 (CV.encs l8))] 2 ⟨rfl,trivial⟩ ⟨rfl,⟨_,rfl,rfl⟩,rfl,⟨_,rfl,rfl⟩,trivial⟩) (Le.giveRow 1 rfl)),rfl,rfl⟩
def zJA (n:Nat) (xs:List AV) (r:Ret):Prop:=∃ (a0:zCu) (y0:CV),zBM n a0=some y0/\xs=[.agg ((zBC a0).map .s)]/\r = .val (.agg ((CV.enc y0).map .s))
def zGf:zAp:=zAn fun xs r=>∃ n,zJA n xs r
theorem zJk:PSound Tryz.prog 104 zGf:=by
 have gok:∀ f s,look? f [(137,zGz),(58,zEC)]=some s->PSound Tryz.prog f s:=zAl (by
  simp only[List.forall_mem_cons]
  exact⟨zH4,zFc,by simp⟩)
 refine zAo tokW Tryz.call104 Tryz.func104 rfl (fun xs r h=>by obtain⟨n,_,_,_,rfl,_⟩:=h; show 1<=11; decide) 11 rfl ?_;rintro xs r w0 G0 ⟨n,⟨c1Ai,c1Ah⟩,y0,h,rfl,rfl⟩ _;rw[zBM]at h;refine zXw [2] [] rfl ?_;refine zAa ?_;refine zAO [] [9] [8] rfl (by decide +kernel) ?_;obtain⟨⟨y2A,y2F,y2B,y2E⟩,hy2,h⟩:=zAc h;refine⟨_,⟨_,_,_,hy2,rfl,rfl⟩,?_⟩
 obtain⟨⟨y3A,y3F,y3B,y3E⟩,hy3,h⟩:=zAc h;refine⟨_,⟨_,_,_,hy3,rfl,rfl⟩,?_⟩
 intro r4 hr4;obtain rfl:CV.encs [CV.mk y2A y2F y2B y2E,CV.mk y3A y3F y3B y3E]=r4:=(hr4.trans zKD).symm;obtain⟨⟨y5A,y5F,y5B,y5E⟩,hy5,h⟩:=zAc h;refine⟨_,⟨_,_,hy5,rfl,rfl⟩,?_⟩
 refine zAd ?_;have hy:=osi h;subst hy;exact fin0 rfl rfl
def zJB (n:Nat) (xs:List AV) (r:Ret):Prop:=∃ (a0:zRc) (y0:CV),zCl n a0=some y0/\xs=[.agg ((zAm a0).map .s)]/\r = .val (.agg ((CV.enc y0).map .s))
def zGg:zAp:=zAn fun xs r=>∃ n,zJB n xs r
theorem zJl:PSound Tryz.prog 63 zGg:=by
 have gok:∀ f s,look? f [(102,zIK),(104,zGf),(58,zEC)]=some s->PSound Tryz.prog f s:=zAl (by
  simp only[List.forall_mem_cons]
  exact⟨zMK,zJk,zFc,by simp⟩)
 refine zAo tokW Tryz.call63 Tryz.func63 rfl (fun xs r h=>by obtain⟨n,_,_,_,rfl,_⟩:=h; show 1<=14; decide) 14 rfl ?_;rintro xs r w0 G0 ⟨n,⟨r1P,⟨r1Ab,r1Ac⟩,⟨r1Ad,r1Ae⟩⟩,y0,h,rfl,rfl⟩ _;rw[zCl]at h;refine zXw [2] [] rfl ?_;refine zAa ?_;refine zAO [] [12] [11] rfl (by decide +kernel) ?_;obtain⟨⟨y2A,y2F,y2B,y2E⟩,hy2,h⟩:=zAc h;refine⟨_,⟨_,_,_,hy2,rfl,rfl⟩,?_⟩
 obtain⟨⟨y3A,y3F,y3B,y3E⟩,hy3,h⟩:=zAc h;refine⟨_,⟨_,_,_,hy3,rfl,rfl⟩,?_⟩
 obtain⟨⟨y4A,y4F,y4B,y4E⟩,hy4,h⟩:=zAc h;refine⟨_,⟨_,_,_,hy4,rfl,rfl⟩,?_⟩
 intro r5 hr5;obtain rfl:CV.encs [CV.mk y2A y2F y2B y2E,CV.mk y3A y3F y3B y3E,CV.mk y4A y4F y4B y4E]=r5:=(hr5.trans zKD).symm;obtain⟨⟨y6A,y6F,y6B,y6E⟩,hy6,h⟩:=zAc h;refine⟨_,⟨_,_,hy6,rfl,rfl⟩,?_⟩
 refine zAd ?_;have hy:=osi h;subst hy;exact fin0 rfl rfl
def zJz (n:Nat) (xs:List AV) (r:Ret):Prop:=∃ (a0:List zRc) (y0:CV),zDi n a0=some y0/\xs=[.s (.sl 5 ((List.map zAm) a0)),.s (.fn 63)]/\r = .val (.agg ((CV.enc y0).map .s))
def zGe:zAp:=zAn fun xs r=>∃ n,zJz n xs r
theorem zJj:PSound Tryz.prog 62 zGe:=by
 have gok:∀ f s,look? f [(58,zDk),(63,zGg)]=some s->PSound Tryz.prog f s:=zAl (by
  simp only[List.forall_mem_cons]
  exact⟨zD2,zJl,by simp⟩)
 refine zAo tokW Tryz.call62 Tryz.func62 rfl (fun xs r h=>by obtain⟨n,_,_,_,rfl,_⟩:=h; show 2<=25; decide) 25 rfl ?_;rintro xs r w0 G0 ⟨n,l1,y0,h,rfl,rfl⟩ _;rw[zDi]at h;refine zXw [4] [] rfl ?_;refine zXw [5] [] rfl ?_;obtain⟨⟨y2A,y2F,y2B,y2E⟩,hy2,h⟩:=zAc h;refine⟨_,_,⟨_,hy2,rfl,rfl,rfl,rfl⟩,?_⟩
 refine zAa ?_;refine zXw [] [10] rfl ?_;intro n3 hn3;obtain rfl:(l1.length:Int)=n3:=(hn3.trans (congrArg (fun m:Nat=>(m:Int)) (rlen (fun _=>rfl) l1))).symm;show Tri ..;obtain⟨l8,hl,h⟩:=zAc h;refine zAk ⟨ofL [(4,.op 0 0),(5,.op 1 0)],ofH [(0,.box 68 [.s (.int .i64 0),.s (.int .i64 0),.s (.str []),.nl 4]),(1,.box 68 [.s (.int .i64 y2A),.s (.int .i64 y2F),.s (.str y2B),.orow 2]),(2,.row 68 4 (CV.encs l8))],3⟩ ?_ (fun σ' hle=>?_)
 ·refine zAj (zAt (X:=Nat×Int×(List CV)) (fun y=>match y with | (k,x6,l7)=>⟨ofL [(1,.s (.fn 63)),(4,.op 0 0),(5,.op 1 0),(9,.s (.sl 5 ((List.map zAm) l1))),(10,.s (.int .i64 (l1.length:Int))),(11,.s (.int .i64 x6))],ofH [(0,.box 68 [.s (.int .i64 0),.s (.int .i64 0),.s (.str []),.nl 4]),(1,.box 68 [.s (.int .i64 y2A),.s (.int .i64 y2F),.s (.str y2B),.orow 2]),(2,.row 68 4 (CV.encs l7))],3⟩) (fun y=>zAQ n l1 y.1 y.2.1 y.2.2=some l8) (fun y=>y.1) (n,0,y2E) hl ?_ ?_)
  ·exact(Le.rnm [(0,0),(3,1),(2,2)] _ _ _ ⟨rfl,rfl,rfl,rfl,rfl,rfl,trivial⟩ ⟨rfl,⟨_,rfl,rfl⟩,rfl,⟨_,rfl,rfl⟩,rfl,⟨_,rfl,rfl⟩,trivial⟩)
  ·rintro⟨k,x6,l7⟩ h;cases k with
   | zero=>cases h
   | succ k =>
    replace h:zAQ n l1 (k+1) x6 l7=some l8:=h;rw[zAQ]at h;refine zYc ?_;refine zAa ?_;refine zAg rfl h (fun hb h=>?_) (fun hb h=>?_)
    ·refine zAe ?_;refine zAa ?_;refine zAj ?_;refine zXw [7] [13] rfl ?_;obtain⟨⟨e9P,⟨e9Ab,e9Ac⟩,⟨e9Ad,e9Ae⟩⟩,he9,h⟩:=zAc h;refine And.intro (zAr (fun _=>rfl) he9).1 ?_;intro r10 hr10;obtain rfl:[.sl 8 ((List.map zAs) e9P),.sl 1 ((List.map (irow .i64)) e9Ab),.sl 1 ((List.map (irow .i64)) e9Ac),.sl 1 ((List.map (irow .i64)) e9Ad),.sl 1 ((List.map (irow .i64)) e9Ae)]=r10:=(hr10.trans (zAr (fun _=>rfl) he9).2.1).symm;show Tri ..
     refine zAi (Le.giveBox 3 [.sl 8 ((List.map zAs) e9P),.sl 1 ((List.map (irow .i64)) e9Ab),.sl 1 ((List.map (irow .i64)) e9Ac),.sl 1 ((List.map (irow .i64)) e9Ad),.sl 1 ((List.map (irow .i64)) e9Ae)] rfl rfl) ?_;refine zAO [21] [20] [1,6,8] rfl (by decide +kernel) ?_;obtain⟨⟨y11A,y11F,y11B,y11E⟩,hy11,h⟩:=zAc h;refine⟨_,⟨_,_,_,hy11,rfl,rfl⟩,?_⟩
     intro r12 hr12;obtain rfl:CV.encs [CV.mk y11A y11F y11B y11E]=r12:=(hr12.trans zKD).symm;obtain⟨hq,h⟩:=zAy h
     refine And.intro (show((CV.encs l7).length+(CV.encs [CV.mk y11A y11F y11B y11E]).length) * 56<=140737488355328/\(CV.encs l7).length+(CV.encs [CV.mk y11A y11F y11B y11E]).length<=9223372036854775807 from by simp only[List.length_append,List.length_cons,List.length_nil,List.length_map,rlen CV.encs_eq]at hq ⊢; omega) ?_;show Tri ..
     refine zAi (Le.rnm [(0,0),(1,1),(4,2)] [(1,.s (.fn 63)),(4,.op 0 0),(5,.op 1 0),(9,.s (.sl 5 ((List.map zAm) l1))),(10,.s (.int .i64 (l1.length:Int))),(11,.s (.int .i64 x6))] [(0,.box 68 [.s (.int .i64 0),.s (.int .i64 0),.s (.str []),.nl 4]),(1,.box 68 [.s (.int .i64 y2A),.s (.int .i64 y2F),.s (.str y2B),.orow 2]),(2,.row 68 4 (CV.encs (l7++[CV.mk y11A y11F y11B y11E])))] 3 ⟨rfl,rfl,rfl,rfl,rfl,rfl,trivial⟩ ⟨rfl,⟨_,rfl,rfl⟩,rfl,⟨_,rfl,rfl⟩,rfl,⟨_,rfl,congrArg (Ob.row 68 4) zKD⟩,trivial⟩) ?_
     refine zYb ?_;refine⟨(k,IntKind.i64.wrap (x6+1),l7++[CV.mk y11A y11F y11B y11E]),h,(Le.rnm [(0,0),(1,1),(2,2)] _ _ _ ⟨rfl,rfl,rfl,rfl,rfl,rfl,trivial⟩ ⟨rfl,⟨_,rfl,rfl⟩,rfl,⟨_,rfl,rfl⟩,rfl,⟨_,rfl,rfl⟩,trivial⟩),Nat.lt_succ_self k⟩
    ·refine zAx ?_;cases h;exact(Le.rnm [(0,0),(1,1),(2,2)] _ _ _ ⟨rfl,rfl,trivial⟩ ⟨rfl,⟨_,rfl,rfl⟩,rfl,⟨_,rfl,rfl⟩,rfl,⟨_,rfl,rfl⟩,trivial⟩)
 ·refine zAi hle ?_;refine zYc ?_;refine zAd ?_;have hy:=osi h;subst hy;unfold zCJ;exact⟨_,(Le.trans (Le.rnm [(0,0),(2,1)] [(4,.op 0 0)] [(0,.box 68 [.s (.int .i64 y2A),.s (.int .i64 y2F),.s (.str y2B),.orow 1]),(1,.row 68 4 (CV.encs l8))] 2 ⟨rfl,trivial⟩ ⟨rfl,⟨_,rfl,rfl⟩,rfl,⟨_,rfl,rfl⟩,trivial⟩) (Le.giveRow 1 rfl)),rfl,rfl⟩
def zIw (n:Nat) (xs:List AV) (r:Ret):Prop:=∃ (a0:(List UInt8×Nd×List zRc×Int)) (y0:CV),zBU n a0=some y0/\xs=[.agg ((zA2 a0).map .s)]/\r = .val (.agg ((CV.enc y0).map .s))
def zFn:zAp:=zAn fun xs r=>∃ n,zIw n xs r
theorem zH6:PSound Tryz.prog 27 zFn:=by
 have gok:∀ f s,look? f [(59,zG7),(60,zHo),(61,zEl),(62,zGe),(58,zEC)]=some s->PSound Tryz.prog f s:=zAl (by
  simp only[List.forall_mem_cons]
  exact⟨zH5,zKy,zEV,zJj,zFc,by simp⟩)
 refine zAo tokW Tryz.call27 Tryz.func27 rfl (fun xs r h=>by obtain⟨n,_,_,_,rfl,_⟩:=h; show 1<=17; decide) 17 rfl ?_;rintro xs r w0 G0 ⟨n,⟨d1V,⟨d1Q,d1R,d1S,d1T⟩,d1H,d1W⟩,y0,h,rfl,rfl⟩ _;rw[zBU]at h;refine zXw [2] [] rfl ?_;refine zAa ?_;refine zAO [] [15] [14] rfl (by decide +kernel) ?_;obtain⟨⟨y2A,y2F,y2B,y2E⟩,hy2,h⟩:=zAc h;refine⟨_,⟨_,_,hy2,rfl,rfl⟩,?_⟩
 obtain⟨⟨y3A,y3F,y3B,y3E⟩,hy3,h⟩:=zAc h;refine⟨_,⟨_,_,_,hy3,rfl,rfl⟩,?_⟩
 obtain⟨⟨y4A,y4F,y4B,y4E⟩,hy4,h⟩:=zAc h;refine⟨_,⟨_,_,hy4,rfl,rfl⟩,?_⟩
 obtain⟨⟨y5A,y5F,y5B,y5E⟩,hy5,h⟩:=zAc h;refine⟨_,⟨_,_,_,hy5,rfl,rfl⟩,?_⟩
 intro r6 hr6;obtain rfl:CV.encs [CV.mk y2A y2F y2B y2E,CV.mk y3A y3F y3B y3E,CV.mk y4A y4F y4B y4E,CV.mk y5A y5F y5B y5E]=r6:=(hr6.trans zKD).symm;obtain⟨⟨y7A,y7F,y7B,y7E⟩,hy7,h⟩:=zAc h;refine⟨_,⟨_,_,hy7,rfl,rfl⟩,?_⟩
 refine zAd ?_;have hy:=osi h;subst hy;exact fin0 rfl rfl
def zR2 (n:Nat) (xs:List AV) (r:Ret):Prop:=∃ (a0:(List UInt8×Nd×List zRc×Int)) (y0:List UInt8) (y1:Int),zDo n a0=some (y0,y1)/\xs=[.agg ((zA2 a0).map .s)]/\r = .val (.tup [.s (.sl 1 ((List.map brow) y0)),.s (.int .i64 y1)])
def zI6:zAp:=zAn fun xs r=>∃ n,zR2 n xs r
theorem zST {α:Type}{a b:α} (h:a=b:=by simp[List.map_append,List.map_take,List.map_drop,irow,brow,zEm,List.map_cons,List.map_nil,zDV,Nd.encs_eq,Nd.enc,CV.encs_eq,CV.enc,zBi,zAJ,zBL,zAF,zAC,zAs,zCg,zBC,zAm,zA2]):a=b :=
 h
theorem zLd:PSound Tryz.prog 10 zI6:=by
 have gok:∀ f s,look? f [(12,zHH),(27,zFn),(26,zIG),(28,zIJ)]=some s->PSound Tryz.prog f s:=zAl (by
  simp only[List.forall_mem_cons]
  exact⟨zJ2,zH6,zMF,zMJ,by simp⟩)
 refine zAo tokW Tryz.call10 Tryz.func10 rfl (fun xs r h=>by obtain⟨n,_,_,_,_,rfl,_⟩:=h; show 1<=42; decide) 42 rfl ?_;rintro xs r w0 G0 ⟨n,⟨d1V,⟨d1Q,d1R,d1S,d1T⟩,d1H,d1W⟩,y0,y1,h,rfl,rfl⟩ _;rw[zDo]at h;refine zXw [2] [] rfl ?_;refine zAi (Le.rnm [] [(1,.s (.pt [.str d1V,.int .i64 d1Q,.str d1R,.int .i64 d1S,.sl 4 (Nd.encs d1T),.sl 5 ((List.map zAm) d1H),.int .i64 d1W]))] [] 0 ⟨rfl,trivial⟩ trivial) ?_;refine zAa ?_;refine zYc ?_
 obtain⟨y2,hy2,h⟩:=zAc h;refine⟨_,⟨_,_,_,hy2,rfl,rfl⟩,?_⟩
 refine zAg rfl h (fun hb h=>?_) (fun hb h=>?_)
 ·refine zXw [2] [] rfl ?_;refine zAi (Le.rnm [(0,0)] [(2,.orow 0),(3,.s (.int .i64 1))] [(0,.row 5 1 ((List.map brow) []))] 1 ⟨rfl,rfl,trivial⟩ ⟨rfl,⟨_,rfl,congrArg (Ob.row 5 1) zST⟩,trivial⟩) ?_;refine zAd ?_;obtain⟨hj1,hk1⟩:=pij h;subst hj1 hk1;unfold zCJ
  exact⟨_,(Le.trans (Le.rnm [(0,0)] [(2,.orow 0),(3,.s (.int .i64 1))] [(0,.row 5 1 ((List.map brow) []))] 1 ⟨rfl,rfl,trivial⟩ ⟨rfl,⟨_,rfl,rfl⟩,trivial⟩) (Le.giveRow 0 rfl)),rfl,rfl⟩
 ·refine zAe ?_;refine zYc ?_;obtain⟨⟨y3A,y3F,y3B,y3E⟩,hy3,h⟩:=zAc h;refine⟨_,⟨_,_,_,hy3,rfl,rfl⟩,?_⟩
  obtain⟨⟨y4,y5⟩,hy4,h⟩:=zAc h;refine⟨_,⟨_,_,_,_,hy4,rfl,rfl⟩,?_⟩
  refine zAa ?_;refine zYc ?_;refine zAg rfl h (fun hb h=>?_) (fun hb h=>?_)
  ·refine zXw [2] [] rfl ?_;refine zAi (Le.rnm [(0,0)] [(2,.orow 0),(3,.s (.int .i64 6))] [(0,.row 5 1 ((List.map brow) []))] 1 ⟨rfl,rfl,trivial⟩ ⟨rfl,⟨_,rfl,congrArg (Ob.row 5 1) zST⟩,trivial⟩) ?_;refine zAd ?_;obtain⟨hj1,hk1⟩:=pij h;subst hj1 hk1;unfold zCJ
   exact⟨_,(Le.trans (Le.rnm [(0,0)] [(2,.orow 0),(3,.s (.int .i64 6))] [(0,.row 5 1 ((List.map brow) []))] 1 ⟨rfl,rfl,trivial⟩ ⟨rfl,⟨_,rfl,rfl⟩,trivial⟩) (Le.giveRow 0 rfl)),rfl,rfl⟩
  ·refine zAe ?_;refine zXw [23] [21] rfl ?_;intro n6 hn6;obtain rfl:(y4.length:Int)=n6:=(hn6.trans (congrArg (fun m:Nat=>(m:Int)) (rlen (fun _=>rfl) y4))).symm;obtain⟨hq,h⟩:=zAy h;refine And.intro (show 0<=(0:Int)/\(0:Int)<=(IntKind.i64.wrap (12+(y4.length:Int)))/\(IntKind.i64.wrap (12+(y4.length:Int))) * ((1:Nat):Int)<=281474976710656/\(IntKind.i64.wrap (12+(y4.length:Int)))<=281474976710656 from⟨hq.1,hq.2.1,by have h1:=hq.1; have h2:=hq.2.1; have h3:=hq.2.2; omega,by have h3:=hq.2.2; omega⟩) ?_;show Tri ..
   refine zAi (Le.rnm [(0,0)] [(4,.s (.sl 1 ((List.map brow) y4))),(6,.orow 0)] [(0,.row 5 1 ((List.map brow) (List.replicate (0:Int).toNat (b8of 0))))] 1 ⟨rfl,rfl,trivial⟩ ⟨rfl,⟨_,rfl,congrArg (Ob.row 5 1) zST⟩,trivial⟩) ?_;refine zXw [25] [] rfl ?_;obtain⟨hq,h⟩:=zAy h
   refine And.intro (show(((List.map brow) (List.replicate (0:Int).toNat (b8of 0))).length+(List.map brow [86,67,76,49]).length) * 1<=140737488355328/\((List.map brow) (List.replicate (0:Int).toNat (b8of 0))).length+(List.map brow [86,67,76,49]).length<=9223372036854775807 from by simp only[List.length_append,List.length_cons,List.length_nil,List.length_map,rlen (fun _=>rfl)]at hq ⊢; omega) ?_;show Tri ..
   refine zAi (Le.rnm [(1,0)] [(4,.s (.sl 1 ((List.map brow) y4))),(6,.orow 0)] [(0,.row 5 1 ((List.map brow) ((List.replicate (0:Int).toNat (b8of 0))++[86,67,76,49])))] 1 ⟨rfl,rfl,trivial⟩ ⟨rfl,⟨_,rfl,congrArg (Ob.row 5 1) zST⟩,trivial⟩) ?_;refine zYc ?_;obtain⟨y7,hy7,h⟩:=zAc h
   refine⟨_,⟨_,_,_,hy7,rfl,rfl⟩,?_⟩
   refine zAa ?_;refine zYc ?_;show Tri ..;obtain⟨l11,hl,h⟩:=zAc h;refine zAk ⟨ofL [(4,.s (.sl 1 ((List.map brow) y4))),(6,.orow 0)],ofH [(0,.row 5 1 ((List.map brow) l11))],1⟩ ?_ (fun σ' hle=>?_)
   ·refine zAj (zAt (X:=Nat×Int×(List UInt8)) (fun y=>match y with | (k,shift9,l10)=>⟨ofL [(4,.s (.sl 1 ((List.map brow) y4))),(6,.orow 0),(7,.s (.int .u64 y7)),(8,.s (.int .i64 shift9))],ofH [(0,.row 5 1 ((List.map brow) l10))],1⟩) (fun y=>zCq y7 y.1 y.2.1 y.2.2=some l11) (fun y=>y.1) (n,56,(List.replicate (0:Int).toNat (b8of 0))++[86,67,76,49]) hl ?_ ?_)
    ·exact(Le.rnm [(0,0)] _ _ _ ⟨rfl,rfl,rfl,rfl,trivial⟩ ⟨rfl,⟨_,rfl,rfl⟩,trivial⟩)
    ·rintro⟨k,shift9,l10⟩ h;cases k with
     | zero=>cases h
     | succ k =>
      replace h:zCq y7 (k+1) shift9 l10=some l11:=h;rw[zCq]at h;refine zAa ?_;refine zYc ?_;refine zAg rfl h (fun hb h=>?_) (fun hb h=>?_)
      ·refine zAe ?_;refine zAa ?_;refine zAj ?_;refine zAb [38] [37] rfl ?_;obtain⟨hq,h⟩:=zAy h;refine And.intro hq ?_;intro r12 hr12;obtain rfl:(List.map brow) [b8of (IntKind.u8.wrap (y7.fdiv (2 ^ (min shift9.toNat IntKind.u64.bits))))]=r12:=(hr12.trans zST).symm;obtain⟨hq,h⟩:=zAy h
       refine And.intro (show(((List.map brow) l10).length+((List.map brow) [b8of (IntKind.u8.wrap (y7.fdiv (2 ^ (min shift9.toNat IntKind.u64.bits))))]).length) * 1<=140737488355328/\((List.map brow) l10).length+((List.map brow) [b8of (IntKind.u8.wrap (y7.fdiv (2 ^ (min shift9.toNat IntKind.u64.bits))))]).length<=9223372036854775807 from by simp only[List.length_append,List.length_cons,List.length_nil,List.length_map,rlen (fun _=>rfl)]at hq ⊢; omega) ?_;show Tri ..
       refine zAi (Le.rnm [(1,0)] [(4,.s (.sl 1 ((List.map brow) y4))),(6,.orow 0),(7,.s (.int .u64 y7)),(8,.s (.int .i64 shift9))] [(0,.row 5 1 ((List.map brow) (l10++[b8of (IntKind.u8.wrap (y7.fdiv (2 ^ (min shift9.toNat IntKind.u64.bits))))])))] 1 ⟨rfl,rfl,rfl,rfl,trivial⟩ ⟨rfl,⟨_,rfl,congrArg (Ob.row 5 1) zST⟩,trivial⟩) ?_
       refine zYb ?_;refine⟨(k,IntKind.i64.wrap (shift9 - 8),l10++[b8of (IntKind.u8.wrap (y7.fdiv (2 ^ (min shift9.toNat IntKind.u64.bits))))]),h,(Le.rnm [(0,0)] _ _ _ ⟨rfl,rfl,rfl,rfl,trivial⟩ ⟨rfl,⟨_,rfl,rfl⟩,trivial⟩),Nat.lt_succ_self k⟩
      ·refine zAx ?_;cases h;exact(Le.rnm [(0,0)] _ _ _ ⟨rfl,rfl,trivial⟩ ⟨rfl,⟨_,rfl,rfl⟩,trivial⟩)
   ·refine zAi hle ?_;refine zXw [41] [] rfl ?_;obtain⟨hq,h⟩:=zAy h;refine And.intro (show(((List.map brow) l11).length+((List.map brow) y4).length) * 1<=140737488355328/\((List.map brow) l11).length+((List.map brow) y4).length<=9223372036854775807 from by simp only[List.length_append,List.length_cons,List.length_nil,List.length_map,rlen (fun _=>rfl)]at hq ⊢; omega) ?_;show Tri ..
    refine zAi (Le.rnm [(1,0)] [(2,.orow 0),(3,.s (.int .i64 0))] [(0,.row 5 1 ((List.map brow) (l11++y4)))] 1 ⟨rfl,rfl,trivial⟩ ⟨rfl,⟨_,rfl,congrArg (Ob.row 5 1) zST⟩,trivial⟩) ?_;refine zAd ?_;obtain⟨hj1,hk1⟩:=pij h;subst hj1 hk1;unfold zCJ
    exact⟨_,(Le.trans (Le.rnm [(0,0)] [(2,.orow 0),(3,.s (.int .i64 0))] [(0,.row 5 1 ((List.map brow) (l11++y4)))] 1 ⟨rfl,rfl,trivial⟩ ⟨rfl,⟨_,rfl,rfl⟩,trivial⟩) (Le.giveRow 0 rfl)),rfl,rfl⟩
def zR5 (n:Nat) (xs:List AV) (r:Ret):Prop:=∃ (y0:Bool),zEH n=some y0/\xs=[]/\r = .val (.s (.bool y0))
def zLW:zAp:=zAn fun xs r=>∃ n,zR5 n xs r
theorem zRj:PSound Tryz.prog 8 zLW:=by
 have gok:∀ f s,look? f [(10,zI6)]=some s->PSound Tryz.prog f s:=zAl (by
  simp only[List.forall_mem_cons]
  exact⟨zLd,by simp⟩)
 refine zAo tokW Tryz.call8 Tryz.func8 rfl (fun xs r h=>by obtain⟨n,_,_,rfl,_⟩:=h; show 0<=22; decide) 22 rfl ?_;rintro xs r w0 G0 ⟨n,y0,h,rfl,rfl⟩ _;rw[zEH]at h;refine zYc ?_;refine zYc ?_;obtain⟨⟨y1,y2⟩,hy1,h⟩:=zAc h;refine⟨_,⟨_,_,_,_,hy1,rfl,rfl⟩,?_⟩
 refine zAa ?_;obtain⟨x3,hj,h⟩:=zAc h;refine zAk ⟨ofL [(0,.s (.bool x3))],fun _=>none,0⟩ ?_ (fun σ' hle=>?_)
 ·replace h:=hj;refine zAb [] [11,13,16,18,19] rfl ?_;intro b hb;cases b with
  | true =>
   replace h:=zAv hb.symm h;intro n4 hn4;obtain rfl:(y1.length:Int)=n4:=(hn4.trans (congrArg (fun m:Nat=>(m:Int)) (rlen (fun _=>rfl) y1))).symm;intro b hb;cases b with
   | true =>
    replace h:=zAv hb.symm h;obtain⟨hq,h⟩:=zAy h;refine And.intro ⟨hq.1,Int.le_trans hq.2.1 (Int.ofNat_le.2 (Nat.le_of_eq (rlen (fun _=>rfl) _).symm)),Int.le_refl _⟩ ?_;intro r5 hr5;obtain rfl:(List.map brow) ((y1.take (y1.length:Int).toNat).drop (12:Int).toNat)=r5:=(hr5.trans ((congrArg (fun m:Nat=>(((List.map brow) y1).take m).drop (12:Int).toNat) (rlen (fun _=>rfl) _)).trans (rcut (fun _=>rfl) _ _ _))).symm;refine And.intro (show List.map brow ((y1.take (y1.length:Int).toNat).drop (12:Int).toNat)=((List.map brow ((y1.take (y1.length:Int).toNat).drop (12:Int).toNat)).map zHq).map brow from by rw[zGN]) ?_;intro s6 hs6
    obtain rfl:(y1.take (y1.length:Int).toNat).drop (12:Int).toNat=s6:=(hs6.trans (zGN _)).symm;cases h;exact(Le.forget _ ⟨rfl,trivial⟩)
   | false =>
    replace h:=zAu hb.symm h;cases h;exact(Le.forget _ ⟨rfl,trivial⟩)
  | false =>
   replace h:=zAu hb.symm h;intro b hb;subst hb;cases h;exact(Le.forget _ ⟨rfl,trivial⟩)
 ·refine zAi hle ?_;refine zAd ?_;have hy:=osi h;subst hy;exact fin0 rfl rfl
def zSb (xs:List AV) (r:Ret):Prop:=∃ (a0:List Nd) (y0:Nd),zCU a0=some y0/\xs=[.s (.sl 4 (Nd.encs a0))]/\r = .val (.agg ((Nd.enc y0).map .s))
def zFN:zAp:=zAn fun xs r=>zSb xs r
theorem zGr:PSound Tryz.prog 54 zFN:=by
 have gok:=@gok0 Tryz.prog;refine zAo tokW Tryz.call54 Tryz.func54 rfl (fun xs r h=>by obtain⟨_,_,_,rfl,_⟩:=h; show 1<=5; decide) 5 rfl ?_;rintro xs r w0 G0 ⟨l1,y0,h,rfl,rfl⟩ _;rw[zCU]at h;refine zXw [2] [] rfl ?_;refine zYc ?_;refine zAd ?_;have hy:=osi h;subst hy;exact fin0 rfl rfl
def zGJ (n:Nat) (xs:List AV) (r:Ret):Prop:=∃ (a0:Nd) (a1:Int) (y0:Int),zDL n a0 a1=some y0/\xs=[.agg ((Nd.enc a0).map .s),.s (.int .i64 a1)]/\r = .val (.s (.int .i64 y0))
theorem zP2 (n:Nat) (ih:PSound Tryz.prog 55 (zAn (zGJ n))):PSound Tryz.prog 55 (zAn (zGJ (n+1))):=by
 have gok:∀ f s,look? f [(55,zAn (zGJ n))]=some s->PSound Tryz.prog f s:=zAl (by
  simp only[List.forall_mem_cons]
  exact⟨ih,by simp⟩)
 refine zAo tokW Tryz.call55 Tryz.func55 rfl (fun xs r h=>by obtain⟨_,_,_,_,rfl,_⟩:=h; show 2<=27; decide) 27 rfl ?_;rintro xs r w0 G0 ⟨⟨n1A,n1B,n1D,n1C⟩,most2,y0,h,rfl,rfl⟩ _;rw[zDL]at h;refine zYc ?_;refine zYc ?_;refine zAa ?_;refine zYc ?_;show Tri ..;obtain⟨most5,hl,h⟩:=zAc h;refine zAk ⟨ofL [(1,.s (.int .i64 most5))],fun _=>none,0⟩ ?_ (fun σ' hle=>?_)
 ·refine zAj (zAt (X:=Nat×Int×Int) (fun y=>match y with | (k,most3,i4)=>⟨ofL [(1,.s (.int .i64 most3)),(2,.s (.pt [.int .i64 n1A,.str n1B,.int .i64 n1D,.sl 4 (Nd.encs n1C)])),(5,.s (.int .i64 i4))],fun _=>none,0⟩) (fun y=>zCo (zDL n) n1C y.1 y.2.1 y.2.2=some most5) (fun y=>y.1) (n,IntKind.i64.wrap (most2 - 1),0) hl ?_ ?_)
  ·exact(Le.forget _ ⟨rfl,rfl,rfl,trivial⟩)
  ·rintro⟨k,most3,i4⟩ h;cases k with
   | zero=>cases h
   | succ k =>
    replace h:zCo (zDL n) n1C (k+1) most3 i4=some most5:=h;rw[zCo]at h;refine zAa ?_;refine zAa ?_;obtain⟨x6,hj,h⟩:=zAc h;refine zAk ⟨ofL [(1,.s (.int .i64 most3)),(2,.s (.pt [.int .i64 n1A,.str n1B,.int .i64 n1D,.sl 4 (Nd.encs n1C)])),(5,.s (.int .i64 i4)),(16,.s (.bool x6))],fun _=>none,0⟩ ?_ (fun σ' hle=>?_)
    ·replace h:=hj;refine zAb [] [11,13] rfl ?_;intro n7 hn7;obtain rfl:(n1C.length:Int)=n7:=(hn7.trans (congrArg (fun m:Nat=>(m:Int)) (rlen Nd.encs_eq n1C))).symm;intro b hb;cases b with
     | true =>
      replace h:=zAv hb.symm h;cases h;exact(Le.forget _ ⟨rfl,rfl,rfl,rfl,trivial⟩)
     | false =>
      replace h:=zAu hb.symm h;cases h;exact(Le.forget _ ⟨rfl,rfl,rfl,rfl,trivial⟩)
    ·refine zAi hle ?_;refine zAg rfl h (fun hb h=>?_) (fun hb h=>?_)
     ·refine zAe ?_;refine zAa ?_;refine zAj ?_;refine zAb [] [22] rfl ?_;obtain⟨⟨e8A,e8B,e8D,e8C⟩,he8,h⟩:=zAc h;refine And.intro (zAr Nd.encs_eq he8).1 ?_;intro r9 hr9;obtain rfl:[.int .i64 e8A,.str e8B,.int .i64 e8D,.sl 4 (Nd.encs e8C)]=r9:=(hr9.trans (zAr Nd.encs_eq he8).2.1).symm;obtain⟨y10,hy10,h⟩:=zAc h;refine⟨_,⟨_,_,_,hy10,rfl,rfl⟩,?_⟩
      refine zYb ?_;refine⟨(k,y10,IntKind.i64.wrap (i4+1)),h,(Le.forget _ ⟨rfl,rfl,rfl,trivial⟩),Nat.lt_succ_self k⟩
     ·refine zAx ?_;cases h;exact(Le.forget _ ⟨rfl,trivial⟩)
 ·refine zAi hle ?_;refine zYc ?_;refine zAd ?_;have hy:=osi h;subst hy;exact fin0 rfl rfl
theorem zQJ:∀ n,PSound Tryz.prog 55 (zAn (zGJ n)):=by
 intro n
 induction n with
 | zero=>exact zA7 Tryz.call55 (fun xs r h=>by obtain⟨_,_,_,h,_⟩:=h; cases h)
 | succ n ih=>exact zP2 n ih
def zOb:zAp:=zAn fun xs r=>∃ n,zGJ n xs r
theorem zSI:PSound Tryz.prog 55 zOb:=zBr zQJ
def zUx (n:Nat) (xs:List AV) (r:Ret):Prop:=∃ (a0:Nd) (a1:Int) (y0:Bool),zGZ n a0 a1=some y0/\xs=[.agg ((Nd.enc a0).map .s),.s (.int .i64 a1)]/\r = .val (.s (.bool y0))
def zL5:zAp:=zAn fun xs r=>∃ n,zUx n xs r
theorem zOw:PSound Tryz.prog 25 zL5:=by
 have gok:∀ f s,look? f [(55,zOb)]=some s->PSound Tryz.prog f s:=zAl (by
  simp only[List.forall_mem_cons]
  exact⟨zSI,by simp⟩)
 refine zAo tokW Tryz.call25 Tryz.func25 rfl (fun xs r h=>by obtain⟨n,_,_,_,_,rfl,_⟩:=h; show 2<=9; decide) 9 rfl ?_;rintro xs r w0 G0 ⟨n,⟨n1A,n1B,n1D,n1C⟩,most2,y0,h,rfl,rfl⟩ _;rw[zGZ]at h;refine zYc ?_;refine zYc ?_;obtain⟨y3,hy3,h⟩:=zAc h;refine⟨_,⟨_,_,_,_,hy3,rfl,rfl⟩,?_⟩
 refine zAd ?_;have hy:=osi h;subst hy;exact fin0 rfl rfl
def zUB (n:Nat) (xs:List AV) (r:Ret):Prop:=∃ (a0:zO8) (y0:Bool),zHW n a0=some y0/\xs=[.agg ((zAs a0).map .s)]/\r = .val (.s (.bool y0))
def zQD:zAp:=zAn fun xs r=>∃ n,zUB n xs r
theorem zUe:PSound Tryz.prog 24 zQD:=by
 have gok:∀ f s,look? f [(54,zFN),(25,zL5)]=some s->PSound Tryz.prog f s:=zAl (by
  simp only[List.forall_mem_cons]
  exact⟨zGr,zOw,by simp⟩)
 refine zAo tokW Tryz.call24 Tryz.func24 rfl (fun xs r h=>by obtain⟨n,_,_,_,rfl,_⟩:=h; show 1<=13; decide) 13 rfl ?_;rintro xs r w0 G0 ⟨n,⟨op1A,op1N,op1I,op1M,op1G,op1L,op1O,op1B⟩,y0,h,rfl,rfl⟩ _;rw[zHW]at h;refine zYc ?_;refine zAa ?_;obtain⟨x2,hj,h⟩:=zAc h;refine zAk ⟨ofL [(2,.s (.bool x2))],fun _=>none,0⟩ ?_ (fun σ' hle=>?_)
 ·replace h:=hj;refine zAb [] [7,10] rfl ?_;obtain⟨⟨y3A,y3B,y3D,y3C⟩,hy3,h⟩:=zAc h;refine⟨_,⟨_,_,hy3,rfl,rfl⟩,?_⟩
  obtain⟨y4,hy4,h⟩:=zAc h;refine⟨_,⟨_,_,_,_,hy4,rfl,rfl⟩,?_⟩
  intro b hb;cases b with
  | true =>
   replace h:=zAv hb.symm h;intro n5 hn5;obtain rfl:(op1N.length:Int)=n5:=(hn5.trans (congrArg (fun m:Nat=>(m:Int)) (rlen (fun _=>rfl) op1N))).symm;cases h;exact(Le.forget _ ⟨rfl,trivial⟩)
  | false =>
   replace h:=zAu hb.symm h;cases h;exact(Le.forget _ ⟨rfl,trivial⟩)
 ·refine zAi hle ?_;refine zAd ?_;have hy:=osi h;subst hy;exact fin0 rfl rfl
def zAq:(List UInt8×Nd×List zRc×Int)->List S
| ⟨p_title,⟨p_origin_kind,p_origin_text,p_origin_cols,p_origin_kids⟩,p_records,p_done⟩=>[.str p_title,.int .i64 p_origin_kind,.str p_origin_text,.int .i64 p_origin_cols,.sl 4 (Nd.encs p_origin_kids),.sl 5 ((List.map zAm) p_records),.int .i64 p_done]
def zUC (n:Nat) (xs:List AV) (r:Ret):Prop:=∃ (a0:(List UInt8×Nd×List zRc×Int)) (y0:Bool),zHX n a0=some y0/\xs=[.agg ((zAq a0).map .s)]/\r = .val (.s (.bool y0))
def zQF:zAp:=zAn fun xs r=>∃ n,zUC n xs r
theorem zUg:PSound Tryz.prog 9 zQF:=by
 have gok:∀ f s,look? f [(24,zQD),(25,zL5)]=some s->PSound Tryz.prog f s:=zAl (by
  simp only[List.forall_mem_cons]
  exact⟨zUe,zOw,by simp⟩)
 refine zAo tokW Tryz.call9 Tryz.func9 rfl (fun xs r h=>by obtain⟨n,_,_,_,rfl,_⟩:=h; show 1<=73; decide) 73 rfl ?_;rintro xs r w0 G0 ⟨n,⟨a1V,⟨a1Q,a1R,a1S,a1T⟩,a1H,a1W⟩,y0,h,rfl,rfl⟩ _;rw[zHX]at h;refine zYc ?_;refine zAa ?_;refine zYc ?_;show Tri ..;obtain⟨fl,hl,ho1⟩:=zAc h
 refine zBO (fl:=fl) (fun z=>match z with | _=>⟨ofL [(1,.s (.pt [.str a1V,.int .i64 a1Q,.str a1R,.int .i64 a1S,.sl 4 (Nd.encs a1T),.sl 5 ((List.map zAm) a1H),.int .i64 a1W]))],fun _=>none,0⟩) ?_ (fun z σ' hz hle=>?_)
 ·refine zAj (zAt (X:=Nat×Int) (fun y=>match y with | (k,x2)=>⟨ofL [(1,.s (.pt [.str a1V,.int .i64 a1Q,.str a1R,.int .i64 a1S,.sl 4 (Nd.encs a1T),.sl 5 ((List.map zAm) a1H),.int .i64 a1W])),(3,.s (.int .i64 x2))],fun _=>none,0⟩) (fun y=>zCN n a1H y.1 y.2=some fl) (fun y=>y.1) (n,0) hl ?_ ?_)
  ·exact(Le.forget _ ⟨rfl,rfl,trivial⟩)
  ·rintro⟨k,x2⟩ h;cases k with
   | zero=>cases h
   | succ k =>
    replace h:zCN n a1H (k+1) x2=some fl:=h;rw[zCN]at h;refine zAa ?_;refine zXw [] [9] rfl ?_;intro n3 hn3;obtain rfl:(a1H.length:Int)=n3:=(hn3.trans (congrArg (fun m:Nat=>(m:Int)) (rlen (fun _=>rfl) a1H))).symm;refine zAg rfl h (fun hb h=>?_) (fun hb h=>?_)
    ·refine zAe ?_;refine zAa ?_;refine zAj ?_;refine zXw [4] [16] rfl ?_;obtain⟨⟨e4P,⟨e4Ab,e4Ac⟩,⟨e4Ad,e4Ae⟩⟩,he4,h⟩:=zAc h;refine And.intro (zAr (fun _=>rfl) he4).1 ?_;intro r5 hr5;obtain rfl:[.sl 8 ((List.map zAs) e4P),.sl 1 ((List.map (irow .i64)) e4Ab),.sl 1 ((List.map (irow .i64)) e4Ac),.sl 1 ((List.map (irow .i64)) e4Ad),.sl 1 ((List.map (irow .i64)) e4Ae)]=r5:=(hr5.trans (zAr (fun _=>rfl) he4).2.1).symm;show Tri ..
     refine zAi (Le.giveBox 0 [.sl 8 ((List.map zAs) e4P),.sl 1 ((List.map (irow .i64)) e4Ab),.sl 1 ((List.map (irow .i64)) e4Ac),.sl 1 ((List.map (irow .i64)) e4Ad),.sl 1 ((List.map (irow .i64)) e4Ae)] rfl rfl) ?_;refine zAa ?_;refine zAa ?_;obtain⟨x6,hj,h⟩:=zAc h
     refine zAk ⟨ofL [(1,.s (.pt [.str a1V,.int .i64 a1Q,.str a1R,.int .i64 a1S,.sl 4 (Nd.encs a1T),.sl 5 ((List.map zAm) a1H),.int .i64 a1W])),(3,.s (.int .i64 x2)),(4,.s (.pt [.sl 8 ((List.map zAs) e4P),.sl 1 ((List.map (irow .i64)) e4Ab),.sl 1 ((List.map (irow .i64)) e4Ac),.sl 1 ((List.map (irow .i64)) e4Ad),.sl 1 ((List.map (irow .i64)) e4Ae)])),(43,.s (.bool x6))],fun _=>none,0⟩ ?_ (fun σ' hle=>?_)
     ·replace h:=hj;refine zAb [] [20,22,26,30,35,40] rfl ?_;intro n7 hn7;obtain rfl:(e4P.length:Int)=n7:=(hn7.trans (congrArg (fun m:Nat=>(m:Int)) (rlen (fun _=>rfl) e4P))).symm;intro b hb;cases b with
      | true =>
       replace h:=zAv hb.symm h;cases h;exact(Le.rnm [] _ [] 0 ⟨rfl,rfl,rfl,rfl,trivial⟩ trivial)
      | false =>
       replace h:=zAu hb.symm h;intro n8 hn8;obtain rfl:(e4Ab.length:Int)=n8:=(hn8.trans (congrArg (fun m:Nat=>(m:Int)) (rlen (fun _=>rfl) e4Ab))).symm;intro n9 hn9;obtain rfl:(e4Ac.length:Int)=n9:=(hn9.trans (congrArg (fun m:Nat=>(m:Int)) (rlen (fun _=>rfl) e4Ac))).symm;intro n10 hn10;obtain rfl:(e4Ad.length:Int)=n10:=(hn10.trans (congrArg (fun m:Nat=>(m:Int)) (rlen (fun _=>rfl) e4Ad))).symm;intro n11 hn11;obtain rfl:(e4Ae.length:Int)=n11:=(hn11.trans (congrArg (fun m:Nat=>(m:Int)) (rlen (fun _=>rfl) e4Ae))).symm;cases h
       exact(Le.rnm [] _ [] 0 ⟨rfl,rfl,rfl,rfl,trivial⟩ trivial)
     ·refine zAi hle ?_;refine zAg rfl h (fun hb h=>?_) (fun hb h=>?_)
      ·refine zYc ?_;refine zAd ?_;cases h;replace h:some _=some _:=ho1;have hy:=osi h;subst hy;exact fin0 rfl rfl
      ·refine zAe ?_;refine zYc ?_;show Tri ..;obtain⟨fl,hl,ho2⟩:=zAc h;refine zBO (fl:=fl) (fun z=>match z with | _=>⟨ofL [(1,.s (.pt [.str a1V,.int .i64 a1Q,.str a1R,.int .i64 a1S,.sl 4 (Nd.encs a1T),.sl 5 ((List.map zAm) a1H),.int .i64 a1W])),(3,.s (.int .i64 x2))],fun _=>none,0⟩) ?_ (fun z σ' hz hle=>?_)
       ·refine zAj (zAt (X:=Nat×Int) (fun y=>match y with | (k,x12)=>⟨ofL [(1,.s (.pt [.str a1V,.int .i64 a1Q,.str a1R,.int .i64 a1S,.sl 4 (Nd.encs a1T),.sl 5 ((List.map zAm) a1H),.int .i64 a1W])),(3,.s (.int .i64 x2)),(4,.s (.pt [.sl 8 ((List.map zAs) e4P),.sl 1 ((List.map (irow .i64)) e4Ab),.sl 1 ((List.map (irow .i64)) e4Ac),.sl 1 ((List.map (irow .i64)) e4Ad),.sl 1 ((List.map (irow .i64)) e4Ae)])),(5,.s (.int .i64 x12))],fun _=>none,0⟩) (fun y=>zDA n e4P y.1 y.2=some fl) (fun y=>y.1) (n,0) hl ?_ ?_)
        ·exact(Le.forget _ ⟨rfl,rfl,rfl,rfl,trivial⟩)
        ·rintro⟨k,x12⟩ h;cases k with
         | zero=>cases h
         | succ k =>
          replace h:zDA n e4P (k+1) x12=some fl:=h;rw[zDA]at h;refine zAa ?_;refine zXw [] [47] rfl ?_;intro n13 hn13;obtain rfl:(e4P.length:Int)=n13:=(hn13.trans (congrArg (fun m:Nat=>(m:Int)) (rlen (fun _=>rfl) e4P))).symm;refine zAg rfl h (fun hb h=>?_) (fun hb h=>?_)
          ·refine zAe ?_;refine zAa ?_;refine zAj ?_;refine zXw [] [54] rfl ?_;obtain⟨⟨e14A,e14N,e14I,e14M,e14G,e14L,e14O,e14B⟩,he14,h⟩:=zAc h;refine And.intro (zAr (fun _=>rfl) he14).1 ?_;intro r15 hr15;obtain rfl:[.int .i64 e14A,.sl 1 ((List.map (irow .i64)) e14N),.int .i64 e14I,.int .i64 e14M,.sl 4 (Nd.encs e14G),.int .i64 e14L,.str e14O,.str e14B]=r15:=(hr15.trans (zAr (fun _=>rfl) he14).2.1).symm;obtain⟨y16,hy16,h⟩:=zAc h;refine⟨_,⟨_,_,_,hy16,rfl,rfl⟩,?_⟩
           refine zAg rfl h (fun hb h=>?_) (fun hb h=>?_)
           ·refine zYc ?_;refine zAd ?_;cases h;replace h:some _=some _:=ho2;cases h;replace h:some _=some _:=ho1;have hy:=osi h;subst hy;exact fin0 rfl rfl
           ·refine zAe ?_;refine zYb ?_;refine⟨(k,IntKind.i64.wrap (x12+1)),h,(Le.forget _ ⟨rfl,rfl,rfl,rfl,trivial⟩),Nat.lt_succ_self k⟩
          ·refine zAx ?_;cases h;exact⟨_,rfl,(Le.forget _ ⟨rfl,rfl,trivial⟩)⟩
       ·subst hz;obtain _:=z;replace h:=ho2;refine zAi hle ?_;refine zYb ?_;refine⟨(k,IntKind.i64.wrap (x2+1)),h,(Le.forget _ ⟨rfl,rfl,trivial⟩),Nat.lt_succ_self k⟩
    ·refine zAx ?_;cases h;exact⟨_,rfl,(Le.forget _ ⟨rfl,trivial⟩)⟩
 ·subst hz;obtain _:=z;replace h:=ho1;refine zAi hle ?_;refine zAa ?_;obtain⟨x17,hj,h⟩:=zAc h;refine zAk ⟨ofL [(2,.s (.bool x17))],fun _=>none,0⟩ ?_ (fun σ' hle=>?_)
  ·replace h:=hj;refine zAb [] [61,64,67] rfl ?_;obtain⟨y18,hy18,h⟩:=zAc h;refine⟨_,⟨_,_,_,_,hy18,rfl,rfl⟩,?_⟩
   intro b hb;cases b with
   | true =>
    replace h:=zAv hb.symm h;intro n19 hn19;obtain rfl:(a1H.length:Int)=n19:=(hn19.trans (congrArg (fun m:Nat=>(m:Int)) (rlen (fun _=>rfl) a1H))).symm;intro b hb;cases b with
    | true =>
     replace h:=zAv hb.symm h;cases h;exact(Le.forget _ ⟨rfl,trivial⟩)
    | false =>
     replace h:=zAu hb.symm h;cases h;exact(Le.forget _ ⟨rfl,trivial⟩)
   | false =>
    replace h:=zAu hb.symm h;intro b hb;subst hb;cases h;exact(Le.forget _ ⟨rfl,trivial⟩)
  ·refine zAi hle ?_;refine zAd ?_;have hy:=osi h;subst hy;exact fin0 rfl rfl
def zLo (n:Nat) (xs:List AV) (r:Ret):Prop:=∃ (a0:List Nd) (y0:Bool),zCj n a0=some y0/\xs=[.s (.sl 4 (Nd.encs a0))]/\r = .val (.s (.bool y0))
def zFf:zAp:=zAn fun xs r=>∃ n,zLo n xs r
theorem zG3:PSound Tryz.prog 155 zFf:=by
 have gok:∀ f s,look? f [(54,zFN),(35,zD3)]=some s->PSound Tryz.prog f s:=zAl (by
  simp only[List.forall_mem_cons]
  exact⟨zGr,zEh,by simp⟩)
 refine zAo tokW Tryz.call155 Tryz.func155 rfl (fun xs r h=>by obtain⟨n,_,_,_,rfl,_⟩:=h; show 1<=6; decide) 6 rfl ?_;rintro xs r w0 G0 ⟨n,l1,y0,h,rfl,rfl⟩ _;rw[zCj]at h;refine zYc ?_;refine zYc ?_;obtain⟨⟨y2A,y2B,y2D,y2C⟩,hy2,h⟩:=zAc h;refine⟨_,⟨_,_,hy2,rfl,rfl⟩,?_⟩
 obtain⟨y3,hy3,h⟩:=zAc h;refine⟨_,⟨_,_,_,hy3,rfl,rfl⟩,?_⟩
 refine zAd ?_;have hy:=osi h;subst hy;exact fin0 rfl rfl
def zNC (n:Nat) (xs:List AV) (r:Ret):Prop:=∃ (a0:List Nd) (a1:Int) (y0:Bool),zD1 n a0 a1=some y0/\xs=[.s (.sl 4 (Nd.encs a0)),.s (.int .i64 a1)]/\r = .val (.s (.bool y0))
def zIS:zAp:=zAn fun xs r=>∃ n,zNC n xs r
theorem zMS:PSound Tryz.prog 156 zIS:=by
 have gok:∀ f s,look? f [(155,zFf)]=some s->PSound Tryz.prog f s:=zAl (by
  simp only[List.forall_mem_cons]
  exact⟨zG3,by simp⟩)
 refine zAo tokW Tryz.call156 Tryz.func156 rfl (fun xs r h=>by obtain⟨n,_,_,_,_,rfl,_⟩:=h; show 2<=37; decide) 37 rfl ?_;rintro xs r w0 G0 ⟨n,l1,slot2,y0,h,rfl,rfl⟩ _;rw[zD1]at h;refine zYc ?_;refine zAa ?_;obtain⟨x3,hj,h⟩:=zAc h;refine zAk ⟨ofL [(4,.s (.bool x3))],fun _=>none,0⟩ ?_ (fun σ' hle=>?_)
 ·replace h:=hj;refine zAb [] [6,8,12,16,19,22,25,27,31,34] rfl ?_;intro n4 hn4;obtain rfl:(l1.length:Int)=n4:=(hn4.trans (congrArg (fun m:Nat=>(m:Int)) (rlen Nd.encs_eq l1))).symm;intro b hb;cases b with
  | true =>
   replace h:=zAv hb.symm h;obtain⟨y5,hy5,h⟩:=zAc h;refine⟨_,⟨_,_,_,hy5,rfl,rfl⟩,?_⟩
   intro b hb;cases b with
   | true =>
    replace h:=zAv hb.symm h;intro b hb;cases b with
    | true =>
     replace h:=zAv hb.symm h;obtain⟨⟨e6A,e6B,e6D,e6C⟩,he6,h⟩:=zAc h;refine And.intro (zAr Nd.encs_eq he6).1 ?_;intro r7 hr7;obtain rfl:[.int .i64 e6A,.str e6B,.int .i64 e6D,.sl 4 (Nd.encs e6C)]=r7:=(hr7.trans (zAr Nd.encs_eq he6).2.1).symm;intro n8 hn8;obtain rfl:(e6C.length:Int)=n8:=(hn8.trans (congrArg (fun m:Nat=>(m:Int)) (rlen Nd.encs_eq e6C))).symm;intro b hb;cases b with
     | true =>
      replace h:=zAv hb.symm h;obtain⟨⟨e9A,e9B,e9D,e9C⟩,he9,h⟩:=zAc h;refine And.intro (zAr Nd.encs_eq he9).1 ?_;intro r10 hr10;obtain rfl:[.int .i64 e9A,.str e9B,.int .i64 e9D,.sl 4 (Nd.encs e9C)]=r10:=(hr10.trans (zAr Nd.encs_eq he9).2.1).symm;obtain⟨⟨e11A,e11B,e11D,e11C⟩,he11,h⟩:=zAc h;refine And.intro (zAr Nd.encs_eq he11).1 ?_;intro r12 hr12;obtain rfl:[.int .i64 e11A,.str e11B,.int .i64 e11D,.sl 4 (Nd.encs e11C)]=r12:=(hr12.trans (zAr Nd.encs_eq he11).2.1).symm;intro n13 hn13
      obtain rfl:(e11C.length:Int)=n13:=(hn13.trans (congrArg (fun m:Nat=>(m:Int)) (rlen Nd.encs_eq e11C))).symm;cases h;exact(Le.forget _ ⟨rfl,trivial⟩)
     | false =>
      replace h:=zAu hb.symm h;cases h;exact(Le.forget _ ⟨rfl,trivial⟩)
    | false =>
     replace h:=zAu hb.symm h;intro b hb;subst hb;cases h;exact(Le.forget _ ⟨rfl,trivial⟩)
   | false =>
    replace h:=zAu hb.symm h;intro b hb;subst hb;intro b hb;subst hb;cases h;exact(Le.forget _ ⟨rfl,trivial⟩)
  | false =>
   replace h:=zAu hb.symm h;intro b hb;subst hb;intro b hb;subst hb;intro b hb;subst hb;cases h;exact(Le.forget _ ⟨rfl,trivial⟩)
 ·refine zAi hle ?_;refine zAd ?_;have hy:=osi h;subst hy;exact fin0 rfl rfl
def zQs (n:Nat) (xs:List AV) (r:Ret):Prop:=∃ (a0:zO8) (y0:Bool),zE8 n a0=some y0/\xs=[.agg ((zAs a0).map .s)]/\r = .val (.s (.bool y0))
def zKY:zAp:=zAn fun xs r=>∃ n,zQs n xs r
theorem zPF:PSound Tryz.prog 115 zKY:=by
 have gok:∀ f s,look? f [(155,zFf),(156,zIS)]=some s->PSound Tryz.prog f s:=zAl (by
  simp only[List.forall_mem_cons]
  exact⟨zG3,zMS,by simp⟩)
 refine zAo tokW Tryz.call115 Tryz.func115 rfl (fun xs r h=>by obtain⟨n,_,_,_,rfl,_⟩:=h; show 1<=83; decide) 83 rfl ?_;rintro xs r w0 G0 ⟨n,⟨a1A,a1N,a1I,a1M,a1G,a1L,a1O,a1B⟩,y0,h,rfl,rfl⟩ _;rw[zE8]at h;refine zYc ?_;refine zAa ?_;refine zYc ?_;show Tri ..;obtain⟨fl,hj,ho1⟩:=zAc h;refine zBO (fl:=fl) (fun z=>match z with | _=>⟨ofL [],fun _=>none,0⟩) ?_ (fun z σ' hz hle=>?_)
 ·replace h:=hj;refine zAj ?_;refine zAa ?_;refine zYc ?_;show Tri ..;obtain⟨x2,hj,h⟩:=zAc h;refine zAk ⟨ofL [(1,.s (.pt [.int .i64 a1A,.sl 1 ((List.map (irow .i64)) a1N),.int .i64 a1I,.int .i64 a1M,.sl 4 (Nd.encs a1G),.int .i64 a1L,.str a1O,.str a1B])),(4,.s (.int .i64 a1A)),(5,.s (.bool x2))],fun _=>none,0⟩ ?_ (fun σ' hle=>?_)
  ·replace h:=hj;refine zAg rfl h (fun hb h=>?_) (fun hb h=>?_)
   ·refine zAe ?_;cases h;exact(Le.forget _ ⟨rfl,rfl,rfl,trivial⟩)
   ·refine zYb ?_;cases h;exact(Le.forget _ ⟨rfl,rfl,rfl,trivial⟩)
  ·refine zAi hle ?_;refine zAg rfl h (fun hb h=>?_) (fun hb h=>?_)
   ·refine zAa ?_;obtain⟨x3,hj,h⟩:=zAc h;refine zAk ⟨ofL [(2,.s (.bool x3))],fun _=>none,0⟩ ?_ (fun σ' hle=>?_)
    ·replace h:=hj;refine zAb [] [10,12,17,22,27,32] rfl ?_;intro n4 hn4;obtain rfl:(a1G.length:Int)=n4:=(hn4.trans (congrArg (fun m:Nat=>(m:Int)) (rlen Nd.encs_eq a1G))).symm;intro b hb;cases b with
     | true =>
      replace h:=zAv hb.symm h;obtain⟨y5,hy5,h⟩:=zAc h;refine⟨_,⟨_,_,_,hy5,rfl,rfl⟩,?_⟩
      intro b hb;cases b with
      | true =>
       replace h:=zAv hb.symm h;intro b hb;cases b with
       | true =>
        replace h:=zAv hb.symm h;intro b hb;cases b with
        | true =>
         replace h:=zAv hb.symm h;intro b hb;cases b with
         | true =>
          replace h:=zAv hb.symm h;cases h;exact(Le.forget _ ⟨rfl,trivial⟩)
         | false =>
          replace h:=zAu hb.symm h;cases h;exact(Le.forget _ ⟨rfl,trivial⟩)
        | false =>
         replace h:=zAu hb.symm h;intro b hb;subst hb;cases h;exact(Le.forget _ ⟨rfl,trivial⟩)
       | false =>
        replace h:=zAu hb.symm h;intro b hb;subst hb;intro b hb;subst hb;cases h;exact(Le.forget _ ⟨rfl,trivial⟩)
      | false =>
       replace h:=zAu hb.symm h;intro b hb;subst hb;intro b hb;subst hb;intro b hb;subst hb;cases h;exact(Le.forget _ ⟨rfl,trivial⟩)
     | false =>
      replace h:=zAu hb.symm h;intro b hb;subst hb;intro b hb;subst hb;intro b hb;subst hb;intro b hb;subst hb;cases h;exact(Le.forget _ ⟨rfl,trivial⟩)
    ·refine zAi hle ?_;refine zAd ?_;cases h;replace h:some _=some _:=ho1;have hy:=osi h;subst hy;exact fin0 rfl rfl
   ·refine zAa ?_;refine zYc ?_;show Tri ..;obtain⟨x6,hj,h⟩:=zAc h;refine zAk ⟨ofL [(1,.s (.pt [.int .i64 a1A,.sl 1 ((List.map (irow .i64)) a1N),.int .i64 a1I,.int .i64 a1M,.sl 4 (Nd.encs a1G),.int .i64 a1L,.str a1O,.str a1B])),(4,.s (.int .i64 a1A)),(37,.s (.bool x6))],fun _=>none,0⟩ ?_ (fun σ' hle=>?_)
    ·replace h:=hj;refine zAg rfl h (fun hb h=>?_) (fun hb h=>?_)
     ·refine zAe ?_;cases h;exact(Le.forget _ ⟨rfl,rfl,rfl,trivial⟩)
     ·refine zYb ?_;cases h;exact(Le.forget _ ⟨rfl,rfl,rfl,trivial⟩)
    ·refine zAi hle ?_;refine zAg rfl h (fun hb h=>?_) (fun hb h=>?_)
     ·refine zAa ?_;obtain⟨x7,hj,h⟩:=zAc h;refine zAk ⟨ofL [(2,.s (.bool x7))],fun _=>none,0⟩ ?_ (fun σ' hle=>?_)
      ·replace h:=hj;refine zAb [] [43,50,55] rfl ?_;intro b hb;cases b with
       | true =>
        replace h:=zAv hb.symm h;obtain⟨y8,hy8,h⟩:=zAc h;refine⟨_,⟨_,_,_,_,hy8,rfl,rfl⟩,?_⟩
        intro b hb;cases b with
        | true =>
         replace h:=zAv hb.symm h;intro b hb;cases b with
         | true =>
          replace h:=zAv hb.symm h;cases h;exact(Le.forget _ ⟨rfl,trivial⟩)
         | false =>
          replace h:=zAu hb.symm h;cases h;exact(Le.forget _ ⟨rfl,trivial⟩)
        | false =>
         replace h:=zAu hb.symm h;intro b hb;subst hb;cases h;exact(Le.forget _ ⟨rfl,trivial⟩)
       | false =>
        replace h:=zAu hb.symm h;intro b hb;subst hb;intro b hb;subst hb;cases h;exact(Le.forget _ ⟨rfl,trivial⟩)
      ·refine zAi hle ?_;refine zAd ?_;cases h;replace h:some _=some _:=ho1;have hy:=osi h;subst hy;exact fin0 rfl rfl
     ·refine zYc ?_;refine zAg rfl h (fun hb h=>?_) (fun hb h=>?_)
      ·refine zAa ?_;obtain⟨x9,hj,h⟩:=zAc h;refine zAk ⟨ofL [(2,.s (.bool x9))],fun _=>none,0⟩ ?_ (fun σ' hle=>?_)
       ·replace h:=hj;refine zAb [] [67,70,73,78] rfl ?_;intro b hb;cases b with
        | true =>
         replace h:=zAv hb.symm h;intro n10 hn10;obtain rfl:(a1G.length:Int)=n10:=(hn10.trans (congrArg (fun m:Nat=>(m:Int)) (rlen Nd.encs_eq a1G))).symm;intro b hb;cases b with
         | true =>
          replace h:=zAv hb.symm h;intro b hb;cases b with
          | true =>
           replace h:=zAv hb.symm h;cases h;exact(Le.forget _ ⟨rfl,trivial⟩)
          | false =>
           replace h:=zAu hb.symm h;cases h;exact(Le.forget _ ⟨rfl,trivial⟩)
         | false =>
          replace h:=zAu hb.symm h;intro b hb;subst hb;cases h;exact(Le.forget _ ⟨rfl,trivial⟩)
        | false =>
         replace h:=zAu hb.symm h;intro b hb;subst hb;intro b hb;subst hb;cases h;exact(Le.forget _ ⟨rfl,trivial⟩)
       ·refine zAi hle ?_;refine zAd ?_;cases h;replace h:some _=some _:=ho1;have hy:=osi h;subst hy;exact fin0 rfl rfl
      ·refine zAe ?_;cases h;exact⟨_,rfl,(Le.forget _ trivial)⟩
 ·subst hz;obtain _:=z;replace h:=ho1;refine zAi hle ?_;refine zYc ?_;refine zAd ?_;have hy:=osi h;subst hy;exact fin0 rfl rfl
def zTJ (n:Nat) (xs:List AV) (r:Ret):Prop:=∃ (a0:Nd) (a1:List Int) (y0:Nd) (y1:Bool),zG0 n a0 a1=some (y0,y1)/\xs=[.agg ((Nd.enc a0).map .s),.s (.sl 1 ((List.map (irow .i64)) a1))]/\r = .val (.tup [.agg ((Nd.enc y0).map .s),.s (.bool y1)])
def zN8:zAp:=zAn fun xs r=>∃ n,zTJ n xs r
theorem zSF:PSound Tryz.prog 157 zN8:=by
 have gok:=@gok0 Tryz.prog;refine zAo tokW Tryz.call157 Tryz.func157 rfl (fun xs r h=>by obtain⟨n,_,_,_,_,_,rfl,_⟩:=h; show 2<=57; decide) 57 rfl ?_;rintro xs r w0 G0 ⟨n,⟨n1A,n1B,n1D,n1C⟩,path2,y0,y1,h,rfl,rfl⟩ _;rw[zG0]at h;refine zXw [2,4] [] rfl ?_;refine zAa ?_;obtain⟨fl,hl,ho1⟩:=zAc h
 refine zBO (fl:=fl) (fun z=>match z with | ⟨path9,x10,x11,x12,x13⟩=>⟨ofL [(1,.s (.sl 1 ((List.map (irow .i64)) path9))),(2,.op 0 0),(4,.op 1 0)],ofH [(0,.box 24 [.s (.int .i64 x10),.s (.str x11),.s (.int .i64 x12),.s (.sl 4 (Nd.encs x13))]),(1,.box 24 [.s (.int .i64 0),.s (.str []),.s (.int .i64 0),.nl 4])],2⟩) ?_ (fun z σ' hz hle=>?_)
 ·refine zAj (zAt (X:=Nat×Int×(List UInt8)×Int×(List Nd)×(List Int)) (fun y=>match y with | (k,x3,x4,x5,x6,path8)=>⟨ofL [(1,.s (.sl 1 ((List.map (irow .i64)) path8))),(2,.op 0 0),(4,.op 1 0)],ofH [(0,.box 24 [.s (.int .i64 x3),.s (.str x4),.s (.int .i64 x5),.s (.sl 4 (Nd.encs x6))]),(1,.box 24 [.s (.int .i64 0),.s (.str []),.s (.int .i64 0),.nl 4])],2⟩) (fun y=>zBX  y.1 y.2.1 y.2.2.1 y.2.2.2.1 y.2.2.2.2.1 y.2.2.2.2.2=some fl) (fun y=>y.1) (n,n1A,n1B,n1D,n1C,path2) hl ?_ ?_)
  ·exact(Le.rnm [(0,0),(1,1)] _ _ _ ⟨rfl,rfl,rfl,trivial⟩ ⟨rfl,⟨_,rfl,rfl⟩,rfl,⟨_,rfl,rfl⟩,trivial⟩)
  ·rintro⟨k,x3,x4,x5,x6,path8⟩ h;cases k with
   | zero=>cases h
   | succ k =>
    replace h:zBX  (k+1) x3 x4 x5 x6 path8=some fl:=h;rw[zBX]at h;refine zAa ?_;refine zXw [] [7] rfl ?_;intro n14 hn14;obtain rfl:(path8.length:Int)=n14:=(hn14.trans (congrArg (fun m:Nat=>(m:Int)) (rlen (fun _=>rfl) path8))).symm;refine zAg rfl h (fun hb h=>?_) (fun hb h=>?_)
    ·refine zAe ?_;refine zAj ?_;refine zAa ?_;refine zAa ?_;obtain⟨x15,hj,h⟩:=zAc h;refine zAk ⟨ofL [(1,.s (.sl 1 ((List.map (irow .i64)) path8))),(2,.op 0 0),(4,.op 1 0),(21,.s (.bool x15))],ofH [(0,.box 24 [.s (.int .i64 x3),.s (.str x4),.s (.int .i64 x5),.s (.sl 4 (Nd.encs x6))]),(1,.box 24 [.s (.int .i64 0),.s (.str []),.s (.int .i64 0),.nl 4])],2⟩ ?_ (fun σ' hle=>?_)
     ·replace h:=hj;refine zAO [] [10,13,15,19] [9] rfl (by decide +kernel) ?_;obtain⟨e16,he16,h⟩:=zAc h;refine And.intro (zAr (fun _=>rfl) he16).1 ?_;intro r17 hr17;obtain rfl:[.int .i64 e16]=r17:=(hr17.trans (zAr (fun _=>rfl) he16).2.1).symm;intro b hb;cases b with
      | true =>
       replace h:=zAv hb.symm h;cases h;exact(Le.rnm [(0,0),(1,1)] _ _ _ ⟨rfl,rfl,rfl,rfl,trivial⟩ ⟨rfl,⟨_,rfl,rfl⟩,rfl,⟨_,rfl,rfl⟩,trivial⟩)
      | false =>
       replace h:=zAu hb.symm h;obtain⟨e18,he18,h⟩:=zAc h;refine And.intro (zAr (fun _=>rfl) he18).1 ?_;intro r19 hr19;obtain rfl:[.int .i64 e18]=r19:=(hr19.trans (zAr (fun _=>rfl) he18).2.1).symm;intro n20 hn20;obtain rfl:(x6.length:Int)=n20:=(hn20.trans (congrArg (fun m:Nat=>(m:Int)) (rlen Nd.encs_eq x6))).symm;cases h;exact(Le.rnm [(0,0),(1,1)] _ _ _ ⟨rfl,rfl,rfl,rfl,trivial⟩ ⟨rfl,⟨_,rfl,rfl⟩,rfl,⟨_,rfl,rfl⟩,trivial⟩)
     ·refine zAi hle ?_;refine zAg rfl h (fun hb h=>?_) (fun hb h=>?_)
      ·refine zYc ?_;refine zAd ?_;cases h;replace h:some _=some _:=ho1;obtain⟨hj1,hk1⟩:=pij h;subst hj1 hk1;exact fin0 rfl rfl
      ·refine zAe ?_;refine zAa ?_;refine zAO [] [26,28] [1,7] rfl (by decide +kernel) ?_;obtain⟨e21,he21,h⟩:=zAc h;refine And.intro (zAr (fun _=>rfl) he21).1 ?_;intro r22 hr22;obtain rfl:[.int .i64 e21]=r22:=(hr22.trans (zAr (fun _=>rfl) he21).2.1).symm;obtain⟨⟨e23A,e23B,e23D,e23C⟩,he23,h⟩:=zAc h;refine And.intro (zAr Nd.encs_eq he23).1 ?_;intro r24 hr24;obtain rfl:[.int .i64 e23A,.str e23B,.int .i64 e23D,.sl 4 (Nd.encs e23C)]=r24:=(hr24.trans (zAr Nd.encs_eq he23).2.1).symm;refine zAa ?_;refine zAa ?_;obtain⟨x25,hj,h⟩:=zAc h
       refine zAk ⟨ofL [(1,.s (.sl 1 ((List.map (irow .i64)) path8))),(2,.op 0 0),(4,.op 1 0),(42,.s (.bool x25))],ofH [(0,.box 24 [.s (.int .i64 e23A),.s (.str e23B),.s (.int .i64 e23D),.s (.sl 4 (Nd.encs e23C))]),(1,.box 24 [.s (.int .i64 0),.s (.str []),.s (.int .i64 0),.nl 4])],2⟩ ?_ (fun σ' hle=>?_)
       ·replace h:=hj;refine zAO [] [31,34,36,40] [9] rfl (by decide +kernel) ?_;obtain⟨e26,he26,h⟩:=zAc h;refine And.intro (zAr (fun _=>rfl) he26).1 ?_;intro r27 hr27;obtain rfl:[.int .i64 e26]=r27:=(hr27.trans (zAr (fun _=>rfl) he26).2.1).symm;intro b hb;cases b with
        | true =>
         replace h:=zAv hb.symm h;cases h;exact(Le.rnm [(0,0),(1,1)] _ _ _ ⟨rfl,rfl,rfl,rfl,trivial⟩ ⟨rfl,⟨_,rfl,rfl⟩,rfl,⟨_,rfl,rfl⟩,trivial⟩)
        | false =>
         replace h:=zAu hb.symm h;obtain⟨e28,he28,h⟩:=zAc h;refine And.intro (zAr (fun _=>rfl) he28).1 ?_;intro r29 hr29;obtain rfl:[.int .i64 e28]=r29:=(hr29.trans (zAr (fun _=>rfl) he28).2.1).symm;intro n30 hn30;obtain rfl:(e23C.length:Int)=n30:=(hn30.trans (congrArg (fun m:Nat=>(m:Int)) (rlen Nd.encs_eq e23C))).symm;cases h;exact(Le.rnm [(0,0),(1,1)] _ _ _ ⟨rfl,rfl,rfl,rfl,trivial⟩ ⟨rfl,⟨_,rfl,rfl⟩,rfl,⟨_,rfl,rfl⟩,trivial⟩)
       ·refine zAi hle ?_;refine zAg rfl h (fun hb h=>?_) (fun hb h=>?_)
        ·refine zYc ?_;refine zAd ?_;cases h;replace h:some _=some _:=ho1;obtain⟨hj1,hk1⟩:=pij h;subst hj1 hk1;exact fin0 rfl rfl
        ·refine zAe ?_;refine zAa ?_;refine zAO [] [47,49] [1,7] rfl (by decide +kernel) ?_;obtain⟨e31,he31,h⟩:=zAc h;refine And.intro (zAr (fun _=>rfl) he31).1 ?_;intro r32 hr32;obtain rfl:[.int .i64 e31]=r32:=(hr32.trans (zAr (fun _=>rfl) he31).2.1).symm;obtain⟨⟨e33A,e33B,e33D,e33C⟩,he33,h⟩:=zAc h;refine And.intro (zAr Nd.encs_eq he33).1 ?_;intro r34 hr34;obtain rfl:[.int .i64 e33A,.str e33B,.int .i64 e33D,.sl 4 (Nd.encs e33C)]=r34:=(hr34.trans (zAr Nd.encs_eq he33).2.1).symm;refine zAb [] [52] rfl ?_;obtain⟨hq,h⟩:=zAy h
         refine And.intro ⟨hq.1,Int.le_trans hq.2.1 (Int.ofNat_le.2 (Nat.le_of_eq (rlen (fun _=>rfl) _).symm)),Int.le_refl _⟩ ?_;intro r35 hr35;obtain rfl:(List.map (irow .i64)) ((path8.take (path8.length:Int).toNat).drop (2:Int).toNat)=r35:=(hr35.trans ((congrArg (fun m:Nat=>(((List.map (irow .i64)) path8).take m).drop (2:Int).toNat) (rlen (fun _=>rfl) _)).trans (rcut (fun _=>rfl) _ _ _))).symm;refine⟨(k,e33A,e33B,e33D,e33C,(path8.take (path8.length:Int).toNat).drop (2:Int).toNat),h,(Le.rnm [(0,0),(1,1)] _ _ _ ⟨rfl,rfl,rfl,trivial⟩ ⟨rfl,⟨_,rfl,rfl⟩,rfl,⟨_,rfl,rfl⟩,trivial⟩),Nat.lt_succ_self k⟩
    ·refine zAx ?_;cases h;exact⟨_,rfl,(Le.rnm [(0,0),(1,1)] _ _ _ ⟨rfl,rfl,rfl,trivial⟩ ⟨rfl,⟨_,rfl,rfl⟩,rfl,⟨_,rfl,rfl⟩,trivial⟩)⟩
 ·subst hz;obtain⟨path9,x10,x11,x12,x13⟩:=z;replace h:=ho1;refine zAi hle ?_;refine zXw [] [55] rfl ?_;intro n36 hn36;obtain rfl:(path9.length:Int)=n36:=(hn36.trans (congrArg (fun m:Nat=>(m:Int)) (rlen (fun _=>rfl) path9))).symm;refine zAd ?_;obtain⟨hj1,hk1⟩:=pij h;subst hj1 hk1;exact fin0 rfl rfl
def zUy (n:Nat) (xs:List AV) (r:Ret):Prop:=∃ (a0:Nd) (a1:List Int) (y0:Nd) (y1:Int),zHU n a0 a1=some (y0,y1)/\xs=[.agg ((Nd.enc a0).map .s),.s (.sl 1 ((List.map (irow .i64)) a1))]/\r = .val (.tup [.agg ((Nd.enc y0).map .s),.s (.int .i64 y1)])
def zQA:zAp:=zAn fun xs r=>∃ n,zUy n xs r
theorem zUb:PSound Tryz.prog 116 zQA:=by
 have gok:∀ f s,look? f [(35,zD3),(157,zN8)]=some s->PSound Tryz.prog f s:=zAl (by
  simp only[List.forall_mem_cons]
  exact⟨zEh,zSF,by simp⟩)
 refine zAo tokW Tryz.call116 Tryz.func116 rfl (fun xs r h=>by obtain⟨n,_,_,_,_,_,rfl,_⟩:=h; show 2<=22; decide) 22 rfl ?_;rintro xs r w0 G0 ⟨n,⟨n1A,n1B,n1D,n1C⟩,path2,y0,y1,h,rfl,rfl⟩ _;rw[zHU]at h;refine zXw [4] [] rfl ?_;refine zAa ?_;refine zYc ?_;obtain⟨y3,hy3,h⟩:=zAc h;refine⟨_,⟨_,_,_,hy3,rfl,rfl⟩,?_⟩
 refine zAg rfl h (fun hb h=>?_) (fun hb h=>?_)
 ·refine zYc ?_;refine zAd ?_;obtain⟨hj1,hk1⟩:=pij h;subst hj1 hk1;exact fin0 rfl rfl
 ·refine zAe ?_;refine zXw [6] [] rfl ?_;obtain⟨⟨⟨y4A,y4B,y4D,y4C⟩,y5⟩,hy4,h⟩:=zAc h;refine⟨_,⟨_,_,_,_,_,hy4,rfl,rfl⟩,?_⟩
  refine zAi (Le.giveBox 1 [.int .i64 y4A,.str y4B,.int .i64 y4D,.sl 4 (Nd.encs y4C)] rfl rfl) ?_;refine zAa ?_;refine zYc ?_;refine zAg rfl h (fun hb h=>?_) (fun hb h=>?_)
  ·refine zYc ?_;refine zAd ?_;obtain⟨hj1,hk1⟩:=pij h;subst hj1 hk1;exact fin0 rfl rfl
  ·refine zAe ?_;refine zYc ?_;refine zAd ?_;obtain⟨hj1,hk1⟩:=pij h;subst hj1 hk1;exact fin0 rfl rfl
def zQv (xs:List AV) (r:Ret):Prop:=∃ (a0:List Nd) (a1:Int) (a2:Int) (a3:List Nd) (y0:List Nd),zB0 a0 a1 a2 a3=some y0/\xs=[.s (.sl 4 (Nd.encs a0)),.s (.int .i64 a1),.s (.int .i64 a2),.s (.sl 4 (Nd.encs a3))]/\r = .row 24 4 (Nd.encs y0)
def zK1:zAp:=zAn fun xs r=>zQv xs r
theorem zSU {α:Type}{a b:α} (h:a=b:=by simp[List.map_append,List.map_take,List.map_drop,irow,brow,zEm,List.map_cons,List.map_nil,zDV,Nd.encs_eq,Nd.enc,CV.encs_eq,CV.enc,zBi,zAJ,zBL,zAF,zAC,zAs,zCg,zBC,zAm,zA2,zAq]):a=b :=
 h
theorem zPI:PSound Tryz.prog 158 zK1:=by
 have gok:=@gok0 Tryz.prog;refine zAo tokW Tryz.call158 Tryz.func158 rfl (fun xs r h=>by obtain⟨_,_,_,_,_,_,rfl,_⟩:=h; show 4<=23; decide) 23 rfl ?_;rintro xs r w0 G0 ⟨l1,at2,to3,by4,y0,h,rfl,rfl⟩ _;rw[zB0]at h;refine zXw [8] [] rfl ?_;refine zAi (Le.rnm [] [(0,.s (.sl 4 (Nd.encs l1))),(1,.s (.int .i64 at2)),(2,.s (.int .i64 to3)),(3,.s (.sl 4 (Nd.encs by4)))] [] 0 ⟨rfl,rfl,rfl,rfl,trivial⟩ trivial) ?_;refine zXw [10,14] [13] rfl ?_;obtain⟨hq,h⟩:=zAy h;refine And.intro ⟨hq.1,hq.2.1,Int.le_trans hq.2.2 (Int.ofNat_le.2 (Nat.le_of_eq (rlen Nd.encs_eq _).symm))⟩ ?_
 intro r5 hr5;obtain rfl:Nd.encs ((l1.take at2.toNat).drop (0:Int).toNat)=r5:=(hr5.trans (rcut Nd.encs_eq _ _ _)).symm;obtain⟨hq,h⟩:=zAy h;refine And.intro (show(([]:List (List S)).length+(Nd.encs ((l1.take at2.toNat).drop (0:Int).toNat)).length) * 56<=140737488355328/\([]:List (List S)).length+(Nd.encs ((l1.take at2.toNat).drop (0:Int).toNat)).length<=9223372036854775807 from by simp only[List.length_append,List.length_cons,List.length_nil,List.length_map,rlen Nd.encs_eq]at hq ⊢; omega) ?_;show Tri ..
 refine zAi (Le.rnm [(1,0)] [(0,.s (.sl 4 (Nd.encs l1))),(2,.s (.int .i64 to3)),(3,.s (.sl 4 (Nd.encs by4))),(9,.orow 0)] [(0,.row 24 4 (Nd.encs ((l1.take at2.toNat).drop (0:Int).toNat)))] 1 ⟨rfl,rfl,rfl,rfl,trivial⟩ ⟨rfl,⟨_,rfl,congrArg (Ob.row 24 4) zSU⟩,trivial⟩) ?_;refine zXw [17] [] rfl ?_
 obtain⟨hq,h⟩:=zAy h;refine And.intro (show((Nd.encs ((l1.take at2.toNat).drop (0:Int).toNat)).length+(Nd.encs by4).length) * 56<=140737488355328/\(Nd.encs ((l1.take at2.toNat).drop (0:Int).toNat)).length+(Nd.encs by4).length<=9223372036854775807 from by simp only[List.length_append,List.length_cons,List.length_nil,List.length_map,List.length_take,rlen Nd.encs_eq]at hq ⊢; omega) ?_;show Tri ..
 refine zAi (Le.rnm [(1,0)] [(0,.s (.sl 4 (Nd.encs l1))),(2,.s (.int .i64 to3)),(9,.orow 0)] [(0,.row 24 4 (Nd.encs (((l1.take at2.toNat).drop (0:Int).toNat)++by4)))] 1 ⟨rfl,rfl,rfl,trivial⟩ ⟨rfl,⟨_,rfl,congrArg (Ob.row 24 4) zSU⟩,trivial⟩) ?_;refine zXw [22] [21] rfl ?_;obtain⟨hq,h⟩:=zAy h
 refine And.intro ⟨hq.1,Int.le_trans hq.2.1 (Int.ofNat_le.2 (Nat.le_of_eq (rlen Nd.encs_eq _).symm)),Int.le_refl _⟩ ?_;intro r6 hr6;obtain rfl:Nd.encs ((l1.take (l1.length:Int).toNat).drop to3.toNat)=r6:=(hr6.trans ((congrArg (fun m:Nat=>((Nd.encs l1).take m).drop to3.toNat) (rlen Nd.encs_eq _)).trans (rcut Nd.encs_eq _ _ _))).symm;obtain⟨hq,h⟩:=zAy h
 refine And.intro (show((Nd.encs (((l1.take at2.toNat).drop (0:Int).toNat)++by4)).length+(Nd.encs ((l1.take (l1.length:Int).toNat).drop to3.toNat)).length) * 56<=140737488355328/\(Nd.encs (((l1.take at2.toNat).drop (0:Int).toNat)++by4)).length+(Nd.encs ((l1.take (l1.length:Int).toNat).drop to3.toNat)).length<=9223372036854775807 from by simp only[List.length_append,List.length_cons,List.length_nil,List.length_map,List.length_take,rlen Nd.encs_eq]at hq ⊢; omega) ?_;show Tri ..
 refine zAi (Le.rnm [(1,0)] [(8,.orow 0)] [(0,.row 24 4 (Nd.encs ((((l1.take at2.toNat).drop (0:Int).toNat)++by4)++((l1.take (l1.length:Int).toNat).drop to3.toNat))))] 1 ⟨rfl,trivial⟩ ⟨rfl,⟨_,rfl,congrArg (Ob.row 24 4) zSU⟩,trivial⟩) ?_;refine zAd ?_;have hy:=osi h;subst hy;unfold zCJ
 exact⟨_,Le.refl _ _,0,rfl,rfl⟩
def zNA (xs:List AV) (r:Ret):Prop:=∃ (a0:Nd) (a1:Int) (a2:Nd) (y0:Nd),zBD a0 a1 a2=some y0/\xs=[.agg ((Nd.enc a0).map .s),.s (.int .i64 a1),.agg ((Nd.enc a2).map .s)]/\r = .val (.agg ((Nd.enc y0).map .s))
def zGA:zAp:=zAn fun xs r=>zNA xs r
theorem zH7:PSound Tryz.prog 160 zGA:=by
 have gok:=@gok0 Tryz.prog;refine zAo tokW Tryz.call160 Tryz.func160 rfl (fun xs r h=>by obtain⟨_,_,_,_,_,rfl,_⟩:=h; show 3<=18; decide) 18 rfl ?_;rintro xs r w0 G0 ⟨⟨n1A,n1B,n1D,n1C⟩,i2,⟨kid3A,kid3B,kid3D,kid3C⟩,y0,h,rfl,rfl⟩ _;rw[zBD]at h;refine zXw [3,6] [] rfl ?_;refine zXw [7,10] [] rfl ?_;obtain⟨hq,h⟩:=zAy h
 refine And.intro (show(([]:List (List S)).length+(Nd.encs n1C).length) * 56<=140737488355328/\([]:List (List S)).length+(Nd.encs n1C).length<=9223372036854775807 from by simp only[List.length_append,List.length_cons,List.length_nil,List.length_map,rlen Nd.encs_eq]at hq ⊢; omega) ?_;show Tri ..
 refine zAi (Le.rnm [(0,0),(3,1),(1,2)] [(1,.s (.int .i64 i2)),(3,.op 0 0),(5,.s (.pt [.int .i64 kid3A,.str kid3B,.int .i64 kid3D,.sl 4 (Nd.encs kid3C)])),(6,.op 2 0)] [(0,.box 24 [.s (.int .i64 n1A),.s (.str n1B),.s (.int .i64 n1D),.orow 1]),(1,.row 24 4 (Nd.encs n1C)),(2,.box 24 [.s (.int .i64 0),.s (.str []),.s (.int .i64 0),.nl 4])] 3 ⟨rfl,rfl,rfl,rfl,trivial⟩ ⟨rfl,⟨_,rfl,rfl⟩,rfl,⟨_,rfl,congrArg (Ob.row 24 4) zSU⟩,rfl,⟨_,rfl,rfl⟩,trivial⟩) ?_
 refine zYc ?_;obtain⟨⟨e4A,e4B,e4D,e4C⟩,he4,h⟩:=zAc h;refine And.intro (zAr Nd.encs_eq he4).1 ?_;have hset5:=(rset (R:=Nd.encs) (f:=Nd.enc) Nd.encs_eq he4 (Nd.mk kid3A kid3B kid3D kid3C) 0 4 [.int .i64 kid3A,.str kid3B,.int .i64 kid3D,.sl 4 (Nd.encs kid3C)] rfl)
 have hat5:=at_set he4 (Nd.mk kid3A kid3B kid3D kid3C)
 refine And.intro (zAr Nd.encs_eq he4).2.2 ?_;refine zAi (Le.rnm [(0,0),(1,1),(2,2)] [(3,.op 0 0),(6,.op 2 0)] [(0,.box 24 [.s (.int .i64 n1A),.s (.str n1B),.s (.int .i64 n1D),.orow 1]),(1,.row 24 4 (Nd.encs (n1C.set i2.toNat (Nd.mk kid3A kid3B kid3D kid3C)))),(2,.box 24 [.s (.int .i64 0),.s (.str []),.s (.int .i64 0),.nl 4])] 3 ⟨rfl,rfl,trivial⟩ ⟨rfl,⟨_,rfl,rfl⟩,rfl,⟨_,rfl,congrArg (Ob.row 24 4) hset5⟩,rfl,⟨_,rfl,rfl⟩,trivial⟩) ?_;refine zYc ?_;refine zAd ?_;have hy:=osi h;subst hy;unfold zCJ
 exact⟨_,(Le.trans (Le.rnm [(2,0),(1,1)] [(6,.op 0 0)] [(0,.box 24 [.s (.int .i64 n1A),.s (.str n1B),.s (.int .i64 n1D),.orow 1]),(1,.row 24 4 (Nd.encs (n1C.set i2.toNat (Nd.mk kid3A kid3B kid3D kid3C))))] 2 ⟨rfl,trivial⟩ ⟨rfl,⟨_,rfl,rfl⟩,rfl,⟨_,rfl,rfl⟩,trivial⟩) (Le.giveRow 1 rfl)),rfl,rfl⟩
def zQu (xs:List AV) (r:Ret):Prop:=∃ (a0:Nd) (a1:Int) (a2:List Nd) (y0:Nd),zDz a0 a1 a2=some y0/\xs=[.agg ((Nd.enc a0).map .s),.s (.int .i64 a1),.s (.sl 4 (Nd.encs a2))]/\r = .val (.agg ((Nd.enc y0).map .s))
def zK0:zAp:=zAn fun xs r=>zQu xs r
theorem zPH:PSound Tryz.prog 159 zK0:=by
 have gok:∀ f s,look? f [(54,zFN),(160,zGA)]=some s->PSound Tryz.prog f s:=zAl (by
  simp only[List.forall_mem_cons]
  exact⟨zGr,zH7,by simp⟩)
 refine zAo tokW Tryz.call159 Tryz.func159 rfl (fun xs r h=>by obtain⟨_,_,_,_,_,rfl,_⟩:=h; show 3<=14; decide) 14 rfl ?_;rintro xs r w0 G0 ⟨⟨n1A,n1B,n1D,n1C⟩,slot2,l3,y0,h,rfl,rfl⟩ _;rw[zDz]at h;refine zXw [6] [] rfl ?_;refine zAa ?_;refine zIr [9,11] [] [2,4,5,7] [] rfl (by decide +kernel) ?_;obtain⟨hq,h⟩:=zAy h
 refine And.intro (show(([]:List (List S)).length+(Nd.encs l3).length) * 56<=140737488355328/\([]:List (List S)).length+(Nd.encs l3).length<=9223372036854775807 from by simp only[List.length_append,List.length_cons,List.length_nil,List.length_map,rlen Nd.encs_eq]at hq ⊢; omega) ?_;obtain⟨⟨y4A,y4B,y4D,y4C⟩,hy4,h⟩:=zAc h
 refine⟨_,⟨_,_,hy4,(congrArg (fun r=>[AV.s (.sl 4 r)]) (show[]++(Nd.encs l3)=Nd.encs l3 from zSU)),rfl⟩,?_⟩
 obtain⟨⟨y5A,y5B,y5D,y5C⟩,hy5,h⟩:=zAc h;refine⟨_,⟨_,_,_,_,hy5,rfl,rfl⟩,?_⟩
 refine zAd ?_;have hy:=osi h;subst hy;exact fin0 rfl rfl
def zQt (n:Nat) (xs:List AV) (r:Ret):Prop:=∃ (a0:List Nd) (a1:zO8) (y0:List Nd) (y1:Int),zE9 n a0 a1=some (y0,y1)/\xs=[.s (.sl 4 (Nd.encs a0)),.agg ((zAs a1).map .s)]/\r = .val (.tup [.s (.sl 4 (Nd.encs y0)),.s (.int .i64 y1)])
def zKZ:zAp:=zAn fun xs r=>∃ n,zQt n xs r
theorem zPG:PSound Tryz.prog 117 zKZ:=by
 have gok:∀ f s,look? f [(158,zK1),(38,zHL),(159,zK0),(16,zL4)]=some s->PSound Tryz.prog f s:=zAl (by
  simp only[List.forall_mem_cons]
  exact⟨zPI,zLz,zPH,zRr,by simp⟩)
 refine zAo tokW Tryz.call117 Tryz.func117 rfl (fun xs r h=>by obtain⟨n,_,_,_,_,_,rfl,_⟩:=h; show 2<=173; decide) 173 rfl ?_;rintro xs r w0 G0 ⟨n,a1,⟨a2A,a2N,a2I,a2M,a2G,a2L,a2O,a2B⟩,y0,y1,h,rfl,rfl⟩ _;rw[zE9]at h;refine zYc ?_;refine zYc ?_;refine zAa ?_;refine zYc ?_;show Tri ..;obtain⟨x3,hj,h⟩:=zAc h
 refine zAk ⟨ofL [(0,.s (.sl 4 (Nd.encs a1))),(3,.s (.pt [.int .i64 a2A,.sl 1 ((List.map (irow .i64)) a2N),.int .i64 a2I,.int .i64 a2M,.sl 4 (Nd.encs a2G),.int .i64 a2L,.str a2O,.str a2B])),(6,.s (.int .i64 x3))],fun _=>none,0⟩ ?_ (fun σ' hle=>?_)
 ·replace h:=hj;refine zAj ?_;refine zYc ?_;refine zAg rfl h (fun hb h=>?_) (fun hb h=>?_)
  ·refine zYb ?_;cases h;exact(Le.forget _ ⟨rfl,rfl,rfl,trivial⟩)
  ·refine zYc ?_;refine zAg rfl h (fun hb h=>?_) (fun hb h=>?_)
   ·refine zAb [] [17] rfl ?_;intro n4 hn4;obtain rfl:(a2G.length:Int)=n4:=(hn4.trans (congrArg (fun m:Nat=>(m:Int)) (rlen Nd.encs_eq a2G))).symm;cases h;exact(Le.forget _ ⟨rfl,rfl,rfl,trivial⟩)
   ·refine zYc ?_;refine zAg rfl h (fun hb h=>?_) (fun hb h=>?_)
    ·refine zYb ?_;cases h;exact(Le.forget _ ⟨rfl,rfl,rfl,trivial⟩)
    ·refine zAe ?_;cases h;exact(Le.forget _ ⟨rfl,rfl,rfl,trivial⟩)
 ·refine zAi hle ?_;refine zAa ?_;refine zAa ?_;obtain⟨x5,hj,h⟩:=zAc h;refine zAk ⟨ofL [(0,.s (.sl 4 (Nd.encs a1))),(3,.s (.pt [.int .i64 a2A,.sl 1 ((List.map (irow .i64)) a2N),.int .i64 a2I,.int .i64 a2M,.sl 4 (Nd.encs a2G),.int .i64 a2L,.str a2O,.str a2B])),(6,.s (.int .i64 x3)),(40,.s (.bool x5))],fun _=>none,0⟩ ?_ (fun σ' hle=>?_)
  ·replace h:=hj;refine zAb [] [25,29,32,35] rfl ?_;intro b hb;cases b with
   | true =>
    replace h:=zAv hb.symm h;intro b hb;subst hb;cases h;exact(Le.forget _ ⟨rfl,rfl,rfl,rfl,trivial⟩)
   | false =>
    replace h:=zAu hb.symm h;intro n6 hn6;obtain rfl:(a1.length:Int)=n6:=(hn6.trans (congrArg (fun m:Nat=>(m:Int)) (rlen Nd.encs_eq a1))).symm;intro b hb;cases b with
    | true =>
     replace h:=zAv hb.symm h;cases h;exact(Le.forget _ ⟨rfl,rfl,rfl,rfl,trivial⟩)
    | false =>
     replace h:=zAu hb.symm h;intro n7 hn7;obtain rfl:(a1.length:Int)=n7:=(hn7.trans (congrArg (fun m:Nat=>(m:Int)) (rlen Nd.encs_eq a1))).symm;cases h;exact(Le.forget _ ⟨rfl,rfl,rfl,rfl,trivial⟩)
  ·refine zAi hle ?_;refine zAg rfl h (fun hb h=>?_) (fun hb h=>?_)
   ·refine zYc ?_;refine zAd ?_;obtain⟨hj1,hk1⟩:=pij h;subst hj1 hk1;exact fin0 rfl rfl
   ·refine zAe ?_;refine zYc ?_;refine zAa ?_;refine zYc ?_;refine zAj ?_;refine zYc ?_;refine zAg rfl h (fun hb h=>?_) (fun hb h=>?_)
    ·refine zYc ?_;obtain⟨y8,hy8,h⟩:=zAc h;refine⟨_,⟨_,_,_,_,_,hy8,rfl,rfl⟩,?_⟩
     refine zAd ?_;obtain⟨hj1,hk1⟩:=pij h;subst hj1 hk1;exact fin0 rfl rfl
    ·refine zYc ?_;refine zAg rfl h (fun hb h=>?_) (fun hb h=>?_)
     ·refine zAa ?_;refine zAa ?_;refine zAO [] [62] [] rfl (by decide +kernel) ?_;obtain⟨hq,h⟩:=zAy h;refine And.intro ⟨hq.1,hq.2.1,Int.le_trans hq.2.2 (Int.ofNat_le.2 (Nat.le_of_eq (rlen Nd.encs_eq _).symm))⟩ ?_;intro r9 hr9;obtain rfl:Nd.encs ((a1.take (IntKind.i64.wrap (a2I+x3)).toNat).drop a2I.toNat)=r9:=(hr9.trans (rcut Nd.encs_eq _ _ _)).symm;obtain⟨y10,hy10,h⟩:=zAc h;refine⟨_,⟨_,_,_,_,hy10,rfl,rfl⟩,?_⟩
      refine zAg rfl h (fun hb h=>?_) (fun hb h=>?_)
      ·refine zYc ?_;refine zAd ?_;obtain⟨hj1,hk1⟩:=pij h;subst hj1 hk1;exact fin0 rfl rfl
      ·refine zAe ?_;refine zYc ?_;obtain⟨y11,hy11,h⟩:=zAc h;refine⟨_,⟨_,_,_,_,_,hy11,rfl,rfl⟩,?_⟩
       refine zAd ?_;obtain⟨hj1,hk1⟩:=pij h;subst hj1 hk1;exact fin0 rfl rfl
     ·refine zYc ?_;refine zAg rfl h (fun hb h=>?_) (fun hb h=>?_)
      ·refine zAa ?_;refine zAO [] [80,88,90] [] rfl (by decide +kernel) ?_;obtain⟨⟨e12A,e12B,e12D,e12C⟩,he12,h⟩:=zAc h;refine And.intro (zAr Nd.encs_eq he12).1 ?_;intro r13 hr13;obtain rfl:[.int .i64 e12A,.str e12B,.int .i64 e12D,.sl 4 (Nd.encs e12C)]=r13:=(hr13.trans (zAr Nd.encs_eq he12).2.1).symm;obtain⟨hq,h⟩:=zAy h;refine And.intro ⟨hq.1,hq.2.1,Int.le_trans hq.2.2 (Int.ofNat_le.2 (Nat.le_of_eq (rlen Nd.encs_eq _).symm))⟩ ?_;intro r14 hr14;obtain rfl:Nd.encs ((a1.take (IntKind.i64.wrap (a2I+x3)).toNat).drop a2I.toNat)=r14:=(hr14.trans (rcut Nd.encs_eq _ _ _)).symm
       obtain⟨⟨y15A,y15B,y15D,y15C⟩,hy15,h⟩:=zAc h;refine⟨_,⟨_,_,_,_,hy15,rfl,rfl⟩,?_⟩
       intro r16 hr16;obtain rfl:Nd.encs [Nd.mk y15A y15B y15D y15C]=r16:=(hr16.trans zSU).symm;obtain⟨y17,hy17,h⟩:=zAc h;refine⟨_,⟨_,_,_,_,_,hy17,rfl,rfl⟩,?_⟩
       refine zAd ?_;obtain⟨hj1,hk1⟩:=pij h;subst hj1 hk1;exact fin0 rfl rfl
      ·refine zAe ?_;refine zXw [8] [95] rfl ?_;obtain⟨⟨e18A,e18B,e18D,e18C⟩,he18,h⟩:=zAc h;refine And.intro (zAr Nd.encs_eq he18).1 ?_;intro r19 hr19;obtain rfl:[.int .i64 e18A,.str e18B,.int .i64 e18D,.sl 4 (Nd.encs e18C)]=r19:=(hr19.trans (zAr Nd.encs_eq he18).2.1).symm;refine zAa ?_;refine zYc ?_;refine zAg rfl h (fun hb h=>?_) (fun hb h=>?_)
       ·refine zAa ?_;refine zAa ?_;obtain⟨x20,hj,h⟩:=zAc h;refine zAk ⟨ofL [(0,.s (.sl 4 (Nd.encs a1))),(3,.s (.pt [.int .i64 a2A,.sl 1 ((List.map (irow .i64)) a2N),.int .i64 a2I,.int .i64 a2M,.sl 4 (Nd.encs a2G),.int .i64 a2L,.str a2O,.str a2B])),(7,.s (.int .i64 (IntKind.i64.wrap (a2I+x3)))),(8,.op 0 0),(137,.s (.bool x20))],ofH [(0,.box 24 [.s (.int .i64 e18A),.s (.str e18B),.s (.int .i64 e18D),.s (.sl 4 (Nd.encs e18C))])],1⟩ ?_ (fun σ' hle=>?_)
        ·replace h:=hj;refine zAO [] [104,106,111,114,119,123,131] [3,8,20,28] rfl (by decide +kernel) ?_;intro n21 hn21;obtain rfl:(e18C.length:Int)=n21:=(hn21.trans (congrArg (fun m:Nat=>(m:Int)) (rlen Nd.encs_eq e18C))).symm;intro b hb;cases b with
         | true =>
          replace h:=zAv hb.symm h;intro b hb;subst hb;cases h;exact(Le.rnm [(0,0)] _ _ _ ⟨rfl,rfl,rfl,rfl,rfl,trivial⟩ ⟨rfl,⟨_,rfl,rfl⟩,trivial⟩)
         | false =>
          replace h:=zAu hb.symm h;obtain⟨⟨e22A,e22B,e22D,e22C⟩,he22,h⟩:=zAc h;refine And.intro (zAr Nd.encs_eq he22).1 ?_;intro r23 hr23;obtain rfl:[.int .i64 e22A,.str e22B,.int .i64 e22D,.sl 4 (Nd.encs e22C)]=r23:=(hr23.trans (zAr Nd.encs_eq he22).2.1).symm;intro n24 hn24;obtain rfl:(e22C.length:Int)=n24:=(hn24.trans (congrArg (fun m:Nat=>(m:Int)) (rlen Nd.encs_eq e22C))).symm;intro b hb;cases b with
          | true =>
           replace h:=zAv hb.symm h;cases h;exact(Le.rnm [(0,0)] _ _ _ ⟨rfl,rfl,rfl,rfl,rfl,trivial⟩ ⟨rfl,⟨_,rfl,rfl⟩,trivial⟩)
          | false =>
           replace h:=zAu hb.symm h;obtain⟨⟨e25A,e25B,e25D,e25C⟩,he25,h⟩:=zAc h;refine And.intro (zAr Nd.encs_eq he25).1 ?_;intro r26 hr26;obtain rfl:[.int .i64 e25A,.str e25B,.int .i64 e25D,.sl 4 (Nd.encs e25C)]=r26:=(hr26.trans (zAr Nd.encs_eq he25).2.1).symm;obtain⟨⟨e27A,e27B,e27D,e27C⟩,he27,h⟩:=zAc h;refine And.intro (zAr Nd.encs_eq he27).1 ?_;intro r28 hr28;obtain rfl:[.int .i64 e27A,.str e27B,.int .i64 e27D,.sl 4 (Nd.encs e27C)]=r28:=(hr28.trans (zAr Nd.encs_eq he27).2.1).symm;obtain⟨⟨y29A,y29B,y29D,y29C⟩,hy29,h⟩:=zAc h
           refine⟨_,⟨_,_,_,_,hy29,rfl,rfl⟩,?_⟩
           obtain⟨y30,hy30,h⟩:=zAc h;refine⟨_,⟨_,_,_,_,hy30,rfl,rfl⟩,?_⟩
           cases h;exact(Le.rnm [(0,0)] _ _ _ ⟨rfl,rfl,rfl,rfl,rfl,trivial⟩ ⟨rfl,⟨_,rfl,rfl⟩,trivial⟩)
        ·refine zAi hle ?_;refine zAg rfl h (fun hb h=>?_) (fun hb h=>?_)
         ·refine zYc ?_;refine zAd ?_;obtain⟨hj1,hk1⟩:=pij h;subst hj1 hk1;exact fin0 rfl rfl
         ·refine zAe ?_;refine zAa ?_;refine zAO [] [146] [5] rfl (by decide +kernel) ?_;obtain⟨⟨e31A,e31B,e31D,e31C⟩,he31,h⟩:=zAc h;refine And.intro (zAr Nd.encs_eq he31).1 ?_;intro r32 hr32;obtain rfl:[.int .i64 e31A,.str e31B,.int .i64 e31D,.sl 4 (Nd.encs e31C)]=r32:=(hr32.trans (zAr Nd.encs_eq he31).2.1).symm;obtain⟨y33,hy33,h⟩:=zAc h;refine⟨_,⟨_,_,_,_,_,hy33,rfl,rfl⟩,?_⟩
          refine zAd ?_;obtain⟨hj1,hk1⟩:=pij h;subst hj1 hk1;exact fin0 rfl rfl
       ·refine zAe ?_;refine zAa ?_;refine zYc ?_;show Tri ..;obtain⟨fl,hj,ho1⟩:=zAc h;refine zBO (fl:=fl) (fun z=>match z with | _=>⟨ofL [],fun _=>none,0⟩) ?_ (fun z σ' hz hle=>?_)
        ·replace h:=hj;refine zAj ?_;refine zAa ?_;refine zYc ?_;show Tri ..;obtain⟨x34,hj,h⟩:=zAc h;refine zAk ⟨ofL [(0,.s (.sl 4 (Nd.encs a1))),(3,.s (.pt [.int .i64 a2A,.sl 1 ((List.map (irow .i64)) a2N),.int .i64 a2I,.int .i64 a2M,.sl 4 (Nd.encs a2G),.int .i64 a2L,.str a2O,.str a2B])),(7,.s (.int .i64 (IntKind.i64.wrap (a2I+x3)))),(8,.op 0 0),(152,.s (.bool x34))],ofH [(0,.box 24 [.s (.int .i64 e18A),.s (.str e18B),.s (.int .i64 e18D),.s (.sl 4 (Nd.encs e18C))])],1⟩ ?_ (fun σ' hle=>?_)
         ·replace h:=hj;refine zAg rfl h (fun hb h=>?_) (fun hb h=>?_)
          ·refine zAe ?_;cases h;exact(Le.rnm [(0,0)] _ _ _ ⟨rfl,rfl,rfl,rfl,rfl,trivial⟩ ⟨rfl,⟨_,rfl,rfl⟩,trivial⟩)
          ·refine zYc ?_;refine zAg rfl h (fun hb h=>?_) (fun hb h=>?_)
           ·refine zAe ?_;cases h;exact(Le.rnm [(0,0)] _ _ _ ⟨rfl,rfl,rfl,rfl,rfl,trivial⟩ ⟨rfl,⟨_,rfl,rfl⟩,trivial⟩)
           ·refine zYc ?_;refine zAg rfl h (fun hb h=>?_) (fun hb h=>?_)
            ·refine zAe ?_;cases h;exact(Le.rnm [(0,0)] _ _ _ ⟨rfl,rfl,rfl,rfl,rfl,trivial⟩ ⟨rfl,⟨_,rfl,rfl⟩,trivial⟩)
            ·refine zYc ?_;refine zAg rfl h (fun hb h=>?_) (fun hb h=>?_)
             ·refine zAe ?_;cases h;exact(Le.rnm [(0,0)] _ _ _ ⟨rfl,rfl,rfl,rfl,rfl,trivial⟩ ⟨rfl,⟨_,rfl,rfl⟩,trivial⟩)
             ·refine zYb ?_;cases h;exact(Le.rnm [(0,0)] _ _ _ ⟨rfl,rfl,rfl,rfl,rfl,trivial⟩ ⟨rfl,⟨_,rfl,rfl⟩,trivial⟩)
         ·refine zAi hle ?_;refine zAg rfl h (fun hb h=>?_) (fun hb h=>?_)
          ·refine zYc ?_;refine zAg rfl h (fun hb h=>?_) (fun hb h=>?_)
           ·refine zYc ?_;refine zXw [] [171] rfl ?_;intro r35 hr35;obtain rfl:Nd.encs [Nd.mk e18A a2B e18D e18C]=r35:=(hr35.trans zSU).symm;obtain⟨y36,hy36,h⟩:=zAc h;refine⟨_,⟨_,_,_,_,_,hy36,rfl,rfl⟩,?_⟩
            refine zAd ?_;cases h;replace h:some _=some _:=ho1;obtain⟨hj1,hk1⟩:=pij h;subst hj1 hk1;exact fin0 rfl rfl
           ·refine zAe ?_;cases h;exact⟨_,rfl,(Le.rnm [] _ [] 0 trivial trivial)⟩
          ·refine zAe ?_;cases h;exact⟨_,rfl,(Le.rnm [] _ [] 0 trivial trivial)⟩
        ·subst hz;obtain _:=z;replace h:=ho1;refine zAi hle ?_;refine zYc ?_;refine zAd ?_;obtain⟨hj1,hk1⟩:=pij h;subst hj1 hk1;exact fin0 rfl rfl
def zHC (n:Nat) (xs:List AV) (r:Ret):Prop:=∃ (a0:Nd) (a1:List Int) (a2:List Nd) (y0:Nd),zFa n a0 a1 a2=some y0/\xs=[.agg ((Nd.enc a0).map .s),.s (.sl 1 ((List.map (irow .i64)) a1)),.s (.sl 4 (Nd.encs a2))]/\r = .val (.agg ((Nd.enc y0).map .s))
theorem zRV (n:Nat) (ih:PSound Tryz.prog 118 (zAn (zHC n))):PSound Tryz.prog 118 (zAn (zHC (n+1))):=by
 have gok:∀ f s,look? f [(54,zFN),(118,zAn (zHC n)),(160,zGA)]=some s->PSound Tryz.prog f s:=zAl (by
  simp only[List.forall_mem_cons]
  exact⟨zGr,ih,zH7,by simp⟩)
 refine zAo tokW Tryz.call118 Tryz.func118 rfl (fun xs r h=>by obtain⟨_,_,_,_,_,rfl,_⟩:=h; show 3<=41; decide) 41 rfl ?_;rintro xs r w0 G0 ⟨⟨n1A,n1B,n1D,n1C⟩,path2,l3,y0,h,rfl,rfl⟩ _;rw[zFa]at h;refine zXw [6] [] rfl ?_;refine zAa ?_;refine zXw [] [9] rfl ?_;intro n4 hn4;obtain rfl:(path2.length:Int)=n4:=(hn4.trans (congrArg (fun m:Nat=>(m:Int)) (rlen (fun _=>rfl) path2))).symm;refine zAg rfl h (fun hb h=>?_) (fun hb h=>?_)
 ·refine zYc ?_;obtain⟨⟨y5A,y5B,y5D,y5C⟩,hy5,h⟩:=zAc h;refine⟨_,⟨_,_,hy5,rfl,rfl⟩,?_⟩
  refine zAd ?_;have hy:=osi h;subst hy;exact fin0 rfl rfl
 ·refine zAe ?_;refine zAa ?_;refine zIr [7] [16,18] [7,8] [] rfl (by decide +kernel) ?_;obtain⟨e6,he6,h⟩:=zAc h;refine And.intro (zAr (fun _=>rfl) he6).1 ?_;intro r7 hr7;obtain rfl:[.int .i64 e6]=r7:=(hr7.trans (zAr (fun _=>rfl) he6).2.1).symm;obtain⟨⟨e8A,e8B,e8D,e8C⟩,he8,h⟩:=zAc h;refine And.intro (zAr Nd.encs_eq he8).1 ?_;intro r9 hr9;obtain rfl:[.int .i64 e8A,.str e8B,.int .i64 e8D,.sl 4 (Nd.encs e8C)]=r9:=(hr9.trans (zAr Nd.encs_eq he8).2.1).symm;show Tri ..
  refine zAi (Le.giveBox 1 [.int .i64 e8A,.str e8B,.int .i64 e8D,.sl 4 (Nd.encs e8C)] rfl rfl) ?_;refine zAa ?_;refine zAO [] [22,26,31,33,36] [21] rfl (by decide +kernel) ?_;obtain⟨e10,he10,h⟩:=zAc h;refine And.intro (zAr (fun _=>rfl) he10).1 ?_;intro r11 hr11;obtain rfl:[.int .i64 e10]=r11:=(hr11.trans (zAr (fun _=>rfl) he10).2.1).symm;obtain⟨e12,he12,h⟩:=zAc h;refine And.intro (zAr (fun _=>rfl) he12).1 ?_;intro r13 hr13;obtain rfl:[.int .i64 e12]=r13:=(hr13.trans (zAr (fun _=>rfl) he12).2.1).symm;obtain⟨e14,he14,h⟩:=zAc h;refine And.intro (zAr (fun _=>rfl) he14).1 ?_;intro r15 hr15
  obtain rfl:[.int .i64 e14]=r15:=(hr15.trans (zAr (fun _=>rfl) he14).2.1).symm;obtain⟨⟨e16A,e16B,e16D,e16C⟩,he16,h⟩:=zAc h;refine And.intro (zAr Nd.encs_eq he16).1 ?_;intro r17 hr17;obtain rfl:[.int .i64 e16A,.str e16B,.int .i64 e16D,.sl 4 (Nd.encs e16C)]=r17:=(hr17.trans (zAr Nd.encs_eq he16).2.1).symm;obtain⟨hq,h⟩:=zAy h;refine And.intro ⟨hq.1,Int.le_trans hq.2.1 (Int.ofNat_le.2 (Nat.le_of_eq (rlen (fun _=>rfl) _).symm)),Int.le_refl _⟩ ?_;intro r18 hr18
  obtain rfl:(List.map (irow .i64)) ((path2.take (path2.length:Int).toNat).drop (2:Int).toNat)=r18:=(hr18.trans ((congrArg (fun m:Nat=>(((List.map (irow .i64)) path2).take m).drop (2:Int).toNat) (rlen (fun _=>rfl) _)).trans (rcut (fun _=>rfl) _ _ _))).symm;obtain⟨⟨y19A,y19B,y19D,y19C⟩,hy19,h⟩:=zAc h;refine⟨_,⟨_,_,_,_,hy19,rfl,rfl⟩,?_⟩
  obtain⟨⟨y20A,y20B,y20D,y20C⟩,hy20,h⟩:=zAc h;refine⟨_,⟨_,_,_,_,hy20,rfl,rfl⟩,?_⟩
  obtain⟨⟨y21A,y21B,y21D,y21C⟩,hy21,h⟩:=zAc h;refine⟨_,⟨_,_,_,_,hy21,rfl,rfl⟩,?_⟩
  refine zAd ?_;have hy:=osi h;subst hy;exact fin0 rfl rfl
theorem zSm:∀ n,PSound Tryz.prog 118 (zAn (zHC n)):=by
 intro n
 induction n with
 | zero=>exact zA7 Tryz.call118 (fun xs r h=>by obtain⟨_,_,_,_,h,_⟩:=h; cases h)
 | succ n ih=>exact zRV n ih
def zQE:zAp:=zAn fun xs r=>∃ n,zHC n xs r
theorem zUf:PSound Tryz.prog 118 zQE:=zBr zSm
def zSf (n:Nat) (xs:List AV) (r:Ret):Prop:=∃ (a0:Nd) (a1:zO8) (y0:Nd) (y1:Int),zEL n a0 a1=some (y0,y1)/\xs=[.agg ((Nd.enc a0).map .s),.agg ((zAs a1).map .s)]/\r = .val (.tup [.agg ((Nd.enc y0).map .s),.s (.int .i64 y1)])
def zL9:zAp:=zAn fun xs r=>∃ n,zSf n xs r
theorem zRv:PSound Tryz.prog 79 zL9:=by
 have gok:∀ f s,look? f [(35,zD3),(115,zKY),(116,zQA),(117,zKZ),(118,zQE)]=some s->PSound Tryz.prog f s:=zAl (by
  simp only[List.forall_mem_cons]
  exact⟨zEh,zPF,zUb,zPG,zUf,by simp⟩)
 refine zAo tokW Tryz.call79 Tryz.func79 rfl (fun xs r h=>by obtain⟨n,_,_,_,_,_,rfl,_⟩:=h; show 2<=50; decide) 50 rfl ?_;rintro xs r w0 G0 ⟨n,⟨n1A,n1B,n1D,n1C⟩,⟨op2A,op2N,op2I,op2M,op2G,op2L,op2O,op2B⟩,y0,y1,h,rfl,rfl⟩ _;rw[zEL]at h;refine zXw [4] [] rfl ?_;refine zAa ?_;refine zYc ?_;obtain⟨y3,hy3,h⟩:=zAc h;refine⟨_,⟨_,_,_,hy3,rfl,rfl⟩,?_⟩
 refine zAg rfl h (fun hb h=>?_) (fun hb h=>?_)
 ·refine zYc ?_;refine zAd ?_;obtain⟨hj1,hk1⟩:=pij h;subst hj1 hk1;exact fin0 rfl rfl
 ·refine zAe ?_;refine zAa ?_;refine zYc ?_;obtain⟨y4,hy4,h⟩:=zAc h;refine⟨_,⟨_,_,_,hy4,rfl,rfl⟩,?_⟩
  refine zAg rfl h (fun hb h=>?_) (fun hb h=>?_)
  ·refine zYc ?_;refine zAd ?_;obtain⟨hj1,hk1⟩:=pij h;subst hj1 hk1;exact fin0 rfl rfl
  ·refine zAe ?_;refine zXw [6] [] rfl ?_;obtain⟨⟨⟨y5A,y5B,y5D,y5C⟩,y6⟩,hy5,h⟩:=zAc h;refine⟨_,⟨_,_,_,_,_,hy5,rfl,rfl⟩,?_⟩
   refine zAi (Le.giveBox 1 [.int .i64 y5A,.str y5B,.int .i64 y5D,.sl 4 (Nd.encs y5C)] rfl rfl) ?_;refine zAa ?_;refine zYc ?_;refine zAg rfl h (fun hb h=>?_) (fun hb h=>?_)
   ·refine zYc ?_;refine zAd ?_;obtain⟨hj1,hk1⟩:=pij h;subst hj1 hk1;exact fin0 rfl rfl
   ·refine zAe ?_;refine zYc ?_;obtain⟨⟨y7,y8⟩,hy7,h⟩:=zAc h;refine⟨_,⟨_,_,_,_,_,hy7,rfl,rfl⟩,?_⟩
    refine zAa ?_;refine zYc ?_;refine zAg rfl h (fun hb h=>?_) (fun hb h=>?_)
    ·refine zYc ?_;refine zAd ?_;obtain⟨hj1,hk1⟩:=pij h;subst hj1 hk1;exact fin0 rfl rfl
    ·refine zAe ?_;refine zXw [9] [] rfl ?_;obtain⟨⟨y9A,y9B,y9D,y9C⟩,hy9,h⟩:=zAc h;refine⟨_,⟨_,_,_,_,_,hy9,rfl,rfl⟩,?_⟩
     refine zAi (Le.giveBox 2 [.int .i64 y9A,.str y9B,.int .i64 y9D,.sl 4 (Nd.encs y9C)] rfl rfl) ?_;refine zAa ?_;refine zYc ?_;obtain⟨y10,hy10,h⟩:=zAc h;refine⟨_,⟨_,_,_,hy10,rfl,rfl⟩,?_⟩
     refine zAg rfl h (fun hb h=>?_) (fun hb h=>?_)
     ·refine zYc ?_;refine zAd ?_;obtain⟨hj1,hk1⟩:=pij h;subst hj1 hk1;exact fin0 rfl rfl
     ·refine zAe ?_;refine zYc ?_;refine zAd ?_;obtain⟨hj1,hk1⟩:=pij h;subst hj1 hk1;exact fin0 rfl rfl
def zNB (n:Nat) (xs:List AV) (r:Ret):Prop:=∃ (a0:Nd) (a1:List zO8) (y0:Nd) (y1:Int) (y2:Int),zDa n a0 a1=some (y0,y1,y2)/\xs=[.agg ((Nd.enc a0).map .s),.s (.sl 8 ((List.map zAs) a1))]/\r = .val (.tup [.agg ((Nd.enc y0).map .s),.s (.int .i64 y1),.s (.int .i64 y2)])
def zIR:zAp:=zAn fun xs r=>∃ n,zNB n xs r
theorem zMR:PSound Tryz.prog 36 zIR:=by
 have gok:∀ f s,look? f [(35,zD3),(79,zL9)]=some s->PSound Tryz.prog f s:=zAl (by
  simp only[List.forall_mem_cons]
  exact⟨zEh,zRv,by simp⟩)
 refine zAo tokW Tryz.call36 Tryz.func36 rfl (fun xs r h=>by obtain⟨n,_,_,_,_,_,_,rfl,_⟩:=h; show 2<=36; decide) 36 rfl ?_;rintro xs r w0 G0 ⟨n,⟨n1A,n1B,n1D,n1C⟩,ops2,y0,y1,y2,h,rfl,rfl⟩ _;rw[zDa]at h;refine zXw [2,4] [] rfl ?_;refine zAa ?_;refine zYc ?_;obtain⟨y3,hy3,h⟩:=zAc h;refine⟨_,⟨_,_,_,hy3,rfl,rfl⟩,?_⟩
 refine zAg rfl h (fun hb h=>?_) (fun hb h=>?_)
 ·refine zYc ?_;refine zAd ?_;obtain⟨hj1,hk1⟩:=pij h;subst hj1;obtain⟨hj2,hk2⟩:=Prod.mk.inj hk1;subst hj2;subst hk2;exact fin0 rfl rfl
 ·refine zAe ?_;refine zAa ?_;refine zYc ?_;show Tri ..;obtain⟨fl,hl,ho1⟩:=zAc h;refine zBO (fl:=fl) (fun z=>match z with | ⟨x10,x11,x12,x13⟩=>⟨ofL [(2,.op 0 0),(4,.op 1 0)],ofH [(0,.box 24 [.s (.int .i64 x10),.s (.str x11),.s (.int .i64 x12),.s (.sl 4 (Nd.encs x13))]),(1,.box 24 [.s (.int .i64 0),.s (.str []),.s (.int .i64 0),.nl 4])],2⟩) ?_ (fun z σ' hz hle=>?_)
  ·refine zAj (zAt (X:=Nat×Int×(List UInt8)×Int×(List Nd)×Int) (fun y=>match y with | (k,x4,x5,x6,x7,i9)=>⟨ofL [(1,.s (.sl 8 ((List.map zAs) ops2))),(2,.op 0 0),(4,.op 1 0),(7,.s (.int .i64 i9))],ofH [(0,.box 24 [.s (.int .i64 x4),.s (.str x5),.s (.int .i64 x6),.s (.sl 4 (Nd.encs x7))]),(1,.box 24 [.s (.int .i64 0),.s (.str []),.s (.int .i64 0),.nl 4])],2⟩) (fun y=>zBA n ops2 y.1 y.2.1 y.2.2.1 y.2.2.2.1 y.2.2.2.2.1 y.2.2.2.2.2=some fl) (fun y=>y.1) (n,n1A,n1B,n1D,n1C,0) hl ?_ ?_)
   ·exact(Le.rnm [(0,0),(1,1)] _ _ _ ⟨rfl,rfl,rfl,rfl,trivial⟩ ⟨rfl,⟨_,rfl,rfl⟩,rfl,⟨_,rfl,rfl⟩,trivial⟩)
   ·rintro⟨k,x4,x5,x6,x7,i9⟩ h;cases k with
    | zero=>cases h
    | succ k =>
     replace h:zBA n ops2 (k+1) x4 x5 x6 x7 i9=some fl:=h;rw[zBA]at h;refine zAa ?_;refine zXw [] [16] rfl ?_;intro n14 hn14;obtain rfl:(ops2.length:Int)=n14:=(hn14.trans (congrArg (fun m:Nat=>(m:Int)) (rlen (fun _=>rfl) ops2))).symm;refine zAg rfl h (fun hb h=>?_) (fun hb h=>?_)
     ·refine zAe ?_;refine zAa ?_;refine zAj ?_;refine zAa ?_;refine zIr [8] [24] [0,9,10] [0] rfl (by decide +kernel) ?_;obtain⟨⟨e15A,e15N,e15I,e15M,e15G,e15L,e15O,e15B⟩,he15,h⟩:=zAc h;refine And.intro (zAr (fun _=>rfl) he15).1 ?_;intro r16 hr16;obtain rfl:[.int .i64 e15A,.sl 1 ((List.map (irow .i64)) e15N),.int .i64 e15I,.int .i64 e15M,.sl 4 (Nd.encs e15G),.int .i64 e15L,.str e15O,.str e15B]=r16:=(hr16.trans (zAr (fun _=>rfl) he15).2.1).symm;obtain⟨⟨⟨y17A,y17B,y17D,y17C⟩,y18⟩,hy17,h⟩:=zAc h
      refine⟨_,⟨_,_,_,_,_,hy17,rfl,rfl⟩,?_⟩
      refine zAi (Le.giveBox 2 [.int .i64 y17A,.str y17B,.int .i64 y17D,.sl 4 (Nd.encs y17C)] rfl rfl) ?_;refine zAa ?_;refine zYc ?_;refine zAg rfl h (fun hb h=>?_) (fun hb h=>?_)
      ·refine zYc ?_;refine zAd ?_;cases h;replace h:some _=some _:=ho1;obtain⟨hj1,hk1⟩:=pij h;subst hj1;obtain⟨hj2,hk2⟩:=Prod.mk.inj hk1;subst hj2;subst hk2;exact fin0 rfl rfl
      ·refine zAe ?_;refine zYb ?_;refine zYb ?_;refine⟨(k,y17A,y17B,y17D,y17C,IntKind.i64.wrap (i9+1)),h,(Le.rnm [(0,0),(1,1)] _ _ _ ⟨rfl,rfl,rfl,rfl,trivial⟩ ⟨rfl,⟨_,rfl,rfl⟩,rfl,⟨_,rfl,rfl⟩,trivial⟩),Nat.lt_succ_self k⟩
     ·refine zAx ?_;cases h;exact⟨_,rfl,(Le.rnm [(0,0),(1,1)] _ _ _ ⟨rfl,rfl,trivial⟩ ⟨rfl,⟨_,rfl,rfl⟩,rfl,⟨_,rfl,rfl⟩,trivial⟩)⟩
  ·subst hz;obtain⟨x10,x11,x12,x13⟩:=z;replace h:=ho1;refine zAi hle ?_;refine zYc ?_;refine zAd ?_;obtain⟨hj1,hk1⟩:=pij h;subst hj1;obtain⟨hj2,hk2⟩:=Prod.mk.inj hk1;subst hj2;subst hk2;exact fin0 rfl rfl
def zBc (p:List Int):List S:=[.sl 1 ((List.map (irow .i64)) p)]
def zHB (n:Nat) (xs:List AV) (r:Ret):Prop:=∃ (a0:Nd) (a1:List Int) (y0:List (List Int)),zDw n a0 a1=some y0/\xs=[.agg ((Nd.enc a0).map .s),.s (.sl 1 ((List.map (irow .i64)) a1))]/\r = .row 56 1 ((List.map zBc) y0)
theorem zNY {α:Type}{a b:α} (h:a=b:=by simp[List.map_append,List.map_take,List.map_drop,irow,brow,zEm,List.map_cons,List.map_nil,zDV,Nd.encs_eq,Nd.enc,CV.encs_eq,CV.enc,zBi,zAJ,zBL,zAF,zAC,zAs,zCg,zBC,zAm,zA2,zAq,zBc]):a=b :=
 h
theorem zRU (n:Nat) (ih:PSound Tryz.prog 189 (zAn (zHB n))):PSound Tryz.prog 189 (zAn (zHB (n+1))):=by
 have gok:∀ f s,look? f [(189,zAn (zHB n))]=some s->PSound Tryz.prog f s:=zAl (by
  simp only[List.forall_mem_cons]
  exact⟨ih,by simp⟩)
 refine zAo tokW Tryz.call189 Tryz.func189 rfl (fun xs r h=>by obtain⟨_,_,_,_,rfl,_⟩:=h; show 2<=60; decide) 60 rfl ?_;rintro xs r w0 G0 ⟨⟨row1A,row1B,row1D,row1C⟩,path2,y0,h,rfl,rfl⟩ _;rw[zDw]at h;refine zXw [4] [] rfl ?_;refine zAi (Le.rnm [] [(1,.s (.sl 1 ((List.map (irow .i64)) path2))),(2,.s (.pt [.int .i64 row1A,.str row1B,.int .i64 row1D,.sl 4 (Nd.encs row1C)]))] [] 0 ⟨rfl,rfl,trivial⟩ trivial) ?_;refine zXw [5] [] rfl ?_;show Tri ..
 refine zAi (Le.rnm [(0,0)] [(1,.s (.sl 1 ((List.map (irow .i64)) path2))),(2,.s (.pt [.int .i64 row1A,.str row1B,.int .i64 row1D,.sl 4 (Nd.encs row1C)])),(5,.orow 0)] [(0,.row 56 1 ((List.map zBc) []))] 1 ⟨rfl,rfl,rfl,trivial⟩ ⟨rfl,⟨_,rfl,congrArg (Ob.row 56 1) zNY⟩,trivial⟩) ?_;refine zAa ?_
 refine zYc ?_;show Tri ..;obtain⟨l6,hl,h⟩:=zAc h;refine zAk ⟨ofL [(5,.orow 0)],ofH [(0,.row 56 1 ((List.map zBc) l6))],1⟩ ?_ (fun σ' hle=>?_)
 ·refine zAj (zAt (X:=Nat×Int×(List (List Int))) (fun y=>match y with | (k,i4,l5)=>⟨ofL [(1,.s (.sl 1 ((List.map (irow .i64)) path2))),(2,.s (.pt [.int .i64 row1A,.str row1B,.int .i64 row1D,.sl 4 (Nd.encs row1C)])),(5,.orow 0),(6,.s (.int .i64 i4))],ofH [(0,.row 56 1 ((List.map zBc) l5))],1⟩) (fun y=>zDx (zDw n) n row1C path2 y.1 y.2.1 y.2.2=some l6) (fun y=>y.1) (n,0,[]) hl ?_ ?_)
  ·exact(Le.rnm [(0,0)] _ _ _ ⟨rfl,rfl,rfl,rfl,trivial⟩ ⟨rfl,⟨_,rfl,rfl⟩,trivial⟩)
  ·rintro⟨k,i4,l5⟩ h;cases k with
   | zero=>cases h
   | succ k =>
    replace h:zDx (zDw n) n row1C path2 (k+1) i4 l5=some l6:=h;rw[zDx]at h;refine zAa ?_;refine zXw [] [11] rfl ?_;intro n7 hn7;obtain rfl:(row1C.length:Int)=n7:=(hn7.trans (congrArg (fun m:Nat=>(m:Int)) (rlen Nd.encs_eq row1C))).symm;refine zAg rfl h (fun hb h=>?_) (fun hb h=>?_)
    ·refine zAe ?_;refine zAa ?_;refine zAj ?_;refine zAa ?_;refine zAi (Le.toA 0 rfl) ?_;obtain⟨y9,hy9,h⟩:=zAc h;obtain⟨hqp,hyq⟩:=zAy hy9;replace hyq:=osi hyq;rw[List.length_singleton]at hqp;refine zAb [16,18,21,22,23] [20] rfl ?_;refine And.intro (show((0:Nat)+((List.map (irow .i64)) path2).length) * 8<=140737488355328/\(0:Nat)+((List.map (irow .i64)) path2).length<=9223372036854775807 by rw[List.length_map]; omega) ?_;intro r8 hr8;have hl1:r8.length=1:=by rw[hr8]; rfl
     refine And.intro (show(([]++((List.map (irow .i64)) path2)).length+r8.length) * 8<=140737488355328/\([]++((List.map (irow .i64)) path2)).length+r8.length<=9223372036854775807 by rw[hl1,List.nil_append,List.length_map]; omega) ?_
     clear hl1
     obtain rfl:(List.map (irow .i64)) [i4]=r8:=(hr8.trans zNY).symm;obtain⟨hq,h⟩:=zAy h
     refine And.intro (show((((List.map zBc) l5).map (·.map AV.s)).length+1) * 24<=140737488355328/\(((List.map zBc) l5).map (·.map AV.s)).length+1<=9223372036854775807 by rw[List.length_map,List.length_map]; simp only[List.length_cons,List.length_nil]at hq; omega) ?_;refine zAi (Le.giveRow 3 rfl) ?_;refine zAi (Le.ofA 5 ((List.map zBc) (l5++[y9])) rfl (by rw[← hyq,List.map_append,List.map_append,zT0]; exact zKb (zTF _) (show some [[S.sl 1 ([]++(List.map (irow .i64)) path2++(List.map (irow .i64)) [i4])]]=some ((List.map zBc) [path2++[i4]]) by simp[zBc]))) ?_
     refine zAi (Le.rnm [(5,0)] [(1,.s (.sl 1 ((List.map (irow .i64)) path2))),(2,.s (.pt [.int .i64 row1A,.str row1B,.int .i64 row1D,.sl 4 (Nd.encs row1C)])),(5,.orow 0),(6,.s (.int .i64 i4))] [(0,.row 56 1 ((List.map zBc) (l5++[y9])))] 1 ⟨rfl,rfl,rfl,rfl,trivial⟩ ⟨rfl,⟨_,rfl,congrArg (Ob.row 56 1) zNY⟩,trivial⟩) ?_
     refine zAa ?_;refine zXw [] [27] rfl ?_;intro n11 hn11;obtain rfl:(row1C.length:Int)=n11:=(hn11.trans (congrArg (fun m:Nat=>(m:Int)) (rlen Nd.encs_eq row1C))).symm;refine zAg rfl h (fun hb h=>?_) (fun hb h=>?_)
     ·refine zAx ?_;cases h;exact(Le.rnm [(0,0)] _ _ _ ⟨rfl,trivial⟩ ⟨rfl,⟨_,rfl,rfl⟩,trivial⟩)
     ·refine zAe ?_;refine zYc ?_;show Tri ..;obtain⟨l15,hl,h⟩:=zAc h;refine zAk ⟨ofL [(1,.s (.sl 1 ((List.map (irow .i64)) path2))),(2,.s (.pt [.int .i64 row1A,.str row1B,.int .i64 row1D,.sl 4 (Nd.encs row1C)])),(5,.orow 0),(6,.s (.int .i64 i4))],ofH [(0,.row 56 1 ((List.map zBc) l15))],1⟩ ?_ (fun σ' hle=>?_)
      ·refine zAj (zAt (X:=Nat×Int×(List (List Int))) (fun y=>match y with | (k,k13,l14)=>⟨ofL [(1,.s (.sl 1 ((List.map (irow .i64)) path2))),(2,.s (.pt [.int .i64 row1A,.str row1B,.int .i64 row1D,.sl 4 (Nd.encs row1C)])),(5,.orow 0),(6,.s (.int .i64 i4)),(7,.s (.int .i64 k13))],ofH [(0,.row 56 1 ((List.map zBc) l14))],1⟩) (fun y=>zDy (zDw n) row1C path2 i4 y.1 y.2.1 y.2.2=some l15) (fun y=>y.1) (n,0,l5++[y9]) hl ?_ ?_)
       ·exact(Le.rnm [(0,0)] _ _ _ ⟨rfl,rfl,rfl,rfl,rfl,trivial⟩ ⟨rfl,⟨_,rfl,rfl⟩,trivial⟩)
       ·rintro⟨k,k13,l14⟩ h;cases k with
        | zero=>cases h
        | succ k =>
         replace h:zDy (zDw n) row1C path2 i4 (k+1) k13 l14=some l15:=h;rw[zDy]at h;refine zAa ?_;refine zXw [] [33,36] rfl ?_;obtain⟨⟨e16A,e16B,e16D,e16C⟩,he16,h⟩:=zAc h;refine And.intro (zAr Nd.encs_eq he16).1 ?_;intro r17 hr17;obtain rfl:[.int .i64 e16A,.str e16B,.int .i64 e16D,.sl 4 (Nd.encs e16C)]=r17:=(hr17.trans (zAr Nd.encs_eq he16).2.1).symm;intro n18 hn18;obtain rfl:(e16C.length:Int)=n18:=(hn18.trans (congrArg (fun m:Nat=>(m:Int)) (rlen Nd.encs_eq e16C))).symm;refine zAg rfl h (fun hb h=>?_) (fun hb h=>?_)
         ·refine zAe ?_;refine zAa ?_;refine zAj ?_;refine zIr [50,52,56,58] [44,48,55] [10,12,16,17,18] [] rfl (by decide +kernel) ?_;obtain⟨⟨e19A,e19B,e19D,e19C⟩,he19,h⟩:=zAc h;refine And.intro (zAr Nd.encs_eq he19).1 ?_;intro r20 hr20;obtain rfl:[.int .i64 e19A,.str e19B,.int .i64 e19D,.sl 4 (Nd.encs e19C)]=r20:=(hr20.trans (zAr Nd.encs_eq he19).2.1).symm;obtain⟨⟨e21A,e21B,e21D,e21C⟩,he21,h⟩:=zAc h;refine And.intro (zAr Nd.encs_eq he21).1 ?_;intro r22 hr22
          obtain rfl:[.int .i64 e21A,.str e21B,.int .i64 e21D,.sl 4 (Nd.encs e21C)]=r22:=(hr22.trans (zAr Nd.encs_eq he21).2.1).symm;obtain⟨hq,h⟩:=zAy h;refine And.intro (show(([]:List (List S)).length+((List.map (irow .i64)) path2).length) * 8<=140737488355328/\([]:List (List S)).length+((List.map (irow .i64)) path2).length<=9223372036854775807 from by simp only[List.length_append,List.length_cons,List.length_nil,List.length_map,rlen (fun _=>rfl)]at hq ⊢; omega) ?_;intro r23 hr23;have hl2:r23.length=2 :=(by rw[hr23]; rfl);obtain⟨hq,h⟩:=zAy h
          refine And.intro (show((([]:List (List S))++((List.map (irow .i64)) path2)).length+r23.length) * 8<=140737488355328/\(([]:List (List S))++((List.map (irow .i64)) path2)).length+r23.length<=9223372036854775807 from by rw[hl2]; simp only[List.length_append,List.length_cons,List.length_nil,List.length_map]at hq ⊢; omega) ?_
          clear hl2
          obtain rfl:(List.map (irow .i64)) [i4,k13]=r23:=(hr23.trans zNY).symm;obtain⟨y24,hy24,h⟩:=zAc h
          refine⟨_,⟨_,_,_,hy24,(congrArg (fun r=>[(AV.agg [.s (.int .i64 e21A),.s (.str e21B),.s (.int .i64 e21D),.s (.sl 4 (Nd.encs e21C))]),AV.s (.sl 1 r)]) (show([]++((List.map (irow .i64)) path2))++((List.map (irow .i64)) [i4,k13])=(List.map (irow .i64)) (path2++[i4,k13]) from zNY)),rfl⟩,?_⟩
          obtain⟨hq,h⟩:=zAy h;refine And.intro (show(((List.map zBc) l14).length+((List.map zBc) y24).length) * 24<=140737488355328/\((List.map zBc) l14).length+((List.map zBc) y24).length<=9223372036854775807 from by simp only[List.length_append,List.length_cons,List.length_nil,List.length_map,rlen (fun _=>rfl)]at hq ⊢; omega) ?_;show Tri ..
          refine zAi (Le.rnm [(4,0)] [(1,.s (.sl 1 ((List.map (irow .i64)) path2))),(2,.s (.pt [.int .i64 row1A,.str row1B,.int .i64 row1D,.sl 4 (Nd.encs row1C)])),(5,.orow 0),(6,.s (.int .i64 i4)),(7,.s (.int .i64 k13))] [(0,.row 56 1 ((List.map zBc) (l14++y24)))] 1 ⟨rfl,rfl,rfl,rfl,rfl,trivial⟩ ⟨rfl,⟨_,rfl,congrArg (Ob.row 56 1) zNY⟩,trivial⟩) ?_
          refine zYb ?_;refine⟨(k,IntKind.i64.wrap (k13+1),l14++y24),h,(Le.rnm [(0,0)] _ _ _ ⟨rfl,rfl,rfl,rfl,rfl,trivial⟩ ⟨rfl,⟨_,rfl,rfl⟩,trivial⟩),Nat.lt_succ_self k⟩
         ·refine zAx ?_;cases h;exact(Le.rnm [(0,0)] _ _ _ ⟨rfl,rfl,rfl,rfl,trivial⟩ ⟨rfl,⟨_,rfl,rfl⟩,trivial⟩)
      ·refine zAi hle ?_;refine zYb ?_;refine⟨(k,IntKind.i64.wrap (i4+1),l15),h,(Le.rnm [(0,0)] _ _ _ ⟨rfl,rfl,rfl,rfl,trivial⟩ ⟨rfl,⟨_,rfl,rfl⟩,trivial⟩),Nat.lt_succ_self k⟩
    ·refine zAx ?_;cases h;exact(Le.rnm [(0,0)] _ _ _ ⟨rfl,trivial⟩ ⟨rfl,⟨_,rfl,rfl⟩,trivial⟩)
 ·refine zAi hle ?_;refine zYc ?_;refine zAd ?_;have hy:=osi h;subst hy;unfold zCJ;exact⟨_,Le.refl _ _,0,rfl,rfl⟩
theorem zSl:∀ n,PSound Tryz.prog 189 (zAn (zHB n)):=by
 intro n
 induction n with
 | zero=>exact zA7 Tryz.call189 (fun xs r h=>by obtain⟨_,_,_,h,_⟩:=h; cases h)
 | succ n ih=>exact zRU n ih
def zQC:zAp:=zAn fun xs r=>∃ n,zHB n xs r
theorem zUd:PSound Tryz.prog 189 zQC:=zBr zSl
def zUA (n:Nat) (xs:List AV) (r:Ret):Prop:=∃ (a0:Nd) (y0:List (List Int)) (y1:Int),zHV n a0=some (y0,y1)/\xs=[.agg ((Nd.enc a0).map .s)]/\r = .val (.tup [.s (.sl 1 ((List.map zBc) y0)),.s (.int .i64 y1)])
def zQB:zAp:=zAn fun xs r=>∃ n,zUA n xs r
theorem zUc:PSound Tryz.prog 161 zQB:=by
 have gok:∀ f s,look? f [(35,zD3),(189,zQC)]=some s->PSound Tryz.prog f s:=zAl (by
  simp only[List.forall_mem_cons]
  exact⟨zEh,zUd,by simp⟩)
 refine zAo tokW Tryz.call161 Tryz.func161 rfl (fun xs r h=>by obtain⟨n,_,_,_,_,rfl,_⟩:=h; show 1<=9; decide) 9 rfl ?_;rintro xs r w0 G0 ⟨n,⟨n1A,n1B,n1D,n1C⟩,y0,y1,h,rfl,rfl⟩ _;rw[zHV]at h;refine zYc ?_;refine zAa ?_;refine zYc ?_;obtain⟨y2,hy2,h⟩:=zAc h;refine⟨_,⟨_,_,_,hy2,rfl,rfl⟩,?_⟩
 refine zAg rfl h (fun hb h=>?_) (fun hb h=>?_)
 ·refine zYc ?_;refine zAd ?_;obtain⟨hj1,hk1⟩:=pij h;subst hj1 hk1;exact fin0 rfl rfl
 ·refine zAe ?_;refine zYc ?_;obtain⟨y3,hy3,h⟩:=zAc h;refine⟨_,⟨_,_,_,_,hy3,rfl,rfl⟩,?_⟩
  refine zAd ?_;obtain⟨hj1,hk1⟩:=pij h;subst hj1 hk1;exact fin0 rfl rfl
def zO4 (n:Nat) (xs:List AV) (r:Ret):Prop:=∃ (a0:List Int) (a1:List Int) (y0:Int),zEv n a0 a1=some y0/\xs=[.s (.sl 1 ((List.map (irow .i64)) a0)),.s (.sl 1 ((List.map (irow .i64)) a1))]/\r = .val (.s (.int .i64 y0))
def zJM:zAp:=zAn fun xs r=>∃ n,zO4 n xs r
theorem zNU:PSound Tryz.prog 162 zJM:=by
 have gok:=@gok0 Tryz.prog;refine zAo tokW Tryz.call162 Tryz.func162 rfl (fun xs r h=>by obtain⟨n,_,_,_,_,rfl,_⟩:=h; show 2<=48; decide) 48 rfl ?_;rintro xs r w0 G0 ⟨n,a1,b2,y0,h,rfl,rfl⟩ _;rw[zEv]at h;refine zYc ?_;refine zAa ?_;refine zYc ?_;show Tri ..;obtain⟨fl,hl,ho1⟩:=zAc h;refine zBO (fl:=fl) (fun z=>match z with | _=>⟨ofL [(0,.s (.sl 1 ((List.map (irow .i64)) a1))),(1,.s (.sl 1 ((List.map (irow .i64)) b2)))],fun _=>none,0⟩) ?_ (fun z σ' hz hle=>?_)
 ·refine zAj (zAt (X:=Nat×Int) (fun y=>match y with | (k,i3)=>⟨ofL [(0,.s (.sl 1 ((List.map (irow .i64)) a1))),(1,.s (.sl 1 ((List.map (irow .i64)) b2))),(5,.s (.int .i64 i3))],fun _=>none,0⟩) (fun y=>zBS a1 b2 y.1 y.2=some fl) (fun y=>y.1) (n,0) hl ?_ ?_)
  ·exact(Le.forget _ ⟨rfl,rfl,rfl,trivial⟩)
  ·rintro⟨k,i3⟩ h;cases k with
   | zero=>cases h
   | succ k =>
    replace h:zBS a1 b2 (k+1) i3=some fl:=h;rw[zBS]at h;refine zAa ?_;refine zAa ?_;obtain⟨x4,hj,h⟩:=zAc h;refine zAk ⟨ofL [(0,.s (.sl 1 ((List.map (irow .i64)) a1))),(1,.s (.sl 1 ((List.map (irow .i64)) b2))),(5,.s (.int .i64 i3)),(15,.s (.bool x4))],fun _=>none,0⟩ ?_ (fun σ' hle=>?_)
    ·replace h:=hj;refine zAb [] [8,10,13] rfl ?_;intro n5 hn5;obtain rfl:(a1.length:Int)=n5:=(hn5.trans (congrArg (fun m:Nat=>(m:Int)) (rlen (fun _=>rfl) a1))).symm;intro b hb;cases b with
     | true =>
      replace h:=zAv hb.symm h;intro n6 hn6;obtain rfl:(b2.length:Int)=n6:=(hn6.trans (congrArg (fun m:Nat=>(m:Int)) (rlen (fun _=>rfl) b2))).symm;cases h;exact(Le.forget _ ⟨rfl,rfl,rfl,rfl,trivial⟩)
     | false =>
      replace h:=zAu hb.symm h;cases h;exact(Le.forget _ ⟨rfl,rfl,rfl,rfl,trivial⟩)
    ·refine zAi hle ?_;refine zAg rfl h (fun hb h=>?_) (fun hb h=>?_)
     ·refine zAe ?_;refine zAa ?_;refine zAj ?_;refine zAa ?_;refine zAa ?_;refine zAO [] [20,24] [] rfl (by decide +kernel) ?_;obtain⟨e7,he7,h⟩:=zAc h;refine And.intro (zAr (fun _=>rfl) he7).1 ?_;intro r8 hr8;obtain rfl:[.int .i64 e7]=r8:=(hr8.trans (zAr (fun _=>rfl) he7).2.1).symm;obtain⟨e9,he9,h⟩:=zAc h;refine And.intro (zAr (fun _=>rfl) he9).1 ?_;intro r10 hr10;obtain rfl:[.int .i64 e9]=r10:=(hr10.trans (zAr (fun _=>rfl) he9).2.1).symm;refine zAg rfl h (fun hb h=>?_) (fun hb h=>?_)
      ·refine zYc ?_;refine zAd ?_;cases h;replace h:some _=some _:=ho1;have hy:=osi h;subst hy;exact fin0 rfl rfl
      ·refine zAe ?_;refine zAa ?_;refine zAO [] [29,33] [] rfl (by decide +kernel) ?_;obtain⟨e11,he11,h⟩:=zAc h;refine And.intro (zAr (fun _=>rfl) he11).1 ?_;intro r12 hr12;obtain rfl:[.int .i64 e11]=r12:=(hr12.trans (zAr (fun _=>rfl) he11).2.1).symm;obtain⟨e13,he13,h⟩:=zAc h;refine And.intro (zAr (fun _=>rfl) he13).1 ?_;intro r14 hr14;obtain rfl:[.int .i64 e13]=r14:=(hr14.trans (zAr (fun _=>rfl) he13).2.1).symm;refine zAg rfl h (fun hb h=>?_) (fun hb h=>?_)
       ·refine zYc ?_;refine zAd ?_;cases h;replace h:some _=some _:=ho1;have hy:=osi h;subst hy;exact fin0 rfl rfl
       ·refine zAe ?_;refine zYb ?_;refine⟨(k,IntKind.i64.wrap (i3+1)),h,(Le.forget _ ⟨rfl,rfl,rfl,trivial⟩),Nat.lt_succ_self k⟩
     ·refine zAx ?_;cases h;exact⟨_,rfl,(Le.forget _ ⟨rfl,rfl,trivial⟩)⟩
 ·subst hz;obtain _:=z;replace h:=ho1;refine zAi hle ?_;refine zAa ?_;refine zAj ?_;refine zXw [] [38,40] rfl ?_;intro n15 hn15;obtain rfl:(a1.length:Int)=n15:=(hn15.trans (congrArg (fun m:Nat=>(m:Int)) (rlen (fun _=>rfl) a1))).symm;intro n16 hn16;obtain rfl:(b2.length:Int)=n16:=(hn16.trans (congrArg (fun m:Nat=>(m:Int)) (rlen (fun _=>rfl) b2))).symm;refine zAg rfl h (fun hb h=>?_) (fun hb h=>?_)
  ·refine zYc ?_;refine zAd ?_;have hy:=osi h;subst hy;exact fin0 rfl rfl
  ·refine zXw [] [44,46] rfl ?_;intro n17 hn17;obtain rfl:(a1.length:Int)=n17:=(hn17.trans (congrArg (fun m:Nat=>(m:Int)) (rlen (fun _=>rfl) a1))).symm;intro n18 hn18;obtain rfl:(b2.length:Int)=n18:=(hn18.trans (congrArg (fun m:Nat=>(m:Int)) (rlen (fun _=>rfl) b2))).symm;refine zAg rfl h (fun hb h=>?_) (fun hb h=>?_)
   ·refine zYc ?_;refine zAd ?_;have hy:=osi h;subst hy;exact fin0 rfl rfl
   ·refine zAe ?_;refine zYc ?_;refine zAd ?_;have hy:=osi h;subst hy;exact fin0 rfl rfl
def zSd (n:Nat) (xs:List AV) (r:Ret):Prop:=∃ (a0:Nd) (a1:List Int) (y0:Int) (y1:Int),zEK n a0 a1=some (y0,y1)/\xs=[.agg ((Nd.enc a0).map .s),.s (.sl 1 ((List.map (irow .i64)) a1))]/\r = .val (.tup [.s (.int .i64 y0),.s (.int .i64 y1)])
def zL7:zAp:=zAn fun xs r=>∃ n,zSd n xs r
theorem zRt:PSound Tryz.prog 119 zL7:=by
 have gok:∀ f s,look? f [(161,zQB),(162,zJM)]=some s->PSound Tryz.prog f s:=zAl (by
  simp only[List.forall_mem_cons]
  exact⟨zUc,zNU,by simp⟩)
 refine zAo tokW Tryz.call119 Tryz.func119 rfl (fun xs r h=>by obtain⟨n,_,_,_,_,_,rfl,_⟩:=h; show 2<=31; decide) 31 rfl ?_;rintro xs r w0 G0 ⟨n,⟨n1A,n1B,n1D,n1C⟩,pos2,y0,y1,h,rfl,rfl⟩ _;rw[zEK]at h;refine zYc ?_;refine zYc ?_;obtain⟨⟨y3,y4⟩,hy3,h⟩:=zAc h;refine⟨_,⟨_,_,_,_,hy3,rfl,rfl⟩,?_⟩
 refine zAa ?_;refine zYc ?_;refine zAg rfl h (fun hb h=>?_) (fun hb h=>?_)
 ·refine zYc ?_;refine zAd ?_;obtain⟨hj1,hk1⟩:=pij h;subst hj1 hk1;exact fin0 rfl rfl
 ·refine zAe ?_;refine zAa ?_;refine zYc ?_;show Tri ..;obtain⟨fl,hl,ho1⟩:=zAc h;refine zBO (fl:=fl) (fun z=>match z with | _=>⟨ofL [],fun _=>none,0⟩) ?_ (fun z σ' hz hle=>?_)
  ·refine zAj (zAt (X:=Nat×Int) (fun y=>match y with | (k,i5)=>⟨ofL [(1,.s (.sl 1 ((List.map (irow .i64)) pos2))),(6,.s (.sl 1 ((List.map zBc) y3))),(8,.s (.int .i64 i5))],fun _=>none,0⟩) (fun y=>zCy n pos2 y3 y.1 y.2=some fl) (fun y=>y.1) (n,0) hl ?_ ?_)
   ·exact(Le.forget _ ⟨rfl,rfl,rfl,trivial⟩)
   ·rintro⟨k,i5⟩ h;cases k with
    | zero=>cases h
    | succ k =>
     replace h:zCy n pos2 y3 (k+1) i5=some fl:=h;rw[zCy]at h;refine zAa ?_;refine zXw [] [19] rfl ?_;intro n6 hn6;obtain rfl:(y3.length:Int)=n6:=(hn6.trans (congrArg (fun m:Nat=>(m:Int)) (rlen (fun _=>rfl) y3))).symm;refine zAg rfl h (fun hb h=>?_) (fun hb h=>?_)
     ·refine zAe ?_;refine zAa ?_;refine zAj ?_;refine zXw [] [25] rfl ?_;obtain⟨e7,he7,h⟩:=zAc h;refine And.intro (zAr (fun _=>rfl) he7).1 ?_;intro r8 hr8;obtain rfl:[.sl 1 ((List.map (irow .i64)) e7)]=r8:=(hr8.trans (zAr (fun _=>rfl) he7).2.1).symm;obtain⟨y9,hy9,h⟩:=zAc h;refine⟨_,⟨_,_,_,_,hy9,rfl,rfl⟩,?_⟩
      refine zAg rfl h (fun hb h=>?_) (fun hb h=>?_)
      ·refine zYc ?_;refine zAd ?_;cases h;replace h:some _=some _:=ho1;obtain⟨hj1,hk1⟩:=pij h;subst hj1 hk1;exact fin0 rfl rfl
      ·refine zAe ?_;refine zYb ?_;refine⟨(k,IntKind.i64.wrap (i5+1)),h,(Le.forget _ ⟨rfl,rfl,rfl,trivial⟩),Nat.lt_succ_self k⟩
     ·refine zAx ?_;cases h;exact⟨_,rfl,(Le.forget _ trivial)⟩
  ·subst hz;obtain _:=z;replace h:=ho1;refine zAi hle ?_;refine zYc ?_;refine zAd ?_;obtain⟨hj1,hk1⟩:=pij h;subst hj1 hk1;exact fin0 rfl rfl
def zSe (n:Nat) (xs:List AV) (r:Ret):Prop:=∃ (a0:Nd) (a1:List Int) (y0:Bool),zD4 n a0 a1=some y0/\xs=[.agg ((Nd.enc a0).map .s),.s (.sl 1 ((List.map (irow .i64)) a1))]/\r = .val (.s (.bool y0))
def zL8:zAp:=zAn fun xs r=>∃ n,zSe n xs r
theorem zRu:PSound Tryz.prog 80 zL8:=by
 have gok:∀ f s,look? f [(119,zL7)]=some s->PSound Tryz.prog f s:=zAl (by
  simp only[List.forall_mem_cons]
  exact⟨zRt,by simp⟩)
 refine zAo tokW Tryz.call80 Tryz.func80 rfl (fun xs r h=>by obtain⟨n,_,_,_,_,rfl,_⟩:=h; show 2<=15; decide) 15 rfl ?_;rintro xs r w0 G0 ⟨n,⟨n1A,n1B,n1D,n1C⟩,pos2,y0,h,rfl,rfl⟩ _;rw[zD4]at h;refine zYc ?_;refine zYc ?_;obtain⟨⟨y3,y4⟩,hy3,h⟩:=zAc h;refine⟨_,⟨_,_,_,_,_,hy3,rfl,rfl⟩,?_⟩
 refine zYc ?_;refine zAd ?_;have hy:=osi h;subst hy;exact fin0 rfl rfl
def zQw (n:Nat) (xs:List AV) (r:Ret):Prop:=∃ (a0:Nd) (a1:zCu) (y0:Bool),zDC n a0 a1=some y0/\xs=[.agg ((Nd.enc a0).map .s),.agg ((zBC a1).map .s)]/\r = .val (.s (.bool y0))
def zK2:zAp:=zAn fun xs r=>∃ n,zQw n xs r
theorem zPJ:PSound Tryz.prog 37 zK2:=by
 have gok:∀ f s,look? f [(80,zL8)]=some s->PSound Tryz.prog f s:=zAl (by
  simp only[List.forall_mem_cons]
  exact⟨zRu,by simp⟩)
 refine zAo tokW Tryz.call37 Tryz.func37 rfl (fun xs r h=>by obtain⟨n,_,_,_,_,rfl,_⟩:=h; show 2<=21; decide) 21 rfl ?_;rintro xs r w0 G0 ⟨n,⟨n1A,n1B,n1D,n1C⟩,⟨c2Ai,c2Ah⟩,y0,h,rfl,rfl⟩ _;rw[zDC]at h;refine zYc ?_;refine zAa ?_;obtain⟨x3,hj,h⟩:=zAc h;refine zAk ⟨ofL [(4,.s (.bool x3))],fun _=>none,0⟩ ?_ (fun σ' hle=>?_)
 ·replace h:=hj;refine zAb [] [9,12,14] rfl ?_;obtain⟨y4,hy4,h⟩:=zAc h;refine⟨_,⟨_,_,_,_,hy4,rfl,rfl⟩,?_⟩
  intro b hb;cases b with
  | true =>
   replace h:=zAv hb.symm h;intro n5 hn5;obtain rfl:(c2Ah.length:Int)=n5:=(hn5.trans (congrArg (fun m:Nat=>(m:Int)) (rlen (fun _=>rfl) c2Ah))).symm;intro b hb;cases b with
   | true =>
    replace h:=zAv hb.symm h;cases h;exact(Le.forget _ ⟨rfl,trivial⟩)
   | false =>
    replace h:=zAu hb.symm h;obtain⟨y6,hy6,h⟩:=zAc h;refine⟨_,⟨_,_,_,_,hy6,rfl,rfl⟩,?_⟩
    cases h;exact(Le.forget _ ⟨rfl,trivial⟩)
  | false =>
   replace h:=zAu hb.symm h;cases h;exact(Le.forget _ ⟨rfl,trivial⟩)
 ·refine zAi hle ?_;refine zAd ?_;have hy:=osi h;subst hy;exact fin0 rfl rfl
def zSg (n:Nat) (xs:List AV) (r:Ret):Prop:=∃ (a0:(List UInt8×Nd×List zRc×Int)) (y0:Bool),zDB n a0=some y0/\xs=[.agg ((zAq a0).map .s)]/\r = .val (.s (.bool y0))
def zI7:zAp:=zAn fun xs r=>∃ n,zSg n xs r
theorem zLe:PSound Tryz.prog 13 zI7:=by
 have gok:∀ f s,look? f [(34,zFM),(35,zD3),(36,zIR),(37,zK2)]=some s->PSound Tryz.prog f s:=zAl (by
  simp only[List.forall_mem_cons]
  exact⟨zHt,zEh,zMR,zPJ,by simp⟩)
 refine zAo tokW Tryz.call13 Tryz.func13 rfl (fun xs r h=>by obtain⟨n,_,_,_,rfl,_⟩:=h; show 1<=83; decide) 83 rfl ?_;rintro xs r w0 G0 ⟨n,⟨a1V,⟨a1Q,a1R,a1S,a1T⟩,a1H,a1W⟩,y0,h,rfl,rfl⟩ _;rw[zDB]at h;refine zYc ?_;refine zAa ?_;refine zAa ?_;obtain⟨x2,hj,h⟩:=zAc h
 refine zAk ⟨ofL [(1,.s (.pt [.str a1V,.int .i64 a1Q,.str a1R,.int .i64 a1S,.sl 4 (Nd.encs a1T),.sl 5 ((List.map zAm) a1H),.int .i64 a1W])),(43,.s (.bool x2))],fun _=>none,0⟩ ?_ (fun σ' hle=>?_)
 ·replace h:=hj;refine zAb [] [13,19,25,28,31,36,41] rfl ?_;intro b hb;cases b with
  | true =>
   replace h:=zAv hb.symm h;intro b hb;subst hb;intro b hb;subst hb;intro b hb;subst hb;intro b hb;subst hb;cases h;exact(Le.forget _ ⟨rfl,rfl,trivial⟩)
  | false =>
   replace h:=zAu hb.symm h;obtain⟨y3,hy3,h⟩:=zAc h;refine⟨_,⟨_,_,_,hy3,rfl,rfl⟩,?_⟩
   intro b hb;cases b with
   | true =>
    replace h:=zAv hb.symm h;intro b hb;subst hb;intro b hb;subst hb;intro b hb;subst hb;cases h;exact(Le.forget _ ⟨rfl,rfl,trivial⟩)
   | false =>
    replace h:=zAu hb.symm h;obtain⟨y4,hy4,h⟩:=zAc h;refine⟨_,⟨_,_,_,hy4,rfl,rfl⟩,?_⟩
    intro b hb;cases b with
    | true =>
     replace h:=zAv hb.symm h;intro b hb;subst hb;intro b hb;subst hb;cases h;exact(Le.forget _ ⟨rfl,rfl,trivial⟩)
    | false =>
     replace h:=zAu hb.symm h;intro n5 hn5;obtain rfl:(a1H.length:Int)=n5:=(hn5.trans (congrArg (fun m:Nat=>(m:Int)) (rlen (fun _=>rfl) a1H))).symm;intro b hb;cases b with
     | true =>
      replace h:=zAv hb.symm h;intro b hb;subst hb;cases h;exact(Le.forget _ ⟨rfl,rfl,trivial⟩)
     | false =>
      replace h:=zAu hb.symm h;intro b hb;cases b with
      | true =>
       replace h:=zAv hb.symm h;cases h;exact(Le.forget _ ⟨rfl,rfl,trivial⟩)
      | false =>
       replace h:=zAu hb.symm h;intro n6 hn6;obtain rfl:(a1H.length:Int)=n6:=(hn6.trans (congrArg (fun m:Nat=>(m:Int)) (rlen (fun _=>rfl) a1H))).symm;cases h;exact(Le.forget _ ⟨rfl,rfl,trivial⟩)
 ·refine zAi hle ?_;refine zAg rfl h (fun hb h=>?_) (fun hb h=>?_)
  ·refine zYc ?_;refine zAd ?_;have hy:=osi h;subst hy;exact fin0 rfl rfl
  ·refine zAe ?_;refine zXw [3] [] rfl ?_;refine zAa ?_;refine zYc ?_;show Tri ..;obtain⟨fl,hl,ho1⟩:=zAc h;refine zBO (fl:=fl) (fun z=>match z with | _=>⟨ofL [],fun _=>none,0⟩) ?_ (fun z σ' hz hle=>?_)
   ·refine zAj (zAt (X:=Nat×Int×(List UInt8)×Int×(List Nd)×Int) (fun y=>match y with | (k,x7,x8,x9,x10,x11)=>⟨ofL [(1,.s (.pt [.str a1V,.int .i64 a1Q,.str a1R,.int .i64 a1S,.sl 4 (Nd.encs a1T),.sl 5 ((List.map zAm) a1H),.int .i64 a1W])),(3,.op 0 0),(4,.s (.int .i64 x11))],ofH [(0,.box 24 [.s (.int .i64 x7),.s (.str x8),.s (.int .i64 x9),.s (.sl 4 (Nd.encs x10))])],1⟩) (fun y=>zCz n a1H y.1 y.2.1 y.2.2.1 y.2.2.2.1 y.2.2.2.2.1 y.2.2.2.2.2=some fl) (fun y=>y.1) (n,a1Q,a1R,a1S,a1T,0) hl ?_ ?_)
    ·exact(Le.rnm [(0,0)] _ _ _ ⟨rfl,rfl,rfl,trivial⟩ ⟨rfl,⟨_,rfl,rfl⟩,trivial⟩)
    ·rintro⟨k,x7,x8,x9,x10,x11⟩ h;cases k with
     | zero=>cases h
     | succ k =>
      replace h:zCz n a1H (k+1) x7 x8 x9 x10 x11=some fl:=h;rw[zCz]at h;refine zAa ?_;refine zXw [] [49] rfl ?_;intro n12 hn12;obtain rfl:(a1H.length:Int)=n12:=(hn12.trans (congrArg (fun m:Nat=>(m:Int)) (rlen (fun _=>rfl) a1H))).symm;refine zAg rfl h (fun hb h=>?_) (fun hb h=>?_)
      ·refine zAe ?_;refine zAa ?_;refine zAj ?_;refine zXw [5] [56] rfl ?_;obtain⟨⟨e13P,⟨e13Ab,e13Ac⟩,⟨e13Ad,e13Ae⟩⟩,he13,h⟩:=zAc h;refine And.intro (zAr (fun _=>rfl) he13).1 ?_;intro r14 hr14;obtain rfl:[.sl 8 ((List.map zAs) e13P),.sl 1 ((List.map (irow .i64)) e13Ab),.sl 1 ((List.map (irow .i64)) e13Ac),.sl 1 ((List.map (irow .i64)) e13Ad),.sl 1 ((List.map (irow .i64)) e13Ae)]=r14:=(hr14.trans (zAr (fun _=>rfl) he13).2.1).symm;show Tri ..
       refine zAi (Le.giveBox 1 [.sl 8 ((List.map zAs) e13P),.sl 1 ((List.map (irow .i64)) e13Ab),.sl 1 ((List.map (irow .i64)) e13Ac),.sl 1 ((List.map (irow .i64)) e13Ad),.sl 1 ((List.map (irow .i64)) e13Ae)] rfl rfl) ?_;refine zXw [6] [] rfl ?_;obtain⟨⟨⟨y15A,y15B,y15D,y15C⟩,y16,y17⟩,hy15,h⟩:=zAc h;refine⟨_,⟨_,_,_,_,_,_,hy15,rfl,rfl⟩,?_⟩
       refine zAi (Le.giveBox 2 [.int .i64 y15A,.str y15B,.int .i64 y15D,.sl 4 (Nd.encs y15C)] rfl rfl) ?_;refine zAa ?_;refine zAa ?_;obtain⟨x18,hj,h⟩:=zAc h
       refine zAk ⟨ofL [(1,.s (.pt [.str a1V,.int .i64 a1Q,.str a1R,.int .i64 a1S,.sl 4 (Nd.encs a1T),.sl 5 ((List.map zAm) a1H),.int .i64 a1W])),(3,.op 0 0),(4,.s (.int .i64 x11)),(6,.s (.pt [.int .i64 y15A,.str y15B,.int .i64 y15D,.sl 4 (Nd.encs y15C)])),(81,.s (.bool x18))],ofH [(0,.box 24 [.s (.int .i64 x7),.s (.str x8),.s (.int .i64 x9),.s (.sl 4 (Nd.encs x10))])],1⟩ ?_ (fun σ' hle=>?_)
       ·replace h:=hj;refine zAb [] [68,75] rfl ?_;intro b hb;cases b with
        | true =>
         replace h:=zAv hb.symm h;intro b hb;subst hb;cases h;exact(Le.rnm [(0,0)] _ _ _ ⟨rfl,rfl,rfl,rfl,rfl,trivial⟩ ⟨rfl,⟨_,rfl,rfl⟩,trivial⟩)
        | false =>
         replace h:=zAu hb.symm h;obtain⟨y19,hy19,h⟩:=zAc h;refine⟨_,⟨_,_,_,_,hy19,rfl,rfl⟩,?_⟩
         intro b hb;cases b with
         | true =>
          replace h:=zAv hb.symm h;cases h;exact(Le.rnm [(0,0)] _ _ _ ⟨rfl,rfl,rfl,rfl,rfl,trivial⟩ ⟨rfl,⟨_,rfl,rfl⟩,trivial⟩)
         | false =>
          replace h:=zAu hb.symm h;obtain⟨y20,hy20,h⟩:=zAc h;refine⟨_,⟨_,_,_,_,hy20,rfl,rfl⟩,?_⟩
          cases h;exact(Le.rnm [(0,0)] _ _ _ ⟨rfl,rfl,rfl,rfl,rfl,trivial⟩ ⟨rfl,⟨_,rfl,rfl⟩,trivial⟩)
       ·refine zAi hle ?_;refine zAg rfl h (fun hb h=>?_) (fun hb h=>?_)
        ·refine zYc ?_;refine zAd ?_;cases h;replace h:some _=some _:=ho1;have hy:=osi h;subst hy;exact fin0 rfl rfl
        ·refine zAe ?_;refine zYb ?_;refine zYb ?_;refine⟨(k,y15A,y15B,y15D,y15C,IntKind.i64.wrap (x11+1)),h,(Le.rnm [(0,0)] _ _ _ ⟨rfl,rfl,rfl,trivial⟩ ⟨rfl,⟨_,rfl,rfl⟩,trivial⟩),Nat.lt_succ_self k⟩
      ·refine zAx ?_;cases h;exact⟨_,rfl,(Le.rnm [] _ [] 0 trivial trivial)⟩
   ·subst hz;obtain _:=z;replace h:=ho1;refine zAi hle ?_;refine zYc ?_;refine zAd ?_;have hy:=osi h;subst hy;exact fin0 rfl rfl
def zQx (xs:List AV) (r:Ret):Prop:=∃ (a0:Int) (y0:CV),zBb a0=some y0/\xs=[.s (.int .i64 a0)]/\r = .val (.agg ((CV.enc y0).map .s))
def zEY:zAp:=zAn fun xs r=>zQx xs r
theorem zFt:PSound Tryz.prog 70 zEY:=by
 have gok:=@gok0 Tryz.prog;refine zAo tokW Tryz.call70 Tryz.func70 rfl (fun xs r h=>by obtain⟨_,_,_,rfl,_⟩:=h; show 1<=5; decide) 5 rfl ?_;rintro xs r w0 G0 ⟨n1,y0,h,rfl,rfl⟩ _;rw[zBb]at h;refine zXw [2] [] rfl ?_;refine zYc ?_;refine zAd ?_;have hy:=osi h;subst hy;exact fin0 rfl rfl
def zTN (xs:List AV) (r:Ret):Prop:=∃ (a0:List CV) (y0:CV),zBm a0=some y0/\xs=[.s (.sl 4 (CV.encs a0))]/\r = .val (.agg ((CV.enc y0).map .s))
def zFy:zAp:=zAn fun xs r=>zTN xs r
theorem zF4:PSound Tryz.prog 67 zFy:=by
 have gok:=@gok0 Tryz.prog;refine zAo tokW Tryz.call67 Tryz.func67 rfl (fun xs r h=>by obtain⟨_,_,_,rfl,_⟩:=h; show 1<=5; decide) 5 rfl ?_;rintro xs r w0 G0 ⟨l1,y0,h,rfl,rfl⟩ _;rw[zBm]at h;refine zXw [2] [] rfl ?_;refine zYc ?_;refine zAd ?_;have hy:=osi h;subst hy;exact fin0 rfl rfl
def zO5 (n:Nat) (xs:List AV) (r:Ret):Prop:=∃ (a0:List Int) (y0:CV),zCW n a0=some y0/\xs=[.s (.sl 1 ((List.map (irow .i64)) a0))]/\r = .val (.agg ((CV.enc y0).map .s))
def zHa:zAp:=zAn fun xs r=>∃ n,zO5 n xs r
theorem zHz {α:Type}{a b:α} (h:a=b:=by simp[List.map_append,List.map_take,List.map_drop,irow,brow,zEm,List.map_cons,List.map_nil,zDV,CV.encs_eq,CV.enc,Nd.encs_eq,Nd.enc,zBi,zAJ,zBL,zAF,zAC,zAs,zCg,zBC,zAm,zA2,zAq,zBc]):a=b :=
 h
theorem zIZ:PSound Tryz.prog 106 zHa:=by
 have gok:∀ f s,look? f [(70,zEY),(67,zFy)]=some s->PSound Tryz.prog f s:=zAl (by
  simp only[List.forall_mem_cons]
  exact⟨zFt,zF4,by simp⟩)
 refine zAo tokW Tryz.call106 Tryz.func106 rfl (fun xs r h=>by obtain⟨n,_,_,_,rfl,_⟩:=h; show 1<=21; decide) 21 rfl ?_;rintro xs r w0 G0 ⟨n,l1,y0,h,rfl,rfl⟩ _;rw[zCW]at h;refine zXw [2] [] rfl ?_;refine zXw [3] [] rfl ?_;show Tri ..
 refine zAi (Le.rnm [(0,0),(1,1)] [(0,.s (.sl 1 ((List.map (irow .i64)) l1))),(2,.op 0 0),(3,.orow 1)] [(0,.box 75 [.s (.int .i64 0),.s (.int .i64 0),.s (.str []),.nl 4]),(1,.row 75 4 (CV.encs []))] 2 ⟨rfl,rfl,rfl,trivial⟩ ⟨rfl,⟨_,rfl,rfl⟩,rfl,⟨_,rfl,congrArg (Ob.row 75 4) zHz⟩,trivial⟩) ?_;refine zAa ?_
 refine zYc ?_;show Tri ..;obtain⟨l6,hl,h⟩:=zAc h;refine zAk ⟨ofL [(2,.op 0 0),(3,.orow 1)],ofH [(0,.box 75 [.s (.int .i64 0),.s (.int .i64 0),.s (.str []),.nl 4]),(1,.row 75 4 (CV.encs l6))],2⟩ ?_ (fun σ' hle=>?_)
 ·refine zAj (zAt (X:=Nat×Int×(List CV)) (fun y=>match y with | (k,i4,l5)=>⟨ofL [(0,.s (.sl 1 ((List.map (irow .i64)) l1))),(2,.op 0 0),(3,.orow 1),(4,.s (.int .i64 i4))],ofH [(0,.box 75 [.s (.int .i64 0),.s (.int .i64 0),.s (.str []),.nl 4]),(1,.row 75 4 (CV.encs l5))],2⟩) (fun y=>zBu l1 y.1 y.2.1 y.2.2=some l6) (fun y=>y.1) (n,0,[]) hl ?_ ?_)
  ·exact(Le.rnm [(0,0),(1,1)] _ _ _ ⟨rfl,rfl,rfl,rfl,trivial⟩ ⟨rfl,⟨_,rfl,rfl⟩,rfl,⟨_,rfl,rfl⟩,trivial⟩)
  ·rintro⟨k,i4,l5⟩ h;cases k with
   | zero=>cases h
   | succ k =>
    replace h:zBu l1 (k+1) i4 l5=some l6:=h;rw[zBu]at h;refine zAa ?_;refine zXw [] [7] rfl ?_;intro n7 hn7;obtain rfl:(l1.length:Int)=n7:=(hn7.trans (congrArg (fun m:Nat=>(m:Int)) (rlen (fun _=>rfl) l1))).symm;refine zAg rfl h (fun hb h=>?_) (fun hb h=>?_)
    ·refine zAe ?_;refine zAa ?_;refine zAj ?_;refine zAb [18] [14,17] rfl ?_;obtain⟨e8,he8,h⟩:=zAc h;refine And.intro (zAr (fun _=>rfl) he8).1 ?_;intro r9 hr9;obtain rfl:[.int .i64 e8]=r9:=(hr9.trans (zAr (fun _=>rfl) he8).2.1).symm;obtain⟨⟨y10A,y10F,y10B,y10E⟩,hy10,h⟩:=zAc h;refine⟨_,⟨_,_,hy10,rfl,rfl⟩,?_⟩
     intro r11 hr11;obtain rfl:CV.encs [CV.mk y10A y10F y10B y10E]=r11:=(hr11.trans zHz).symm;obtain⟨hq,h⟩:=zAy h
     refine And.intro (show((CV.encs l5).length+(CV.encs [CV.mk y10A y10F y10B y10E]).length) * 56<=140737488355328/\(CV.encs l5).length+(CV.encs [CV.mk y10A y10F y10B y10E]).length<=9223372036854775807 from by simp only[List.length_append,List.length_cons,List.length_nil,List.length_map,rlen CV.encs_eq]at hq ⊢; omega) ?_;show Tri ..
     refine zAi (Le.rnm [(0,0),(2,1)] [(0,.s (.sl 1 ((List.map (irow .i64)) l1))),(2,.op 0 0),(3,.orow 1),(4,.s (.int .i64 i4))] [(0,.box 75 [.s (.int .i64 0),.s (.int .i64 0),.s (.str []),.nl 4]),(1,.row 75 4 (CV.encs (l5++[CV.mk y10A y10F y10B y10E])))] 2 ⟨rfl,rfl,rfl,rfl,trivial⟩ ⟨rfl,⟨_,rfl,rfl⟩,rfl,⟨_,rfl,congrArg (Ob.row 75 4) zHz⟩,trivial⟩) ?_
     refine zYb ?_;refine⟨(k,IntKind.i64.wrap (i4+1),l5++[CV.mk y10A y10F y10B y10E]),h,(Le.rnm [(0,0),(1,1)] _ _ _ ⟨rfl,rfl,rfl,rfl,trivial⟩ ⟨rfl,⟨_,rfl,rfl⟩,rfl,⟨_,rfl,rfl⟩,trivial⟩),Nat.lt_succ_self k⟩
    ·refine zAx ?_;cases h;exact(Le.rnm [(0,0),(1,1)] _ _ _ ⟨rfl,rfl,trivial⟩ ⟨rfl,⟨_,rfl,rfl⟩,rfl,⟨_,rfl,rfl⟩,trivial⟩)
 ·refine zAi hle ?_;refine zYc ?_;obtain⟨⟨y12A,y12F,y12B,y12E⟩,hy12,h⟩:=zAc h;refine⟨_,⟨_,_,hy12,rfl,rfl⟩,?_⟩
  refine zAd ?_;have hy:=osi h;subst hy;exact fin0 rfl rfl
def zTO (xs:List AV) (r:Ret):Prop:=∃ (a0:List UInt8) (y0:CV),zDM a0=some y0/\xs=[.s (.str a0)]/\r = .val (.agg ((CV.enc y0).map .s))
def zIk:zAp:=zAn fun xs r=>zTO xs r
theorem zJn:PSound Tryz.prog 68 zIk:=by
 have gok:=@gok0 Tryz.prog;refine zAo tokW Tryz.call68 Tryz.func68 rfl (fun xs r h=>by obtain⟨_,_,_,rfl,_⟩:=h; show 1<=5; decide) 5 rfl ?_;rintro xs r w0 G0 ⟨s1,y0,h,rfl,rfl⟩ _;rw[zDM]at h;refine zXw [2] [] rfl ?_;refine zYc ?_;refine zAd ?_;have hy:=osi h;subst hy;exact fin0 rfl rfl
def zFx (n:Nat) (xs:List AV) (r:Ret):Prop:=∃ (a0:Nd) (y0:CV),zDb n a0=some y0/\xs=[.agg ((Nd.enc a0).map .s)]/\r = .val (.agg ((CV.enc y0).map .s))
def zEB (n:Nat) (xs:List AV) (r:Ret):Prop:=∃ (a0:List Nd) (y0:List CV),zD5 n a0=some y0/\xs=[.s (.sl 4 (Nd.encs a0))]/\r = .row 75 4 (CV.encs y0)
theorem zP3 (n:Nat) (ih_r56_tree:PSound Tryz.prog 69 (zAn (zFx n))) (ih_r56_trees:PSound Tryz.prog 107 (zAn (zEB n))):PSound Tryz.prog 69 (zAn (zFx (n+1))):=by
 have gok:∀ f s,look? f [(70,zEY),(68,zIk),(107,zAn (zEB n)),(67,zFy)]=some s->PSound Tryz.prog f s:=zAl (by
  simp only[List.forall_mem_cons]
  exact⟨zFt,zJn,ih_r56_trees,zF4,by simp⟩)
 refine zAo tokW Tryz.call69 Tryz.func69 rfl (fun xs r h=>by obtain⟨_,_,_,rfl,_⟩:=h; show 1<=20; decide) 20 rfl ?_;rintro xs r w0 G0 ⟨⟨n1A,n1B,n1D,n1C⟩,y0,h,rfl,rfl⟩ _;rw[zDb]at h;refine zXw [2] [] rfl ?_;refine zAa ?_;refine zIr [13] [] [9] [] rfl (by decide +kernel) ?_;obtain⟨⟨y2A,y2F,y2B,y2E⟩,hy2,h⟩:=zAc h;refine⟨_,⟨_,_,hy2,rfl,rfl⟩,?_⟩
 obtain⟨⟨y3A,y3F,y3B,y3E⟩,hy3,h⟩:=zAc h;refine⟨_,⟨_,_,hy3,rfl,rfl⟩,?_⟩
 obtain⟨⟨y4A,y4F,y4B,y4E⟩,hy4,h⟩:=zAc h;refine⟨_,⟨_,_,hy4,rfl,rfl⟩,?_⟩
 show Tri ..
 refine zAi (Le.rnm [(0,0),(1,1)] [(1,.s (.pt [.int .i64 n1A,.str n1B,.int .i64 n1D,.sl 4 (Nd.encs n1C)])),(2,.op 0 0),(3,.orow 1)] [(0,.box 75 [.s (.int .i64 0),.s (.int .i64 0),.s (.str []),.nl 4]),(1,.row 75 4 (CV.encs [CV.mk y2A y2F y2B y2E,CV.mk y3A y3F y3B y3E,CV.mk y4A y4F y4B y4E]))] 2 ⟨rfl,rfl,rfl,trivial⟩ ⟨rfl,⟨_,rfl,rfl⟩,rfl,⟨_,rfl,congrArg (Ob.row 75 4) zHz⟩,trivial⟩) ?_
 refine zXw [18] [] rfl ?_;obtain⟨y5,hy5,h⟩:=zAc h;refine⟨_,⟨_,_,hy5,rfl,rfl⟩,?_⟩
 obtain⟨hq,h⟩:=zAy h;refine And.intro (show((CV.encs [CV.mk y2A y2F y2B y2E,CV.mk y3A y3F y3B y3E,CV.mk y4A y4F y4B y4E]).length+(CV.encs y5).length) * 56<=140737488355328/\(CV.encs [CV.mk y2A y2F y2B y2E,CV.mk y3A y3F y3B y3E,CV.mk y4A y4F y4B y4E]).length+(CV.encs y5).length<=9223372036854775807 from by simp only[List.length_append,List.length_cons,List.length_nil,List.length_map,rlen CV.encs_eq]at hq ⊢; omega) ?_;obtain⟨⟨y6A,y6F,y6B,y6E⟩,hy6,h⟩:=zAc h
 refine⟨_,⟨_,_,hy6,(congrArg (fun r=>[AV.s (.sl 4 r)]) (show(CV.encs [CV.mk y2A y2F y2B y2E,CV.mk y3A y3F y3B y3E,CV.mk y4A y4F y4B y4E])++(CV.encs y5)=CV.encs ([CV.mk y2A y2F y2B y2E,CV.mk y3A y3F y3B y3E,CV.mk y4A y4F y4B y4E]++y5) from zHz)),rfl⟩,?_⟩
 refine zAd ?_;have hy:=osi h;subst hy;exact fin0 rfl rfl
theorem zN5 (n:Nat) (ih_r56_tree:PSound Tryz.prog 69 (zAn (zFx n))) (ih_r56_trees:PSound Tryz.prog 107 (zAn (zEB n))):PSound Tryz.prog 107 (zAn (zEB (n+1))):=by
 have gok:∀ f s,look? f [(69,zAn (zFx n))]=some s->PSound Tryz.prog f s:=zAl (by
  simp only[List.forall_mem_cons]
  exact⟨ih_r56_tree,by simp⟩)
 refine zAo tokW Tryz.call107 Tryz.func107 rfl (fun xs r h=>by obtain⟨_,_,_,rfl,_⟩:=h; show 1<=20; decide) 20 rfl ?_;rintro xs r w0 G0 ⟨l1,y0,h,rfl,rfl⟩ _;rw[zD5]at h;refine zXw [2] [] rfl ?_;refine zAi (Le.rnm [] [(0,.s (.sl 4 (Nd.encs l1)))] [] 0 ⟨rfl,trivial⟩ trivial) ?_;refine zXw [3] [] rfl ?_;show Tri ..
 refine zAi (Le.rnm [(0,0)] [(0,.s (.sl 4 (Nd.encs l1))),(3,.orow 0)] [(0,.row 75 4 (CV.encs []))] 1 ⟨rfl,rfl,trivial⟩ ⟨rfl,⟨_,rfl,congrArg (Ob.row 75 4) zHz⟩,trivial⟩) ?_;refine zAa ?_;refine zYc ?_;show Tri ..;obtain⟨l5,hl,h⟩:=zAc h
 refine zAk ⟨ofL [(3,.orow 0)],ofH [(0,.row 75 4 (CV.encs l5))],1⟩ ?_ (fun σ' hle=>?_)
 ·refine zAj (zAt (X:=Nat×Int×(List CV)) (fun y=>match y with | (k,i3,l4)=>⟨ofL [(0,.s (.sl 4 (Nd.encs l1))),(3,.orow 0),(4,.s (.int .i64 i3))],ofH [(0,.row 75 4 (CV.encs l4))],1⟩) (fun y=>zB1 (zDb n) l1 y.1 y.2.1 y.2.2=some l5) (fun y=>y.1) (n,0,[]) hl ?_ ?_)
  ·exact(Le.rnm [(0,0)] _ _ _ ⟨rfl,rfl,rfl,trivial⟩ ⟨rfl,⟨_,rfl,rfl⟩,trivial⟩)
  ·rintro⟨k,i3,l4⟩ h;cases k with
   | zero=>cases h
   | succ k =>
    replace h:zB1 (zDb n) l1 (k+1) i3 l4=some l5:=h;rw[zB1]at h;refine zAa ?_;refine zXw [] [7] rfl ?_;intro n6 hn6;obtain rfl:(l1.length:Int)=n6:=(hn6.trans (congrArg (fun m:Nat=>(m:Int)) (rlen Nd.encs_eq l1))).symm;refine zAg rfl h (fun hb h=>?_) (fun hb h=>?_)
    ·refine zAe ?_;refine zAa ?_;refine zAj ?_;refine zAb [18] [14,17] rfl ?_;obtain⟨⟨e7A,e7B,e7D,e7C⟩,he7,h⟩:=zAc h;refine And.intro (zAr Nd.encs_eq he7).1 ?_;intro r8 hr8;obtain rfl:[.int .i64 e7A,.str e7B,.int .i64 e7D,.sl 4 (Nd.encs e7C)]=r8:=(hr8.trans (zAr Nd.encs_eq he7).2.1).symm;obtain⟨⟨y9A,y9F,y9B,y9E⟩,hy9,h⟩:=zAc h;refine⟨_,⟨_,_,hy9,rfl,rfl⟩,?_⟩
     intro r10 hr10;obtain rfl:CV.encs [CV.mk y9A y9F y9B y9E]=r10:=(hr10.trans zHz).symm;obtain⟨hq,h⟩:=zAy h
     refine And.intro (show((CV.encs l4).length+(CV.encs [CV.mk y9A y9F y9B y9E]).length) * 56<=140737488355328/\(CV.encs l4).length+(CV.encs [CV.mk y9A y9F y9B y9E]).length<=9223372036854775807 from by simp only[List.length_append,List.length_cons,List.length_nil,List.length_map,rlen CV.encs_eq]at hq ⊢; omega) ?_;show Tri ..
     refine zAi (Le.rnm [(1,0)] [(0,.s (.sl 4 (Nd.encs l1))),(3,.orow 0),(4,.s (.int .i64 i3))] [(0,.row 75 4 (CV.encs (l4++[CV.mk y9A y9F y9B y9E])))] 1 ⟨rfl,rfl,rfl,trivial⟩ ⟨rfl,⟨_,rfl,congrArg (Ob.row 75 4) zHz⟩,trivial⟩) ?_;refine zYb ?_
     refine⟨(k,IntKind.i64.wrap (i3+1),l4++[CV.mk y9A y9F y9B y9E]),h,(Le.rnm [(0,0)] _ _ _ ⟨rfl,rfl,rfl,trivial⟩ ⟨rfl,⟨_,rfl,rfl⟩,trivial⟩),Nat.lt_succ_self k⟩
    ·refine zAx ?_;cases h;exact(Le.rnm [(0,0)] _ _ _ ⟨rfl,trivial⟩ ⟨rfl,⟨_,rfl,rfl⟩,trivial⟩)
 ·refine zAi hle ?_;refine zYc ?_;refine zAd ?_;have hy:=osi h;subst hy;unfold zCJ;exact⟨_,Le.refl _ _,0,rfl,rfl⟩
theorem zJP:∀ n,PSound Tryz.prog 69 (zAn (zFx n))/\PSound Tryz.prog 107 (zAn (zEB n)):=by
 intro n
 induction n with
 | zero =>
  refine⟨?_,?_⟩
  ·exact zA7 Tryz.call69 (fun xs r h=>by obtain⟨_,_,h,_⟩:=h; rw[zDb]at h; cases h)
  ·exact zA7 Tryz.call107 (fun xs r h=>by obtain⟨_,_,h,_⟩:=h; rw[zD5]at h; cases h)
 | succ n ih =>
  obtain⟨ih_r56_tree,ih_r56_trees⟩:=ih;exact⟨zP3 n ih_r56_tree ih_r56_trees,zN5 n ih_r56_tree ih_r56_trees⟩
def zOe:zAp:=zAn fun xs r=>∃ n,zFx n xs r
theorem zSL:PSound Tryz.prog 69 zOe:=zBr (fun n=>(zJP n).1)
def zMb:zAp:=zAn fun xs r=>∃ n,zEB n xs r
theorem zRx:PSound Tryz.prog 107 zMb:=zBr (fun n=>(zJP n).2)
def zSh (n:Nat) (xs:List AV) (r:Ret):Prop:=∃ (a0:zCu) (y0:CV),zEN n a0=some y0/\xs=[.agg ((zBC a0).map .s)]/\r = .val (.agg ((CV.enc y0).map .s))
def zMa:zAp:=zAn fun xs r=>∃ n,zSh n xs r
theorem zRw:PSound Tryz.prog 108 zMa:=by
 have gok:∀ f s,look? f [(106,zHa),(67,zFy)]=some s->PSound Tryz.prog f s:=zAl (by
  simp only[List.forall_mem_cons]
  exact⟨zIZ,zF4,by simp⟩)
 refine zAo tokW Tryz.call108 Tryz.func108 rfl (fun xs r h=>by obtain⟨n,_,_,_,rfl,_⟩:=h; show 1<=11; decide) 11 rfl ?_;rintro xs r w0 G0 ⟨n,⟨c1Ai,c1Ah⟩,y0,h,rfl,rfl⟩ _;rw[zEN]at h;refine zXw [2] [] rfl ?_;refine zAa ?_;refine zAO [] [9] [8] rfl (by decide +kernel) ?_;obtain⟨⟨y2A,y2F,y2B,y2E⟩,hy2,h⟩:=zAc h;refine⟨_,⟨_,_,_,hy2,rfl,rfl⟩,?_⟩
 obtain⟨⟨y3A,y3F,y3B,y3E⟩,hy3,h⟩:=zAc h;refine⟨_,⟨_,_,_,hy3,rfl,rfl⟩,?_⟩
 intro r4 hr4;obtain rfl:CV.encs [CV.mk y2A y2F y2B y2E,CV.mk y3A y3F y3B y3E]=r4:=(hr4.trans zHz).symm;obtain⟨⟨y5A,y5F,y5B,y5E⟩,hy5,h⟩:=zAc h;refine⟨_,⟨_,_,hy5,rfl,rfl⟩,?_⟩
 refine zAd ?_;have hy:=osi h;subst hy;exact fin0 rfl rfl
def zQy (n:Nat) (xs:List AV) (r:Ret):Prop:=∃ (a0:zRc) (y0:CV),zFb n a0=some y0/\xs=[.agg ((zAm a0).map .s)]/\r = .val (.agg ((CV.enc y0).map .s))
def zK3:zAp:=zAn fun xs r=>∃ n,zQy n xs r
theorem zPK:PSound Tryz.prog 66 zK3:=by
 have gok:∀ f s,look? f [(70,zEY),(106,zHa),(107,zMb),(67,zFy),(68,zIk),(108,zMa)]=some s->PSound Tryz.prog f s:=zAl (by
  simp only[List.forall_mem_cons]
  exact⟨zFt,zIZ,zRx,zF4,zJn,zRw,by simp⟩)
 refine zAo tokW Tryz.call66 Tryz.func66 rfl (fun xs r h=>by obtain⟨n,_,_,_,rfl,_⟩:=h; show 1<=58; decide) 58 rfl ?_;rintro xs r w0 G0 ⟨n,⟨r1P,⟨r1Ab,r1Ac⟩,⟨r1Ad,r1Ae⟩⟩,y0,h,rfl,rfl⟩ _;rw[zFb]at h;refine zXw [2] [] rfl ?_;refine zXw [3] [] rfl ?_;show Tri ..
 refine zAi (Le.rnm [(0,0),(1,1)] [(1,.s (.pt [.sl 8 ((List.map zAs) r1P),.sl 1 ((List.map (irow .i64)) r1Ab),.sl 1 ((List.map (irow .i64)) r1Ac),.sl 1 ((List.map (irow .i64)) r1Ad),.sl 1 ((List.map (irow .i64)) r1Ae)])),(2,.op 0 0),(3,.orow 1)] [(0,.box 75 [.s (.int .i64 0),.s (.int .i64 0),.s (.str []),.nl 4]),(1,.row 75 4 (CV.encs []))] 2 ⟨rfl,rfl,rfl,trivial⟩ ⟨rfl,⟨_,rfl,rfl⟩,rfl,⟨_,rfl,congrArg (Ob.row 75 4) zHz⟩,trivial⟩) ?_
 refine zAa ?_;refine zYc ?_;show Tri ..;obtain⟨l6,hl,h⟩:=zAc h;refine zAk ⟨ofL [(1,.s (.pt [.sl 8 ((List.map zAs) r1P),.sl 1 ((List.map (irow .i64)) r1Ab),.sl 1 ((List.map (irow .i64)) r1Ac),.sl 1 ((List.map (irow .i64)) r1Ad),.sl 1 ((List.map (irow .i64)) r1Ae)])),(2,.op 0 0),(3,.orow 1)],ofH [(0,.box 75 [.s (.int .i64 0),.s (.int .i64 0),.s (.str []),.nl 4]),(1,.row 75 4 (CV.encs l6))],2⟩ ?_ (fun σ' hle=>?_)
 ·refine zAj (zAt (X:=Nat×Int×(List CV)) (fun y=>match y with | (k,i4,l5)=>⟨ofL [(1,.s (.pt [.sl 8 ((List.map zAs) r1P),.sl 1 ((List.map (irow .i64)) r1Ab),.sl 1 ((List.map (irow .i64)) r1Ac),.sl 1 ((List.map (irow .i64)) r1Ad),.sl 1 ((List.map (irow .i64)) r1Ae)])),(2,.op 0 0),(3,.orow 1),(4,.s (.int .i64 i4))],ofH [(0,.box 75 [.s (.int .i64 0),.s (.int .i64 0),.s (.str []),.nl 4]),(1,.row 75 4 (CV.encs l5))],2⟩) (fun y=>zBI n r1P y.1 y.2.1 y.2.2=some l6) (fun y=>y.1) (n,0,[]) hl ?_ ?_)
  ·exact(Le.rnm [(0,0),(1,1)] _ _ _ ⟨rfl,rfl,rfl,rfl,trivial⟩ ⟨rfl,⟨_,rfl,rfl⟩,rfl,⟨_,rfl,rfl⟩,trivial⟩)
  ·rintro⟨k,i4,l5⟩ h;cases k with
   | zero=>cases h
   | succ k =>
    replace h:zBI n r1P (k+1) i4 l5=some l6:=h;rw[zBI]at h;refine zAa ?_;refine zXw [] [9] rfl ?_;intro n7 hn7;obtain rfl:(r1P.length:Int)=n7:=(hn7.trans (congrArg (fun m:Nat=>(m:Int)) (rlen (fun _=>rfl) r1P))).symm;refine zAg rfl h (fun hb h=>?_) (fun hb h=>?_)
    ·refine zAe ?_;refine zAa ?_;refine zAj ?_;refine zXw [5] [16] rfl ?_;obtain⟨⟨e8A,e8N,e8I,e8M,e8G,e8L,e8O,e8B⟩,he8,h⟩:=zAc h;refine And.intro (zAr (fun _=>rfl) he8).1 ?_;intro r9 hr9;obtain rfl:[.int .i64 e8A,.sl 1 ((List.map (irow .i64)) e8N),.int .i64 e8I,.int .i64 e8M,.sl 4 (Nd.encs e8G),.int .i64 e8L,.str e8O,.str e8B]=r9:=(hr9.trans (zAr (fun _=>rfl) he8).2.1).symm;show Tri ..
     refine zAi (Le.giveBox 2 [.int .i64 e8A,.sl 1 ((List.map (irow .i64)) e8N),.int .i64 e8I,.int .i64 e8M,.sl 4 (Nd.encs e8G),.int .i64 e8L,.str e8O,.str e8B] rfl rfl) ?_;refine zAO [47] [44,46] [29] rfl (by decide +kernel) ?_;obtain⟨⟨y10A,y10F,y10B,y10E⟩,hy10,h⟩:=zAc h;refine⟨_,⟨_,_,hy10,rfl,rfl⟩,?_⟩
     obtain⟨⟨y11A,y11F,y11B,y11E⟩,hy11,h⟩:=zAc h;refine⟨_,⟨_,_,_,hy11,rfl,rfl⟩,?_⟩
     obtain⟨⟨y12A,y12F,y12B,y12E⟩,hy12,h⟩:=zAc h;refine⟨_,⟨_,_,hy12,rfl,rfl⟩,?_⟩
     obtain⟨⟨y13A,y13F,y13B,y13E⟩,hy13,h⟩:=zAc h;refine⟨_,⟨_,_,hy13,rfl,rfl⟩,?_⟩
     obtain⟨y14,hy14,h⟩:=zAc h;refine⟨_,⟨_,_,_,hy14,rfl,rfl⟩,?_⟩
     obtain⟨⟨y15A,y15F,y15B,y15E⟩,hy15,h⟩:=zAc h;refine⟨_,⟨_,_,hy15,rfl,rfl⟩,?_⟩
     obtain⟨⟨y16A,y16F,y16B,y16E⟩,hy16,h⟩:=zAc h;refine⟨_,⟨_,_,hy16,rfl,rfl⟩,?_⟩
     obtain⟨⟨y17A,y17F,y17B,y17E⟩,hy17,h⟩:=zAc h;refine⟨_,⟨_,_,hy17,rfl,rfl⟩,?_⟩
     obtain⟨⟨y18A,y18F,y18B,y18E⟩,hy18,h⟩:=zAc h;refine⟨_,⟨_,_,hy18,rfl,rfl⟩,?_⟩
     intro r19 hr19
     obtain rfl:CV.encs [CV.mk y10A y10F y10B y10E,CV.mk y11A y11F y11B y11E,CV.mk y12A y12F y12B y12E,CV.mk y13A y13F y13B y13E,CV.mk y15A y15F y15B y15E,CV.mk y16A y16F y16B y16E,CV.mk y17A y17F y17B y17E,CV.mk y18A y18F y18B y18E]=r19:=(hr19.trans zHz).symm
     obtain⟨⟨y20A,y20F,y20B,y20E⟩,hy20,h⟩:=zAc h;refine⟨_,⟨_,_,hy20,rfl,rfl⟩,?_⟩
     intro r21 hr21;obtain rfl:CV.encs [CV.mk y20A y20F y20B y20E]=r21:=(hr21.trans zHz).symm;obtain⟨hq,h⟩:=zAy h
     refine And.intro (show((CV.encs l5).length+(CV.encs [CV.mk y20A y20F y20B y20E]).length) * 56<=140737488355328/\(CV.encs l5).length+(CV.encs [CV.mk y20A y20F y20B y20E]).length<=9223372036854775807 from by simp only[List.length_append,List.length_cons,List.length_nil,List.length_map,rlen CV.encs_eq]at hq ⊢; omega) ?_;show Tri ..
     refine zAi (Le.rnm [(0,0),(3,1)] [(1,.s (.pt [.sl 8 ((List.map zAs) r1P),.sl 1 ((List.map (irow .i64)) r1Ab),.sl 1 ((List.map (irow .i64)) r1Ac),.sl 1 ((List.map (irow .i64)) r1Ad),.sl 1 ((List.map (irow .i64)) r1Ae)])),(2,.op 0 0),(3,.orow 1),(4,.s (.int .i64 i4))] [(0,.box 75 [.s (.int .i64 0),.s (.int .i64 0),.s (.str []),.nl 4]),(1,.row 75 4 (CV.encs (l5++[CV.mk y20A y20F y20B y20E])))] 2 ⟨rfl,rfl,rfl,rfl,trivial⟩ ⟨rfl,⟨_,rfl,rfl⟩,rfl,⟨_,rfl,congrArg (Ob.row 75 4) zHz⟩,trivial⟩) ?_
     refine zYb ?_;refine⟨(k,IntKind.i64.wrap (i4+1),l5++[CV.mk y20A y20F y20B y20E]),h,(Le.rnm [(0,0),(1,1)] _ _ _ ⟨rfl,rfl,rfl,rfl,trivial⟩ ⟨rfl,⟨_,rfl,rfl⟩,rfl,⟨_,rfl,rfl⟩,trivial⟩),Nat.lt_succ_self k⟩
    ·refine zAx ?_;cases h;exact(Le.rnm [(0,0),(1,1)] _ _ _ ⟨rfl,rfl,rfl,trivial⟩ ⟨rfl,⟨_,rfl,rfl⟩,rfl,⟨_,rfl,rfl⟩,trivial⟩)
 ·refine zAi hle ?_;refine zAa ?_;refine zAO [] [56] [1,10] rfl (by decide +kernel) ?_;obtain⟨⟨y22A,y22F,y22B,y22E⟩,hy22,h⟩:=zAc h;refine⟨_,⟨_,_,hy22,rfl,rfl⟩,?_⟩
  obtain⟨⟨y23A,y23F,y23B,y23E⟩,hy23,h⟩:=zAc h;refine⟨_,⟨_,_,_,hy23,rfl,rfl⟩,?_⟩
  obtain⟨⟨y24A,y24F,y24B,y24E⟩,hy24,h⟩:=zAc h;refine⟨_,⟨_,_,_,hy24,rfl,rfl⟩,?_⟩
  intro r25 hr25;obtain rfl:CV.encs [CV.mk y22A y22F y22B y22E,CV.mk y23A y23F y23B y23E,CV.mk y24A y24F y24B y24E]=r25:=(hr25.trans zHz).symm;obtain⟨⟨y26A,y26F,y26B,y26E⟩,hy26,h⟩:=zAc h;refine⟨_,⟨_,_,hy26,rfl,rfl⟩,?_⟩
  refine zAd ?_;have hy:=osi h;subst hy;exact fin0 rfl rfl
def zSi (n:Nat) (xs:List AV) (r:Ret):Prop:=∃ (a0:(List UInt8×Nd×List zRc×Int)) (y0:CV),zF2 n a0=some y0/\xs=[.agg ((zAq a0).map .s)]/\r = .val (.agg ((CV.enc y0).map .s))
def zMc:zAp:=zAn fun xs r=>∃ n,zSi n xs r
theorem zRy:PSound Tryz.prog 30 zMc:=by
 have gok:∀ f s,look? f [(66,zK3),(68,zIk),(69,zOe),(70,zEY),(67,zFy)]=some s->PSound Tryz.prog f s:=zAl (by
  simp only[List.forall_mem_cons]
  exact⟨zPK,zJn,zSL,zFt,zF4,by simp⟩)
 refine zAo tokW Tryz.call30 Tryz.func30 rfl (fun xs r h=>by obtain⟨n,_,_,_,rfl,_⟩:=h; show 1<=34; decide) 34 rfl ?_;rintro xs r w0 G0 ⟨n,⟨d1V,⟨d1Q,d1R,d1S,d1T⟩,d1H,d1W⟩,y0,h,rfl,rfl⟩ _;rw[zF2]at h;refine zXw [2] [] rfl ?_;refine zXw [3] [] rfl ?_;show Tri ..
 refine zAi (Le.rnm [(0,0),(1,1)] [(1,.s (.pt [.str d1V,.int .i64 d1Q,.str d1R,.int .i64 d1S,.sl 4 (Nd.encs d1T),.sl 5 ((List.map zAm) d1H),.int .i64 d1W])),(2,.op 0 0),(3,.orow 1)] [(0,.box 75 [.s (.int .i64 0),.s (.int .i64 0),.s (.str []),.nl 4]),(1,.row 75 4 (CV.encs []))] 2 ⟨rfl,rfl,rfl,trivial⟩ ⟨rfl,⟨_,rfl,rfl⟩,rfl,⟨_,rfl,congrArg (Ob.row 75 4) zHz⟩,trivial⟩) ?_
 refine zAa ?_;refine zYc ?_;show Tri ..;obtain⟨l6,hl,h⟩:=zAc h;refine zAk ⟨ofL [(1,.s (.pt [.str d1V,.int .i64 d1Q,.str d1R,.int .i64 d1S,.sl 4 (Nd.encs d1T),.sl 5 ((List.map zAm) d1H),.int .i64 d1W])),(2,.op 0 0),(3,.orow 1)],ofH [(0,.box 75 [.s (.int .i64 0),.s (.int .i64 0),.s (.str []),.nl 4]),(1,.row 75 4 (CV.encs l6))],2⟩ ?_ (fun σ' hle=>?_)
 ·refine zAj (zAt (X:=Nat×Int×(List CV)) (fun y=>match y with | (k,i4,l5)=>⟨ofL [(1,.s (.pt [.str d1V,.int .i64 d1Q,.str d1R,.int .i64 d1S,.sl 4 (Nd.encs d1T),.sl 5 ((List.map zAm) d1H),.int .i64 d1W])),(2,.op 0 0),(3,.orow 1),(4,.s (.int .i64 i4))],ofH [(0,.box 75 [.s (.int .i64 0),.s (.int .i64 0),.s (.str []),.nl 4]),(1,.row 75 4 (CV.encs l5))],2⟩) (fun y=>zB2 n d1H y.1 y.2.1 y.2.2=some l6) (fun y=>y.1) (n,0,[]) hl ?_ ?_)
  ·exact(Le.rnm [(0,0),(1,1)] _ _ _ ⟨rfl,rfl,rfl,rfl,trivial⟩ ⟨rfl,⟨_,rfl,rfl⟩,rfl,⟨_,rfl,rfl⟩,trivial⟩)
  ·rintro⟨k,i4,l5⟩ h;cases k with
   | zero=>cases h
   | succ k =>
    replace h:zB2 n d1H (k+1) i4 l5=some l6:=h;rw[zB2]at h;refine zAa ?_;refine zXw [] [8] rfl ?_;intro n7 hn7;obtain rfl:(d1H.length:Int)=n7:=(hn7.trans (congrArg (fun m:Nat=>(m:Int)) (rlen (fun _=>rfl) d1H))).symm;refine zAg rfl h (fun hb h=>?_) (fun hb h=>?_)
    ·refine zAe ?_;refine zAa ?_;refine zAj ?_;refine zAb [20] [16,19] rfl ?_;obtain⟨⟨e8P,⟨e8Ab,e8Ac⟩,⟨e8Ad,e8Ae⟩⟩,he8,h⟩:=zAc h;refine And.intro (zAr (fun _=>rfl) he8).1 ?_;intro r9 hr9;obtain rfl:[.sl 8 ((List.map zAs) e8P),.sl 1 ((List.map (irow .i64)) e8Ab),.sl 1 ((List.map (irow .i64)) e8Ac),.sl 1 ((List.map (irow .i64)) e8Ad),.sl 1 ((List.map (irow .i64)) e8Ae)]=r9:=(hr9.trans (zAr (fun _=>rfl) he8).2.1).symm;obtain⟨⟨y10A,y10F,y10B,y10E⟩,hy10,h⟩:=zAc h;refine⟨_,⟨_,_,_,hy10,rfl,rfl⟩,?_⟩
     intro r11 hr11;obtain rfl:CV.encs [CV.mk y10A y10F y10B y10E]=r11:=(hr11.trans zHz).symm;obtain⟨hq,h⟩:=zAy h
     refine And.intro (show((CV.encs l5).length+(CV.encs [CV.mk y10A y10F y10B y10E]).length) * 56<=140737488355328/\(CV.encs l5).length+(CV.encs [CV.mk y10A y10F y10B y10E]).length<=9223372036854775807 from by simp only[List.length_append,List.length_cons,List.length_nil,List.length_map,rlen CV.encs_eq]at hq ⊢; omega) ?_;show Tri ..
     refine zAi (Le.rnm [(0,0),(2,1)] [(1,.s (.pt [.str d1V,.int .i64 d1Q,.str d1R,.int .i64 d1S,.sl 4 (Nd.encs d1T),.sl 5 ((List.map zAm) d1H),.int .i64 d1W])),(2,.op 0 0),(3,.orow 1),(4,.s (.int .i64 i4))] [(0,.box 75 [.s (.int .i64 0),.s (.int .i64 0),.s (.str []),.nl 4]),(1,.row 75 4 (CV.encs (l5++[CV.mk y10A y10F y10B y10E])))] 2 ⟨rfl,rfl,rfl,rfl,trivial⟩ ⟨rfl,⟨_,rfl,rfl⟩,rfl,⟨_,rfl,congrArg (Ob.row 75 4) zHz⟩,trivial⟩) ?_
     refine zYb ?_;refine⟨(k,IntKind.i64.wrap (i4+1),l5++[CV.mk y10A y10F y10B y10E]),h,(Le.rnm [(0,0),(1,1)] _ _ _ ⟨rfl,rfl,rfl,rfl,trivial⟩ ⟨rfl,⟨_,rfl,rfl⟩,rfl,⟨_,rfl,rfl⟩,trivial⟩),Nat.lt_succ_self k⟩
    ·refine zAx ?_;cases h;exact(Le.rnm [(0,0),(1,1)] _ _ _ ⟨rfl,rfl,rfl,trivial⟩ ⟨rfl,⟨_,rfl,rfl⟩,rfl,⟨_,rfl,rfl⟩,trivial⟩)
 ·refine zAi hle ?_;refine zAa ?_;refine zAO [] [32] [10,13] rfl (by decide +kernel) ?_;obtain⟨⟨y12A,y12F,y12B,y12E⟩,hy12,h⟩:=zAc h;refine⟨_,⟨_,_,hy12,rfl,rfl⟩,?_⟩
  obtain⟨⟨y13A,y13F,y13B,y13E⟩,hy13,h⟩:=zAc h;refine⟨_,⟨_,_,_,hy13,rfl,rfl⟩,?_⟩
  obtain⟨⟨y14A,y14F,y14B,y14E⟩,hy14,h⟩:=zAc h;refine⟨_,⟨_,_,hy14,rfl,rfl⟩,?_⟩
  obtain⟨⟨y15A,y15F,y15B,y15E⟩,hy15,h⟩:=zAc h;refine⟨_,⟨_,_,hy15,rfl,rfl⟩,?_⟩
  intro r16 hr16;obtain rfl:CV.encs [CV.mk y12A y12F y12B y12E,CV.mk y13A y13F y13B y13E,CV.mk y14A y14F y14B y14E,CV.mk y15A y15F y15B y15E]=r16:=(hr16.trans zHz).symm;obtain⟨⟨y17A,y17F,y17B,y17E⟩,hy17,h⟩:=zAc h
  refine⟨_,⟨_,_,hy17,rfl,rfl⟩,?_⟩
  refine zAd ?_;have hy:=osi h;subst hy;exact fin0 rfl rfl
def zTM (n:Nat) (xs:List AV) (r:Ret):Prop:=∃ (a0:(List UInt8×Nd×List zRc×Int)) (y0:List UInt8) (y1:Int),zEM n a0=some (y0,y1)/\xs=[.agg ((zAq a0).map .s)]/\r = .val (.tup [.s (.sl 1 ((List.map brow) y0)),.s (.int .i64 y1)])
def zOd:zAp:=zAn fun xs r=>∃ n,zTM n xs r
theorem zSK:PSound Tryz.prog 11 zOd:=by
 have gok:∀ f s,look? f [(13,zI7),(30,zMc),(29,zKT),(32,zLZ),(31,zL0)]=some s->PSound Tryz.prog f s:=zAl (by
  simp only[List.forall_mem_cons]
  exact⟨zLe,zRy,zPA,zRm,zRn,by simp⟩)
 refine zAo tokW Tryz.call11 Tryz.func11 rfl (fun xs r h=>by obtain⟨n,_,_,_,_,rfl,_⟩:=h; show 1<=24; decide) 24 rfl ?_;rintro xs r w0 G0 ⟨n,⟨d1V,⟨d1Q,d1R,d1S,d1T⟩,d1H,d1W⟩,y0,y1,h,rfl,rfl⟩ _;rw[zEM]at h;refine zXw [2] [] rfl ?_;refine zAi (Le.rnm [] [(1,.s (.pt [.str d1V,.int .i64 d1Q,.str d1R,.int .i64 d1S,.sl 4 (Nd.encs d1T),.sl 5 ((List.map zAm) d1H),.int .i64 d1W]))] [] 0 ⟨rfl,trivial⟩ trivial) ?_;refine zAa ?_;refine zYc ?_
 obtain⟨y2,hy2,h⟩:=zAc h;refine⟨_,⟨_,_,_,hy2,rfl,rfl⟩,?_⟩
 refine zAg rfl h (fun hb h=>?_) (fun hb h=>?_)
 ·refine zXw [2] [] rfl ?_;refine zAi (Le.rnm [(0,0)] [(2,.orow 0),(3,.s (.int .i64 1))] [(0,.row 5 1 ((List.map brow) []))] 1 ⟨rfl,rfl,trivial⟩ ⟨rfl,⟨_,rfl,congrArg (Ob.row 5 1) zNY⟩,trivial⟩) ?_;refine zAd ?_;obtain⟨hj1,hk1⟩:=pij h;subst hj1 hk1;unfold zCJ
  exact⟨_,(Le.trans (Le.rnm [(0,0)] [(2,.orow 0),(3,.s (.int .i64 1))] [(0,.row 5 1 ((List.map brow) []))] 1 ⟨rfl,rfl,trivial⟩ ⟨rfl,⟨_,rfl,rfl⟩,trivial⟩) (Le.giveRow 0 rfl)),rfl,rfl⟩
 ·refine zAe ?_;refine zYc ?_;obtain⟨⟨y3A,y3F,y3B,y3E⟩,hy3,h⟩:=zAc h;refine⟨_,⟨_,_,_,hy3,rfl,rfl⟩,?_⟩
  obtain⟨y4,hy4,h⟩:=zAc h;refine⟨_,⟨_,_,_,hy4,rfl,rfl⟩,?_⟩
  refine zAa ?_;refine zXw [] [13] rfl ?_;intro n5 hn5;obtain rfl:(y4.length:Int)=n5:=(hn5.trans (congrArg (fun m:Nat=>(m:Int)) (rlen (fun _=>rfl) y4))).symm;refine zAg rfl h (fun hb h=>?_) (fun hb h=>?_)
  ·refine zXw [2] [] rfl ?_;refine zAi (Le.rnm [(0,0)] [(2,.orow 0),(3,.s (.int .i64 6))] [(0,.row 5 1 ((List.map brow) []))] 1 ⟨rfl,rfl,trivial⟩ ⟨rfl,⟨_,rfl,congrArg (Ob.row 5 1) zNY⟩,trivial⟩) ?_;refine zAd ?_;obtain⟨hj1,hk1⟩:=pij h;subst hj1 hk1;unfold zCJ
   exact⟨_,(Le.trans (Le.rnm [(0,0)] [(2,.orow 0),(3,.s (.int .i64 6))] [(0,.row 5 1 ((List.map brow) []))] 1 ⟨rfl,rfl,trivial⟩ ⟨rfl,⟨_,rfl,rfl⟩,trivial⟩) (Le.giveRow 0 rfl)),rfl,rfl⟩
  ·refine zAe ?_;refine zXw [15,16,20] [] rfl ?_;refine And.intro (show([[.int .u8 86],[.int .u8 67],[.int .u8 76],[.int .u8 49]]:List (List S)) ≠ [] from List.cons_ne_nil _ _) ?_;obtain⟨y6,hy6,h⟩:=zAc h;refine⟨_,⟨_,_,_,hy6,rfl,rfl⟩,?_⟩
   obtain⟨y7,hy7,h⟩:=zAc h;refine⟨_,⟨_,_,_,hy7,rfl,rfl⟩,?_⟩
   obtain⟨hq,h⟩:=zAy h;refine And.intro (show([[.int .u8 86],[.int .u8 67],[.int .u8 76],[.int .u8 49]].length+((List.map brow) y7).length) * 1<=140737488355328/\[[.int .u8 86],[.int .u8 67],[.int .u8 76],[.int .u8 49]].length+((List.map brow) y7).length<=9223372036854775807 from by simp only[List.length_append,List.length_cons,List.length_nil,List.length_map,rlen (fun _=>rfl)]at hq ⊢; omega) ?_;show Tri ..
   refine zAi (Le.rnm [(1,0)] [(4,.s (.sl 1 ((List.map brow) y4))),(5,.orow 0)] [(0,.row 5 1 ((List.map brow) ([b8of 86,b8of 67,b8of 76,b8of 49]++y7)))] 1 ⟨rfl,rfl,trivial⟩ ⟨rfl,⟨_,rfl,congrArg (Ob.row 5 1) zNY⟩,trivial⟩) ?_;refine zXw [23] [] rfl ?_;obtain⟨hq,h⟩:=zAy h
   refine And.intro (show(((List.map brow) ([b8of 86,b8of 67,b8of 76,b8of 49]++y7)).length+((List.map brow) y4).length) * 1<=140737488355328/\((List.map brow) ([b8of 86,b8of 67,b8of 76,b8of 49]++y7)).length+((List.map brow) y4).length<=9223372036854775807 from by simp only[List.length_append,List.length_cons,List.length_nil,List.length_map,rlen (fun _=>rfl)]at hq ⊢; omega) ?_;show Tri ..
   refine zAi (Le.rnm [(1,0)] [(2,.orow 0),(3,.s (.int .i64 0))] [(0,.row 5 1 ((List.map brow) (([b8of 86,b8of 67,b8of 76,b8of 49]++y7)++y4)))] 1 ⟨rfl,rfl,trivial⟩ ⟨rfl,⟨_,rfl,congrArg (Ob.row 5 1) zNY⟩,trivial⟩) ?_;refine zAd ?_;obtain⟨hj1,hk1⟩:=pij h;subst hj1 hk1;unfold zCJ
   exact⟨_,(Le.trans (Le.rnm [(0,0)] [(2,.orow 0),(3,.s (.int .i64 0))] [(0,.row 5 1 ((List.map brow) (([b8of 86,b8of 67,b8of 76,b8of 49]++y7)++y4)))] 1 ⟨rfl,rfl,trivial⟩ ⟨rfl,⟨_,rfl,rfl⟩,trivial⟩) (Le.giveRow 0 rfl)),rfl,rfl⟩
def zLS (n:Nat) (xs:List AV) (r:Ret):Prop:=∃ (a0:(List UInt8×Nd×List zRc×Int)) (y0:Bool),zDr n a0=some y0/\xs=[.agg ((zAq a0).map .s)]/\r = .val (.s (.bool y0))
def zLV:zAp:=zAn fun xs r=>∃ n,zLS n xs r
theorem zLx:PSound Tryz.prog 3 zLV:=by
 have gok:∀ f s,look? f [(8,zLW),(9,zQF),(10,zI6),(11,zOd),(12,zHH),(13,zI7)]=some s->PSound Tryz.prog f s:=zAl (by
  simp only[List.forall_mem_cons]
  exact⟨zRj,zUg,zLd,zSK,zJ2,zLe,by simp⟩)
 refine zAo tokW Tryz.call3 Tryz.func3 rfl (fun xs r h=>by obtain⟨n,_,_,_,rfl,_⟩:=h; show 1<=42; decide) 42 rfl ?_;rintro xs r w0 G0 ⟨n,⟨d1V,⟨d1Q,d1R,d1S,d1T⟩,d1H,d1W⟩,y0,h,rfl,rfl⟩ _;rw[zDr]at h;refine zYc ?_;refine zAa ?_;refine zAa ?_;obtain⟨x2,hj,h⟩:=zAc h
 refine zAk ⟨ofL [(1,.s (.pt [.str d1V,.int .i64 d1Q,.str d1R,.int .i64 d1S,.sl 4 (Nd.encs d1T),.sl 5 ((List.map zAm) d1H),.int .i64 d1W])),(13,.s (.bool x2))],fun _=>none,0⟩ ?_ (fun σ' hle=>?_)
 ·replace h:=hj;refine zAb [] [9] rfl ?_;obtain⟨y3,hy3,h⟩:=zAc h;refine⟨_,⟨_,_,hy3,rfl,rfl⟩,?_⟩
  intro b hb;cases b with
  | true =>
   replace h:=zAv hb.symm h;cases h;exact(Le.forget _ ⟨rfl,rfl,trivial⟩)
  | false =>
   replace h:=zAu hb.symm h;obtain⟨y4,hy4,h⟩:=zAc h;refine⟨_,⟨_,_,_,hy4,rfl,rfl⟩,?_⟩
   cases h;exact(Le.forget _ ⟨rfl,rfl,trivial⟩)
 ·refine zAi hle ?_;refine zAg rfl h (fun hb h=>?_) (fun hb h=>?_)
  ·refine zYc ?_;obtain⟨y5,hy5,h⟩:=zAc h;refine⟨_,⟨_,_,hy5,rfl,rfl⟩,?_⟩
   refine zAd ?_;have hy:=osi h;subst hy;exact fin0 rfl rfl
  ·refine zAe ?_;refine zYc ?_;obtain⟨⟨y6,y7⟩,hy6,h⟩:=zAc h;refine⟨_,⟨_,_,_,_,hy6,rfl,rfl⟩,?_⟩
   refine zYc ?_;obtain⟨⟨y8,y9⟩,hy8,h⟩:=zAc h;refine⟨_,⟨_,_,_,_,hy8,rfl,rfl⟩,?_⟩
   refine zAa ?_;obtain⟨x10,hj,h⟩:=zAc h;refine zAk ⟨ofL [(2,.s (.bool x10))],fun _=>none,0⟩ ?_ (fun σ' hle=>?_)
   ·replace h:=hj;refine zAO [] [28,30,32,35] [] rfl (by decide +kernel) ?_;intro b hb;cases b with
    | true =>
     replace h:=zAv hb.symm h;refine And.intro (show List.map brow y6=((List.map brow y6).map zHq).map brow from by rw[zGN]) ?_;intro s11 hs11;obtain rfl:y6=s11:=(hs11.trans (zGN _)).symm;refine And.intro (show List.map brow y8=((List.map brow y8).map zHq).map brow from by rw[zGN]) ?_;intro s12 hs12;obtain rfl:y8=s12:=(hs12.trans (zGN _)).symm;intro b hb;cases b with
     | true =>
      replace h:=zAv hb.symm h;obtain⟨y13,hy13,h⟩:=zAc h;refine⟨_,⟨_,_,_,hy13,rfl,rfl⟩,?_⟩
      obtain⟨y14,hy14,h⟩:=zAc h;refine⟨_,⟨_,_,_,hy14,rfl,rfl⟩,?_⟩
      cases h;exact(Le.forget _ ⟨rfl,trivial⟩)
     | false =>
      replace h:=zAu hb.symm h;cases h;exact(Le.forget _ ⟨rfl,trivial⟩)
    | false =>
     replace h:=zAu hb.symm h;intro b hb;subst hb;cases h;exact(Le.forget _ ⟨rfl,trivial⟩)
   ·refine zAi hle ?_;refine zAd ?_;have hy:=osi h;subst hy;exact fin0 rfl rfl
theorem zWB {n:Nat}{ss:List S} (h:Typed T n 24 ss):∃ t:Nd,ss=t.enc/\t.rng :=
 zOQ (T:=T) (e:=24) (s:=22) (ki:=3) (st:=9) rfl rfl rfl rfl rfl rfl rfl rfl rfl n h
theorem zS5 {n t:Nat}{ss:List S} (h:Typed T n 22 ss):∃ l:List Nd,ss=[.sl 4 (Nd.encs l)]/\Nd.rngs l:=by
 obtain⟨m,rows,rfl,rfl,_,hr⟩:=zF9 (T:=T) (e:=24) rfl rfl h;obtain⟨ks,rfl,hks⟩:=zKn (f:=Nd.enc) (q:=Nd.rng) (l:=rows) fun r hr'=>zOQ (T:=T) (e:=24) (s:=22) (ki:=3) (st:=9) rfl rfl rfl rfl rfl rfl rfl rfl rfl m (hr r hr')
 exact⟨ks,by rw[Nd.encs_eq]; rfl,Nd.rngAll hks⟩
theorem zPd {α:Type}{f:α->List S}:∀ {l:List α}{x:α},x∈l->zCb (f x)<=zDf (l.map f)
 | y::l,x,h=>by
  simp only[List.map_cons,zDf]
  rcases List.mem_cons.1 h with rfl | h
  ·omega
  ·have:=zPd (f:=f) h; omega
theorem zXj {l:List zO8}:l.length<=zDf (l.map zAs):=by
 have:=zJQ (rows:=l.map zAs) fun r hr=>by
  obtain⟨o,_,rfl⟩:=List.mem_map.1 hr;simp only[zAs,List.length_cons]
  omega
 simpa using this
theorem zAB {φ:Prop} [Decidable φ] (h:φ):decide φ=true:=decide_eq_true h
theorem zAA {φ:Prop} [Decidable φ] (h:¬ φ):decide φ=false:=decide_eq_false h
theorem zI0 {F:Nd->Option Int}{ks:List Nd} (hF:∀ v∈ks,F v=some (v.cnt:Int)) :
  ∀ (k i:Nat) (o:Nat),ks.length - i<k->i<=ks.length->o+Nd.cnts (ks.drop i)<=1073741824->ks.length<=1073741824->zCw F ks k (o:Int) (i:Int)=some ((o+Nd.cnts (ks.drop i):Nat):Int)
 | 0,_,_,h,_,_,_=>by omega
 | k+1,i,o,hk,hi,ho,hl=>by
  unfold zCw
  by_cases h:i<ks.length
  ·rw[zAB (Int.ofNat_lt.2 h),cond_true,zAT h]
   have hd:=Nd.cnts_drop h;have hf:=hF _ (List.getElem_mem h)
   rcases e:ks[i] with ⟨a,b,c,d⟩
   rw[e]at hd hf;simp only[obs,hf]
   rw[wrap64_in (by omega) (by omega),zAE (by omega),← Int.natCast_add,zI0 hF k (i+1) _ (by omega) (by omega) (by omega) hl,hd]
   congr 2; omega
  ·rw[zAA (by omega),cond_false]
   obtain rfl:i=ks.length :=(by omega);simp[Nd.cnts]
theorem zLg:∀ (n:Nat) (t:Nd),t.cnt<n->t.cnt<=67108864->zCS n t=some (t.cnt:Int)
 | 0,_,h,_=>by omega
 | n+1,.mk a b c ks,h,hb=>by
  simp only[Nd.cnt]at h hb;have hl:=Nd.cnts_len ks;unfold zCS;have:=zI0 (F:=zCS n) (ks:=ks) (fun v hv=>zLg n v (by have:=Nd.cnts_mem hv; omega) (by have:=Nd.cnts_mem hv; omega)) n 0 1 (by omega) (by omega) (by simp; omega) (by omega)
  rw[show((0:Nat):Int)=0 from rfl,show((1:Nat):Int)=1 from rfl]at this;rw[this]
  simp only[obs,List.drop_zero,Nd.cnt]
  congr 2; omega
theorem zRa {F:Nd->Int->Option Int}{ks:List Nd}{b:Nat} (hF:∀ (v:Nd) (m:Nat),m<=b->∃ r,F v (m:Int)=some r/\-1<=r/\r<m/\(0<=r->r+v.cnt=m)) :
  ∀ (k i:Nat) (m:Int),m+1<k->-1<=m->m<=b->i<=ks.length->(i:Int)+m<4611686018427387904->∃ r,zCo F ks k m (i:Int)=some r/\-1<=r/\r<=m/\(0<=r->r+Nd.cnts (ks.drop i)=m)
 | 0,_,_,h,_,_,_,_=>by omega
 | k+1,i,m,hk,hm,hb,hi,hx=>by
  unfold zCo
  by_cases h:i<ks.length
  ·rw[zAB (Int.ofNat_lt.2 h),cond_true]
   simp only[obs]
   by_cases h0:0<=m
   ·rw[zAB h0,cond_true,zAT h]
    have hd:=Nd.cnts_drop h;rcases e:ks[i] with ⟨e1,e2,e3,e4⟩
    rw[e]at hd;simp only[obs]
    obtain⟨m',rfl⟩:=Int.eq_ofNat_of_zero_le h0;obtain⟨r,h1,h2,h3,h4⟩:=hF (.mk e1 e2 e3 e4) m' (by omega)
    rw[h1,obs,zAE (by omega)]
    obtain⟨r',g1,g2,g3,g4⟩:=zRa (ks:=ks) hF k (i+1) r (by omega) h2 (by omega) (by omega) (by omega)
    exact⟨r',g1,g2,by omega,fun g=>by have:=g4 g; have:=h4 (by omega); omega⟩
   ·rw[zAA h0,cond_false]
    exact⟨m,rfl,hm,Int.le_refl _,fun g=>by omega⟩
  ·rw[zAA (by omega),cond_false]
   simp only[obs,cond_false]
   obtain rfl:i=ks.length :=(by omega);exact⟨m,rfl,hm,Int.le_refl _,fun _=>by simp[Nd.cnts]⟩
theorem left_eq:∀ (n:Nat) (t:Nd) (m:Nat),m+1<n->m<=67108864->∃ r,zDL n t (m:Int)=some r/\-1<=r/\r<m/\(0<=r->r+t.cnt=m)
 | 0,_,_,h,_=>by omega
 | n+1,.mk a b c ks,m,h,hm=>by
  unfold zDL;rw[wrap64_in (by omega) (by omega)]
  cases m with
  | zero =>
   cases n with
   | zero=>omega
   | succ n =>
    refine⟨-1,?_,by omega,by omega,fun h=>by omega⟩
    unfold zCo;cases decide (((0:Nat):Int)<(ks.length:Int)) <;> simp <;> rfl
  | succ m =>
   obtain⟨r,h1,h2,h3,h4⟩:=zRa (F:=zDL n) (ks:=ks) (b:=m) (fun v q hq=>left_eq n v q (by omega) (by omega)) n 0 (m:Int) (by omega) (by omega) (by omega) (by omega) (by omega)
   rw[show((0:Nat):Int)=0 from rfl]at h1;rw[show((m+1:Nat):Int) - 1=(m:Int) by omega,h1]
   exact⟨r,rfl,h2,by omega,fun g=>by have:=h4 g; rw[List.drop_zero]at this; simp only[Nd.cnt]; omega⟩
theorem zWD (n:Nat) (t:Nd) (m:Nat) (h:m+1<n) (hm:m<=67108864):∃ b,zGZ n t (m:Int)=some b/\(b=true->t.cnt<=m):=by
 obtain⟨a,b,c,ks⟩:=t;obtain⟨r,h1,h2,h3,h4⟩:=left_eq n (.mk a b c ks) m h hm;refine⟨decide (0<=r),by simp[zGZ,h1],fun g=>by have g0:=of_decide_eq_true g; have:=h4 g0; omega⟩
def zND {α:Type} (p:α->Bool) (l:List α):Fl Bool Unit:=if l.all p then .go () else .ret false
theorem zVM {α:Type}{p:α->Bool}{l:List α}{i:Nat} (h:i<l.length):(l.drop i).all p=(p l[i]&&(l.drop (i+1)).all p):=by
 rw[List.drop_eq_getElem_cons h]; rfl
theorem zVN {α:Type}{p:α->Bool}{l:List α}{i:Nat} (h:i<l.length):(l.drop i).any p=(p l[i]||(l.drop (i+1)).any p):=by
 rw[List.drop_eq_getElem_cons h]; rfl
theorem zHe {α:Type}{p:α->Bool}{l:List α} (L:Nat->Int->Option (Fl Bool Unit)) (hb:l.length<=1073741824)
  (h1:∀ (k i:Nat) (h:i<l.length),L (k+1) (i:Int)=if p l[i] then L k (((i+1:Nat)):Int) else some (.ret false)) (h2:∀ k,L (k+1) (l.length:Int)=some (.go ())) :
  ∀ (k i:Nat),l.length - i<k->i<=l.length->L k (i:Int)=some (zND p (l.drop i))
 | 0,_,h,_=>by omega
 | k+1,i,hk,hi=>by
  by_cases h:i<l.length
  ·rw[h1 k i h,zHe L hb h1 h2 k (i+1) (by omega) (by omega)]
   unfold zND;rw[zVM h]
   cases p l[i] <;> simp
  ·obtain rfl:i=l.length :=(by omega);rw[h2]; simp[zND]
theorem zPm {α:Type}{p:α->Bool}{l:List α} (L:Nat->Int->Option (Fl Bool Unit)) (hb:l.length<=1073741824)
  (h1:∀ (k i:Nat) (h:i<l.length),L (k+1) (i:Int)=if p l[i] then some (.ret true) else L k (((i+1:Nat)):Int)) (h2:∀ k,L (k+1) (l.length:Int)=some (.go ())) :
  ∀ (k i:Nat),l.length - i<k->i<=l.length->L k (i:Int)=some (if (l.drop i).any p then .ret true else .go ())
 | 0,_,h,_=>by omega
 | k+1,i,hk,hi=>by
  by_cases h:i<l.length
  ·rw[h1 k i h,zPm L hb h1 h2 k (i+1) (by omega) (by omega),zVN h]
   cases p l[i] <;> simp
  ·obtain rfl:i=l.length :=(by omega);rw[h2]; simp
theorem zOR {P:UInt8->Bool} (h:(List.range 256).all (fun n=>P n.toUInt8)=true) (b:UInt8):P b=true:=by
 have:P (UInt8.ofNat b.toNat)=true:=List.all_eq_true.1 h b.toNat (List.mem_range.2 b.toNat_lt)
 rwa [UInt8.ofNat_toNat]at this
def zDl (b:UInt8):Bool:=(decide (97<=b.toNat)&&decide (b.toNat<=122))||(decide (65<=b.toNat)&&decide (b.toNat<=90))
def zDR (b:UInt8):Bool:=decide (48<=b.toNat)&&decide (b.toNat<=57)
def zEz (b:UInt8):Bool:=decide (32<=b.toNat)&&decide (b.toNat<=126)
theorem zQO (b:UInt8):(bif decide ((zI9 .or .u8 (b.toNat:Int) 32)<97) then some true else some (decide (122<(zI9 .or .u8 (b.toNat:Int) 32))))=some (!zDl b) :=
 of_decide_eq_true (zOR (P:=fun b=>decide ((bif decide ((zI9 .or .u8 (b.toNat:Int) 32)<97) then some true else some (decide (122<(zI9 .or .u8 (b.toNat:Int) 32))))=some (!zDl b))) (by decide +kernel) b)
theorem zK7 (b:UInt8):zEg (b.toNat:Int)=some (zDl b) :=
 of_decide_eq_true (zOR (P:=fun b=>decide (zEg (b.toNat:Int)=some (zDl b))) (by decide +kernel) b)
theorem zSp (b:UInt8):zF1 (b.toNat:Int)=some (zDR b) :=
 of_decide_eq_true (zOR (P:=fun b=>decide (zF1 (b.toNat:Int)=some (zDR b))) (by decide +kernel) b)
theorem zMD (n:Nat) (s:List UInt8) (h:s.length<n) (hb:s.length<=1073741824):zC9 n s=some (s.all zDl):=by
 have:=zHe (p:=zDl) (l:=s) (zBl s) hb (fun k i h=>by
  rw[zBl,zAB (Int.ofNat_lt.2 h),cond_true,zAT h]
  simp only[obs,zQO]
  rw[zAE (by omega)]
  cases zDl s[i] <;> rfl) (fun k=>by rw[zBl,zAA (by omega)]; rfl) n 0 (by omega) (by omega)
 rw[show((0:Nat):Int)=0 from rfl,List.drop_zero]at this;rw[zC9,this]
 unfold zND;cases s.all zDl <;> rfl
theorem zNX (n:Nat) (s:List UInt8) (h:s.length<n) (hb:s.length<=1073741824):zBq s n 0=some (zND zDl s):=by
 have:=zHe (p:=zDl) (l:=s) (zBq s) hb (fun k i h=>by
  rw[zBq,zAB (Int.ofNat_lt.2 h),cond_true,zAT h]
  simp only[obs,zK7]
  rw[zAE (by omega)]
  cases zDl s[i] <;> rfl) (fun k=>by rw[zBq,zAA (by omega)]; rfl) n 0 (by omega) (by omega)
 rwa [show((0:Nat):Int)=0 from rfl,List.drop_zero]at this
theorem zOD (n:Nat) (s:List UInt8) (c:Int) (h:s.length<n) (hb:s.length<=1073741824):zDv n s c=some (s.any fun b=>(b.toNat:Int) == c):=by
 have:=zPm (p:=fun b=>(b.toNat:Int) == c) (l:=s) (zCM s c) hb (fun k i h=>by
  rw[zCM,zAB (Int.ofNat_lt.2 h),cond_true,zAT h]
  simp only[obs]
  rw[zAE (by omega)]
  cases((s[i].toNat:Int) == c) <;> rfl) (fun k=>by rw[zCM,zAA (by omega)]; rfl) n 0 (by omega) (by omega)
 rw[show((0:Nat):Int)=0 from rfl,List.drop_zero]at this;rw[zDv,this]
 cases s.any fun b=>(b.toNat:Int) == c <;> rfl
theorem zM0 (n:Nat) (l:List (List UInt8)) (s:List UInt8) (h:l.length<n) (hb:l.length<=1073741824):zET n l s=some (l.any fun e=>e == s):=by
 have:=zPm (p:=fun e=>e == s) (l:=l) (zDu l s) hb (fun k i h=>by
  rw[zDu,zAB (Int.ofNat_lt.2 h),cond_true,zAT h]
  simp only[obs]
  rw[zAE (by omega)]
  cases(l[i] == s) <;> rfl) (fun k=>by rw[zDu,zAA (by omega)]; rfl) n 0 (by omega) (by omega)
 rw[show((0:Nat):Int)=0 from rfl,List.drop_zero]at this;rw[zET,this]
 cases l.any fun e=>e == s <;> rfl
theorem zGD (n:Nat) (s:List UInt8) (h:s.length<n) (hb:s.length<=1073741824):zDI n s=some (s.all zDR&&!(s == [])):=by
 have:=zHe (p:=zDR) (l:=s) (zBt s) hb (fun k i h=>by
  rw[zBt,zAB (Int.ofNat_lt.2 h),cond_true,zAT h]
  simp only[obs]
  rw[zAE (by omega)]
  unfold zDR
  by_cases a:48<=s[i].toNat
  ·by_cases b:s[i].toNat<=57
   ·simp[a,b,show ¬ ((s[i].toNat:Int)<48) by omega,show ¬ (57<(s[i].toNat:Int)) by omega]
   ·simp[a,b,show ¬ ((s[i].toNat:Int)<48) by omega,show(57<(s[i].toNat:Int)) by omega]
  ·simp[a,show((s[i].toNat:Int)<48) by omega]) (fun k=>by rw[zBt,zAA (by omega)]; rfl) n 0 (by omega) (by omega)
 rw[show((0:Nat):Int)=0 from rfl,List.drop_zero]at this;rw[zDI,this]
 unfold zND;cases s.all zDR <;> rfl
theorem zMX (b:UInt8):(bif decide ((b.toNat:Int)<32) then some true else some (decide (126<(b.toNat:Int))):Option Bool)=some (!zEz b):=by
 unfold zEz
 by_cases a:32<=b.toNat
 ·by_cases c:b.toNat<=126
  ·simp[a,c,show ¬ ((b.toNat:Int)<32) by omega,show ¬ (126<(b.toNat:Int)) by omega]
  ·simp[a,c,show ¬ ((b.toNat:Int)<32) by omega,show(126<(b.toNat:Int)) by omega]
 ·simp[a,show((b.toNat:Int)<32) by omega]
theorem zPq (n:Nat) (s:List UInt8) (h:s.length<n) (hb:s.length<=1073741824):zE5 n s=some (s.all zEz&&decide ((s.length:Int)<=200)):=by
 have:=zHe (p:=zEz) (l:=s) (zBG s) hb (fun k i h=>by
  rw[zBG,zAB (Int.ofNat_lt.2 h),cond_true,zAT h]
  simp only[obs,zMX]
  rw[zAE (by omega)]
  cases zEz s[i] <;> rfl) (fun k=>by rw[zBG,zAA (by omega)]; rfl) n 0 (by omega) (by omega)
 rw[show((0:Nat):Int)=0 from rfl,List.drop_zero]at this;rw[zE5,this]
 unfold zND;cases s.all zEz <;> rfl
theorem zHu (n:Nat) (s:List UInt8) (h:s.length<n) (hb:s.length<=1073741824):zCG n s=some (s.all zEz):=by
 have:=zHe (p:=zEz) (l:=s) (zBa s) hb (fun k i h=>by
  rw[zBa,zAB (Int.ofNat_lt.2 h),cond_true,zAT h]
  simp only[obs,zMX]
  rw[zAE (by omega)]
  cases zEz s[i] <;> rfl) (fun k=>by rw[zBa,zAA (by omega)]; rfl) n 0 (by omega) (by omega)
 rw[show((0:Nat):Int)=0 from rfl,List.drop_zero]at this;rw[zCG,this]
 unfold zND;cases s.all zEz <;> rfl
def spL:List UInt8:=[43,45,42,47,61,60,62,44,59,58,33,124,39,63,126,64]
def fsL:List UInt8:=[40,41,91,93,123,125,60,62,47,124,46]
def kwL:List (List UInt8):=[[102,114,97,99],[114,111,111,116],[109,97,116,114,105,120],[102,101,110,99,101]]
def acL:List (List UInt8):=[[104,97,116],[98,97,114],[118,101,99],[100,111,116],[116,105,108,100,101],[99,104,101,99,107]]
def spB (c:UInt8):Bool:=decide (0<=Lib.indexByte spL c)
def fsB (c:UInt8):Bool:=decide (0<=Lib.indexByte fsL c)
theorem zWZ (c:UInt8):(spL.any fun b=>(b.toNat:Int) == (c.toNat:Int))=spB c :=
 of_decide_eq_true (zOR (P:=fun c=>decide ((spL.any fun b=>(b.toNat:Int) == (c.toNat:Int))=spB c)) (by decide +kernel) c)
theorem zWY (c:UInt8):(([40,41,91,93,123,125,124,60,62,47,46]:List UInt8).any fun b=>(b.toNat:Int) == (c.toNat:Int))=fsB c :=
 of_decide_eq_true (zOR (P:=fun c=>decide ((([40,41,91,93,123,125,124,60,62,47,46]:List UInt8).any fun b=>(b.toNat:Int) == (c.toNat:Int))=fsB c)) (by decide +kernel) c)
theorem zVQ (c:UInt8):Lib.indexByte fsL ((c.toNat:Int).toNat.toUInt8)=Lib.indexByte fsL c:=by
 rw[Int.toNat_natCast]; congr 1; exact UInt8.ofNat_toNat
theorem zNF (e s:List UInt8):(e == s)=(s == e):=by
 rw[Bool.eq_iff_iff]; simp only[beq_iff_eq]; exact eq_comm
theorem zMC (s:List UInt8):zD0 s=some (kwL.any fun e=>e == s):=by
 simp only[zD0,kwL,List.any_cons,List.any_nil,zNF [102,114,97,99] s,zNF [114,111,111,116] s,zNF [109,97,116,114,105,120] s,zNF [102,101,110,99,101] s]
 generalize (s == [102,114,97,99])=b1;generalize (s == [114,111,111,116])=b2;generalize (s == [109,97,116,114,105,120])=b3;generalize (s == [102,101,110,99,101])=b4;cases b1 <;> cases b2 <;> cases b3 <;> cases b4 <;> rfl
theorem zIW (s:List UInt8):zDH s=some (acL.any fun e=>e == s):=by
 simp only[zDH,acL,List.any_cons,List.any_nil,zNF [104,97,116] s,zNF [98,97,114] s,zNF [118,101,99] s,zNF [100,111,116] s,zNF [116,105,108,100,101] s,zNF [99,104,101,99,107] s]
 generalize (s == [104,97,116])=b1;generalize (s == [98,97,114])=b2;generalize (s == [118,101,99])=b3;generalize (s == [100,111,116])=b4;generalize (s == [116,105,108,100,101])=b5;generalize (s == [99,104,101,99,107])=b6;cases b1 <;> cases b2 <;> cases b3 <;> cases b4 <;> cases b5 <;> cases b6 <;> rfl
def symB (s:List UInt8):Bool :=
 if s.length=1 then s.all zDl||s.all spB
 else s.all zDl&&(decide (2<=s.length)&&(decide (s.length<=16)&&(!(kwL.any fun e=>e == s)&&!(acL.any fun e=>e == s))))
theorem len1 (s:List UInt8):((s.length:Int) == 1)=decide (s.length=1):=by
 by_cases h:s.length=1
 ·simp[h]
 ·rw[zAA h]
  cases e:((s.length:Int) == 1) with
  | false=>rfl
  | true=>have:=eq_of_beq e; omega
theorem zFS (a b:Nat):decide ((a:Int)<=(b:Int))=decide (a<=b):=by
 by_cases h:a<=b
 ·rw[zAB h,zAB (by omega)]
 ·rw[zAA h,zAA (by omega)]
theorem zUF (a b:Nat):decide ((a:Int)<(b:Int))=decide (a<b):=by
 by_cases h:a<b
 ·rw[zAB h,zAB (by omega)]
 ·rw[zAA h,zAA (by omega)]
theorem zNK (n:Nat) (s:List UInt8) (h:s.length+40<n) (hb:s.length<=1073741824):zEs n s=some (symB s):=by
 rw[zEs,len1,zMD n s (by omega) hb]
 unfold symB
 by_cases h1:s.length=1
 ·rw[zAB h1,if_pos h1]
  obtain⟨c,rfl⟩:=List.length_eq_one_iff.1 h1;have:zEw [43,45,42,47,61,60,62,44,59,58,33,124,39,63,126,64] [c]=some (spB c):=rfl;simp only[cond_true,obs,this,List.all_cons,List.all_nil,Bool.and_true]
  cases zDl c <;> rfl
 ·rw[zAA h1,if_neg h1]
  have e2:=zFS 2 s.length;have e16:=zFS s.length 16;rw[show((2:Nat):Int)=2 from rfl]at e2;rw[show((16:Nat):Int)=16 from rfl]at e16;simp only[cond_false,obs,zMC,zIW,e2,e16]
  cases s.all zDl <;> cases decide (2<=s.length) <;> cases decide (s.length<=16) <;> cases(kwL.any fun e=>e == s) <;> rfl
theorem zPS (n:Nat) (s:List UInt8) (h:s.length+40<n) (hb:s.length<=1073741824):zE7 n s=some (symB s):=by
 rw[zE7,len1,zNX n s (by omega) hb]
 unfold symB
 by_cases h1:s.length=1
 ·rw[zAB h1,if_pos h1]
  obtain⟨c,rfl⟩:=List.length_eq_one_iff.1 h1;have e1:at? [c] (0:Int)=some c:=rfl;have e2:zDv n [43,45,42,47,61,60,62,44,59,58,33,124,39,63,126,64] (c.toNat:Int)=some (spB c):=by
   rw[zOD n _ _ (by simp only[List.length_cons,List.length_nil]; omega) (by simp only[List.length_cons,List.length_nil]; omega)]
   exact congrArg some (zWZ c)
  simp only[cond_true,obs,e1,zEu,zK7,e2,List.all_cons,List.all_nil,Bool.and_true]
  cases zDl c <;> rfl
 ·rw[zAA h1,if_neg h1]
  have e2:=zFS 2 s.length;have e16:=zFS s.length 16;rw[show((2:Nat):Int)=2 from rfl]at e2;rw[show((16:Nat):Int)=16 from rfl]at e16;have ek:zET n kwL s=some (kwL.any fun e=>e == s):=zM0 n kwL s (by simp only[kwL,List.length_cons,List.length_nil]; omega) (by simp[kwL])
  have ea:zET n acL s=some (acL.any fun e=>e == s):=zM0 n acL s (by simp only[acL,List.length_cons,List.length_nil]; omega) (by simp[acL])
  have k1:zEU=some kwL:=rfl;have a1:zDJ=some acL:=rfl;unfold zND;simp only[cond_false,obs,k1,a1,ek,ea,e2,e16]
  cases s.all zDl <;> cases decide (2<=s.length) <;> cases decide (s.length<=16) <;> cases(kwL.any fun e=>e == s) <;> rfl
def fenB (s:List UInt8):Bool:=decide (s.length=2)&&s.all fsB
theorem len2 (s:List UInt8):((s.length:Int) == 2)=decide (s.length=2):=by
 by_cases h:s.length=2
 ·simp[h]
 ·rw[zAA h]
  cases e:((s.length:Int) == 2) with
  | false=>rfl
  | true=>have:=eq_of_beq e; omega
theorem zPp (s:List UInt8):zE4 s=some (fenB s):=by
 rw[zE4,len2]
 unfold fenB
 by_cases h1:s.length=2
 ·rw[zAB h1]
  match s,h1 with
  | [c,d],_ =>
   have e0:at? [c,d] (0:Int)=some c:=rfl;have e1:at? [c,d] (1:Int)=some d:=rfl;have f:∀ c:UInt8,zCX [40,41,91,93,123,125,60,62,47,124,46] (c.toNat:Int)=some (Lib.indexByte fsL c):=fun c=>congrArg some (zVQ c)
   have g:∀ c:UInt8,decide (0<=Lib.indexByte fsL c)=fsB c:=fun c=>rfl
   simp only[cond_true,e0,e1,f,obs,g,List.all_cons,List.all_nil,Bool.and_true,Bool.true_and]
   cases fsB c <;> rfl
 ·rw[zAA h1]; rfl
theorem zRG (n:Nat) (s:List UInt8) (h:40<n):(bif ((s.length:Int) == 2) then (
        (at? s 0).bind fun c9 =>
        (zDv n [40,41,91,93,123,125,124,60,62,47,46] (c9.toNat:Int)).bind fun y11 =>
        bif y11 then (
         (at? s 1).bind fun c12 =>
         (zDv n [40,41,91,93,123,125,124,60,62,47,46] (c12.toNat:Int)).bind fun y14 =>
         some y14
        ) else (
         some false
        )
       ) else (
        some false
       ))=some (fenB s):=by
 rw[len2]
 unfold fenB
 by_cases h1:s.length=2
 ·rw[zAB h1]
  match s,h1 with
  | [c,d],_ =>
   have e0:at? [c,d] (0:Int)=some c:=rfl;have e1:at? [c,d] (1:Int)=some d:=rfl;have f:∀ c:UInt8,zDv n [40,41,91,93,123,125,124,60,62,47,46] (c.toNat:Int)=some (fsB c):=fun c=>by
    rw[zOD n _ _ (by simp only[List.length_cons,List.length_nil]; omega) (by simp only[List.length_cons,List.length_nil]; omega)]
    exact congrArg some (zWY c)
   simp only[cond_true,e0,e1,f,obs,List.all_cons,List.all_nil,Bool.and_true,Bool.true_and]
   cases fsB c <;> rfl
 ·rw[zAA h1]; rfl
def okL (L:Nat):Nat->List UInt8->Bool
 | _,[]=>true
 | i,c::r=>((c == 46&&(decide (0<i)&&decide (i+1<L)))||zDR c)&&okL L (i+1) r
def numB (s:List UInt8):Bool:=okL s.length 0 s&&(decide (0<s.length)&&(decide (s.length<=20)&&decide (s.count 46<=1)))
theorem zXH (c:UInt8):((c.toNat:Int) == 46)=(c == 46) :=
 of_decide_eq_true (zOR (P:=fun c=>decide (((c.toNat:Int) == 46)=(c == 46))) (by decide +kernel) c)
theorem zW3:zDR 46=false:=by decide
theorem zPr (s:List UInt8) (hb:s.length<=1073741824):∀ (k i p:Nat),s.length - i<k->i<=s.length->p<=i ->
  zB8 s k (p:Int) (i:Int)=some (if okL s.length i (s.drop i) then .go ((p+(s.drop i).count 46:Nat):Int) else .ret false)
 | 0,_,_,h,_,_=>by omega
 | k+1,i,p,hk,hi,hp=>by
  unfold zB8
  by_cases h:i<s.length
  ·rw[zAB (Int.ofNat_lt.2 h),cond_true,zAT h,List.drop_eq_getElem_cons h]
   generalize s[i]=c;simp only[obs,zXH,zSp,okL,List.count_cons]
   rw[zAE (by omega),zAE (by omega),wrap64_in (by omega) (by omega)]
   have d1:decide ((0:Int)<(i:Int))=decide (0<i):=zUF 0 i;have d2:decide ((i:Int)<(s.length:Int) - 1)=decide (i+1<s.length):=by
    by_cases h:i+1<s.length
    ·rw[zAB h,zAB (by omega)]
    ·rw[zAA h,zAA (by omega)]
   rw[d1,d2]
   cases e:c == 46 with
   | true =>
    obtain rfl:c=46:=eq_of_beq e;simp only[cond_true,zW3,Bool.true_and,Bool.or_false]
    cases decide (0<i) with
    | false=>rfl
    | true =>
     simp only[cond_true,obs,Bool.true_and]
     cases decide (i+1<s.length) with
     | false=>rfl
     | true =>
      simp only[cond_true,obs,Bool.true_and]
      rw[zPr s hb k (i+1) (p+1) (by omega) (by omega) (by omega)]
      simp only[if_true]
      rw[show p+1+(s.drop (i+1)).count 46=p+((s.drop (i+1)).count 46+1) by omega]
   | false =>
    simp only[cond_false,obs,Bool.false_and,Bool.false_or]
    cases zDR c with
    | false=>rfl
    | true =>
     simp only[Bool.not_true,cond_false,obs,Bool.true_and]
     rw[zPr s hb k (i+1) p (by omega) (by omega) (by omega)]
     simp
  ·rw[zAA (by omega),cond_false]
   obtain rfl:i=s.length :=(by omega);simp[okL]
theorem zPR (n:Nat) (s:List UInt8) (h:s.length<n) (hb:s.length<=1073741824):zE6 n s=some (numB s):=by
 have:=zPr s hb n 0 0 (by omega) (by omega) (by omega)
 rw[show((0:Nat):Int)=0 from rfl,List.drop_zero]at this;rw[zE6,this]
 unfold numB;have e0:=zUF 0 s.length;have e20:=zFS s.length 20;have e1:=zFS (s.count 46) 1;rw[show((0:Nat):Int)=0 from rfl]at e0;rw[show((20:Nat):Int)=20 from rfl]at e20;rw[show((1:Nat):Int)=1 from rfl]at e1;cases okL s.length 0 s with
 | false=>rfl
 | true =>
  simp only[if_true,obs,e0,e20,Nat.zero_add,e1]
  cases decide (0<s.length) <;> cases decide (s.length<=20) <;> rfl
theorem zQS:∀ s:List UInt8,(s.count 46=0/\Lib.indexByte s 46 = -1)∨∃ a b,s=a++46::b/\a.count 46=0/\Lib.indexByte s 46=(a.length:Int)
 | []=>.inl ⟨rfl,rfl⟩
 | c::s=>by
  by_cases h:c=46
  ·subst h;exact .inr ⟨[],s,rfl,rfl,by simp[Lib.indexByte]⟩
  ·have hc:(c == 46)=false :=(by simpa using h);rcases zQS s with ⟨h1,h2⟩ | ⟨a,b,rfl,h1,h2⟩
   ·exact .inl ⟨by rw[List.count_cons,h1,hc]; rfl,by simp[Lib.indexByte,hc,h2]⟩
   ·refine .inr ⟨c::a,b,rfl,by rw[List.count_cons,h1,hc]; rfl,?_⟩
    have h3:((a.length:Int) == -1)=false:=by
     cases e:((a.length:Int) == -1) with
     | false=>rfl
     | true=>have:=eq_of_beq e; omega
    simp[Lib.indexByte,hc,h2,h3]
theorem zHZ (L:Nat):∀ (i:Nat) (a:List UInt8),a.count 46=0->okL L i a=a.all zDR
 | _,[],_=>rfl
 | i,c::a,h=>by
  have hc:(c == 46)=false:=by
   cases e:c == 46 with
   | false=>rfl
   | true=>rw[List.count_cons,e]at h; simp at h
  rw[List.count_cons,hc]at h;rw[okL,hc,zHZ L (i+1) a (by simpa using h)]
  simp
theorem zOv (L:Nat):∀ (i:Nat) (a b:List UInt8),okL L i (a++b)=(okL L i a&&okL L (i+a.length) b)
 | _,[],b=>by simp[okL]
 | i,c::a,b=>by
  simp only[List.cons_append,okL,zOv L (i+1) a b,List.length_cons,Bool.and_assoc,show i+1+a.length=i+(a.length+1) by omega]
theorem zPh:∀ a:List UInt8,a.all zDR=true->a.count 46=0
 | [],_=>rfl
 | c::a,h=>by
  simp only[List.all_cons,Bool.and_eq_true]at h;have hc:(c == 46)=false:=by
   cases e:c == 46 with
   | false=>rfl
   | true=>obtain rfl:c=46:=eq_of_beq e; simp[zW3]at h
  rw[List.count_cons,hc,zPh a h.2]; rfl
theorem zXi (a b:List UInt8) (ha:a.count 46=0):numB (a++46::b)=(decide ((a++46::b).length<=20)&&((a.all zDR&&!(a == []))&&(b.all zDR&&!(b == [])))):=by
 unfold numB;have hl:(a++46::b).length=a.length+(b.length+1) :=(by simp);rw[zOv,zHZ _ _ a ha,hl]
 simp only[okL,zW3,Bool.or_false,List.count_append,List.count_cons,ha,beq_self_eq_true,Bool.true_and,if_true,Nat.zero_add]
 have e1:decide (0<a.length) = !(a == []) :=(by cases a <;> rfl);have e2:decide (a.length+1<a.length+(b.length+1)) = !(b == []):=by
  cases b with
  | nil=>simp
  | cons c b=>simp
 have e3:decide (0<a.length+(b.length+1))=true:=zAB (by omega)
 rw[e1,e2,e3]
 cases hb:b.all zDR with
 | true =>
  rw[zHZ _ _ b (zPh b hb),hb,zPh b hb]
  cases a.all zDR <;> cases a == [] <;> cases b == [] <;> cases decide (a.length+(b.length+1)<=20) <;> rfl
 | false =>
  cases hc:decide (b.count 46+1<=1) with
  | true =>
   have:b.count 46=0 :=(by have:=of_decide_eq_true hc; omega);rw[zHZ _ _ b this,hb]
   cases a.all zDR <;> cases a == [] <;> cases b == [] <;> cases decide (a.length+(b.length+1)<=20) <;> rfl
  | false =>
   generalize okL _ _ b=z;cases z <;> cases a.all zDR <;> cases a == [] <;> cases b == [] <;> cases decide (a.length+(b.length+1)<=20) <;> rfl
theorem zU6 (s:List UInt8) (h:s.count 46=0):numB s=(decide (s.length<=20)&&(s.all zDR&&!(s == []))):=by
 unfold numB;rw[zHZ _ _ s h,h]
 have e1:decide (0<s.length) = !(s == []) :=(by cases s <;> rfl);rw[e1]
 cases s.all zDR <;> cases s == [] <;> cases decide (s.length<=20) <;> rfl
theorem zNJ (n:Nat) (s:List UInt8) (h:s.length<n) (hb:s.length<=1073741824):zDG n s=some (numB s):=by
 have e20:=zFS s.length 20;rw[show((20:Nat):Int)=20 from rfl]at e20;have hi:zD7 s [46]=some (Lib.indexByte s 46):=rfl;rcases zQS s with ⟨h1,h2⟩ | ⟨a,b,rfl,h1,h2⟩
 ·rw[zU6 s h1]
  simp only[zDG,zEx,zCH,hi,h2,obs,show decide ((0:Int)<=-1)=false from rfl,cond_false,e20,zGD n s h hb]
  cases decide (s.length<=20) <;> cases(s.all zDR&&!(s == [])) <;> rfl
 ·have hl:(a++46::b).length=a.length+(b.length+1) :=(by simp);rw[zXi a b h1]
  have w1:IntKind.i64.wrap ((a.length:Int)+(([46]:List UInt8).length:Int))=((a.length+1:Nat):Int):=zAE (by omega)
  have t1:((a++46::b).take ((a.length:Int)).toNat).drop (0:Int).toNat=a :=(by simp);have t2:((a++46::b).take (((a++46::b).length:Int)).toNat).drop (((a.length+1:Nat):Int)).toNat=b:=by
   rw[Int.toNat_natCast,Int.toNat_natCast,List.take_length,List.drop_append]
   simp
  simp only[zDG,zEx,zCH,hi,h2,obs,w1]
  rw[zAB (by omega),cond_true,zBn (by omega),zBn (by omega),t1,t2]
  simp only[obs,e20,zGD n a (by omega) (by omega),zGD n b (by omega) (by omega)]
  cases decide ((a++46::b).length<=20) <;> cases(a.all zDR&&!(a == [])) <;> cases(b.all zDR&&!(b == [])) <;> rfl
def Nd.kind:Nd->Int | .mk k _ _ _=>k
def zRW (k:Int) (t:List UInt8):Bool :=
 if k=2 then symB t else if k=3 then numB t else if k=4 then (decide (t.length<=200)&&t.all zEz) else if k=10 then acL.any (fun e=>e == t) else if k=11 then fenB t else t == []
def zGU (k c:Int) (m:Int):Bool :=
 if k=12 then decide (1<=c)&&(decide (c<=16)&&(decide (1<=m)&&(decide (m<=256)&&(m.tmod c == 0))))
 else (c == 0)&&(if k=1 then decide (m<=200) else if k=2 then m == 0 else if k=3 then m == 0 else if k=4 then m == 0 else if k=5 then m == 2 else if k=6 then m == 2 else if k=7 then m == 2 else if k=8 then m == 2
  else if k=9 then m == 3 else if k=10 then m == 1 else if k=11 then m == 1 else false)
mutual
def zFZ:Nd->Bool
 | .mk k t c ks=>(zRW k t&&zGU k c (ks.length:Int))&&zEe k ks
def zEe:Int->List Nd->Bool
 | _,[]=>true
 | k,v::vs=>(!((v.kind == 1) == (k == 1))&&zFZ v)&&zEe k vs
end
mutual
def Nd.dep:Nd->Nat
 | .mk _ _ _ ks=>Nd.deps ks+1
def Nd.deps:List Nd->Nat
 | []=>0
 | v::vs=>Nat.max v.dep (Nd.deps vs)
end
theorem zOn {k:Int}{a:List Nd}{i:Nat} (h:i<a.length):zEe k (a.drop i)=((!((a[i].kind == 1) == (k == 1))&&zFZ a[i])&&zEe k (a.drop (i+1))):=by
 rw[List.drop_eq_getElem_cons h]; rfl
theorem zQT {a:List Nd}{i:Nat} (h:i<a.length):Nd.deps (a.drop i)=Nat.max (a[i]).dep (Nd.deps (a.drop (i+1))):=by
 rw[List.drop_eq_getElem_cons h]; rfl
mutual
theorem Nd.dep_cnt:∀ v:Nd,v.dep<=v.cnt
 | .mk _ _ _ ks=>by have:=Nd.deps_cnts ks; simp only[Nd.dep,Nd.cnt]; omega
theorem Nd.deps_cnts:∀ vs:List Nd,Nd.deps vs<=Nd.cnts vs
 | []=>Nat.le_refl _
 | v::vs=>by
  have:=Nd.dep_cnt v; have:=Nd.deps_cnts vs
  simp only[Nd.deps,Nd.cnts]
  exact Nat.max_le.2 ⟨by omega,by omega⟩
end
mutual
theorem Nd.cnt_w:∀ v:Nd,v.cnt<=v.w
 | .mk _ t _ ks=>by have:=Nd.cnts_ws ks; simp only[Nd.cnt,Nd.w]; omega
theorem Nd.cnts_ws:∀ vs:List Nd,Nd.cnts vs<=Nd.ws vs
 | []=>Nat.le_refl _
 | v::vs=>by have:=Nd.cnt_w v; have:=Nd.cnts_ws vs; simp only[Nd.cnts,Nd.ws]; omega
end
theorem zC3 {a b:Int} (h:a ≠ b):(a == b)=false:=by
 cases e:(a == b) with
 | false=>rfl
 | true=>exact absurd (eq_of_beq e) h
theorem zSR (n:Nat) (k:Int) (t:List UInt8) (c:Int) (ks:List Nd) (h:t.length+40<n) (hb:t.length<=1073741824):zG2 n (.mk k t c ks)=some (zRW k t):=by
 have e200:=zFS t.length 200;rw[show((200:Nat):Int)=200 from rfl]at e200;have ea:zET n acL t=some (acL.any fun e=>e == t):=zM0 n acL t (by simp only[acL,List.length_cons,List.length_nil]; omega) (by simp[acL])
 have a1:zDJ=some acL:=rfl;unfold zG2 zRW;dsimp only
 by_cases h2:k=2
 ·subst h2; simp only[beq_self_eq_true,cond_true,zPS n t h hb,obs,if_true]
 rw[zC3 h2,if_neg h2,cond_false]
 by_cases h3:k=3
 ·subst h3; simp only[beq_self_eq_true,cond_true,zPR n t (by omega) hb,obs,if_true]
 rw[zC3 h3,if_neg h3,cond_false]
 by_cases h4:k=4
 ·subst h4; simp only[beq_self_eq_true,cond_true,zHu n t (by omega) hb,obs,if_true,e200]
  cases decide (t.length<=200) <;> rfl
 rw[zC3 h4,if_neg h4,cond_false]
 by_cases h10:k=10
 ·subst h10; simp only[beq_self_eq_true,cond_true,a1,ea,obs,if_true]
 rw[zC3 h10,if_neg h10,cond_false]
 by_cases h11:k=11
 ·subst h11; rw[if_pos rfl,beq_self_eq_true,cond_true,zRG n t (by omega)]; rfl
 rw[zC3 h11,if_neg h11,cond_false]
theorem kinds (k:Int):k=1∨k=2∨k=3∨k=4∨k=5∨k=6∨k=7∨k=8∨k=9∨k=10∨k=11∨k=12∨(k<1∨12<k):=by omega
theorem zSQ (k:Int) (t:List UInt8) (c:Int) (ks:List Nd):zG1 (.mk k t c ks)=some (zGU k c (ks.length:Int)):=by
 unfold zG1;dsimp only;generalize (ks.length:Int)=m;rcases kinds k with rfl | rfl | rfl | rfl | rfl | rfl | rfl | rfl | rfl | rfl | rfl | rfl | h
 ·simp only[bne,zGU]; generalize (c == 0)=z; generalize decide (m<=200)=y; cases z <;> rfl
 ·simp only[bne,zGU]; generalize (c == 0)=z; generalize (m == 0)=y; cases z <;> rfl
 ·simp only[bne,zGU]; generalize (c == 0)=z; generalize (m == 0)=y; cases z <;> rfl
 ·simp only[bne,zGU]; generalize (c == 0)=z; generalize (m == 0)=y; cases z <;> rfl
 ·simp only[bne,zGU]; generalize (c == 0)=z; generalize (m == 2)=y; cases z <;> rfl
 ·simp only[bne,zGU]; generalize (c == 0)=z; generalize (m == 2)=y; cases z <;> rfl
 ·simp only[bne,zGU]; generalize (c == 0)=z; generalize (m == 2)=y; cases z <;> rfl
 ·simp only[bne,zGU]; generalize (c == 0)=z; generalize (m == 2)=y; cases z <;> rfl
 ·simp only[bne,zGU]; generalize (c == 0)=z; generalize (m == 3)=y; cases z <;> rfl
 ·simp only[bne,zGU]; generalize (c == 0)=z; generalize (m == 1)=y; cases z <;> rfl
 ·simp only[bne,zGU]; generalize (c == 0)=z; generalize (m == 1)=y; cases z <;> rfl
 ·unfold zGU;rw[if_pos rfl,beq_self_eq_true,cond_true]
  by_cases h1:1<=c
  ·rw[zAB h1,zBn (by omega)]
   generalize (m.tmod c == 0)=y;cases decide (c<=16) <;> cases decide (1<=m) <;> cases decide (m<=256) <;> rfl
  ·rw[zAA h1]; rfl
 ·have e:∀ i:Int,1<=i->i<=12->(k == i)=false:=fun i h1 h2=>zC3 (by omega)
  have f:∀ i:Int,1<=i->i<=12->k ≠ i:=fun i h1 h2=>by omega
  unfold zGU;rw[if_neg (f 12 (by decide) (by decide)),if_neg (f 1 (by decide) (by decide)),if_neg (f 2 (by decide) (by decide)),if_neg (f 3 (by decide) (by decide)),if_neg (f 4 (by decide) (by decide)),if_neg (f 5 (by decide) (by decide)),
   if_neg (f 6 (by decide) (by decide)),if_neg (f 7 (by decide) (by decide)),if_neg (f 8 (by decide) (by decide)),if_neg (f 9 (by decide) (by decide)),if_neg (f 10 (by decide) (by decide)),if_neg (f 11 (by decide) (by decide))]
  rw[e 12 (by decide) (by decide),e 1 (by decide) (by decide),e 2 (by decide) (by decide),e 3 (by decide) (by decide),e 4 (by decide) (by decide),e 5 (by decide) (by decide),
   e 6 (by decide) (by decide),e 7 (by decide) (by decide),e 8 (by decide) (by decide),e 9 (by decide) (by decide),e 10 (by decide) (by decide),e 11 (by decide) (by decide)]
  cases(c == 0) <;> cases(c != 0) <;> rfl
theorem zXR (n:Nat) (x:Int) (k:Int) (t:List UInt8) (c:Int) (ks:List Nd) (h:t.length+40<n) (hb:t.length<=1073741824) :
  zCm n ((),x) (.mk k t c ks)=some (zRW k t&&zGU k c (ks.length:Int),((),x)):=by
 have e200:=zFS t.length 200;rw[show((200:Nat):Int)=200 from rfl]at e200;unfold zCm;dsimp only;generalize (ks.length:Int)=m;have em:zBZ t=some (t == []):=rfl;rcases kinds k with rfl | rfl | rfl | rfl | rfl | rfl | rfl | rfl | rfl | rfl | rfl | rfl | h
 ·simp only[em]
  show _=some ((t == [])&&((c == 0)&&decide (m<=200)),((),x))
  cases t == [] <;> cases c == 0 <;> rfl
 ·simp only[zNK n t h hb]
  show _=some (symB t&&((c == 0)&&(m == 0)),((),x))
  cases symB t <;> cases c == 0 <;> rfl
 ·simp only[zNJ n t (by omega) hb]
  show _=some (numB t&&((c == 0)&&(m == 0)),((),x))
  cases numB t <;> cases c == 0 <;> rfl
 ·simp only[zPq n t (by omega) hb,e200]
  show _=some ((decide (t.length<=200)&&t.all zEz)&&((c == 0)&&(m == 0)),((),x))
  cases decide (t.length<=200) <;> cases t.all zEz <;> cases c == 0 <;> rfl
 ·simp only[em]
  show _=some ((t == [])&&((c == 0)&&(m == 2)),((),x))
  cases t == [] <;> cases c == 0 <;> rfl
 ·simp only[em]
  show _=some ((t == [])&&((c == 0)&&(m == 2)),((),x))
  cases t == [] <;> cases c == 0 <;> rfl
 ·simp only[em]
  show _=some ((t == [])&&((c == 0)&&(m == 2)),((),x))
  cases t == [] <;> cases c == 0 <;> rfl
 ·simp only[em]
  show _=some ((t == [])&&((c == 0)&&(m == 2)),((),x))
  cases t == [] <;> cases c == 0 <;> rfl
 ·simp only[em]
  show _=some ((t == [])&&((c == 0)&&(m == 3)),((),x))
  cases t == [] <;> cases c == 0 <;> rfl
 ·simp only[zIW]
  show _=some ((acL.any fun e=>e == t)&&((c == 0)&&(m == 1)),((),x))
  cases(acL.any fun e=>e == t) <;> cases c == 0 <;> rfl
 ·simp only[zPp]
  show _=some (fenB t&&((c == 0)&&(m == 1)),((),x))
  cases fenB t <;> cases c == 0 <;> rfl
 ·simp only[em]
  show _=some ((t == [])&&(decide (1<=c)&&(decide (c<=16)&&(decide (1<=m)&&(decide (m<=256)&&(m.tmod c == 0))))),((),x))
  by_cases h1:1<=c
  ·rw[zAB h1,zBn (by omega)]
   generalize (m.tmod c == 0)=y;cases t == [] <;> cases decide (c<=16) <;> cases decide (1<=m) <;> cases decide (m<=256) <;> rfl
  ·rw[zAA h1]
   cases t == [] <;> rfl
 ·have f:∀ i:Int,1<=i->i<=12->k ≠ i:=fun i h1 h2=>by omega
  have hk:zGU k c m=false:=by
   unfold zGU;rw[if_neg (f 12 (by decide) (by decide)),if_neg (f 1 (by decide) (by decide)),if_neg (f 2 (by decide) (by decide)),if_neg (f 3 (by decide) (by decide)),if_neg (f 4 (by decide) (by decide)),if_neg (f 5 (by decide) (by decide)),
    if_neg (f 6 (by decide) (by decide)),if_neg (f 7 (by decide) (by decide)),if_neg (f 8 (by decide) (by decide)),if_neg (f 9 (by decide) (by decide)),if_neg (f 10 (by decide) (by decide)),if_neg (f 11 (by decide) (by decide))]
   exact Bool.and_false _
  rw[hk,Bool.and_false]
  by_cases h1:k<1
  ·rw[zAB h1]; rfl
  ·rw[zAA h1,zAB (show 12<k by omega)]; rfl
theorem zJ6 {F:Nd->Option Bool}{k:Int}{ks:List Nd} (hF:∀ v∈ks,F v=some (zFZ v)) (hl:ks.length<=1073741824) :
  ∀ (q i:Nat),ks.length - i<q->i<=ks.length->zCV F k ks q (i:Int)=some (if zEe k (ks.drop i) then .go () else .ret false)
 | 0,_,h,_=>by omega
 | q+1,i,hq,hi=>by
  unfold zCV
  by_cases h:i<ks.length
  ·rw[zAB (Int.ofNat_lt.2 h),cond_true,zAT h]
   have hf:=hF _ (List.getElem_mem h)
   have g1:=zOn (k:=k) h;rcases e:ks[i] with ⟨a,b,c,d⟩
   rw[e]at hf g1;simp only[Nd.kind]at g1;generalize zEe k (ks.drop i)=g at g1 ⊢;subst g1;simp only[obs,hf]
   rw[zAE (by omega),zJ6 hF hl q (i+1) (by omega) (by omega)]
   cases((a == 1) == (k == 1)) <;> cases zFZ (Nd.mk a b c d) <;> simp
  ·rw[zAA (by omega),cond_false]
   obtain rfl:i=ks.length :=(by omega);simp[zEe]
theorem zM1:∀ (n:Nat) (t:Nd),t.w+45<n->t.w<=1073741824->zDK n t=some (zFZ t)
 | 0,_,h,_=>by omega
 | n+1,.mk k t c ks,h,hb=>by
  simp only[Nd.w]at h hb;have hl:=Nd.ws_len ks;unfold zDK;rw[zSR n k t c ks (by omega) (by omega),zSQ]
  have:=zJ6 (F:=zDK n) (k:=k) (ks:=ks) (fun v hv=>zM1 n v (by have:=Nd.w_mem hv; omega) (by have:=Nd.w_mem hv; omega)) (by omega) n 0 (by omega) (by omega)
  rw[show((0:Nat):Int)=0 from rfl,List.drop_zero]at this;simp only[obs,this,zFZ]
  cases zRW k t <;> cases zGU k c (ks.length:Int) <;> cases zEe k ks <;> rfl
theorem zI1 {F:Nd->Option Int}{ks:List Nd} (hF:∀ v∈ks,F v=some (v.dep:Int)) (hl:ks.length<=1073741824) :
  ∀ (q i o:Nat),ks.length - i<q->i<=ks.length->zCx F ks q (o:Int) (i:Int)=some ((Nat.max o (Nd.deps (ks.drop i)):Nat):Int)
 | 0,_,_,h,_=>by omega
 | q+1,i,o,hq,hi=>by
  unfold zCx
  by_cases h:i<ks.length
  ·rw[zAB (Int.ofNat_lt.2 h),cond_true,zAT h,zQT h]
   have hf:=hF _ (List.getElem_mem h)
   rcases e:ks[i] with ⟨a,b,c,d⟩
   rw[e]at hf;simp only[obs,hf]
   have hm:(if (o:Int)<((Nd.mk a b c d).dep:Int) then ((Nd.mk a b c d).dep:Int) else (o:Int))=((Nat.max o (Nd.mk a b c d).dep:Nat):Int):=by
    by_cases g:(o:Int)<((Nd.mk a b c d).dep:Int)
    ·rw[if_pos g]; congr 1; exact(Nat.max_eq_right (by omega)).symm
    ·rw[if_neg g]; congr 1; exact(Nat.max_eq_left (by omega)).symm
   rw[zAE (by omega),hm,zI1 hF hl q (i+1) _ (by omega) (by omega)]
   congr 2
   exact Nat.max_assoc _ _ _
  ·rw[zAA (by omega),cond_false]
   obtain rfl:i=ks.length :=(by omega);rw[List.drop_length]
   congr 2
   exact(Nat.max_eq_left (Nat.zero_le _)).symm
theorem zLh:∀ (n:Nat) (t:Nd),t.cnt<n->t.cnt<=67108864->zCT n t=some (t.dep:Int)
 | 0,_,h,_=>by omega
 | n+1,.mk k t c ks,h,hb=>by
  simp only[Nd.cnt]at h hb;have hl:=Nd.cnts_len ks;have hd:=Nd.deps_cnts ks;unfold zCT;have:=zI1 (F:=zCT n) (ks:=ks) (fun v hv=>zLh n v (by have:=Nd.cnts_mem hv; omega) (by have:=Nd.cnts_mem hv; omega)) (by omega) n 0 0 (by omega) (by omega)
  rw[show((0:Nat):Int)=0 from rfl,List.drop_zero]at this;rw[this,obs,show Nat.max 0 (Nd.deps ks)=Nd.deps ks from Nat.max_eq_right (Nat.zero_le _),zAE (by omega)]
  rfl
def zAz (t:Nd):Bool:=(t.kind == 1)&&(zFZ t&&(decide (t.cnt<=1000)&&decide (t.dep<=24)))
theorem zEi (n:Nat) (t:Nd) (h:t.w+45<n) (hb:t.w<=67108864):zA6 n t=some (zAz t):=by
 have hc:=Nd.cnt_w t;have e1:=zM1 n t h (by omega)
 have e2:=zLg n t (by omega) (by omega)
 have e3:=zLh n t (by omega) (by omega)
 have e4:=zFS t.cnt 1000;rw[show((1000:Nat):Int)=1000 from rfl]at e4;have e5:=zFS t.dep 24;rw[show((24:Nat):Int)=24 from rfl]at e5;obtain⟨k,s,c,ks⟩:=t;unfold zA6 zAz;simp only[e1,e2,e3,obs,e4,e5,Nd.kind]
 cases k == 1 <;> cases zFZ (.mk k s c ks) <;> cases decide ((Nd.mk k s c ks).cnt<=1000) <;> rfl
abbrev okN (t:Nd) (x d:Nat):Prop:=zFZ t=true/\x+t.cnt<=1000/\d+t.dep<=25
abbrev okNs (k:Int) (vs:List Nd) (x d:Nat):Prop:=zEe k vs=true/\x+Nd.cnts vs<=1000/\d+Nd.deps vs<=24
theorem zOj {F:(Unit×Int)->Nd->Int->Option (Bool×(Unit×Int))}{k:Int}{ks:List Nd}{d:Nat} (hd:d<=24)
  (hF:∀ v∈ks,∀ x:Nat,x<=1000->∃ y,F ((),(x:Int)) v ((d+1:Nat):Int)=some (decide (okN v x (d+1)),((),y))/\(okN v x (d+1)->y=((x+v.cnt:Nat):Int))) (hl:ks.length<=1073741824) :
  ∀ (q i x:Nat),ks.length - i<q->i<=ks.length->x<=1000 ->
   (okNs k (ks.drop i) x d/\zAH F k ks (d:Int) q (x:Int) (i:Int)=some (.go ((x+Nd.cnts (ks.drop i):Nat):Int))) ∨
   (¬ okNs k (ks.drop i) x d/\∃ z,zAH F k ks (d:Int) q (x:Int) (i:Int)=some (.ret (false,((),z))))
 | 0,_,_,h,_,_=>by omega
 | q+1,i,x,hq,hi,hx=>by
  unfold zAH
  by_cases h:i<ks.length
  ·rw[zAB (Int.ofNat_lt.2 h),cond_true,zAT h]
   obtain⟨y,hf,hy⟩:=hF _ (List.getElem_mem h) x hx;have g1:=zOn (k:=k) h;have g2:=Nd.cnts_drop h;have g3:=zQT h;rcases e:ks[i] with ⟨a,b,c,ds⟩
   rw[e]at hf hy g1 g2 g3;simp only[obs]
   rw[zAE (by omega),zAE (by omega),hf]
   simp only[obs]
   have g4:Nd.deps (ks.drop i)=Nat.max (Nd.mk a b c ds).dep (Nd.deps (ks.drop (i+1))):=g3;have g5:(Nd.mk a b c ds).dep<=Nd.deps (ks.drop i) :=(by rw[g4]; exact Nat.le_max_left _ _);have g6:Nd.deps (ks.drop (i+1))<=Nd.deps (ks.drop i) :=(by rw[g4]; exact Nat.le_max_right _ _);rw[show((k == 1) == (a == 1))=((a == 1) == (k == 1)) by cases k == 1 <;> cases a == 1 <;> rfl]
   cases hkk:((a == 1) == (k == 1)) with
   | true =>
    simp only[cond_true,obs]
    refine .inr ⟨fun⟨h1,_⟩=>?_,_,rfl⟩
    rw[g1]at h1;simp[Nd.kind,hkk]at h1
   | false =>
    simp only[cond_false,obs]
    by_cases hok:okN (Nd.mk a b c ds) x (d+1)
    ·rw[zAB hok]
     simp only[Bool.not_true,cond_false]
     rw[hy hok]
     have hp:=(Nd.mk a b c ds).cnt_pos;rcases zOj hd hF hl q (i+1) (x+(Nd.mk a b c ds).cnt) (by omega) (by omega) hok.2.1 with ⟨hr,hr2⟩ | ⟨hr,z,hr2⟩
     ·refine .inl ⟨⟨?_,?_,?_⟩,?_⟩
      ·rw[g1,hr.1,hok.1]; simp[Nd.kind,hkk]
      ·have:=hr.2.1; omega
      ·have:=hr.2.2;have:=hok.2.2;have:Nd.deps (ks.drop i)<=24 - d:=by rw[g4]; exact Nat.max_le.2 ⟨by omega,by omega⟩
       omega
      ·rw[hr2,g2]; congr 3; omega
     ·refine .inr ⟨fun⟨h1,h2,h3⟩=>hr ⟨?_,by omega,by omega⟩,z,hr2⟩
      rw[g1]at h1;simp only[Bool.and_eq_true]at h1;exact h1.2
    ·rw[zAA hok]
     simp only[Bool.not_false,cond_true]
     refine .inr ⟨fun⟨h1,h2,h3⟩=>hok ⟨?_,by omega,by omega⟩,y,rfl⟩
     rw[g1]at h1;simp only[Bool.and_eq_true]at h1;exact h1.1.2
  ·rw[zAA (by omega),cond_false]
   obtain rfl:i=ks.length :=(by omega);rw[List.drop_length]
   exact .inl ⟨⟨rfl,hx,hd⟩,rfl⟩
theorem zTd:∀ (n:Nat) (t:Nd) (x d:Nat),t.w+45<n->t.w<=67108864->x<=1000->d<=25 ->
  ∃ y,zAS n ((),(x:Int)) t (d:Int)=some (decide (okN t x d),((),y))/\(okN t x d->y=((x+t.cnt:Nat):Int))
 | 0,_,_,_,h,_,_,_=>by omega
 | n+1,.mk k t c ks,x,d,h,hb,hx,hd=>by
  simp only[Nd.w]at h hb;have hl:=Nd.ws_len ks;unfold zAS;rw[zAE (by omega)]
  by_cases h1:1000<((x+1:Nat):Int)
  ·rw[zAB h1]
   simp only[cond_true,obs]
   have hn:¬ okN (.mk k t c ks) x d:=fun⟨_,h2,_⟩=>by simp only[Nd.cnt]at h2; omega
   exact⟨_,by rw[zAA hn],fun h=>absurd h hn⟩
  ·rw[zAA h1,cond_false]
   by_cases h2:24<(d:Int)
   ·rw[zAB h2]
    simp only[cond_true,obs]
    have hn:¬ okN (.mk k t c ks) x d:=fun⟨_,_,h2⟩=>by simp only[Nd.dep]at h2; omega
    exact⟨_,by rw[zAA hn],fun h=>absurd h hn⟩
   ·rw[zAA h2,cond_false,zXR n _ k t c ks (by omega) (by omega)]
    simp only[obs]
    cases ho:(zRW k t&&zGU k c (ks.length:Int)) with
    | false =>
     simp only[Bool.not_false,cond_true]
     have hn:¬ okN (.mk k t c ks) x d:=fun⟨h1,_⟩=>by rw[zFZ,ho]at h1; cases h1
     exact⟨_,by rw[zAA hn],fun h=>absurd h hn⟩
    | true =>
     simp only[Bool.not_true,cond_false]
     have:=zOj (F:=zAS n) (k:=k) (ks:=ks) (d:=d) (by omega) (fun v hv z hz=>zTd n v z (d+1) (by have:=Nd.w_mem hv; omega) (by have:=Nd.w_mem hv; omega) hz (by omega)) (by omega) n 0 (x+1) (by omega) (by omega) (by omega)
     rw[show((0:Nat):Int)=0 from rfl,List.drop_zero]at this;rcases this with ⟨hr,hr2⟩ | ⟨hr,z,hr2⟩
     ·have hy:okN (.mk k t c ks) x d:=⟨by rw[zFZ,ho,hr.1]; rfl,by have:=hr.2.1; simp only[Nd.cnt]; omega,by have:=hr.2.2; simp only[Nd.dep]; omega⟩
      rw[hr2]
      exact⟨_,by rw[zAB hy]; rfl,fun _=>by simp only[Nd.cnt]; omega⟩
     ·have hn:¬ okN (.mk k t c ks) x d:=fun⟨g1,g2,g3⟩=>hr ⟨by rw[zFZ,ho]at g1; exact g1,by simp only[Nd.cnt]at g2; omega,by simp only[Nd.dep]at g3; omega⟩
      rw[hr2]
      exact⟨_,by rw[zAA hn]; rfl,fun h=>absurd h hn⟩
theorem zCp (n:Nat) (t:Nd) (h:t.w+45<n) (hb:t.w<=67108864):zAR n t=some (zAz t):=by
 obtain⟨y,h1,_⟩:=zTd n t 0 1 h hb (by omega) (by omega)
 rw[show((0:Nat):Int)=0 from rfl,show((1:Nat):Int)=1 from rfl]at h1;obtain⟨k,s,c,ks⟩:=t;unfold zAR zAz;have hk:zGm=some ():=rfl;simp only[hk,h1,obs,Nd.kind]
 cases k == 1 with
 | false=>rfl
 | true =>
  simp only[cond_true,obs,Bool.true_and,Option.some.injEq,okN]
  cases zFZ (.mk k s c ks) with
  | false=>simp
  | true =>
   by_cases g1:(Nd.mk k s c ks).cnt<=1000
   ·by_cases g2:(Nd.mk k s c ks).dep<=24
    ·rw[zAB g1,zAB g2,zAB ⟨rfl,by omega,by omega⟩]; rfl
    ·rw[zAB g1,zAA g2,zAA (fun h=>g2 (by omega))]; rfl
   ·rw[zAA g1,zAA (fun h=>g1 (by omega))]; rfl
def Nd.text:Nd->List UInt8 | .mk _ t _ _=>t
def Nd.cols:Nd->Int | .mk _ _ c _=>c
theorem Nd.cnt_kids:∀ x:Nd,x.cnt=Nd.cnts x.kids+1
 | .mk _ _ _ _=>rfl
def zXE (x y:Nd):Bool:=(x.kind == y.kind)&&(((x.kids.length:Int) == (y.kids.length:Int))&&(x.cols == y.cols))
def rowD (P:Nd->Nd->Nat) (x:Nd) (f:List Nd->Nat):List Nd->Nat
 | []=>x.cnt+f []
 | y::ys=>if zXE x y then min (min (x.cnt+f (y::ys)) (y.cnt+rowD P x f ys)) (P x y+f ys) else min (x.cnt+f (y::ys)) (y.cnt+rowD P x f ys)
def TD (P:Nd->Nd->Nat):List Nd->List Nd->Nat
 | []=>Nd.cnts
 | x::xs=>rowD P x (TD P xs)
def sumD (f:List Nd->List Nd->Nat):List Nd->List Nd->Nat
 | u::us,v::vs=>f u.kids v.kids+sumD f us vs
 | _,_=>0
def txt (x y:Nd):Nat:=bif x.text == y.text then 0 else 1
def PD:Nat->Nd->Nd->Nat
 | 0,_,_=>0
 | n+1,x,y=>txt x y+sumD (TD (PD n)) x.kids y.kids
def D (x y:Nd):Nat:=PD x.cnt x y
theorem zGT {k:Int}:∀ {a:List Nd}{v:Nd},zEe k a=true->v∈a->zFZ v=true/\((v.kind == 1) == (k == 1))=false
 | u::a,v,h,hm=>by
  simp only[zEe,Bool.and_eq_true,Bool.not_eq_true']at h;rcases List.mem_cons.1 hm with rfl | hm
  ·exact⟨h.1.2,h.1.1⟩
  ·exact zGT h.2 hm
theorem zTj {u:Nd} (h:zFZ u=true) (hk:u.kind=1):u = .mk 1 [] 0 u.kids/\zEe 1 u.kids=true:=by
 obtain⟨k,t,c,ks⟩:=u;simp only[Nd.kind]at hk;subst hk;simp only[zFZ,Bool.and_eq_true]at h;obtain⟨⟨h1,h2⟩,h3⟩:=h;have h1':(t == [])=true:=h1;have h2':((c == 0)&&decide ((ks.length:Int)<=200))=true:=h2;simp only[Bool.and_eq_true]at h2';rw[eq_of_beq h1',eq_of_beq h2'.1]
 exact⟨rfl,h3⟩
theorem zRQ {F:Nd->Nd->Option Bool}{a b:List Nd} (hF:∀ u∈a,∀ v∈b,∃ y,F u v=some y/\(y=true↔u=v)) (hl:a.length=b.length) (hb:a.length<=1073741824) :
  ∀ (q i:Nat),a.length - i<q->i<=a.length->∃ y,zBp F a b q (i:Int)=some (if y then .go () else .ret false)/\(y=true↔a.drop i=b.drop i)
 | 0,_,h,_=>by omega
 | q+1,i,hq,hi=>by
  unfold zBp
  by_cases h:i<a.length
  ·have h':i<b.length :=(by omega);rw[zAB (Int.ofNat_lt.2 h),cond_true,zAT h,zAT h']
   obtain⟨y,f1,f2⟩:=hF _ (List.getElem_mem h) _ (List.getElem_mem h')
   have d1:=List.drop_eq_getElem_cons h;have d2:=List.drop_eq_getElem_cons h';rcases e:a[i] with ⟨x1,x2,x3,x4⟩
   rcases e':b[i] with ⟨y1,y2,y3,y4⟩
   rw[e,e']at f1 f2;rw[e]at d1;rw[e']at d2;simp only[obs,f1]
   cases y with
   | false =>
    refine⟨false,rfl,⟨(fun h=>by cases h),fun h=>?_⟩⟩
    rw[d1,d2]at h;exact f2.2 (List.cons.inj h).1
   | true =>
    simp only[Bool.not_true,cond_false]
    rw[zAE (by omega)]
    obtain⟨z,g1,g2⟩:=zRQ hF hl hb q (i+1) (by omega) (by omega)
    refine⟨z,g1,?_⟩
    rw[d1,d2,g2,f2.1 rfl]
    simp
  ·rw[zAA (by omega),cond_false]
   obtain rfl:i=a.length :=(by omega);refine⟨true,rfl,?_⟩
   rw[List.drop_length,hl,List.drop_length]
   simp
theorem zOT:∀ N:Nat,(∀ x y:Nd,2 * x.cnt<N->x.cnt<=67108864->∃ r,zB7 N x y=some r/\(r=true↔x=y)) /\
  (∀ a b:List Nd,2 * Nd.cnts a+1<N->Nd.cnts a<=67108864->∃ r,zB9 N a b=some r/\(r=true↔a=b))
 | 0=>⟨fun _ _ h _=>by omega,fun _ _ h _=>by omega⟩
 | n+1=>by
  obtain⟨ih1,ih2⟩:=zOT n;refine⟨fun x y h hx=>?_,fun a b h ha=>?_⟩
  ·obtain⟨a,b,c,d⟩:=x;obtain⟨a',b',c',d'⟩:=y;simp only[Nd.cnt]at h hx;obtain⟨r,h1,h2⟩:=ih2 d d' (by omega) (by omega)
   unfold zB7;simp only[h1,obs]
   cases e1:a == a' with
   | false=>exact⟨false,rfl,⟨(fun h=>by cases h),fun h=>by cases h; simp at e1⟩⟩
   | true =>
    cases e2:b == b' with
    | false=>exact⟨false,rfl,⟨(fun h=>by cases h),fun h=>by cases h; simp at e2⟩⟩
    | true =>
     cases e3:c == c' with
     | false=>exact⟨false,rfl,⟨(fun h=>by cases h),fun h=>by cases h; simp at e3⟩⟩
     | true =>
      refine⟨r,rfl,h2.trans ⟨fun h=>?_,fun h=>by cases h; rfl⟩⟩
      rw[eq_of_beq e1,eq_of_beq e2,eq_of_beq e3,h]
  ·unfold zB9;have l1:=Nd.cnts_len a
   by_cases hl:a.length=b.length
   ·obtain⟨y,g1,g2⟩:=zRQ (F:=zB7 n) (a:=a) (b:=b) (fun u hu v _=>ih1 u v (by have:=Nd.cnts_mem hu; omega) (by have:=Nd.cnts_mem hu; omega)) hl (by omega) n 0 (by omega) (by omega)
    rw[show((0:Nat):Int)=0 from rfl]at g1;rw[hl,bne_self_eq_false,cond_false,g1]
    refine⟨y,by cases y <;> rfl,g2⟩
   ·have:((a.length:Int) != (b.length:Int))=true:=by
     unfold bne;rw[zC3 (by omega)]; rfl
    rw[this]
    exact⟨false,rfl,⟨(fun h=>by cases h),fun h=>absurd (congrArg List.length h) hl⟩⟩
theorem zKi {x:Nd} (h:zAz x=true):x = .mk 1 [] 0 x.kids/\zEe 1 x.kids=true:=by
 unfold zAz at h;simp only[Bool.and_eq_true]at h;exact zTj h.2.1 (eq_of_beq h.1)
inductive Fd:Nd->List Int->Nd->Prop
 | nil (t:Nd):Fd t [] t
 | step {k:Int} {tx:List UInt8} {c:Int} {ks:List Nd} {i:Nat} {k2:Int} {tx2:List UInt8} {c2:Int} {ks2:List Nd} {s:Nat} {z r:Nd} {p:List Int}
   (hi:ks[i]? = some (.mk k2 tx2 c2 ks2)) (hs:ks2[s]? = some z) (h:Fd z p r):Fd (.mk k tx c ks) ((i:Int)::(s:Int)::p) r
theorem Fd.find {t r:Nd}{p:List Int} (h:Fd t p r):zBx t p=some r:=by
 induction h with
 | nil t=>rw[zBx]
 | @step k tx c ks i k2 tx2 c2 ks2 s z r p hi hs _ ih =>
  have hl:=(List.getElem?_eq_some_iff.1 hi).1;have hl2:=(List.getElem?_eq_some_iff.1 hs).1;rw[zBx,if_pos ⟨by omega,show(i:Int)<(ks.length:Int) by omega⟩]
  simp only[Nd.kids,List.getD_eq_getElem?_getD,Int.toNat_natCast,hi,hs,Option.getD_some]
  rw[if_pos ⟨by omega,show(s:Int)<(ks2.length:Int) by omega⟩]
  exact ih
theorem Fd.of:∀ (N:Nat) (p:List Int) (t r:Nd),p.length<N->zBx t p=some r->Fd t p r
 | 0,p,_,_,h,_=>by omega
 | N+1,[],t,r,_,h=>by
  rw[zBx]at h;cases h;exact .nil t
 | N+1,[_],t,r,_,h=>by
  rw[zBx]at h;cases h
 | N+1,i::s::p,.mk k tx c ks,r,hN,h=>by
  rw[zBx]at h;split at h
  ·rename_i hi
   replace hi:0<=i/\i<ks.length:=hi;obtain⟨i,rfl⟩:=Int.eq_ofNat_of_zero_le hi.1;have hx:ks[i]? = some ks[i]:=List.getElem?_eq_getElem (by omega)
   generalize ks[i]=x at hx;obtain⟨k2,tx2,c2,ks2⟩:=x;simp only[Nd.kids,List.getD_eq_getElem?_getD,Int.toNat_natCast,hx,Option.getD_some]at h;split at h
   ·rename_i hs
    obtain⟨s,rfl⟩:=Int.eq_ofNat_of_zero_le hs.1;have hz:ks2[s]? = some ks2[s]:=List.getElem?_eq_getElem (by omega)
    generalize ks2[s]=z at hz;rw[Int.toNat_natCast,hz,Option.getD_some]at h;exact .step hx hz (Fd.of N p z r (by simp only[List.length_cons]at hN; omega) h)
   ·cases h
  ·cases h
theorem zXa {p:List Int}{t r:Nd} (h:zBx t p=some r):Fd t p r:=Fd.of _ p t r (Nat.lt_succ_self _) h
theorem zIc {t r:Nd}:putL t [] r=r:=by cases t; rw[putL]; intros; contradiction
theorem zEP {k:Int}{tx:List UInt8}{c:Int}{ks:List Nd}{i:Nat}{k2:Int}{tx2:List UInt8}{c2:Int}{ks2:List Nd}{s:Nat}{z r:Nd}{p:List Int} (hi:ks[i]? = some (.mk k2 tx2 c2 ks2)) (hs:ks2[s]? = some z) :
  putL (.mk k tx c ks) ((i:Int)::(s:Int)::p) r = .mk k tx c (ks.set i (.mk k2 tx2 c2 (ks2.set s (putL z p r)))):=by
 rw[putL,Int.toNat_natCast,hi]
 dsimp only;rw[Int.toNat_natCast,hs]
theorem zNn:∀ {ks:List Nd}{i:Nat}{x y:Nd},ks[i]? = some x->Nd.ws (ks.set i y)+x.w=Nd.ws ks+y.w
 | [],i,x,y,h=>by simp at h
 | v::ks,0,x,y,h=>by
  obtain rfl:v=x :=(by simpa using h);simp only[List.set_cons_zero,Nd.ws]; omega
 | v::ks,i+1,x,y,h=>by
  have:=zNn (ks:=ks) (i:=i) (x:=x) (y:=y) (by simpa using h)
  simp only[List.set_cons_succ,Nd.ws]; omega
theorem Fd.w {t z:Nd}{p:List Int} (h:Fd t p z) (r:Nd):(putL t p r).w+z.w=t.w+r.w:=by
 induction h with
 | nil t=>rw[zIc]; omega
 | @step k tx c ks i k2 tx2 c2 ks2 s z r' p hi hs _ ih =>
  rw[zEP hi hs]
  have h1:=zNn (y:=.mk k2 tx2 c2 (ks2.set s (putL z p r))) hi;have h2:=zNn (y:=putL z p r) hs;simp only[Nd.w]at *
  omega
theorem zRS {α:Type}{l:List α}{i:Nat}{x y:α} (h:l[i]? = some x):(l.set i y)[i]? = some y:=by
 rw[List.getElem?_set,if_pos rfl,if_pos (List.getElem?_eq_some_iff.1 h).1]
theorem zLH {α:Type}{l:List α}{i:Nat}{x y:α} (h:l[i]? = some x):(l.set i y).set i x=l:=by
 refine List.ext_getElem? fun j=>?_
 rw[List.set_set,List.getElem?_set]
 split
 ·rename_i e
  subst e;rw[if_pos (List.getElem?_eq_some_iff.1 h).1,h]
 ·rfl
theorem Fd.put {t z:Nd}{p:List Int} (h:Fd t p z) (r:Nd):Fd (putL t p r) p r:=by
 induction h with
 | nil t=>rw[zIc]; exact .nil r
 | @step k tx c ks i k2 tx2 c2 ks2 s z r' p hi hs _ ih =>
  rw[zEP hi hs]
  exact .step (zRS hi) (zRS hs) ih
theorem Fd.put_put {t z:Nd}{p:List Int} (h:Fd t p z) (r q:Nd):putL (putL t p r) p q=putL t p q:=by
 induction h with
 | nil t=>simp only[zIc]
 | @step k tx c ks i k2 tx2 c2 ks2 s z r' p hi hs _ ih =>
  rw[zEP hi hs,zEP hi hs,zEP (zRS hi) (zRS hs),ih]
  simp only[List.set_set]
theorem Fd.put_self {t z:Nd}{p:List Int} (h:Fd t p z):putL t p z=t:=by
 induction h with
 | nil t=>rw[zIc]
 | @step k tx c ks i k2 tx2 c2 ks2 s z r' p hi hs _ ih =>
  rw[zEP hi hs,ih]
  have e1:ks2.set s z=ks2:=by
   have:=zLH (y:=z) hs
   rwa [List.set_set]at this
  have e2:ks.set i (.mk k2 tx2 c2 ks2)=ks:=by
   have:=zLH (y:=.mk k2 tx2 c2 ks2) hi
   rwa [List.set_set]at this
  rw[e1,e2]
theorem Fd.back {t z:Nd}{p:List Int} (h:Fd t p z) (r:Nd):putL (putL t p r) p z=t:=by rw[h.put_put,h.put_self]
theorem zHQ:∀ {ks:List Nd}{v:Nd},v∈ks->v.dep<=Nd.deps ks
 | u::ks,v,h=>by
  simp only[Nd.deps]
  rcases List.mem_cons.1 h with rfl | h
  ·exact Nat.le_max_left _ _
  ·exact Nat.le_trans (zHQ h) (Nat.le_max_right _ _)
theorem zMr {k:Int}{tx:List UInt8}{c:Int}{ks:List Nd} (h:zFZ (.mk k tx c ks)=true):zEe k ks=true:=by
 simp only[zFZ,Bool.and_eq_true]at h;exact h.2
theorem Fd.form {t z:Nd}{p:List Int} (h:Fd t p z) (hf:zFZ t=true) (hk:t.kind=1):zFZ z=true/\z.kind=1:=by
 induction h with
 | nil t=>exact⟨hf,hk⟩
 | @step k tx c ks i k2 tx2 c2 ks2 s z r' p hi hs _ ih =>
  obtain⟨f1,f2⟩:=zGT (zMr hf) (List.mem_of_getElem? hi)
  obtain⟨g1,g2⟩:=zGT (zMr f1) (List.mem_of_getElem? hs)
  have hk:k=1:=hk;subst hk;have f3:(k2 == 1)=false :=(by simpa [Nd.kind] using f2);rw[f3]at g2;refine ih g1 ?_;cases e:z.kind == 1 with
  | true=>exact eq_of_beq e
  | false=>rw[e]at g2; cases g2
theorem Fd.small {t z:Nd}{p:List Int} (h:Fd t p z):z.cnt<=t.cnt/\z.dep<=t.dep/\z.w<=t.w:=by
 induction h with
 | nil t=>exact⟨Nat.le_refl _,Nat.le_refl _,Nat.le_refl _⟩
 | @step k tx c ks i k2 tx2 c2 ks2 s z r' p hi hs _ ih =>
  have m1:=Nd.w_mem (List.mem_of_getElem? hi)
  have m2:=Nd.w_mem (List.mem_of_getElem? hs)
  have n1:=Nd.cnts_mem (List.mem_of_getElem? hi)
  have n2:=Nd.cnts_mem (List.mem_of_getElem? hs)
  have d1:=zHQ (List.mem_of_getElem? hi)
  have d2:=zHQ (List.mem_of_getElem? hs)
  simp only[Nd.w,Nd.cnt,Nd.dep]at *
  omega
theorem Fd.valid {t z:Nd}{p:List Int} (h:Fd t p z) (hv:zAz t=true):zAz z=true:=by
 unfold zAz at hv ⊢;simp only[Bool.and_eq_true,decide_eq_true_eq]at hv ⊢;obtain⟨h1,h2,h3,h4⟩:=hv;obtain⟨f1,f2⟩:=h.form h2 (eq_of_beq h1)
 obtain⟨s1,s2,_⟩:=h.small;exact⟨by rw[f2]; rfl,f1,by omega,by omega⟩
mutual
def posI:List Int->Nat->List Nd->List (List Int)
 | p,i,[]=>[p++[(i:Int)]]
 | p,i,x::xs=>(p++[(i:Int)])::(posX p i x++posI p (i+1) xs)
def posX:List Int->Nat->Nd->List (List Int)
 | p,i,.mk _ _ _ ks=>posS p i 0 ks
def posS:List Int->Nat->Nat->List Nd->List (List Int)
 | _,_,_,[]=>[]
 | p,i,s,u::us=>posU (p++[(i:Int),(s:Int)]) u++posS p i (s+1) us
def posU:List Int->Nd->List (List Int)
 | p,.mk _ _ _ ks=>posI p 0 ks
end
def inL:List Nd->List Int->Prop
 | l,[o]=>0<=o/\o<=(l.length:Int)
 | l,i::s::r=>0<=i/\∃ x,l[i.toNat]? = some x/\0<=s/\∃ u,x.kids[s.toNat]? = some u/\inL u.kids r
 | _,[]=>False
theorem zMu {l:List Nd}{o:Int}:inL l [o]↔0<=o/\o<=(l.length:Int):=Iff.rfl
theorem zF0 {l:List Nd}{i s:Int}{r:List Int}:inL l (i::s::r)↔0<=i/\∃ x,l[i.toNat]? = some x/\0<=s/\∃ u,x.kids[s.toNat]? = some u/\inL u.kids r:=by
 cases r <;> rfl
mutual
theorem zTs:∀ (p:List Int) (i:Nat) (xs:List Nd) (q:List Int),q∈posI p i xs↔∃ a r,q=p++a::r/\(i:Int)<=a/\inL xs ((a - i)::r)
 | p,i,[],q=>by
  rw[posI,List.mem_singleton]
  constructor
  ·rintro rfl
   exact⟨i,[],rfl,Int.le_refl _,by rw[Int.sub_self]; exact⟨Int.le_refl _,Int.le_refl _⟩⟩
  ·rintro⟨a,r,rfl,h1,h2⟩
   cases r with
   | nil =>
    have:=zMu.1 h2
    have e:a=i:=by simp at this; omega
    rw[e]
   | cons s r =>
    obtain⟨_,x,h,_⟩:=zF0.1 h2
    simp at h
 | p,i,x::xs,q=>by
  rw[posI,List.mem_cons,List.mem_append,zV3 p i x q,zTs p (i+1) xs q]
  constructor
  ·rintro(rfl | ⟨s,r,rfl,h0,u,h1,h2⟩ | ⟨a,r,rfl,h1,h2⟩)
   ·exact⟨i,[],rfl,Int.le_refl _,by rw[Int.sub_self]; exact⟨Int.le_refl _,by simp; omega⟩⟩
   ·refine⟨i,s::r,by simp,Int.le_refl _,?_⟩
    rw[Int.sub_self]
    exact zF0.2 ⟨Int.le_refl _,x,rfl,h0,u,h1,h2⟩
   ·refine⟨a,r,rfl,by omega,?_⟩
    have e:a - (i:Int)=(a - ((i+1:Nat):Int))+1:=by omega
    rw[e]
    cases r with
    | nil =>
     have:=zMu.1 h2
     exact⟨by omega,by simp; omega⟩
    | cons s r =>
     obtain⟨g0,y,g1,g2⟩:=zF0.1 h2
     refine zF0.2 ⟨by omega,y,?_,g2⟩
     rw[show(a - ((i+1:Nat):Int)+1).toNat=(a - ((i+1:Nat):Int)).toNat+1 by omega]
     simpa using g1
  ·rintro⟨a,r,rfl,h1,h2⟩
   by_cases ha:a=i
   ·subst ha
    rw[Int.sub_self]at h2
    cases r with
    | nil=>exact .inl rfl
    | cons s r =>
     obtain⟨g0,y,g1,g2,u,g3,g4⟩:=zF0.1 h2
     obtain rfl:x=y:=by simpa using g1
     exact .inr (.inl ⟨s,r,by simp,g2,u,g3,g4⟩)
   ·refine .inr (.inr ⟨a,r,rfl,by omega,?_⟩)
    have e:a - (i:Int)=(a - ((i+1:Nat):Int))+1:=by omega
    rw[e]at h2
    cases r with
    | nil =>
     have:=zMu.1 h2
     exact⟨by omega,by simp at this; omega⟩
    | cons s r =>
     obtain⟨g0,y,g1,g2⟩:=zF0.1 h2
     refine zF0.2 ⟨by omega,y,?_,g2⟩
     rw[show(a - ((i+1:Nat):Int)+1).toNat=(a - ((i+1:Nat):Int)).toNat+1 by omega]at g1
     simpa using g1
theorem zV3:∀ (p:List Int) (i:Nat) (x:Nd) (q:List Int),q∈posX p i x↔∃ s r,q=p++[(i:Int)]++s::r/\0<=s/\∃ u,x.kids[s.toNat]? = some u/\inL u.kids r
 | p,i,.mk k t c ks,q=>by
  rw[posX,zTt p i 0 ks q]
  constructor
  ·rintro⟨s,r,h1,h2,u,h3,h4⟩
   exact⟨s,r,h1,by omega,u,by simpa [Nd.kids] using h3,h4⟩
  ·rintro⟨s,r,h1,h2,u,h3,h4⟩
   exact⟨s,r,h1,by omega,u,by simpa [Nd.kids] using h3,h4⟩
theorem zTt:∀ (p:List Int) (i s:Nat) (us:List Nd) (q:List Int),q∈posS p i s us↔∃ b r,q=p++[(i:Int)]++b::r/\(s:Int)<=b/\∃ u,us[(b - s).toNat]? = some u/\inL u.kids r
 | p,i,s,[],q=>by
  rw[posS]
  constructor
  ·intro h; cases h
  ·rintro⟨b,r,_,_,u,h,_⟩; simp at h
 | p,i,s,u::us,q=>by
  rw[posS,List.mem_append,zTu (p++[(i:Int),(s:Int)]) u q,zTt p i (s+1) us q]
  constructor
  ·rintro(⟨r,rfl,h⟩ | ⟨b,r,rfl,h1,v,h2,h3⟩)
   ·exact⟨s,r,by simp,Int.le_refl _,u,by rw[Int.sub_self]; rfl,h⟩
   ·refine⟨b,r,rfl,by omega,v,?_,h3⟩
    rw[show(b - (s:Int)).toNat=(b - ((s+1:Nat):Int)).toNat+1 by omega]
    simpa using h2
  ·rintro⟨b,r,rfl,h1,v,h2,h3⟩
   by_cases hb:b=s
   ·subst hb
    rw[Int.sub_self]at h2
    obtain rfl:u=v:=by simpa using h2
    exact .inl ⟨r,by simp,h3⟩
   ·refine .inr ⟨b,r,rfl,by omega,v,?_,h3⟩
    rw[show(b - (s:Int)).toNat=(b - ((s+1:Nat):Int)).toNat+1 by omega]at h2
    simpa using h2
theorem zTu:∀ (p:List Int) (u:Nd) (q:List Int),q∈posU p u↔∃ r,q=p++r/\inL u.kids r
 | p,.mk k t c ks,q=>by
  rw[posU,zTs p 0 ks q]
  constructor
  ·rintro⟨a,r,rfl,h1,h2⟩
   exact⟨a::r,rfl,by simpa [Nd.kids] using h2⟩
  ·rintro⟨r,rfl,h⟩
   cases r with
   | nil=>exact h.elim
   | cons a r =>
    refine⟨a,r,rfl,?_,by simpa [Nd.kids] using h⟩
    cases r with
    | nil=>exact(zMu.1 h).1
    | cons s r=>exact(zF0.1 h).1
end
def posT (t:Nd):List (List Int):=posU [] t
theorem zPn (t:Nd) (q:List Int):q∈posT t↔inL t.kids q:=by
 unfold posT;rw[zTu]
 constructor
 ·rintro⟨r,rfl,h⟩; exact h
 ·intro h; exact⟨q,rfl,h⟩
mutual
theorem zPP:∀ (p:List Int) (i:Nat) (xs:List Nd),(posI p i xs).length<=Nd.cnts xs+1
 | p,i,[]=>by rw[posI]; simp
 | p,i,x::xs=>by
  have h1:=zWg p i x
  have h2:=zPP p (i+1) xs
  rw[posI]
  simp only[List.length_cons,List.length_append,Nd.cnts]
  omega
theorem zWg:∀ (p:List Int) (i:Nat) (x:Nd),(posX p i x).length+1<=x.cnt
 | p,i,.mk k t c ks=>by
  have h:=zTB p i 0 ks
  rw[posX]
  simp only[Nd.cnt]
  omega
theorem zTB:∀ (p:List Int) (i s:Nat) (us:List Nd),(posS p i s us).length<=Nd.cnts us
 | p,i,s,[]=>by rw[posS]; simp
 | p,i,s,u::us=>by
  have h1:=zTC (p++[(i:Int),(s:Int)]) u
  have h2:=zTB p i (s+1) us
  rw[posS]
  simp only[List.length_append,Nd.cnts]
  omega
theorem zTC:∀ (p:List Int) (u:Nd),(posU p u).length<=u.cnt
 | p,.mk k t c ks=>by
  have h:=zPP p 0 ks
  rw[posU]
  simp only[Nd.cnt]
  omega
end
theorem zWf (t:Nd):(posT t).length<=t.cnt:=zTC [] t
theorem zUV:∀ (q:List Int) (l:List Nd),inL l q->q.length<=2 * Nd.deps l+1
 | [],_,h=>h.elim
 | [_],_,_=>by simp
 | i::s::r,l,h=>by
  obtain⟨_,x,h1,_,u,h2,h3⟩:=zF0.1 h;have ih:=zUV r u.kids h3;have d1:=zHQ (List.mem_of_getElem? h1)
  have d2:=zHQ (List.mem_of_getElem? h2)
  have e1:x.dep=Nd.deps x.kids+1 :=(by cases x; rfl);have e2:u.dep=Nd.deps u.kids+1 :=(by cases u; rfl);simp only[List.length_cons]
  omega
def hd (l:List UInt8) (s:List UInt8):Prop:=∀ b r,l=b::r->b∈s
end Go.Proofs.YtgplhldfbkmmgaaGreat
