/-
  Joined out of: FzLA, FzLB, FzLC, FzLD, PTypO, PCnt, PByte, PText, PVal, PDist, PMet, PPut, PPos, PDump, PNode, PRow, PWith, PWt, PLeast, PLeast2.
-/
import Derived.Lib.ItoaLen
import Derived.Test.YtgplhldfbkmmgaaGreatZd
set_option linter.unusedVariables false
set_option linter.unusedSimpArgs false
set_option maxHeartbeats 2000000
set_option maxRecDepth 100000
namespace Go.Proofs.YtgplhldfbkmmgaaGreat
open Go.Abs
def zQN (n:Nat) (xs:List AV) (r:Ret):Prop:=∃ (a0:List UInt8) (y0:Bool),zFd n a0=some y0/\xs=[.s (.str a0)]/\r = .val (.s (.bool y0))
def zLI:zAq:=zAw fun xs r=>∃ n,zQN n xs r
theorem zPJ:PSound Tryz.prog 72 zLI:=by
 have gok:=@gok0 Tryz.prog;refine zAC tokW Tryz.call72 Tryz.func72 rfl (fun xs r h=>by obtain⟨n,_,_,_,rfl,_⟩:=h; show 1<=23; decide) 23 rfl ?_;rintro xs r w0 G0 ⟨n,s1,y0,h,rfl,rfl⟩ _;rw[zFd]at h;refine zZO ?_;refine zAa ?_;refine zZO ?_;show Tri ..;obtain⟨fl,hl,ho1⟩:=zAc h;refine zDe (fl:=fl) (fun z=>match z with | _=>⟨ofL [(0,.s (.str s1))],fun _=>none,0⟩) ?_ (fun z σ' hz hle=>?_)
 ·refine zAk (zAD (X:=Nat×Int) (fun y=>match y with | (k,i2)=>⟨ofL [(0,.s (.str s1)),(3,.s (.int .i64 i2))],fun _=>none,0⟩) (fun y=>zBU s1 y.1 y.2=some fl) (fun y=>y.1) (n,0) hl ?_ ?_)
  ·exact(Le.forget _ ⟨rfl,rfl,trivial⟩)
  ·rintro⟨k,i2⟩ h;cases k with
   | zero=>cases h
   | succ k =>
    replace h:zBU s1 (k+1) i2=some fl:=h;rw[zBU]at h;refine zAa ?_;refine zZO ?_;refine zAh rfl h (fun hb h=>?_) (fun hb h=>?_)
    ·refine zAf ?_;refine zAa ?_;refine zAk ?_;refine zAa ?_;obtain⟨x3,hj,h⟩:=zAc h;refine zAo ⟨ofL [(0,.s (.str s1)),(3,.s (.int .i64 i2)),(19,.s (.bool x3))],fun _=>none,0⟩ ?_ (fun σ' hle=>?_)
     ·replace h:=hj;refine zAb [] [12,14,17] rfl ?_;obtain⟨c4,hc4,h⟩:=zAc h;refine And.intro (zFv hc4).1 ?_;intro v5 hv5;obtain rfl:(c4.toNat:Int)=v5:=(hv5.trans (zFv hc4).2).symm;intro b hb;cases b with
      | true =>
       replace h:=zAF hb.symm h;cases h;exact(Le.forget _ ⟨rfl,rfl,rfl,trivial⟩)
      | false =>
       replace h:=zAE hb.symm h;obtain⟨c6,hc6,h⟩:=zAc h;refine And.intro (zFv hc6).1 ?_;intro v7 hv7;obtain rfl:(c6.toNat:Int)=v7:=(hv7.trans (zFv hc6).2).symm;cases h;exact(Le.forget _ ⟨rfl,rfl,rfl,trivial⟩)
     ·refine zAj hle ?_;refine zAh rfl h (fun hb h=>?_) (fun hb h=>?_)
      ·refine zZO ?_;refine zAe ?_;cases h;replace h:some _=some _:=ho1;have hy:=osi h;subst hy;exact fin0 rfl rfl
      ·refine zAf ?_;refine zZN ?_;refine⟨(k,IntKind.i64.wrap (i2+1)),h,(Le.forget _ ⟨rfl,rfl,trivial⟩),Nat.lt_succ_self k⟩
    ·refine zAJ ?_;cases h;exact⟨_,rfl,(Le.forget _ ⟨rfl,trivial⟩)⟩
 ·subst hz;obtain _:=z;replace h:=ho1;refine zAj hle ?_;refine zZO ?_;refine zAe ?_;have hy:=osi h;subst hy;exact fin0 rfl rfl
def zQS (n:Nat) (xs:List AV) (r:Ret):Prop:=∃ (a0:Nd) (a1:List Int) (y0:Bool),zFf n a0 a1=some y0/\xs=[.agg ((Nd.enc a0).map .s),.s (.sl 1 ((List.map (irow .i64)) a1))]/\r = .val (.s (.bool y0))
def zLM:zAq:=zAw fun xs r=>∃ n,zQS n xs r
theorem zPN:PSound Tryz.prog 149 zLM:=by
 have gok:=@gok0 Tryz.prog;refine zAC tokW Tryz.call149 Tryz.func149 rfl (fun xs r h=>by obtain⟨n,_,_,_,_,rfl,_⟩:=h; show 2<=77; decide) 77 rfl ?_;rintro xs r w0 G0 ⟨n,⟨a1A,a1B,a1F,a1E⟩,a2,y0,h,rfl,rfl⟩ _;rw[zFf]at h;refine zZO ?_;refine zZO ?_;refine zAa ?_;obtain⟨fl,hl,ho1⟩:=zAc h
 refine zDe (fl:=fl) (fun z=>match z with | ⟨x5,⟨x6A,x6B,x6F,x6E⟩⟩=>⟨ofL [(1,.s (.sl 1 ((List.map (irow .i64)) x5))),(5,.s (.pt [.int .i64 x6A,.str x6B,.int .i64 x6F,.sl 4 (Nd.encs x6E)]))],fun _=>none,0⟩) ?_ (fun z σ' hz hle=>?_)
 ·refine zAk (zAD (X:=Nat×(List Int)×Nd) (fun y=>match y with | (k,x3,⟨x4A,x4B,x4F,x4E⟩)=>⟨ofL [(1,.s (.sl 1 ((List.map (irow .i64)) x3))),(5,.s (.pt [.int .i64 x4A,.str x4B,.int .i64 x4F,.sl 4 (Nd.encs x4E)]))],fun _=>none,0⟩) (fun y=>zCq  y.1 y.2.1 y.2.2=some fl) (fun y=>y.1) (n,a2,Nd.mk a1A a1B a1F a1E) hl ?_ ?_)
  ·exact(Le.forget _ ⟨rfl,rfl,trivial⟩)
  ·rintro⟨k,x3,⟨x4A,x4B,x4F,x4E⟩⟩ h;cases k with
   | zero=>cases h
   | succ k =>
    replace h:zCq  (k+1) x3 ⟨x4A,x4B,x4F,x4E⟩=some fl:=h;rw[zCq]at h;refine zAa ?_;refine zYZ [] [9] rfl ?_;intro n7 hn7;obtain rfl:(x3.length:Int)=n7:=(hn7.trans (congrArg (fun m:Nat=>(m:Int)) (rlen (fun _=>rfl) x3))).symm;refine zAh rfl h (fun hb h=>?_) (fun hb h=>?_)
    ·refine zAf ?_;refine zAa ?_;refine zAk ?_;refine zAa ?_;refine zBw [] [14,17] [] rfl (by decide +kernel) ?_;obtain⟨e8,he8,h⟩:=zAc h;refine And.intro (zAt (fun _=>rfl) he8).1 ?_;intro r9 hr9;obtain rfl:[.int .i64 e8]=r9:=(hr9.trans (zAt (fun _=>rfl) he8).2.1).symm;obtain⟨e10,he10,h⟩:=zAc h;refine And.intro (zAt (fun _=>rfl) he10).1 ?_;intro r11 hr11;obtain rfl:[.int .i64 e10]=r11:=(hr11.trans (zAt (fun _=>rfl) he10).2.1).symm;refine zAa ?_;refine zAa ?_;obtain⟨x12,hj,h⟩:=zAc h
     refine zAo ⟨ofL [(1,.s (.sl 1 ((List.map (irow .i64)) x3))),(5,.s (.pt [.int .i64 x4A,.str x4B,.int .i64 x4F,.sl 4 (Nd.encs x4E)])),(6,.s (.int .i64 e8)),(7,.s (.int .i64 e10)),(46,.s (.bool x12))],fun _=>none,0⟩ ?_ (fun σ' hle=>?_)
     ·replace h:=hj;refine zAb [] [21,27,30,34,41,44] rfl ?_;intro b hb;cases b with
      | true =>
       replace h:=zAF hb.symm h;intro b hb;subst hb;intro b hb;subst hb;cases h;exact(Le.forget _ ⟨rfl,rfl,rfl,rfl,rfl,trivial⟩)
      | false =>
       replace h:=zAE hb.symm h;intro n13 hn13;obtain rfl:(x4E.length:Int)=n13:=(hn13.trans (congrArg (fun m:Nat=>(m:Int)) (rlen Nd.encs_eq x4E))).symm;intro b hb;cases b with
       | true =>
        replace h:=zAF hb.symm h;intro b hb;subst hb;cases h;exact(Le.forget _ ⟨rfl,rfl,rfl,rfl,rfl,trivial⟩)
       | false =>
        replace h:=zAE hb.symm h;intro b hb;cases b with
        | true =>
         replace h:=zAF hb.symm h;cases h;exact(Le.forget _ ⟨rfl,rfl,rfl,rfl,rfl,trivial⟩)
        | false =>
         replace h:=zAE hb.symm h;obtain⟨⟨e14A,e14B,e14F,e14E⟩,he14,h⟩:=zAc h;refine And.intro (zAt Nd.encs_eq he14).1 ?_;intro r15 hr15;obtain rfl:[.int .i64 e14A,.str e14B,.int .i64 e14F,.sl 4 (Nd.encs e14E)]=r15:=(hr15.trans (zAt Nd.encs_eq he14).2.1).symm;intro n16 hn16;obtain rfl:(e14E.length:Int)=n16:=(hn16.trans (congrArg (fun m:Nat=>(m:Int)) (rlen Nd.encs_eq e14E))).symm;cases h;exact(Le.forget _ ⟨rfl,rfl,rfl,rfl,rfl,trivial⟩)
     ·refine zAj hle ?_;refine zAh rfl h (fun hb h=>?_) (fun hb h=>?_)
      ·refine zZO ?_;refine zAe ?_;cases h;replace h:some _=some _:=ho1;have hy:=osi h;subst hy;exact fin0 rfl rfl
      ·refine zAf ?_;refine zAb [] [52,56] rfl ?_;obtain⟨⟨e17A,e17B,e17F,e17E⟩,he17,h⟩:=zAc h;refine And.intro (zAt Nd.encs_eq he17).1 ?_;intro r18 hr18;obtain rfl:[.int .i64 e17A,.str e17B,.int .i64 e17F,.sl 4 (Nd.encs e17E)]=r18:=(hr18.trans (zAt Nd.encs_eq he17).2.1).symm;obtain⟨⟨e19A,e19B,e19F,e19E⟩,he19,h⟩:=zAc h;refine And.intro (zAt Nd.encs_eq he19).1 ?_;intro r20 hr20;obtain rfl:[.int .i64 e19A,.str e19B,.int .i64 e19F,.sl 4 (Nd.encs e19E)]=r20:=(hr20.trans (zAt Nd.encs_eq he19).2.1).symm;refine zAb [] [12] rfl ?_
       obtain⟨hq,h⟩:=zAI h;refine And.intro ⟨hq.1,Int.le_trans hq.2.1 (Int.ofNat_le.2 (Nat.le_of_eq (rlen (fun _=>rfl) _).symm)),Int.le_refl _⟩ ?_;intro r21 hr21;obtain rfl:(List.map (irow .i64)) ((x3.take (x3.length:Int).toNat).drop (2:Int).toNat)=r21:=(hr21.trans ((congrArg (fun m:Nat=>(((List.map (irow .i64)) x3).take m).drop (2:Int).toNat) (rlen (fun _=>rfl) _)).trans (rcut (fun _=>rfl) _ _ _))).symm;refine⟨(k,(x3.take (x3.length:Int).toNat).drop (2:Int).toNat,Nd.mk e19A e19B e19F e19E),h,(Le.forget _ ⟨rfl,rfl,trivial⟩),Nat.lt_succ_self k⟩
    ·refine zAJ ?_;cases h;exact⟨_,rfl,(Le.forget _ ⟨rfl,rfl,trivial⟩)⟩
 ·subst hz;obtain⟨x5,⟨x6A,x6B,x6F,x6E⟩⟩:=z;replace h:=ho1;refine zAj hle ?_;refine zAa ?_;obtain⟨x22,hj,h⟩:=zAc h;refine zAo ⟨ofL [(4,.s (.bool x22))],fun _=>none,0⟩ ?_ (fun σ' hle=>?_)
  ·replace h:=hj;refine zBw [] [58,60,62,66,68,74] [] rfl (by decide +kernel) ?_;intro n23 hn23;obtain rfl:(x5.length:Int)=n23:=(hn23.trans (congrArg (fun m:Nat=>(m:Int)) (rlen (fun _=>rfl) x5))).symm;intro b hb;cases b with
   | true =>
    replace h:=zAF hb.symm h;obtain⟨e24,he24,h⟩:=zAc h;refine And.intro (zAt (fun _=>rfl) he24).1 ?_;intro r25 hr25;obtain rfl:[.int .i64 e24]=r25:=(hr25.trans (zAt (fun _=>rfl) he24).2.1).symm;intro b hb;cases b with
    | true =>
     replace h:=zAF hb.symm h;obtain⟨e26,he26,h⟩:=zAc h;refine And.intro (zAt (fun _=>rfl) he26).1 ?_;intro r27 hr27;obtain rfl:[.int .i64 e26]=r27:=(hr27.trans (zAt (fun _=>rfl) he26).2.1).symm;intro n28 hn28;obtain rfl:(x6E.length:Int)=n28:=(hn28.trans (congrArg (fun m:Nat=>(m:Int)) (rlen Nd.encs_eq x6E))).symm;cases h;exact(Le.forget _ ⟨rfl,trivial⟩)
    | false =>
     replace h:=zAE hb.symm h;cases h;exact(Le.forget _ ⟨rfl,trivial⟩)
   | false =>
    replace h:=zAE hb.symm h;intro b hb;subst hb;cases h;exact(Le.forget _ ⟨rfl,trivial⟩)
  ·refine zAj hle ?_;refine zAe ?_;have hy:=osi h;subst hy;exact fin0 rfl rfl
def zNv (n:Nat) (xs:List AV) (r:Ret):Prop:=∃ (a0:Nd) (a1:List Int) (y0:Bool),zC0 n a0 a1=some y0/\xs=[.agg ((Nd.enc a0).map .s),.s (.sl 1 ((List.map (irow .i64)) a1))]/\r = .val (.s (.bool y0))
def zIP:zAq:=zAw fun xs r=>∃ n,zNv n xs r
theorem zML:PSound Tryz.prog 112 zIP:=by
 have gok:∀ f s,look? f [(73,zDw),(149,zLM)]=some s->PSound Tryz.prog f s:=zAl (by
  simp only[List.forall_mem_cons]
  exact⟨zDH,zPN,by simp⟩)
 refine zAC tokW Tryz.call112 Tryz.func112 rfl (fun xs r h=>by obtain⟨n,_,_,_,_,rfl,_⟩:=h; show 2<=12; decide) 12 rfl ?_;rintro xs r w0 G0 ⟨n,⟨n1A,n1B,n1F,n1E⟩,pos2,y0,h,rfl,rfl⟩ _;rw[zC0]at h;refine zZO ?_;refine zAa ?_;obtain⟨x3,hj,h⟩:=zAc h;refine zAo ⟨ofL [(4,.s (.bool x3))],fun _=>none,0⟩ ?_ (fun σ' hle=>?_)
 ·replace h:=hj;refine zAb [] [7] rfl ?_;obtain⟨y4,hy4,h⟩:=zAc h;refine⟨_,⟨_,_,_,hy4,rfl,rfl⟩,?_⟩
  intro b hb;cases b with
  | true =>
   replace h:=zAF hb.symm h;obtain⟨y5,hy5,h⟩:=zAc h;refine⟨_,⟨_,_,_,_,hy5,rfl,rfl⟩,?_⟩
   cases h;exact(Le.forget _ ⟨rfl,trivial⟩)
  | false =>
   replace h:=zAE hb.symm h;cases h;exact(Le.forget _ ⟨rfl,trivial⟩)
 ·refine zAj hle ?_;refine zAe ?_;have hy:=osi h;subst hy;exact fin0 rfl rfl
def zB6 (p:zCu):List S:=[.sl 1 ((List.map (irow .i64)) p.1),.sl 1 ((List.map (irow .i64)) p.2)]
def zPt (n:Nat) (xs:List AV) (r:Ret):Prop:=∃ (a0:Nd) (a1:zCu) (y0:Bool),zDh n a0 a1=some y0/\xs=[.agg ((Nd.enc a0).map .s),.agg ((zB6 a1).map .s)]/\r = .val (.s (.bool y0))
def zKw:zAq:=zAw fun xs r=>∃ n,zPt n xs r
theorem zOL:PSound Tryz.prog 75 zKw:=by
 have gok:∀ f s,look? f [(112,zIP)]=some s->PSound Tryz.prog f s:=zAl (by
  simp only[List.forall_mem_cons]
  exact⟨zML,by simp⟩)
 refine zAC tokW Tryz.call75 Tryz.func75 rfl (fun xs r h=>by obtain⟨n,_,_,_,_,rfl,_⟩:=h; show 2<=21; decide) 21 rfl ?_;rintro xs r w0 G0 ⟨n,⟨n1A,n1B,n1F,n1E⟩,⟨c2Ai,c2Ah⟩,y0,h,rfl,rfl⟩ _;rw[zDh]at h;refine zZO ?_;refine zAa ?_;obtain⟨x3,hj,h⟩:=zAc h;refine zAo ⟨ofL [(4,.s (.bool x3))],fun _=>none,0⟩ ?_ (fun σ' hle=>?_)
 ·replace h:=hj;refine zAb [] [9,12,14] rfl ?_;obtain⟨y4,hy4,h⟩:=zAc h;refine⟨_,⟨_,_,_,_,hy4,rfl,rfl⟩,?_⟩
  intro b hb;cases b with
  | true =>
   replace h:=zAF hb.symm h;intro n5 hn5;obtain rfl:(c2Ah.length:Int)=n5:=(hn5.trans (congrArg (fun m:Nat=>(m:Int)) (rlen (fun _=>rfl) c2Ah))).symm;intro b hb;cases b with
   | true =>
    replace h:=zAF hb.symm h;cases h;exact(Le.forget _ ⟨rfl,trivial⟩)
   | false =>
    replace h:=zAE hb.symm h;obtain⟨y6,hy6,h⟩:=zAc h;refine⟨_,⟨_,_,_,_,hy6,rfl,rfl⟩,?_⟩
    cases h;exact(Le.forget _ ⟨rfl,trivial⟩)
  | false =>
   replace h:=zAE hb.symm h;cases h;exact(Le.forget _ ⟨rfl,trivial⟩)
 ·refine zAj hle ?_;refine zAe ?_;have hy:=osi h;subst hy;exact fin0 rfl rfl
def zAi (p:zRc):List S:=[.sl 8 ((List.map zAn) p.1),.sl 1 ((List.map (irow .i64)) p.2.1.1),.sl 1 ((List.map (irow .i64)) p.2.1.2),.sl 1 ((List.map (irow .i64)) p.2.2.1),.sl 1 ((List.map (irow .i64)) p.2.2.2)]
def zBd:(List UInt8×Nd×List zRc×Int)->List S
| ⟨p_title,⟨p_origin_kind,p_origin_text,p_origin_cols,p_origin_kids⟩,p_records,p_done⟩=>[.str p_title,.int .i64 p_origin_kind,.str p_origin_text,.int .i64 p_origin_cols,.sl 4 (Nd.encs p_origin_kids),.sl 5 ((List.map zAi) p_records),.int .i64 p_done]
def zPu (n:Nat) (xs:List AV) (r:Ret):Prop:=∃ (a0:(List UInt8×Nd×List zRc×Int)) (a1:Int) (y0:Nd) (y1:Bool),zDi n a0 a1=some (y0,y1)/\xs=[.agg ((zBd a0).map .s),.s (.int .i64 a1)]/\r = .val (.tup [.agg ((Nd.enc y0).map .s),.s (.bool y1)])
def zKx:zAq:=zAw fun xs r=>∃ n,zPu n xs r
theorem zOM:PSound Tryz.prog 33 zKx:=by
 have gok:∀ f s,look? f [(72,zLI),(73,zDw),(53,zGL),(74,zI5),(75,zKw)]=some s->PSound Tryz.prog f s:=zAl (by
  simp only[List.forall_mem_cons]
  exact⟨zPJ,zDH,zHF,zND,zOL,by simp⟩)
 refine zAC tokW Tryz.call33 Tryz.func33 rfl (fun xs r h=>by obtain⟨n,_,_,_,_,_,rfl,_⟩:=h; show 2<=88; decide) 88 rfl ?_;rintro xs r w0 G0 ⟨n,⟨a1U,⟨a1Q,a1R,a1S,a1T⟩,a1H,a1V⟩,a2,y0,y1,h,rfl,rfl⟩ _;rw[zDi]at h;refine zYZ [4] [] rfl ?_;refine zAa ?_;refine zAa ?_;obtain⟨x3,hj,h⟩:=zAc h
 refine zAo ⟨ofL [(1,.s (.int .i64 a2)),(2,.s (.pt [.str a1U,.int .i64 a1Q,.str a1R,.int .i64 a1S,.sl 4 (Nd.encs a1T),.sl 5 ((List.map zAi) a1H),.int .i64 a1V])),(4,.op 0 0),(41,.s (.bool x3))],ofH [(0,.box 24 [.s (.int .i64 0),.s (.str []),.s (.int .i64 0),.nl 4])],1⟩ ?_ (fun σ' hle=>?_)
 ·replace h:=hj;refine zAb [] [17,23,26,29,34,39] rfl ?_;obtain⟨y4,hy4,h⟩:=zAc h;refine⟨_,⟨_,_,_,hy4,rfl,rfl⟩,?_⟩
  intro b hb;cases b with
  | true =>
   replace h:=zAF hb.symm h;intro b hb;subst hb;intro b hb;subst hb;intro b hb;subst hb;cases h;exact(Le.rnm [(0,0)] _ _ _ ⟨rfl,rfl,rfl,rfl,trivial⟩ ⟨rfl,⟨_,rfl,rfl⟩,trivial⟩)
  | false =>
   replace h:=zAE hb.symm h;obtain⟨y5,hy5,h⟩:=zAc h;refine⟨_,⟨_,_,_,hy5,rfl,rfl⟩,?_⟩
   intro b hb;cases b with
   | true =>
    replace h:=zAF hb.symm h;intro b hb;subst hb;intro b hb;subst hb;cases h;exact(Le.rnm [(0,0)] _ _ _ ⟨rfl,rfl,rfl,rfl,trivial⟩ ⟨rfl,⟨_,rfl,rfl⟩,trivial⟩)
   | false =>
    replace h:=zAE hb.symm h;intro n6 hn6;obtain rfl:(a1H.length:Int)=n6:=(hn6.trans (congrArg (fun m:Nat=>(m:Int)) (rlen (fun _=>rfl) a1H))).symm;intro b hb;cases b with
    | true =>
     replace h:=zAF hb.symm h;intro b hb;subst hb;cases h;exact(Le.rnm [(0,0)] _ _ _ ⟨rfl,rfl,rfl,rfl,trivial⟩ ⟨rfl,⟨_,rfl,rfl⟩,trivial⟩)
    | false =>
     replace h:=zAE hb.symm h;intro b hb;cases b with
     | true =>
      replace h:=zAF hb.symm h;cases h;exact(Le.rnm [(0,0)] _ _ _ ⟨rfl,rfl,rfl,rfl,trivial⟩ ⟨rfl,⟨_,rfl,rfl⟩,trivial⟩)
     | false =>
      replace h:=zAE hb.symm h;intro n7 hn7;obtain rfl:(a1H.length:Int)=n7:=(hn7.trans (congrArg (fun m:Nat=>(m:Int)) (rlen (fun _=>rfl) a1H))).symm;cases h;exact(Le.rnm [(0,0)] _ _ _ ⟨rfl,rfl,rfl,rfl,trivial⟩ ⟨rfl,⟨_,rfl,rfl⟩,trivial⟩)
 ·refine zAj hle ?_;refine zAh rfl h (fun hb h=>?_) (fun hb h=>?_)
  ·refine zZO ?_;refine zAe ?_;obtain⟨hj1,hk1⟩:=pij h;subst hj1 hk1;exact fin0 rfl rfl
  ·refine zAf ?_;refine zYZ [6] [] rfl ?_;obtain⟨⟨y8A,y8B,y8F,y8E⟩,hy8,h⟩:=zAc h;refine⟨_,⟨_,_,hy8,rfl,rfl⟩,?_⟩
   refine zYZ [7] [] rfl ?_;refine zAa ?_;refine zYZ [] [49] rfl ?_;intro n9 hn9;obtain rfl:(a1H.length:Int)=n9:=(hn9.trans (congrArg (fun m:Nat=>(m:Int)) (rlen (fun _=>rfl) a1H))).symm;show Tri ..;obtain⟨fl,hl,ho1⟩:=zAc h;refine zDe (fl:=fl) (fun z=>match z with | ⟨x20,x21,x22,x23⟩=>⟨ofL [(4,.op 0 0),(7,.op 1 0)],ofH [(0,.box 24 [.s (.int .i64 0),.s (.str []),.s (.int .i64 0),.nl 4]),(1,.box 24 [.s (.int .i64 x20),.s (.str x21),.s (.int .i64 x22),.s (.sl 4 (Nd.encs x23))])],2⟩) ?_ (fun z σ' hz hle=>?_)
   ·refine zAk (zAD (X:=Nat×Int×(List UInt8)×Int×(List Nd)×Int×(List UInt8)×Int×(List Nd)×Int) (fun y=>match y with | (k,x11,x12,x13,x14,x15,x16,x17,x18,x19)=>⟨ofL [(1,.s (.int .i64 a2)),(4,.op 0 0),(6,.op 1 0),(7,.op 2 0),(48,.s (.sl 5 ((List.map zAi) a1H))),(49,.s (.int .i64 (a1H.length:Int))),(50,.s (.int .i64 x19))],ofH [(0,.box 24 [.s (.int .i64 0),.s (.str []),.s (.int .i64 0),.nl 4]),(1,.box 24 [.s (.int .i64 x11),.s (.str x12),.s (.int .i64 x13),.s (.sl 4 (Nd.encs x14))]),(2,.box 24 [.s (.int .i64 x15),.s (.str x16),.s (.int .i64 x17),.s (.sl 4 (Nd.encs x18))])],3⟩) (fun y=>zB4 n a1H a2 y.1 y.2.1 y.2.2.1 y.2.2.2.1 y.2.2.2.2.1 y.2.2.2.2.2.1 y.2.2.2.2.2.2.1 y.2.2.2.2.2.2.2.1 y.2.2.2.2.2.2.2.2.1 y.2.2.2.2.2.2.2.2.2=some fl) (fun y=>y.1) (n,y8A,y8B,y8F,y8E,y8A,y8B,y8F,y8E,0) hl ?_ ?_)
    ·exact(Le.rnm [(0,0),(1,1),(2,2)] _ _ _ ⟨rfl,rfl,rfl,rfl,rfl,rfl,rfl,trivial⟩ ⟨rfl,⟨_,rfl,rfl⟩,rfl,⟨_,rfl,rfl⟩,rfl,⟨_,rfl,rfl⟩,trivial⟩)
    ·rintro⟨k,x11,x12,x13,x14,x15,x16,x17,x18,x19⟩ h;cases k with
     | zero=>cases h
     | succ k =>
      replace h:zB4 n a1H a2 (k+1) x11 x12 x13 x14 x15 x16 x17 x18 x19=some fl:=h;rw[zB4]at h;refine zZO ?_;refine zAa ?_;refine zAh rfl h (fun hb h=>?_) (fun hb h=>?_)
      ·refine zAf ?_;refine zAa ?_;obtain⟨fl,hj,ho2⟩:=zAc h
       refine zDe (fl:=fl) (fun z=>match z with | ⟨x24,x25,x26,x27,x28,x29,x30,x31⟩=>⟨ofL [(1,.s (.int .i64 a2)),(4,.op 0 0),(6,.op 1 0),(7,.op 2 0),(48,.s (.sl 5 ((List.map zAi) a1H))),(49,.s (.int .i64 (a1H.length:Int))),(50,.s (.int .i64 x19))],ofH [(0,.box 24 [.s (.int .i64 0),.s (.str []),.s (.int .i64 0),.nl 4]),(1,.box 24 [.s (.int .i64 x24),.s (.str x25),.s (.int .i64 x26),.s (.sl 4 (Nd.encs x27))]),(2,.box 24 [.s (.int .i64 x28),.s (.str x29),.s (.int .i64 x30),.s (.sl 4 (Nd.encs x31))])],3⟩) ?_ (fun z σ' hz hle=>?_)
       ·replace h:=hj;refine zAk ?_;refine zYZ [9] [53] rfl ?_;obtain⟨⟨e32P,⟨e32W,e32X⟩,⟨e32Y,e32Z⟩⟩,he32,h⟩:=zAc h;refine And.intro (zAt (fun _=>rfl) he32).1 ?_;intro r33 hr33;obtain rfl:[.sl 8 ((List.map zAn) e32P),.sl 1 ((List.map (irow .i64)) e32W),.sl 1 ((List.map (irow .i64)) e32X),.sl 1 ((List.map (irow .i64)) e32Y),.sl 1 ((List.map (irow .i64)) e32Z)]=r33:=(hr33.trans (zAt (fun _=>rfl) he32).2.1).symm;show Tri ..
        refine zAj (Le.giveBox 3 [.sl 8 ((List.map zAn) e32P),.sl 1 ((List.map (irow .i64)) e32W),.sl 1 ((List.map (irow .i64)) e32X),.sl 1 ((List.map (irow .i64)) e32Y),.sl 1 ((List.map (irow .i64)) e32Z)] rfl rfl) ?_;refine zYZ [10] [] rfl ?_;obtain⟨⟨⟨y34A,y34B,y34F,y34E⟩,y35,y36⟩,hy34,h⟩:=zAc h;refine⟨_,⟨_,_,_,_,_,_,hy34,rfl,rfl⟩,?_⟩
        refine zAj (Le.giveBox 4 [.int .i64 y34A,.str y34B,.int .i64 y34F,.sl 4 (Nd.encs y34E)] rfl rfl) ?_;refine zAa ?_;refine zAa ?_;obtain⟨x37,hj,h⟩:=zAc h
        refine zAo ⟨ofL [(1,.s (.int .i64 a2)),(4,.op 0 0),(6,.op 1 0),(7,.op 2 0),(8,.s (.int .i64 x19)),(10,.s (.pt [.int .i64 y34A,.str y34B,.int .i64 y34F,.sl 4 (Nd.encs y34E)])),(48,.s (.sl 5 ((List.map zAi) a1H))),(49,.s (.int .i64 (a1H.length:Int))),(50,.s (.int .i64 x19)),(78,.s (.bool x37))],ofH [(0,.box 24 [.s (.int .i64 0),.s (.str []),.s (.int .i64 0),.nl 4]),(1,.box 24 [.s (.int .i64 x11),.s (.str x12),.s (.int .i64 x13),.s (.sl 4 (Nd.encs x14))]),(2,.box 24 [.s (.int .i64 x15),.s (.str x16),.s (.int .i64 x17),.s (.sl 4 (Nd.encs x18))])],3⟩ ?_ (fun σ' hle=>?_)
        ·replace h:=hj;refine zAb [] [65,72] rfl ?_;intro b hb;cases b with
         | true =>
          replace h:=zAF hb.symm h;intro b hb;subst hb;cases h;exact(Le.rnm [(0,0),(1,1),(2,2)] _ _ _ ⟨rfl,rfl,rfl,rfl,rfl,rfl,rfl,rfl,rfl,rfl,trivial⟩ ⟨rfl,⟨_,rfl,rfl⟩,rfl,⟨_,rfl,rfl⟩,rfl,⟨_,rfl,rfl⟩,trivial⟩)
         | false =>
          replace h:=zAE hb.symm h;obtain⟨y38,hy38,h⟩:=zAc h;refine⟨_,⟨_,_,_,_,hy38,rfl,rfl⟩,?_⟩
          intro b hb;cases b with
          | true =>
           replace h:=zAF hb.symm h;cases h;exact(Le.rnm [(0,0),(1,1),(2,2)] _ _ _ ⟨rfl,rfl,rfl,rfl,rfl,rfl,rfl,rfl,rfl,rfl,trivial⟩ ⟨rfl,⟨_,rfl,rfl⟩,rfl,⟨_,rfl,rfl⟩,rfl,⟨_,rfl,rfl⟩,trivial⟩)
          | false =>
           replace h:=zAE hb.symm h;obtain⟨y39,hy39,h⟩:=zAc h;refine⟨_,⟨_,_,_,_,hy39,rfl,rfl⟩,?_⟩
           cases h;exact(Le.rnm [(0,0),(1,1),(2,2)] _ _ _ ⟨rfl,rfl,rfl,rfl,rfl,rfl,rfl,rfl,rfl,rfl,trivial⟩ ⟨rfl,⟨_,rfl,rfl⟩,rfl,⟨_,rfl,rfl⟩,rfl,⟨_,rfl,rfl⟩,trivial⟩)
        ·refine zAj hle ?_;refine zAh rfl h (fun hb h=>?_) (fun hb h=>?_)
         ·refine zZO ?_;refine zAe ?_;cases h;replace h:some _=some _:=ho2;cases h;replace h:some _=some _:=ho1;obtain⟨hj1,hk1⟩:=pij h;subst hj1 hk1;exact fin0 rfl rfl
         ·refine zAf ?_;refine zZO ?_;refine zZO ?_;refine zAh rfl h (fun hb h=>?_) (fun hb h=>?_)
          ·refine zZN ?_;cases h;exact⟨_,rfl,(Le.rnm [(0,0),(1,1),(2,2)] _ _ _ ⟨rfl,rfl,rfl,rfl,rfl,rfl,rfl,trivial⟩ ⟨rfl,⟨_,rfl,rfl⟩,rfl,⟨_,rfl,rfl⟩,rfl,⟨_,rfl,rfl⟩,trivial⟩)⟩
          ·refine zAf ?_;cases h;exact⟨_,rfl,(Le.rnm [(0,0),(1,1),(2,2)] _ _ _ ⟨rfl,rfl,rfl,rfl,rfl,rfl,rfl,trivial⟩ ⟨rfl,⟨_,rfl,rfl⟩,rfl,⟨_,rfl,rfl⟩,rfl,⟨_,rfl,rfl⟩,trivial⟩)⟩
       ·subst hz;obtain⟨x24,x25,x26,x27,x28,x29,x30,x31⟩:=z;replace h:=ho2;refine zAj hle ?_;refine zZN ?_;refine⟨(k,x24,x25,x26,x27,x28,x29,x30,x31,IntKind.i64.wrap (x19+1)),h,(Le.rnm [(0,0),(1,1),(2,2)] _ _ _ ⟨rfl,rfl,rfl,rfl,rfl,rfl,rfl,trivial⟩ ⟨rfl,⟨_,rfl,rfl⟩,rfl,⟨_,rfl,rfl⟩,rfl,⟨_,rfl,rfl⟩,trivial⟩),Nat.lt_succ_self k⟩
      ·refine zAJ ?_;cases h;exact⟨_,rfl,(Le.rnm [(0,0),(2,1)] _ _ _ ⟨rfl,rfl,trivial⟩ ⟨rfl,⟨_,rfl,rfl⟩,rfl,⟨_,rfl,rfl⟩,trivial⟩)⟩
   ·subst hz;obtain⟨x20,x21,x22,x23⟩:=z;replace h:=ho1;refine zAj hle ?_;refine zZO ?_;refine zAe ?_;obtain⟨hj1,hk1⟩:=pij h;subst hj1 hk1;exact fin0 rfl rfl
def zRU (n:Nat) (xs:List AV) (r:Ret):Prop:=∃ (a0:(List UInt8×Nd×List zRc×Int)) (y0:Bool),zCA n a0=some y0/\xs=[.agg ((zBd a0).map .s)]/\r = .val (.s (.bool y0))
def zI6:zAq:=zAw fun xs r=>∃ n,zRU n xs r
theorem zL4:PSound Tryz.prog 12 zI6:=by
 have gok:∀ f s,look? f [(33,zKx)]=some s->PSound Tryz.prog f s:=zAl (by
  simp only[List.forall_mem_cons]
  exact⟨zOM,by simp⟩)
 refine zAC tokW Tryz.call12 Tryz.func12 rfl (fun xs r h=>by obtain⟨n,_,_,_,rfl,_⟩:=h; show 1<=11; decide) 11 rfl ?_;rintro xs r w0 G0 ⟨n,⟨d1U,⟨d1Q,d1R,d1S,d1T⟩,d1H,d1V⟩,y0,h,rfl,rfl⟩ _;rw[zCA]at h;refine zZO ?_;refine zYZ [3] [] rfl ?_;obtain⟨⟨⟨y2A,y2B,y2F,y2E⟩,y3⟩,hy2,h⟩:=zAc h;refine⟨_,⟨_,_,_,_,_,hy2,rfl,rfl⟩,?_⟩
 refine zAj (Le.giveBox 0 [.int .i64 y2A,.str y2B,.int .i64 y2F,.sl 4 (Nd.encs y2E)] rfl rfl) ?_;refine zZO ?_;refine zAe ?_;have hy:=osi h;subst hy;exact fin0 rfl rfl
def zTm (xs:List AV) (r:Ret):Prop:=∃ (a0:List UInt8) (y0:CV),zDD a0=some y0/\xs=[.s (.str a0)]/\r = .val (.agg ((CV.enc y0).map .s))
def zIp:zAq:=zAw fun xs r=>zTm xs r
theorem zJG:PSound Tryz.prog 59 zIp:=by
 have gok:=@gok0 Tryz.prog;refine zAC tokW Tryz.call59 Tryz.func59 rfl (fun xs r h=>by obtain⟨_,_,_,rfl,_⟩:=h; show 1<=5; decide) 5 rfl ?_;rintro xs r w0 G0 ⟨s1,y0,h,rfl,rfl⟩ _;rw[zDD]at h;refine zYZ [2] [] rfl ?_;refine zZO ?_;refine zAe ?_;have hy:=osi h;subst hy;exact fin0 rfl rfl
def zTl (xs:List AV) (r:Ret):Prop:=∃ (a0:List CV) (y0:CV),zCp a0=some y0/\xs=[.s (.sl 4 (CV.encs a0))]/\r = .val (.agg ((CV.enc y0).map .s))
def zFx:zAq:=zAw fun xs r=>zTl xs r
theorem zF6:PSound Tryz.prog 58 zFx:=by
 have gok:=@gok0 Tryz.prog;refine zAC tokW Tryz.call58 Tryz.func58 rfl (fun xs r h=>by obtain⟨_,_,_,rfl,_⟩:=h; show 1<=5; decide) 5 rfl ?_;rintro xs r w0 G0 ⟨l1,y0,h,rfl,rfl⟩ _;rw[zCp]at h;refine zYZ [2] [] rfl ?_;refine zZO ?_;refine zAe ?_;have hy:=osi h;subst hy;exact fin0 rfl rfl
def zQM (xs:List AV) (r:Ret):Prop:=∃ (a0:Int) (y0:CV),zBg a0=some y0/\xs=[.s (.int .i64 a0)]/\r = .val (.agg ((CV.enc y0).map .s))
def zE6:zAq:=zAw fun xs r=>zQM xs r
theorem zFT:PSound Tryz.prog 61 zE6:=by
 have gok:=@gok0 Tryz.prog;refine zAC tokW Tryz.call61 Tryz.func61 rfl (fun xs r h=>by obtain⟨_,_,_,rfl,_⟩:=h; show 1<=5; decide) 5 rfl ?_;rintro xs r w0 G0 ⟨n1,y0,h,rfl,rfl⟩ _;rw[zBg]at h;refine zYZ [2] [] rfl ?_;refine zZO ?_;refine zAe ?_;have hy:=osi h;subst hy;exact fin0 rfl rfl
def zCU (n:Nat) (xs:List AV) (r:Ret):Prop:=∃ (a0:List Nd) (y0:CV),zCo n a0=some y0/\xs=[.s (.sl 4 (Nd.encs a0)),.s (.fn 60)]/\r = .val (.agg ((CV.enc y0).map .s))
def zCW (n:Nat) (xs:List AV) (r:Ret):Prop:=∃ (a0:Nd) (y0:CV),zBq n a0=some y0/\xs=[.agg ((Nd.enc a0).map .s)]/\r = .val (.agg ((CV.enc y0).map .s))
theorem zMS {α:Type}{a b:α} (h:a=b:=by simp[List.map_append,List.map_take,List.map_drop,irow,brow,zGp,List.map_cons,List.map_nil,zFV,CV.encs_eq,CV.enc,Nd.encs_eq,Nd.enc,zCn,zBp,zGA,zA6,zAN,zAn,zAR,zB6,zAi,zBd]):a=b :=
 h
theorem zLm (n:Nat) (ih_file_each_Node:PSound Tryz.prog 101 (zAw (zCU n))) (ih_file_writeTree:PSound Tryz.prog 60 (zAw (zCW n))):PSound Tryz.prog 101 (zAw (zCU (n+1))):=by
 have gok:∀ f s,look? f [(58,zD9),(60,zAw (zCW n))]=some s->PSound Tryz.prog f s:=zAl (by
  simp only[List.forall_mem_cons]
  exact⟨zEN,ih_file_writeTree,by simp⟩)
 refine zAC tokW Tryz.call101 Tryz.func101 rfl (fun xs r h=>by obtain⟨_,_,_,rfl,_⟩:=h; show 2<=25; decide) 25 rfl ?_;rintro xs r w0 G0 ⟨l1,y0,h,rfl,rfl⟩ _;rw[zCo]at h;refine zYZ [4] [] rfl ?_;refine zYZ [5] [] rfl ?_;obtain⟨⟨y2A,y2D,y2B,y2C⟩,hy2,h⟩:=zAc h;refine⟨_,_,⟨_,hy2,rfl,rfl,rfl,rfl⟩,?_⟩
 refine zAa ?_;refine zYZ [] [10] rfl ?_;intro n3 hn3;obtain rfl:(l1.length:Int)=n3:=(hn3.trans (congrArg (fun m:Nat=>(m:Int)) (rlen Nd.encs_eq l1))).symm;show Tri ..;obtain⟨l8,hl,h⟩:=zAc h;refine zAo ⟨ofL [(4,.op 0 0),(5,.op 1 0)],ofH [(0,.box 68 [.s (.int .i64 0),.s (.int .i64 0),.s (.str []),.nl 4]),(1,.box 68 [.s (.int .i64 y2A),.s (.int .i64 y2D),.s (.str y2B),.orow 2]),(2,.row 68 4 (CV.encs l8))],3⟩ ?_ (fun σ' hle=>?_)
 ·refine zAk (zAD (X:=Nat×Int×(List CV)) (fun y=>match y with | (k,x6,l7)=>⟨ofL [(1,.s (.fn 60)),(4,.op 0 0),(5,.op 1 0),(9,.s (.sl 4 (Nd.encs l1))),(10,.s (.int .i64 (l1.length:Int))),(11,.s (.int .i64 x6))],ofH [(0,.box 68 [.s (.int .i64 0),.s (.int .i64 0),.s (.str []),.nl 4]),(1,.box 68 [.s (.int .i64 y2A),.s (.int .i64 y2D),.s (.str y2B),.orow 2]),(2,.row 68 4 (CV.encs l7))],3⟩) (fun y=>zBn (zBq n) l1 y.1 y.2.1 y.2.2=some l8) (fun y=>y.1) (n,0,y2C) hl ?_ ?_)
  ·exact(Le.rnm [(0,0),(3,1),(2,2)] _ _ _ ⟨rfl,rfl,rfl,rfl,rfl,rfl,trivial⟩ ⟨rfl,⟨_,rfl,rfl⟩,rfl,⟨_,rfl,rfl⟩,rfl,⟨_,rfl,rfl⟩,trivial⟩)
  ·rintro⟨k,x6,l7⟩ h;cases k with
   | zero=>cases h
   | succ k =>
    replace h:zBn (zBq n) l1 (k+1) x6 l7=some l8:=h;rw[zBn]at h;refine zZO ?_;refine zAa ?_;refine zAh rfl h (fun hb h=>?_) (fun hb h=>?_)
    ·refine zAf ?_;refine zAa ?_;refine zAk ?_;refine zYZ [7] [13] rfl ?_;obtain⟨⟨e9A,e9B,e9F,e9E⟩,he9,h⟩:=zAc h;refine And.intro (zAt Nd.encs_eq he9).1 ?_;intro r10 hr10;obtain rfl:[.int .i64 e9A,.str e9B,.int .i64 e9F,.sl 4 (Nd.encs e9E)]=r10:=(hr10.trans (zAt Nd.encs_eq he9).2.1).symm;refine zAj (Le.giveBox 3 [.int .i64 e9A,.str e9B,.int .i64 e9F,.sl 4 (Nd.encs e9E)] rfl rfl) ?_;refine zBw [21] [20] [1,6,8] rfl (by decide +kernel) ?_;obtain⟨⟨y11A,y11D,y11B,y11C⟩,hy11,h⟩:=zAc h
     refine⟨_,⟨_,_,hy11,rfl,rfl⟩,?_⟩
     intro r12 hr12;obtain rfl:CV.encs [CV.mk y11A y11D y11B y11C]=r12:=(hr12.trans zMS).symm;obtain⟨hq,h⟩:=zAI h
     refine And.intro (show((CV.encs l7).length+(CV.encs [CV.mk y11A y11D y11B y11C]).length) * 56<=140737488355328/\(CV.encs l7).length+(CV.encs [CV.mk y11A y11D y11B y11C]).length<=9223372036854775807 from by simp only[List.length_append,List.length_cons,List.length_nil,List.length_map,rlen CV.encs_eq]at hq ⊢; omega) ?_;show Tri ..
     refine zAj (Le.rnm [(0,0),(1,1),(4,2)] [(1,.s (.fn 60)),(4,.op 0 0),(5,.op 1 0),(9,.s (.sl 4 (Nd.encs l1))),(10,.s (.int .i64 (l1.length:Int))),(11,.s (.int .i64 x6))] [(0,.box 68 [.s (.int .i64 0),.s (.int .i64 0),.s (.str []),.nl 4]),(1,.box 68 [.s (.int .i64 y2A),.s (.int .i64 y2D),.s (.str y2B),.orow 2]),(2,.row 68 4 (CV.encs (l7++[CV.mk y11A y11D y11B y11C])))] 3 ⟨rfl,rfl,rfl,rfl,rfl,rfl,trivial⟩ ⟨rfl,⟨_,rfl,rfl⟩,rfl,⟨_,rfl,rfl⟩,rfl,⟨_,rfl,congrArg (Ob.row 68 4) zMS⟩,trivial⟩) ?_
     refine zZN ?_;refine⟨(k,IntKind.i64.wrap (x6+1),l7++[CV.mk y11A y11D y11B y11C]),h,(Le.rnm [(0,0),(1,1),(2,2)] _ _ _ ⟨rfl,rfl,rfl,rfl,rfl,rfl,trivial⟩ ⟨rfl,⟨_,rfl,rfl⟩,rfl,⟨_,rfl,rfl⟩,rfl,⟨_,rfl,rfl⟩,trivial⟩),Nat.lt_succ_self k⟩
    ·refine zAJ ?_;cases h;exact(Le.rnm [(0,0),(1,1),(2,2)] _ _ _ ⟨rfl,rfl,trivial⟩ ⟨rfl,⟨_,rfl,rfl⟩,rfl,⟨_,rfl,rfl⟩,rfl,⟨_,rfl,rfl⟩,trivial⟩)
 ·refine zAj hle ?_;refine zZO ?_;refine zAe ?_;have hy:=osi h;subst hy;unfold zE4;exact⟨_,(Le.trans (Le.rnm [(0,0),(2,1)] [(4,.op 0 0)] [(0,.box 68 [.s (.int .i64 y2A),.s (.int .i64 y2D),.s (.str y2B),.orow 1]),(1,.row 68 4 (CV.encs l8))] 2 ⟨rfl,trivial⟩ ⟨rfl,⟨_,rfl,rfl⟩,rfl,⟨_,rfl,rfl⟩,trivial⟩) (Le.giveRow 1 rfl)),rfl,rfl⟩
theorem zLn (n:Nat) (ih_file_each_Node:PSound Tryz.prog 101 (zAw (zCU n))) (ih_file_writeTree:PSound Tryz.prog 60 (zAw (zCW n))):PSound Tryz.prog 60 (zAw (zCW (n+1))):=by
 have gok:∀ f s,look? f [(101,zAw (zCU n)),(61,zE6),(59,zIp),(58,zFx)]=some s->PSound Tryz.prog f s:=zAl (by
  simp only[List.forall_mem_cons]
  exact⟨ih_file_each_Node,zFT,zJG,zF6,by simp⟩)
 refine zAC tokW Tryz.call60 Tryz.func60 rfl (fun xs r h=>by obtain⟨_,_,_,rfl,_⟩:=h; show 1<=21; decide) 21 rfl ?_;rintro xs r w0 G0 ⟨⟨n1A,n1B,n1F,n1E⟩,y0,h,rfl,rfl⟩ _;rw[zBq]at h;refine zYZ [2] [] rfl ?_;refine zYZ [3] [] rfl ?_;obtain⟨⟨y2A,y2D,y2B,y2C⟩,hy2,h⟩:=zAc h;refine⟨_,⟨_,_,hy2,rfl,rfl⟩,?_⟩
 refine zAj (Le.giveBox 1 [.int .i64 y2A,.int .i64 y2D,.str y2B,.sl 4 (CV.encs y2C)] rfl rfl) ?_;refine zAa ?_;refine zUT [16,19] [] [9,12,13,14] [] rfl (by decide +kernel) ?_;obtain⟨⟨y3A,y3D,y3B,y3C⟩,hy3,h⟩:=zAc h;refine⟨_,⟨_,_,hy3,rfl,rfl⟩,?_⟩
 obtain⟨⟨y4A,y4D,y4B,y4C⟩,hy4,h⟩:=zAc h;refine⟨_,⟨_,_,hy4,rfl,rfl⟩,?_⟩
 obtain⟨⟨y5A,y5D,y5B,y5C⟩,hy5,h⟩:=zAc h;refine⟨_,⟨_,_,hy5,rfl,rfl⟩,?_⟩
 obtain⟨hq,h⟩:=zAI h
 refine And.intro (show([[.int .i64 y3A,.int .i64 y3D,.str y3B,.sl 4 (CV.encs y3C)],[.int .i64 y4A,.int .i64 y4D,.str y4B,.sl 4 (CV.encs y4C)],[.int .i64 y5A,.int .i64 y5D,.str y5B,.sl 4 (CV.encs y5C)]].length+(CV.encs y2C).length) * 56<=140737488355328/\[[.int .i64 y3A,.int .i64 y3D,.str y3B,.sl 4 (CV.encs y3C)],[.int .i64 y4A,.int .i64 y4D,.str y4B,.sl 4 (CV.encs y4C)],[.int .i64 y5A,.int .i64 y5D,.str y5B,.sl 4 (CV.encs y5C)]].length+(CV.encs y2C).length<=9223372036854775807 from by simp only[List.length_append,List.length_cons,List.length_nil,List.length_map,rlen CV.encs_eq]at hq ⊢; omega) ?_
 obtain⟨⟨y6A,y6D,y6B,y6C⟩,hy6,h⟩:=zAc h
 refine⟨_,⟨_,_,hy6,(congrArg (fun r=>[AV.s (.sl 4 r)]) (show[[.int .i64 y3A,.int .i64 y3D,.str y3B,.sl 4 (CV.encs y3C)],[.int .i64 y4A,.int .i64 y4D,.str y4B,.sl 4 (CV.encs y4C)],[.int .i64 y5A,.int .i64 y5D,.str y5B,.sl 4 (CV.encs y5C)]]++(CV.encs y2C)=CV.encs ([CV.mk y3A y3D y3B y3C,CV.mk y4A y4D y4B y4C,CV.mk y5A y5D y5B y5C]++y2C) from zMS)),rfl⟩,?_⟩
 refine zAe ?_;have hy:=osi h;subst hy;exact fin0 rfl rfl
theorem zGU:∀ n,PSound Tryz.prog 101 (zAw (zCU n))/\PSound Tryz.prog 60 (zAw (zCW n)):=by
 intro n
 induction n with
 | zero =>
  refine⟨?_,?_⟩
  ·exact zEh Tryz.call101 (fun xs r h=>by obtain⟨_,_,h,_⟩:=h; rw[zCo]at h; cases h)
  ·exact zEh Tryz.call60 (fun xs r h=>by obtain⟨_,_,h,_⟩:=h; rw[zBq]at h; cases h)
 | succ n ih =>
  obtain⟨ih_file_each_Node,ih_file_writeTree⟩:=ih;exact⟨zLm n ih_file_each_Node ih_file_writeTree,zLn n ih_file_each_Node ih_file_writeTree⟩
def zIM:zAq:=zAw fun xs r=>∃ n,zCU n xs r
theorem zMI:PSound Tryz.prog 101 zIM:=zE2 (fun n=>(zGU n).1)
def zIO:zAq:=zAw fun xs r=>∃ n,zCW n xs r
theorem zMK:PSound Tryz.prog 60 zIO:=zE2 (fun n=>(zGU n).2)
def zN1 (n:Nat) (xs:List AV) (r:Ret):Prop:=∃ (a0:List Int) (y0:CV),zEc n a0=some y0/\xs=[.s (.sl 1 ((List.map (irow .i64)) a0)),.s (.fn 61)]/\r = .val (.agg ((CV.enc y0).map .s))
def zI7:zAq:=zAw fun xs r=>∃ n,zN1 n xs r
theorem zNE:PSound Tryz.prog 169 zI7:=by
 have gok:∀ f s,look? f [(58,zD9),(61,zE6)]=some s->PSound Tryz.prog f s:=zAl (by
  simp only[List.forall_mem_cons]
  exact⟨zEN,zFT,by simp⟩)
 refine zAC tokW Tryz.call169 Tryz.func169 rfl (fun xs r h=>by obtain⟨n,_,_,_,rfl,_⟩:=h; show 2<=25; decide) 25 rfl ?_;rintro xs r w0 G0 ⟨n,l1,y0,h,rfl,rfl⟩ _;rw[zEc]at h;refine zYZ [4] [] rfl ?_;refine zYZ [5] [] rfl ?_;obtain⟨⟨y2A,y2D,y2B,y2C⟩,hy2,h⟩:=zAc h;refine⟨_,_,⟨_,hy2,rfl,rfl,rfl,rfl⟩,?_⟩
 refine zAa ?_;refine zYZ [] [10] rfl ?_;intro n3 hn3;obtain rfl:(l1.length:Int)=n3:=(hn3.trans (congrArg (fun m:Nat=>(m:Int)) (rlen (fun _=>rfl) l1))).symm;show Tri ..;obtain⟨l8,hl,h⟩:=zAc h;refine zAo ⟨ofL [(4,.op 0 0),(5,.op 1 0)],ofH [(0,.box 68 [.s (.int .i64 0),.s (.int .i64 0),.s (.str []),.nl 4]),(1,.box 68 [.s (.int .i64 y2A),.s (.int .i64 y2D),.s (.str y2B),.orow 2]),(2,.row 68 4 (CV.encs l8))],3⟩ ?_ (fun σ' hle=>?_)
 ·refine zAk (zAD (X:=Nat×Int×(List CV)) (fun y=>match y with | (k,x6,l7)=>⟨ofL [(1,.s (.fn 61)),(4,.op 0 0),(5,.op 1 0),(9,.s (.sl 1 ((List.map (irow .i64)) l1))),(10,.s (.int .i64 (l1.length:Int))),(11,.s (.int .i64 x6))],ofH [(0,.box 68 [.s (.int .i64 0),.s (.int .i64 0),.s (.str []),.nl 4]),(1,.box 68 [.s (.int .i64 y2A),.s (.int .i64 y2D),.s (.str y2B),.orow 2]),(2,.row 68 4 (CV.encs l7))],3⟩) (fun y=>zBx l1 y.1 y.2.1 y.2.2=some l8) (fun y=>y.1) (n,0,y2C) hl ?_ ?_)
  ·exact(Le.rnm [(0,0),(3,1),(2,2)] _ _ _ ⟨rfl,rfl,rfl,rfl,rfl,rfl,trivial⟩ ⟨rfl,⟨_,rfl,rfl⟩,rfl,⟨_,rfl,rfl⟩,rfl,⟨_,rfl,rfl⟩,trivial⟩)
  ·rintro⟨k,x6,l7⟩ h;cases k with
   | zero=>cases h
   | succ k =>
    replace h:zBx l1 (k+1) x6 l7=some l8:=h;rw[zBx]at h;refine zZO ?_;refine zAa ?_;refine zAh rfl h (fun hb h=>?_) (fun hb h=>?_)
    ·refine zAf ?_;refine zAa ?_;refine zAk ?_;refine zYZ [] [13] rfl ?_;obtain⟨e9,he9,h⟩:=zAc h;refine And.intro (zAt (fun _=>rfl) he9).1 ?_;intro r10 hr10;obtain rfl:[.int .i64 e9]=r10:=(hr10.trans (zAt (fun _=>rfl) he9).2.1).symm;show Tri ..;refine zBw [21] [20] [1,6,8] rfl (by decide +kernel) ?_;obtain⟨⟨y11A,y11D,y11B,y11C⟩,hy11,h⟩:=zAc h;refine⟨_,⟨_,_,hy11,rfl,rfl⟩,?_⟩
     intro r12 hr12;obtain rfl:CV.encs [CV.mk y11A y11D y11B y11C]=r12:=(hr12.trans zMS).symm;obtain⟨hq,h⟩:=zAI h
     refine And.intro (show((CV.encs l7).length+(CV.encs [CV.mk y11A y11D y11B y11C]).length) * 56<=140737488355328/\(CV.encs l7).length+(CV.encs [CV.mk y11A y11D y11B y11C]).length<=9223372036854775807 from by simp only[List.length_append,List.length_cons,List.length_nil,List.length_map,rlen CV.encs_eq]at hq ⊢; omega) ?_;show Tri ..
     refine zAj (Le.rnm [(0,0),(1,1),(3,2)] [(1,.s (.fn 61)),(4,.op 0 0),(5,.op 1 0),(9,.s (.sl 1 ((List.map (irow .i64)) l1))),(10,.s (.int .i64 (l1.length:Int))),(11,.s (.int .i64 x6))] [(0,.box 68 [.s (.int .i64 0),.s (.int .i64 0),.s (.str []),.nl 4]),(1,.box 68 [.s (.int .i64 y2A),.s (.int .i64 y2D),.s (.str y2B),.orow 2]),(2,.row 68 4 (CV.encs (l7++[CV.mk y11A y11D y11B y11C])))] 3 ⟨rfl,rfl,rfl,rfl,rfl,rfl,trivial⟩ ⟨rfl,⟨_,rfl,rfl⟩,rfl,⟨_,rfl,rfl⟩,rfl,⟨_,rfl,congrArg (Ob.row 68 4) zMS⟩,trivial⟩) ?_
     refine zZN ?_;refine⟨(k,IntKind.i64.wrap (x6+1),l7++[CV.mk y11A y11D y11B y11C]),h,(Le.rnm [(0,0),(1,1),(2,2)] _ _ _ ⟨rfl,rfl,rfl,rfl,rfl,rfl,trivial⟩ ⟨rfl,⟨_,rfl,rfl⟩,rfl,⟨_,rfl,rfl⟩,rfl,⟨_,rfl,rfl⟩,trivial⟩),Nat.lt_succ_self k⟩
    ·refine zAJ ?_;cases h;exact(Le.rnm [(0,0),(1,1),(2,2)] _ _ _ ⟨rfl,rfl,trivial⟩ ⟨rfl,⟨_,rfl,rfl⟩,rfl,⟨_,rfl,rfl⟩,rfl,⟨_,rfl,rfl⟩,trivial⟩)
 ·refine zAj hle ?_;refine zZO ?_;refine zAe ?_;have hy:=osi h;subst hy;unfold zE4;exact⟨_,(Le.trans (Le.rnm [(0,0),(2,1)] [(4,.op 0 0)] [(0,.box 68 [.s (.int .i64 y2A),.s (.int .i64 y2D),.s (.str y2B),.orow 1]),(1,.row 68 4 (CV.encs l8))] 2 ⟨rfl,trivial⟩ ⟨rfl,⟨_,rfl,rfl⟩,rfl,⟨_,rfl,rfl⟩,trivial⟩) (Le.giveRow 1 rfl)),rfl,rfl⟩
def zPs (n:Nat) (xs:List AV) (r:Ret):Prop:=∃ (a0:List Int) (y0:CV),zDg n a0=some y0/\xs=[.s (.sl 1 ((List.map (irow .i64)) a0))]/\r = .val (.agg ((CV.enc y0).map .s))
def zHO:zAq:=zAw fun xs r=>∃ n,zPs n xs r
theorem zJD:PSound Tryz.prog 137 zHO:=by
 have gok:∀ f s,look? f [(169,zI7)]=some s->PSound Tryz.prog f s:=zAl (by
  simp only[List.forall_mem_cons]
  exact⟨zNE,by simp⟩)
 refine zAC tokW Tryz.call137 Tryz.func137 rfl (fun xs r h=>by obtain⟨n,_,_,_,rfl,_⟩:=h; show 1<=5; decide) 5 rfl ?_;rintro xs r w0 G0 ⟨n,l1,y0,h,rfl,rfl⟩ _;rw[zDg]at h;refine zYZ [2] [] rfl ?_;refine zZO ?_;obtain⟨⟨y2A,y2D,y2B,y2C⟩,hy2,h⟩:=zAc h;refine⟨_,⟨_,_,_,hy2,rfl,rfl⟩,?_⟩
 refine zAe ?_;have hy:=osi h;subst hy;exact fin0 rfl rfl
def zPv (n:Nat) (xs:List AV) (r:Ret):Prop:=∃ (a0:zO8) (y0:CV),zEH n a0=some y0/\xs=[.agg ((zAn a0).map .s)]/\r = .val (.agg ((CV.enc y0).map .s))
def zKy:zAq:=zAw fun xs r=>∃ n,zPv n xs r
theorem zON:PSound Tryz.prog 103 zKy:=by
 have gok:∀ f s,look? f [(101,zIM),(61,zE6),(137,zHO),(59,zIp),(58,zFx)]=some s->PSound Tryz.prog f s:=zAl (by
  simp only[List.forall_mem_cons]
  exact⟨zMI,zFT,zJD,zJG,zF6,by simp⟩)
 refine zAC tokW Tryz.call103 Tryz.func103 rfl (fun xs r h=>by obtain⟨n,_,_,_,rfl,_⟩:=h; show 1<=31; decide) 31 rfl ?_;rintro xs r w0 G0 ⟨n,⟨op1A,op1I,op1J,op1L,op1G,op1K,op1M,op1B⟩,y0,h,rfl,rfl⟩ _;rw[zEH]at h;refine zYZ [2] [] rfl ?_;refine zYZ [3] [] rfl ?_;obtain⟨⟨y2A,y2D,y2B,y2C⟩,hy2,h⟩:=zAc h;refine⟨_,⟨_,_,_,hy2,rfl,rfl⟩,?_⟩
 refine zAj (Le.giveBox 1 [.int .i64 y2A,.int .i64 y2D,.str y2B,.sl 4 (CV.encs y2C)] rfl rfl) ?_;refine zAa ?_;refine zBw [] [29] [24] rfl (by decide +kernel) ?_;obtain⟨⟨y3A,y3D,y3B,y3C⟩,hy3,h⟩:=zAc h;refine⟨_,⟨_,_,hy3,rfl,rfl⟩,?_⟩
 obtain⟨⟨y4A,y4D,y4B,y4C⟩,hy4,h⟩:=zAc h;refine⟨_,⟨_,_,_,hy4,rfl,rfl⟩,?_⟩
 obtain⟨⟨y5A,y5D,y5B,y5C⟩,hy5,h⟩:=zAc h;refine⟨_,⟨_,_,hy5,rfl,rfl⟩,?_⟩
 obtain⟨⟨y6A,y6D,y6B,y6C⟩,hy6,h⟩:=zAc h;refine⟨_,⟨_,_,hy6,rfl,rfl⟩,?_⟩
 obtain⟨⟨y7A,y7D,y7B,y7C⟩,hy7,h⟩:=zAc h;refine⟨_,⟨_,_,hy7,rfl,rfl⟩,?_⟩
 obtain⟨⟨y8A,y8D,y8B,y8C⟩,hy8,h⟩:=zAc h;refine⟨_,⟨_,_,hy8,rfl,rfl⟩,?_⟩
 obtain⟨⟨y9A,y9D,y9B,y9C⟩,hy9,h⟩:=zAc h;refine⟨_,⟨_,_,hy9,rfl,rfl⟩,?_⟩
 intro r10 hr10;obtain rfl:CV.encs [CV.mk y3A y3D y3B y3C,CV.mk y4A y4D y4B y4C,CV.mk y5A y5D y5B y5C,CV.mk y6A y6D y6B y6C,CV.mk y2A y2D y2B y2C,CV.mk y7A y7D y7B y7C,CV.mk y8A y8D y8B y8C,CV.mk y9A y9D y9B y9C]=r10:=(hr10.trans zMS).symm
 obtain⟨⟨y11A,y11D,y11B,y11C⟩,hy11,h⟩:=zAc h;refine⟨_,⟨_,_,hy11,rfl,rfl⟩,?_⟩
 refine zAe ?_;have hy:=osi h;subst hy;exact fin0 rfl rfl
def zPr (n:Nat) (xs:List AV) (r:Ret):Prop:=∃ (a0:List zO8) (y0:CV),zEG n a0=some y0/\xs=[.s (.sl 8 ((List.map zAn) a0)),.s (.fn 103)]/\r = .val (.agg ((CV.enc y0).map .s))
def zKv:zAq:=zAw fun xs r=>∃ n,zPr n xs r
theorem zOK:PSound Tryz.prog 102 zKv:=by
 have gok:∀ f s,look? f [(58,zD9),(103,zKy)]=some s->PSound Tryz.prog f s:=zAl (by
  simp only[List.forall_mem_cons]
  exact⟨zEN,zON,by simp⟩)
 refine zAC tokW Tryz.call102 Tryz.func102 rfl (fun xs r h=>by obtain⟨n,_,_,_,rfl,_⟩:=h; show 2<=25; decide) 25 rfl ?_;rintro xs r w0 G0 ⟨n,l1,y0,h,rfl,rfl⟩ _;rw[zEG]at h;refine zYZ [4] [] rfl ?_;refine zYZ [5] [] rfl ?_;obtain⟨⟨y2A,y2D,y2B,y2C⟩,hy2,h⟩:=zAc h;refine⟨_,_,⟨_,hy2,rfl,rfl,rfl,rfl⟩,?_⟩
 refine zAa ?_;refine zYZ [] [10] rfl ?_;intro n3 hn3;obtain rfl:(l1.length:Int)=n3:=(hn3.trans (congrArg (fun m:Nat=>(m:Int)) (rlen (fun _=>rfl) l1))).symm;show Tri ..;obtain⟨l8,hl,h⟩:=zAc h;refine zAo ⟨ofL [(4,.op 0 0),(5,.op 1 0)],ofH [(0,.box 68 [.s (.int .i64 0),.s (.int .i64 0),.s (.str []),.nl 4]),(1,.box 68 [.s (.int .i64 y2A),.s (.int .i64 y2D),.s (.str y2B),.orow 2]),(2,.row 68 4 (CV.encs l8))],3⟩ ?_ (fun σ' hle=>?_)
 ·refine zAk (zAD (X:=Nat×Int×(List CV)) (fun y=>match y with | (k,x6,l7)=>⟨ofL [(1,.s (.fn 103)),(4,.op 0 0),(5,.op 1 0),(9,.s (.sl 8 ((List.map zAn) l1))),(10,.s (.int .i64 (l1.length:Int))),(11,.s (.int .i64 x6))],ofH [(0,.box 68 [.s (.int .i64 0),.s (.int .i64 0),.s (.str []),.nl 4]),(1,.box 68 [.s (.int .i64 y2A),.s (.int .i64 y2D),.s (.str y2B),.orow 2]),(2,.row 68 4 (CV.encs l7))],3⟩) (fun y=>zBH n l1 y.1 y.2.1 y.2.2=some l8) (fun y=>y.1) (n,0,y2C) hl ?_ ?_)
  ·exact(Le.rnm [(0,0),(3,1),(2,2)] _ _ _ ⟨rfl,rfl,rfl,rfl,rfl,rfl,trivial⟩ ⟨rfl,⟨_,rfl,rfl⟩,rfl,⟨_,rfl,rfl⟩,rfl,⟨_,rfl,rfl⟩,trivial⟩)
  ·rintro⟨k,x6,l7⟩ h;cases k with
   | zero=>cases h
   | succ k =>
    replace h:zBH n l1 (k+1) x6 l7=some l8:=h;rw[zBH]at h;refine zZO ?_;refine zAa ?_;refine zAh rfl h (fun hb h=>?_) (fun hb h=>?_)
    ·refine zAf ?_;refine zAa ?_;refine zAk ?_;refine zYZ [7] [13] rfl ?_;obtain⟨⟨e9A,e9I,e9J,e9L,e9G,e9K,e9M,e9B⟩,he9,h⟩:=zAc h;refine And.intro (zAt (fun _=>rfl) he9).1 ?_;intro r10 hr10;obtain rfl:[.int .i64 e9A,.sl 1 ((List.map (irow .i64)) e9I),.int .i64 e9J,.int .i64 e9L,.sl 4 (Nd.encs e9G),.int .i64 e9K,.str e9M,.str e9B]=r10:=(hr10.trans (zAt (fun _=>rfl) he9).2.1).symm;show Tri ..
     refine zAj (Le.giveBox 3 [.int .i64 e9A,.sl 1 ((List.map (irow .i64)) e9I),.int .i64 e9J,.int .i64 e9L,.sl 4 (Nd.encs e9G),.int .i64 e9K,.str e9M,.str e9B] rfl rfl) ?_;refine zBw [21] [20] [1,6,8] rfl (by decide +kernel) ?_;obtain⟨⟨y11A,y11D,y11B,y11C⟩,hy11,h⟩:=zAc h;refine⟨_,⟨_,_,_,hy11,rfl,rfl⟩,?_⟩
     intro r12 hr12;obtain rfl:CV.encs [CV.mk y11A y11D y11B y11C]=r12:=(hr12.trans zMS).symm;obtain⟨hq,h⟩:=zAI h
     refine And.intro (show((CV.encs l7).length+(CV.encs [CV.mk y11A y11D y11B y11C]).length) * 56<=140737488355328/\(CV.encs l7).length+(CV.encs [CV.mk y11A y11D y11B y11C]).length<=9223372036854775807 from by simp only[List.length_append,List.length_cons,List.length_nil,List.length_map,rlen CV.encs_eq]at hq ⊢; omega) ?_;show Tri ..
     refine zAj (Le.rnm [(0,0),(1,1),(4,2)] [(1,.s (.fn 103)),(4,.op 0 0),(5,.op 1 0),(9,.s (.sl 8 ((List.map zAn) l1))),(10,.s (.int .i64 (l1.length:Int))),(11,.s (.int .i64 x6))] [(0,.box 68 [.s (.int .i64 0),.s (.int .i64 0),.s (.str []),.nl 4]),(1,.box 68 [.s (.int .i64 y2A),.s (.int .i64 y2D),.s (.str y2B),.orow 2]),(2,.row 68 4 (CV.encs (l7++[CV.mk y11A y11D y11B y11C])))] 3 ⟨rfl,rfl,rfl,rfl,rfl,rfl,trivial⟩ ⟨rfl,⟨_,rfl,rfl⟩,rfl,⟨_,rfl,rfl⟩,rfl,⟨_,rfl,congrArg (Ob.row 68 4) zMS⟩,trivial⟩) ?_
     refine zZN ?_;refine⟨(k,IntKind.i64.wrap (x6+1),l7++[CV.mk y11A y11D y11B y11C]),h,(Le.rnm [(0,0),(1,1),(2,2)] _ _ _ ⟨rfl,rfl,rfl,rfl,rfl,rfl,trivial⟩ ⟨rfl,⟨_,rfl,rfl⟩,rfl,⟨_,rfl,rfl⟩,rfl,⟨_,rfl,rfl⟩,trivial⟩),Nat.lt_succ_self k⟩
    ·refine zAJ ?_;cases h;exact(Le.rnm [(0,0),(1,1),(2,2)] _ _ _ ⟨rfl,rfl,trivial⟩ ⟨rfl,⟨_,rfl,rfl⟩,rfl,⟨_,rfl,rfl⟩,rfl,⟨_,rfl,rfl⟩,trivial⟩)
 ·refine zAj hle ?_;refine zZO ?_;refine zAe ?_;have hy:=osi h;subst hy;unfold zE4;exact⟨_,(Le.trans (Le.rnm [(0,0),(2,1)] [(4,.op 0 0)] [(0,.box 68 [.s (.int .i64 y2A),.s (.int .i64 y2D),.s (.str y2B),.orow 1]),(1,.row 68 4 (CV.encs l8))] 2 ⟨rfl,trivial⟩ ⟨rfl,⟨_,rfl,rfl⟩,rfl,⟨_,rfl,rfl⟩,trivial⟩) (Le.giveRow 1 rfl)),rfl,rfl⟩
def zLB (n:Nat) (xs:List AV) (r:Ret):Prop:=∃ (a0:zCu) (y0:CV),zCl n a0=some y0/\xs=[.agg ((zB6 a0).map .s)]/\r = .val (.agg ((CV.enc y0).map .s))
def zHq:zAq:=zAw fun xs r=>∃ n,zLB n xs r
theorem zLe:PSound Tryz.prog 104 zHq:=by
 have gok:∀ f s,look? f [(137,zHO),(58,zFx)]=some s->PSound Tryz.prog f s:=zAl (by
  simp only[List.forall_mem_cons]
  exact⟨zJD,zF6,by simp⟩)
 refine zAC tokW Tryz.call104 Tryz.func104 rfl (fun xs r h=>by obtain⟨n,_,_,_,rfl,_⟩:=h; show 1<=11; decide) 11 rfl ?_;rintro xs r w0 G0 ⟨n,⟨c1Ai,c1Ah⟩,y0,h,rfl,rfl⟩ _;rw[zCl]at h;refine zYZ [2] [] rfl ?_;refine zAa ?_;refine zBw [] [9] [8] rfl (by decide +kernel) ?_;obtain⟨⟨y2A,y2D,y2B,y2C⟩,hy2,h⟩:=zAc h;refine⟨_,⟨_,_,_,hy2,rfl,rfl⟩,?_⟩
 obtain⟨⟨y3A,y3D,y3B,y3C⟩,hy3,h⟩:=zAc h;refine⟨_,⟨_,_,_,hy3,rfl,rfl⟩,?_⟩
 intro r4 hr4;obtain rfl:CV.encs [CV.mk y2A y2D y2B y2C,CV.mk y3A y3D y3B y3C]=r4:=(hr4.trans zMS).symm;obtain⟨⟨y5A,y5D,y5B,y5C⟩,hy5,h⟩:=zAc h;refine⟨_,⟨_,_,hy5,rfl,rfl⟩,?_⟩
 refine zAe ?_;have hy:=osi h;subst hy;exact fin0 rfl rfl
def zLC (n:Nat) (xs:List AV) (r:Ret):Prop:=∃ (a0:zRc) (y0:CV),zC4 n a0=some y0/\xs=[.agg ((zAi a0).map .s)]/\r = .val (.agg ((CV.enc y0).map .s))
def zHr:zAq:=zAw fun xs r=>∃ n,zLC n xs r
theorem zLf:PSound Tryz.prog 63 zHr:=by
 have gok:∀ f s,look? f [(102,zKv),(104,zHq),(58,zFx)]=some s->PSound Tryz.prog f s:=zAl (by
  simp only[List.forall_mem_cons]
  exact⟨zOK,zLe,zF6,by simp⟩)
 refine zAC tokW Tryz.call63 Tryz.func63 rfl (fun xs r h=>by obtain⟨n,_,_,_,rfl,_⟩:=h; show 1<=14; decide) 14 rfl ?_;rintro xs r w0 G0 ⟨n,⟨r1P,⟨r1W,r1X⟩,⟨r1Y,r1Z⟩⟩,y0,h,rfl,rfl⟩ _;rw[zC4]at h;refine zYZ [2] [] rfl ?_;refine zAa ?_;refine zBw [] [12] [11] rfl (by decide +kernel) ?_;obtain⟨⟨y2A,y2D,y2B,y2C⟩,hy2,h⟩:=zAc h;refine⟨_,⟨_,_,_,hy2,rfl,rfl⟩,?_⟩
 obtain⟨⟨y3A,y3D,y3B,y3C⟩,hy3,h⟩:=zAc h;refine⟨_,⟨_,_,_,hy3,rfl,rfl⟩,?_⟩
 obtain⟨⟨y4A,y4D,y4B,y4C⟩,hy4,h⟩:=zAc h;refine⟨_,⟨_,_,_,hy4,rfl,rfl⟩,?_⟩
 intro r5 hr5;obtain rfl:CV.encs [CV.mk y2A y2D y2B y2C,CV.mk y3A y3D y3B y3C,CV.mk y4A y4D y4B y4C]=r5:=(hr5.trans zMS).symm;obtain⟨⟨y6A,y6D,y6B,y6C⟩,hy6,h⟩:=zAc h;refine⟨_,⟨_,_,hy6,rfl,rfl⟩,?_⟩
 refine zAe ?_;have hy:=osi h;subst hy;exact fin0 rfl rfl
def zLw (n:Nat) (xs:List AV) (r:Ret):Prop:=∃ (a0:List zRc) (y0:CV),zD4 n a0=some y0/\xs=[.s (.sl 5 ((List.map zAi) a0)),.s (.fn 63)]/\r = .val (.agg ((CV.enc y0).map .s))
def zHn:zAq:=zAw fun xs r=>∃ n,zLw n xs r
theorem zLb:PSound Tryz.prog 62 zHn:=by
 have gok:∀ f s,look? f [(58,zD9),(63,zHr)]=some s->PSound Tryz.prog f s:=zAl (by
  simp only[List.forall_mem_cons]
  exact⟨zEN,zLf,by simp⟩)
 refine zAC tokW Tryz.call62 Tryz.func62 rfl (fun xs r h=>by obtain⟨n,_,_,_,rfl,_⟩:=h; show 2<=25; decide) 25 rfl ?_;rintro xs r w0 G0 ⟨n,l1,y0,h,rfl,rfl⟩ _;rw[zD4]at h;refine zYZ [4] [] rfl ?_;refine zYZ [5] [] rfl ?_;obtain⟨⟨y2A,y2D,y2B,y2C⟩,hy2,h⟩:=zAc h;refine⟨_,_,⟨_,hy2,rfl,rfl,rfl,rfl⟩,?_⟩
 refine zAa ?_;refine zYZ [] [10] rfl ?_;intro n3 hn3;obtain rfl:(l1.length:Int)=n3:=(hn3.trans (congrArg (fun m:Nat=>(m:Int)) (rlen (fun _=>rfl) l1))).symm;show Tri ..;obtain⟨l8,hl,h⟩:=zAc h;refine zAo ⟨ofL [(4,.op 0 0),(5,.op 1 0)],ofH [(0,.box 68 [.s (.int .i64 0),.s (.int .i64 0),.s (.str []),.nl 4]),(1,.box 68 [.s (.int .i64 y2A),.s (.int .i64 y2D),.s (.str y2B),.orow 2]),(2,.row 68 4 (CV.encs l8))],3⟩ ?_ (fun σ' hle=>?_)
 ·refine zAk (zAD (X:=Nat×Int×(List CV)) (fun y=>match y with | (k,x6,l7)=>⟨ofL [(1,.s (.fn 63)),(4,.op 0 0),(5,.op 1 0),(9,.s (.sl 5 ((List.map zAi) l1))),(10,.s (.int .i64 (l1.length:Int))),(11,.s (.int .i64 x6))],ofH [(0,.box 68 [.s (.int .i64 0),.s (.int .i64 0),.s (.str []),.nl 4]),(1,.box 68 [.s (.int .i64 y2A),.s (.int .i64 y2D),.s (.str y2B),.orow 2]),(2,.row 68 4 (CV.encs l7))],3⟩) (fun y=>zA9 n l1 y.1 y.2.1 y.2.2=some l8) (fun y=>y.1) (n,0,y2C) hl ?_ ?_)
  ·exact(Le.rnm [(0,0),(3,1),(2,2)] _ _ _ ⟨rfl,rfl,rfl,rfl,rfl,rfl,trivial⟩ ⟨rfl,⟨_,rfl,rfl⟩,rfl,⟨_,rfl,rfl⟩,rfl,⟨_,rfl,rfl⟩,trivial⟩)
  ·rintro⟨k,x6,l7⟩ h;cases k with
   | zero=>cases h
   | succ k =>
    replace h:zA9 n l1 (k+1) x6 l7=some l8:=h;rw[zA9]at h;refine zZO ?_;refine zAa ?_;refine zAh rfl h (fun hb h=>?_) (fun hb h=>?_)
    ·refine zAf ?_;refine zAa ?_;refine zAk ?_;refine zYZ [7] [13] rfl ?_;obtain⟨⟨e9P,⟨e9W,e9X⟩,⟨e9Y,e9Z⟩⟩,he9,h⟩:=zAc h;refine And.intro (zAt (fun _=>rfl) he9).1 ?_;intro r10 hr10;obtain rfl:[.sl 8 ((List.map zAn) e9P),.sl 1 ((List.map (irow .i64)) e9W),.sl 1 ((List.map (irow .i64)) e9X),.sl 1 ((List.map (irow .i64)) e9Y),.sl 1 ((List.map (irow .i64)) e9Z)]=r10:=(hr10.trans (zAt (fun _=>rfl) he9).2.1).symm;show Tri ..
     refine zAj (Le.giveBox 3 [.sl 8 ((List.map zAn) e9P),.sl 1 ((List.map (irow .i64)) e9W),.sl 1 ((List.map (irow .i64)) e9X),.sl 1 ((List.map (irow .i64)) e9Y),.sl 1 ((List.map (irow .i64)) e9Z)] rfl rfl) ?_;refine zBw [21] [20] [1,6,8] rfl (by decide +kernel) ?_;obtain⟨⟨y11A,y11D,y11B,y11C⟩,hy11,h⟩:=zAc h;refine⟨_,⟨_,_,_,hy11,rfl,rfl⟩,?_⟩
     intro r12 hr12;obtain rfl:CV.encs [CV.mk y11A y11D y11B y11C]=r12:=(hr12.trans zMS).symm;obtain⟨hq,h⟩:=zAI h
     refine And.intro (show((CV.encs l7).length+(CV.encs [CV.mk y11A y11D y11B y11C]).length) * 56<=140737488355328/\(CV.encs l7).length+(CV.encs [CV.mk y11A y11D y11B y11C]).length<=9223372036854775807 from by simp only[List.length_append,List.length_cons,List.length_nil,List.length_map,rlen CV.encs_eq]at hq ⊢; omega) ?_;show Tri ..
     refine zAj (Le.rnm [(0,0),(1,1),(4,2)] [(1,.s (.fn 63)),(4,.op 0 0),(5,.op 1 0),(9,.s (.sl 5 ((List.map zAi) l1))),(10,.s (.int .i64 (l1.length:Int))),(11,.s (.int .i64 x6))] [(0,.box 68 [.s (.int .i64 0),.s (.int .i64 0),.s (.str []),.nl 4]),(1,.box 68 [.s (.int .i64 y2A),.s (.int .i64 y2D),.s (.str y2B),.orow 2]),(2,.row 68 4 (CV.encs (l7++[CV.mk y11A y11D y11B y11C])))] 3 ⟨rfl,rfl,rfl,rfl,rfl,rfl,trivial⟩ ⟨rfl,⟨_,rfl,rfl⟩,rfl,⟨_,rfl,rfl⟩,rfl,⟨_,rfl,congrArg (Ob.row 68 4) zMS⟩,trivial⟩) ?_
     refine zZN ?_;refine⟨(k,IntKind.i64.wrap (x6+1),l7++[CV.mk y11A y11D y11B y11C]),h,(Le.rnm [(0,0),(1,1),(2,2)] _ _ _ ⟨rfl,rfl,rfl,rfl,rfl,rfl,trivial⟩ ⟨rfl,⟨_,rfl,rfl⟩,rfl,⟨_,rfl,rfl⟩,rfl,⟨_,rfl,rfl⟩,trivial⟩),Nat.lt_succ_self k⟩
    ·refine zAJ ?_;cases h;exact(Le.rnm [(0,0),(1,1),(2,2)] _ _ _ ⟨rfl,rfl,trivial⟩ ⟨rfl,⟨_,rfl,rfl⟩,rfl,⟨_,rfl,rfl⟩,rfl,⟨_,rfl,rfl⟩,trivial⟩)
 ·refine zAj hle ?_;refine zZO ?_;refine zAe ?_;have hy:=osi h;subst hy;unfold zE4;exact⟨_,(Le.trans (Le.rnm [(0,0),(2,1)] [(4,.op 0 0)] [(0,.box 68 [.s (.int .i64 y2A),.s (.int .i64 y2D),.s (.str y2B),.orow 1]),(1,.row 68 4 (CV.encs l8))] 2 ⟨rfl,trivial⟩ ⟨rfl,⟨_,rfl,rfl⟩,rfl,⟨_,rfl,rfl⟩,trivial⟩) (Le.giveRow 1 rfl)),rfl,rfl⟩
def zKe (n:Nat) (xs:List AV) (r:Ret):Prop:=∃ (a0:(List UInt8×Nd×List zRc×Int)) (y0:CV),zCx n a0=some y0/\xs=[.agg ((zBd a0).map .s)]/\r = .val (.agg ((CV.enc y0).map .s))
def zGj:zAq:=zAw fun xs r=>∃ n,zKe n xs r
theorem zJH:PSound Tryz.prog 27 zGj:=by
 have gok:∀ f s,look? f [(59,zIp),(60,zIO),(61,zE6),(62,zHn),(58,zFx)]=some s->PSound Tryz.prog f s:=zAl (by
  simp only[List.forall_mem_cons]
  exact⟨zJG,zMK,zFT,zLb,zF6,by simp⟩)
 refine zAC tokW Tryz.call27 Tryz.func27 rfl (fun xs r h=>by obtain⟨n,_,_,_,rfl,_⟩:=h; show 1<=17; decide) 17 rfl ?_;rintro xs r w0 G0 ⟨n,⟨d1U,⟨d1Q,d1R,d1S,d1T⟩,d1H,d1V⟩,y0,h,rfl,rfl⟩ _;rw[zCx]at h;refine zYZ [2] [] rfl ?_;refine zAa ?_;refine zBw [] [15] [14] rfl (by decide +kernel) ?_;obtain⟨⟨y2A,y2D,y2B,y2C⟩,hy2,h⟩:=zAc h;refine⟨_,⟨_,_,hy2,rfl,rfl⟩,?_⟩
 obtain⟨⟨y3A,y3D,y3B,y3C⟩,hy3,h⟩:=zAc h;refine⟨_,⟨_,_,_,hy3,rfl,rfl⟩,?_⟩
 obtain⟨⟨y4A,y4D,y4B,y4C⟩,hy4,h⟩:=zAc h;refine⟨_,⟨_,_,hy4,rfl,rfl⟩,?_⟩
 obtain⟨⟨y5A,y5D,y5B,y5C⟩,hy5,h⟩:=zAc h;refine⟨_,⟨_,_,_,hy5,rfl,rfl⟩,?_⟩
 intro r6 hr6;obtain rfl:CV.encs [CV.mk y2A y2D y2B y2C,CV.mk y3A y3D y3B y3C,CV.mk y4A y4D y4B y4C,CV.mk y5A y5D y5B y5C]=r6:=(hr6.trans zMS).symm;obtain⟨⟨y7A,y7D,y7B,y7C⟩,hy7,h⟩:=zAc h;refine⟨_,⟨_,_,hy7,rfl,rfl⟩,?_⟩
 refine zAe ?_;have hy:=osi h;subst hy;exact fin0 rfl rfl
def zTk (n:Nat) (xs:List AV) (r:Ret):Prop:=∃ (a0:(List UInt8×Nd×List zRc×Int)) (y0:List UInt8) (y1:Int),zCL n a0=some (y0,y1)/\xs=[.agg ((zBd a0).map .s)]/\r = .val (.tup [.s (.sl 1 ((List.map brow) y0)),.s (.int .i64 y1)])
def zKV:zAq:=zAw fun xs r=>∃ n,zTk n xs r
theorem zTY {α:Type}{a b:α} (h:a=b:=by simp[List.map_append,List.map_take,List.map_drop,irow,brow,zGp,List.map_cons,List.map_nil,zFV,Nd.encs_eq,Nd.enc,CV.encs_eq,CV.enc,zCn,zBp,zGA,zA6,zAN,zAn,zAR,zB6,zAi,zBd]):a=b :=
 h
theorem zNi:PSound Tryz.prog 10 zKV:=by
 have gok:∀ f s,look? f [(12,zI6),(27,zGj),(26,zKs),(28,zHL)]=some s->PSound Tryz.prog f s:=zAl (by
  simp only[List.forall_mem_cons]
  exact⟨zL4,zJH,zOG,zJx,by simp⟩)
 refine zAC tokW Tryz.call10 Tryz.func10 rfl (fun xs r h=>by obtain⟨n,_,_,_,_,rfl,_⟩:=h; show 1<=42; decide) 42 rfl ?_;rintro xs r w0 G0 ⟨n,⟨d1U,⟨d1Q,d1R,d1S,d1T⟩,d1H,d1V⟩,y0,y1,h,rfl,rfl⟩ _;rw[zCL]at h;refine zYZ [2] [] rfl ?_;refine zAj (Le.rnm [] [(1,.s (.pt [.str d1U,.int .i64 d1Q,.str d1R,.int .i64 d1S,.sl 4 (Nd.encs d1T),.sl 5 ((List.map zAi) d1H),.int .i64 d1V]))] [] 0 ⟨rfl,trivial⟩ trivial) ?_;refine zAa ?_;refine zZO ?_
 obtain⟨y2,hy2,h⟩:=zAc h;refine⟨_,⟨_,_,_,hy2,rfl,rfl⟩,?_⟩
 refine zAh rfl h (fun hb h=>?_) (fun hb h=>?_)
 ·refine zYZ [2] [] rfl ?_;refine zAj (Le.rnm [(0,0)] [(2,.orow 0),(3,.s (.int .i64 1))] [(0,.row 5 1 ((List.map brow) []))] 1 ⟨rfl,rfl,trivial⟩ ⟨rfl,⟨_,rfl,congrArg (Ob.row 5 1) zTY⟩,trivial⟩) ?_;refine zAe ?_;obtain⟨hj1,hk1⟩:=pij h;subst hj1 hk1;unfold zE4
  exact⟨_,(Le.trans (Le.rnm [(0,0)] [(2,.orow 0),(3,.s (.int .i64 1))] [(0,.row 5 1 ((List.map brow) []))] 1 ⟨rfl,rfl,trivial⟩ ⟨rfl,⟨_,rfl,rfl⟩,trivial⟩) (Le.giveRow 0 rfl)),rfl,rfl⟩
 ·refine zAf ?_;refine zZO ?_;obtain⟨⟨y3A,y3D,y3B,y3C⟩,hy3,h⟩:=zAc h;refine⟨_,⟨_,_,_,hy3,rfl,rfl⟩,?_⟩
  obtain⟨⟨y4,y5⟩,hy4,h⟩:=zAc h;refine⟨_,⟨_,_,_,_,hy4,rfl,rfl⟩,?_⟩
  refine zAa ?_;refine zZO ?_;refine zAh rfl h (fun hb h=>?_) (fun hb h=>?_)
  ·refine zYZ [2] [] rfl ?_;refine zAj (Le.rnm [(0,0)] [(2,.orow 0),(3,.s (.int .i64 6))] [(0,.row 5 1 ((List.map brow) []))] 1 ⟨rfl,rfl,trivial⟩ ⟨rfl,⟨_,rfl,congrArg (Ob.row 5 1) zTY⟩,trivial⟩) ?_;refine zAe ?_;obtain⟨hj1,hk1⟩:=pij h;subst hj1 hk1;unfold zE4
   exact⟨_,(Le.trans (Le.rnm [(0,0)] [(2,.orow 0),(3,.s (.int .i64 6))] [(0,.row 5 1 ((List.map brow) []))] 1 ⟨rfl,rfl,trivial⟩ ⟨rfl,⟨_,rfl,rfl⟩,trivial⟩) (Le.giveRow 0 rfl)),rfl,rfl⟩
  ·refine zAf ?_;refine zYZ [23] [21] rfl ?_;intro n6 hn6;obtain rfl:(y4.length:Int)=n6:=(hn6.trans (congrArg (fun m:Nat=>(m:Int)) (rlen (fun _=>rfl) y4))).symm;obtain⟨hq,h⟩:=zAI h;refine And.intro (show 0<=(0:Int)/\(0:Int)<=(IntKind.i64.wrap (12+(y4.length:Int)))/\(IntKind.i64.wrap (12+(y4.length:Int))) * ((1:Nat):Int)<=281474976710656/\(IntKind.i64.wrap (12+(y4.length:Int)))<=281474976710656 from⟨hq.1,hq.2.1,by have h1:=hq.1; have h2:=hq.2.1; have h3:=hq.2.2; omega,by have h3:=hq.2.2; omega⟩) ?_;show Tri ..
   refine zAj (Le.rnm [(0,0)] [(4,.s (.sl 1 ((List.map brow) y4))),(6,.orow 0)] [(0,.row 5 1 ((List.map brow) (List.replicate (0:Int).toNat (b8of 0))))] 1 ⟨rfl,rfl,trivial⟩ ⟨rfl,⟨_,rfl,congrArg (Ob.row 5 1) zTY⟩,trivial⟩) ?_;refine zYZ [25] [] rfl ?_;obtain⟨hq,h⟩:=zAI h
   refine And.intro (show(((List.map brow) (List.replicate (0:Int).toNat (b8of 0))).length+(List.map brow [86,67,76,49]).length) * 1<=140737488355328/\((List.map brow) (List.replicate (0:Int).toNat (b8of 0))).length+(List.map brow [86,67,76,49]).length<=9223372036854775807 from by simp only[List.length_append,List.length_cons,List.length_nil,List.length_map,rlen (fun _=>rfl)]at hq ⊢; omega) ?_;show Tri ..
   refine zAj (Le.rnm [(1,0)] [(4,.s (.sl 1 ((List.map brow) y4))),(6,.orow 0)] [(0,.row 5 1 ((List.map brow) ((List.replicate (0:Int).toNat (b8of 0))++[86,67,76,49])))] 1 ⟨rfl,rfl,trivial⟩ ⟨rfl,⟨_,rfl,congrArg (Ob.row 5 1) zTY⟩,trivial⟩) ?_;refine zZO ?_;obtain⟨y7,hy7,h⟩:=zAc h
   refine⟨_,⟨_,_,_,hy7,rfl,rfl⟩,?_⟩
   refine zAa ?_;refine zZO ?_;show Tri ..;obtain⟨l11,hl,h⟩:=zAc h;refine zAo ⟨ofL [(4,.s (.sl 1 ((List.map brow) y4))),(6,.orow 0)],ofH [(0,.row 5 1 ((List.map brow) l11))],1⟩ ?_ (fun σ' hle=>?_)
   ·refine zAk (zAD (X:=Nat×Int×(List UInt8)) (fun y=>match y with | (k,shift9,l10)=>⟨ofL [(4,.s (.sl 1 ((List.map brow) y4))),(6,.orow 0),(7,.s (.int .u64 y7)),(8,.s (.int .i64 shift9))],ofH [(0,.row 5 1 ((List.map brow) l10))],1⟩) (fun y=>zDf y7 y.1 y.2.1 y.2.2=some l11) (fun y=>y.1) (n,56,(List.replicate (0:Int).toNat (b8of 0))++[86,67,76,49]) hl ?_ ?_)
    ·exact(Le.rnm [(0,0)] _ _ _ ⟨rfl,rfl,rfl,rfl,trivial⟩ ⟨rfl,⟨_,rfl,rfl⟩,trivial⟩)
    ·rintro⟨k,shift9,l10⟩ h;cases k with
     | zero=>cases h
     | succ k =>
      replace h:zDf y7 (k+1) shift9 l10=some l11:=h;rw[zDf]at h;refine zAa ?_;refine zZO ?_;refine zAh rfl h (fun hb h=>?_) (fun hb h=>?_)
      ·refine zAf ?_;refine zAa ?_;refine zAk ?_;refine zAb [38] [37] rfl ?_;obtain⟨hq,h⟩:=zAI h;refine And.intro hq ?_;intro r12 hr12;obtain rfl:(List.map brow) [b8of (IntKind.u8.wrap (y7.fdiv (2 ^ (min shift9.toNat IntKind.u64.bits))))]=r12:=(hr12.trans zTY).symm;obtain⟨hq,h⟩:=zAI h
       refine And.intro (show(((List.map brow) l10).length+((List.map brow) [b8of (IntKind.u8.wrap (y7.fdiv (2 ^ (min shift9.toNat IntKind.u64.bits))))]).length) * 1<=140737488355328/\((List.map brow) l10).length+((List.map brow) [b8of (IntKind.u8.wrap (y7.fdiv (2 ^ (min shift9.toNat IntKind.u64.bits))))]).length<=9223372036854775807 from by simp only[List.length_append,List.length_cons,List.length_nil,List.length_map,rlen (fun _=>rfl)]at hq ⊢; omega) ?_;show Tri ..
       refine zAj (Le.rnm [(1,0)] [(4,.s (.sl 1 ((List.map brow) y4))),(6,.orow 0),(7,.s (.int .u64 y7)),(8,.s (.int .i64 shift9))] [(0,.row 5 1 ((List.map brow) (l10++[b8of (IntKind.u8.wrap (y7.fdiv (2 ^ (min shift9.toNat IntKind.u64.bits))))])))] 1 ⟨rfl,rfl,rfl,rfl,trivial⟩ ⟨rfl,⟨_,rfl,congrArg (Ob.row 5 1) zTY⟩,trivial⟩) ?_
       refine zZN ?_;refine⟨(k,IntKind.i64.wrap (shift9 - 8),l10++[b8of (IntKind.u8.wrap (y7.fdiv (2 ^ (min shift9.toNat IntKind.u64.bits))))]),h,(Le.rnm [(0,0)] _ _ _ ⟨rfl,rfl,rfl,rfl,trivial⟩ ⟨rfl,⟨_,rfl,rfl⟩,trivial⟩),Nat.lt_succ_self k⟩
      ·refine zAJ ?_;cases h;exact(Le.rnm [(0,0)] _ _ _ ⟨rfl,rfl,trivial⟩ ⟨rfl,⟨_,rfl,rfl⟩,trivial⟩)
   ·refine zAj hle ?_;refine zYZ [41] [] rfl ?_;obtain⟨hq,h⟩:=zAI h;refine And.intro (show(((List.map brow) l11).length+((List.map brow) y4).length) * 1<=140737488355328/\((List.map brow) l11).length+((List.map brow) y4).length<=9223372036854775807 from by simp only[List.length_append,List.length_cons,List.length_nil,List.length_map,rlen (fun _=>rfl)]at hq ⊢; omega) ?_;show Tri ..
    refine zAj (Le.rnm [(1,0)] [(2,.orow 0),(3,.s (.int .i64 0))] [(0,.row 5 1 ((List.map brow) (l11++y4)))] 1 ⟨rfl,rfl,trivial⟩ ⟨rfl,⟨_,rfl,congrArg (Ob.row 5 1) zTY⟩,trivial⟩) ?_;refine zAe ?_;obtain⟨hj1,hk1⟩:=pij h;subst hj1 hk1;unfold zE4
    exact⟨_,(Le.trans (Le.rnm [(0,0)] [(2,.orow 0),(3,.s (.int .i64 0))] [(0,.row 5 1 ((List.map brow) (l11++y4)))] 1 ⟨rfl,rfl,trivial⟩ ⟨rfl,⟨_,rfl,rfl⟩,trivial⟩) (Le.giveRow 0 rfl)),rfl,rfl⟩
def zTn (n:Nat) (xs:List AV) (r:Ret):Prop:=∃ (y0:Bool),zFC n=some y0/\xs=[]/\r = .val (.s (.bool y0))
def zN4:zAq:=zAw fun xs r=>∃ n,zTn n xs r
theorem zSM:PSound Tryz.prog 8 zN4:=by
 have gok:∀ f s,look? f [(10,zKV)]=some s->PSound Tryz.prog f s:=zAl (by
  simp only[List.forall_mem_cons]
  exact⟨zNi,by simp⟩)
 refine zAC tokW Tryz.call8 Tryz.func8 rfl (fun xs r h=>by obtain⟨n,_,_,rfl,_⟩:=h; show 0<=22; decide) 22 rfl ?_;rintro xs r w0 G0 ⟨n,y0,h,rfl,rfl⟩ _;rw[zFC]at h;refine zZO ?_;refine zZO ?_;obtain⟨⟨y1,y2⟩,hy1,h⟩:=zAc h;refine⟨_,⟨_,_,_,_,hy1,rfl,rfl⟩,?_⟩
 refine zAa ?_;obtain⟨x3,hj,h⟩:=zAc h;refine zAo ⟨ofL [(0,.s (.bool x3))],fun _=>none,0⟩ ?_ (fun σ' hle=>?_)
 ·replace h:=hj;refine zAb [] [11,13,16,18,19] rfl ?_;intro b hb;cases b with
  | true =>
   replace h:=zAF hb.symm h;intro n4 hn4;obtain rfl:(y1.length:Int)=n4:=(hn4.trans (congrArg (fun m:Nat=>(m:Int)) (rlen (fun _=>rfl) y1))).symm;intro b hb;cases b with
   | true =>
    replace h:=zAF hb.symm h;obtain⟨hq,h⟩:=zAI h;refine And.intro ⟨hq.1,Int.le_trans hq.2.1 (Int.ofNat_le.2 (Nat.le_of_eq (rlen (fun _=>rfl) _).symm)),Int.le_refl _⟩ ?_;intro r5 hr5;obtain rfl:(List.map brow) ((y1.take (y1.length:Int).toNat).drop (12:Int).toNat)=r5:=(hr5.trans ((congrArg (fun m:Nat=>(((List.map brow) y1).take m).drop (12:Int).toNat) (rlen (fun _=>rfl) _)).trans (rcut (fun _=>rfl) _ _ _))).symm;refine And.intro (show List.map brow ((y1.take (y1.length:Int).toNat).drop (12:Int).toNat)=((List.map brow ((y1.take (y1.length:Int).toNat).drop (12:Int).toNat)).map zHv).map brow from by rw[zEB]) ?_;intro s6 hs6
    obtain rfl:(y1.take (y1.length:Int).toNat).drop (12:Int).toNat=s6:=(hs6.trans (zEB _)).symm;cases h;exact(Le.forget _ ⟨rfl,trivial⟩)
   | false =>
    replace h:=zAE hb.symm h;cases h;exact(Le.forget _ ⟨rfl,trivial⟩)
  | false =>
   replace h:=zAE hb.symm h;intro b hb;subst hb;cases h;exact(Le.forget _ ⟨rfl,trivial⟩)
 ·refine zAj hle ?_;refine zAe ?_;have hy:=osi h;subst hy;exact fin0 rfl rfl
def zIo (xs:List AV) (r:Ret):Prop:=∃ (a0:List UInt8) (a1:List UInt8) (y0:Bool),zCz a0 a1=some y0/\xs=[.s (.str a0),.s (.str a1)]/\r = .val (.s (.bool y0))
def zE7:zAq:=zAw fun xs r=>zIo xs r
theorem zIk:PSound Tryz.prog 81 zE7:=by
 have gok:=@gok0 Tryz.prog;refine zAC tokW Tryz.call81 Tryz.func81 rfl (fun xs r h=>by obtain⟨_,_,_,_,rfl,_⟩:=h; show 2<=18; decide) 18 rfl ?_;rintro xs r w0 G0 ⟨s1,prefix2,y0,h,rfl,rfl⟩ _;rw[zCz]at h;refine zZO ?_;refine zAa ?_;obtain⟨x3,hj,h⟩:=zAc h;refine zAo ⟨ofL [(4,.s (.bool x3))],fun _=>none,0⟩ ?_ (fun σ' hle=>?_)
 ·replace h:=hj;refine zAb [] [10] rfl ?_;intro b hb;cases b with
  | true =>
   replace h:=zAF hb.symm h;obtain⟨hq,h⟩:=zAI h;refine And.intro hq ?_;cases h;exact(Le.forget _ ⟨rfl,trivial⟩)
  | false =>
   replace h:=zAE hb.symm h;cases h;exact(Le.forget _ ⟨rfl,trivial⟩)
 ·refine zAj hle ?_;refine zAe ?_;have hy:=osi h;subst hy;exact fin0 rfl rfl
def zKS (xs:List AV) (r:Ret):Prop:=∃ (a0:List UInt8) (a1:List UInt8) (y0:Bool),zCN a0 a1=some y0/\xs=[.s (.str a0),.s (.str a1)]/\r = .val (.s (.bool y0))
def zGR:zAq:=zAw fun xs r=>zKS xs r
theorem zKm:PSound Tryz.prog 39 zGR:=by
 have gok:∀ f s,look? f [(81,zE7)]=some s->PSound Tryz.prog f s:=zAl (by
  simp only[List.forall_mem_cons]
  exact⟨zIk,by simp⟩)
 refine zAC tokW Tryz.call39 Tryz.func39 rfl (fun xs r h=>by obtain⟨_,_,_,_,rfl,_⟩:=h; show 2<=8; decide) 8 rfl ?_;rintro xs r w0 G0 ⟨s1,prefix2,y0,h,rfl,rfl⟩ _;rw[zCN]at h;refine zZO ?_;refine zZO ?_;obtain⟨y3,hy3,h⟩:=zAc h;refine⟨_,⟨_,_,_,hy3,rfl,rfl⟩,?_⟩
 refine zAe ?_;have hy:=osi h;subst hy;exact fin0 rfl rfl
def zAm (p:(Int)):List S:=[.int .i64 p]
def zLy (xs:List AV) (os:List Ob) (x:AV) (os':List (Option Ob)):Prop:=∃ (a0:(Int)) (z0:(Int)),zBh a0=some z0/\xs=[.op 0 0]/\os=[.box 92 ((zAm a0).map .s)]/\x = .tup []/\os'=[some (.box 92 ((zAm z0).map .s))]
def zCj:zAq:=zBK (fun xs os x os'=>zLy xs os x os')
theorem zCP:PSound Tryz.prog 124 zCj:=by
 have gok:=@gok0 Tryz.prog;refine PSound.withNil (zDQ tokW Tryz.call124 Tryz.func124 rfl (fun xs os x os' h=>by obtain⟨_,_,_,rfl,rfl,_,rfl⟩:=h; exact⟨by show 1<=10; decide,by show 1<=1; decide⟩) 10 rfl ?_) _;rintro xs os x os' w0 G0 B0 ⟨r1,z0,h,rfl,rfl,rfl,rfl⟩ _;rw[zBh]at h;refine zZO ?_;refine zAh rfl h (fun hb h=>?_) (fun hb h=>?_)
 ·refine zZN ?_;have hy:=osi h;subst hy;unfold zA8;exact⟨_,(Le.rnm [(0,0)] [] [(0,.box 92 [.s (.int .i64 4)])] 1 trivial ⟨rfl,⟨_,rfl,rfl⟩,trivial⟩),rfl,rfl,rfl,rfl,trivial⟩
 ·refine zAf ?_;have hy:=osi h;subst hy;unfold zA8;exact⟨_,(Le.rnm [(0,0)] [] [(0,.box 92 [.s (.int .i64 r1)])] 1 trivial ⟨rfl,⟨_,rfl,rfl⟩,trivial⟩),rfl,rfl,rfl,rfl,trivial⟩
def zLz (xs:List AV) (os:List Ob) (x:AV) (os':List (Option Ob)):Prop:=∃ (a0:(Int)) (a1:CV) (y0:List CV) (z0:(Int)),zBi a0 a1=some (y0,z0)/\xs=[.op 0 0,.agg ((CV.enc a1).map .s)]/\os=[.box 92 ((zAm a0).map .s)]/\x = .s (.sl 4 (CV.encs y0))/\os'=[some (.box 92 ((zAm z0).map .s))]
def zCk:zAq:=zBK (fun xs os x os'=>zLz xs os x os')
theorem zCQ:PSound Tryz.prog 88 zCk:=by
 have gok:∀ f s,look? f [(124,zCj)]=some s->PSound Tryz.prog f s:=zAl (by
  simp only[List.forall_mem_cons]
  exact⟨zCP,by simp⟩)
 refine PSound.withNil (zDQ tokW Tryz.call88 Tryz.func88 rfl (fun xs os x os' h=>by obtain⟨_,_,_,_,_,rfl,rfl,_,rfl⟩:=h; exact⟨by show 2<=12; decide,by show 1<=1; decide⟩) 12 rfl ?_) _;rintro xs os x os' w0 G0 B0 ⟨r1,⟨v2A,v2D,v2B,v2C⟩,y0,z0,h,rfl,rfl,rfl,rfl⟩ _;rw[zBi]at h;refine zZO ?_;refine zAa ?_;refine zZO ?_;show Tri ..;obtain⟨x3,hj,h⟩:=zAc h;refine zAo ⟨ofL [(3,.s (.pt [.int .i64 v2A,.int .i64 v2D,.str v2B,.sl 4 (CV.encs v2C)]))],ofH [(0,.box 92 [.s (.int .i64 x3)])],1⟩ ?_ (fun σ' hle=>?_)
 ·replace h:=hj;refine zAh rfl h (fun hb h=>?_) (fun hb h=>?_)
  ·refine zZN ?_;obtain⟨w4,hw4,h⟩:=zAc h;refine⟨_,_,⟨_,_,hw4,rfl,rfl,rfl,rfl⟩,?_⟩
   cases h;exact(Le.rnm [(0,0)] _ _ _ ⟨rfl,trivial⟩ ⟨rfl,⟨_,rfl,rfl⟩,trivial⟩)
  ·refine zAf ?_;cases h;exact(Le.rnm [(0,0)] _ _ _ ⟨rfl,trivial⟩ ⟨rfl,⟨_,rfl,rfl⟩,trivial⟩)
 ·refine zAj hle ?_;refine zZO ?_;refine zAe ?_;obtain⟨hj1,hk1⟩:=pij h;subst hj1 hk1;unfold zA8;exact⟨_,(Le.rnm [(0,0)] [(4,.s (.sl 4 (CV.encs v2C)))] [(0,.box 92 [.s (.int .i64 x3)])] 1 ⟨rfl,trivial⟩ ⟨rfl,⟨_,rfl,rfl⟩,trivial⟩),rfl,rfl,rfl,rfl,trivial⟩
def zKQ (xs:List AV) (os:List Ob) (x:AV) (os':List (Option Ob)):Prop:=∃ (a0:(Int)) (a1:CV) (a2:Int) (y0:List CV) (z0:(Int)),zB3 a0 a1 a2=some (y0,z0)/\xs=[.op 0 0,.agg ((CV.enc a1).map .s),.s (.int .i64 a2)]/\os=[.box 92 ((zAm a0).map .s)]/\x = .s (.sl 4 (CV.encs y0))/\os'=[some (.box 92 ((zAm z0).map .s))]
def zEP:zAq:=zBK (fun xs os x os'=>zKQ xs os x os')
theorem zGn:PSound Tryz.prog 123 zEP:=by
 have gok:∀ f s,look? f [(88,zCk),(124,zCj)]=some s->PSound Tryz.prog f s:=zAl (by
  simp only[List.forall_mem_cons]
  exact⟨zCQ,zCP,by simp⟩)
 refine PSound.withNil (zDQ tokW Tryz.call123 Tryz.func123 rfl (fun xs os x os' h=>by obtain⟨_,_,_,_,_,_,rfl,rfl,_,rfl⟩:=h; exact⟨by show 3<=20; decide,by show 1<=1; decide⟩) 20 rfl ?_) _;rintro xs os x os' w0 G0 B0 ⟨r1,⟨v2A,v2D,v2B,v2C⟩,size3,y0,z0,h,rfl,rfl,rfl,rfl⟩ _;rw[zB3]at h;refine zZO ?_;refine zZO ?_;obtain⟨⟨y4,w5⟩,hy4,h⟩:=zAc h;refine⟨_,_,⟨_,_,_,_,hy4,rfl,rfl,rfl,rfl⟩,?_⟩
 refine zAa ?_;refine zYZ [] [12] rfl ?_;intro n6 hn6;obtain rfl:(y4.length:Int)=n6:=(hn6.trans (congrArg (fun m:Nat=>(m:Int)) (rlen CV.encs_eq y4))).symm;refine zAh rfl h (fun hb h=>?_) (fun hb h=>?_)
 ·refine zZO ?_;obtain⟨w7,hw7,h⟩:=zAc h;refine⟨_,_,⟨_,_,hw7,rfl,rfl,rfl,rfl⟩,?_⟩
  refine zZO ?_;obtain⟨hq,h⟩:=zAI h;refine And.intro (show 0<=size3/\size3<=size3/\size3 * ((56:Nat):Int)<=281474976710656/\size3<=281474976710656 from⟨hq.1,Int.le_refl _,by have h1:=hq.1; have h2:=hq.2; omega,by have h2:=hq.2; omega⟩) ?_;show Tri ..
  refine zAj (Le.rnm [(0,0),(1,1)] [(6,.orow 1)] [(0,.box 92 [.s (.int .i64 w7)]),(1,.row 68 4 (CV.encs (List.replicate size3.toNat (CV.mk 0 0 [] []))))] 2 ⟨rfl,trivial⟩ ⟨rfl,⟨_,rfl,rfl⟩,rfl,⟨_,rfl,congrArg (Ob.row 68 4) (by simp[List.map_append,List.map_take,List.map_drop,irow,brow,zGp,List.map_cons,List.map_nil,zFV,CV.encs_eq,CV.enc,Nd.encs_eq,Nd.enc,zCn,zBp,zGA,zA6,zAN,zAn,zAR,zB6,zAi,zBd,zAm])⟩,trivial⟩) ?_;refine zAe ?_;obtain⟨hj1,hk1⟩:=pij h;subst hj1 hk1;unfold zA8
  exact⟨_,(Le.trans (Le.rnm [(0,0),(1,1)] [(6,.orow 1)] [(0,.box 92 [.s (.int .i64 w7)]),(1,.row 68 4 (CV.encs (List.replicate size3.toNat (CV.mk 0 0 [] []))))] 2 ⟨rfl,trivial⟩ ⟨rfl,⟨_,rfl,rfl⟩,rfl,⟨_,rfl,rfl⟩,trivial⟩) (Le.giveRow 1 rfl)),rfl,rfl,rfl,rfl,trivial⟩
 ·refine zAf ?_;refine zZO ?_;refine zAe ?_;obtain⟨hj1,hk1⟩:=pij h;subst hj1 hk1;unfold zA8;exact⟨_,(Le.rnm [(0,0)] [(6,.s (.sl 4 (CV.encs y4)))] [(0,.box 92 [.s (.int .i64 w5)])] 1 ⟨rfl,trivial⟩ ⟨rfl,⟨_,rfl,rfl⟩,trivial⟩),rfl,rfl,rfl,rfl,trivial⟩
def zI1 (xs:List AV) (os:List Ob) (x:AV) (os':List (Option Ob)):Prop:=∃ (a0:(Int)) (a1:CV) (a2:Int) (y0:List CV) (z0:(Int)),zBa a0 a1 a2=some (y0,z0)/\xs=[.op 0 0,.agg ((CV.enc a1).map .s),.s (.int .i64 a2)]/\os=[.box 92 ((zAm a0).map .s)]/\x = .s (.sl 4 (CV.encs y0))/\os'=[some (.box 92 ((zAm z0).map .s))]
def zB9:zAq:=zBK (fun xs os x os'=>zI1 xs os x os')
theorem zCR:PSound Tryz.prog 83 zB9:=by
 have gok:∀ f s,look? f [(123,zEP),(124,zCj)]=some s->PSound Tryz.prog f s:=zAl (by
  simp only[List.forall_mem_cons]
  exact⟨zGn,zCP,by simp⟩)
 refine PSound.withNil (zDQ tokW Tryz.call83 Tryz.func83 rfl (fun xs os x os' h=>by obtain⟨_,_,_,_,_,_,rfl,rfl,_,rfl⟩:=h; exact⟨by show 3<=19; decide,by show 1<=1; decide⟩) 19 rfl ?_) _;rintro xs os x os' w0 G0 B0 ⟨r1,⟨v2A,v2D,v2B,v2C⟩,size3,y0,z0,h,rfl,rfl,rfl,rfl⟩ _;rw[zBa]at h;refine zZO ?_;refine zZO ?_;obtain⟨⟨y4,w5⟩,hy4,h⟩:=zAc h;refine⟨_,_,⟨_,_,_,_,_,hy4,rfl,rfl,rfl,rfl⟩,?_⟩
 refine zAa ?_;refine zYZ [] [13] rfl ?_;intro n6 hn6;obtain rfl:(y4.length:Int)=n6:=(hn6.trans (congrArg (fun m:Nat=>(m:Int)) (rlen CV.encs_eq y4))).symm;show Tri ..;obtain⟨x7,hj,h⟩:=zAc h;refine zAo ⟨ofL [(7,.s (.sl 4 (CV.encs y4)))],ofH [(0,.box 92 [.s (.int .i64 x7)])],1⟩ ?_ (fun σ' hle=>?_)
 ·replace h:=hj;refine zAh rfl h (fun hb h=>?_) (fun hb h=>?_)
  ·refine zZN ?_;obtain⟨w8,hw8,h⟩:=zAc h;refine⟨_,_,⟨_,_,hw8,rfl,rfl,rfl,rfl⟩,?_⟩
   cases h;exact(Le.rnm [(0,0)] _ _ _ ⟨rfl,trivial⟩ ⟨rfl,⟨_,rfl,rfl⟩,trivial⟩)
  ·refine zAf ?_;cases h;exact(Le.rnm [(0,0)] _ _ _ ⟨rfl,trivial⟩ ⟨rfl,⟨_,rfl,rfl⟩,trivial⟩)
 ·refine zAj hle ?_;refine zZO ?_;refine zAe ?_;obtain⟨hj1,hk1⟩:=pij h;subst hj1 hk1;unfold zA8;exact⟨_,(Le.rnm [(0,0)] [(6,.s (.sl 4 (CV.encs y4)))] [(0,.box 92 [.s (.int .i64 x7)])] 1 ⟨rfl,trivial⟩ ⟨rfl,⟨_,rfl,rfl⟩,trivial⟩),rfl,rfl,rfl,rfl,trivial⟩
def zLA (xs:List AV) (os:List Ob) (x:AV) (os':List (Option Ob)):Prop:=∃ (a0:(Int)) (a1:CV) (y0:List UInt8) (z0:(Int)),zBy a0 a1=some (y0,z0)/\xs=[.op 0 0,.agg ((CV.enc a1).map .s)]/\os=[.box 92 ((zAm a0).map .s)]/\x = .s (.str y0)/\os'=[some (.box 92 ((zAm z0).map .s))]
def zD0:zAq:=zBK (fun xs os x os'=>zLA xs os x os')
theorem zET:PSound Tryz.prog 84 zD0:=by
 have gok:∀ f s,look? f [(124,zCj)]=some s->PSound Tryz.prog f s:=zAl (by
  simp only[List.forall_mem_cons]
  exact⟨zCP,by simp⟩)
 refine PSound.withNil (zDQ tokW Tryz.call84 Tryz.func84 rfl (fun xs os x os' h=>by obtain⟨_,_,_,_,_,rfl,rfl,_,rfl⟩:=h; exact⟨by show 2<=12; decide,by show 1<=1; decide⟩) 12 rfl ?_) _;rintro xs os x os' w0 G0 B0 ⟨r1,⟨v2A,v2D,v2B,v2C⟩,y0,z0,h,rfl,rfl,rfl,rfl⟩ _;rw[zBy]at h;refine zZO ?_;refine zAa ?_;refine zZO ?_;show Tri ..;obtain⟨x3,hj,h⟩:=zAc h;refine zAo ⟨ofL [(3,.s (.pt [.int .i64 v2A,.int .i64 v2D,.str v2B,.sl 4 (CV.encs v2C)]))],ofH [(0,.box 92 [.s (.int .i64 x3)])],1⟩ ?_ (fun σ' hle=>?_)
 ·replace h:=hj;refine zAh rfl h (fun hb h=>?_) (fun hb h=>?_)
  ·refine zZN ?_;obtain⟨w4,hw4,h⟩:=zAc h;refine⟨_,_,⟨_,_,hw4,rfl,rfl,rfl,rfl⟩,?_⟩
   cases h;exact(Le.rnm [(0,0)] _ _ _ ⟨rfl,trivial⟩ ⟨rfl,⟨_,rfl,rfl⟩,trivial⟩)
  ·refine zAf ?_;cases h;exact(Le.rnm [(0,0)] _ _ _ ⟨rfl,trivial⟩ ⟨rfl,⟨_,rfl,rfl⟩,trivial⟩)
 ·refine zAj hle ?_;refine zZO ?_;refine zAe ?_;obtain⟨hj1,hk1⟩:=pij h;subst hj1 hk1;unfold zA8;exact⟨_,(Le.rnm [(0,0)] [(4,.s (.str v2B))] [(0,.box 92 [.s (.int .i64 x3)])] 1 ⟨rfl,trivial⟩ ⟨rfl,⟨_,rfl,rfl⟩,trivial⟩),rfl,rfl,rfl,rfl,trivial⟩
def zKc (xs:List AV) (os:List Ob) (x:AV) (os':List (Option Ob)):Prop:=∃ (a0:(Int)) (a1:CV) (y0:Int) (z0:(Int)),zAG a0 a1=some (y0,z0)/\xs=[.op 0 0,.agg ((CV.enc a1).map .s)]/\os=[.box 92 ((zAm a0).map .s)]/\x = .s (.int .i64 y0)/\os'=[some (.box 92 ((zAm z0).map .s))]
def zCt:zAq:=zBK (fun xs os x os'=>zKc xs os x os')
theorem zDb:PSound Tryz.prog 86 zCt:=by
 have gok:∀ f s,look? f [(124,zCj)]=some s->PSound Tryz.prog f s:=zAl (by
  simp only[List.forall_mem_cons]
  exact⟨zCP,by simp⟩)
 refine PSound.withNil (zDQ tokW Tryz.call86 Tryz.func86 rfl (fun xs os x os' h=>by obtain⟨_,_,_,_,_,rfl,rfl,_,rfl⟩:=h; exact⟨by show 2<=12; decide,by show 1<=1; decide⟩) 12 rfl ?_) _;rintro xs os x os' w0 G0 B0 ⟨r1,⟨v2A,v2D,v2B,v2C⟩,y0,z0,h,rfl,rfl,rfl,rfl⟩ _;rw[zAG]at h;refine zZO ?_;refine zAa ?_;refine zZO ?_;show Tri ..;obtain⟨x3,hj,h⟩:=zAc h;refine zAo ⟨ofL [(3,.s (.pt [.int .i64 v2A,.int .i64 v2D,.str v2B,.sl 4 (CV.encs v2C)]))],ofH [(0,.box 92 [.s (.int .i64 x3)])],1⟩ ?_ (fun σ' hle=>?_)
 ·replace h:=hj;refine zAh rfl h (fun hb h=>?_) (fun hb h=>?_)
  ·refine zZN ?_;obtain⟨w4,hw4,h⟩:=zAc h;refine⟨_,_,⟨_,_,hw4,rfl,rfl,rfl,rfl⟩,?_⟩
   cases h;exact(Le.rnm [(0,0)] _ _ _ ⟨rfl,trivial⟩ ⟨rfl,⟨_,rfl,rfl⟩,trivial⟩)
  ·refine zAf ?_;cases h;exact(Le.rnm [(0,0)] _ _ _ ⟨rfl,trivial⟩ ⟨rfl,⟨_,rfl,rfl⟩,trivial⟩)
 ·refine zAj hle ?_;refine zZO ?_;refine zAe ?_;obtain⟨hj1,hk1⟩:=pij h;subst hj1 hk1;unfold zA8;exact⟨_,(Le.rnm [(0,0)] [(4,.s (.int .i64 v2D))] [(0,.box 92 [.s (.int .i64 x3)])] 1 ⟨rfl,trivial⟩ ⟨rfl,⟨_,rfl,rfl⟩,trivial⟩),rfl,rfl,rfl,rfl,trivial⟩
def zBR (n:Nat) (xs:List AV) (os:List Ob) (x:AV) (os':List (Option Ob)):Prop:=∃ (a0:(Int)) (a1:List CV) (y0:List Nd) (z0:(Int)),zBv n a0 a1=some (y0,z0)/\xs=[.op 0 0,.s (.sl 4 (CV.encs a1)),.clo 1048661 [.op 0 0]]/\os=[.box 92 ((zAm a0).map .s)]/\x = .orow 1/\os'=[some (.box 92 ((zAm z0).map .s)),some (.row 24 4 (Nd.encs y0))]
def zCh (n:Nat) (xs:List AV) (os:List Ob) (x:AV) (os':List (Option Ob)):Prop:=∃ (a0:(Int)) (a1:CV) (y0:Nd) (z0:(Int)),zAW n a0 a1=some (y0,z0)/\xs=[.op 0 0,.agg ((CV.enc a1).map .s)]/\os=[.box 92 ((zAm a0).map .s)]/\x = .agg ((Nd.enc y0).map .s)/\os'=[some (.box 92 ((zAm z0).map .s))]
theorem zKp {α:Type}{a b:α} (h:a=b:=by simp[List.map_append,List.map_take,List.map_drop,irow,brow,zGp,List.map_cons,List.map_nil,zFV,Nd.encs_eq,Nd.enc,CV.encs_eq,CV.enc,zCn,zBp,zGA,zA6,zAN,zAn,zAR,zB6,zAi,zBd,zAm]):a=b :=
 h
theorem zIK (n:Nat) (ih_file_elements_Node:PSound Tryz.prog 125 (zBK (zBR n))) (ih_file_reader_tree:PSound Tryz.prog 85 (zBK (zCh n))):PSound Tryz.prog 125 (zBK (zBR (n+1))):=by
 have gok:∀ f s,look? f [(85,zBK (zCh n))]=some s->PSound Tryz.prog f s:=zAl (by
  simp only[List.forall_mem_cons]
  exact⟨ih_file_reader_tree,by simp⟩)
 refine PSound.withNil (zDQ tokW Tryz.call125 Tryz.func125 rfl (fun xs os x os' h=>by obtain⟨_,_,_,_,_,rfl,rfl,_,rfl⟩:=h; exact⟨by show 3<=29; decide,by show 1<=2; decide⟩) 29 rfl ?_) _;rintro xs os x os' w0 G0 B0 ⟨r1,l2,y0,z0,h,rfl,rfl,rfl,rfl⟩ _;rw[zBv]at h;refine zYZ [6] [] rfl ?_;refine zAj (Le.rnm [(0,0)] [(0,.op 0 0),(1,.s (.sl 4 (CV.encs l2))),(2,.clo 1048661 [.op 0 0])] [(0,.box 92 [.s (.int .i64 r1)])] 1 ⟨rfl,rfl,rfl,trivial⟩ ⟨rfl,⟨_,rfl,rfl⟩,trivial⟩) ?_;refine zYZ [7] [] rfl ?_;show Tri ..
 refine zAj (Le.rnm [(0,0),(1,1)] [(0,.op 0 0),(1,.s (.sl 4 (CV.encs l2))),(2,.clo 1048661 [.op 0 0]),(7,.orow 1)] [(0,.box 92 [.s (.int .i64 r1)]),(1,.row 24 4 (Nd.encs []))] 2 ⟨rfl,rfl,rfl,rfl,trivial⟩ ⟨rfl,⟨_,rfl,rfl⟩,rfl,⟨_,rfl,congrArg (Ob.row 24 4) zKp⟩,trivial⟩) ?_;refine zAa ?_;refine zAa ?_
 refine zAb [] [11] rfl ?_;intro n3 hn3;obtain rfl:(l2.length:Int)=n3:=(hn3.trans (congrArg (fun m:Nat=>(m:Int)) (rlen CV.encs_eq l2))).symm;show Tri ..;obtain⟨fl,hl,ho1⟩:=zAc h;refine zDe (fl:=fl) (fun z=>match z with | ⟨x8,l9⟩=>⟨ofL [(7,.orow 1)],ofH [(0,.box 92 [.s (.int .i64 x8)]),(1,.row 24 4 (Nd.encs l9))],2⟩) ?_ (fun z σ' hz hle=>?_)
 ·refine zAk (zAD (X:=Nat×Int×Int×(List Nd)) (fun y=>match y with | (k,x4,x5,l7)=>⟨ofL [(0,.op 0 0),(2,.clo 1048661 [.op 0 0]),(7,.orow 1),(10,.s (.sl 4 (CV.encs l2))),(11,.s (.int .i64 (l2.length:Int))),(12,.s (.int .i64 x5))],ofH [(0,.box 92 [.s (.int .i64 x4)]),(1,.row 24 4 (Nd.encs l7))],2⟩) (fun y=>zAM (zAW n) l2 y.1 y.2.1 y.2.2.1 y.2.2.2=some fl) (fun y=>y.1) (n,r1,0,[]) hl ?_ ?_)
  ·exact(Le.rnm [(0,0),(1,1)] _ _ _ ⟨rfl,rfl,rfl,rfl,rfl,rfl,trivial⟩ ⟨rfl,⟨_,rfl,rfl⟩,rfl,⟨_,rfl,rfl⟩,trivial⟩)
  ·rintro⟨k,x4,x5,l7⟩ h;cases k with
   | zero=>cases h
   | succ k =>
    replace h:zAM (zAW n) l2 (k+1) x4 x5 l7=some fl:=h;rw[zAM]at h;refine zZO ?_;refine zAa ?_;refine zAh rfl h (fun hb h=>?_) (fun hb h=>?_)
    ·refine zAf ?_;refine zAa ?_;refine zAk ?_;refine zYZ [9] [14] rfl ?_;obtain⟨⟨e10A,e10D,e10B,e10C⟩,he10,h⟩:=zAc h;refine And.intro (zAt CV.encs_eq he10).1 ?_;intro r11 hr11;obtain rfl:[.int .i64 e10A,.int .i64 e10D,.str e10B,.sl 4 (CV.encs e10C)]=r11:=(hr11.trans (zAt CV.encs_eq he10).2.1).symm;refine zAj (Le.giveBox 2 [.int .i64 e10A,.int .i64 e10D,.str e10B,.sl 4 (CV.encs e10C)] rfl rfl) ?_;refine zAa ?_;refine zZO ?_;refine zAh rfl h (fun hb h=>?_) (fun hb h=>?_)
     ·refine zYZ [6] [] rfl ?_;refine zAj (Le.rnm [(0,0),(3,1)] [(6,.orow 1)] [(0,.box 92 [.s (.int .i64 x4)]),(1,.row 24 4 (Nd.encs []))] 2 ⟨rfl,trivial⟩ ⟨rfl,⟨_,rfl,rfl⟩,rfl,⟨_,rfl,congrArg (Ob.row 24 4) zKp⟩,trivial⟩) ?_;refine zAe ?_;cases h;replace h:some _=some _:=ho1
      obtain⟨hj1,hk1⟩:=pij h;subst hj1 hk1;unfold zA8;exact⟨_,(Le.rnm [(0,0),(1,1)] [(6,.orow 1)] [(0,.box 92 [.s (.int .i64 x4)]),(1,.row 24 4 (Nd.encs []))] 2 ⟨rfl,trivial⟩ ⟨rfl,⟨_,rfl,rfl⟩,rfl,⟨_,rfl,rfl⟩,trivial⟩),rfl,rfl,rfl,rfl,rfl,rfl,trivial⟩
     ·refine zAf ?_;refine zAb [26] [25] rfl ?_;obtain⟨⟨⟨y12A,y12B,y12F,y12E⟩,w13⟩,hy12,h⟩:=zAc h;refine⟨_,_,⟨_,_,_,_,hy12,rfl,rfl,rfl,rfl⟩,?_⟩
      intro r14 hr14;obtain rfl:Nd.encs [Nd.mk y12A y12B y12F y12E]=r14:=(hr14.trans zKp).symm;obtain⟨hq,h⟩:=zAI h
      refine And.intro (show((Nd.encs l7).length+(Nd.encs [Nd.mk y12A y12B y12F y12E]).length) * 56<=140737488355328/\(Nd.encs l7).length+(Nd.encs [Nd.mk y12A y12B y12F y12E]).length<=9223372036854775807 from by simp only[List.length_append,List.length_cons,List.length_nil,List.length_map,rlen Nd.encs_eq]at hq ⊢; omega) ?_;show Tri ..
      refine zAj (Le.rnm [(0,0),(3,1)] [(0,.op 0 0),(2,.clo 1048661 [.op 0 0]),(7,.orow 1),(10,.s (.sl 4 (CV.encs l2))),(11,.s (.int .i64 (l2.length:Int))),(12,.s (.int .i64 x5))] [(0,.box 92 [.s (.int .i64 w13)]),(1,.row 24 4 (Nd.encs (l7++[Nd.mk y12A y12B y12F y12E])))] 2 ⟨rfl,rfl,rfl,rfl,rfl,rfl,trivial⟩ ⟨rfl,⟨_,rfl,rfl⟩,rfl,⟨_,rfl,congrArg (Ob.row 24 4) zKp⟩,trivial⟩) ?_
      refine zZN ?_;refine⟨(k,w13,IntKind.i64.wrap (x5+1),l7++[Nd.mk y12A y12B y12F y12E]),h,(Le.rnm [(0,0),(1,1)] _ _ _ ⟨rfl,rfl,rfl,rfl,rfl,rfl,trivial⟩ ⟨rfl,⟨_,rfl,rfl⟩,rfl,⟨_,rfl,rfl⟩,trivial⟩),Nat.lt_succ_self k⟩
    ·refine zAJ ?_;cases h;exact⟨_,rfl,(Le.rnm [(0,0),(1,1)] _ _ _ ⟨rfl,trivial⟩ ⟨rfl,⟨_,rfl,rfl⟩,rfl,⟨_,rfl,rfl⟩,trivial⟩)⟩
 ·subst hz;obtain⟨x8,l9⟩:=z;replace h:=ho1;refine zAj hle ?_;refine zZO ?_;refine zAe ?_;obtain⟨hj1,hk1⟩:=pij h;subst hj1 hk1;unfold zA8;exact⟨_,(Le.rnm [(0,0),(1,1)] [(6,.orow 1)] [(0,.box 92 [.s (.int .i64 x8)]),(1,.row 24 4 (Nd.encs l9))] 2 ⟨rfl,trivial⟩ ⟨rfl,⟨_,rfl,rfl⟩,rfl,⟨_,rfl,rfl⟩,trivial⟩),rfl,rfl,rfl,rfl,rfl,rfl,trivial⟩
theorem zJT (n:Nat) (ih_file_elements_Node:PSound Tryz.prog 125 (zBK (zBR n))) (ih_file_reader_tree:PSound Tryz.prog 85 (zBK (zCh n))):PSound Tryz.prog 85 (zBK (zCh (n+1))):=by
 have gok:∀ f s,look? f [(123,zEP),(86,zCt),(84,zD0),(125,zBK (zBR n))]=some s->PSound Tryz.prog f s:=zAl (by
  simp only[List.forall_mem_cons]
  exact⟨zGn,zDb,zET,ih_file_elements_Node,by simp⟩)
 refine PSound.withNil (zDQ tokW Tryz.call85 Tryz.func85 rfl (fun xs os x os' h=>by obtain⟨_,_,_,_,_,rfl,rfl,_,rfl⟩:=h; exact⟨by show 2<=34; decide,by show 1<=1; decide⟩) 34 rfl ?_) _;rintro xs os x os' w0 G0 B0 ⟨r1,⟨v2A,v2D,v2B,v2C⟩,y0,z0,h,rfl,rfl,rfl,rfl⟩ _;rw[zAW]at h;refine zYZ [4] [] rfl ?_;refine zZO ?_;obtain⟨⟨y3,w4⟩,hy3,h⟩:=zAc h;refine⟨_,_,⟨_,_,_,_,_,hy3,rfl,rfl,rfl,rfl⟩,?_⟩
 refine zAa ?_;refine zUT [6] [12,17,22] [4,9,14,16,17] [1004,1009,1014] rfl (by decide +kernel) ?_;obtain⟨⟨e5A,e5D,e5B,e5C⟩,he5,h⟩:=zAc h;refine And.intro (zAt CV.encs_eq he5).1 ?_;intro r6 hr6;obtain rfl:[.int .i64 e5A,.int .i64 e5D,.str e5B,.sl 4 (CV.encs e5C)]=r6:=(hr6.trans (zAt CV.encs_eq he5).2.1).symm;obtain⟨⟨y7,w8⟩,hy7,h⟩:=zAc h;refine⟨_,_,⟨_,_,_,_,hy7,rfl,rfl,rfl,rfl⟩,?_⟩
 refine And.intro ⟨rfl,rfl⟩ ?_;obtain⟨⟨e9A,e9D,e9B,e9C⟩,he9,h⟩:=zAc h;refine And.intro (zAt CV.encs_eq he9).1 ?_;intro r10 hr10;obtain rfl:[.int .i64 e9A,.int .i64 e9D,.str e9B,.sl 4 (CV.encs e9C)]=r10:=(hr10.trans (zAt CV.encs_eq he9).2.1).symm;obtain⟨⟨y11,w12⟩,hy11,h⟩:=zAc h;refine⟨_,_,⟨_,_,_,_,hy11,rfl,rfl,rfl,rfl⟩,?_⟩
 refine And.intro ⟨rfl,rfl⟩ ?_;obtain⟨⟨e13A,e13D,e13B,e13C⟩,he13,h⟩:=zAc h;refine And.intro (zAt CV.encs_eq he13).1 ?_;intro r14 hr14;obtain rfl:[.int .i64 e13A,.int .i64 e13D,.str e13B,.sl 4 (CV.encs e13C)]=r14:=(hr14.trans (zAt CV.encs_eq he13).2.1).symm;obtain⟨⟨y15,w16⟩,hy15,h⟩:=zAc h;refine⟨_,_,⟨_,_,_,_,hy15,rfl,rfl,rfl,rfl⟩,?_⟩
 refine And.intro ⟨rfl,rfl⟩ ?_;refine zYZ [] [28] rfl ?_;obtain⟨hq,h⟩:=zAI h;refine And.intro ⟨hq.1,Int.le_trans hq.2.1 (Int.ofNat_le.2 (Nat.le_of_eq (rlen CV.encs_eq _).symm)),Int.le_refl _⟩ ?_;intro r17 hr17;obtain rfl:CV.encs ((y3.take (y3.length:Int).toNat).drop (3:Int).toNat)=r17:=(hr17.trans ((congrArg (fun m:Nat=>((CV.encs y3).take m).drop (3:Int).toNat) (rlen CV.encs_eq _)).trans (rcut CV.encs_eq _ _ _))).symm;obtain⟨⟨y18,w19⟩,hy18,h⟩:=zAc h;refine⟨_,_,⟨_,_,_,_,hy18,rfl,rfl,rfl,rfl⟩,?_⟩
 refine zZO ?_;refine zAe ?_;obtain⟨hj1,hk1⟩:=pij h;subst hj1 hk1;unfold zA8;exact⟨_,(Le.trans (Le.rnm [(0,0),(1,1),(3,2)] [(4,.op 1 0)] [(0,.box 92 [.s (.int .i64 w19)]),(1,.box 24 [.s (.int .i64 y7),.s (.str y11),.s (.int .i64 y15),.orow 2]),(2,.row 24 4 (Nd.encs y18))] 3 ⟨rfl,trivial⟩ ⟨rfl,⟨_,rfl,rfl⟩,rfl,⟨_,rfl,rfl⟩,rfl,⟨_,rfl,rfl⟩,trivial⟩) (Le.giveRow 2 rfl)),rfl,rfl,rfl,rfl,trivial⟩
theorem zE8:∀ n,PSound Tryz.prog 125 (zBK (zBR n))/\PSound Tryz.prog 85 (zBK (zCh n)):=by
 intro n
 induction n with
 | zero =>
  refine⟨?_,?_⟩
  ·exact zHb Tryz.call125 (fun xs os x os' h=>by obtain⟨_,_,_,_,h,_⟩:=h; rw[zBv]at h; cases h) _
  ·exact zHb Tryz.call85 (fun xs os x os' h=>by obtain⟨_,_,_,_,h,_⟩:=h; rw[zAW]at h; cases h) _
 | succ n ih =>
  obtain⟨ih_file_elements_Node,ih_file_reader_tree⟩:=ih;exact⟨zIK n ih_file_elements_Node ih_file_reader_tree,zJT n ih_file_elements_Node ih_file_reader_tree⟩
def zGg:zAq:=zBK (fun xs os x os'=>∃ n,zBR n xs os x os')
theorem zJC:PSound Tryz.prog 125 zGg:=zIl (fun n=>(zE8 n).1) _
def zHp:zAq:=zBK (fun xs os x os'=>∃ n,zCh n xs os x os')
theorem zLd:PSound Tryz.prog 85 zHp:=zIl (fun n=>(zE8 n).2) _
def zKP (n:Nat) (xs:List AV) (os:List Ob) (x:AV) (os':List (Option Ob)):Prop:=∃ (a0:(Int)) (a1:List CV) (y0:List Int) (z0:(Int)),zCM n a0 a1=some (y0,z0)/\xs=[.op 0 0,.s (.sl 4 (CV.encs a1)),.clo 1048662 [.op 0 0]]/\os=[.box 92 ((zAm a0).map .s)]/\x = .orow 1/\os'=[some (.box 92 ((zAm z0).map .s)),some (.row 3 1 ((List.map (irow .i64)) y0))]
def zGO:zAq:=zBK (fun xs os x os'=>∃ n,zKP n xs os x os')
theorem zKj:PSound Tryz.prog 190 zGO:=by
 have gok:∀ f s,look? f [(86,zCt)]=some s->PSound Tryz.prog f s:=zAl (by
  simp only[List.forall_mem_cons]
  exact⟨zDb,by simp⟩)
 refine PSound.withNil (zDQ tokW Tryz.call190 Tryz.func190 rfl (fun xs os x os' h=>by obtain⟨n,_,_,_,_,_,rfl,rfl,_,rfl⟩:=h; exact⟨by show 3<=29; decide,by show 1<=2; decide⟩) 29 rfl ?_) _;rintro xs os x os' w0 G0 B0 ⟨n,r1,l2,y0,z0,h,rfl,rfl,rfl,rfl⟩ _;rw[zCM]at h;refine zYZ [6] [] rfl ?_;refine zAj (Le.rnm [(0,0)] [(0,.op 0 0),(1,.s (.sl 4 (CV.encs l2))),(2,.clo 1048662 [.op 0 0])] [(0,.box 92 [.s (.int .i64 r1)])] 1 ⟨rfl,rfl,rfl,trivial⟩ ⟨rfl,⟨_,rfl,rfl⟩,trivial⟩) ?_;refine zYZ [7] [] rfl ?_;show Tri ..
 refine zAj (Le.rnm [(0,0),(1,1)] [(0,.op 0 0),(1,.s (.sl 4 (CV.encs l2))),(2,.clo 1048662 [.op 0 0]),(7,.orow 1)] [(0,.box 92 [.s (.int .i64 r1)]),(1,.row 3 1 ((List.map (irow .i64)) []))] 2 ⟨rfl,rfl,rfl,rfl,trivial⟩ ⟨rfl,⟨_,rfl,rfl⟩,rfl,⟨_,rfl,congrArg (Ob.row 3 1) zKp⟩,trivial⟩) ?_;refine zAa ?_;refine zAa ?_
 refine zAb [] [11] rfl ?_;intro n3 hn3;obtain rfl:(l2.length:Int)=n3:=(hn3.trans (congrArg (fun m:Nat=>(m:Int)) (rlen CV.encs_eq l2))).symm;show Tri ..;obtain⟨fl,hl,ho1⟩:=zAc h;refine zDe (fl:=fl) (fun z=>match z with | ⟨x8,l9⟩=>⟨ofL [(7,.orow 1)],ofH [(0,.box 92 [.s (.int .i64 x8)]),(1,.row 3 1 ((List.map (irow .i64)) l9))],2⟩) ?_ (fun z σ' hz hle=>?_)
 ·refine zAk (zAD (X:=Nat×Int×Int×(List Int)) (fun y=>match y with | (k,x4,x5,l7)=>⟨ofL [(0,.op 0 0),(2,.clo 1048662 [.op 0 0]),(7,.orow 1),(10,.s (.sl 4 (CV.encs l2))),(11,.s (.int .i64 (l2.length:Int))),(12,.s (.int .i64 x5))],ofH [(0,.box 92 [.s (.int .i64 x4)]),(1,.row 3 1 ((List.map (irow .i64)) l7))],2⟩) (fun y=>zAQ l2 y.1 y.2.1 y.2.2.1 y.2.2.2=some fl) (fun y=>y.1) (n,r1,0,[]) hl ?_ ?_)
  ·exact(Le.rnm [(0,0),(1,1)] _ _ _ ⟨rfl,rfl,rfl,rfl,rfl,rfl,trivial⟩ ⟨rfl,⟨_,rfl,rfl⟩,rfl,⟨_,rfl,rfl⟩,trivial⟩)
  ·rintro⟨k,x4,x5,l7⟩ h;cases k with
   | zero=>cases h
   | succ k =>
    replace h:zAQ l2 (k+1) x4 x5 l7=some fl:=h;rw[zAQ]at h;refine zZO ?_;refine zAa ?_;refine zAh rfl h (fun hb h=>?_) (fun hb h=>?_)
    ·refine zAf ?_;refine zAa ?_;refine zAk ?_;refine zYZ [9] [14] rfl ?_;obtain⟨⟨e10A,e10D,e10B,e10C⟩,he10,h⟩:=zAc h;refine And.intro (zAt CV.encs_eq he10).1 ?_;intro r11 hr11;obtain rfl:[.int .i64 e10A,.int .i64 e10D,.str e10B,.sl 4 (CV.encs e10C)]=r11:=(hr11.trans (zAt CV.encs_eq he10).2.1).symm;refine zAj (Le.giveBox 2 [.int .i64 e10A,.int .i64 e10D,.str e10B,.sl 4 (CV.encs e10C)] rfl rfl) ?_;refine zAa ?_;refine zZO ?_;refine zAh rfl h (fun hb h=>?_) (fun hb h=>?_)
     ·refine zYZ [6] [] rfl ?_;refine zAj (Le.rnm [(0,0),(3,1)] [(6,.orow 1)] [(0,.box 92 [.s (.int .i64 x4)]),(1,.row 3 1 ((List.map (irow .i64)) []))] 2 ⟨rfl,trivial⟩ ⟨rfl,⟨_,rfl,rfl⟩,rfl,⟨_,rfl,congrArg (Ob.row 3 1) zKp⟩,trivial⟩) ?_;refine zAe ?_;cases h;replace h:some _=some _:=ho1
      obtain⟨hj1,hk1⟩:=pij h;subst hj1 hk1;unfold zA8;exact⟨_,(Le.rnm [(0,0),(1,1)] [(6,.orow 1)] [(0,.box 92 [.s (.int .i64 x4)]),(1,.row 3 1 ((List.map (irow .i64)) []))] 2 ⟨rfl,trivial⟩ ⟨rfl,⟨_,rfl,rfl⟩,rfl,⟨_,rfl,rfl⟩,trivial⟩),rfl,rfl,rfl,rfl,rfl,rfl,trivial⟩
     ·refine zAf ?_;refine zAb [26] [25] rfl ?_;obtain⟨⟨y12,w13⟩,hy12,h⟩:=zAc h;refine⟨_,_,⟨_,_,_,_,hy12,rfl,rfl,rfl,rfl⟩,?_⟩
      intro r14 hr14;obtain rfl:(List.map (irow .i64)) [y12]=r14:=(hr14.trans zKp).symm;obtain⟨hq,h⟩:=zAI h
      refine And.intro (show(((List.map (irow .i64)) l7).length+((List.map (irow .i64)) [y12]).length) * 8<=140737488355328/\((List.map (irow .i64)) l7).length+((List.map (irow .i64)) [y12]).length<=9223372036854775807 from by simp only[List.length_append,List.length_cons,List.length_nil,List.length_map,rlen (fun _=>rfl)]at hq ⊢; omega) ?_;show Tri ..
      refine zAj (Le.rnm [(0,0),(3,1)] [(0,.op 0 0),(2,.clo 1048662 [.op 0 0]),(7,.orow 1),(10,.s (.sl 4 (CV.encs l2))),(11,.s (.int .i64 (l2.length:Int))),(12,.s (.int .i64 x5))] [(0,.box 92 [.s (.int .i64 w13)]),(1,.row 3 1 ((List.map (irow .i64)) (l7++[y12])))] 2 ⟨rfl,rfl,rfl,rfl,rfl,rfl,trivial⟩ ⟨rfl,⟨_,rfl,rfl⟩,rfl,⟨_,rfl,congrArg (Ob.row 3 1) zKp⟩,trivial⟩) ?_
      refine zZN ?_;refine⟨(k,w13,IntKind.i64.wrap (x5+1),l7++[y12]),h,(Le.rnm [(0,0),(1,1)] _ _ _ ⟨rfl,rfl,rfl,rfl,rfl,rfl,trivial⟩ ⟨rfl,⟨_,rfl,rfl⟩,rfl,⟨_,rfl,rfl⟩,trivial⟩),Nat.lt_succ_self k⟩
    ·refine zAJ ?_;cases h;exact⟨_,rfl,(Le.rnm [(0,0),(1,1)] _ _ _ ⟨rfl,trivial⟩ ⟨rfl,⟨_,rfl,rfl⟩,rfl,⟨_,rfl,rfl⟩,trivial⟩)⟩
 ·subst hz;obtain⟨x8,l9⟩:=z;replace h:=ho1;refine zAj hle ?_;refine zZO ?_;refine zAe ?_;obtain⟨hj1,hk1⟩:=pij h;subst hj1 hk1;unfold zA8;exact⟨_,(Le.rnm [(0,0),(1,1)] [(6,.orow 1)] [(0,.box 92 [.s (.int .i64 x8)]),(1,.row 3 1 ((List.map (irow .i64)) l9))] 2 ⟨rfl,trivial⟩ ⟨rfl,⟨_,rfl,rfl⟩,rfl,⟨_,rfl,rfl⟩,trivial⟩),rfl,rfl,rfl,rfl,rfl,rfl,trivial⟩
def zI2 (n:Nat) (xs:List AV) (os:List Ob) (x:AV) (os':List (Option Ob)):Prop:=∃ (a0:(Int)) (a1:CV) (y0:List Int) (z0:(Int)),zBo n a0 a1=some (y0,z0)/\xs=[.op 0 0,.agg ((CV.enc a1).map .s)]/\os=[.box 92 ((zAm a0).map .s)]/\x = .s (.sl 1 ((List.map (irow .i64)) y0))/\os'=[some (.box 92 ((zAm z0).map .s))]
def zEa:zAq:=zBK (fun xs os x os'=>∃ n,zI2 n xs os x os')
theorem zFt:PSound Tryz.prog 163 zEa:=by
 have gok:∀ f s,look? f [(88,zCk),(190,zGO)]=some s->PSound Tryz.prog f s:=zAl (by
  simp only[List.forall_mem_cons]
  exact⟨zCQ,zKj,by simp⟩)
 refine PSound.withNil (zDQ tokW Tryz.call163 Tryz.func163 rfl (fun xs os x os' h=>by obtain⟨n,_,_,_,_,_,rfl,rfl,_,rfl⟩:=h; exact⟨by show 2<=12; decide,by show 1<=1; decide⟩) 12 rfl ?_) _;rintro xs os x os' w0 G0 B0 ⟨n,r1,⟨v2A,v2D,v2B,v2C⟩,y0,z0,h,rfl,rfl,rfl,rfl⟩ _;rw[zBo]at h;refine zZO ?_;refine zZO ?_;obtain⟨⟨y3,w4⟩,hy3,h⟩:=zAc h;refine⟨_,_,⟨_,_,_,_,hy3,rfl,rfl,rfl,rfl⟩,?_⟩
 obtain⟨⟨y5,w6⟩,hy5,h⟩:=zAc h;refine⟨_,_,⟨_,_,_,_,_,hy5,rfl,rfl,rfl,rfl⟩,?_⟩
 refine zAe ?_;obtain⟨hj1,hk1⟩:=pij h;subst hj1 hk1;unfold zA8;exact⟨_,(Le.trans (Le.rnm [(0,0),(1,1)] [(4,.orow 1)] [(0,.box 92 [.s (.int .i64 w6)]),(1,.row 3 1 ((List.map (irow .i64)) y5))] 2 ⟨rfl,trivial⟩ ⟨rfl,⟨_,rfl,rfl⟩,rfl,⟨_,rfl,rfl⟩,trivial⟩) (Le.giveRow 1 rfl)),rfl,rfl,rfl,rfl,trivial⟩
def zNu (n:Nat) (xs:List AV) (os:List Ob) (x:AV) (os':List (Option Ob)):Prop:=∃ (a0:(Int)) (a1:CV) (y0:zO8) (z0:(Int)),zCZ n a0 a1=some (y0,z0)/\xs=[.op 0 0,.agg ((CV.enc a1).map .s)]/\os=[.box 92 ((zAm a0).map .s)]/\x = .agg ((zAn y0).map .s)/\os'=[some (.box 92 ((zAm z0).map .s))]
def zIN:zAq:=zBK (fun xs os x os'=>∃ n,zNu n xs os x os')
theorem zMJ:PSound Tryz.prog 127 zIN:=by
 have gok:∀ f s,look? f [(83,zB9),(86,zCt),(163,zEa),(88,zCk),(125,zGg),(84,zD0)]=some s->PSound Tryz.prog f s:=zAl (by
  simp only[List.forall_mem_cons]
  exact⟨zCR,zDb,zFt,zCQ,zJC,zET,by simp⟩)
 refine PSound.withNil (zDQ tokW Tryz.call127 Tryz.func127 rfl (fun xs os x os' h=>by obtain⟨n,_,_,_,_,_,rfl,rfl,_,rfl⟩:=h; exact⟨by show 2<=54; decide,by show 1<=1; decide⟩) 54 rfl ?_) _;rintro xs os x os' w0 G0 B0 ⟨n,r1,⟨v2A,v2D,v2B,v2C⟩,y0,z0,h,rfl,rfl,rfl,rfl⟩ _;rw[zCZ]at h;refine zYZ [4] [] rfl ?_;refine zZO ?_;obtain⟨⟨y3,w4⟩,hy3,h⟩:=zAc h;refine⟨_,_,⟨_,_,_,_,_,hy3,rfl,rfl,rfl,rfl⟩,?_⟩
 refine zAa ?_;refine zBw [] [11,16,21,26,32,40,45,50] [4,9,14,19,25,28,33,38,43,45] rfl (by decide +kernel) ?_;obtain⟨⟨e5A,e5D,e5B,e5C⟩,he5,h⟩:=zAc h;refine And.intro (zAt CV.encs_eq he5).1 ?_;intro r6 hr6;obtain rfl:[.int .i64 e5A,.int .i64 e5D,.str e5B,.sl 4 (CV.encs e5C)]=r6:=(hr6.trans (zAt CV.encs_eq he5).2.1).symm;obtain⟨⟨y7,w8⟩,hy7,h⟩:=zAc h;refine⟨_,_,⟨_,_,_,_,hy7,rfl,rfl,rfl,rfl⟩,?_⟩
 obtain⟨⟨e9A,e9D,e9B,e9C⟩,he9,h⟩:=zAc h;refine And.intro (zAt CV.encs_eq he9).1 ?_;intro r10 hr10;obtain rfl:[.int .i64 e9A,.int .i64 e9D,.str e9B,.sl 4 (CV.encs e9C)]=r10:=(hr10.trans (zAt CV.encs_eq he9).2.1).symm;obtain⟨⟨y11,w12⟩,hy11,h⟩:=zAc h;refine⟨_,_,⟨_,_,_,_,_,hy11,rfl,rfl,rfl,rfl⟩,?_⟩
 obtain⟨⟨e13A,e13D,e13B,e13C⟩,he13,h⟩:=zAc h;refine And.intro (zAt CV.encs_eq he13).1 ?_;intro r14 hr14;obtain rfl:[.int .i64 e13A,.int .i64 e13D,.str e13B,.sl 4 (CV.encs e13C)]=r14:=(hr14.trans (zAt CV.encs_eq he13).2.1).symm;obtain⟨⟨y15,w16⟩,hy15,h⟩:=zAc h;refine⟨_,_,⟨_,_,_,_,hy15,rfl,rfl,rfl,rfl⟩,?_⟩
 obtain⟨⟨e17A,e17D,e17B,e17C⟩,he17,h⟩:=zAc h;refine And.intro (zAt CV.encs_eq he17).1 ?_;intro r18 hr18;obtain rfl:[.int .i64 e17A,.int .i64 e17D,.str e17B,.sl 4 (CV.encs e17C)]=r18:=(hr18.trans (zAt CV.encs_eq he17).2.1).symm;obtain⟨⟨y19,w20⟩,hy19,h⟩:=zAc h;refine⟨_,_,⟨_,_,_,_,hy19,rfl,rfl,rfl,rfl⟩,?_⟩
 obtain⟨⟨e21A,e21D,e21B,e21C⟩,he21,h⟩:=zAc h;refine And.intro (zAt CV.encs_eq he21).1 ?_;intro r22 hr22;obtain rfl:[.int .i64 e21A,.int .i64 e21D,.str e21B,.sl 4 (CV.encs e21C)]=r22:=(hr22.trans (zAt CV.encs_eq he21).2.1).symm;obtain⟨⟨y23,w24⟩,hy23,h⟩:=zAc h;refine⟨_,_,⟨_,_,_,_,hy23,rfl,rfl,rfl,rfl⟩,?_⟩
 obtain⟨⟨y25,w26⟩,hy25,h⟩:=zAc h;refine⟨_,_,⟨_,_,_,_,_,hy25,rfl,rfl,rfl,rfl⟩,?_⟩
 obtain⟨⟨e27A,e27D,e27B,e27C⟩,he27,h⟩:=zAc h;refine And.intro (zAt CV.encs_eq he27).1 ?_;intro r28 hr28;obtain rfl:[.int .i64 e27A,.int .i64 e27D,.str e27B,.sl 4 (CV.encs e27C)]=r28:=(hr28.trans (zAt CV.encs_eq he27).2.1).symm;obtain⟨⟨y29,w30⟩,hy29,h⟩:=zAc h;refine⟨_,_,⟨_,_,_,_,hy29,rfl,rfl,rfl,rfl⟩,?_⟩
 obtain⟨⟨e31A,e31D,e31B,e31C⟩,he31,h⟩:=zAc h;refine And.intro (zAt CV.encs_eq he31).1 ?_;intro r32 hr32;obtain rfl:[.int .i64 e31A,.int .i64 e31D,.str e31B,.sl 4 (CV.encs e31C)]=r32:=(hr32.trans (zAt CV.encs_eq he31).2.1).symm;obtain⟨⟨y33,w34⟩,hy33,h⟩:=zAc h;refine⟨_,_,⟨_,_,_,_,hy33,rfl,rfl,rfl,rfl⟩,?_⟩
 obtain⟨⟨e35A,e35D,e35B,e35C⟩,he35,h⟩:=zAc h;refine And.intro (zAt CV.encs_eq he35).1 ?_;intro r36 hr36;obtain rfl:[.int .i64 e35A,.int .i64 e35D,.str e35B,.sl 4 (CV.encs e35C)]=r36:=(hr36.trans (zAt CV.encs_eq he35).2.1).symm;obtain⟨⟨y37,w38⟩,hy37,h⟩:=zAc h;refine⟨_,_,⟨_,_,_,_,hy37,rfl,rfl,rfl,rfl⟩,?_⟩
 refine zAe ?_;obtain⟨hj1,hk1⟩:=pij h;subst hj1 hk1;unfold zA8;exact⟨_,(Le.trans (Le.rnm [(0,0),(1,1),(2,2)] [(4,.op 1 0)] [(0,.box 92 [.s (.int .i64 w38)]),(1,.box 63 [.s (.int .i64 y7),.s (.sl 1 ((List.map (irow .i64)) y11)),.s (.int .i64 y15),.s (.int .i64 y19),.orow 2,.s (.int .i64 y29),.s (.str y33),.s (.str y37)]),(2,.row 24 4 (Nd.encs y25))] 3 ⟨rfl,trivial⟩ ⟨rfl,⟨_,rfl,rfl⟩,rfl,⟨_,rfl,rfl⟩,rfl,⟨_,rfl,rfl⟩,trivial⟩) (Le.giveRow 2 rfl)),rfl,rfl,rfl,rfl,trivial⟩
def zLx (n:Nat) (xs:List AV) (os:List Ob) (x:AV) (os':List (Option Ob)):Prop:=∃ (a0:(Int)) (a1:List CV) (y0:List zO8) (z0:(Int)),zC3 n a0 a1=some (y0,z0)/\xs=[.op 0 0,.s (.sl 4 (CV.encs a1)),.clo 1048703 [.op 0 0]]/\os=[.box 92 ((zAm a0).map .s)]/\x = .orow 1/\os'=[some (.box 92 ((zAm z0).map .s)),some (.row 63 8 ((List.map zAn) y0))]
def zHo:zAq:=zBK (fun xs os x os'=>∃ n,zLx n xs os x os')
theorem zLc:PSound Tryz.prog 126 zHo:=by
 have gok:∀ f s,look? f [(127,zIN)]=some s->PSound Tryz.prog f s:=zAl (by
  simp only[List.forall_mem_cons]
  exact⟨zMJ,by simp⟩)
 refine PSound.withNil (zDQ tokW Tryz.call126 Tryz.func126 rfl (fun xs os x os' h=>by obtain⟨n,_,_,_,_,_,rfl,rfl,_,rfl⟩:=h; exact⟨by show 3<=29; decide,by show 1<=2; decide⟩) 29 rfl ?_) _;rintro xs os x os' w0 G0 B0 ⟨n,r1,l2,y0,z0,h,rfl,rfl,rfl,rfl⟩ _;rw[zC3]at h;refine zYZ [6] [] rfl ?_;refine zAj (Le.rnm [(0,0)] [(0,.op 0 0),(1,.s (.sl 4 (CV.encs l2))),(2,.clo 1048703 [.op 0 0])] [(0,.box 92 [.s (.int .i64 r1)])] 1 ⟨rfl,rfl,rfl,trivial⟩ ⟨rfl,⟨_,rfl,rfl⟩,trivial⟩) ?_;refine zYZ [7] [] rfl ?_;show Tri ..
 refine zAj (Le.rnm [(0,0),(1,1)] [(0,.op 0 0),(1,.s (.sl 4 (CV.encs l2))),(2,.clo 1048703 [.op 0 0]),(7,.orow 1)] [(0,.box 92 [.s (.int .i64 r1)]),(1,.row 63 8 ((List.map zAn) []))] 2 ⟨rfl,rfl,rfl,rfl,trivial⟩ ⟨rfl,⟨_,rfl,rfl⟩,rfl,⟨_,rfl,congrArg (Ob.row 63 8) zKp⟩,trivial⟩) ?_;refine zAa ?_;refine zAa ?_
 refine zAb [] [11] rfl ?_;intro n3 hn3;obtain rfl:(l2.length:Int)=n3:=(hn3.trans (congrArg (fun m:Nat=>(m:Int)) (rlen CV.encs_eq l2))).symm;show Tri ..;obtain⟨fl,hl,ho1⟩:=zAc h;refine zDe (fl:=fl) (fun z=>match z with | ⟨x8,l9⟩=>⟨ofL [(7,.orow 1)],ofH [(0,.box 92 [.s (.int .i64 x8)]),(1,.row 63 8 ((List.map zAn) l9))],2⟩) ?_ (fun z σ' hz hle=>?_)
 ·refine zAk (zAD (X:=Nat×Int×Int×(List zO8)) (fun y=>match y with | (k,x4,x5,l7)=>⟨ofL [(0,.op 0 0),(2,.clo 1048703 [.op 0 0]),(7,.orow 1),(10,.s (.sl 4 (CV.encs l2))),(11,.s (.int .i64 (l2.length:Int))),(12,.s (.int .i64 x5))],ofH [(0,.box 92 [.s (.int .i64 x4)]),(1,.row 63 8 ((List.map zAn) l7))],2⟩) (fun y=>zAU n l2 y.1 y.2.1 y.2.2.1 y.2.2.2=some fl) (fun y=>y.1) (n,r1,0,[]) hl ?_ ?_)
  ·exact(Le.rnm [(0,0),(1,1)] _ _ _ ⟨rfl,rfl,rfl,rfl,rfl,rfl,trivial⟩ ⟨rfl,⟨_,rfl,rfl⟩,rfl,⟨_,rfl,rfl⟩,trivial⟩)
  ·rintro⟨k,x4,x5,l7⟩ h;cases k with
   | zero=>cases h
   | succ k =>
    replace h:zAU n l2 (k+1) x4 x5 l7=some fl:=h;rw[zAU]at h;refine zZO ?_;refine zAa ?_;refine zAh rfl h (fun hb h=>?_) (fun hb h=>?_)
    ·refine zAf ?_;refine zAa ?_;refine zAk ?_;refine zYZ [9] [14] rfl ?_;obtain⟨⟨e10A,e10D,e10B,e10C⟩,he10,h⟩:=zAc h;refine And.intro (zAt CV.encs_eq he10).1 ?_;intro r11 hr11;obtain rfl:[.int .i64 e10A,.int .i64 e10D,.str e10B,.sl 4 (CV.encs e10C)]=r11:=(hr11.trans (zAt CV.encs_eq he10).2.1).symm;refine zAj (Le.giveBox 2 [.int .i64 e10A,.int .i64 e10D,.str e10B,.sl 4 (CV.encs e10C)] rfl rfl) ?_;refine zAa ?_;refine zZO ?_;refine zAh rfl h (fun hb h=>?_) (fun hb h=>?_)
     ·refine zYZ [6] [] rfl ?_;refine zAj (Le.rnm [(0,0),(3,1)] [(6,.orow 1)] [(0,.box 92 [.s (.int .i64 x4)]),(1,.row 63 8 ((List.map zAn) []))] 2 ⟨rfl,trivial⟩ ⟨rfl,⟨_,rfl,rfl⟩,rfl,⟨_,rfl,congrArg (Ob.row 63 8) zKp⟩,trivial⟩) ?_;refine zAe ?_;cases h;replace h:some _=some _:=ho1
      obtain⟨hj1,hk1⟩:=pij h;subst hj1 hk1;unfold zA8;exact⟨_,(Le.rnm [(0,0),(1,1)] [(6,.orow 1)] [(0,.box 92 [.s (.int .i64 x4)]),(1,.row 63 8 ((List.map zAn) []))] 2 ⟨rfl,trivial⟩ ⟨rfl,⟨_,rfl,rfl⟩,rfl,⟨_,rfl,rfl⟩,trivial⟩),rfl,rfl,rfl,rfl,rfl,rfl,trivial⟩
     ·refine zAf ?_;refine zAb [26] [25] rfl ?_;obtain⟨⟨⟨y12A,y12I,y12J,y12L,y12G,y12K,y12M,y12B⟩,w13⟩,hy12,h⟩:=zAc h;refine⟨_,_,⟨_,_,_,_,_,hy12,rfl,rfl,rfl,rfl⟩,?_⟩
      intro r14 hr14;obtain rfl:(List.map zAn) [(y12A,y12I,y12J,y12L,y12G,y12K,y12M,y12B)]=r14:=(hr14.trans zKp).symm;obtain⟨hq,h⟩:=zAI h
      refine And.intro (show(((List.map zAn) l7).length+((List.map zAn) [(y12A,y12I,y12J,y12L,y12G,y12K,y12M,y12B)]).length) * 112<=140737488355328/\((List.map zAn) l7).length+((List.map zAn) [(y12A,y12I,y12J,y12L,y12G,y12K,y12M,y12B)]).length<=9223372036854775807 from by simp only[List.length_append,List.length_cons,List.length_nil,List.length_map,rlen (fun _=>rfl)]at hq ⊢; omega) ?_;show Tri ..
      refine zAj (Le.rnm [(0,0),(3,1)] [(0,.op 0 0),(2,.clo 1048703 [.op 0 0]),(7,.orow 1),(10,.s (.sl 4 (CV.encs l2))),(11,.s (.int .i64 (l2.length:Int))),(12,.s (.int .i64 x5))] [(0,.box 92 [.s (.int .i64 w13)]),(1,.row 63 8 ((List.map zAn) (l7++[(y12A,y12I,y12J,y12L,y12G,y12K,y12M,y12B)])))] 2 ⟨rfl,rfl,rfl,rfl,rfl,rfl,trivial⟩ ⟨rfl,⟨_,rfl,rfl⟩,rfl,⟨_,rfl,congrArg (Ob.row 63 8) zKp⟩,trivial⟩) ?_
      refine zZN ?_;refine⟨(k,w13,IntKind.i64.wrap (x5+1),l7++[(y12A,y12I,y12J,y12L,y12G,y12K,y12M,y12B)]),h,(Le.rnm [(0,0),(1,1)] _ _ _ ⟨rfl,rfl,rfl,rfl,rfl,rfl,trivial⟩ ⟨rfl,⟨_,rfl,rfl⟩,rfl,⟨_,rfl,rfl⟩,trivial⟩),Nat.lt_succ_self k⟩
    ·refine zAJ ?_;cases h;exact⟨_,rfl,(Le.rnm [(0,0),(1,1)] _ _ _ ⟨rfl,trivial⟩ ⟨rfl,⟨_,rfl,rfl⟩,rfl,⟨_,rfl,rfl⟩,trivial⟩)⟩
 ·subst hz;obtain⟨x8,l9⟩:=z;replace h:=ho1;refine zAj hle ?_;refine zZO ?_;refine zAe ?_;obtain⟨hj1,hk1⟩:=pij h;subst hj1 hk1;unfold zA8;exact⟨_,(Le.rnm [(0,0),(1,1)] [(6,.orow 1)] [(0,.box 92 [.s (.int .i64 x8)]),(1,.row 63 8 ((List.map zAn) l9))] 2 ⟨rfl,trivial⟩ ⟨rfl,⟨_,rfl,rfl⟩,rfl,⟨_,rfl,rfl⟩,trivial⟩),rfl,rfl,rfl,rfl,rfl,rfl,trivial⟩
def zKb (n:Nat) (xs:List AV) (os:List Ob) (x:AV) (os':List (Option Ob)):Prop:=∃ (a0:(Int)) (a1:CV) (y0:zCu) (z0:(Int)),zBS n a0 a1=some (y0,z0)/\xs=[.op 0 0,.agg ((CV.enc a1).map .s)]/\os=[.box 92 ((zAm a0).map .s)]/\x = .agg ((zB6 y0).map .s)/\os'=[some (.box 92 ((zAm z0).map .s))]
def zGh:zAq:=zBK (fun xs os x os'=>∃ n,zKb n xs os x os')
theorem zJE:PSound Tryz.prog 128 zGh:=by
 have gok:∀ f s,look? f [(83,zB9),(163,zEa)]=some s->PSound Tryz.prog f s:=zAl (by
  simp only[List.forall_mem_cons]
  exact⟨zCR,zFt,by simp⟩)
 refine PSound.withNil (zDQ tokW Tryz.call128 Tryz.func128 rfl (fun xs os x os' h=>by obtain⟨n,_,_,_,_,_,rfl,rfl,_,rfl⟩:=h; exact⟨by show 2<=20; decide,by show 1<=1; decide⟩) 20 rfl ?_) _;rintro xs os x os' w0 G0 B0 ⟨n,r1,⟨v2A,v2D,v2B,v2C⟩,y0,z0,h,rfl,rfl,rfl,rfl⟩ _;rw[zBS]at h;refine zYZ [4] [] rfl ?_;refine zZO ?_;obtain⟨⟨y3,w4⟩,hy3,h⟩:=zAc h;refine⟨_,_,⟨_,_,_,_,_,hy3,rfl,rfl,rfl,rfl⟩,?_⟩
 refine zAa ?_;refine zBw [] [11,16] [4,9,11] rfl (by decide +kernel) ?_;obtain⟨⟨e5A,e5D,e5B,e5C⟩,he5,h⟩:=zAc h;refine And.intro (zAt CV.encs_eq he5).1 ?_;intro r6 hr6;obtain rfl:[.int .i64 e5A,.int .i64 e5D,.str e5B,.sl 4 (CV.encs e5C)]=r6:=(hr6.trans (zAt CV.encs_eq he5).2.1).symm;obtain⟨⟨y7,w8⟩,hy7,h⟩:=zAc h;refine⟨_,_,⟨_,_,_,_,_,hy7,rfl,rfl,rfl,rfl⟩,?_⟩
 obtain⟨⟨e9A,e9D,e9B,e9C⟩,he9,h⟩:=zAc h;refine And.intro (zAt CV.encs_eq he9).1 ?_;intro r10 hr10;obtain rfl:[.int .i64 e9A,.int .i64 e9D,.str e9B,.sl 4 (CV.encs e9C)]=r10:=(hr10.trans (zAt CV.encs_eq he9).2.1).symm;obtain⟨⟨y11,w12⟩,hy11,h⟩:=zAc h;refine⟨_,_,⟨_,_,_,_,_,hy11,rfl,rfl,rfl,rfl⟩,?_⟩
 refine zAe ?_;obtain⟨hj1,hk1⟩:=pij h;subst hj1 hk1;unfold zA8;exact⟨_,(Le.rnm [(0,0),(1,1)] [(4,.op 1 0)] [(0,.box 92 [.s (.int .i64 w12)]),(1,.box 58 [.s (.sl 1 ((List.map (irow .i64)) y7)),.s (.sl 1 ((List.map (irow .i64)) y11))])] 2 ⟨rfl,trivial⟩ ⟨rfl,⟨_,rfl,rfl⟩,rfl,⟨_,rfl,rfl⟩,trivial⟩),rfl,rfl,rfl,rfl,trivial⟩
def zKd (n:Nat) (xs:List AV) (os:List Ob) (x:AV) (os':List (Option Ob)):Prop:=∃ (a0:(Int)) (a1:CV) (y0:zRc) (z0:(Int)),zBT n a0 a1=some (y0,z0)/\xs=[.op 0 0,.agg ((CV.enc a1).map .s)]/\os=[.box 92 ((zAm a0).map .s)]/\x = .agg ((zAi y0).map .s)/\os'=[some (.box 92 ((zAm z0).map .s))]
def zGi:zAq:=zBK (fun xs os x os'=>∃ n,zKd n xs os x os')
theorem zJF:PSound Tryz.prog 89 zGi:=by
 have gok:∀ f s,look? f [(83,zB9),(88,zCk),(126,zHo),(128,zGh)]=some s->PSound Tryz.prog f s:=zAl (by
  simp only[List.forall_mem_cons]
  exact⟨zCR,zCQ,zLc,zJE,by simp⟩)
 refine PSound.withNil (zDQ tokW Tryz.call89 Tryz.func89 rfl (fun xs os x os' h=>by obtain⟨n,_,_,_,_,_,rfl,rfl,_,rfl⟩:=h; exact⟨by show 2<=29; decide,by show 1<=1; decide⟩) 29 rfl ?_) _;rintro xs os x os' w0 G0 B0 ⟨n,r1,⟨v2A,v2D,v2B,v2C⟩,y0,z0,h,rfl,rfl,rfl,rfl⟩ _;rw[zBT]at h;refine zYZ [4] [] rfl ?_;refine zZO ?_;obtain⟨⟨y3,w4⟩,hy3,h⟩:=zAc h;refine⟨_,_,⟨_,_,_,_,_,hy3,rfl,rfl,rfl,rfl⟩,?_⟩
 refine zAa ?_;refine zBw [] [12,20,25] [5,8,13,18,20] rfl (by decide +kernel) ?_;obtain⟨⟨e5A,e5D,e5B,e5C⟩,he5,h⟩:=zAc h;refine And.intro (zAt CV.encs_eq he5).1 ?_;intro r6 hr6;obtain rfl:[.int .i64 e5A,.int .i64 e5D,.str e5B,.sl 4 (CV.encs e5C)]=r6:=(hr6.trans (zAt CV.encs_eq he5).2.1).symm;obtain⟨⟨y7,w8⟩,hy7,h⟩:=zAc h;refine⟨_,_,⟨_,_,_,_,hy7,rfl,rfl,rfl,rfl⟩,?_⟩
 obtain⟨⟨y9,w10⟩,hy9,h⟩:=zAc h;refine⟨_,_,⟨_,_,_,_,_,hy9,rfl,rfl,rfl,rfl⟩,?_⟩
 obtain⟨⟨e11A,e11D,e11B,e11C⟩,he11,h⟩:=zAc h;refine And.intro (zAt CV.encs_eq he11).1 ?_;intro r12 hr12;obtain rfl:[.int .i64 e11A,.int .i64 e11D,.str e11B,.sl 4 (CV.encs e11C)]=r12:=(hr12.trans (zAt CV.encs_eq he11).2.1).symm;obtain⟨⟨⟨y13Ai,y13Ah⟩,w14⟩,hy13,h⟩:=zAc h;refine⟨_,_,⟨_,_,_,_,_,hy13,rfl,rfl,rfl,rfl⟩,?_⟩
 obtain⟨⟨e15A,e15D,e15B,e15C⟩,he15,h⟩:=zAc h;refine And.intro (zAt CV.encs_eq he15).1 ?_;intro r16 hr16;obtain rfl:[.int .i64 e15A,.int .i64 e15D,.str e15B,.sl 4 (CV.encs e15C)]=r16:=(hr16.trans (zAt CV.encs_eq he15).2.1).symm;obtain⟨⟨⟨y17Ai,y17Ah⟩,w18⟩,hy17,h⟩:=zAc h;refine⟨_,_,⟨_,_,_,_,_,hy17,rfl,rfl,rfl,rfl⟩,?_⟩
 refine zAe ?_;obtain⟨hj1,hk1⟩:=pij h;subst hj1 hk1;unfold zA8;exact⟨_,(Le.trans (Le.rnm [(0,0),(1,1),(2,2)] [(4,.op 1 0)] [(0,.box 92 [.s (.int .i64 w18)]),(1,.box 60 [.orow 2,.s (.sl 1 ((List.map (irow .i64)) y13Ai)),.s (.sl 1 ((List.map (irow .i64)) y13Ah)),.s (.sl 1 ((List.map (irow .i64)) y17Ai)),.s (.sl 1 ((List.map (irow .i64)) y17Ah))]),(2,.row 63 8 ((List.map zAn) y9))] 3 ⟨rfl,trivial⟩ ⟨rfl,⟨_,rfl,rfl⟩,rfl,⟨_,rfl,rfl⟩,rfl,⟨_,rfl,rfl⟩,trivial⟩) (Le.giveRow 2 rfl)),rfl,rfl,rfl,rfl,trivial⟩
def zIU (n:Nat) (xs:List AV) (os:List Ob) (x:AV) (os':List (Option Ob)):Prop:=∃ (a0:(Int)) (a1:List CV) (y0:List zRc) (z0:(Int)),zBZ n a0 a1=some (y0,z0)/\xs=[.op 0 0,.s (.sl 4 (CV.encs a1)),.clo 1048665 [.op 0 0]]/\os=[.box 92 ((zAm a0).map .s)]/\x = .orow 1/\os'=[some (.box 92 ((zAm z0).map .s)),some (.row 60 5 ((List.map zAi) y0))]
def zFq:zAq:=zBK (fun xs os x os'=>∃ n,zIU n xs os x os')
theorem zIF:PSound Tryz.prog 87 zFq:=by
 have gok:∀ f s,look? f [(89,zGi)]=some s->PSound Tryz.prog f s:=zAl (by
  simp only[List.forall_mem_cons]
  exact⟨zJF,by simp⟩)
 refine PSound.withNil (zDQ tokW Tryz.call87 Tryz.func87 rfl (fun xs os x os' h=>by obtain⟨n,_,_,_,_,_,rfl,rfl,_,rfl⟩:=h; exact⟨by show 3<=29; decide,by show 1<=2; decide⟩) 29 rfl ?_) _;rintro xs os x os' w0 G0 B0 ⟨n,r1,l2,y0,z0,h,rfl,rfl,rfl,rfl⟩ _;rw[zBZ]at h;refine zYZ [6] [] rfl ?_;refine zAj (Le.rnm [(0,0)] [(0,.op 0 0),(1,.s (.sl 4 (CV.encs l2))),(2,.clo 1048665 [.op 0 0])] [(0,.box 92 [.s (.int .i64 r1)])] 1 ⟨rfl,rfl,rfl,trivial⟩ ⟨rfl,⟨_,rfl,rfl⟩,trivial⟩) ?_;refine zYZ [7] [] rfl ?_;show Tri ..
 refine zAj (Le.rnm [(0,0),(1,1)] [(0,.op 0 0),(1,.s (.sl 4 (CV.encs l2))),(2,.clo 1048665 [.op 0 0]),(7,.orow 1)] [(0,.box 92 [.s (.int .i64 r1)]),(1,.row 60 5 ((List.map zAi) []))] 2 ⟨rfl,rfl,rfl,rfl,trivial⟩ ⟨rfl,⟨_,rfl,rfl⟩,rfl,⟨_,rfl,congrArg (Ob.row 60 5) zKp⟩,trivial⟩) ?_;refine zAa ?_;refine zAa ?_
 refine zAb [] [11] rfl ?_;intro n3 hn3;obtain rfl:(l2.length:Int)=n3:=(hn3.trans (congrArg (fun m:Nat=>(m:Int)) (rlen CV.encs_eq l2))).symm;show Tri ..;obtain⟨fl,hl,ho1⟩:=zAc h;refine zDe (fl:=fl) (fun z=>match z with | ⟨x8,l9⟩=>⟨ofL [(7,.orow 1)],ofH [(0,.box 92 [.s (.int .i64 x8)]),(1,.row 60 5 ((List.map zAi) l9))],2⟩) ?_ (fun z σ' hz hle=>?_)
 ·refine zAk (zAD (X:=Nat×Int×Int×(List zRc)) (fun y=>match y with | (k,x4,x5,l7)=>⟨ofL [(0,.op 0 0),(2,.clo 1048665 [.op 0 0]),(7,.orow 1),(10,.s (.sl 4 (CV.encs l2))),(11,.s (.int .i64 (l2.length:Int))),(12,.s (.int .i64 x5))],ofH [(0,.box 92 [.s (.int .i64 x4)]),(1,.row 60 5 ((List.map zAi) l7))],2⟩) (fun y=>zAH n l2 y.1 y.2.1 y.2.2.1 y.2.2.2=some fl) (fun y=>y.1) (n,r1,0,[]) hl ?_ ?_)
  ·exact(Le.rnm [(0,0),(1,1)] _ _ _ ⟨rfl,rfl,rfl,rfl,rfl,rfl,trivial⟩ ⟨rfl,⟨_,rfl,rfl⟩,rfl,⟨_,rfl,rfl⟩,trivial⟩)
  ·rintro⟨k,x4,x5,l7⟩ h;cases k with
   | zero=>cases h
   | succ k =>
    replace h:zAH n l2 (k+1) x4 x5 l7=some fl:=h;rw[zAH]at h;refine zZO ?_;refine zAa ?_;refine zAh rfl h (fun hb h=>?_) (fun hb h=>?_)
    ·refine zAf ?_;refine zAa ?_;refine zAk ?_;refine zYZ [9] [14] rfl ?_;obtain⟨⟨e10A,e10D,e10B,e10C⟩,he10,h⟩:=zAc h;refine And.intro (zAt CV.encs_eq he10).1 ?_;intro r11 hr11;obtain rfl:[.int .i64 e10A,.int .i64 e10D,.str e10B,.sl 4 (CV.encs e10C)]=r11:=(hr11.trans (zAt CV.encs_eq he10).2.1).symm;refine zAj (Le.giveBox 2 [.int .i64 e10A,.int .i64 e10D,.str e10B,.sl 4 (CV.encs e10C)] rfl rfl) ?_;refine zAa ?_;refine zZO ?_;refine zAh rfl h (fun hb h=>?_) (fun hb h=>?_)
     ·refine zYZ [6] [] rfl ?_;refine zAj (Le.rnm [(0,0),(3,1)] [(6,.orow 1)] [(0,.box 92 [.s (.int .i64 x4)]),(1,.row 60 5 ((List.map zAi) []))] 2 ⟨rfl,trivial⟩ ⟨rfl,⟨_,rfl,rfl⟩,rfl,⟨_,rfl,congrArg (Ob.row 60 5) zKp⟩,trivial⟩) ?_;refine zAe ?_;cases h
      replace h:some _=some _:=ho1;obtain⟨hj1,hk1⟩:=pij h;subst hj1 hk1;unfold zA8;exact⟨_,(Le.rnm [(0,0),(1,1)] [(6,.orow 1)] [(0,.box 92 [.s (.int .i64 x4)]),(1,.row 60 5 ((List.map zAi) []))] 2 ⟨rfl,trivial⟩ ⟨rfl,⟨_,rfl,rfl⟩,rfl,⟨_,rfl,rfl⟩,trivial⟩),rfl,rfl,rfl,rfl,rfl,rfl,trivial⟩
     ·refine zAf ?_;refine zAb [26] [25] rfl ?_;obtain⟨⟨⟨y12P,⟨y12W,y12X⟩,⟨y12Y,y12Z⟩⟩,w13⟩,hy12,h⟩:=zAc h;refine⟨_,_,⟨_,_,_,_,_,hy12,rfl,rfl,rfl,rfl⟩,?_⟩
      intro r14 hr14;obtain rfl:(List.map zAi) [(y12P,(y12W,y12X),(y12Y,y12Z))]=r14:=(hr14.trans zKp).symm;obtain⟨hq,h⟩:=zAI h
      refine And.intro (show(((List.map zAi) l7).length+((List.map zAi) [(y12P,(y12W,y12X),(y12Y,y12Z))]).length) * 120<=140737488355328/\((List.map zAi) l7).length+((List.map zAi) [(y12P,(y12W,y12X),(y12Y,y12Z))]).length<=9223372036854775807 from by simp only[List.length_append,List.length_cons,List.length_nil,List.length_map,rlen (fun _=>rfl)]at hq ⊢; omega) ?_;show Tri ..
      refine zAj (Le.rnm [(0,0),(3,1)] [(0,.op 0 0),(2,.clo 1048665 [.op 0 0]),(7,.orow 1),(10,.s (.sl 4 (CV.encs l2))),(11,.s (.int .i64 (l2.length:Int))),(12,.s (.int .i64 x5))] [(0,.box 92 [.s (.int .i64 w13)]),(1,.row 60 5 ((List.map zAi) (l7++[(y12P,(y12W,y12X),(y12Y,y12Z))])))] 2 ⟨rfl,rfl,rfl,rfl,rfl,rfl,trivial⟩ ⟨rfl,⟨_,rfl,rfl⟩,rfl,⟨_,rfl,congrArg (Ob.row 60 5) zKp⟩,trivial⟩) ?_
      refine zZN ?_;refine⟨(k,w13,IntKind.i64.wrap (x5+1),l7++[(y12P,(y12W,y12X),(y12Y,y12Z))]),h,(Le.rnm [(0,0),(1,1)] _ _ _ ⟨rfl,rfl,rfl,rfl,rfl,rfl,trivial⟩ ⟨rfl,⟨_,rfl,rfl⟩,rfl,⟨_,rfl,rfl⟩,trivial⟩),Nat.lt_succ_self k⟩
    ·refine zAJ ?_;cases h;exact⟨_,rfl,(Le.rnm [(0,0),(1,1)] _ _ _ ⟨rfl,trivial⟩ ⟨rfl,⟨_,rfl,rfl⟩,rfl,⟨_,rfl,rfl⟩,trivial⟩)⟩
 ·subst hz;obtain⟨x8,l9⟩:=z;replace h:=ho1;refine zAj hle ?_;refine zZO ?_;refine zAe ?_;obtain⟨hj1,hk1⟩:=pij h;subst hj1 hk1;unfold zA8;exact⟨_,(Le.rnm [(0,0),(1,1)] [(6,.orow 1)] [(0,.box 92 [.s (.int .i64 x8)]),(1,.row 60 5 ((List.map zAi) l9))] 2 ⟨rfl,trivial⟩ ⟨rfl,⟨_,rfl,rfl⟩,rfl,⟨_,rfl,rfl⟩,trivial⟩),rfl,rfl,rfl,rfl,rfl,rfl,trivial⟩
def zIV (n:Nat) (xs:List AV) (os:List Ob) (x:AV) (os':List (Option Ob)):Prop:=∃ (a0:(Int)) (a1:CV) (y0:(List UInt8×Nd×List zRc×Int)) (z0:(Int)),zB0 n a0 a1=some (y0,z0)/\xs=[.op 0 0,.agg ((CV.enc a1).map .s)]/\os=[.box 92 ((zAm a0).map .s)]/\x = .agg ((zBd y0).map .s)/\os'=[some (.box 92 ((zAm z0).map .s))]
def zFr:zAq:=zBK (fun xs os x os'=>∃ n,zIV n xs os x os')
theorem zIG:PSound Tryz.prog 41 zFr:=by
 have gok:∀ f s,look? f [(83,zB9),(84,zD0),(85,zHp),(86,zCt),(88,zCk),(87,zFq)]=some s->PSound Tryz.prog f s:=zAl (by
  simp only[List.forall_mem_cons]
  exact⟨zCR,zET,zLd,zDb,zCQ,zIF,by simp⟩)
 refine PSound.withNil (zDQ tokW Tryz.call41 Tryz.func41 rfl (fun xs os x os' h=>by obtain⟨n,_,_,_,_,_,rfl,rfl,_,rfl⟩:=h; exact⟨by show 2<=34; decide,by show 1<=1; decide⟩) 34 rfl ?_) _;rintro xs os x os' w0 G0 B0 ⟨n,r1,⟨v2A,v2D,v2B,v2C⟩,y0,z0,h,rfl,rfl,rfl,rfl⟩ _;rw[zB0]at h;refine zYZ [4] [] rfl ?_;refine zZO ?_;obtain⟨⟨y3,w4⟩,hy3,h⟩:=zAc h;refine⟨_,_,⟨_,_,_,_,_,hy3,rfl,rfl,rfl,rfl⟩,?_⟩
 refine zAa ?_;refine zBw [] [11,16,21,27] [4,9,14,20,23,25] rfl (by decide +kernel) ?_;obtain⟨⟨e5A,e5D,e5B,e5C⟩,he5,h⟩:=zAc h;refine And.intro (zAt CV.encs_eq he5).1 ?_;intro r6 hr6;obtain rfl:[.int .i64 e5A,.int .i64 e5D,.str e5B,.sl 4 (CV.encs e5C)]=r6:=(hr6.trans (zAt CV.encs_eq he5).2.1).symm;obtain⟨⟨y7,w8⟩,hy7,h⟩:=zAc h;refine⟨_,_,⟨_,_,_,_,hy7,rfl,rfl,rfl,rfl⟩,?_⟩
 obtain⟨⟨e9A,e9D,e9B,e9C⟩,he9,h⟩:=zAc h;refine And.intro (zAt CV.encs_eq he9).1 ?_;intro r10 hr10;obtain rfl:[.int .i64 e9A,.int .i64 e9D,.str e9B,.sl 4 (CV.encs e9C)]=r10:=(hr10.trans (zAt CV.encs_eq he9).2.1).symm;obtain⟨⟨⟨y11A,y11B,y11F,y11E⟩,w12⟩,hy11,h⟩:=zAc h;refine⟨_,_,⟨_,_,_,_,_,hy11,rfl,rfl,rfl,rfl⟩,?_⟩
 obtain⟨⟨e13A,e13D,e13B,e13C⟩,he13,h⟩:=zAc h;refine And.intro (zAt CV.encs_eq he13).1 ?_;intro r14 hr14;obtain rfl:[.int .i64 e13A,.int .i64 e13D,.str e13B,.sl 4 (CV.encs e13C)]=r14:=(hr14.trans (zAt CV.encs_eq he13).2.1).symm;obtain⟨⟨y15,w16⟩,hy15,h⟩:=zAc h;refine⟨_,_,⟨_,_,_,_,hy15,rfl,rfl,rfl,rfl⟩,?_⟩
 obtain⟨⟨e17A,e17D,e17B,e17C⟩,he17,h⟩:=zAc h;refine And.intro (zAt CV.encs_eq he17).1 ?_;intro r18 hr18;obtain rfl:[.int .i64 e17A,.int .i64 e17D,.str e17B,.sl 4 (CV.encs e17C)]=r18:=(hr18.trans (zAt CV.encs_eq he17).2.1).symm;obtain⟨⟨y19,w20⟩,hy19,h⟩:=zAc h;refine⟨_,_,⟨_,_,_,_,hy19,rfl,rfl,rfl,rfl⟩,?_⟩
 obtain⟨⟨y21,w22⟩,hy21,h⟩:=zAc h;refine⟨_,_,⟨_,_,_,_,_,hy21,rfl,rfl,rfl,rfl⟩,?_⟩
 refine zAe ?_;obtain⟨hj1,hk1⟩:=pij h;subst hj1 hk1;unfold zA8;exact⟨_,(Le.trans (Le.rnm [(0,0),(1,1),(2,2)] [(4,.op 1 0)] [(0,.box 92 [.s (.int .i64 w22)]),(1,.box 34 [.s (.str y7),.s (.int .i64 y11A),.s (.str y11B),.s (.int .i64 y11F),.s (.sl 4 (Nd.encs y11E)),.orow 2,.s (.int .i64 y15)]),(2,.row 60 5 ((List.map zAi) y21))] 3 ⟨rfl,trivial⟩ ⟨rfl,⟨_,rfl,rfl⟩,rfl,⟨_,rfl,rfl⟩,rfl,⟨_,rfl,rfl⟩,trivial⟩) (Le.giveRow 2 rfl)),rfl,rfl,rfl,rfl,trivial⟩
def zTj (n:Nat) (xs:List AV) (r:Ret):Prop:=∃ (a0:List UInt8) (y0:(List UInt8×Nd×List zRc×Int)) (y1:Int),zBG n a0=some (y0,y1)/\xs=[.s (.sl 1 ((List.map brow) a0))]/\r = .val (.tup [.agg ((zBd y0).map .s),.s (.int .i64 y1)])
def zN3:zAq:=zAw fun xs r=>∃ n,zTj n xs r
theorem zSL:PSound Tryz.prog 17 zN3:=by
 have gok:∀ f s,look? f [(39,zGR),(28,zHL),(40,zKr),(41,zFr),(12,zI6)]=some s->PSound Tryz.prog f s:=zAl (by
  simp only[List.forall_mem_cons]
  exact⟨zKm,zJx,zOF,zIG,zL4,by simp⟩)
 refine zAC tokW Tryz.call17 Tryz.func17 rfl (fun xs r h=>by obtain⟨n,_,_,_,_,rfl,_⟩:=h; show 1<=70; decide) 70 rfl ?_;rintro xs r w0 G0 ⟨n,a1,y0,y1,h,rfl,rfl⟩ _;rw[zBG]at h;refine zYZ [2] [] rfl ?_;refine zAa ?_;refine zAa ?_;obtain⟨x2,hj,h⟩:=zAc h;refine zAo ⟨ofL [(0,.s (.sl 1 ((List.map brow) a1))),(2,.op 0 0),(20,.s (.bool x2))],ofH [(0,.box 34 [.s (.str []),.s (.int .i64 0),.s (.str []),.s (.int .i64 0),.nl 4,.nl 5,.s (.int .i64 0)])],1⟩ ?_ (fun σ' hle=>?_)
 ·replace h:=hj;refine zAb [] [12,14,16,17] rfl ?_;intro n3 hn3;obtain rfl:(a1.length:Int)=n3:=(hn3.trans (congrArg (fun m:Nat=>(m:Int)) (rlen (fun _=>rfl) a1))).symm;intro b hb;cases b with
  | true =>
   replace h:=zAF hb.symm h;cases h;exact(Le.rnm [(0,0)] _ _ _ ⟨rfl,rfl,rfl,trivial⟩ ⟨rfl,⟨_,rfl,rfl⟩,trivial⟩)
  | false =>
   replace h:=zAE hb.symm h;obtain⟨hq,h⟩:=zAI h;refine And.intro ⟨hq.1,hq.2.1,Int.le_trans hq.2.2 (Int.ofNat_le.2 (Nat.le_of_eq (rlen (fun _=>rfl) _).symm))⟩ ?_;intro r4 hr4;obtain rfl:(List.map brow) ((a1.take (12:Int).toNat).drop (0:Int).toNat)=r4:=(hr4.trans (rcut (fun _=>rfl) _ _ _)).symm;refine And.intro (show List.map brow ((a1.take (12:Int).toNat).drop (0:Int).toNat)=((List.map brow ((a1.take (12:Int).toNat).drop (0:Int).toNat)).map zHv).map brow from by rw[zEB]) ?_;intro s5 hs5;obtain rfl:(a1.take (12:Int).toNat).drop (0:Int).toNat=s5:=(hs5.trans (zEB _)).symm;obtain⟨y6,hy6,h⟩:=zAc h
   refine⟨_,⟨_,_,_,hy6,rfl,rfl⟩,?_⟩
   cases h;exact(Le.rnm [(0,0)] _ _ _ ⟨rfl,rfl,rfl,trivial⟩ ⟨rfl,⟨_,rfl,rfl⟩,trivial⟩)
 ·refine zAj hle ?_;refine zAh rfl h (fun hb h=>?_) (fun hb h=>?_)
  ·refine zZO ?_;refine zAe ?_;obtain⟨hj1,hk1⟩:=pij h;subst hj1 hk1;exact fin0 rfl rfl
  ·refine zAf ?_;refine zZO ?_;refine zAa ?_;refine zYZ [] [23,24] rfl ?_;obtain⟨hq,h⟩:=zAI h;refine And.intro ⟨hq.1,hq.2.1,Int.le_trans hq.2.2 (Int.ofNat_le.2 (Nat.le_of_eq (rlen (fun _=>rfl) _).symm))⟩ ?_;intro r7 hr7;obtain rfl:(List.map brow) ((a1.take (12:Int).toNat).drop (4:Int).toNat)=r7:=(hr7.trans (rcut (fun _=>rfl) _ _ _)).symm;intro n8 hn8;obtain rfl:(((a1.take (12:Int).toNat).drop (4:Int).toNat).length:Int)=n8:=(hn8.trans (congrArg (fun m:Nat=>(m:Int)) (rlen (fun _=>rfl) ((a1.take (12:Int).toNat).drop (4:Int).toNat)))).symm
   show Tri ..;obtain⟨x11,hl,h⟩:=zAc h;refine zAo ⟨ofL [(0,.s (.sl 1 ((List.map brow) a1))),(2,.op 0 0),(4,.s (.int .u64 x11))],ofH [(0,.box 34 [.s (.str []),.s (.int .i64 0),.s (.str []),.s (.int .i64 0),.nl 4,.nl 5,.s (.int .i64 0)])],1⟩ ?_ (fun σ' hle=>?_)
   ·refine zAk (zAD (X:=Nat×Int×Int) (fun y=>match y with | (k,x9,x10)=>⟨ofL [(0,.s (.sl 1 ((List.map brow) a1))),(2,.op 0 0),(4,.s (.int .u64 x10)),(23,.s (.sl 1 ((List.map brow) ((a1.take (12:Int).toNat).drop (4:Int).toNat)))),(24,.s (.int .i64 (((a1.take (12:Int).toNat).drop (4:Int).toNat).length:Int))),(25,.s (.int .i64 x9))],ofH [(0,.box 34 [.s (.str []),.s (.int .i64 0),.s (.str []),.s (.int .i64 0),.nl 4,.nl 5,.s (.int .i64 0)])],1⟩) (fun y=>zBM a1 y.1 y.2.1 y.2.2=some x11) (fun y=>y.1) (n,0,0) hl ?_ ?_)
    ·exact(Le.rnm [(0,0)] _ _ _ ⟨rfl,rfl,rfl,rfl,rfl,rfl,trivial⟩ ⟨rfl,⟨_,rfl,rfl⟩,trivial⟩)
    ·rintro⟨k,x9,x10⟩ h;cases k with
     | zero=>cases h
     | succ k =>
      replace h:zBM a1 (k+1) x9 x10=some x11:=h;rw[zBM]at h;refine zZO ?_;refine zAa ?_;refine zAh rfl h (fun hb h=>?_) (fun hb h=>?_)
      ·refine zAf ?_;refine zAa ?_;refine zAk ?_;refine zYZ [] [27] rfl ?_;obtain⟨e12,he12,h⟩:=zAc h;refine And.intro (zAt (fun _=>rfl) he12).1 ?_;intro r13 hr13;obtain rfl:[.int .u8 (e12.toNat:Int)]=r13:=(hr13.trans (zAt (fun _=>rfl) he12).2.1).symm;refine zZN ?_;refine And.intro (by decide) ?_;refine zZN ?_
       refine⟨(k,IntKind.i64.wrap (x9+1),zCD .or .u64 (IntKind.u64.wrap (x10 * 2 ^ (min (8:Int).toNat IntKind.u64.bits))) (IntKind.u64.wrap (e12.toNat:Int))),h,(Le.rnm [(0,0)] _ _ _ ⟨rfl,rfl,rfl,rfl,rfl,rfl,trivial⟩ ⟨rfl,⟨_,rfl,rfl⟩,trivial⟩),Nat.lt_succ_self k⟩
      ·refine zAJ ?_;cases h;exact(Le.rnm [(0,0)] _ _ _ ⟨rfl,rfl,rfl,trivial⟩ ⟨rfl,⟨_,rfl,rfl⟩,trivial⟩)
   ·refine zAj hle ?_;refine zAa ?_;refine zYZ [] [37] rfl ?_;obtain⟨hq,h⟩:=zAI h;refine And.intro ⟨hq.1,Int.le_trans hq.2.1 (Int.ofNat_le.2 (Nat.le_of_eq (rlen (fun _=>rfl) _).symm)),Int.le_refl _⟩ ?_;intro r14 hr14;obtain rfl:(List.map brow) ((a1.take (a1.length:Int).toNat).drop (12:Int).toNat)=r14:=(hr14.trans ((congrArg (fun m:Nat=>(((List.map brow) a1).take m).drop (12:Int).toNat) (rlen (fun _=>rfl) _)).trans (rcut (fun _=>rfl) _ _ _))).symm;obtain⟨y15,hy15,h⟩:=zAc h;refine⟨_,⟨_,_,_,hy15,rfl,rfl⟩,?_⟩
    refine zAh rfl h (fun hb h=>?_) (fun hb h=>?_)
    ·refine zZO ?_;refine zAe ?_;obtain⟨hj1,hk1⟩:=pij h;subst hj1 hk1;exact fin0 rfl rfl
    ·refine zAf ?_;refine zYZ [7] [43] rfl ?_;obtain⟨hq,h⟩:=zAI h;refine And.intro ⟨hq.1,Int.le_trans hq.2.1 (Int.ofNat_le.2 (Nat.le_of_eq (rlen (fun _=>rfl) _).symm)),Int.le_refl _⟩ ?_;intro r16 hr16;obtain rfl:(List.map brow) ((a1.take (a1.length:Int).toNat).drop (12:Int).toNat)=r16:=(hr16.trans ((congrArg (fun m:Nat=>(((List.map brow) a1).take m).drop (12:Int).toNat) (rlen (fun _=>rfl) _)).trans (rcut (fun _=>rfl) _ _ _))).symm;obtain⟨⟨⟨y17A,y17D,y17B,y17C⟩,y18⟩,hy17,h⟩:=zAc h;refine⟨_,⟨_,_,_,_,hy17,rfl,rfl⟩,?_⟩
     refine zAj (Le.giveBox 1 [.int .i64 y17A,.int .i64 y17D,.str y17B,.sl 4 (CV.encs y17C)] rfl rfl) ?_;refine zAa ?_;refine zZO ?_;refine zAh rfl h (fun hb h=>?_) (fun hb h=>?_)
     ·refine zZO ?_;refine zAe ?_;obtain⟨hj1,hk1⟩:=pij h;subst hj1 hk1;exact fin0 rfl rfl
     ·refine zAf ?_;refine zYZ [51] [] rfl ?_;refine zYZ [10] [] rfl ?_;obtain⟨⟨⟨y19U,⟨y19Q,y19R,y19S,y19T⟩,y19H,y19V⟩,w20⟩,hy19,h⟩:=zAc h;refine⟨_,_,⟨_,_,_,_,_,hy19,rfl,rfl,rfl,rfl⟩,?_⟩
      refine zAj (Le.giveBox 3 [.str y19U,.int .i64 y19Q,.str y19R,.int .i64 y19S,.sl 4 (Nd.encs y19T),.sl 5 ((List.map zAi) y19H),.int .i64 y19V] rfl rfl) ?_;refine zAa ?_;refine zZO ?_;show Tri ..
      refine zAj (Le.trans (Le.rnm [(0,0),(2,1)] [(2,.op 0 0),(9,.op 1 0),(10,.s (.pt [.str y19U,.int .i64 y19Q,.str y19R,.int .i64 y19S,.sl 4 (Nd.encs y19T),.sl 5 ((List.map zAi) y19H),.int .i64 y19V])),(59,.s (.bool (w20 != 0)))] [(0,.box 34 [.s (.str []),.s (.int .i64 0),.s (.str []),.s (.int .i64 0),.nl 4,.nl 5,.s (.int .i64 0)]),(1,.box 92 [.s (.int .i64 w20)])] 2 ⟨rfl,rfl,rfl,rfl,trivial⟩ ⟨rfl,⟨_,rfl,rfl⟩,rfl,⟨_,rfl,rfl⟩,trivial⟩) (Le.giveBox 1 [.int .i64 w20] rfl rfl)) ?_;refine zAh rfl h (fun hb h=>?_) (fun hb h=>?_)
      ·refine zAa ?_;refine zBw [] [] [5] rfl (by decide +kernel) ?_;refine zAe ?_;obtain⟨hj1,hk1⟩:=pij h;subst hj1 hk1;exact fin0 rfl rfl
      ·refine zAf ?_;refine zAa ?_;refine zZO ?_;obtain⟨y21,hy21,h⟩:=zAc h;refine⟨_,⟨_,_,_,hy21,rfl,rfl⟩,?_⟩
       refine zAh rfl h (fun hb h=>?_) (fun hb h=>?_)
       ·refine zZO ?_;refine zAe ?_;obtain⟨hj1,hk1⟩:=pij h;subst hj1 hk1;exact fin0 rfl rfl
       ·refine zAf ?_;refine zZO ?_;refine zAe ?_;obtain⟨hj1,hk1⟩:=pij h;subst hj1 hk1;exact fin0 rfl rfl
def zAA:(List UInt8×Nd×List zRc×Int)->List S
| ⟨p_title,⟨p_origin_kind,p_origin_text,p_origin_cols,p_origin_kids⟩,p_records,p_done⟩=>[.str p_title,.int .i64 p_origin_kind,.str p_origin_text,.int .i64 p_origin_cols,.sl 4 (Nd.encs p_origin_kids),.sl 5 ((List.map zAi) p_records),.int .i64 p_done]
def zTq (xs:List AV) (r:Ret):Prop:=∃ (a0:List Nd) (y0:Nd),zDE a0=some y0/\xs=[.s (.sl 4 (Nd.encs a0))]/\r = .val (.agg ((Nd.enc y0).map .s))
def zN9:zAq:=zAw fun xs r=>zTq xs r
theorem zSQ:PSound Tryz.prog 54 zN9:=by
 have gok:=@gok0 Tryz.prog;refine zAC tokW Tryz.call54 Tryz.func54 rfl (fun xs r h=>by obtain⟨_,_,_,rfl,_⟩:=h; show 1<=5; decide) 5 rfl ?_;rintro xs r w0 G0 ⟨l1,y0,h,rfl,rfl⟩ _;rw[zDE]at h;refine zYZ [2] [] rfl ?_;refine zZO ?_;refine zAe ?_;have hy:=osi h;subst hy;exact fin0 rfl rfl
def zQT (n:Nat) (xs:List AV) (r:Ret):Prop:=∃ (a0:List Int) (a1:List Int) (y0:Int),zEs n a0 a1=some y0/\xs=[.s (.sl 1 ((List.map (irow .i64)) a0)),.s (.sl 1 ((List.map (irow .i64)) a1))]/\r = .val (.s (.int .i64 y0))
def zLN:zAq:=zAw fun xs r=>∃ n,zQT n xs r
theorem zPO:PSound Tryz.prog 162 zLN:=by
 have gok:=@gok0 Tryz.prog;refine zAC tokW Tryz.call162 Tryz.func162 rfl (fun xs r h=>by obtain⟨n,_,_,_,_,rfl,_⟩:=h; show 2<=48; decide) 48 rfl ?_;rintro xs r w0 G0 ⟨n,a1,b2,y0,h,rfl,rfl⟩ _;rw[zEs]at h;refine zZO ?_;refine zAa ?_;refine zZO ?_;show Tri ..;obtain⟨fl,hl,ho1⟩:=zAc h;refine zDe (fl:=fl) (fun z=>match z with | _=>⟨ofL [(0,.s (.sl 1 ((List.map (irow .i64)) a1))),(1,.s (.sl 1 ((List.map (irow .i64)) b2)))],fun _=>none,0⟩) ?_ (fun z σ' hz hle=>?_)
 ·refine zAk (zAD (X:=Nat×Int) (fun y=>match y with | (k,i3)=>⟨ofL [(0,.s (.sl 1 ((List.map (irow .i64)) a1))),(1,.s (.sl 1 ((List.map (irow .i64)) b2))),(5,.s (.int .i64 i3))],fun _=>none,0⟩) (fun y=>zCr a1 b2 y.1 y.2=some fl) (fun y=>y.1) (n,0) hl ?_ ?_)
  ·exact(Le.forget _ ⟨rfl,rfl,rfl,trivial⟩)
  ·rintro⟨k,i3⟩ h;cases k with
   | zero=>cases h
   | succ k =>
    replace h:zCr a1 b2 (k+1) i3=some fl:=h;rw[zCr]at h;refine zAa ?_;refine zAa ?_;obtain⟨x4,hj,h⟩:=zAc h;refine zAo ⟨ofL [(0,.s (.sl 1 ((List.map (irow .i64)) a1))),(1,.s (.sl 1 ((List.map (irow .i64)) b2))),(5,.s (.int .i64 i3)),(15,.s (.bool x4))],fun _=>none,0⟩ ?_ (fun σ' hle=>?_)
    ·replace h:=hj;refine zAb [] [8,10,13] rfl ?_;intro n5 hn5;obtain rfl:(a1.length:Int)=n5:=(hn5.trans (congrArg (fun m:Nat=>(m:Int)) (rlen (fun _=>rfl) a1))).symm;intro b hb;cases b with
     | true =>
      replace h:=zAF hb.symm h;intro n6 hn6;obtain rfl:(b2.length:Int)=n6:=(hn6.trans (congrArg (fun m:Nat=>(m:Int)) (rlen (fun _=>rfl) b2))).symm;cases h;exact(Le.forget _ ⟨rfl,rfl,rfl,rfl,trivial⟩)
     | false =>
      replace h:=zAE hb.symm h;cases h;exact(Le.forget _ ⟨rfl,rfl,rfl,rfl,trivial⟩)
    ·refine zAj hle ?_;refine zAh rfl h (fun hb h=>?_) (fun hb h=>?_)
     ·refine zAf ?_;refine zAa ?_;refine zAk ?_;refine zAa ?_;refine zAa ?_;refine zBw [] [20,24] [] rfl (by decide +kernel) ?_;obtain⟨e7,he7,h⟩:=zAc h;refine And.intro (zAt (fun _=>rfl) he7).1 ?_;intro r8 hr8;obtain rfl:[.int .i64 e7]=r8:=(hr8.trans (zAt (fun _=>rfl) he7).2.1).symm;obtain⟨e9,he9,h⟩:=zAc h;refine And.intro (zAt (fun _=>rfl) he9).1 ?_;intro r10 hr10;obtain rfl:[.int .i64 e9]=r10:=(hr10.trans (zAt (fun _=>rfl) he9).2.1).symm;refine zAh rfl h (fun hb h=>?_) (fun hb h=>?_)
      ·refine zZO ?_;refine zAe ?_;cases h;replace h:some _=some _:=ho1;have hy:=osi h;subst hy;exact fin0 rfl rfl
      ·refine zAf ?_;refine zAa ?_;refine zBw [] [29,33] [] rfl (by decide +kernel) ?_;obtain⟨e11,he11,h⟩:=zAc h;refine And.intro (zAt (fun _=>rfl) he11).1 ?_;intro r12 hr12;obtain rfl:[.int .i64 e11]=r12:=(hr12.trans (zAt (fun _=>rfl) he11).2.1).symm;obtain⟨e13,he13,h⟩:=zAc h;refine And.intro (zAt (fun _=>rfl) he13).1 ?_;intro r14 hr14;obtain rfl:[.int .i64 e13]=r14:=(hr14.trans (zAt (fun _=>rfl) he13).2.1).symm;refine zAh rfl h (fun hb h=>?_) (fun hb h=>?_)
       ·refine zZO ?_;refine zAe ?_;cases h;replace h:some _=some _:=ho1;have hy:=osi h;subst hy;exact fin0 rfl rfl
       ·refine zAf ?_;refine zZN ?_;refine⟨(k,IntKind.i64.wrap (i3+1)),h,(Le.forget _ ⟨rfl,rfl,rfl,trivial⟩),Nat.lt_succ_self k⟩
     ·refine zAJ ?_;cases h;exact⟨_,rfl,(Le.forget _ ⟨rfl,rfl,trivial⟩)⟩
 ·subst hz;obtain _:=z;replace h:=ho1;refine zAj hle ?_;refine zAa ?_;refine zAk ?_;refine zYZ [] [38,40] rfl ?_;intro n15 hn15;obtain rfl:(a1.length:Int)=n15:=(hn15.trans (congrArg (fun m:Nat=>(m:Int)) (rlen (fun _=>rfl) a1))).symm;intro n16 hn16;obtain rfl:(b2.length:Int)=n16:=(hn16.trans (congrArg (fun m:Nat=>(m:Int)) (rlen (fun _=>rfl) b2))).symm;refine zAh rfl h (fun hb h=>?_) (fun hb h=>?_)
  ·refine zZO ?_;refine zAe ?_;have hy:=osi h;subst hy;exact fin0 rfl rfl
  ·refine zYZ [] [44,46] rfl ?_;intro n17 hn17;obtain rfl:(a1.length:Int)=n17:=(hn17.trans (congrArg (fun m:Nat=>(m:Int)) (rlen (fun _=>rfl) a1))).symm;intro n18 hn18;obtain rfl:(b2.length:Int)=n18:=(hn18.trans (congrArg (fun m:Nat=>(m:Int)) (rlen (fun _=>rfl) b2))).symm;refine zAh rfl h (fun hb h=>?_) (fun hb h=>?_)
   ·refine zZO ?_;refine zAe ?_;have hy:=osi h;subst hy;exact fin0 rfl rfl
   ·refine zAf ?_;refine zZO ?_;refine zAe ?_;have hy:=osi h;subst hy;exact fin0 rfl rfl
def zUX (n:Nat) (xs:List AV) (r:Ret):Prop:=∃ (a0:zO8) (a1:zO8) (y0:Bool),zGF n a0 a1=some y0/\xs=[.agg ((zAn a0).map .s),.agg ((zAn a1).map .s)]/\r = .val (.s (.bool y0))
def zP0:zAq:=zAw fun xs r=>∃ n,zUX n xs r
theorem zTO:PSound Tryz.prog 164 zP0:=by
 have gok:∀ f s,look? f [(38,zI8)]=some s->PSound Tryz.prog f s:=zAl (by
  simp only[List.forall_mem_cons]
  exact⟨zNF,by simp⟩)
 refine zAC tokW Tryz.call164 Tryz.func164 rfl (fun xs r h=>by obtain⟨n,_,_,_,_,rfl,_⟩:=h; show 2<=78; decide) 78 rfl ?_;rintro xs r w0 G0 ⟨n,⟨a1A,a1I,a1J,a1L,a1G,a1K,a1M,a1B⟩,⟨a2A,a2I,a2J,a2L,a2G,a2K,a2M,a2B⟩,y0,h,rfl,rfl⟩ _;rw[zGF]at h;refine zZO ?_;refine zAa ?_;refine zAa ?_;obtain⟨x3,hj,h⟩:=zAc h
 refine zAo ⟨ofL [(2,.s (.pt [.int .i64 a1A,.sl 1 ((List.map (irow .i64)) a1I),.int .i64 a1J,.int .i64 a1L,.sl 4 (Nd.encs a1G),.int .i64 a1K,.str a1M,.str a1B])),(3,.s (.pt [.int .i64 a2A,.sl 1 ((List.map (irow .i64)) a2I),.int .i64 a2J,.int .i64 a2L,.sl 4 (Nd.encs a2G),.int .i64 a2K,.str a2M,.str a2B])),(54,.s (.bool x3))],fun _=>none,0⟩ ?_ (fun σ' hle=>?_)
 ·replace h:=hj;refine zAb [] [11,18,25,32,39,46,49,52] rfl ?_;intro b hb;cases b with
  | true =>
   replace h:=zAF hb.symm h;intro b hb;subst hb;intro b hb;subst hb;intro b hb;subst hb;intro b hb;subst hb;intro b hb;subst hb;cases h;exact(Le.forget _ ⟨rfl,rfl,rfl,trivial⟩)
  | false =>
   replace h:=zAE hb.symm h;intro b hb;cases b with
   | true =>
    replace h:=zAF hb.symm h;intro b hb;subst hb;intro b hb;subst hb;intro b hb;subst hb;intro b hb;subst hb;cases h;exact(Le.forget _ ⟨rfl,rfl,rfl,trivial⟩)
   | false =>
    replace h:=zAE hb.symm h;intro b hb;cases b with
    | true =>
     replace h:=zAF hb.symm h;intro b hb;subst hb;intro b hb;subst hb;intro b hb;subst hb;cases h;exact(Le.forget _ ⟨rfl,rfl,rfl,trivial⟩)
    | false =>
     replace h:=zAE hb.symm h;intro b hb;cases b with
     | true =>
      replace h:=zAF hb.symm h;intro b hb;subst hb;intro b hb;subst hb;cases h;exact(Le.forget _ ⟨rfl,rfl,rfl,trivial⟩)
     | false =>
      replace h:=zAE hb.symm h;intro b hb;cases b with
      | true =>
       replace h:=zAF hb.symm h;intro b hb;subst hb;cases h;exact(Le.forget _ ⟨rfl,rfl,rfl,trivial⟩)
      | false =>
       replace h:=zAE hb.symm h;intro b hb;cases b with
       | true =>
        replace h:=zAF hb.symm h;cases h;exact(Le.forget _ ⟨rfl,rfl,rfl,trivial⟩)
       | false =>
        replace h:=zAE hb.symm h;intro n4 hn4;obtain rfl:(a1I.length:Int)=n4:=(hn4.trans (congrArg (fun m:Nat=>(m:Int)) (rlen (fun _=>rfl) a1I))).symm;intro n5 hn5;obtain rfl:(a2I.length:Int)=n5:=(hn5.trans (congrArg (fun m:Nat=>(m:Int)) (rlen (fun _=>rfl) a2I))).symm;cases h;exact(Le.forget _ ⟨rfl,rfl,rfl,trivial⟩)
 ·refine zAj hle ?_;refine zAh rfl h (fun hb h=>?_) (fun hb h=>?_)
  ·refine zZO ?_;refine zAe ?_;have hy:=osi h;subst hy;exact fin0 rfl rfl
  ·refine zAf ?_;refine zAa ?_;refine zZO ?_;show Tri ..;obtain⟨fl,hl,ho1⟩:=zAc h;refine zDe (fl:=fl) (fun z=>match z with | _=>⟨ofL [(2,.s (.pt [.int .i64 a1A,.sl 1 ((List.map (irow .i64)) a1I),.int .i64 a1J,.int .i64 a1L,.sl 4 (Nd.encs a1G),.int .i64 a1K,.str a1M,.str a1B])),(3,.s (.pt [.int .i64 a2A,.sl 1 ((List.map (irow .i64)) a2I),.int .i64 a2J,.int .i64 a2L,.sl 4 (Nd.encs a2G),.int .i64 a2K,.str a2M,.str a2B]))],fun _=>none,0⟩) ?_ (fun z σ' hz hle=>?_)
   ·refine zAk (zAD (X:=Nat×Int) (fun y=>match y with | (k,x6)=>⟨ofL [(2,.s (.pt [.int .i64 a1A,.sl 1 ((List.map (irow .i64)) a1I),.int .i64 a1J,.int .i64 a1L,.sl 4 (Nd.encs a1G),.int .i64 a1K,.str a1M,.str a1B])),(3,.s (.pt [.int .i64 a2A,.sl 1 ((List.map (irow .i64)) a2I),.int .i64 a2J,.int .i64 a2L,.sl 4 (Nd.encs a2G),.int .i64 a2K,.str a2M,.str a2B])),(5,.s (.int .i64 x6))],fun _=>none,0⟩) (fun y=>zDF a1I a2I y.1 y.2=some fl) (fun y=>y.1) (n,0) hl ?_ ?_)
    ·exact(Le.forget _ ⟨rfl,rfl,rfl,trivial⟩)
    ·rintro⟨k,x6⟩ h;cases k with
     | zero=>cases h
     | succ k =>
      replace h:zDF a1I a2I (k+1) x6=some fl:=h;rw[zDF]at h;refine zAa ?_;refine zYZ [] [58] rfl ?_;intro n7 hn7;obtain rfl:(a1I.length:Int)=n7:=(hn7.trans (congrArg (fun m:Nat=>(m:Int)) (rlen (fun _=>rfl) a1I))).symm;refine zAh rfl h (fun hb h=>?_) (fun hb h=>?_)
      ·refine zAf ?_;refine zAa ?_;refine zAk ?_;refine zAa ?_;refine zBw [] [65,70] [] rfl (by decide +kernel) ?_;obtain⟨e8,he8,h⟩:=zAc h;refine And.intro (zAt (fun _=>rfl) he8).1 ?_;intro r9 hr9;obtain rfl:[.int .i64 e8]=r9:=(hr9.trans (zAt (fun _=>rfl) he8).2.1).symm;obtain⟨e10,he10,h⟩:=zAc h;refine And.intro (zAt (fun _=>rfl) he10).1 ?_;intro r11 hr11;obtain rfl:[.int .i64 e10]=r11:=(hr11.trans (zAt (fun _=>rfl) he10).2.1).symm;refine zAh rfl h (fun hb h=>?_) (fun hb h=>?_)
       ·refine zZO ?_;refine zAe ?_;cases h;replace h:some _=some _:=ho1;have hy:=osi h;subst hy;exact fin0 rfl rfl
       ·refine zAf ?_;refine zZN ?_;refine⟨(k,IntKind.i64.wrap (x6+1)),h,(Le.forget _ ⟨rfl,rfl,rfl,trivial⟩),Nat.lt_succ_self k⟩
      ·refine zAJ ?_;cases h;exact⟨_,rfl,(Le.forget _ ⟨rfl,rfl,trivial⟩)⟩
   ·subst hz;obtain _:=z;replace h:=ho1;refine zAj hle ?_;refine zZO ?_;obtain⟨y12,hy12,h⟩:=zAc h;refine⟨_,⟨_,_,_,_,hy12,rfl,rfl⟩,?_⟩
    refine zAe ?_;have hy:=osi h;subst hy;exact fin0 rfl rfl
def zQU (n:Nat) (xs:List AV) (r:Ret):Prop:=∃ (a0:List zO8) (a1:List zO8) (y0:Bool),zFj n a0 a1=some y0/\xs=[.s (.sl 8 ((List.map zAn) a0)),.s (.sl 8 ((List.map zAn) a1))]/\r = .val (.s (.bool y0))
def zLO:zAq:=zAw fun xs r=>∃ n,zQU n xs r
theorem zPP:PSound Tryz.prog 129 zLO:=by
 have gok:∀ f s,look? f [(164,zP0)]=some s->PSound Tryz.prog f s:=zAl (by
  simp only[List.forall_mem_cons]
  exact⟨zTO,by simp⟩)
 refine zAC tokW Tryz.call129 Tryz.func129 rfl (fun xs r h=>by obtain⟨n,_,_,_,_,rfl,_⟩:=h; show 2<=27; decide) 27 rfl ?_;rintro xs r w0 G0 ⟨n,a1,b2,y0,h,rfl,rfl⟩ _;rw[zFj]at h;refine zZO ?_;refine zAa ?_;refine zYZ [] [7,9] rfl ?_;intro n3 hn3;obtain rfl:(a1.length:Int)=n3:=(hn3.trans (congrArg (fun m:Nat=>(m:Int)) (rlen (fun _=>rfl) a1))).symm;intro n4 hn4;obtain rfl:(b2.length:Int)=n4:=(hn4.trans (congrArg (fun m:Nat=>(m:Int)) (rlen (fun _=>rfl) b2))).symm;refine zAh rfl h (fun hb h=>?_) (fun hb h=>?_)
 ·refine zZO ?_;refine zAe ?_;have hy:=osi h;subst hy;exact fin0 rfl rfl
 ·refine zAf ?_;refine zAa ?_;refine zZO ?_;show Tri ..;obtain⟨fl,hl,ho1⟩:=zAc h;refine zDe (fl:=fl) (fun z=>match z with | _=>⟨ofL [],fun _=>none,0⟩) ?_ (fun z σ' hz hle=>?_)
  ·refine zAk (zAD (X:=Nat×Int) (fun y=>match y with | (k,i5)=>⟨ofL [(0,.s (.sl 8 ((List.map zAn) a1))),(1,.s (.sl 8 ((List.map zAn) b2))),(5,.s (.int .i64 i5))],fun _=>none,0⟩) (fun y=>zCs n a1 b2 y.1 y.2=some fl) (fun y=>y.1) (n,0) hl ?_ ?_)
   ·exact(Le.forget _ ⟨rfl,rfl,rfl,trivial⟩)
   ·rintro⟨k,i5⟩ h;cases k with
    | zero=>cases h
    | succ k =>
     replace h:zCs n a1 b2 (k+1) i5=some fl:=h;rw[zCs]at h;refine zAa ?_;refine zYZ [] [13] rfl ?_;intro n6 hn6;obtain rfl:(a1.length:Int)=n6:=(hn6.trans (congrArg (fun m:Nat=>(m:Int)) (rlen (fun _=>rfl) a1))).symm;refine zAh rfl h (fun hb h=>?_) (fun hb h=>?_)
     ·refine zAf ?_;refine zAa ?_;refine zAk ?_;refine zAa ?_;refine zBw [] [19,23] [] rfl (by decide +kernel) ?_;obtain⟨⟨e7A,e7I,e7J,e7L,e7G,e7K,e7M,e7B⟩,he7,h⟩:=zAc h;refine And.intro (zAt (fun _=>rfl) he7).1 ?_;intro r8 hr8;obtain rfl:[.int .i64 e7A,.sl 1 ((List.map (irow .i64)) e7I),.int .i64 e7J,.int .i64 e7L,.sl 4 (Nd.encs e7G),.int .i64 e7K,.str e7M,.str e7B]=r8:=(hr8.trans (zAt (fun _=>rfl) he7).2.1).symm;obtain⟨⟨e9A,e9I,e9J,e9L,e9G,e9K,e9M,e9B⟩,he9,h⟩:=zAc h;refine And.intro (zAt (fun _=>rfl) he9).1 ?_
      intro r10 hr10;obtain rfl:[.int .i64 e9A,.sl 1 ((List.map (irow .i64)) e9I),.int .i64 e9J,.int .i64 e9L,.sl 4 (Nd.encs e9G),.int .i64 e9K,.str e9M,.str e9B]=r10:=(hr10.trans (zAt (fun _=>rfl) he9).2.1).symm;obtain⟨y11,hy11,h⟩:=zAc h;refine⟨_,⟨_,_,_,_,hy11,rfl,rfl⟩,?_⟩
      refine zAh rfl h (fun hb h=>?_) (fun hb h=>?_)
      ·refine zZO ?_;refine zAe ?_;cases h;replace h:some _=some _:=ho1;have hy:=osi h;subst hy;exact fin0 rfl rfl
      ·refine zAf ?_;refine zZN ?_;refine⟨(k,IntKind.i64.wrap (i5+1)),h,(Le.forget _ ⟨rfl,rfl,rfl,trivial⟩),Nat.lt_succ_self k⟩
     ·refine zAJ ?_;cases h;exact⟨_,rfl,(Le.forget _ trivial)⟩
  ·subst hz;obtain _:=z;replace h:=ho1;refine zAj hle ?_;refine zZO ?_;refine zAe ?_;have hy:=osi h;subst hy;exact fin0 rfl rfl
def zUW (n:Nat) (xs:List AV) (r:Ret):Prop:=∃ (a0:List Int) (a1:List Int) (y0:Bool),zGE n a0 a1=some y0/\xs=[.s (.sl 1 ((List.map (irow .i64)) a0)),.s (.sl 1 ((List.map (irow .i64)) a1))]/\r = .val (.s (.bool y0))
def zPZ:zAq:=zAw fun xs r=>∃ n,zUW n xs r
theorem zTN:PSound Tryz.prog 165 zPZ:=by
 have gok:∀ f s,look? f [(162,zLN)]=some s->PSound Tryz.prog f s:=zAl (by
  simp only[List.forall_mem_cons]
  exact⟨zPO,by simp⟩)
 refine zAC tokW Tryz.call165 Tryz.func165 rfl (fun xs r h=>by obtain⟨n,_,_,_,_,rfl,_⟩:=h; show 2<=9; decide) 9 rfl ?_;rintro xs r w0 G0 ⟨n,a1,b2,y0,h,rfl,rfl⟩ _;rw[zGE]at h;refine zZO ?_;refine zZO ?_;obtain⟨y3,hy3,h⟩:=zAc h;refine⟨_,⟨_,_,_,_,hy3,rfl,rfl⟩,?_⟩
 refine zAe ?_;have hy:=osi h;subst hy;exact fin0 rfl rfl
def zNw (n:Nat) (xs:List AV) (r:Ret):Prop:=∃ (a0:zCu) (a1:zCu) (y0:Bool),zC1 n a0 a1=some y0/\xs=[.agg ((zB6 a0).map .s),.agg ((zB6 a1).map .s)]/\r = .val (.s (.bool y0))
def zIQ:zAq:=zAw fun xs r=>∃ n,zNw n xs r
theorem zMM:PSound Tryz.prog 130 zIQ:=by
 have gok:∀ f s,look? f [(165,zPZ)]=some s->PSound Tryz.prog f s:=zAl (by
  simp only[List.forall_mem_cons]
  exact⟨zTN,by simp⟩)
 refine zAC tokW Tryz.call130 Tryz.func130 rfl (fun xs r h=>by obtain⟨n,_,_,_,_,rfl,_⟩:=h; show 2<=17; decide) 17 rfl ?_;rintro xs r w0 G0 ⟨n,⟨a1Ai,a1Ah⟩,⟨b2Ai,b2Ah⟩,y0,h,rfl,rfl⟩ _;rw[zC1]at h;refine zZO ?_;refine zAa ?_;obtain⟨x3,hj,h⟩:=zAc h;refine zAo ⟨ofL [(4,.s (.bool x3))],fun _=>none,0⟩ ?_ (fun σ' hle=>?_)
 ·replace h:=hj;refine zAb [] [10] rfl ?_;obtain⟨y4,hy4,h⟩:=zAc h;refine⟨_,⟨_,_,_,_,hy4,rfl,rfl⟩,?_⟩
  intro b hb;cases b with
  | true =>
   replace h:=zAF hb.symm h;obtain⟨y5,hy5,h⟩:=zAc h;refine⟨_,⟨_,_,_,_,hy5,rfl,rfl⟩,?_⟩
   cases h;exact(Le.forget _ ⟨rfl,trivial⟩)
  | false =>
   replace h:=zAE hb.symm h;cases h;exact(Le.forget _ ⟨rfl,trivial⟩)
 ·refine zAj hle ?_;refine zAe ?_;have hy:=osi h;subst hy;exact fin0 rfl rfl
def zUY (n:Nat) (xs:List AV) (r:Ret):Prop:=∃ (a0:zRc) (a1:zRc) (y0:Bool),zFF n a0 a1=some y0/\xs=[.agg ((zAi a0).map .s),.agg ((zAi a1).map .s)]/\r = .val (.s (.bool y0))
def zP1:zAq:=zAw fun xs r=>∃ n,zUY n xs r
theorem zTP:PSound Tryz.prog 94 zP1:=by
 have gok:∀ f s,look? f [(129,zLO),(130,zIQ)]=some s->PSound Tryz.prog f s:=zAl (by
  simp only[List.forall_mem_cons]
  exact⟨zPP,zMM,by simp⟩)
 refine zAC tokW Tryz.call94 Tryz.func94 rfl (fun xs r h=>by obtain⟨n,_,_,_,_,rfl,_⟩:=h; show 2<=24; decide) 24 rfl ?_;rintro xs r w0 G0 ⟨n,⟨a1P,⟨a1W,a1X⟩,⟨a1Y,a1Z⟩⟩,⟨b2P,⟨b2W,b2X⟩,⟨b2Y,b2Z⟩⟩,y0,h,rfl,rfl⟩ _;rw[zFF]at h;refine zZO ?_;refine zAa ?_;obtain⟨x3,hj,h⟩:=zAc h;refine zAo ⟨ofL [(4,.s (.bool x3))],fun _=>none,0⟩ ?_ (fun σ' hle=>?_)
 ·replace h:=hj;refine zAb [] [10,17] rfl ?_;obtain⟨y4,hy4,h⟩:=zAc h;refine⟨_,⟨_,_,_,_,hy4,rfl,rfl⟩,?_⟩
  intro b hb;cases b with
  | true =>
   replace h:=zAF hb.symm h;obtain⟨y5,hy5,h⟩:=zAc h;refine⟨_,⟨_,_,_,_,hy5,rfl,rfl⟩,?_⟩
   intro b hb;cases b with
   | true =>
    replace h:=zAF hb.symm h;obtain⟨y6,hy6,h⟩:=zAc h;refine⟨_,⟨_,_,_,_,hy6,rfl,rfl⟩,?_⟩
    cases h;exact(Le.forget _ ⟨rfl,trivial⟩)
   | false =>
    replace h:=zAE hb.symm h;cases h;exact(Le.forget _ ⟨rfl,trivial⟩)
  | false =>
   replace h:=zAE hb.symm h;intro b hb;subst hb;cases h;exact(Le.forget _ ⟨rfl,trivial⟩)
 ·refine zAj hle ?_;refine zAe ?_;have hy:=osi h;subst hy;exact fin0 rfl rfl
def zMs (n:Nat) (xs:List AV) (r:Ret):Prop:=∃ (a0:List zRc) (a1:List zRc) (y0:Bool),zDu n a0 a1=some y0/\xs=[.s (.sl 5 ((List.map zAi) a0)),.s (.sl 5 ((List.map zAi) a1))]/\r = .val (.s (.bool y0))
def zHZ:zAq:=zAw fun xs r=>∃ n,zMs n xs r
theorem zL6:PSound Tryz.prog 45 zHZ:=by
 have gok:∀ f s,look? f [(94,zP1)]=some s->PSound Tryz.prog f s:=zAl (by
  simp only[List.forall_mem_cons]
  exact⟨zTP,by simp⟩)
 refine zAC tokW Tryz.call45 Tryz.func45 rfl (fun xs r h=>by obtain⟨n,_,_,_,_,rfl,_⟩:=h; show 2<=27; decide) 27 rfl ?_;rintro xs r w0 G0 ⟨n,a1,b2,y0,h,rfl,rfl⟩ _;rw[zDu]at h;refine zZO ?_;refine zAa ?_;refine zYZ [] [7,9] rfl ?_;intro n3 hn3;obtain rfl:(a1.length:Int)=n3:=(hn3.trans (congrArg (fun m:Nat=>(m:Int)) (rlen (fun _=>rfl) a1))).symm;intro n4 hn4;obtain rfl:(b2.length:Int)=n4:=(hn4.trans (congrArg (fun m:Nat=>(m:Int)) (rlen (fun _=>rfl) b2))).symm;refine zAh rfl h (fun hb h=>?_) (fun hb h=>?_)
 ·refine zZO ?_;refine zAe ?_;have hy:=osi h;subst hy;exact fin0 rfl rfl
 ·refine zAf ?_;refine zAa ?_;refine zZO ?_;show Tri ..;obtain⟨fl,hl,ho1⟩:=zAc h;refine zDe (fl:=fl) (fun z=>match z with | _=>⟨ofL [],fun _=>none,0⟩) ?_ (fun z σ' hz hle=>?_)
  ·refine zAk (zAD (X:=Nat×Int) (fun y=>match y with | (k,i5)=>⟨ofL [(0,.s (.sl 5 ((List.map zAi) a1))),(1,.s (.sl 5 ((List.map zAi) b2))),(5,.s (.int .i64 i5))],fun _=>none,0⟩) (fun y=>zAZ n a1 b2 y.1 y.2=some fl) (fun y=>y.1) (n,0) hl ?_ ?_)
   ·exact(Le.forget _ ⟨rfl,rfl,rfl,trivial⟩)
   ·rintro⟨k,i5⟩ h;cases k with
    | zero=>cases h
    | succ k =>
     replace h:zAZ n a1 b2 (k+1) i5=some fl:=h;rw[zAZ]at h;refine zAa ?_;refine zYZ [] [13] rfl ?_;intro n6 hn6;obtain rfl:(a1.length:Int)=n6:=(hn6.trans (congrArg (fun m:Nat=>(m:Int)) (rlen (fun _=>rfl) a1))).symm;refine zAh rfl h (fun hb h=>?_) (fun hb h=>?_)
     ·refine zAf ?_;refine zAa ?_;refine zAk ?_;refine zAa ?_;refine zBw [] [19,23] [] rfl (by decide +kernel) ?_;obtain⟨⟨e7P,⟨e7W,e7X⟩,⟨e7Y,e7Z⟩⟩,he7,h⟩:=zAc h;refine And.intro (zAt (fun _=>rfl) he7).1 ?_;intro r8 hr8;obtain rfl:[.sl 8 ((List.map zAn) e7P),.sl 1 ((List.map (irow .i64)) e7W),.sl 1 ((List.map (irow .i64)) e7X),.sl 1 ((List.map (irow .i64)) e7Y),.sl 1 ((List.map (irow .i64)) e7Z)]=r8:=(hr8.trans (zAt (fun _=>rfl) he7).2.1).symm
      obtain⟨⟨e9P,⟨e9W,e9X⟩,⟨e9Y,e9Z⟩⟩,he9,h⟩:=zAc h;refine And.intro (zAt (fun _=>rfl) he9).1 ?_;intro r10 hr10;obtain rfl:[.sl 8 ((List.map zAn) e9P),.sl 1 ((List.map (irow .i64)) e9W),.sl 1 ((List.map (irow .i64)) e9X),.sl 1 ((List.map (irow .i64)) e9Y),.sl 1 ((List.map (irow .i64)) e9Z)]=r10:=(hr10.trans (zAt (fun _=>rfl) he9).2.1).symm;obtain⟨y11,hy11,h⟩:=zAc h;refine⟨_,⟨_,_,_,_,hy11,rfl,rfl⟩,?_⟩
      refine zAh rfl h (fun hb h=>?_) (fun hb h=>?_)
      ·refine zZO ?_;refine zAe ?_;cases h;replace h:some _=some _:=ho1;have hy:=osi h;subst hy;exact fin0 rfl rfl
      ·refine zAf ?_;refine zZN ?_;refine⟨(k,IntKind.i64.wrap (i5+1)),h,(Le.forget _ ⟨rfl,rfl,rfl,trivial⟩),Nat.lt_succ_self k⟩
     ·refine zAJ ?_;cases h;exact⟨_,rfl,(Le.forget _ trivial)⟩
  ·subst hz;obtain _:=z;replace h:=ho1;refine zAj hle ?_;refine zZO ?_;refine zAe ?_;have hy:=osi h;subst hy;exact fin0 rfl rfl
def zUZ (n:Nat) (xs:List AV) (r:Ret):Prop:=∃ (a0:(List UInt8×Nd×List zRc×Int)) (a1:(List UInt8×Nd×List zRc×Int)) (y0:Bool),zDt n a0 a1=some y0/\xs=[.agg ((zAA a0).map .s),.agg ((zAA a1).map .s)]/\r = .val (.s (.bool y0))
def zP2:zAq:=zAw fun xs r=>∃ n,zUZ n xs r
theorem zTQ:PSound Tryz.prog 19 zP2:=by
 have gok:∀ f s,look? f [(16,zN7),(45,zHZ)]=some s->PSound Tryz.prog f s:=zAl (by
  simp only[List.forall_mem_cons]
  exact⟨zSP,zL6,by simp⟩)
 refine zAC tokW Tryz.call19 Tryz.func19 rfl (fun xs r h=>by obtain⟨n,_,_,_,_,rfl,_⟩:=h; show 2<=31; decide) 31 rfl ?_;rintro xs r w0 G0 ⟨n,⟨a1U,⟨a1Q,a1R,a1S,a1T⟩,a1H,a1V⟩,⟨b2U,⟨b2Q,b2R,b2S,b2T⟩,b2H,b2V⟩,y0,h,rfl,rfl⟩ _;rw[zDt]at h;refine zZO ?_;refine zAa ?_;obtain⟨x3,hj,h⟩:=zAc h;refine zAo ⟨ofL [(4,.s (.bool x3))],fun _=>none,0⟩ ?_ (fun σ' hle=>?_)
 ·replace h:=hj;refine zAb [] [10,17,24] rfl ?_;intro b hb;cases b with
  | true =>
   replace h:=zAF hb.symm h;intro b hb;cases b with
   | true =>
    replace h:=zAF hb.symm h;obtain⟨y4,hy4,h⟩:=zAc h;refine⟨_,⟨_,_,_,_,hy4,rfl,rfl⟩,?_⟩
    intro b hb;cases b with
    | true =>
     replace h:=zAF hb.symm h;obtain⟨y5,hy5,h⟩:=zAc h;refine⟨_,⟨_,_,_,_,hy5,rfl,rfl⟩,?_⟩
     cases h;exact(Le.forget _ ⟨rfl,trivial⟩)
    | false =>
     replace h:=zAE hb.symm h;cases h;exact(Le.forget _ ⟨rfl,trivial⟩)
   | false =>
    replace h:=zAE hb.symm h;intro b hb;subst hb;cases h;exact(Le.forget _ ⟨rfl,trivial⟩)
  | false =>
   replace h:=zAE hb.symm h;intro b hb;subst hb;intro b hb;subst hb;cases h;exact(Le.forget _ ⟨rfl,trivial⟩)
 ·refine zAj hle ?_;refine zAe ?_;have hy:=osi h;subst hy;exact fin0 rfl rfl
def zHX (n:Nat) (xs:List AV) (r:Ret):Prop:=∃ (a0:Nd) (a1:Int) (y0:Int),zEr n a0 a1=some y0/\xs=[.agg ((Nd.enc a0).map .s),.s (.int .i64 a1)]/\r = .val (.s (.int .i64 y0))
theorem zRJ (n:Nat) (ih:PSound Tryz.prog 55 (zAw (zHX n))):PSound Tryz.prog 55 (zAw (zHX (n+1))):=by
 have gok:∀ f s,look? f [(55,zAw (zHX n))]=some s->PSound Tryz.prog f s:=zAl (by
  simp only[List.forall_mem_cons]
  exact⟨ih,by simp⟩)
 refine zAC tokW Tryz.call55 Tryz.func55 rfl (fun xs r h=>by obtain⟨_,_,_,_,rfl,_⟩:=h; show 2<=27; decide) 27 rfl ?_;rintro xs r w0 G0 ⟨⟨n1A,n1B,n1F,n1E⟩,most2,y0,h,rfl,rfl⟩ _;rw[zEr]at h;refine zZO ?_;refine zZO ?_;refine zAa ?_;refine zZO ?_;show Tri ..;obtain⟨most5,hl,h⟩:=zAc h;refine zAo ⟨ofL [(1,.s (.int .i64 most5))],fun _=>none,0⟩ ?_ (fun σ' hle=>?_)
 ·refine zAk (zAD (X:=Nat×Int×Int) (fun y=>match y with | (k,most3,i4)=>⟨ofL [(1,.s (.int .i64 most3)),(2,.s (.pt [.int .i64 n1A,.str n1B,.int .i64 n1F,.sl 4 (Nd.encs n1E)])),(5,.s (.int .i64 i4))],fun _=>none,0⟩) (fun y=>zC7 (zEr n) n1E y.1 y.2.1 y.2.2=some most5) (fun y=>y.1) (n,IntKind.i64.wrap (most2 - 1),0) hl ?_ ?_)
  ·exact(Le.forget _ ⟨rfl,rfl,rfl,trivial⟩)
  ·rintro⟨k,most3,i4⟩ h;cases k with
   | zero=>cases h
   | succ k =>
    replace h:zC7 (zEr n) n1E (k+1) most3 i4=some most5:=h;rw[zC7]at h;refine zAa ?_;refine zAa ?_;obtain⟨x6,hj,h⟩:=zAc h;refine zAo ⟨ofL [(1,.s (.int .i64 most3)),(2,.s (.pt [.int .i64 n1A,.str n1B,.int .i64 n1F,.sl 4 (Nd.encs n1E)])),(5,.s (.int .i64 i4)),(16,.s (.bool x6))],fun _=>none,0⟩ ?_ (fun σ' hle=>?_)
    ·replace h:=hj;refine zAb [] [11,13] rfl ?_;intro n7 hn7;obtain rfl:(n1E.length:Int)=n7:=(hn7.trans (congrArg (fun m:Nat=>(m:Int)) (rlen Nd.encs_eq n1E))).symm;intro b hb;cases b with
     | true =>
      replace h:=zAF hb.symm h;cases h;exact(Le.forget _ ⟨rfl,rfl,rfl,rfl,trivial⟩)
     | false =>
      replace h:=zAE hb.symm h;cases h;exact(Le.forget _ ⟨rfl,rfl,rfl,rfl,trivial⟩)
    ·refine zAj hle ?_;refine zAh rfl h (fun hb h=>?_) (fun hb h=>?_)
     ·refine zAf ?_;refine zAa ?_;refine zAk ?_;refine zAb [] [22] rfl ?_;obtain⟨⟨e8A,e8B,e8F,e8E⟩,he8,h⟩:=zAc h;refine And.intro (zAt Nd.encs_eq he8).1 ?_;intro r9 hr9;obtain rfl:[.int .i64 e8A,.str e8B,.int .i64 e8F,.sl 4 (Nd.encs e8E)]=r9:=(hr9.trans (zAt Nd.encs_eq he8).2.1).symm;obtain⟨y10,hy10,h⟩:=zAc h;refine⟨_,⟨_,_,_,hy10,rfl,rfl⟩,?_⟩
      refine zZN ?_;refine⟨(k,y10,IntKind.i64.wrap (i4+1)),h,(Le.forget _ ⟨rfl,rfl,rfl,trivial⟩),Nat.lt_succ_self k⟩
     ·refine zAJ ?_;cases h;exact(Le.forget _ ⟨rfl,trivial⟩)
 ·refine zAj hle ?_;refine zZO ?_;refine zAe ?_;have hy:=osi h;subst hy;exact fin0 rfl rfl
theorem zR7:∀ n,PSound Tryz.prog 55 (zAw (zHX n)):=by
 intro n
 induction n with
 | zero=>exact zEh Tryz.call55 (fun xs r h=>by obtain⟨_,_,_,h,_⟩:=h; cases h)
 | succ n ih=>exact zRJ n ih
def zPY:zAq:=zAw fun xs r=>∃ n,zHX n xs r
theorem zTM:PSound Tryz.prog 55 zPY:=zE2 zR7
def zVH (n:Nat) (xs:List AV) (r:Ret):Prop:=∃ (a0:Nd) (a1:Int) (y0:Bool),zIf n a0 a1=some y0/\xs=[.agg ((Nd.enc a0).map .s),.s (.int .i64 a1)]/\r = .val (.s (.bool y0))
def zN8:zAq:=zAw fun xs r=>∃ n,zVH n xs r
theorem zQo:PSound Tryz.prog 25 zN8:=by
 have gok:∀ f s,look? f [(55,zPY)]=some s->PSound Tryz.prog f s:=zAl (by
  simp only[List.forall_mem_cons]
  exact⟨zTM,by simp⟩)
 refine zAC tokW Tryz.call25 Tryz.func25 rfl (fun xs r h=>by obtain⟨n,_,_,_,_,rfl,_⟩:=h; show 2<=9; decide) 9 rfl ?_;rintro xs r w0 G0 ⟨n,⟨n1A,n1B,n1F,n1E⟩,most2,y0,h,rfl,rfl⟩ _;rw[zIf]at h;refine zZO ?_;refine zZO ?_;obtain⟨y3,hy3,h⟩:=zAc h;refine⟨_,⟨_,_,_,_,hy3,rfl,rfl⟩,?_⟩
 refine zAe ?_;have hy:=osi h;subst hy;exact fin0 rfl rfl
def zVI (n:Nat) (xs:List AV) (r:Ret):Prop:=∃ (a0:zO8) (y0:Bool),zJp n a0=some y0/\xs=[.agg ((zAn a0).map .s)]/\r = .val (.s (.bool y0))
def zR2:zAq:=zAw fun xs r=>∃ n,zVI n xs r
theorem zVm:PSound Tryz.prog 24 zR2:=by
 have gok:∀ f s,look? f [(54,zN9),(25,zN8)]=some s->PSound Tryz.prog f s:=zAl (by
  simp only[List.forall_mem_cons]
  exact⟨zSQ,zQo,by simp⟩)
 refine zAC tokW Tryz.call24 Tryz.func24 rfl (fun xs r h=>by obtain⟨n,_,_,_,rfl,_⟩:=h; show 1<=13; decide) 13 rfl ?_;rintro xs r w0 G0 ⟨n,⟨op1A,op1I,op1J,op1L,op1G,op1K,op1M,op1B⟩,y0,h,rfl,rfl⟩ _;rw[zJp]at h;refine zZO ?_;refine zAa ?_;obtain⟨x2,hj,h⟩:=zAc h;refine zAo ⟨ofL [(2,.s (.bool x2))],fun _=>none,0⟩ ?_ (fun σ' hle=>?_)
 ·replace h:=hj;refine zAb [] [7,10] rfl ?_;obtain⟨⟨y3A,y3B,y3F,y3E⟩,hy3,h⟩:=zAc h;refine⟨_,⟨_,_,hy3,rfl,rfl⟩,?_⟩
  obtain⟨y4,hy4,h⟩:=zAc h;refine⟨_,⟨_,_,_,_,hy4,rfl,rfl⟩,?_⟩
  intro b hb;cases b with
  | true =>
   replace h:=zAF hb.symm h;intro n5 hn5;obtain rfl:(op1I.length:Int)=n5:=(hn5.trans (congrArg (fun m:Nat=>(m:Int)) (rlen (fun _=>rfl) op1I))).symm;cases h;exact(Le.forget _ ⟨rfl,trivial⟩)
  | false =>
   replace h:=zAE hb.symm h;cases h;exact(Le.forget _ ⟨rfl,trivial⟩)
 ·refine zAj hle ?_;refine zAe ?_;have hy:=osi h;subst hy;exact fin0 rfl rfl
def zVJ (n:Nat) (xs:List AV) (r:Ret):Prop:=∃ (a0:(List UInt8×Nd×List zRc×Int)) (y0:Bool),zJs n a0=some y0/\xs=[.agg ((zAA a0).map .s)]/\r = .val (.s (.bool y0))
def zR3:zAq:=zAw fun xs r=>∃ n,zVJ n xs r
theorem zVn:PSound Tryz.prog 9 zR3:=by
 have gok:∀ f s,look? f [(24,zR2),(25,zN8)]=some s->PSound Tryz.prog f s:=zAl (by
  simp only[List.forall_mem_cons]
  exact⟨zVm,zQo,by simp⟩)
 refine zAC tokW Tryz.call9 Tryz.func9 rfl (fun xs r h=>by obtain⟨n,_,_,_,rfl,_⟩:=h; show 1<=73; decide) 73 rfl ?_;rintro xs r w0 G0 ⟨n,⟨a1U,⟨a1Q,a1R,a1S,a1T⟩,a1H,a1V⟩,y0,h,rfl,rfl⟩ _;rw[zJs]at h;refine zZO ?_;refine zAa ?_;refine zZO ?_;show Tri ..;obtain⟨fl,hl,ho1⟩:=zAc h
 refine zDe (fl:=fl) (fun z=>match z with | _=>⟨ofL [(1,.s (.pt [.str a1U,.int .i64 a1Q,.str a1R,.int .i64 a1S,.sl 4 (Nd.encs a1T),.sl 5 ((List.map zAi) a1H),.int .i64 a1V]))],fun _=>none,0⟩) ?_ (fun z σ' hz hle=>?_)
 ·refine zAk (zAD (X:=Nat×Int) (fun y=>match y with | (k,x2)=>⟨ofL [(1,.s (.pt [.str a1U,.int .i64 a1Q,.str a1R,.int .i64 a1S,.sl 4 (Nd.encs a1T),.sl 5 ((List.map zAi) a1H),.int .i64 a1V])),(3,.s (.int .i64 x2))],fun _=>none,0⟩) (fun y=>zDz n a1H y.1 y.2=some fl) (fun y=>y.1) (n,0) hl ?_ ?_)
  ·exact(Le.forget _ ⟨rfl,rfl,trivial⟩)
  ·rintro⟨k,x2⟩ h;cases k with
   | zero=>cases h
   | succ k =>
    replace h:zDz n a1H (k+1) x2=some fl:=h;rw[zDz]at h;refine zAa ?_;refine zYZ [] [9] rfl ?_;intro n3 hn3;obtain rfl:(a1H.length:Int)=n3:=(hn3.trans (congrArg (fun m:Nat=>(m:Int)) (rlen (fun _=>rfl) a1H))).symm;refine zAh rfl h (fun hb h=>?_) (fun hb h=>?_)
    ·refine zAf ?_;refine zAa ?_;refine zAk ?_;refine zYZ [4] [16] rfl ?_;obtain⟨⟨e4P,⟨e4W,e4X⟩,⟨e4Y,e4Z⟩⟩,he4,h⟩:=zAc h;refine And.intro (zAt (fun _=>rfl) he4).1 ?_;intro r5 hr5;obtain rfl:[.sl 8 ((List.map zAn) e4P),.sl 1 ((List.map (irow .i64)) e4W),.sl 1 ((List.map (irow .i64)) e4X),.sl 1 ((List.map (irow .i64)) e4Y),.sl 1 ((List.map (irow .i64)) e4Z)]=r5:=(hr5.trans (zAt (fun _=>rfl) he4).2.1).symm;show Tri ..
     refine zAj (Le.giveBox 0 [.sl 8 ((List.map zAn) e4P),.sl 1 ((List.map (irow .i64)) e4W),.sl 1 ((List.map (irow .i64)) e4X),.sl 1 ((List.map (irow .i64)) e4Y),.sl 1 ((List.map (irow .i64)) e4Z)] rfl rfl) ?_;refine zAa ?_;refine zAa ?_;obtain⟨x6,hj,h⟩:=zAc h
     refine zAo ⟨ofL [(1,.s (.pt [.str a1U,.int .i64 a1Q,.str a1R,.int .i64 a1S,.sl 4 (Nd.encs a1T),.sl 5 ((List.map zAi) a1H),.int .i64 a1V])),(3,.s (.int .i64 x2)),(4,.s (.pt [.sl 8 ((List.map zAn) e4P),.sl 1 ((List.map (irow .i64)) e4W),.sl 1 ((List.map (irow .i64)) e4X),.sl 1 ((List.map (irow .i64)) e4Y),.sl 1 ((List.map (irow .i64)) e4Z)])),(43,.s (.bool x6))],fun _=>none,0⟩ ?_ (fun σ' hle=>?_)
     ·replace h:=hj;refine zAb [] [20,22,26,30,35,40] rfl ?_;intro n7 hn7;obtain rfl:(e4P.length:Int)=n7:=(hn7.trans (congrArg (fun m:Nat=>(m:Int)) (rlen (fun _=>rfl) e4P))).symm;intro b hb;cases b with
      | true =>
       replace h:=zAF hb.symm h;cases h;exact(Le.rnm [] _ [] 0 ⟨rfl,rfl,rfl,rfl,trivial⟩ trivial)
      | false =>
       replace h:=zAE hb.symm h;intro n8 hn8;obtain rfl:(e4W.length:Int)=n8:=(hn8.trans (congrArg (fun m:Nat=>(m:Int)) (rlen (fun _=>rfl) e4W))).symm;intro n9 hn9;obtain rfl:(e4X.length:Int)=n9:=(hn9.trans (congrArg (fun m:Nat=>(m:Int)) (rlen (fun _=>rfl) e4X))).symm;intro n10 hn10;obtain rfl:(e4Y.length:Int)=n10:=(hn10.trans (congrArg (fun m:Nat=>(m:Int)) (rlen (fun _=>rfl) e4Y))).symm;intro n11 hn11;obtain rfl:(e4Z.length:Int)=n11:=(hn11.trans (congrArg (fun m:Nat=>(m:Int)) (rlen (fun _=>rfl) e4Z))).symm;cases h
       exact(Le.rnm [] _ [] 0 ⟨rfl,rfl,rfl,rfl,trivial⟩ trivial)
     ·refine zAj hle ?_;refine zAh rfl h (fun hb h=>?_) (fun hb h=>?_)
      ·refine zZO ?_;refine zAe ?_;cases h;replace h:some _=some _:=ho1;have hy:=osi h;subst hy;exact fin0 rfl rfl
      ·refine zAf ?_;refine zZO ?_;show Tri ..;obtain⟨fl,hl,ho2⟩:=zAc h;refine zDe (fl:=fl) (fun z=>match z with | _=>⟨ofL [(1,.s (.pt [.str a1U,.int .i64 a1Q,.str a1R,.int .i64 a1S,.sl 4 (Nd.encs a1T),.sl 5 ((List.map zAi) a1H),.int .i64 a1V])),(3,.s (.int .i64 x2))],fun _=>none,0⟩) ?_ (fun z σ' hz hle=>?_)
       ·refine zAk (zAD (X:=Nat×Int) (fun y=>match y with | (k,x12)=>⟨ofL [(1,.s (.pt [.str a1U,.int .i64 a1Q,.str a1R,.int .i64 a1S,.sl 4 (Nd.encs a1T),.sl 5 ((List.map zAi) a1H),.int .i64 a1V])),(3,.s (.int .i64 x2)),(4,.s (.pt [.sl 8 ((List.map zAn) e4P),.sl 1 ((List.map (irow .i64)) e4W),.sl 1 ((List.map (irow .i64)) e4X),.sl 1 ((List.map (irow .i64)) e4Y),.sl 1 ((List.map (irow .i64)) e4Z)])),(5,.s (.int .i64 x12))],fun _=>none,0⟩) (fun y=>zEf n e4P y.1 y.2=some fl) (fun y=>y.1) (n,0) hl ?_ ?_)
        ·exact(Le.forget _ ⟨rfl,rfl,rfl,rfl,trivial⟩)
        ·rintro⟨k,x12⟩ h;cases k with
         | zero=>cases h
         | succ k =>
          replace h:zEf n e4P (k+1) x12=some fl:=h;rw[zEf]at h;refine zAa ?_;refine zYZ [] [47] rfl ?_;intro n13 hn13;obtain rfl:(e4P.length:Int)=n13:=(hn13.trans (congrArg (fun m:Nat=>(m:Int)) (rlen (fun _=>rfl) e4P))).symm;refine zAh rfl h (fun hb h=>?_) (fun hb h=>?_)
          ·refine zAf ?_;refine zAa ?_;refine zAk ?_;refine zYZ [] [54] rfl ?_;obtain⟨⟨e14A,e14I,e14J,e14L,e14G,e14K,e14M,e14B⟩,he14,h⟩:=zAc h;refine And.intro (zAt (fun _=>rfl) he14).1 ?_;intro r15 hr15;obtain rfl:[.int .i64 e14A,.sl 1 ((List.map (irow .i64)) e14I),.int .i64 e14J,.int .i64 e14L,.sl 4 (Nd.encs e14G),.int .i64 e14K,.str e14M,.str e14B]=r15:=(hr15.trans (zAt (fun _=>rfl) he14).2.1).symm;obtain⟨y16,hy16,h⟩:=zAc h;refine⟨_,⟨_,_,_,hy16,rfl,rfl⟩,?_⟩
           refine zAh rfl h (fun hb h=>?_) (fun hb h=>?_)
           ·refine zZO ?_;refine zAe ?_;cases h;replace h:some _=some _:=ho2;cases h;replace h:some _=some _:=ho1;have hy:=osi h;subst hy;exact fin0 rfl rfl
           ·refine zAf ?_;refine zZN ?_;refine⟨(k,IntKind.i64.wrap (x12+1)),h,(Le.forget _ ⟨rfl,rfl,rfl,rfl,trivial⟩),Nat.lt_succ_self k⟩
          ·refine zAJ ?_;cases h;exact⟨_,rfl,(Le.forget _ ⟨rfl,rfl,trivial⟩)⟩
       ·subst hz;obtain _:=z;replace h:=ho2;refine zAj hle ?_;refine zZN ?_;refine⟨(k,IntKind.i64.wrap (x2+1)),h,(Le.forget _ ⟨rfl,rfl,trivial⟩),Nat.lt_succ_self k⟩
    ·refine zAJ ?_;cases h;exact⟨_,rfl,(Le.forget _ ⟨rfl,trivial⟩)⟩
 ·subst hz;obtain _:=z;replace h:=ho1;refine zAj hle ?_;refine zAa ?_;obtain⟨x17,hj,h⟩:=zAc h;refine zAo ⟨ofL [(2,.s (.bool x17))],fun _=>none,0⟩ ?_ (fun σ' hle=>?_)
  ·replace h:=hj;refine zAb [] [61,64,67] rfl ?_;obtain⟨y18,hy18,h⟩:=zAc h;refine⟨_,⟨_,_,_,_,hy18,rfl,rfl⟩,?_⟩
   intro b hb;cases b with
   | true =>
    replace h:=zAF hb.symm h;intro n19 hn19;obtain rfl:(a1H.length:Int)=n19:=(hn19.trans (congrArg (fun m:Nat=>(m:Int)) (rlen (fun _=>rfl) a1H))).symm;intro b hb;cases b with
    | true =>
     replace h:=zAF hb.symm h;cases h;exact(Le.forget _ ⟨rfl,trivial⟩)
    | false =>
     replace h:=zAE hb.symm h;cases h;exact(Le.forget _ ⟨rfl,trivial⟩)
   | false =>
    replace h:=zAE hb.symm h;intro b hb;subst hb;cases h;exact(Le.forget _ ⟨rfl,trivial⟩)
  ·refine zAj hle ?_;refine zAe ?_;have hy:=osi h;subst hy;exact fin0 rfl rfl
def zMq (n:Nat) (xs:List AV) (r:Ret):Prop:=∃ (a0:(List UInt8×Nd×List zRc×Int)) (a1:List UInt8) (y0:Bool),zCE n a0 a1=some y0/\xs=[.agg ((zAA a0).map .s),.s (.sl 1 ((List.map brow) a1))]/\r = .val (.s (.bool y0))
def zMu:zAq:=zAw fun xs r=>∃ n,zMq n xs r
theorem zL5:PSound Tryz.prog 6 zMu:=by
 have gok:∀ f s,look? f [(8,zN4),(9,zR3),(10,zKV),(17,zN3),(19,zP2)]=some s->PSound Tryz.prog f s:=zAl (by
  simp only[List.forall_mem_cons]
  exact⟨zSM,zVn,zNi,zSL,zTQ,by simp⟩)
 refine zAC tokW Tryz.call6 Tryz.func6 rfl (fun xs r h=>by obtain⟨n,_,_,_,_,rfl,_⟩:=h; show 2<=70; decide) 70 rfl ?_;rintro xs r w0 G0 ⟨n,⟨a1U,⟨a1Q,a1R,a1S,a1T⟩,a1H,a1V⟩,a2,y0,h,rfl,rfl⟩ _;rw[zCE]at h;refine zZO ?_;refine zAa ?_;refine zAa ?_;obtain⟨x3,hj,h⟩:=zAc h
 refine zAo ⟨ofL [(1,.s (.sl 1 ((List.map brow) a2))),(2,.s (.pt [.str a1U,.int .i64 a1Q,.str a1R,.int .i64 a1S,.sl 4 (Nd.encs a1T),.sl 5 ((List.map zAi) a1H),.int .i64 a1V])),(24,.s (.bool x3))],fun _=>none,0⟩ ?_ (fun σ' hle=>?_)
 ·replace h:=hj;refine zAb [] [15,20,22] rfl ?_;obtain⟨y4,hy4,h⟩:=zAc h;refine⟨_,⟨_,_,hy4,rfl,rfl⟩,?_⟩
  intro b hb;cases b with
  | true =>
   replace h:=zAF hb.symm h;intro b hb;subst hb;cases h;exact(Le.forget _ ⟨rfl,rfl,rfl,trivial⟩)
  | false =>
   replace h:=zAE hb.symm h;obtain⟨y5,hy5,h⟩:=zAc h;refine⟨_,⟨_,_,_,hy5,rfl,rfl⟩,?_⟩
   intro b hb;cases b with
   | true =>
    replace h:=zAF hb.symm h;cases h;exact(Le.forget _ ⟨rfl,rfl,rfl,trivial⟩)
   | false =>
    replace h:=zAE hb.symm h;intro n6 hn6;obtain rfl:(a2.length:Int)=n6:=(hn6.trans (congrArg (fun m:Nat=>(m:Int)) (rlen (fun _=>rfl) a2))).symm;cases h;exact(Le.forget _ ⟨rfl,rfl,rfl,trivial⟩)
 ·refine zAj hle ?_;refine zAh rfl h (fun hb h=>?_) (fun hb h=>?_)
  ·refine zZO ?_;obtain⟨y7,hy7,h⟩:=zAc h;refine⟨_,⟨_,_,hy7,rfl,rfl⟩,?_⟩
   refine zAe ?_;have hy:=osi h;subst hy;exact fin0 rfl rfl
  ·refine zAf ?_;refine zAa ?_;refine zZO ?_;obtain⟨⟨y8,y9⟩,hy8,h⟩:=zAc h;refine⟨_,⟨_,_,_,_,hy8,rfl,rfl⟩,?_⟩
   refine zZO ?_;show Tri ..;obtain⟨fl,hj,ho1⟩:=zAc h;refine zDe (fl:=fl) (fun z=>match z with | _=>⟨ofL [(1,.s (.sl 1 ((List.map brow) a2)))],fun _=>none,0⟩) ?_ (fun z σ' hz hle=>?_)
   ·replace h:=hj;refine zAh rfl h (fun hb h=>?_) (fun hb h=>?_)
    ·refine zYZ [7] [] rfl ?_;obtain⟨⟨⟨y10U,⟨y10Q,y10R,y10S,y10T⟩,y10H,y10V⟩,y11⟩,hy10,h⟩:=zAc h;refine⟨_,⟨_,_,_,_,hy10,rfl,rfl⟩,?_⟩
     refine zAj (Le.giveBox 0 [.str y10U,.int .i64 y10Q,.str y10R,.int .i64 y10S,.sl 4 (Nd.encs y10T),.sl 5 ((List.map zAi) y10H),.int .i64 y10V] rfl rfl) ?_;refine zAa ?_;obtain⟨x12,hj,h⟩:=zAc h;refine zAo ⟨ofL [(1,.s (.sl 1 ((List.map brow) a2))),(45,.s (.bool x12))],fun _=>none,0⟩ ?_ (fun σ' hle=>?_)
     ·replace h:=hj;refine zAb [] [40] rfl ?_;intro b hb;cases b with
      | true =>
       replace h:=zAF hb.symm h;cases h;exact(Le.rnm [] _ [] 0 ⟨rfl,rfl,trivial⟩ trivial)
      | false =>
       replace h:=zAE hb.symm h;obtain⟨y13,hy13,h⟩:=zAc h;refine⟨_,⟨_,_,_,_,hy13,rfl,rfl⟩,?_⟩
       cases h;exact(Le.rnm [] _ [] 0 ⟨rfl,rfl,trivial⟩ trivial)
     ·refine zAj hle ?_;refine zAh rfl h (fun hb h=>?_) (fun hb h=>?_)
      ·refine zZO ?_;refine zAe ?_;cases h;replace h:some _=some _:=ho1;have hy:=osi h;subst hy;exact fin0 rfl rfl
      ·refine zAf ?_;cases h;exact⟨_,rfl,(Le.forget _ ⟨rfl,trivial⟩)⟩
    ·refine zAf ?_;cases h;exact⟨_,rfl,(Le.forget _ ⟨rfl,trivial⟩)⟩
   ·subst hz;obtain _:=z;replace h:=ho1;refine zAj hle ?_;refine zYZ [9] [] rfl ?_;obtain⟨⟨⟨y14U,⟨y14Q,y14R,y14S,y14T⟩,y14H,y14V⟩,y15⟩,hy14,h⟩:=zAc h;refine⟨_,⟨_,_,_,_,hy14,rfl,rfl⟩,?_⟩
    refine zAj (Le.giveBox 0 [.str y14U,.int .i64 y14Q,.str y14R,.int .i64 y14S,.sl 4 (Nd.encs y14T),.sl 5 ((List.map zAi) y14H),.int .i64 y14V] rfl rfl) ?_;refine zAa ?_;refine zZO ?_;refine zAh rfl h (fun hb h=>?_) (fun hb h=>?_)
    ·refine zZO ?_;obtain⟨y16,hy16,h⟩:=zAc h;refine⟨_,⟨_,_,_,_,hy16,rfl,rfl⟩,?_⟩
     refine zAe ?_;have hy:=osi h;subst hy;exact fin0 rfl rfl
    ·refine zAf ?_;refine zZO ?_;obtain⟨⟨y17,y18⟩,hy17,h⟩:=zAc h;refine⟨_,⟨_,_,_,_,hy17,rfl,rfl⟩,?_⟩
     refine zAa ?_;obtain⟨x19,hj,h⟩:=zAc h;refine zAo ⟨ofL [(4,.s (.bool x19))],fun _=>none,0⟩ ?_ (fun σ' hle=>?_)
     ·replace h:=hj;refine zAb [] [63,65,67] rfl ?_;intro b hb;cases b with
      | true =>
       replace h:=zAF hb.symm h;refine And.intro (show List.map brow y17=((List.map brow y17).map zHv).map brow from by rw[zEB]) ?_;intro s20 hs20;obtain rfl:y17=s20:=(hs20.trans (zEB _)).symm;refine And.intro (show List.map brow a2=((List.map brow a2).map zHv).map brow from by rw[zEB]) ?_;intro s21 hs21;obtain rfl:a2=s21:=(hs21.trans (zEB _)).symm;cases h;exact(Le.rnm [] _ [] 0 ⟨rfl,trivial⟩ trivial)
      | false =>
       replace h:=zAE hb.symm h;cases h;exact(Le.rnm [] _ [] 0 ⟨rfl,trivial⟩ trivial)
     ·refine zAj hle ?_;refine zAe ?_;have hy:=osi h;subst hy;exact fin0 rfl rfl
theorem zXU {n:Nat}{ss:List S} (h:Typed T n 24 ss):∃ t:Nd,ss=t.enc/\t.rng :=
 zQG (T:=T) (e:=24) (s:=22) (ki:=3) (st:=9) rfl rfl rfl rfl rfl rfl rfl rfl rfl n h
theorem zUb {n t:Nat}{ss:List S} (h:Typed T n 22 ss):∃ l:List Nd,ss=[.sl 4 (Nd.encs l)]/\Nd.rngs l:=by
 obtain⟨m,rows,rfl,rfl,_,hr⟩:=zFL (T:=T) (e:=24) rfl rfl h;obtain⟨ks,rfl,hks⟩:=zKX (f:=Nd.enc) (q:=Nd.rng) (l:=rows) fun r hr'=>zQG (T:=T) (e:=24) (s:=22) (ki:=3) (st:=9) rfl rfl rfl rfl rfl rfl rfl rfl rfl m (hr r hr')
 exact⟨ks,by rw[Nd.encs_eq]; rfl,Nd.rngAll hks⟩
theorem zQZ {α:Type}{f:α->List S}:∀ {l:List α}{x:α},x∈l->zCS (f x)<=zD1 (l.map f)
 | y::l,x,h=>by
  simp only[List.map_cons,zD1]
  rcases List.mem_cons.1 h with rfl | h
  ·omega
  ·have:=zQZ (f:=f) h; omega
theorem zYH {l:List zO8}:l.length<=zD1 (l.map zAn):=by
 have:=zLS (rows:=l.map zAn) fun r hr=>by
  obtain⟨o,_,rfl⟩:=List.mem_map.1 hr;simp only[zAn,List.length_cons]
  omega
 simpa using this
theorem zAB {φ:Prop} [Decidable φ] (h:φ):decide φ=true:=decide_eq_true h
theorem zAx {φ:Prop} [Decidable φ] (h:¬ φ):decide φ=false:=decide_eq_false h
theorem zKK {F:Nd->Option Int}{ks:List Nd} (hF:∀ v∈ks,F v=some (v.cnt:Int)) :
  ∀ (k i:Nat) (o:Nat),ks.length - i<k->i<=ks.length->o+Nd.cnts (ks.drop i)<=1073741824->ks.length<=1073741824->zFP F ks k (o:Int) (i:Int)=some ((o+Nd.cnts (ks.drop i):Nat):Int)
 | 0,_,_,h,_,_,_=>by omega
 | k+1,i,o,hk,hi,ho,hl=>by
  unfold zFP
  by_cases h:i<ks.length
  ·rw[zAB (Int.ofNat_lt.2 h),cond_true,zAv h]
   have hd:=Nd.cnts_drop h;have hf:=hF _ (List.getElem_mem h)
   rcases e:ks[i] with ⟨a,b,c,d⟩
   rw[e]at hd hf;simp only[obs,hf]
   rw[wrap64_in (by omega) (by omega),zAy (by omega),← Int.natCast_add,zKK hF k (i+1) _ (by omega) (by omega) (by omega) hl,hd]
   congr 2; omega
  ·rw[zAx (by omega),cond_false]
   obtain rfl:i=ks.length :=(by omega);simp[Nd.cnts]
theorem zNk:∀ (n:Nat) (t:Nd),t.cnt<n->t.cnt<=67108864->zG6 n t=some (t.cnt:Int)
 | 0,_,h,_=>by omega
 | n+1,.mk a b c ks,h,hb=>by
  simp only[Nd.cnt]at h hb;have hl:=Nd.cnts_len ks;unfold zG6;have:=zKK (F:=zG6 n) (ks:=ks) (fun v hv=>zNk n v (by have:=Nd.cnts_mem hv; omega) (by have:=Nd.cnts_mem hv; omega)) n 0 1 (by omega) (by omega) (by simp; omega) (by omega)
  rw[show((0:Nat):Int)=0 from rfl,show((1:Nat):Int)=1 from rfl]at this;rw[this]
  simp only[obs,List.drop_zero,Nd.cnt]
  congr 2; omega
theorem zSA {F:Nd->Int->Option Int}{ks:List Nd}{b:Nat} (hF:∀ (v:Nd) (m:Nat),m<=b->∃ r,F v (m:Int)=some r/\-1<=r/\r<m/\(0<=r->r+v.cnt=m)) :
  ∀ (k i:Nat) (m:Int),m+1<k->-1<=m->m<=b->i<=ks.length->(i:Int)+m<4611686018427387904->∃ r,zC7 F ks k m (i:Int)=some r/\-1<=r/\r<=m/\(0<=r->r+Nd.cnts (ks.drop i)=m)
 | 0,_,_,h,_,_,_,_=>by omega
 | k+1,i,m,hk,hm,hb,hi,hx=>by
  unfold zC7
  by_cases h:i<ks.length
  ·rw[zAB (Int.ofNat_lt.2 h),cond_true]
   simp only[obs]
   by_cases h0:0<=m
   ·rw[zAB h0,cond_true,zAv h]
    have hd:=Nd.cnts_drop h;rcases e:ks[i] with ⟨e1,e2,e3,e4⟩
    rw[e]at hd;simp only[obs]
    obtain⟨m',rfl⟩:=Int.eq_ofNat_of_zero_le h0;obtain⟨r,h1,h2,h3,h4⟩:=hF (.mk e1 e2 e3 e4) m' (by omega)
    rw[h1,obs,zAy (by omega)]
    obtain⟨r',g1,g2,g3,g4⟩:=zSA (ks:=ks) hF k (i+1) r (by omega) h2 (by omega) (by omega) (by omega)
    exact⟨r',g1,g2,by omega,fun g=>by have:=g4 g; have:=h4 (by omega); omega⟩
   ·rw[zAx h0,cond_false]
    exact⟨m,rfl,hm,Int.le_refl _,fun g=>by omega⟩
  ·rw[zAx (by omega),cond_false]
   simp only[obs,cond_false]
   obtain rfl:i=ks.length :=(by omega);exact⟨m,rfl,hm,Int.le_refl _,fun _=>by simp[Nd.cnts]⟩
theorem left_eq:∀ (n:Nat) (t:Nd) (m:Nat),m+1<n->m<=67108864->∃ r,zEr n t (m:Int)=some r/\-1<=r/\r<m/\(0<=r->r+t.cnt=m)
 | 0,_,_,h,_=>by omega
 | n+1,.mk a b c ks,m,h,hm=>by
  unfold zEr;rw[wrap64_in (by omega) (by omega)]
  cases m with
  | zero =>
   cases n with
   | zero=>omega
   | succ n =>
    refine⟨-1,?_,by omega,by omega,fun h=>by omega⟩
    unfold zC7;cases decide (((0:Nat):Int)<(ks.length:Int)) <;> simp <;> rfl
  | succ m =>
   obtain⟨r,h1,h2,h3,h4⟩:=zSA (F:=zEr n) (ks:=ks) (b:=m) (fun v q hq=>left_eq n v q (by omega) (by omega)) n 0 (m:Int) (by omega) (by omega) (by omega) (by omega) (by omega)
   rw[show((0:Nat):Int)=0 from rfl]at h1;rw[show((m+1:Nat):Int) - 1=(m:Int) by omega,h1]
   exact⟨r,rfl,h2,by omega,fun g=>by have:=h4 g; rw[List.drop_zero]at this; simp only[Nd.cnt]; omega⟩
theorem zXW (n:Nat) (t:Nd) (m:Nat) (h:m+1<n) (hm:m<=67108864):∃ b,zIf n t (m:Int)=some b/\(b=true->t.cnt<=m):=by
 obtain⟨a,b,c,ks⟩:=t;obtain⟨r,h1,h2,h3,h4⟩:=left_eq n (.mk a b c ks) m h hm;refine⟨decide (0<=r),by simp[zIf,h1],fun g=>by have g0:=of_decide_eq_true g; have:=h4 g0; omega⟩
def zPy {α:Type} (p:α->Bool) (l:List α):Fl Bool Unit:=if l.all p then .go () else .ret false
theorem zW5 {α:Type}{p:α->Bool}{l:List α}{i:Nat} (h:i<l.length):(l.drop i).all p=(p l[i]&&(l.drop (i+1)).all p):=by
 rw[List.drop_eq_getElem_cons h]; rfl
theorem zW6 {α:Type}{p:α->Bool}{l:List α}{i:Nat} (h:i<l.length):(l.drop i).any p=(p l[i]||(l.drop (i+1)).any p):=by
 rw[List.drop_eq_getElem_cons h]; rfl
theorem zIx {α:Type}{p:α->Bool}{l:List α} (L:Nat->Int->Option (Fl Bool Unit)) (hb:l.length<=1073741824)
  (h1:∀ (k i:Nat) (h:i<l.length),L (k+1) (i:Int)=if p l[i] then L k (((i+1:Nat)):Int) else some (.ret false)) (h2:∀ k,L (k+1) (l.length:Int)=some (.go ())) :
  ∀ (k i:Nat),l.length - i<k->i<=l.length->L k (i:Int)=some (zPy p (l.drop i))
 | 0,_,h,_=>by omega
 | k+1,i,hk,hi=>by
  by_cases h:i<l.length
  ·rw[h1 k i h,zIx L hb h1 h2 k (i+1) (by omega) (by omega)]
   unfold zPy;rw[zW5 h]
   cases p l[i] <;> simp
  ·obtain rfl:i=l.length :=(by omega);rw[h2]; simp[zPy]
theorem zQ9 {α:Type}{p:α->Bool}{l:List α} (L:Nat->Int->Option (Fl Bool Unit)) (hb:l.length<=1073741824)
  (h1:∀ (k i:Nat) (h:i<l.length),L (k+1) (i:Int)=if p l[i] then some (.ret true) else L k (((i+1:Nat)):Int)) (h2:∀ k,L (k+1) (l.length:Int)=some (.go ())) :
  ∀ (k i:Nat),l.length - i<k->i<=l.length->L k (i:Int)=some (if (l.drop i).any p then .ret true else .go ())
 | 0,_,h,_=>by omega
 | k+1,i,hk,hi=>by
  by_cases h:i<l.length
  ·rw[h1 k i h,zQ9 L hb h1 h2 k (i+1) (by omega) (by omega),zW6 h]
   cases p l[i] <;> simp
  ·obtain rfl:i=l.length :=(by omega);rw[h2]; simp
theorem zQH {P:UInt8->Bool} (h:(List.range 256).all (fun n=>P n.toUInt8)=true) (b:UInt8):P b=true:=by
 have:P (UInt8.ofNat b.toNat)=true:=List.all_eq_true.1 h b.toNat (List.mem_range.2 b.toNat_lt)
 rwa [UInt8.ofNat_toNat]at this
def zEb (b:UInt8):Bool:=(decide (97<=b.toNat)&&decide (b.toNat<=122))||(decide (65<=b.toNat)&&decide (b.toNat<=90))
def zEy (b:UInt8):Bool:=decide (48<=b.toNat)&&decide (b.toNat<=57)
def zFu (b:UInt8):Bool:=decide (32<=b.toNat)&&decide (b.toNat<=126)
theorem zSc (b:UInt8):(bif decide ((zCD .or .u8 (b.toNat:Int) 32)<97) then some true else some (decide (122<(zCD .or .u8 (b.toNat:Int) 32))))=some (!zEb b) :=
 of_decide_eq_true (zQH (P:=fun b=>decide ((bif decide ((zCD .or .u8 (b.toNat:Int) 32)<97) then some true else some (decide (122<(zCD .or .u8 (b.toNat:Int) 32))))=some (!zEb b))) (by decide +kernel) b)
theorem zNd (b:UInt8):zHB (b.toNat:Int)=some (zEb b) :=
 of_decide_eq_true (zQH (P:=fun b=>decide (zHB (b.toNat:Int)=some (zEb b))) (by decide +kernel) b)
theorem zTw (b:UInt8):zK8 (b.toNat:Int)=some (zEy b) :=
 of_decide_eq_true (zQH (P:=fun b=>decide (zK8 (b.toNat:Int)=some (zEy b))) (by decide +kernel) b)
theorem zOC (n:Nat) (s:List UInt8) (h:s.length<n) (hb:s.length<=1073741824):zDV n s=some (s.all zEb):=by
 have:=zIx (p:=zEb) (l:=s) (zBI s) hb (fun k i h=>by
  rw[zBI,zAB (Int.ofNat_lt.2 h),cond_true,zAv h]
  simp only[obs,zSc]
  rw[zAy (by omega)]
  cases zEb s[i] <;> rfl) (fun k=>by rw[zBI,zAx (by omega)]; rfl) n 0 (by omega) (by omega)
 rw[show((0:Nat):Int)=0 from rfl,List.drop_zero]at this;rw[zDV,this]
 unfold zPy;cases s.all zEb <;> rfl
theorem zPS (n:Nat) (s:List UInt8) (h:s.length<n) (hb:s.length<=1073741824):zDs s n 0=some (zPy zEb s):=by
 have:=zIx (p:=zEb) (l:=s) (zDs s) hb (fun k i h=>by
  rw[zDs,zAB (Int.ofNat_lt.2 h),cond_true,zAv h]
  simp only[obs,zNd]
  rw[zAy (by omega)]
  cases zEb s[i] <;> rfl) (fun k=>by rw[zDs,zAx (by omega)]; rfl) n 0 (by omega) (by omega)
 rwa [show((0:Nat):Int)=0 from rfl,List.drop_zero]at this
theorem zQs (n:Nat) (s:List UInt8) (c:Int) (h:s.length<n) (hb:s.length<=1073741824):zFi n s c=some (s.any fun b=>(b.toNat:Int) == c):=by
 have:=zQ9 (p:=fun b=>(b.toNat:Int) == c) (l:=s) (zF3 s c) hb (fun k i h=>by
  rw[zF3,zAB (Int.ofNat_lt.2 h),cond_true,zAv h]
  simp only[obs]
  rw[zAy (by omega)]
  cases((s[i].toNat:Int) == c) <;> rfl) (fun k=>by rw[zF3,zAx (by omega)]; rfl) n 0 (by omega) (by omega)
 rw[show((0:Nat):Int)=0 from rfl,List.drop_zero]at this;rw[zFi,this]
 cases s.any fun b=>(b.toNat:Int) == c <;> rfl
theorem zOU (n:Nat) (l:List (List UInt8)) (s:List UInt8) (h:l.length<n) (hb:l.length<=1073741824):zHA n l s=some (l.any fun e=>e == s):=by
 have:=zQ9 (p:=fun e=>e == s) (l:=l) (zG8 l s) hb (fun k i h=>by
  rw[zG8,zAB (Int.ofNat_lt.2 h),cond_true,zAv h]
  simp only[obs]
  rw[zAy (by omega)]
  cases(l[i] == s) <;> rfl) (fun k=>by rw[zG8,zAx (by omega)]; rfl) n 0 (by omega) (by omega)
 rw[show((0:Nat):Int)=0 from rfl,List.drop_zero]at this;rw[zHA,this]
 cases l.any fun e=>e == s <;> rfl
theorem zHS (n:Nat) (s:List UInt8) (h:s.length<n) (hb:s.length<=1073741824):zEo n s=some (s.all zEy&&!(s == [])):=by
 have:=zIx (p:=zEy) (l:=s) (zBV s) hb (fun k i h=>by
  rw[zBV,zAB (Int.ofNat_lt.2 h),cond_true,zAv h]
  simp only[obs]
  rw[zAy (by omega)]
  unfold zEy
  by_cases a:48<=s[i].toNat
  ·by_cases b:s[i].toNat<=57
   ·simp[a,b,show ¬ ((s[i].toNat:Int)<48) by omega,show ¬ (57<(s[i].toNat:Int)) by omega]
   ·simp[a,b,show ¬ ((s[i].toNat:Int)<48) by omega,show(57<(s[i].toNat:Int)) by omega]
  ·simp[a,show((s[i].toNat:Int)<48) by omega]) (fun k=>by rw[zBV,zAx (by omega)]; rfl) n 0 (by omega) (by omega)
 rw[show((0:Nat):Int)=0 from rfl,List.drop_zero]at this;rw[zEo,this]
 unfold zPy;cases s.all zEy <;> rfl
theorem zOT (b:UInt8):(bif decide ((b.toNat:Int)<32) then some true else some (decide (126<(b.toNat:Int))):Option Bool)=some (!zFu b):=by
 unfold zFu
 by_cases a:32<=b.toNat
 ·by_cases c:b.toNat<=126
  ·simp[a,c,show ¬ ((b.toNat:Int)<32) by omega,show ¬ (126<(b.toNat:Int)) by omega]
  ·simp[a,c,show ¬ ((b.toNat:Int)<32) by omega,show(126<(b.toNat:Int)) by omega]
 ·simp[a,show((b.toNat:Int)<32) by omega]
theorem zRh (n:Nat) (s:List UInt8) (h:s.length<n) (hb:s.length<=1073741824):zF1 n s=some (s.all zFu&&decide ((s.length:Int)<=200)):=by
 have:=zIx (p:=zFu) (l:=s) (zCd s) hb (fun k i h=>by
  rw[zCd,zAB (Int.ofNat_lt.2 h),cond_true,zAv h]
  simp only[obs,zOT]
  rw[zAy (by omega)]
  cases zFu s[i] <;> rfl) (fun k=>by rw[zCd,zAx (by omega)]; rfl) n 0 (by omega) (by omega)
 rw[show((0:Nat):Int)=0 from rfl,List.drop_zero]at this;rw[zF1,this]
 unfold zPy;cases s.all zFu <;> rfl
theorem zIT (n:Nat) (s:List UInt8) (h:s.length<n) (hb:s.length<=1073741824):zFh n s=some (s.all zFu):=by
 have:=zIx (p:=zFu) (l:=s) (zC6 s) hb (fun k i h=>by
  rw[zC6,zAB (Int.ofNat_lt.2 h),cond_true,zAv h]
  simp only[obs,zOT]
  rw[zAy (by omega)]
  cases zFu s[i] <;> rfl) (fun k=>by rw[zC6,zAx (by omega)]; rfl) n 0 (by omega) (by omega)
 rw[show((0:Nat):Int)=0 from rfl,List.drop_zero]at this;rw[zFh,this]
 unfold zPy;cases s.all zFu <;> rfl
def spL:List UInt8:=[43,45,42,47,61,60,62,44,59,58,33,124,39,63,126,64]
def fsL:List UInt8:=[40,41,91,93,123,125,60,62,47,124,46]
def kwL:List (List UInt8):=[[102,114,97,99],[114,111,111,116],[109,97,116,114,105,120],[102,101,110,99,101]]
def acL:List (List UInt8):=[[104,97,116],[98,97,114],[118,101,99],[100,111,116],[116,105,108,100,101],[99,104,101,99,107]]
def spB (c:UInt8):Bool:=decide (0<=Lib.indexByte spL c)
def fsB (c:UInt8):Bool:=decide (0<=Lib.indexByte fsL c)
theorem zYj (c:UInt8):(spL.any fun b=>(b.toNat:Int) == (c.toNat:Int))=spB c :=
 of_decide_eq_true (zQH (P:=fun c=>decide ((spL.any fun b=>(b.toNat:Int) == (c.toNat:Int))=spB c)) (by decide +kernel) c)
theorem zYi (c:UInt8):(([40,41,91,93,123,125,124,60,62,47,46]:List UInt8).any fun b=>(b.toNat:Int) == (c.toNat:Int))=fsB c :=
 of_decide_eq_true (zQH (P:=fun c=>decide ((([40,41,91,93,123,125,124,60,62,47,46]:List UInt8).any fun b=>(b.toNat:Int) == (c.toNat:Int))=fsB c)) (by decide +kernel) c)
theorem zW9 (c:UInt8):Lib.indexByte fsL ((c.toNat:Int).toNat.toUInt8)=Lib.indexByte fsL c:=by
 rw[Int.toNat_natCast]; congr 1; exact UInt8.ofNat_toNat
theorem zPz (e s:List UInt8):(e == s)=(s == e):=by
 rw[Bool.eq_iff_iff]; simp only[beq_iff_eq]; exact eq_comm
theorem zOB (s:List UInt8):zEI s=some (kwL.any fun e=>e == s):=by
 simp only[zEI,kwL,List.any_cons,List.any_nil,zPz [102,114,97,99] s,zPz [114,111,111,116] s,zPz [109,97,116,114,105,120] s,zPz [102,101,110,99,101] s]
 generalize (s == [102,114,97,99])=b1;generalize (s == [114,111,111,116])=b2;generalize (s == [109,97,116,114,105,120])=b3;generalize (s == [102,101,110,99,101])=b4;cases b1 <;> cases b2 <;> cases b3 <;> cases b4 <;> rfl
theorem zKI (s:List UInt8):zEn s=some (acL.any fun e=>e == s):=by
 simp only[zEn,acL,List.any_cons,List.any_nil,zPz [104,97,116] s,zPz [98,97,114] s,zPz [118,101,99] s,zPz [100,111,116] s,zPz [116,105,108,100,101] s,zPz [99,104,101,99,107] s]
 generalize (s == [104,97,116])=b1;generalize (s == [98,97,114])=b2;generalize (s == [118,101,99])=b3;generalize (s == [100,111,116])=b4;generalize (s == [116,105,108,100,101])=b5;generalize (s == [99,104,101,99,107])=b6;cases b1 <;> cases b2 <;> cases b3 <;> cases b4 <;> cases b5 <;> cases b6 <;> rfl
def symB (s:List UInt8):Bool :=
 if s.length=1 then s.all zEb||s.all spB
 else s.all zEb&&(decide (2<=s.length)&&(decide (s.length<=16)&&(!(kwL.any fun e=>e == s)&&!(acL.any fun e=>e == s))))
theorem len1 (s:List UInt8):((s.length:Int) == 1)=decide (s.length=1):=by
 by_cases h:s.length=1
 ·simp[h]
 ·rw[zAx h]
  cases e:((s.length:Int) == 1) with
  | false=>rfl
  | true=>have:=eq_of_beq e; omega
theorem zGW (a b:Nat):decide ((a:Int)<=(b:Int))=decide (a<=b):=by
 by_cases h:a<=b
 ·rw[zAB h,zAB (by omega)]
 ·rw[zAx h,zAx (by omega)]
theorem zVU (a b:Nat):decide ((a:Int)<(b:Int))=decide (a<b):=by
 by_cases h:a<b
 ·rw[zAB h,zAB (by omega)]
 ·rw[zAx h,zAx (by omega)]
theorem zPE (n:Nat) (s:List UInt8) (h:s.length+40<n) (hb:s.length<=1073741824):zFe n s=some (symB s):=by
 rw[zFe,len1,zOC n s (by omega) hb]
 unfold symB
 by_cases h1:s.length=1
 ·rw[zAB h1,if_pos h1]
  obtain⟨c,rfl⟩:=List.length_eq_one_iff.1 h1;have:zFm [43,45,42,47,61,60,62,44,59,58,33,124,39,63,126,64] [c]=some (spB c):=rfl;simp only[cond_true,obs,this,List.all_cons,List.all_nil,Bool.and_true]
  cases zEb c <;> rfl
 ·rw[zAx h1,if_neg h1]
  have e2:=zGW 2 s.length;have e16:=zGW s.length 16;rw[show((2:Nat):Int)=2 from rfl]at e2;rw[show((16:Nat):Int)=16 from rfl]at e16;simp only[cond_false,obs,zOB,zKI,e2,e16]
  cases s.all zEb <;> cases decide (2<=s.length) <;> cases decide (s.length<=16) <;> cases(kwL.any fun e=>e == s) <;> rfl
theorem zRB (n:Nat) (s:List UInt8) (h:s.length+40<n) (hb:s.length<=1073741824):zJn n s=some (symB s):=by
 rw[zJn,len1,zPS n s (by omega) hb]
 unfold symB
 by_cases h1:s.length=1
 ·rw[zAB h1,if_pos h1]
  obtain⟨c,rfl⟩:=List.length_eq_one_iff.1 h1;have e1:at? [c] (0:Int)=some c:=rfl;have e2:zFi n [43,45,42,47,61,60,62,44,59,58,33,124,39,63,126,64] (c.toNat:Int)=some (spB c):=by
   rw[zQs n _ _ (by simp only[List.length_cons,List.length_nil]; omega) (by simp only[List.length_cons,List.length_nil]; omega)]
   exact congrArg some (zYj c)
  simp only[cond_true,obs,e1,zJl,zNd,e2,List.all_cons,List.all_nil,Bool.and_true]
  cases zEb c <;> rfl
 ·rw[zAx h1,if_neg h1]
  have e2:=zGW 2 s.length;have e16:=zGW s.length 16;rw[show((2:Nat):Int)=2 from rfl]at e2;rw[show((16:Nat):Int)=16 from rfl]at e16;have ek:zHA n kwL s=some (kwL.any fun e=>e == s):=zOU n kwL s (by simp only[kwL,List.length_cons,List.length_nil]; omega) (by simp[kwL])
  have ea:zHA n acL s=some (acL.any fun e=>e == s):=zOU n acL s (by simp only[acL,List.length_cons,List.length_nil]; omega) (by simp[acL])
  have k1:zKG=some kwL:=rfl;have a1:zGt=some acL:=rfl;unfold zPy;simp only[cond_false,obs,k1,a1,ek,ea,e2,e16]
  cases s.all zEb <;> cases decide (2<=s.length) <;> cases decide (s.length<=16) <;> cases(kwL.any fun e=>e == s) <;> rfl
def fenB (s:List UInt8):Bool:=decide (s.length=2)&&s.all fsB
theorem len2 (s:List UInt8):((s.length:Int) == 2)=decide (s.length=2):=by
 by_cases h:s.length=2
 ·simp[h]
 ·rw[zAx h]
  cases e:((s.length:Int) == 2) with
  | false=>rfl
  | true=>have:=eq_of_beq e; omega
theorem zRg (s:List UInt8):zF0 s=some (fenB s):=by
 rw[zF0,len2]
 unfold fenB
 by_cases h1:s.length=2
 ·rw[zAB h1]
  match s,h1 with
  | [c,d],_ =>
   have e0:at? [c,d] (0:Int)=some c:=rfl;have e1:at? [c,d] (1:Int)=some d:=rfl;have f:∀ c:UInt8,zDG [40,41,91,93,123,125,60,62,47,124,46] (c.toNat:Int)=some (Lib.indexByte fsL c):=fun c=>congrArg some (zW9 c)
   have g:∀ c:UInt8,decide (0<=Lib.indexByte fsL c)=fsB c:=fun c=>rfl
   simp only[cond_true,e0,e1,f,obs,g,List.all_cons,List.all_nil,Bool.and_true,Bool.true_and]
   cases fsB c <;> rfl
 ·rw[zAx h1]; rfl
theorem zSY (n:Nat) (s:List UInt8) (h:40<n):(bif ((s.length:Int) == 2) then (
        (at? s 0).bind fun c9 =>
        (zFi n [40,41,91,93,123,125,124,60,62,47,46] (c9.toNat:Int)).bind fun y11 =>
        bif y11 then (
         (at? s 1).bind fun c12 =>
         (zFi n [40,41,91,93,123,125,124,60,62,47,46] (c12.toNat:Int)).bind fun y14 =>
         some y14
        ) else (
         some false
        )
       ) else (
        some false
       ))=some (fenB s):=by
 rw[len2]
 unfold fenB
 by_cases h1:s.length=2
 ·rw[zAB h1]
  match s,h1 with
  | [c,d],_ =>
   have e0:at? [c,d] (0:Int)=some c:=rfl;have e1:at? [c,d] (1:Int)=some d:=rfl;have f:∀ c:UInt8,zFi n [40,41,91,93,123,125,124,60,62,47,46] (c.toNat:Int)=some (fsB c):=fun c=>by
    rw[zQs n _ _ (by simp only[List.length_cons,List.length_nil]; omega) (by simp only[List.length_cons,List.length_nil]; omega)]
    exact congrArg some (zYi c)
   simp only[cond_true,e0,e1,f,obs,List.all_cons,List.all_nil,Bool.and_true,Bool.true_and]
   cases fsB c <;> rfl
 ·rw[zAx h1]; rfl
def okL (L:Nat):Nat->List UInt8->Bool
 | _,[]=>true
 | i,c::r=>((c == 46&&(decide (0<i)&&decide (i+1<L)))||zEy c)&&okL L (i+1) r
def numB (s:List UInt8):Bool:=okL s.length 0 s&&(decide (0<s.length)&&(decide (s.length<=20)&&decide (s.count 46<=1)))
theorem zZg (c:UInt8):((c.toNat:Int) == 46)=(c == 46) :=
 of_decide_eq_true (zQH (P:=fun c=>decide (((c.toNat:Int) == 46)=(c == 46))) (by decide +kernel) c)
theorem zYp:zEy 46=false:=by decide
theorem zRi (s:List UInt8) (hb:s.length<=1073741824):∀ (k i p:Nat),s.length - i<k->i<=s.length->p<=i ->
  zFg s k (p:Int) (i:Int)=some (if okL s.length i (s.drop i) then .go ((p+(s.drop i).count 46:Nat):Int) else .ret false)
 | 0,_,_,h,_,_=>by omega
 | k+1,i,p,hk,hi,hp=>by
  unfold zFg
  by_cases h:i<s.length
  ·rw[zAB (Int.ofNat_lt.2 h),cond_true,zAv h,List.drop_eq_getElem_cons h]
   generalize s[i]=c;simp only[obs,zZg,zTw,okL,List.count_cons]
   rw[zAy (by omega),zAy (by omega),wrap64_in (by omega) (by omega)]
   have d1:decide ((0:Int)<(i:Int))=decide (0<i):=zVU 0 i;have d2:decide ((i:Int)<(s.length:Int) - 1)=decide (i+1<s.length):=by
    by_cases h:i+1<s.length
    ·rw[zAB h,zAB (by omega)]
    ·rw[zAx h,zAx (by omega)]
   rw[d1,d2]
   cases e:c == 46 with
   | true =>
    obtain rfl:c=46:=eq_of_beq e;simp only[cond_true,zYp,Bool.true_and,Bool.or_false]
    cases decide (0<i) with
    | false=>rfl
    | true =>
     simp only[cond_true,obs,Bool.true_and]
     cases decide (i+1<s.length) with
     | false=>rfl
     | true =>
      simp only[cond_true,obs,Bool.true_and]
      rw[zRi s hb k (i+1) (p+1) (by omega) (by omega) (by omega)]
      simp only[if_true]
      rw[show p+1+(s.drop (i+1)).count 46=p+((s.drop (i+1)).count 46+1) by omega]
   | false =>
    simp only[cond_false,obs,Bool.false_and,Bool.false_or]
    cases zEy c with
    | false=>rfl
    | true =>
     simp only[Bool.not_true,cond_false,obs,Bool.true_and]
     rw[zRi s hb k (i+1) p (by omega) (by omega) (by omega)]
     simp
  ·rw[zAx (by omega),cond_false]
   obtain rfl:i=s.length :=(by omega);simp[okL]
theorem zRA (n:Nat) (s:List UInt8) (h:s.length<n) (hb:s.length<=1073741824):zJm n s=some (numB s):=by
 have:=zRi s hb n 0 0 (by omega) (by omega) (by omega)
 rw[show((0:Nat):Int)=0 from rfl,List.drop_zero]at this;rw[zJm,this]
 unfold numB;have e0:=zVU 0 s.length;have e20:=zGW s.length 20;have e1:=zGW (s.count 46) 1;rw[show((0:Nat):Int)=0 from rfl]at e0;rw[show((20:Nat):Int)=20 from rfl]at e20;rw[show((1:Nat):Int)=1 from rfl]at e1;cases okL s.length 0 s with
 | false=>rfl
 | true =>
  simp only[if_true,obs,e0,e20,Nat.zero_add,e1]
  cases decide (0<s.length) <;> cases decide (s.length<=20) <;> rfl
theorem zSh:∀ s:List UInt8,(s.count 46=0/\Lib.indexByte s 46 = -1)∨∃ a b,s=a++46::b/\a.count 46=0/\Lib.indexByte s 46=(a.length:Int)
 | []=>.inl ⟨rfl,rfl⟩
 | c::s=>by
  by_cases h:c=46
  ·subst h;exact .inr ⟨[],s,rfl,rfl,by simp[Lib.indexByte]⟩
  ·have hc:(c == 46)=false :=(by simpa using h);rcases zSh s with ⟨h1,h2⟩ | ⟨a,b,rfl,h1,h2⟩
   ·exact .inl ⟨by rw[List.count_cons,h1,hc]; rfl,by simp[Lib.indexByte,hc,h2]⟩
   ·refine .inr ⟨c::a,b,rfl,by rw[List.count_cons,h1,hc]; rfl,?_⟩
    have h3:((a.length:Int) == -1)=false:=by
     cases e:((a.length:Int) == -1) with
     | false=>rfl
     | true=>have:=eq_of_beq e; omega
    simp[Lib.indexByte,hc,h2,h3]
theorem zJv (L:Nat):∀ (i:Nat) (a:List UInt8),a.count 46=0->okL L i a=a.all zEy
 | _,[],_=>rfl
 | i,c::a,h=>by
  have hc:(c == 46)=false:=by
   cases e:c == 46 with
   | false=>rfl
   | true=>rw[List.count_cons,e]at h; simp at h
  rw[List.count_cons,hc]at h;rw[okL,hc,zJv L (i+1) a (by simpa using h)]
  simp
theorem zQn (L:Nat):∀ (i:Nat) (a b:List UInt8),okL L i (a++b)=(okL L i a&&okL L (i+a.length) b)
 | _,[],b=>by simp[okL]
 | i,c::a,b=>by
  simp only[List.cons_append,okL,zQn L (i+1) a b,List.length_cons,Bool.and_assoc,show i+1+a.length=i+(a.length+1) by omega]
theorem zQ4:∀ a:List UInt8,a.all zEy=true->a.count 46=0
 | [],_=>rfl
 | c::a,h=>by
  simp only[List.all_cons,Bool.and_eq_true]at h;have hc:(c == 46)=false:=by
   cases e:c == 46 with
   | false=>rfl
   | true=>obtain rfl:c=46:=eq_of_beq e; simp[zYp]at h
  rw[List.count_cons,hc,zQ4 a h.2]; rfl
theorem zYG (a b:List UInt8) (ha:a.count 46=0):numB (a++46::b)=(decide ((a++46::b).length<=20)&&((a.all zEy&&!(a == []))&&(b.all zEy&&!(b == [])))):=by
 unfold numB;have hl:(a++46::b).length=a.length+(b.length+1) :=(by simp);rw[zQn,zJv _ _ a ha,hl]
 simp only[okL,zYp,Bool.or_false,List.count_append,List.count_cons,ha,beq_self_eq_true,Bool.true_and,if_true,Nat.zero_add]
 have e1:decide (0<a.length) = !(a == []) :=(by cases a <;> rfl);have e2:decide (a.length+1<a.length+(b.length+1)) = !(b == []):=by
  cases b with
  | nil=>simp
  | cons c b=>simp
 have e3:decide (0<a.length+(b.length+1))=true:=zAB (by omega)
 rw[e1,e2,e3]
 cases hb:b.all zEy with
 | true =>
  rw[zJv _ _ b (zQ4 b hb),hb,zQ4 b hb]
  cases a.all zEy <;> cases a == [] <;> cases b == [] <;> cases decide (a.length+(b.length+1)<=20) <;> rfl
 | false =>
  cases hc:decide (b.count 46+1<=1) with
  | true =>
   have:b.count 46=0 :=(by have:=of_decide_eq_true hc; omega);rw[zJv _ _ b this,hb]
   cases a.all zEy <;> cases a == [] <;> cases b == [] <;> cases decide (a.length+(b.length+1)<=20) <;> rfl
  | false =>
   generalize okL _ _ b=z;cases z <;> cases a.all zEy <;> cases a == [] <;> cases b == [] <;> cases decide (a.length+(b.length+1)<=20) <;> rfl
theorem zWq (s:List UInt8) (h:s.count 46=0):numB s=(decide (s.length<=20)&&(s.all zEy&&!(s == []))):=by
 unfold numB;rw[zJv _ _ s h,h]
 have e1:decide (0<s.length) = !(s == []) :=(by cases s <;> rfl);rw[e1]
 cases s.all zEy <;> cases s == [] <;> cases decide (s.length<=20) <;> rfl
theorem zPD (n:Nat) (s:List UInt8) (h:s.length<n) (hb:s.length<=1073741824):zEm n s=some (numB s):=by
 have e20:=zGW s.length 20;rw[show((20:Nat):Int)=20 from rfl]at e20;have hi:zES s [46]=some (Lib.indexByte s 46):=rfl;rcases zSh s with ⟨h1,h2⟩ | ⟨a,b,rfl,h1,h2⟩
 ·rw[zWq s h1]
  simp only[zEm,zFn,zDv,hi,h2,obs,show decide ((0:Int)<=-1)=false from rfl,cond_false,e20,zHS n s h hb]
  cases decide (s.length<=20) <;> cases(s.all zEy&&!(s == [])) <;> rfl
 ·have hl:(a++46::b).length=a.length+(b.length+1) :=(by simp);rw[zYG a b h1]
  have w1:IntKind.i64.wrap ((a.length:Int)+(([46]:List UInt8).length:Int))=((a.length+1:Nat):Int):=zAy (by omega)
  have t1:((a++46::b).take ((a.length:Int)).toNat).drop (0:Int).toNat=a :=(by simp);have t2:((a++46::b).take (((a++46::b).length:Int)).toNat).drop (((a.length+1:Nat):Int)).toNat=b:=by
   rw[Int.toNat_natCast,Int.toNat_natCast,List.take_length,List.drop_append]
   simp
  simp only[zEm,zFn,zDv,hi,h2,obs,w1]
  rw[zAB (by omega),cond_true,zAK (by omega),zAK (by omega),t1,t2]
  simp only[obs,e20,zHS n a (by omega) (by omega),zHS n b (by omega) (by omega)]
  cases decide ((a++46::b).length<=20) <;> cases(a.all zEy&&!(a == [])) <;> cases(b.all zEy&&!(b == [])) <;> rfl
def Nd.kind:Nd->Int | .mk k _ _ _=>k
def zTd (k:Int) (t:List UInt8):Bool :=
 if k=2 then symB t else if k=3 then numB t else if k=4 then (decide (t.length<=200)&&t.all zFu) else if k=10 then acL.any (fun e=>e == t) else if k=11 then fenB t else t == []
def zIb (k c:Int) (m:Int):Bool :=
 if k=12 then decide (1<=c)&&(decide (c<=16)&&(decide (1<=m)&&(decide (m<=256)&&(m.tmod c == 0))))
 else (c == 0)&&(if k=1 then decide (m<=200) else if k=2 then m == 0 else if k=3 then m == 0 else if k=4 then m == 0 else if k=5 then m == 2 else if k=6 then m == 2 else if k=7 then m == 2 else if k=8 then m == 2
  else if k=9 then m == 3 else if k=10 then m == 1 else if k=11 then m == 1 else false)
mutual
def zG3:Nd->Bool
 | .mk k t c ks=>(zTd k t&&zIb k c (ks.length:Int))&&zEZ k ks
def zEZ:Int->List Nd->Bool
 | _,[]=>true
 | k,v::vs=>(!((v.kind == 1) == (k == 1))&&zG3 v)&&zEZ k vs
end
mutual
def Nd.dep:Nd->Nat
 | .mk _ _ _ ks=>Nd.deps ks+1
def Nd.deps:List Nd->Nat
 | []=>0
 | v::vs=>Nat.max v.dep (Nd.deps vs)
end
theorem zQf {k:Int}{a:List Nd}{i:Nat} (h:i<a.length):zEZ k (a.drop i)=((!((a[i].kind == 1) == (k == 1))&&zG3 a[i])&&zEZ k (a.drop (i+1))):=by
 rw[List.drop_eq_getElem_cons h]; rfl
theorem zSi {a:List Nd}{i:Nat} (h:i<a.length):Nd.deps (a.drop i)=Nat.max (a[i]).dep (Nd.deps (a.drop (i+1))):=by
 rw[List.drop_eq_getElem_cons h]; rfl
mutual
theorem Nd.dep_cnt:∀ v:Nd,v.dep<=v.cnt
 | .mk _ _ _ ks=>by have:=Nd.deps_cnts ks; simp only[Nd.dep,Nd.cnt]; omega
theorem Nd.deps_cnts:∀ vs:List Nd,Nd.deps vs<=Nd.cnts vs
 | []=>Nat.le_refl _
 | v::vs=>by
  have:=Nd.dep_cnt v; have:=Nd.deps_cnts vs
  simp only[Nd.deps,Nd.cnts]
  exact Nat.max_le.2 ⟨by omega,by omega⟩
end
mutual
theorem Nd.cnt_w:∀ v:Nd,v.cnt<=v.w
 | .mk _ t _ ks=>by have:=Nd.cnts_ws ks; simp only[Nd.cnt,Nd.w]; omega
theorem Nd.cnts_ws:∀ vs:List Nd,Nd.cnts vs<=Nd.ws vs
 | []=>Nat.le_refl _
 | v::vs=>by have:=Nd.cnt_w v; have:=Nd.cnts_ws vs; simp only[Nd.cnts,Nd.ws]; omega
end
theorem zDP {a b:Int} (h:a ≠ b):(a == b)=false:=by
 cases e:(a == b) with
 | false=>rfl
 | true=>exact absurd (eq_of_beq e) h
theorem zTW (n:Nat) (k:Int) (t:List UInt8) (c:Int) (ks:List Nd) (h:t.length+40<n) (hb:t.length<=1073741824):zMD n (.mk k t c ks)=some (zTd k t):=by
 have e200:=zGW t.length 200;rw[show((200:Nat):Int)=200 from rfl]at e200;have ea:zHA n acL t=some (acL.any fun e=>e == t):=zOU n acL t (by simp only[acL,List.length_cons,List.length_nil]; omega) (by simp[acL])
 have a1:zGt=some acL:=rfl;unfold zMD zTd;dsimp only
 by_cases h2:k=2
 ·subst h2; simp only[beq_self_eq_true,cond_true,zRB n t h hb,obs,if_true]
 rw[zDP h2,if_neg h2,cond_false]
 by_cases h3:k=3
 ·subst h3; simp only[beq_self_eq_true,cond_true,zRA n t (by omega) hb,obs,if_true]
 rw[zDP h3,if_neg h3,cond_false]
 by_cases h4:k=4
 ·subst h4; simp only[beq_self_eq_true,cond_true,zIT n t (by omega) hb,obs,if_true,e200]
  cases decide (t.length<=200) <;> rfl
 rw[zDP h4,if_neg h4,cond_false]
 by_cases h10:k=10
 ·subst h10; simp only[beq_self_eq_true,cond_true,a1,ea,obs,if_true]
 rw[zDP h10,if_neg h10,cond_false]
 by_cases h11:k=11
 ·subst h11; rw[if_pos rfl,beq_self_eq_true,cond_true,zSY n t (by omega)]; rfl
 rw[zDP h11,if_neg h11,cond_false]
theorem kinds (k:Int):k=1∨k=2∨k=3∨k=4∨k=5∨k=6∨k=7∨k=8∨k=9∨k=10∨k=11∨k=12∨(k<1∨12<k):=by omega
theorem zTV (k:Int) (t:List UInt8) (c:Int) (ks:List Nd):zMC (.mk k t c ks)=some (zIb k c (ks.length:Int)):=by
 unfold zMC;dsimp only;generalize (ks.length:Int)=m;rcases kinds k with rfl | rfl | rfl | rfl | rfl | rfl | rfl | rfl | rfl | rfl | rfl | rfl | h
 ·simp only[bne,zIb]; generalize (c == 0)=z; generalize decide (m<=200)=y; cases z <;> rfl
 ·simp only[bne,zIb]; generalize (c == 0)=z; generalize (m == 0)=y; cases z <;> rfl
 ·simp only[bne,zIb]; generalize (c == 0)=z; generalize (m == 0)=y; cases z <;> rfl
 ·simp only[bne,zIb]; generalize (c == 0)=z; generalize (m == 0)=y; cases z <;> rfl
 ·simp only[bne,zIb]; generalize (c == 0)=z; generalize (m == 2)=y; cases z <;> rfl
 ·simp only[bne,zIb]; generalize (c == 0)=z; generalize (m == 2)=y; cases z <;> rfl
 ·simp only[bne,zIb]; generalize (c == 0)=z; generalize (m == 2)=y; cases z <;> rfl
 ·simp only[bne,zIb]; generalize (c == 0)=z; generalize (m == 2)=y; cases z <;> rfl
 ·simp only[bne,zIb]; generalize (c == 0)=z; generalize (m == 3)=y; cases z <;> rfl
 ·simp only[bne,zIb]; generalize (c == 0)=z; generalize (m == 1)=y; cases z <;> rfl
 ·simp only[bne,zIb]; generalize (c == 0)=z; generalize (m == 1)=y; cases z <;> rfl
 ·unfold zIb;rw[if_pos rfl,beq_self_eq_true,cond_true]
  by_cases h1:1<=c
  ·rw[zAB h1,zAK (by omega)]
   generalize (m.tmod c == 0)=y;cases decide (c<=16) <;> cases decide (1<=m) <;> cases decide (m<=256) <;> rfl
  ·rw[zAx h1]; rfl
 ·have e:∀ i:Int,1<=i->i<=12->(k == i)=false:=fun i h1 h2=>zDP (by omega)
  have f:∀ i:Int,1<=i->i<=12->k ≠ i:=fun i h1 h2=>by omega
  unfold zIb;rw[if_neg (f 12 (by decide) (by decide)),if_neg (f 1 (by decide) (by decide)),if_neg (f 2 (by decide) (by decide)),if_neg (f 3 (by decide) (by decide)),if_neg (f 4 (by decide) (by decide)),if_neg (f 5 (by decide) (by decide)),
   if_neg (f 6 (by decide) (by decide)),if_neg (f 7 (by decide) (by decide)),if_neg (f 8 (by decide) (by decide)),if_neg (f 9 (by decide) (by decide)),if_neg (f 10 (by decide) (by decide)),if_neg (f 11 (by decide) (by decide))]
  rw[e 12 (by decide) (by decide),e 1 (by decide) (by decide),e 2 (by decide) (by decide),e 3 (by decide) (by decide),e 4 (by decide) (by decide),e 5 (by decide) (by decide),
   e 6 (by decide) (by decide),e 7 (by decide) (by decide),e 8 (by decide) (by decide),e 9 (by decide) (by decide),e 10 (by decide) (by decide),e 11 (by decide) (by decide)]
  cases(c == 0) <;> cases(c != 0) <;> rfl
theorem zZs (n:Nat) (x:Int) (k:Int) (t:List UInt8) (c:Int) (ks:List Nd) (h:t.length+40<n) (hb:t.length<=1073741824) :
  zC5 n ((),x) (.mk k t c ks)=some (zTd k t&&zIb k c (ks.length:Int),((),x)):=by
 have e200:=zGW t.length 200;rw[show((200:Nat):Int)=200 from rfl]at e200;unfold zC5;dsimp only;generalize (ks.length:Int)=m;have em:zCC t=some (t == []):=rfl;rcases kinds k with rfl | rfl | rfl | rfl | rfl | rfl | rfl | rfl | rfl | rfl | rfl | rfl | h
 ·simp only[em]
  show _=some ((t == [])&&((c == 0)&&decide (m<=200)),((),x))
  cases t == [] <;> cases c == 0 <;> rfl
 ·simp only[zPE n t h hb]
  show _=some (symB t&&((c == 0)&&(m == 0)),((),x))
  cases symB t <;> cases c == 0 <;> rfl
 ·simp only[zPD n t (by omega) hb]
  show _=some (numB t&&((c == 0)&&(m == 0)),((),x))
  cases numB t <;> cases c == 0 <;> rfl
 ·simp only[zRh n t (by omega) hb,e200]
  show _=some ((decide (t.length<=200)&&t.all zFu)&&((c == 0)&&(m == 0)),((),x))
  cases decide (t.length<=200) <;> cases t.all zFu <;> cases c == 0 <;> rfl
 ·simp only[em]
  show _=some ((t == [])&&((c == 0)&&(m == 2)),((),x))
  cases t == [] <;> cases c == 0 <;> rfl
 ·simp only[em]
  show _=some ((t == [])&&((c == 0)&&(m == 2)),((),x))
  cases t == [] <;> cases c == 0 <;> rfl
 ·simp only[em]
  show _=some ((t == [])&&((c == 0)&&(m == 2)),((),x))
  cases t == [] <;> cases c == 0 <;> rfl
 ·simp only[em]
  show _=some ((t == [])&&((c == 0)&&(m == 2)),((),x))
  cases t == [] <;> cases c == 0 <;> rfl
 ·simp only[em]
  show _=some ((t == [])&&((c == 0)&&(m == 3)),((),x))
  cases t == [] <;> cases c == 0 <;> rfl
 ·simp only[zKI]
  show _=some ((acL.any fun e=>e == t)&&((c == 0)&&(m == 1)),((),x))
  cases(acL.any fun e=>e == t) <;> cases c == 0 <;> rfl
 ·simp only[zRg]
  show _=some (fenB t&&((c == 0)&&(m == 1)),((),x))
  cases fenB t <;> cases c == 0 <;> rfl
 ·simp only[em]
  show _=some ((t == [])&&(decide (1<=c)&&(decide (c<=16)&&(decide (1<=m)&&(decide (m<=256)&&(m.tmod c == 0))))),((),x))
  by_cases h1:1<=c
  ·rw[zAB h1,zAK (by omega)]
   generalize (m.tmod c == 0)=y;cases t == [] <;> cases decide (c<=16) <;> cases decide (1<=m) <;> cases decide (m<=256) <;> rfl
  ·rw[zAx h1]
   cases t == [] <;> rfl
 ·have f:∀ i:Int,1<=i->i<=12->k ≠ i:=fun i h1 h2=>by omega
  have hk:zIb k c m=false:=by
   unfold zIb;rw[if_neg (f 12 (by decide) (by decide)),if_neg (f 1 (by decide) (by decide)),if_neg (f 2 (by decide) (by decide)),if_neg (f 3 (by decide) (by decide)),if_neg (f 4 (by decide) (by decide)),if_neg (f 5 (by decide) (by decide)),
    if_neg (f 6 (by decide) (by decide)),if_neg (f 7 (by decide) (by decide)),if_neg (f 8 (by decide) (by decide)),if_neg (f 9 (by decide) (by decide)),if_neg (f 10 (by decide) (by decide)),if_neg (f 11 (by decide) (by decide))]
   exact Bool.and_false _
  rw[hk,Bool.and_false]
  by_cases h1:k<1
  ·rw[zAB h1]; rfl
  ·rw[zAx h1,zAB (show 12<k by omega)]; rfl
theorem zMa {F:Nd->Option Bool}{k:Int}{ks:List Nd} (hF:∀ v∈ks,F v=some (zG3 v)) (hl:ks.length<=1073741824) :
  ∀ (q i:Nat),ks.length - i<q->i<=ks.length->zGu F k ks q (i:Int)=some (if zEZ k (ks.drop i) then .go () else .ret false)
 | 0,_,h,_=>by omega
 | q+1,i,hq,hi=>by
  unfold zGu
  by_cases h:i<ks.length
  ·rw[zAB (Int.ofNat_lt.2 h),cond_true,zAv h]
   have hf:=hF _ (List.getElem_mem h)
   have g1:=zQf (k:=k) h;rcases e:ks[i] with ⟨a,b,c,d⟩
   rw[e]at hf g1;simp only[Nd.kind]at g1;generalize zEZ k (ks.drop i)=g at g1 ⊢;subst g1;simp only[obs,hf]
   rw[zAy (by omega),zMa hF hl q (i+1) (by omega) (by omega)]
   cases((a == 1) == (k == 1)) <;> cases zG3 (Nd.mk a b c d) <;> simp
  ·rw[zAx (by omega),cond_false]
   obtain rfl:i=ks.length :=(by omega);simp[zEZ]
theorem zOV:∀ (n:Nat) (t:Nd),t.w+45<n->t.w<=1073741824->zIg n t=some (zG3 t)
 | 0,_,h,_=>by omega
 | n+1,.mk k t c ks,h,hb=>by
  simp only[Nd.w]at h hb;have hl:=Nd.ws_len ks;unfold zIg;rw[zTW n k t c ks (by omega) (by omega),zTV]
  have:=zMa (F:=zIg n) (k:=k) (ks:=ks) (fun v hv=>zOV n v (by have:=Nd.w_mem hv; omega) (by have:=Nd.w_mem hv; omega)) (by omega) n 0 (by omega) (by omega)
  rw[show((0:Nat):Int)=0 from rfl,List.drop_zero]at this;simp only[obs,this,zG3]
  cases zTd k t <;> cases zIb k c (ks.length:Int) <;> cases zEZ k ks <;> rfl
theorem zKL {F:Nd->Option Int}{ks:List Nd} (hF:∀ v∈ks,F v=some (v.dep:Int)) (hl:ks.length<=1073741824) :
  ∀ (q i o:Nat),ks.length - i<q->i<=ks.length->zFQ F ks q (o:Int) (i:Int)=some ((Nat.max o (Nd.deps (ks.drop i)):Nat):Int)
 | 0,_,_,h,_=>by omega
 | q+1,i,o,hq,hi=>by
  unfold zFQ
  by_cases h:i<ks.length
  ·rw[zAB (Int.ofNat_lt.2 h),cond_true,zAv h,zSi h]
   have hf:=hF _ (List.getElem_mem h)
   rcases e:ks[i] with ⟨a,b,c,d⟩
   rw[e]at hf;simp only[obs,hf]
   have hm:(if (o:Int)<((Nd.mk a b c d).dep:Int) then ((Nd.mk a b c d).dep:Int) else (o:Int))=((Nat.max o (Nd.mk a b c d).dep:Nat):Int):=by
    by_cases g:(o:Int)<((Nd.mk a b c d).dep:Int)
    ·rw[if_pos g]; congr 1; exact(Nat.max_eq_right (by omega)).symm
    ·rw[if_neg g]; congr 1; exact(Nat.max_eq_left (by omega)).symm
   rw[zAy (by omega),hm,zKL hF hl q (i+1) _ (by omega) (by omega)]
   congr 2
   exact Nat.max_assoc _ _ _
  ·rw[zAx (by omega),cond_false]
   obtain rfl:i=ks.length :=(by omega);rw[List.drop_length]
   congr 2
   exact(Nat.max_eq_left (Nat.zero_le _)).symm
theorem zNl:∀ (n:Nat) (t:Nd),t.cnt<n->t.cnt<=67108864->zG7 n t=some (t.dep:Int)
 | 0,_,h,_=>by omega
 | n+1,.mk k t c ks,h,hb=>by
  simp only[Nd.cnt]at h hb;have hl:=Nd.cnts_len ks;have hd:=Nd.deps_cnts ks;unfold zG7;have:=zKL (F:=zG7 n) (ks:=ks) (fun v hv=>zNl n v (by have:=Nd.cnts_mem hv; omega) (by have:=Nd.cnts_mem hv; omega)) (by omega) n 0 0 (by omega) (by omega)
  rw[show((0:Nat):Int)=0 from rfl,List.drop_zero]at this;rw[this,obs,show Nat.max 0 (Nd.deps ks)=Nd.deps ks from Nat.max_eq_right (Nat.zero_le _),zAy (by omega)]
  rfl
def zAz (t:Nd):Bool:=(t.kind == 1)&&(zG3 t&&(decide (t.cnt<=1000)&&decide (t.dep<=24)))
theorem zEi (n:Nat) (t:Nd) (h:t.w+45<n) (hb:t.w<=67108864):zBQ n t=some (zAz t):=by
 have hc:=Nd.cnt_w t;have e1:=zOV n t h (by omega)
 have e2:=zNk n t (by omega) (by omega)
 have e3:=zNl n t (by omega) (by omega)
 have e4:=zGW t.cnt 1000;rw[show((1000:Nat):Int)=1000 from rfl]at e4;have e5:=zGW t.dep 24;rw[show((24:Nat):Int)=24 from rfl]at e5;obtain⟨k,s,c,ks⟩:=t;unfold zBQ zAz;simp only[e1,e2,e3,obs,e4,e5,Nd.kind]
 cases k == 1 <;> cases zG3 (.mk k s c ks) <;> cases decide ((Nd.mk k s c ks).cnt<=1000) <;> rfl
abbrev okN (t:Nd) (x d:Nat):Prop:=zG3 t=true/\x+t.cnt<=1000/\d+t.dep<=25
abbrev okNs (k:Int) (vs:List Nd) (x d:Nat):Prop:=zEZ k vs=true/\x+Nd.cnts vs<=1000/\d+Nd.deps vs<=24
theorem zP7 {F:(Unit×Int)->Nd->Int->Option (Bool×(Unit×Int))}{k:Int}{ks:List Nd}{d:Nat} (hd:d<=24)
  (hF:∀ v∈ks,∀ x:Nat,x<=1000->∃ y,F ((),(x:Int)) v ((d+1:Nat):Int)=some (decide (okN v x (d+1)),((),y))/\(okN v x (d+1)->y=((x+v.cnt:Nat):Int))) (hl:ks.length<=1073741824) :
  ∀ (q i x:Nat),ks.length - i<q->i<=ks.length->x<=1000 ->
   (okNs k (ks.drop i) x d/\zAY F k ks (d:Int) q (x:Int) (i:Int)=some (.go ((x+Nd.cnts (ks.drop i):Nat):Int))) ∨
   (¬ okNs k (ks.drop i) x d/\∃ z,zAY F k ks (d:Int) q (x:Int) (i:Int)=some (.ret (false,((),z))))
 | 0,_,_,h,_,_=>by omega
 | q+1,i,x,hq,hi,hx=>by
  unfold zAY
  by_cases h:i<ks.length
  ·rw[zAB (Int.ofNat_lt.2 h),cond_true,zAv h]
   obtain⟨y,hf,hy⟩:=hF _ (List.getElem_mem h) x hx;have g1:=zQf (k:=k) h;have g2:=Nd.cnts_drop h;have g3:=zSi h;rcases e:ks[i] with ⟨a,b,c,ds⟩
   rw[e]at hf hy g1 g2 g3;simp only[obs]
   rw[zAy (by omega),zAy (by omega),hf]
   simp only[obs]
   have g4:Nd.deps (ks.drop i)=Nat.max (Nd.mk a b c ds).dep (Nd.deps (ks.drop (i+1))):=g3;have g5:(Nd.mk a b c ds).dep<=Nd.deps (ks.drop i) :=(by rw[g4]; exact Nat.le_max_left _ _);have g6:Nd.deps (ks.drop (i+1))<=Nd.deps (ks.drop i) :=(by rw[g4]; exact Nat.le_max_right _ _);rw[show((k == 1) == (a == 1))=((a == 1) == (k == 1)) by cases k == 1 <;> cases a == 1 <;> rfl]
   cases hkk:((a == 1) == (k == 1)) with
   | true =>
    simp only[cond_true,obs]
    refine .inr ⟨fun⟨h1,_⟩=>?_,_,rfl⟩
    rw[g1]at h1;simp[Nd.kind,hkk]at h1
   | false =>
    simp only[cond_false,obs]
    by_cases hok:okN (Nd.mk a b c ds) x (d+1)
    ·rw[zAB hok]
     simp only[Bool.not_true,cond_false]
     rw[hy hok]
     have hp:=(Nd.mk a b c ds).cnt_pos;rcases zP7 hd hF hl q (i+1) (x+(Nd.mk a b c ds).cnt) (by omega) (by omega) hok.2.1 with ⟨hr,hr2⟩ | ⟨hr,z,hr2⟩
     ·refine .inl ⟨⟨?_,?_,?_⟩,?_⟩
      ·rw[g1,hr.1,hok.1]; simp[Nd.kind,hkk]
      ·have:=hr.2.1; omega
      ·have:=hr.2.2;have:=hok.2.2;have:Nd.deps (ks.drop i)<=24 - d:=by rw[g4]; exact Nat.max_le.2 ⟨by omega,by omega⟩
       omega
      ·rw[hr2,g2]; congr 3; omega
     ·refine .inr ⟨fun⟨h1,h2,h3⟩=>hr ⟨?_,by omega,by omega⟩,z,hr2⟩
      rw[g1]at h1;simp only[Bool.and_eq_true]at h1;exact h1.2
    ·rw[zAx hok]
     simp only[Bool.not_false,cond_true]
     refine .inr ⟨fun⟨h1,h2,h3⟩=>hok ⟨?_,by omega,by omega⟩,y,rfl⟩
     rw[g1]at h1;simp only[Bool.and_eq_true]at h1;exact h1.1.2
  ·rw[zAx (by omega),cond_false]
   obtain rfl:i=ks.length :=(by omega);rw[List.drop_length]
   exact .inl ⟨⟨rfl,hx,hd⟩,rfl⟩
theorem zUj:∀ (n:Nat) (t:Nd) (x d:Nat),t.w+45<n->t.w<=67108864->x<=1000->d<=25 ->
  ∃ y,zBc n ((),(x:Int)) t (d:Int)=some (decide (okN t x d),((),y))/\(okN t x d->y=((x+t.cnt:Nat):Int))
 | 0,_,_,_,h,_,_,_=>by omega
 | n+1,.mk k t c ks,x,d,h,hb,hx,hd=>by
  simp only[Nd.w]at h hb;have hl:=Nd.ws_len ks;unfold zBc;rw[zAy (by omega)]
  by_cases h1:1000<((x+1:Nat):Int)
  ·rw[zAB h1]
   simp only[cond_true,obs]
   have hn:¬ okN (.mk k t c ks) x d:=fun⟨_,h2,_⟩=>by simp only[Nd.cnt]at h2; omega
   exact⟨_,by rw[zAx hn],fun h=>absurd h hn⟩
  ·rw[zAx h1,cond_false]
   by_cases h2:24<(d:Int)
   ·rw[zAB h2]
    simp only[cond_true,obs]
    have hn:¬ okN (.mk k t c ks) x d:=fun⟨_,_,h2⟩=>by simp only[Nd.dep]at h2; omega
    exact⟨_,by rw[zAx hn],fun h=>absurd h hn⟩
   ·rw[zAx h2,cond_false,zZs n _ k t c ks (by omega) (by omega)]
    simp only[obs]
    cases ho:(zTd k t&&zIb k c (ks.length:Int)) with
    | false =>
     simp only[Bool.not_false,cond_true]
     have hn:¬ okN (.mk k t c ks) x d:=fun⟨h1,_⟩=>by rw[zG3,ho]at h1; cases h1
     exact⟨_,by rw[zAx hn],fun h=>absurd h hn⟩
    | true =>
     simp only[Bool.not_true,cond_false]
     have:=zP7 (F:=zBc n) (k:=k) (ks:=ks) (d:=d) (by omega) (fun v hv z hz=>zUj n v z (d+1) (by have:=Nd.w_mem hv; omega) (by have:=Nd.w_mem hv; omega) hz (by omega)) (by omega) n 0 (x+1) (by omega) (by omega) (by omega)
     rw[show((0:Nat):Int)=0 from rfl,List.drop_zero]at this;rcases this with ⟨hr,hr2⟩ | ⟨hr,z,hr2⟩
     ·have hy:okN (.mk k t c ks) x d:=⟨by rw[zG3,ho,hr.1]; rfl,by have:=hr.2.1; simp only[Nd.cnt]; omega,by have:=hr.2.2; simp only[Nd.dep]; omega⟩
      rw[hr2]
      exact⟨_,by rw[zAB hy]; rfl,fun _=>by simp only[Nd.cnt]; omega⟩
     ·have hn:¬ okN (.mk k t c ks) x d:=fun⟨g1,g2,g3⟩=>hr ⟨by rw[zG3,ho]at g1; exact g1,by simp only[Nd.cnt]at g2; omega,by simp only[Nd.dep]at g3; omega⟩
      rw[hr2]
      exact⟨_,by rw[zAx hn]; rfl,fun h=>absurd h hn⟩
theorem zDa (n:Nat) (t:Nd) (h:t.w+45<n) (hb:t.w<=67108864):zBb n t=some (zAz t):=by
 obtain⟨y,h1,_⟩:=zUj n t 0 1 h hb (by omega) (by omega)
 rw[show((0:Nat):Int)=0 from rfl,show((1:Nat):Int)=1 from rfl]at h1;obtain⟨k,s,c,ks⟩:=t;unfold zBb zAz;have hk:zHz=some ():=rfl;simp only[hk,h1,obs,Nd.kind]
 cases k == 1 with
 | false=>rfl
 | true =>
  simp only[cond_true,obs,Bool.true_and,Option.some.injEq,okN]
  cases zG3 (.mk k s c ks) with
  | false=>simp
  | true =>
   by_cases g1:(Nd.mk k s c ks).cnt<=1000
   ·by_cases g2:(Nd.mk k s c ks).dep<=24
    ·rw[zAB g1,zAB g2,zAB ⟨rfl,by omega,by omega⟩]; rfl
    ·rw[zAB g1,zAx g2,zAx (fun h=>g2 (by omega))]; rfl
   ·rw[zAx g1,zAx (fun h=>g1 (by omega))]; rfl
def Nd.text:Nd->List UInt8 | .mk _ t _ _=>t
def Nd.cols:Nd->Int | .mk _ _ c _=>c
theorem Nd.cnt_kids:∀ x:Nd,x.cnt=Nd.cnts x.kids+1
 | .mk _ _ _ _=>rfl
def zZd (x y:Nd):Bool:=(x.kind == y.kind)&&(((x.kids.length:Int) == (y.kids.length:Int))&&(x.cols == y.cols))
def rowD (P:Nd->Nd->Nat) (x:Nd) (f:List Nd->Nat):List Nd->Nat
 | []=>x.cnt+f []
 | y::ys=>if zZd x y then min (min (x.cnt+f (y::ys)) (y.cnt+rowD P x f ys)) (P x y+f ys) else min (x.cnt+f (y::ys)) (y.cnt+rowD P x f ys)
def TD (P:Nd->Nd->Nat):List Nd->List Nd->Nat
 | []=>Nd.cnts
 | x::xs=>rowD P x (TD P xs)
def sumD (f:List Nd->List Nd->Nat):List Nd->List Nd->Nat
 | u::us,v::vs=>f u.kids v.kids+sumD f us vs
 | _,_=>0
def txt (x y:Nd):Nat:=bif x.text == y.text then 0 else 1
def PD:Nat->Nd->Nd->Nat
 | 0,_,_=>0
 | n+1,x,y=>txt x y+sumD (TD (PD n)) x.kids y.kids
def D (x y:Nd):Nat:=PD x.cnt x y
theorem zIa {k:Int}:∀ {a:List Nd}{v:Nd},zEZ k a=true->v∈a->zG3 v=true/\((v.kind == 1) == (k == 1))=false
 | u::a,v,h,hm=>by
  simp only[zEZ,Bool.and_eq_true,Bool.not_eq_true']at h;rcases List.mem_cons.1 hm with rfl | hm
  ·exact⟨h.1.2,h.1.1⟩
  ·exact zIa h.2 hm
theorem zUt {u:Nd} (h:zG3 u=true) (hk:u.kind=1):u = .mk 1 [] 0 u.kids/\zEZ 1 u.kids=true:=by
 obtain⟨k,t,c,ks⟩:=u;simp only[Nd.kind]at hk;subst hk;simp only[zG3,Bool.and_eq_true]at h;obtain⟨⟨h1,h2⟩,h3⟩:=h;have h1':(t == [])=true:=h1;have h2':((c == 0)&&decide ((ks.length:Int)<=200))=true:=h2;simp only[Bool.and_eq_true]at h2';rw[eq_of_beq h1',eq_of_beq h2'.1]
 exact⟨rfl,h3⟩
theorem zS9 {F:Nd->Nd->Option Bool}{a b:List Nd} (hF:∀ u∈a,∀ v∈b,∃ y,F u v=some y/\(y=true↔u=v)) (hl:a.length=b.length) (hb:a.length<=1073741824) :
  ∀ (q i:Nat),a.length - i<q->i<=a.length->∃ y,zBP F a b q (i:Int)=some (if y then .go () else .ret false)/\(y=true↔a.drop i=b.drop i)
 | 0,_,h,_=>by omega
 | q+1,i,hq,hi=>by
  unfold zBP
  by_cases h:i<a.length
  ·have h':i<b.length :=(by omega);rw[zAB (Int.ofNat_lt.2 h),cond_true,zAv h,zAv h']
   obtain⟨y,f1,f2⟩:=hF _ (List.getElem_mem h) _ (List.getElem_mem h')
   have d1:=List.drop_eq_getElem_cons h;have d2:=List.drop_eq_getElem_cons h';rcases e:a[i] with ⟨x1,x2,x3,x4⟩
   rcases e':b[i] with ⟨y1,y2,y3,y4⟩
   rw[e,e']at f1 f2;rw[e]at d1;rw[e']at d2;simp only[obs,f1]
   cases y with
   | false =>
    refine⟨false,rfl,⟨(fun h=>by cases h),fun h=>?_⟩⟩
    rw[d1,d2]at h;exact f2.2 (List.cons.inj h).1
   | true =>
    simp only[Bool.not_true,cond_false]
    rw[zAy (by omega)]
    obtain⟨z,g1,g2⟩:=zS9 hF hl hb q (i+1) (by omega) (by omega)
    refine⟨z,g1,?_⟩
    rw[d1,d2,g2,f2.1 rfl]
    simp
  ·rw[zAx (by omega),cond_false]
   obtain rfl:i=a.length :=(by omega);refine⟨true,rfl,?_⟩
   rw[List.drop_length,hl,List.drop_length]
   simp
theorem zJX:∀ N:Nat,(∀ x y:Nd,2 * x.cnt<N->x.cnt<=67108864->∃ r,zBO N x y=some r/\(r=true↔x=y)) /\
  (∀ a b:List Nd,2 * Nd.cnts a+1<N->Nd.cnts a<=67108864->∃ r,zCe N a b=some r/\(r=true↔a=b))
 | 0=>⟨fun _ _ h _=>by omega,fun _ _ h _=>by omega⟩
 | n+1=>by
  obtain⟨ih1,ih2⟩:=zJX n;refine⟨fun x y h hx=>?_,fun a b h ha=>?_⟩
  ·obtain⟨a,b,c,d⟩:=x;obtain⟨a',b',c',d'⟩:=y;simp only[Nd.cnt]at h hx;obtain⟨r,h1,h2⟩:=ih2 d d' (by omega) (by omega)
   unfold zBO;simp only[h1,obs]
   cases e1:a == a' with
   | false=>exact⟨false,rfl,⟨(fun h=>by cases h),fun h=>by cases h; simp at e1⟩⟩
   | true =>
    cases e2:b == b' with
    | false=>exact⟨false,rfl,⟨(fun h=>by cases h),fun h=>by cases h; simp at e2⟩⟩
    | true =>
     cases e3:c == c' with
     | false=>exact⟨false,rfl,⟨(fun h=>by cases h),fun h=>by cases h; simp at e3⟩⟩
     | true =>
      refine⟨r,rfl,h2.trans ⟨fun h=>?_,fun h=>by cases h; rfl⟩⟩
      rw[eq_of_beq e1,eq_of_beq e2,eq_of_beq e3,h]
  ·unfold zCe;have l1:=Nd.cnts_len a
   by_cases hl:a.length=b.length
   ·obtain⟨y,g1,g2⟩:=zS9 (F:=zBO n) (a:=a) (b:=b) (fun u hu v _=>ih1 u v (by have:=Nd.cnts_mem hu; omega) (by have:=Nd.cnts_mem hu; omega)) hl (by omega) n 0 (by omega) (by omega)
    rw[show((0:Nat):Int)=0 from rfl]at g1;rw[hl,bne_self_eq_false,cond_false,g1]
    refine⟨y,by cases y <;> rfl,g2⟩
   ·have:((a.length:Int) != (b.length:Int))=true:=by
     unfold bne;rw[zDP (by omega)]; rfl
    rw[this]
    exact⟨false,rfl,⟨(fun h=>by cases h),fun h=>absurd (congrArg List.length h) hl⟩⟩
theorem zMn {x:Nd} (h:zAz x=true):x = .mk 1 [] 0 x.kids/\zEZ 1 x.kids=true:=by
 unfold zAz at h;simp only[Bool.and_eq_true]at h;exact zUt h.2.1 (eq_of_beq h.1)
inductive Fd:Nd->List Int->Nd->Prop
 | nil (t:Nd):Fd t [] t
 | step {k:Int} {tx:List UInt8} {c:Int} {ks:List Nd} {i:Nat} {k2:Int} {tx2:List UInt8} {c2:Int} {ks2:List Nd} {s:Nat} {z r:Nd} {p:List Int}
   (hi:ks[i]? = some (.mk k2 tx2 c2 ks2)) (hs:ks2[s]? = some z) (h:Fd z p r):Fd (.mk k tx c ks) ((i:Int)::(s:Int)::p) r
theorem Fd.find {t r:Nd}{p:List Int} (h:Fd t p r):zB1 t p=some r:=by
 induction h with
 | nil t=>rw[zB1]
 | @step k tx c ks i k2 tx2 c2 ks2 s z r p hi hs _ ih =>
  have hl:=(List.getElem?_eq_some_iff.1 hi).1;have hl2:=(List.getElem?_eq_some_iff.1 hs).1;rw[zB1,if_pos ⟨by omega,show(i:Int)<(ks.length:Int) by omega⟩]
  simp only[Nd.kids,List.getD_eq_getElem?_getD,Int.toNat_natCast,hi,hs,Option.getD_some]
  rw[if_pos ⟨by omega,show(s:Int)<(ks2.length:Int) by omega⟩]
  exact ih
theorem Fd.of:∀ (N:Nat) (p:List Int) (t r:Nd),p.length<N->zB1 t p=some r->Fd t p r
 | 0,p,_,_,h,_=>by omega
 | N+1,[],t,r,_,h=>by
  rw[zB1]at h;cases h;exact .nil t
 | N+1,[_],t,r,_,h=>by
  rw[zB1]at h;cases h
 | N+1,i::s::p,.mk k tx c ks,r,hN,h=>by
  rw[zB1]at h;split at h
  ·rename_i hi
   replace hi:0<=i/\i<ks.length:=hi;obtain⟨i,rfl⟩:=Int.eq_ofNat_of_zero_le hi.1;have hx:ks[i]? = some ks[i]:=List.getElem?_eq_getElem (by omega)
   generalize ks[i]=x at hx;obtain⟨k2,tx2,c2,ks2⟩:=x;simp only[Nd.kids,List.getD_eq_getElem?_getD,Int.toNat_natCast,hx,Option.getD_some]at h;split at h
   ·rename_i hs
    obtain⟨s,rfl⟩:=Int.eq_ofNat_of_zero_le hs.1;have hz:ks2[s]? = some ks2[s]:=List.getElem?_eq_getElem (by omega)
    generalize ks2[s]=z at hz;rw[Int.toNat_natCast,hz,Option.getD_some]at h;exact .step hx hz (Fd.of N p z r (by simp only[List.length_cons]at hN; omega) h)
   ·cases h
  ·cases h
theorem zYy {p:List Int}{t r:Nd} (h:zB1 t p=some r):Fd t p r:=Fd.of _ p t r (Nat.lt_succ_self _) h
theorem zJM {t r:Nd}:putL t [] r=r:=by cases t; rw[putL]; intros; contradiction
theorem zFI {k:Int}{tx:List UInt8}{c:Int}{ks:List Nd}{i:Nat}{k2:Int}{tx2:List UInt8}{c2:Int}{ks2:List Nd}{s:Nat}{z r:Nd}{p:List Int} (hi:ks[i]? = some (.mk k2 tx2 c2 ks2)) (hs:ks2[s]? = some z) :
  putL (.mk k tx c ks) ((i:Int)::(s:Int)::p) r = .mk k tx c (ks.set i (.mk k2 tx2 c2 (ks2.set s (putL z p r)))):=by
 rw[putL,Int.toNat_natCast,hi]
 dsimp only;rw[Int.toNat_natCast,hs]
theorem zPk:∀ {ks:List Nd}{i:Nat}{x y:Nd},ks[i]? = some x->Nd.ws (ks.set i y)+x.w=Nd.ws ks+y.w
 | [],i,x,y,h=>by simp at h
 | v::ks,0,x,y,h=>by
  obtain rfl:v=x :=(by simpa using h);simp only[List.set_cons_zero,Nd.ws]; omega
 | v::ks,i+1,x,y,h=>by
  have:=zPk (ks:=ks) (i:=i) (x:=x) (y:=y) (by simpa using h)
  simp only[List.set_cons_succ,Nd.ws]; omega
theorem Fd.w {t z:Nd}{p:List Int} (h:Fd t p z) (r:Nd):(putL t p r).w+z.w=t.w+r.w:=by
 induction h with
 | nil t=>rw[zJM]; omega
 | @step k tx c ks i k2 tx2 c2 ks2 s z r' p hi hs _ ih =>
  rw[zFI hi hs]
  have h1:=zPk (y:=.mk k2 tx2 c2 (ks2.set s (putL z p r))) hi;have h2:=zPk (y:=putL z p r) hs;simp only[Nd.w]at *
  omega
theorem zTb {α:Type}{l:List α}{i:Nat}{x y:α} (h:l[i]? = some x):(l.set i y)[i]? = some y:=by
 rw[List.getElem?_set,if_pos rfl,if_pos (List.getElem?_eq_some_iff.1 h).1]
theorem zNR {α:Type}{l:List α}{i:Nat}{x y:α} (h:l[i]? = some x):(l.set i y).set i x=l:=by
 refine List.ext_getElem? fun j=>?_
 rw[List.set_set,List.getElem?_set]
 split
 ·rename_i e
  subst e;rw[if_pos (List.getElem?_eq_some_iff.1 h).1,h]
 ·rfl
theorem Fd.put {t z:Nd}{p:List Int} (h:Fd t p z) (r:Nd):Fd (putL t p r) p r:=by
 induction h with
 | nil t=>rw[zJM]; exact .nil r
 | @step k tx c ks i k2 tx2 c2 ks2 s z r' p hi hs _ ih =>
  rw[zFI hi hs]
  exact .step (zTb hi) (zTb hs) ih
theorem Fd.put_put {t z:Nd}{p:List Int} (h:Fd t p z) (r q:Nd):putL (putL t p r) p q=putL t p q:=by
 induction h with
 | nil t=>simp only[zJM]
 | @step k tx c ks i k2 tx2 c2 ks2 s z r' p hi hs _ ih =>
  rw[zFI hi hs,zFI hi hs,zFI (zTb hi) (zTb hs),ih]
  simp only[List.set_set]
theorem Fd.put_self {t z:Nd}{p:List Int} (h:Fd t p z):putL t p z=t:=by
 induction h with
 | nil t=>rw[zJM]
 | @step k tx c ks i k2 tx2 c2 ks2 s z r' p hi hs _ ih =>
  rw[zFI hi hs,ih]
  have e1:ks2.set s z=ks2:=by
   have:=zNR (y:=z) hs
   rwa [List.set_set]at this
  have e2:ks.set i (.mk k2 tx2 c2 ks2)=ks:=by
   have:=zNR (y:=.mk k2 tx2 c2 ks2) hi
   rwa [List.set_set]at this
  rw[e1,e2]
theorem Fd.back {t z:Nd}{p:List Int} (h:Fd t p z) (r:Nd):putL (putL t p r) p z=t:=by rw[h.put_put,h.put_self]
theorem zJe:∀ {ks:List Nd}{v:Nd},v∈ks->v.dep<=Nd.deps ks
 | u::ks,v,h=>by
  simp only[Nd.deps]
  rcases List.mem_cons.1 h with rfl | h
  ·exact Nat.le_max_left _ _
  ·exact Nat.le_trans (zJe h) (Nat.le_max_right _ _)
theorem zOp {k:Int}{tx:List UInt8}{c:Int}{ks:List Nd} (h:zG3 (.mk k tx c ks)=true):zEZ k ks=true:=by
 simp only[zG3,Bool.and_eq_true]at h;exact h.2
theorem Fd.form {t z:Nd}{p:List Int} (h:Fd t p z) (hf:zG3 t=true) (hk:t.kind=1):zG3 z=true/\z.kind=1:=by
 induction h with
 | nil t=>exact⟨hf,hk⟩
 | @step k tx c ks i k2 tx2 c2 ks2 s z r' p hi hs _ ih =>
  obtain⟨f1,f2⟩:=zIa (zOp hf) (List.mem_of_getElem? hi)
  obtain⟨g1,g2⟩:=zIa (zOp f1) (List.mem_of_getElem? hs)
  have hk:k=1:=hk;subst hk;have f3:(k2 == 1)=false :=(by simpa [Nd.kind] using f2);rw[f3]at g2;refine ih g1 ?_;cases e:z.kind == 1 with
  | true=>exact eq_of_beq e
  | false=>rw[e]at g2; cases g2
theorem Fd.small {t z:Nd}{p:List Int} (h:Fd t p z):z.cnt<=t.cnt/\z.dep<=t.dep/\z.w<=t.w:=by
 induction h with
 | nil t=>exact⟨Nat.le_refl _,Nat.le_refl _,Nat.le_refl _⟩
 | @step k tx c ks i k2 tx2 c2 ks2 s z r' p hi hs _ ih =>
  have m1:=Nd.w_mem (List.mem_of_getElem? hi)
  have m2:=Nd.w_mem (List.mem_of_getElem? hs)
  have n1:=Nd.cnts_mem (List.mem_of_getElem? hi)
  have n2:=Nd.cnts_mem (List.mem_of_getElem? hs)
  have d1:=zJe (List.mem_of_getElem? hi)
  have d2:=zJe (List.mem_of_getElem? hs)
  simp only[Nd.w,Nd.cnt,Nd.dep]at *
  omega
theorem Fd.valid {t z:Nd}{p:List Int} (h:Fd t p z) (hv:zAz t=true):zAz z=true:=by
 unfold zAz at hv ⊢;simp only[Bool.and_eq_true,decide_eq_true_eq]at hv ⊢;obtain⟨h1,h2,h3,h4⟩:=hv;obtain⟨f1,f2⟩:=h.form h2 (eq_of_beq h1)
 obtain⟨s1,s2,_⟩:=h.small;exact⟨by rw[f2]; rfl,f1,by omega,by omega⟩
mutual
def posI:List Int->Nat->List Nd->List (List Int)
 | p,i,[]=>[p++[(i:Int)]]
 | p,i,x::xs=>(p++[(i:Int)])::(posX p i x++posI p (i+1) xs)
def posX:List Int->Nat->Nd->List (List Int)
 | p,i,.mk _ _ _ ks=>posS p i 0 ks
def posS:List Int->Nat->Nat->List Nd->List (List Int)
 | _,_,_,[]=>[]
 | p,i,s,u::us=>posU (p++[(i:Int),(s:Int)]) u++posS p i (s+1) us
def posU:List Int->Nd->List (List Int)
 | p,.mk _ _ _ ks=>posI p 0 ks
end
def inL:List Nd->List Int->Prop
 | l,[o]=>0<=o/\o<=(l.length:Int)
 | l,i::s::r=>0<=i/\∃ x,l[i.toNat]? = some x/\0<=s/\∃ u,x.kids[s.toNat]? = some u/\inL u.kids r
 | _,[]=>False
theorem zOs {l:List Nd}{o:Int}:inL l [o]↔0<=o/\o<=(l.length:Int):=Iff.rfl
theorem zG4 {l:List Nd}{i s:Int}{r:List Int}:inL l (i::s::r)↔0<=i/\∃ x,l[i.toNat]? = some x/\0<=s/\∃ u,x.kids[s.toNat]? = some u/\inL u.kids r:=by
 cases r <;> rfl
mutual
theorem zUC:∀ (p:List Int) (i:Nat) (xs:List Nd) (q:List Int),q∈posI p i xs↔∃ a r,q=p++a::r/\(i:Int)<=a/\inL xs ((a - i)::r)
 | p,i,[],q=>by
  rw[posI,List.mem_singleton]
  constructor
  ·rintro rfl
   exact⟨i,[],rfl,Int.le_refl _,by rw[Int.sub_self]; exact⟨Int.le_refl _,Int.le_refl _⟩⟩
  ·rintro⟨a,r,rfl,h1,h2⟩
   cases r with
   | nil =>
    have:=zOs.1 h2
    have e:a=i:=by simp at this; omega
    rw[e]
   | cons s r =>
    obtain⟨_,x,h,_⟩:=zG4.1 h2
    simp at h
 | p,i,x::xs,q=>by
  rw[posI,List.mem_cons,List.mem_append,zXn p i x q,zUC p (i+1) xs q]
  constructor
  ·rintro(rfl | ⟨s,r,rfl,h0,u,h1,h2⟩ | ⟨a,r,rfl,h1,h2⟩)
   ·exact⟨i,[],rfl,Int.le_refl _,by rw[Int.sub_self]; exact⟨Int.le_refl _,by simp; omega⟩⟩
   ·refine⟨i,s::r,by simp,Int.le_refl _,?_⟩
    rw[Int.sub_self]
    exact zG4.2 ⟨Int.le_refl _,x,rfl,h0,u,h1,h2⟩
   ·refine⟨a,r,rfl,by omega,?_⟩
    have e:a - (i:Int)=(a - ((i+1:Nat):Int))+1:=by omega
    rw[e]
    cases r with
    | nil =>
     have:=zOs.1 h2
     exact⟨by omega,by simp; omega⟩
    | cons s r =>
     obtain⟨g0,y,g1,g2⟩:=zG4.1 h2
     refine zG4.2 ⟨by omega,y,?_,g2⟩
     rw[show(a - ((i+1:Nat):Int)+1).toNat=(a - ((i+1:Nat):Int)).toNat+1 by omega]
     simpa using g1
  ·rintro⟨a,r,rfl,h1,h2⟩
   by_cases ha:a=i
   ·subst ha
    rw[Int.sub_self]at h2
    cases r with
    | nil=>exact .inl rfl
    | cons s r =>
     obtain⟨g0,y,g1,g2,u,g3,g4⟩:=zG4.1 h2
     obtain rfl:x=y:=by simpa using g1
     exact .inr (.inl ⟨s,r,by simp,g2,u,g3,g4⟩)
   ·refine .inr (.inr ⟨a,r,rfl,by omega,?_⟩)
    have e:a - (i:Int)=(a - ((i+1:Nat):Int))+1:=by omega
    rw[e]at h2
    cases r with
    | nil =>
     have:=zOs.1 h2
     exact⟨by omega,by simp at this; omega⟩
    | cons s r =>
     obtain⟨g0,y,g1,g2⟩:=zG4.1 h2
     refine zG4.2 ⟨by omega,y,?_,g2⟩
     rw[show(a - ((i+1:Nat):Int)+1).toNat=(a - ((i+1:Nat):Int)).toNat+1 by omega]at g1
     simpa using g1
theorem zXn:∀ (p:List Int) (i:Nat) (x:Nd) (q:List Int),q∈posX p i x↔∃ s r,q=p++[(i:Int)]++s::r/\0<=s/\∃ u,x.kids[s.toNat]? = some u/\inL u.kids r
 | p,i,.mk k t c ks,q=>by
  rw[posX,zUD p i 0 ks q]
  constructor
  ·rintro⟨s,r,h1,h2,u,h3,h4⟩
   exact⟨s,r,h1,by omega,u,by simpa [Nd.kids] using h3,h4⟩
  ·rintro⟨s,r,h1,h2,u,h3,h4⟩
   exact⟨s,r,h1,by omega,u,by simpa [Nd.kids] using h3,h4⟩
theorem zUD:∀ (p:List Int) (i s:Nat) (us:List Nd) (q:List Int),q∈posS p i s us↔∃ b r,q=p++[(i:Int)]++b::r/\(s:Int)<=b/\∃ u,us[(b - s).toNat]? = some u/\inL u.kids r
 | p,i,s,[],q=>by
  rw[posS]
  constructor
  ·intro h; cases h
  ·rintro⟨b,r,_,_,u,h,_⟩; simp at h
 | p,i,s,u::us,q=>by
  rw[posS,List.mem_append,zUE (p++[(i:Int),(s:Int)]) u q,zUD p i (s+1) us q]
  constructor
  ·rintro(⟨r,rfl,h⟩ | ⟨b,r,rfl,h1,v,h2,h3⟩)
   ·exact⟨s,r,by simp,Int.le_refl _,u,by rw[Int.sub_self]; rfl,h⟩
   ·refine⟨b,r,rfl,by omega,v,?_,h3⟩
    rw[show(b - (s:Int)).toNat=(b - ((s+1:Nat):Int)).toNat+1 by omega]
    simpa using h2
  ·rintro⟨b,r,rfl,h1,v,h2,h3⟩
   by_cases hb:b=s
   ·subst hb
    rw[Int.sub_self]at h2
    obtain rfl:u=v:=by simpa using h2
    exact .inl ⟨r,by simp,h3⟩
   ·refine .inr ⟨b,r,rfl,by omega,v,?_,h3⟩
    rw[show(b - (s:Int)).toNat=(b - ((s+1:Nat):Int)).toNat+1 by omega]at h2
    simpa using h2
theorem zUE:∀ (p:List Int) (u:Nd) (q:List Int),q∈posU p u↔∃ r,q=p++r/\inL u.kids r
 | p,.mk k t c ks,q=>by
  rw[posU,zUC p 0 ks q]
  constructor
  ·rintro⟨a,r,rfl,h1,h2⟩
   exact⟨a::r,rfl,by simpa [Nd.kids] using h2⟩
  ·rintro⟨r,rfl,h⟩
   cases r with
   | nil=>exact h.elim
   | cons a r =>
    refine⟨a,r,rfl,?_,by simpa [Nd.kids] using h⟩
    cases r with
    | nil=>exact(zOs.1 h).1
    | cons s r=>exact(zG4.1 h).1
end
def posT (t:Nd):List (List Int):=posU [] t
theorem zRd (t:Nd) (q:List Int):q∈posT t↔inL t.kids q:=by
 unfold posT;rw[zUE]
 constructor
 ·rintro⟨r,rfl,h⟩; exact h
 ·intro h; exact⟨q,rfl,h⟩
mutual
theorem zRy:∀ (p:List Int) (i:Nat) (xs:List Nd),(posI p i xs).length<=Nd.cnts xs+1
 | p,i,[]=>by rw[posI]; simp
 | p,i,x::xs=>by
  have h1:=zXw p i x
  have h2:=zRy p (i+1) xs
  rw[posI]
  simp only[List.length_cons,List.length_append,Nd.cnts]
  omega
theorem zXw:∀ (p:List Int) (i:Nat) (x:Nd),(posX p i x).length+1<=x.cnt
 | p,i,.mk k t c ks=>by
  have h:=zUL p i 0 ks
  rw[posX]
  simp only[Nd.cnt]
  omega
theorem zUL:∀ (p:List Int) (i s:Nat) (us:List Nd),(posS p i s us).length<=Nd.cnts us
 | p,i,s,[]=>by rw[posS]; simp
 | p,i,s,u::us=>by
  have h1:=zUM (p++[(i:Int),(s:Int)]) u
  have h2:=zUL p i (s+1) us
  rw[posS]
  simp only[List.length_append,Nd.cnts]
  omega
theorem zUM:∀ (p:List Int) (u:Nd),(posU p u).length<=u.cnt
 | p,.mk k t c ks=>by
  have h:=zRy p 0 ks
  rw[posU]
  simp only[Nd.cnt]
  omega
end
theorem zXv (t:Nd):(posT t).length<=t.cnt:=zUM [] t
theorem zWe:∀ (q:List Int) (l:List Nd),inL l q->q.length<=2 * Nd.deps l+1
 | [],_,h=>h.elim
 | [_],_,_=>by simp
 | i::s::r,l,h=>by
  obtain⟨_,x,h1,_,u,h2,h3⟩:=zG4.1 h;have ih:=zWe r u.kids h3;have d1:=zJe (List.mem_of_getElem? h1)
  have d2:=zJe (List.mem_of_getElem? h2)
  have e1:x.dep=Nd.deps x.kids+1 :=(by cases x; rfl);have e2:u.dep=Nd.deps u.kids+1 :=(by cases u; rfl);simp only[List.length_cons]
  omega
def hd (l:List UInt8) (s:List UInt8):Prop:=∀ b r,l=b::r->b∈s
theorem zQm {F:Nd->Nd->Option Bool}{a b:List Nd} (hF:∀ u∈a,∀ v∈b,∃ y,F u v=some y/\(y=true↔u=v)) (hl:a.length=b.length) (hb:a.length<=1073741824) :
  ∀ (q i:Nat),a.length - i<q->i<=a.length->∃ y,zAO F a b q (i:Int)=some (if y then .go () else .ret false)/\(y=true↔a.drop i=b.drop i)
 | 0,_,h,_=>by omega
 | q+1,i,hq,hi=>by
  unfold zAO
  by_cases h:i<a.length
  ·have h':i<b.length :=(by omega);rw[zAB (Int.ofNat_lt.2 h),cond_true,zAv h,zAv h']
   obtain⟨y,f1,f2⟩:=hF _ (List.getElem_mem h) _ (List.getElem_mem h')
   have d1:=List.drop_eq_getElem_cons h;have d2:=List.drop_eq_getElem_cons h';rcases e:a[i] with ⟨x1,x2,x3,x4⟩
   rcases e':b[i] with ⟨y1,y2,y3,y4⟩
   rw[e,e']at f1 f2;rw[e]at d1;rw[e']at d2;simp only[obs,f1]
   cases y with
   | false =>
    refine⟨false,rfl,⟨(fun h=>by cases h),fun h=>?_⟩⟩
    rw[d1,d2]at h;exact f2.2 (List.cons.inj h).1
   | true =>
    simp only[Bool.not_true,cond_false]
    rw[zAy (by omega)]
    obtain⟨z,g1,g2⟩:=zQm hF hl hb q (i+1) (by omega) (by omega)
    refine⟨z,g1,?_⟩
    rw[d1,d2,g2,f2.1 rfl]
    simp
  ·rw[zAx (by omega),cond_false]
   obtain rfl:i=a.length :=(by omega);refine⟨true,rfl,?_⟩
   rw[List.drop_length,hl,List.drop_length]
   simp
theorem zIC:∀ N:Nat,(∀ x y:Nd,2 * x.cnt<N->x.cnt<=67108864->∃ r,zCB N x y=some r/\(r=true↔x=y)) /\
  (∀ a b:List Nd,2 * Nd.cnts a+1<N->Nd.cnts a<=67108864->∃ r,zA4 N a b=some r/\(r=true↔a=b))
 | 0=>⟨fun _ _ h _=>by omega,fun _ _ h _=>by omega⟩
 | n+1=>by
  obtain⟨ih1,ih2⟩:=zIC n;refine⟨fun x y h hx=>?_,fun a b h ha=>?_⟩
  ·obtain⟨a,b,c,d⟩:=x;obtain⟨a',b',c',d'⟩:=y;simp only[Nd.cnt]at h hx;obtain⟨r,h1,h2⟩:=ih2 d d' (by omega) (by omega)
   unfold zCB;simp only[h1,obs]
   cases e1:a == a' with
   | false=>exact⟨false,rfl,⟨(fun h=>by cases h),fun h=>by cases h; simp at e1⟩⟩
   | true =>
    cases e2:b == b' with
    | false=>exact⟨false,rfl,⟨(fun h=>by cases h),fun h=>by cases h; simp at e2⟩⟩
    | true =>
     cases e3:c == c' with
     | false=>exact⟨false,rfl,⟨(fun h=>by cases h),fun h=>by cases h; simp at e3⟩⟩
     | true =>
      refine⟨r,rfl,h2.trans ⟨fun h=>?_,fun h=>by cases h; rfl⟩⟩
      rw[eq_of_beq e1,eq_of_beq e2,eq_of_beq e3,h]
  ·unfold zA4;have l1:=Nd.cnts_len a
   by_cases hl:a.length=b.length
   ·obtain⟨y,g1,g2⟩:=zQm (F:=zCB n) (a:=a) (b:=b) (fun u hu v _=>ih1 u v (by have:=Nd.cnts_mem hu; omega) (by have:=Nd.cnts_mem hu; omega)) hl (by omega) n 0 (by omega) (by omega)
    rw[show((0:Nat):Int)=0 from rfl]at g1;rw[hl,bne_self_eq_false,cond_false,g1]
    refine⟨y,by cases y <;> rfl,g2⟩
   ·have:((a.length:Int) != (b.length:Int))=true:=by
     unfold bne;rw[zDP (by omega)]; rfl
    rw[this]
    exact⟨false,rfl,⟨(fun h=>by cases h),fun h=>absurd (congrArg List.length h) hl⟩⟩
theorem zNf {n:Nd}{i s:Int}{p:List Int} (h:¬ (0<=i/\i<n.kids.length)):zB1 n (i::s::p)=none:=by rw[zB1,if_neg h]
theorem zNg {n x:Nd}{i:Nat}{s:Int}{p:List Int} (hx:n.kids[i]? = some x) (h:¬ (0<=s/\s<x.kids.length)):zB1 n ((i:Int)::s::p)=none:=by
 have hl:=(List.getElem?_eq_some_iff.1 hx).1;rw[zB1,if_pos ⟨by omega,by omega⟩]
 simp only[List.getD_eq_getElem?_getD,Int.toNat_natCast,hx,Option.getD_some]
 rw[if_neg h]
theorem zTA {n x z:Nd}{i s:Nat}{p:List Int} (hx:n.kids[i]? = some x) (hz:x.kids[s]? = some z):zB1 n ((i:Int)::(s:Int)::p)=zB1 z p:=by
 have hl:=(List.getElem?_eq_some_iff.1 hx).1;have hl2:=(List.getElem?_eq_some_iff.1 hz).1;rw[zB1,if_pos ⟨by omega,by omega⟩]
 simp only[List.getD_eq_getElem?_getD,Int.toNat_natCast,hx,hz,Option.getD_some]
 rw[if_pos ⟨by omega,by omega⟩]
theorem zVR {α:Type}{l:List α}{i:Int} (h0:0<=i) (h1:i<(l.length:Int)):∃ p:Nat,i=(p:Int)/\∃ h:p<l.length,at? l i=some l[p]:=by
 obtain⟨p,rfl⟩:=Int.eq_ofNat_of_zero_le h0;exact⟨p,rfl,by omega,zAv (by omega)⟩
theorem zQe:∀ (k:Nat) (t:Nd) (path:List Int),path.length<k ->
  (zB1 t path=none/\∃ r,zEq k t.kind t.text t.cols t.kids path=some (.ret (r,false))) ∨
  (zB1 t path=none/\∃ (r:Nd) (p:List Int),p ≠ []/\zEq k t.kind t.text t.cols t.kids path=some (.go (p,r.kind,r.text,r.cols,r.kids))) ∨
  ∃ r,zB1 t path=some r/\zEq k t.kind t.text t.cols t.kids path=some (.go ([],r.kind,r.text,r.cols,r.kids))
 | 0,_,_,h=>by omega
 | k+1,t,path,h=>by
  unfold zEq
  match path,h with
  | [],h=>exact .inr (.inr ⟨t,rfl,rfl⟩)
  | [x],h=>exact .inr (.inl ⟨rfl,t,[x],by simp,rfl⟩)
  | x::y::p,h =>
   have e0:at? (x::y::p) (0:Int)=some x:=rfl;have e1:at? (x::y::p) (1:Int)=some y:=rfl;have e2:(((x::y::p).take (((x::y::p).length:Int)).toNat).drop (2:Int).toNat)=p:=by
    rw[Int.toNat_natCast,List.take_length]; rfl
   rw[zAB (by simp only[List.length_cons]; omega),cond_true]
   simp only[e0,e1,obs,e2]
   by_cases h1:x<0
   ·rw[zAB h1]; exact .inl ⟨zNf (fun h=>by omega),_,rfl⟩
   ·rw[zAx h1]
    by_cases h2:(t.kids.length:Int)<=x
    ·rw[zAB h2]; exact .inl ⟨zNf (fun h=>by omega),_,rfl⟩
    ·rw[zAx h2]
     obtain⟨i,rfl,hi,hg⟩:=zVR (l:=t.kids) (i:=x) (by omega) (by omega)
     rw[hg]
     have hgi:t.kids[i]? = some t.kids[i]:=List.getElem?_eq_getElem hi;generalize t.kids[i]=e at hgi;obtain⟨x1,x2,x3,x4⟩:=e;simp only[cond_false,obs]
     by_cases h3:y<0
     ·rw[zAB h3]; exact .inl ⟨zNg hgi (fun h=>by omega),_,rfl⟩
     ·rw[zAx h3]
      by_cases h4:(x4.length:Int)<=y
      ·rw[zAB h4]; exact .inl ⟨zNg hgi (fun h=>by have:y<x4.length:=h.2; omega),_,rfl⟩
      ·rw[zAx h4]
       obtain⟨j,rfl,hj,hg2⟩:=zVR (l:=x4) (i:=y) (by omega) (by omega)
       rw[hg2]
       have hgj:x4[j]? = some x4[j]:=List.getElem?_eq_getElem hj;generalize x4[j]=f at hgj;obtain⟨y1,y2,y3,y4⟩:=f;simp only[cond_false,obs]
       rw[zAK ⟨by omega,by simp only[List.length_cons]; omega,by omega⟩]
       rw[zTA hgi hgj]
       exact zQe k (.mk y1 y2 y3 y4) p (by simp only[List.length_cons]at h; omega)
theorem zTU (n:Nat) (t:Nd) (path:List Int) (h:path.length<n):∃ r ok,zMB n t path=some (r,ok)/\zB1 t path=bif ok then some r else none:=by
 obtain⟨a,b,c,d⟩:=t;unfold zMB;dsimp only;rcases zQe n (.mk a b c d) path h with ⟨h0,r,h1⟩ | ⟨h0,r,p,hp,h1⟩ | ⟨r,h0,h1⟩
 ·simp only[Nd.kind,Nd.text,Nd.cols,Nd.kids]at h1;rw[h1]
  exact⟨r,false,rfl,h0⟩
 ·obtain⟨r1,r2,r3,r4⟩:=r;simp only[Nd.kind,Nd.text,Nd.cols,Nd.kids]at h1;rw[h1]
  refine⟨.mk r1 r2 r3 r4,false,?_,h0⟩
  have:((p.length:Int) == 0)=false:=beq_eq_false_iff_ne.2 fun e=>hp (List.eq_nil_of_length_eq_zero (by omega))
  simp only[obs,this]
 ·obtain⟨r1,r2,r3,r4⟩:=r;simp only[Nd.kind,Nd.text,Nd.cols,Nd.kids]at h1;rw[h1]
  exact⟨.mk r1 r2 r3 r4,true,rfl,h0⟩
def rowS (t:Nd) (p:List Int):Nd×Int:=if zAz t=true then (match zB1 t p with | some r=>(r,0) | none=>(zD6,8)) else (zD6,1)
theorem zSr:∀ (N:Nat) (p:List Int) (t r:Nd),p.length<N->zB1 t p=some r->r.w<=t.w/\r.cnt<=t.cnt
 | 0,p,_,_,h,_=>by omega
 | N+1,[],t,r,_,h=>by
  rw[zB1]at h;cases h;exact⟨Nat.le_refl _,Nat.le_refl _⟩
 | N+1,[_],t,r,_,h=>by
  rw[zB1]at h;cases h
 | N+1,i::s::p,.mk k tx c ks,r,hN,h=>by
  rw[zB1]at h;split at h
  ·rename_i hi
   replace hi:0<=i/\i<ks.length:=hi;have hi0:i.toNat<ks.length :=(by omega);have hx:ks[i.toNat]? = some ks[i.toNat]:=List.getElem?_eq_getElem hi0;generalize ks[i.toNat]=x at hx;obtain⟨k2,tx2,c2,ks2⟩:=x;simp only[Nd.kids,List.getD_eq_getElem?_getD,hx,Option.getD_some]at h;split at h
   ·rename_i hs
    have hs0:s.toNat<ks2.length :=(by omega);have hz:ks2[s.toNat]? = some ks2[s.toNat]:=List.getElem?_eq_getElem hs0;generalize ks2[s.toNat]=z at hz;rw[hz,Option.getD_some]at h;obtain⟨q1,q2⟩:=zSr N p z r (by simp only[List.length_cons]at hN; omega) h;have m1:=Nd.w_mem (List.mem_of_getElem? hx)
    have m2:=Nd.w_mem (List.mem_of_getElem? hz)
    have n1:=Nd.cnts_mem (List.mem_of_getElem? hx)
    have n2:=Nd.cnts_mem (List.mem_of_getElem? hz)
    simp only[Nd.w,Nd.cnt]at m1 m2 n1 n2 ⊢
    omega
   ·cases h
  ·cases h
theorem zVs (n:Nat) (t:Nd) (p:List Int) (hp:p.length<n) (hv:zBQ n t=some (zAz t)):zOy n t p=some (rowS t p):=by
 obtain⟨r,ok,h1,h2⟩:=zTU n t p hp;obtain⟨k,tx,c,ks⟩:=t;unfold zOy rowS;dsimp only;rw[hv]
 simp only[obs]
 cases hb:zAz (.mk k tx c ks) with
 | false=>rfl
 | true =>
  rw[h1,h2]
  obtain⟨r1,r2,r3,r4⟩:=r;cases ok <;> rfl
theorem zK0 {t:Nd} (h:t.cnt<=1000000000):zB2 t=some t:=zAK h
theorem zTK (n:Nat) (t:Nd) (p:List Int) (hv:zBb n t=some (zAz t)) (hc:t.cnt<=1000000000):zIe n t p=some (rowS t p):=by
 unfold zIe rowS;rw[hv]
 simp only[obs]
 split
 ·cases hf:zB1 t p with
  | none=>rfl
  | some r =>
   have:=(zSr _ p t r (Nat.lt_succ_self _) hf).2;simp only[zK0 (Nat.le_trans this hc),obs]
 ·rfl
theorem zOf {α:Type}{l:List α}{i:Nat}{x:α} (h:l[i]? = some x):at? l (i:Int)=some x:=by
 have hl:=(List.getElem?_eq_some_iff.1 h).1;rw[zAv hl,← List.getElem?_eq_getElem hl,h]
theorem zJN {k:Int}{tx:List UInt8}{c:Int}{ks:List Nd}{i:Nat}{x y:Nd} (hi:ks[i]? = some y) (hl:ks.length<=4294967296):zDj (.mk k tx c ks) (i:Int) x=some (.mk k tx c (ks.set i x)):=by
 obtain⟨x1,x2,x3,x4⟩:=x;obtain⟨y1,y2,y3,y4⟩:=y;unfold zDj;dsimp only;rw[zAK (by simpa using hl),zOf hi]
 simp only[obs,Int.toNat_natCast]
def zUd (t:Nd) (p:List Int) (r:Nd):Nd×Int:=if zAz t=true then (match zB1 t p with
 | some _=>if zAz r=true then (if zAz (putL t p r)=true then (putL t p r,0) else (zD6,6)) else (zD6,4)
 | none=>(zD6,8)) else (zD6,1)
theorem zSH (n:Nat) (t:Nd) (p:List Int) (r:Nd) (hv:zBb n t=some (zAz t)) (hr:zBb n r=some (zAz r)) (hp:∀ z,Fd t p z->zBb n (putL t p r)=some (zAz (putL t p r))) (hc:t.cnt<=1000000000) (hcr:r.cnt<=1000000000) :
  zFD n t p r=some (zUd t p r):=by
 unfold zFD zUd;rw[hv,zK0 hc,hr,zK0 hcr]
 simp only[obs]
 split
 ·cases hf:zB1 t p with
  | none=>rfl
  | some z =>
   dsimp only;rw[hp z (zYy hf)]
   simp only[obs]
   split
   ·split <;> rfl
   ·rfl
 ·rfl
theorem zXV {t z r:Nd}{p:List Int} (hv:zAz t=true) (h:zB1 t p=some z) (hr:zAz r=true) (hp:zAz (putL t p r)=true):zUd t p r=(putL t p r,0):=by unfold zUd; rw[if_pos hv,h]; dsimp only; rw[if_pos hr,if_pos hp]
abbrev Op8:=Int×List Int×Int×Int×List Nd×Int×List UInt8×List UInt8
def Op8.nodes (o:Op8):List Nd:=o.2.2.2.2.1
theorem take3 {α:Type} (l:List α){p q:Nat} (h:p<=q):(l.take p++(l.take q).drop p)++l.drop q=l:=by
 have:l.take p=(l.take q).take p :=(by rw[List.take_take,Nat.min_eq_left h]);rw[this,List.take_append_drop,List.take_append_drop]
theorem zTg (l by':List Nd){p q:Nat} (h:p<=q):Nd.ws ((l.take p++by')++l.drop q)+Nd.ws ((l.take q).drop p)=Nd.ws l+Nd.ws by':=by
 have:=congrArg Nd.ws (take3 l h)
 rw[Nd.ws_append,Nd.ws_append]at this ⊢
 omega
theorem zWV (l by':List Nd) (p q:Nat) (hp:p<=l.length) (hq:q<=l.length) (hl:l.length<=1073741824) (hb:by'.length<=1073741824) :
  zDy l (p:Int) (q:Int) by'=some ((l.take p++by')++l.drop q):=by
 unfold zDy;dsimp only;have e1:(l.take (p:Int).toNat).drop (0:Int).toNat=l.take p :=(by simp);have e2:(l.take (l.length:Int).toNat).drop (q:Int).toNat=l.drop q :=(by simp);rw[e1,e2,zAK ⟨by omega,by omega,by omega⟩,zAK (by simp; omega),zAK (by simp; omega),zAK ⟨by omega,by omega,by omega⟩,zAK (by simp; omega)]
theorem zTr (t:Nd) (i:Nat) (v:Nd) (h:i<t.kids.length) (hl:t.kids.length<=1073741824):zDj t (i:Int) v=some (.mk t.kind t.text t.cols (t.kids.set i v)):=by
 obtain⟨a,b,c,d⟩:=t;obtain⟨a',b',c',d'⟩:=v;simp only[Nd.kids]at h hl;unfold zDj;simp only;rw[zAK (by simp; omega),zAv h]
 rcases e:d[i] with ⟨x1,x2,x3,x4⟩
 simp only[obs,Int.toNat_natCast,Nd.kind,Nd.text,Nd.cols,Nd.kids]
theorem zSq (t:Nd) (i:Nat) (l:List Nd) (h:i<t.kids.length) (hl:t.kids.length<=1073741824) (hl2:l.length<=1073741824):zF4 t (i:Int) l=some (.mk t.kind t.text t.cols (t.kids.set i (.mk 1 [] 0 l))):=by
 have:=zTr t i (.mk 1 [] 0 l) h hl;obtain⟨a,b,c,d⟩:=t;unfold zF4;simp only[zDE,obs]
 rw[zAK (by simp; omega),this]
 rfl
theorem zXX {α:Type}{l:List α}{i:Int} (h0:0<=i) (h1:i<(l.length:Int)):∃ p:Nat,i=(p:Int)/\∃ h:p<l.length,at? l i=some l[p]:=by
 obtain⟨p,rfl⟩:=Int.eq_ofNat_of_zero_le h0;exact⟨p,rfl,by omega,zAv (by omega)⟩
theorem zHI (t:Nd):t.w=t.text.length+Nd.ws t.kids+1:=by cases t; rfl
theorem zX6 (l:List Nd){p q:Nat} (h:p<=q):Nd.ws ((l.take q).drop p)<=Nd.ws l:=by
 have:=zTg l [] h;simp only[Nd.ws]at this; omega
theorem zT7 (l:List Nd){p:Nat} (h:p<l.length):(l.take (p+1)).drop p=[l[p]]:=by
 rw[List.take_succ_eq_append_getElem h,List.drop_append_of_le_length (by simp; omega),List.drop_take]
 simp
end Go.Proofs.YtgplhldfbkmmgaaGreat
