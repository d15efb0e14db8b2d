/-
  Joined out of: FnE, LibE, FnF, LibL, FnC, FnHA, FnHB, PTypN, PCnt, PByte, PText, PVal, PDist, PMet, PPut, PPos, PDump, PRow, PWt, PEdit1, PEdit4, PEdit5, PDif4.
-/
import Derived.Lib.ItoaLen
import Derived.Test.YtgplhldfbkmmgaaZc
set_option linter.unusedVariables false
set_option linter.unusedSimpArgs false
set_option maxHeartbeats 2000000
set_option maxRecDepth 100000
namespace Go.Proofs.Ytgplhldfbkmmgaa
open Go.Abs
def zAm (p:List Nd):List S:=[.sl 4 (Nd.encs p)]
def zFC (n:Nat) (xs:List AV) (r:Ret):Prop:=∃ (a0:List (List Nd)) (y0:List Nd),zCk n a0=some y0/\xs=[.s (.sl 1 ((List.map zAm) a0))]/\r = .row 24 4 (Nd.encs y0)
def zDB:zAv:=zAx fun xs r=>∃ n,zFC n xs r
theorem zFA:PSound Try.prog 97 zDB:=by
 have gok:∀ f s,look? f [(99,zEb)]=some s->PSound Try.prog f s:=zAs (by
  simp only[List.forall_mem_cons]
  exact⟨zGs,by simp⟩)
 refine zAz tokW Try.call97 Try.func97 rfl (fun xs r h=>by obtain⟨n,_,_,_,rfl,_⟩:=h; show 1<=36; decide) 36 rfl ?_;rintro xs r w0 G0 ⟨n,slices1,y0,h,rfl,rfl⟩ _;rw[zCk]at h;refine zQE [2] [] rfl ?_;show Tri ..;refine zAk (Le.rnm [] [(0,.s (.sl 1 ((List.map zAm) slices1)))] [] 0 ⟨rfl,trivial⟩ trivial) ?_;refine zQE [] [] rfl ?_;show Tri ..;refine zAa ?_;refine zQE [] [10] rfl ?_;intro n2 hn2;obtain rfl:(slices1.length:Int)=n2:=(hn2.trans (congrArg (fun m:Nat=>(m:Int)) (rlen (fun _=>rfl) slices1))).symm;show Tri ..
 obtain⟨size5,hl,h⟩:=zAc h;refine zAt ⟨ofL [(0,.s (.sl 1 ((List.map zAm) slices1))),(3,.s (.int .i64 size5))],fun _=>none,0⟩ ?_ (fun σ' hle=>?_)
 ·refine zAp (zAE (X:=Nat×Int×Int) (fun y=>match y with | (k,x3,size4)=>⟨ofL [(0,.s (.sl 1 ((List.map zAm) slices1))),(3,.s (.int .i64 size4)),(9,.s (.sl 1 ((List.map zAm) slices1))),(10,.s (.int .i64 (slices1.length:Int))),(11,.s (.int .i64 x3))],fun _=>none,0⟩) (fun y=>zAZ slices1 y.1 y.2.1 y.2.2=some size5) (fun y=>y.1) (n,0,0) hl ?_ ?_)
  ·exact(Le.forget _ ⟨rfl,rfl,rfl,rfl,rfl,trivial⟩)
  ·rintro⟨k,x3,size4⟩ h;cases k with
   | zero=>cases h
   | succ k =>
    replace h:zAZ slices1 (k+1) x3 size4=some size5:=h;rw[zAZ]at h;refine zQE [] [] rfl ?_;show Tri ..;refine zAa ?_;refine zAo rfl h (fun hb h=>?_) (fun hb h=>?_)
    ·refine zAh ?_;show Tri ..;refine zAa ?_;refine zAp ?_;refine zQE [] [13] rfl ?_;obtain⟨e6,he6,h⟩:=zAc h;refine And.intro (zAK (fun _=>rfl) he6).1 ?_;intro r7 hr7;obtain rfl:[.sl 4 (Nd.encs e6)]=r7:=(hr7.trans (zAK (fun _=>rfl) he6).2.1).symm;show Tri ..;refine zQE [] [17] rfl ?_;intro n8 hn8;obtain rfl:(e6.length:Int)=n8:=(hn8.trans (congrArg (fun m:Nat=>(m:Int)) (rlen Nd.encs_eq e6))).symm;show Tri ..;refine zQE [] [] rfl ?_;show Tri ..;refine zAo rfl h (fun hb h=>?_) (fun hb h=>?_)
     ·cases h
     ·refine zAh ?_;show Tri ..;refine zAb [] [] rfl ?_;refine⟨(k,IntKind.i64.wrap (x3+1),IntKind.i64.wrap (size4+(e6.length:Int))),h,(Le.forget _ ⟨rfl,rfl,rfl,rfl,rfl,trivial⟩),Nat.lt_succ_self k⟩
    ·refine zAJ ?_;cases h;exact(Le.forget _ ⟨rfl,rfl,trivial⟩)
 ·show Tri ..;refine zAk hle ?_;refine zQE [24] [] rfl ?_;obtain⟨y9,hy9,h⟩:=zAc h;refine⟨_,⟨_,_,hy9,rfl,rfl⟩,?_⟩
  show Tri ..;refine zAa ?_;refine zQE [] [26] rfl ?_;intro n10 hn10;obtain rfl:(slices1.length:Int)=n10:=(hn10.trans (congrArg (fun m:Nat=>(m:Int)) (rlen (fun _=>rfl) slices1))).symm;show Tri ..;obtain⟨l14,hl,h⟩:=zAc h;refine zAt ⟨ofL [(6,.orow 0)],ofH [(0,.row 24 4 (Nd.encs l14))],1⟩ ?_ (fun σ' hle=>?_)
  ·refine zAp (zAE (X:=Nat×Int×(List Nd)) (fun y=>match y with | (k,x11,l13)=>⟨ofL [(6,.orow 0),(25,.s (.sl 1 ((List.map zAm) slices1))),(26,.s (.int .i64 (slices1.length:Int))),(27,.s (.int .i64 x11))],ofH [(0,.row 24 4 (Nd.encs l13))],1⟩) (fun y=>zA0 slices1 y.1 y.2.1 y.2.2=some l14) (fun y=>y.1) (n,0,y9) hl ?_ ?_)
   ·exact(Le.rnm [(0,0)] _ _ _ ⟨rfl,rfl,rfl,rfl,trivial⟩ ⟨rfl,⟨_,rfl,rfl⟩,trivial⟩)
   ·rintro⟨k,x11,l13⟩ h;cases k with
    | zero=>cases h
    | succ k =>
     replace h:zA0 slices1 (k+1) x11 l13=some l14:=h;rw[zA0]at h;refine zQE [] [] rfl ?_;show Tri ..;refine zAa ?_;refine zAo rfl h (fun hb h=>?_) (fun hb h=>?_)
     ·refine zAh ?_;show Tri ..;refine zAa ?_;refine zAp ?_;refine zQE [] [29] rfl ?_;obtain⟨e15,he15,h⟩:=zAc h;refine And.intro (zAK (fun _=>rfl) he15).1 ?_;intro r16 hr16;obtain rfl:[.sl 4 (Nd.encs e15)]=r16:=(hr16.trans (zAK (fun _=>rfl) he15).2.1).symm;show Tri ..;refine zAb [33] [] rfl ?_;obtain⟨hq,h⟩:=zAI h;refine And.intro (show((Nd.encs l13).length+(Nd.encs e15).length) * 56<=140737488355328/\(Nd.encs l13).length+(Nd.encs e15).length<=9223372036854775807 from by simp only[List.length_append,List.length_cons,List.length_nil,List.length_map,rlen Nd.encs_eq]at hq ⊢; omega) ?_
      show Tri ..;refine zAk (Le.rnm [(1,0)] [(6,.orow 0),(25,.s (.sl 1 ((List.map zAm) slices1))),(26,.s (.int .i64 (slices1.length:Int))),(27,.s (.int .i64 x11))] [(0,.row 24 4 (Nd.encs (l13++e15)))] 1 ⟨rfl,rfl,rfl,rfl,trivial⟩ ⟨rfl,⟨_,rfl,congrArg (Ob.row 24 4) (by simp[List.map_append,List.map_take,List.map_drop,irow,brow,zAA,List.map_cons,List.map_nil,zAy,Nd.encs_eq,Nd.enc,CV.encs_eq,CV.enc,zAn,zAj,zAm])⟩,trivial⟩) ?_;refine zAb [] [] rfl ?_
      refine⟨(k,IntKind.i64.wrap (x11+1),l13++e15),h,(Le.rnm [(0,0)] _ _ _ ⟨rfl,rfl,rfl,rfl,trivial⟩ ⟨rfl,⟨_,rfl,rfl⟩,trivial⟩),Nat.lt_succ_self k⟩
     ·refine zAJ ?_;cases h;exact(Le.rnm [(0,0)] _ _ _ ⟨rfl,trivial⟩ ⟨rfl,⟨_,rfl,rfl⟩,trivial⟩)
  ·show Tri ..;refine zAk hle ?_;refine zQE [] [] rfl ?_;show Tri ..;refine zAg ?_;have hy:=Option.some.inj h;subst hy;unfold zAu;exact⟨_,Le.refl _ _,0,rfl,rfl⟩
def zAi (p:(zO8×List Nd)):List S:=[.int .i64 p.1.1,.sl 1 ((List.map (irow .i64)) p.1.2.1),.int .i64 p.1.2.2.1,.int .i64 p.1.2.2.2.1,.sl 4 (Nd.encs p.1.2.2.2.2.1),.int .i64 p.1.2.2.2.2.2.1,.str p.1.2.2.2.2.2.2.1,.str p.1.2.2.2.2.2.2.2,.sl 4 (Nd.encs p.2)]
def zHd (n:Nat) (xs:List AV) (r:Ret):Prop:=∃ (a0:(zO8×List Nd)) (a1:Int) (a2:List Nd) (y0:List Nd),zA3 n a0 a1 a2=some y0/\xs=[.agg ((zAi a0).map .s),.s (.int .i64 a1),.s (.sl 4 (Nd.encs a2))]/\r = .val (.s (.sl 4 (Nd.encs y0)))
def zBb:zAv:=zAx fun xs r=>∃ n,zHd n xs r
theorem zBm:PSound Try.prog 90 zBb:=by
 have gok:∀ f s,look? f [(97,zDB)]=some s->PSound Try.prog f s:=zAs (by
  simp only[List.forall_mem_cons]
  exact⟨zFA,by simp⟩)
 refine zAz tokW Try.call90 Try.func90 rfl (fun xs r h=>by obtain⟨n,_,_,_,_,_,rfl,_⟩:=h; show 3<=24; decide) 24 rfl ?_;rintro xs r w0 G0 ⟨n,⟨⟨c1V,c1Ag,c1N,c1W,c1T,c1U,c1Af,c1Ae⟩,c1O⟩,n2,nodes3,y0,h,rfl,rfl⟩ _;rw[zA3]at h;refine zQE [] [] rfl ?_;show Tri ..;refine zAa ?_;refine zBe [] [12,21,22] [] rfl (by decide +kernel) ?_;obtain⟨hq,h⟩:=zAI h;refine And.intro ⟨hq.1,hq.2.1,Int.le_trans hq.2.2 (Int.ofNat_le.2 (Nat.le_of_eq (rlen Nd.encs_eq _).symm))⟩ ?_;intro r4 hr4
 obtain rfl:Nd.encs ((c1O.take c1N.toNat).drop (0:Int).toNat)=r4:=(hr4.trans (rcut Nd.encs_eq _ _ _)).symm;obtain⟨hq,h⟩:=zAI h;refine And.intro ⟨hq.1,Int.le_trans hq.2.1 (Int.ofNat_le.2 (Nat.le_of_eq (rlen Nd.encs_eq _).symm)),Int.le_refl _⟩ ?_;intro r5 hr5;obtain rfl:Nd.encs ((c1O.take (c1O.length:Int).toNat).drop (IntKind.i64.wrap (c1N+n2)).toNat)=r5:=(hr5.trans ((congrArg (fun m:Nat=>((Nd.encs c1O).take m).drop (IntKind.i64.wrap (c1N+n2)).toNat) (rlen Nd.encs_eq _)).trans (rcut Nd.encs_eq _ _ _))).symm;intro r6 hr6
 obtain rfl:(List.map zAm) [(c1O.take c1N.toNat).drop (0:Int).toNat,nodes3,(c1O.take (c1O.length:Int).toNat).drop (IntKind.i64.wrap (c1N+n2)).toNat]=r6:=(hr6.trans (by simp[List.map_append,List.map_take,List.map_drop,irow,brow,zAA,List.map_cons,List.map_nil,zAy,Nd.encs_eq,Nd.enc,CV.encs_eq,CV.enc,zAn,zAj,zAm])).symm;obtain⟨y7,hy7,h⟩:=zAc h;refine⟨_,⟨_,_,_,hy7,rfl,rfl⟩,?_⟩
 show Tri ..;refine zAg ?_;have hy:=Option.some.inj h;subst hy;unfold zAu;exact⟨_,Le.refl _ _,rfl,rfl⟩
def zCZ (n:Nat) (xs:List AV) (r:Ret):Prop:=∃ (a0:Nd) (a1:Nd) (y0:Bool),zCi n a0 a1=some y0/\xs=[.agg ((Nd.enc a0).map .s),.agg ((Nd.enc a1).map .s)]/\r = .val (.s (.bool y0))
def zAN (n:Nat) (xs:List AV) (r:Ret):Prop:=∃ (a0:List Nd) (a1:List Nd) (y0:Bool),zA1 n a0 a1=some y0/\xs=[.s (.sl 4 (Nd.encs a0)),.s (.sl 4 (Nd.encs a1)),.s (.fn 92)]/\r = .val (.s (.bool y0))
theorem zJO (n:Nat) (ih_node_Equal:PSound Try.prog 92 (zAx (zCZ n))) (ih_slices_EqualFunc_sNode:PSound Try.prog 91 (zAx (zAN n))):PSound Try.prog 92 (zAx (zCZ (n+1))):=by
 have gok:∀ f s,look? f [(91,zAx (zAN n))]=some s->PSound Try.prog f s:=zAs (by
  simp only[List.forall_mem_cons]
  exact⟨ih_slices_EqualFunc_sNode,by simp⟩)
 refine zAz tokW Try.call92 Try.func92 rfl (fun xs r h=>by obtain⟨_,_,_,_,rfl,_⟩:=h; show 2<=31; decide) 31 rfl ?_;rintro xs r w0 G0 ⟨⟨a1A,a1B,a1D,a1C⟩,⟨b2A,b2B,b2D,b2C⟩,y0,h,rfl,rfl⟩ _;rw[zCi]at h;refine zQE [] [] rfl ?_;show Tri ..;refine zAa ?_;obtain⟨x3,hj,h⟩:=zAc h;refine zAt ⟨ofL [(4,.s (.bool x3))],fun _=>none,0⟩ ?_ (fun σ' hle=>?_)
 ·replace h:=hj;refine zAb [] [10,17,24] rfl ?_;intro b hb;cases b with
  | true =>
   replace h:=zAD hb.symm h;intro b hb;cases b with
   | true =>
    replace h:=zAD hb.symm h;intro b hb;cases b with
    | true =>
     replace h:=zAD hb.symm h;obtain⟨y4,hy4,h⟩:=zAc h;refine⟨_,⟨_,_,_,hy4,rfl,rfl⟩,?_⟩
     cases h;exact(Le.forget _ ⟨rfl,trivial⟩)
    | false =>
     replace h:=zAC hb.symm h;cases h;exact(Le.forget _ ⟨rfl,trivial⟩)
   | false =>
    replace h:=zAC hb.symm h;intro b hb;subst hb;cases h;exact(Le.forget _ ⟨rfl,trivial⟩)
  | false =>
   replace h:=zAC hb.symm h;intro b hb;subst hb;intro b hb;subst hb;cases h;exact(Le.forget _ ⟨rfl,trivial⟩)
 ·show Tri ..;refine zAk hle ?_;refine zAg ?_;have hy:=Option.some.inj h;subst hy;unfold zAu;exact⟨_,Le.refl _ _,rfl,rfl⟩
theorem zEr (n:Nat) (ih_node_Equal:PSound Try.prog 92 (zAx (zCZ n))) (ih_slices_EqualFunc_sNode:PSound Try.prog 91 (zAx (zAN n))):PSound Try.prog 91 (zAx (zAN (n+1))):=by
 have gok:∀ f s,look? f [(92,zAx (zCZ n))]=some s->PSound Try.prog f s:=zAs (by
  simp only[List.forall_mem_cons]
  exact⟨ih_node_Equal,by simp⟩)
 refine zAz tokW Try.call91 Try.func91 rfl (fun xs r h=>by obtain⟨_,_,_,_,rfl,_⟩:=h; show 3<=32; decide) 32 rfl ?_;rintro xs r w0 G0 ⟨s11,s22,y0,h,rfl,rfl⟩ _;rw[zA1]at h;refine zQE [] [] rfl ?_;show Tri ..;refine zAa ?_;refine zQE [] [11,13] rfl ?_;intro n3 hn3;obtain rfl:(s11.length:Int)=n3:=(hn3.trans (congrArg (fun m:Nat=>(m:Int)) (rlen Nd.encs_eq s11))).symm;intro n4 hn4;obtain rfl:(s22.length:Int)=n4:=(hn4.trans (congrArg (fun m:Nat=>(m:Int)) (rlen Nd.encs_eq s22))).symm;show Tri ..;refine zAo rfl h (fun hb h=>?_) (fun hb h=>?_)
 ·refine zQE [] [] rfl ?_;show Tri ..;refine zAg ?_;have hy:=Option.some.inj h;subst hy;unfold zAu;exact⟨_,Le.refl _ _,rfl,rfl⟩
 ·refine zAh ?_;show Tri ..;refine zAa ?_;refine zQE [] [16] rfl ?_;intro n5 hn5;obtain rfl:(s11.length:Int)=n5:=(hn5.trans (congrArg (fun m:Nat=>(m:Int)) (rlen Nd.encs_eq s11))).symm;show Tri ..;obtain⟨fl,hl,ho1⟩:=zAc h;refine zDk (fl:=fl) (fun z=>match z with | _=>⟨ofL [],fun _=>none,0⟩) ?_ (fun z σ' hz hle=>?_)
  ·refine zAp (zAE (X:=Nat×Int) (fun y=>match y with | (k,x6)=>⟨ofL [(1,.s (.sl 4 (Nd.encs s22))),(2,.s (.fn 92)),(15,.s (.sl 4 (Nd.encs s11))),(16,.s (.int .i64 (s11.length:Int))),(17,.s (.int .i64 x6))],fun _=>none,0⟩) (fun y=>zAP (zCi n) s11 s22 y.1 y.2=some fl) (fun y=>y.1) (n,0) hl ?_ ?_)
   ·exact(Le.forget _ ⟨rfl,rfl,rfl,rfl,rfl,trivial⟩)
   ·rintro⟨k,x6⟩ h;cases k with
    | zero=>cases h
    | succ k =>
     replace h:zAP (zCi n) s11 s22 (k+1) x6=some fl:=h;rw[zAP]at h;refine zQE [] [] rfl ?_;show Tri ..;refine zAa ?_;refine zAo rfl h (fun hb h=>?_) (fun hb h=>?_)
     ·refine zAh ?_;show Tri ..;refine zAa ?_;refine zAp ?_;refine zQE [8] [20] rfl ?_;obtain⟨⟨e7A,e7B,e7D,e7C⟩,he7,h⟩:=zAc h;refine And.intro (zAK Nd.encs_eq he7).1 ?_;intro r8 hr8;obtain rfl:[.int .i64 e7A,.str e7B,.int .i64 e7D,.sl 4 (Nd.encs e7C)]=r8:=(hr8.trans (zAK Nd.encs_eq he7).2.1).symm;show Tri ..;refine zAk (Le.giveBox 0 [.int .i64 e7A,.str e7B,.int .i64 e7D,.sl 4 (Nd.encs e7C)] rfl rfl) ?_;refine zQE [9] [24] rfl ?_;obtain⟨⟨e9A,e9B,e9D,e9C⟩,he9,h⟩:=zAc h;refine And.intro (zAK Nd.encs_eq he9).1 ?_
      intro r10 hr10;obtain rfl:[.int .i64 e9A,.str e9B,.int .i64 e9D,.sl 4 (Nd.encs e9C)]=r10:=(hr10.trans (zAK Nd.encs_eq he9).2.1).symm;show Tri ..;refine zAk (Le.giveBox 1 [.int .i64 e9A,.str e9B,.int .i64 e9D,.sl 4 (Nd.encs e9C)] rfl rfl) ?_;refine zQE [] [] rfl ?_;obtain⟨y11,hy11,h⟩:=zAc h;refine⟨_,⟨_,_,_,hy11,rfl,rfl⟩,?_⟩
      show Tri ..;refine zAo rfl h (fun hb h=>?_) (fun hb h=>?_)
      ·refine zQE [] [] rfl ?_;show Tri ..;refine zAg ?_;cases h;replace h:some _=some _:=ho1;have hy:=Option.some.inj h;subst hy;unfold zAu;exact⟨_,Le.refl _ _,rfl,rfl⟩
      ·refine zAh ?_;show Tri ..;refine zAb [] [] rfl ?_;refine⟨(k,IntKind.i64.wrap (x6+1)),h,(Le.rnm [] _ [] 0 ⟨rfl,rfl,rfl,rfl,rfl,trivial⟩ trivial),Nat.lt_succ_self k⟩
     ·refine zAJ ?_;cases h;exact⟨_,rfl,(Le.forget _ trivial)⟩
  ·subst hz;obtain _:=z;replace h:=ho1;show Tri ..;refine zAk hle ?_;refine zQE [] [] rfl ?_;show Tri ..;refine zAg ?_;have hy:=Option.some.inj h;subst hy;unfold zAu;exact⟨_,Le.refl _ _,rfl,rfl⟩
theorem zFK:∀ n,PSound Try.prog 92 (zAx (zCZ n))/\PSound Try.prog 91 (zAx (zAN n)):=by
 intro n
 induction n with
 | zero =>
  refine⟨?_,?_⟩
  ·exact zCn Try.call92 (fun xs r h=>by obtain⟨_,_,_,h,_⟩:=h; rw[zCi]at h; cases h)
  ·exact zCn Try.call91 (fun xs r h=>by obtain⟨_,_,_,h,_⟩:=h; rw[zA1]at h; cases h)
 | succ n ih =>
  obtain⟨ih_node_Equal,ih_slices_EqualFunc_sNode⟩:=ih;exact⟨zJO n ih_node_Equal ih_slices_EqualFunc_sNode,zEr n ih_node_Equal ih_slices_EqualFunc_sNode⟩
def zIf:zAv:=zAx fun xs r=>∃ n,zCZ n xs r
theorem zLn:PSound Try.prog 92 zIf:=zDu (fun n=>(zFK n).1)
def zC1:zAv:=zAx fun xs r=>∃ n,zAN n xs r
theorem zEX:PSound Try.prog 91 zC1:=zDu (fun n=>(zFK n).2)
def zEH (n:Nat) (xs:List AV) (r:Ret):Prop:=∃ (a0:(zO8×List Nd)) (y0:List Nd) (y1:Int),zBD n a0=some (y0,y1)/\xs=[.agg ((zAi a0).map .s)]/\r = .val (.tup [.s (.sl 4 (Nd.encs y0)),.s (.int .i64 y1)])
def zEK:zAv:=zAx fun xs r=>∃ n,zEH n xs r
theorem zEs:PSound Try.prog 85 zEK:=by
 have gok:∀ f s,look? f [(17,zD7),(89,zEA),(92,zIf),(90,zBb)]=some s->PSound Try.prog f s:=zAs (by
  simp only[List.forall_mem_cons]
  exact⟨zFw,zFo,zLn,zBm,by simp⟩)
 refine zAz tokW Try.call85 Try.func85 rfl (fun xs r h=>by obtain⟨n,_,_,_,_,rfl,_⟩:=h; show 1<=54; decide) 54 rfl ?_;rintro xs r w0 G0 ⟨n,⟨⟨c1V,c1Ag,c1N,c1W,c1T,c1U,c1Af,c1Ae⟩,c1O⟩,y0,y1,h,rfl,rfl⟩ _;rw[zBD]at h;refine zQE [] [] rfl ?_;show Tri ..;refine zQE [4] [11] rfl ?_;obtain⟨⟨e2A,e2B,e2D,e2C⟩,he2,h⟩:=zAc h;refine And.intro (zAK Nd.encs_eq he2).1 ?_;intro r3 hr3;obtain rfl:[.int .i64 e2A,.str e2B,.int .i64 e2D,.sl 4 (Nd.encs e2C)]=r3:=(hr3.trans (zAK Nd.encs_eq he2).2.1).symm
 obtain⟨⟨y4A,y4B,y4D,y4C⟩,hy4,h⟩:=zAc h;refine⟨_,_,⟨_,_,hy4,rfl,rfl,rfl,rfl⟩,?_⟩
 show Tri ..;refine zAa ?_;refine zAa ?_;refine zBe [] [] [3,4] rfl (by decide +kernel) ?_;obtain⟨y5,hy5,h⟩:=zAc h;refine⟨_,⟨_,_,hy5,rfl,rfl⟩,?_⟩
 show Tri ..;refine zAo rfl h (fun hb h=>?_) (fun hb h=>?_)
 ·refine zQE [] [] rfl ?_;show Tri ..;refine zAg ?_;obtain⟨hj1,hk1⟩:=pij h;subst hj1 hk1;unfold zAu;exact⟨_,Le.refl _ _,rfl,rfl⟩
 ·refine zAh ?_;show Tri ..;refine zQE [] [] rfl ?_;obtain⟨⟨e6A,e6B,e6D,e6C⟩,he6,h⟩:=zAc h;refine And.intro (zAK Nd.encs_eq he6).1 ?_;refine And.intro (zAK Nd.encs_eq he6).2.2 ?_;refine⟨_,(zAK Nd.encs_eq he6).2.1,?_⟩
  show Tri ..;refine zQE [] [] rfl ?_;obtain⟨⟨e7A,e7B,e7D,e7C⟩,he7,h⟩:=zAc h;refine And.intro (zAK Nd.encs_eq he7).1 ?_;have hset8:=(rset (R:=Nd.encs) (f:=Nd.enc) Nd.encs_eq he7 (Nd.mk e7A e7B e7D []) 3 4 [.sl 4 (Nd.encs [])] rfl)
  have hat8:=at_set he7 (Nd.mk e7A e7B e7D [])
  refine And.intro (zAK Nd.encs_eq he7).2.2 ?_;show Tri ..;refine zAk (Le.rnm [(1,0),(0,1)] [(1,.s (.pt [.int .i64 c1V,.sl 1 ((List.map (irow .i64)) c1Ag),.int .i64 c1N,.int .i64 c1W,.sl 4 (Nd.encs c1T),.int .i64 c1U,.str c1Af,.str c1Ae,.sl 4 (Nd.encs c1O)])),(4,.op 0 0),(5,.s (.sl 4 (Nd.encs e6C)))] [(0,.box 24 [.s (.int .i64 y4A),.s (.str y4B),.s (.int .i64 y4D),.orow 1]),(1,.row 24 4 (Nd.encs (y4C.set c1U.toNat (Nd.mk e7A e7B e7D []))))] 2 ⟨rfl,rfl,rfl,trivial⟩ ⟨rfl,⟨_,rfl,rfl⟩,rfl,⟨_,rfl,congrArg (Ob.row 24 4) hset8⟩,trivial⟩) ?_;refine zAa ?_
  refine zAa ?_;obtain⟨x9,hj,h⟩:=zAc h;refine zAt ⟨ofL [(1,.s (.pt [.int .i64 c1V,.sl 1 ((List.map (irow .i64)) c1Ag),.int .i64 c1N,.int .i64 c1W,.sl 4 (Nd.encs c1T),.int .i64 c1U,.str c1Af,.str c1Ae,.sl 4 (Nd.encs c1O)])),(5,.s (.sl 4 (Nd.encs e6C))),(50,.s (.bool x9))],fun _=>none,0⟩ ?_ (fun σ' hle=>?_)
  ·replace h:=hj;refine zBe [] [36,41,46] [7,13] rfl (by decide +kernel) ?_;intro n10 hn10;obtain rfl:(e6C.length:Int)=n10:=(hn10.trans (congrArg (fun m:Nat=>(m:Int)) (rlen Nd.encs_eq e6C))).symm;intro b hb;cases b with
   | true =>
    replace h:=zAD hb.symm h;cases h;exact(Le.rnm [] _ [] 0 ⟨rfl,rfl,rfl,trivial⟩ trivial)
   | false =>
    replace h:=zAC hb.symm h;obtain⟨⟨e11A,e11B,e11D,e11C⟩,he11,h⟩:=zAc h;refine And.intro (zAK Nd.encs_eq he11).1 ?_;intro r12 hr12;obtain rfl:[.int .i64 e11A,.str e11B,.int .i64 e11D,.sl 4 (Nd.encs e11C)]=r12:=(hr12.trans (zAK Nd.encs_eq he11).2.1).symm;obtain⟨y13,hy13,h⟩:=zAc h;refine⟨_,⟨_,_,_,_,hy13,rfl,rfl⟩,?_⟩
    cases h;exact(Le.rnm [] _ [] 0 ⟨rfl,rfl,rfl,trivial⟩ trivial)
  ·show Tri ..;refine zAk hle ?_;refine zAo rfl h (fun hb h=>?_) (fun hb h=>?_)
   ·refine zQE [] [] rfl ?_;show Tri ..;refine zAg ?_;obtain⟨hj1,hk1⟩:=pij h;subst hj1 hk1;unfold zAu;exact⟨_,Le.refl _ _,rfl,rfl⟩
   ·refine zAh ?_;show Tri ..;refine zQE [] [] rfl ?_;obtain⟨y14,hy14,h⟩:=zAc h;refine⟨_,⟨_,_,_,_,_,hy14,rfl,rfl⟩,?_⟩
    show Tri ..;refine zAg ?_;obtain⟨hj1,hk1⟩:=pij h;subst hj1 hk1;unfold zAu;exact⟨_,Le.refl _ _,rfl,rfl⟩
def zEI (xs:List AV) (r:Ret):Prop:=∃ (a0:(zO8×List Nd)) (y0:List Nd) (y1:Int),zBE a0=some (y0,y1)/\xs=[.agg ((zAi a0).map .s)]/\r = .val (.tup [.s (.sl 4 (Nd.encs y0)),.s (.int .i64 y1)])
def zEL:zAv:=zAx fun xs r=>zEI xs r
theorem zEt:PSound Try.prog 85 zEL:=by
 have gok:∀ f s,look? f [(17,zCb),(89,zEA)]=some s->PSound Try.prog f s:=zAs (by
  simp only[List.forall_mem_cons]
  exact⟨zCl,zFo,by simp⟩)
 refine zAz tokW Try.call85 Try.func85 rfl (fun xs r h=>by obtain⟨_,_,_,_,rfl,_⟩:=h; show 1<=54; decide) 54 rfl ?_;rintro xs r w0 G0 ⟨⟨⟨c1V,c1Ag,c1N,c1W,c1T,c1U,c1Af,c1Ae⟩,c1O⟩,y0,y1,h,rfl,rfl⟩ _;rw[zBE]at h;refine zQE [] [] rfl ?_;show Tri ..;refine zQE [4] [11] rfl ?_;obtain⟨⟨e2A,e2B,e2D,e2C⟩,he2,h⟩:=zAc h;refine And.intro (zAK Nd.encs_eq he2).1 ?_;intro r3 hr3;obtain rfl:[.int .i64 e2A,.str e2B,.int .i64 e2D,.sl 4 (Nd.encs e2C)]=r3:=(hr3.trans (zAK Nd.encs_eq he2).2.1).symm
 obtain⟨⟨y4A,y4B,y4D,y4C⟩,hy4,h⟩:=zAc h;refine⟨_,⟨_,_,hy4,rfl,rfl⟩,?_⟩
 show Tri ..;refine zAa ?_;refine zAa ?_;refine zBe [] [] [3] rfl (by decide +kernel) ?_;obtain⟨y5,hy5,h⟩:=zAc h;refine⟨_,⟨_,_,hy5,rfl,rfl⟩,?_⟩
 show Tri ..;refine zAo rfl h (fun hb h=>?_) (fun hb h=>?_)
 ·refine zQE [] [] rfl ?_;show Tri ..;refine zAg ?_;obtain⟨hj1,hk1⟩:=pij h;subst hj1 hk1;unfold zAu;exact⟨_,Le.refl _ _,rfl,rfl⟩
 ·refine zAh ?_;show Tri ..;refine zAa ?_;cases h
def zHe (n:Nat) (xs:List AV) (r:Ret):Prop:=∃ (a0:(zO8×List Nd)) (y0:List Nd) (y1:Int),zDb n a0=some (y0,y1)/\xs=[.agg ((zAi a0).map .s)]/\r = .val (.tup [.s (.sl 4 (Nd.encs y0)),.s (.int .i64 y1)])
def zEw:zAv:=zAx fun xs r=>∃ n,zHe n xs r
theorem zG2:PSound Try.prog 84 zEw:=by
 have gok:∀ f s,look? f [(17,zD7),(93,zDQ),(90,zBb)]=some s->PSound Try.prog f s:=zAs (by
  simp only[List.forall_mem_cons]
  exact⟨zFw,zF3,zBm,by simp⟩)
 refine zAz tokW Try.call84 Try.func84 rfl (fun xs r h=>by obtain⟨n,_,_,_,_,rfl,_⟩:=h; show 1<=39; decide) 39 rfl ?_;rintro xs r w0 G0 ⟨n,⟨⟨c1V,c1Ag,c1N,c1W,c1T,c1U,c1Af,c1Ae⟩,c1O⟩,y0,y1,h,rfl,rfl⟩ _;rw[zDb]at h;refine zQE [] [] rfl ?_;show Tri ..;refine zQE [4] [8] rfl ?_;obtain⟨⟨e2A,e2B,e2D,e2C⟩,he2,h⟩:=zAc h;refine And.intro (zAK Nd.encs_eq he2).1 ?_;intro r3 hr3;obtain rfl:[.int .i64 e2A,.str e2B,.int .i64 e2D,.sl 4 (Nd.encs e2C)]=r3:=(hr3.trans (zAK Nd.encs_eq he2).2.1).symm
 obtain⟨⟨y4A,y4B,y4D,y4C⟩,hy4,h⟩:=zAc h;refine⟨_,_,⟨_,_,hy4,rfl,rfl,rfl,rfl⟩,?_⟩
 show Tri ..;refine zAa ?_;refine zBe [] [28] [1,19,21] rfl (by decide +kernel) ?_;obtain⟨hq,h⟩:=zAI h;refine And.intro ⟨hq.1,hq.2.1,Int.le_trans hq.2.2 (Int.ofNat_le.2 (Nat.le_of_eq (rlen Nd.encs_eq _).symm))⟩ ?_;intro r5 hr5;obtain rfl:Nd.encs ((c1O.take (IntKind.i64.wrap (c1N+c1W)).toNat).drop c1N.toNat)=r5:=(hr5.trans (rcut Nd.encs_eq _ _ _)).symm;obtain⟨y6,hy6,h⟩:=zAc h;refine⟨_,⟨_,_,hy6,rfl,rfl⟩,?_⟩
 obtain⟨⟨e7A,e7B,e7D,e7C⟩,he7,h⟩:=zAc h;refine And.intro (zAK Nd.encs_eq he7).1 ?_;have hset8:=(rset (R:=Nd.encs) (f:=Nd.enc) Nd.encs_eq he7 (Nd.mk e7A e7B e7D y6) 3 4 [.sl 4 (Nd.encs y6)] rfl)
 have hat8:=at_set he7 (Nd.mk e7A e7B e7D y6)
 refine And.intro (zAK Nd.encs_eq he7).2.2 ?_;show Tri ..
 refine zAk (Le.trans (Le.trans (Le.trans (Le.rnm [(1,0),(0,1)] [(1,.s (.pt [.int .i64 c1V,.sl 1 ((List.map (irow .i64)) c1Ag),.int .i64 c1N,.int .i64 c1W,.sl 4 (Nd.encs c1T),.int .i64 c1U,.str c1Af,.str c1Ae,.sl 4 (Nd.encs c1O)])),(4,.op 0 0)] [(0,.box 24 [.s (.int .i64 y4A),.s (.str y4B),.s (.int .i64 y4D),.orow 1]),(1,.row 24 4 (Nd.encs (y4C.set c1U.toNat (Nd.mk e7A e7B e7D y6))))] 2 ⟨rfl,rfl,trivial⟩ ⟨rfl,⟨_,rfl,rfl⟩,rfl,⟨_,rfl,congrArg (Ob.row 24 4) hset8⟩,trivial⟩) (Le.giveRow 1 rfl)) (Le.rnm [(0,0)] [(1,.s (.pt [.int .i64 c1V,.sl 1 ((List.map (irow .i64)) c1Ag),.int .i64 c1N,.int .i64 c1W,.sl 4 (Nd.encs c1T),.int .i64 c1U,.str c1Af,.str c1Ae,.sl 4 (Nd.encs c1O)])),(4,.op 0 0)] [(0,.box 24 [.s (.int .i64 y4A),.s (.str y4B),.s (.int .i64 y4D),.s (.sl 4 (Nd.encs (y4C.set c1U.toNat (Nd.mk e7A e7B e7D y6))))])] 1 ⟨rfl,rfl,trivial⟩ ⟨rfl,⟨_,rfl,rfl⟩,trivial⟩)) (Le.giveBox 0 [.int .i64 y4A,.str y4B,.int .i64 y4D,.sl 4 (Nd.encs (y4C.set c1U.toNat (Nd.mk e7A e7B e7D y6)))] rfl rfl)) ?_
 refine zQE [] [37] rfl ?_;intro r9 hr9;obtain rfl:Nd.encs [Nd.mk y4A y4B y4D (y4C.set c1U.toNat (Nd.mk e7A e7B e7D y6))]=r9:=(hr9.trans (by simp[List.map_append,List.map_take,List.map_drop,irow,brow,zAA,List.map_cons,List.map_nil,zAy,Nd.encs_eq,Nd.enc,CV.encs_eq,CV.enc,zAn,zAj,zAm,zAi])).symm;obtain⟨y10,hy10,h⟩:=zAc h;refine⟨_,⟨_,_,_,_,_,hy10,rfl,rfl⟩,?_⟩
 show Tri ..;refine zAg ?_;obtain⟨hj1,hk1⟩:=pij h;subst hj1 hk1;unfold zAu;exact⟨_,Le.refl _ _,rfl,rfl⟩
def zGj (n:Nat) (xs:List AV) (r:Ret):Prop:=∃ (a0:(zO8×List Nd)) (y0:List Nd) (y1:Int),zCE n a0=some (y0,y1)/\xs=[.agg ((zAi a0).map .s)]/\r = .val (.tup [.s (.sl 4 (Nd.encs y0)),.s (.int .i64 y1)])
def zDM:zAv:=zAx fun xs r=>∃ n,zGj n xs r
theorem zFX:PSound Try.prog 82 zDM:=by
 have gok:∀ f s,look? f [(90,zBb)]=some s->PSound Try.prog f s:=zAs (by
  simp only[List.forall_mem_cons]
  exact⟨zBm,by simp⟩)
 refine zAz tokW Try.call82 Try.func82 rfl (fun xs r h=>by obtain⟨n,_,_,_,_,rfl,_⟩:=h; show 1<=9; decide) 9 rfl ?_;rintro xs r w0 G0 ⟨n,⟨⟨c1V,c1Ag,c1N,c1W,c1T,c1U,c1Af,c1Ae⟩,c1O⟩,y0,y1,h,rfl,rfl⟩ _;rw[zCE]at h;refine zQE [] [] rfl ?_;show Tri ..;refine zQE [] [] rfl ?_;obtain⟨y2,hy2,h⟩:=zAc h;refine⟨_,⟨_,_,_,_,_,hy2,rfl,rfl⟩,?_⟩
 show Tri ..;refine zAg ?_;obtain⟨hj1,hk1⟩:=pij h;subst hj1 hk1;unfold zAu;exact⟨_,Le.refl _ _,rfl,rfl⟩
def zGk (n:Nat) (xs:List AV) (r:Ret):Prop:=∃ (a0:(zO8×List Nd)) (y0:List Nd) (y1:Int),zCF n a0=some (y0,y1)/\xs=[.agg ((zAi a0).map .s)]/\r = .val (.tup [.s (.sl 4 (Nd.encs y0)),.s (.int .i64 y1)])
def zDN:zAv:=zAx fun xs r=>∃ n,zGk n xs r
theorem zFY:PSound Try.prog 83 zDN:=by
 have gok:∀ f s,look? f [(91,zC1),(90,zBb)]=some s->PSound Try.prog f s:=zAs (by
  simp only[List.forall_mem_cons]
  exact⟨zEX,zBm,by simp⟩)
 refine zAz tokW Try.call83 Try.func83 rfl (fun xs r h=>by obtain⟨n,_,_,_,_,rfl,_⟩:=h; show 1<=28; decide) 28 rfl ?_;rintro xs r w0 G0 ⟨n,⟨⟨c1V,c1Ag,c1N,c1W,c1T,c1U,c1Af,c1Ae⟩,c1O⟩,y0,y1,h,rfl,rfl⟩ _;rw[zCF]at h;refine zQE [] [] rfl ?_;show Tri ..;refine zQE [] [8] rfl ?_;intro n2 hn2;obtain rfl:(c1T.length:Int)=n2:=(hn2.trans (congrArg (fun m:Nat=>(m:Int)) (rlen Nd.encs_eq c1T))).symm;show Tri ..;refine zAa ?_;refine zAa ?_;refine zBe [] [19] [] rfl (by decide +kernel) ?_
 obtain⟨hq,h⟩:=zAI h;refine And.intro ⟨hq.1,hq.2.1,Int.le_trans hq.2.2 (Int.ofNat_le.2 (Nat.le_of_eq (rlen Nd.encs_eq _).symm))⟩ ?_;intro r3 hr3;obtain rfl:Nd.encs ((c1O.take (IntKind.i64.wrap (c1N+(c1T.length:Int))).toNat).drop c1N.toNat)=r3:=(hr3.trans (rcut Nd.encs_eq _ _ _)).symm;obtain⟨y4,hy4,h⟩:=zAc h;refine⟨_,⟨_,_,_,_,hy4,rfl,rfl⟩,?_⟩
 show Tri ..;refine zAo rfl h (fun hb h=>?_) (fun hb h=>?_)
 ·refine zQE [] [] rfl ?_;show Tri ..;refine zAg ?_;obtain⟨hj1,hk1⟩:=pij h;subst hj1 hk1;unfold zAu;exact⟨_,Le.refl _ _,rfl,rfl⟩
 ·refine zAh ?_;show Tri ..;refine zQE [] [] rfl ?_;obtain⟨y5,hy5,h⟩:=zAc h;refine⟨_,⟨_,_,_,_,_,hy5,rfl,rfl⟩,?_⟩
  show Tri ..;refine zAg ?_;obtain⟨hj1,hk1⟩:=pij h;subst hj1 hk1;unfold zAu;exact⟨_,Le.refl _ _,rfl,rfl⟩
def zHR (n:Nat) (xs:List AV) (r:Ret):Prop:=∃ (a0:(zO8×List Nd)) (y0:List Nd) (y1:Int),zDr n a0=some (y0,y1)/\xs=[.agg ((zAi a0).map .s)]/\r = .val (.tup [.s (.sl 4 (Nd.encs y0)),.s (.int .i64 y1)])
def zE2:zAv:=zAx fun xs r=>∃ n,zHR n xs r
theorem zHG:PSound Try.prog 86 zE2:=by
 have gok:∀ f s,look? f [(90,zBb)]=some s->PSound Try.prog f s:=zAs (by
  simp only[List.forall_mem_cons]
  exact⟨zBm,by simp⟩)
 refine zAz tokW Try.call86 Try.func86 rfl (fun xs r h=>by obtain⟨n,_,_,_,_,rfl,_⟩:=h; show 1<=34; decide) 34 rfl ?_;rintro xs r w0 G0 ⟨n,⟨⟨c1V,c1Ag,c1N,c1W,c1T,c1U,c1Af,c1Ae⟩,c1O⟩,y0,y1,h,rfl,rfl⟩ _;rw[zDr]at h;refine zQE [] [] rfl ?_;show Tri ..;refine zQE [4] [10] rfl ?_;obtain⟨⟨e2A,e2B,e2D,e2C⟩,he2,h⟩:=zAc h;refine And.intro (zAK Nd.encs_eq he2).1 ?_;intro r3 hr3;obtain rfl:[.int .i64 e2A,.str e2B,.int .i64 e2D,.sl 4 (Nd.encs e2C)]=r3:=(hr3.trans (zAK Nd.encs_eq he2).2.1).symm
 show Tri ..;refine zAa ?_;refine zQE [] [] rfl ?_;show Tri ..;obtain⟨fl,hj,ho1⟩:=zAc h;refine zDk (fl:=fl) (fun z=>match z with | _=>⟨ofL [(1,.s (.pt [.int .i64 c1V,.sl 1 ((List.map (irow .i64)) c1Ag),.int .i64 c1N,.int .i64 c1W,.sl 4 (Nd.encs c1T),.int .i64 c1U,.str c1Af,.str c1Ae,.sl 4 (Nd.encs c1O)])),(4,.op 0 0)],ofH [(0,.box 24 [.s (.int .i64 e2A),.s (.str e2B),.s (.int .i64 e2D),.s (.sl 4 (Nd.encs e2C))])],1⟩) ?_ (fun z σ' hz hle=>?_)
 ·replace h:=hj;refine zAp ?_;refine zAa ?_;refine zQE [] [] rfl ?_;show Tri ..;obtain⟨x4,hj,h⟩:=zAc h;refine zAt ⟨ofL [(1,.s (.pt [.int .i64 c1V,.sl 1 ((List.map (irow .i64)) c1Ag),.int .i64 c1N,.int .i64 c1W,.sl 4 (Nd.encs c1T),.int .i64 c1U,.str c1Af,.str c1Ae,.sl 4 (Nd.encs c1O)])),(4,.op 0 0),(14,.s (.bool x4))],ofH [(0,.box 24 [.s (.int .i64 e2A),.s (.str e2B),.s (.int .i64 e2D),.s (.sl 4 (Nd.encs e2C))])],1⟩ ?_ (fun σ' hle=>?_)
  ·replace h:=hj;refine zAo rfl h (fun hb h=>?_) (fun hb h=>?_)
   ·refine zAh ?_;cases h;exact(Le.rnm [(0,0)] _ _ _ ⟨rfl,rfl,rfl,trivial⟩ ⟨rfl,⟨_,rfl,rfl⟩,trivial⟩)
   ·refine zQE [] [] rfl ?_;show Tri ..;refine zAo rfl h (fun hb h=>?_) (fun hb h=>?_)
    ·refine zAh ?_;cases h;exact(Le.rnm [(0,0)] _ _ _ ⟨rfl,rfl,rfl,trivial⟩ ⟨rfl,⟨_,rfl,rfl⟩,trivial⟩)
    ·refine zQE [] [] rfl ?_;show Tri ..;refine zAo rfl h (fun hb h=>?_) (fun hb h=>?_)
     ·refine zAh ?_;cases h;exact(Le.rnm [(0,0)] _ _ _ ⟨rfl,rfl,rfl,trivial⟩ ⟨rfl,⟨_,rfl,rfl⟩,trivial⟩)
     ·refine zQE [] [] rfl ?_;show Tri ..;refine zAo rfl h (fun hb h=>?_) (fun hb h=>?_)
      ·refine zAh ?_;cases h;exact(Le.rnm [(0,0)] _ _ _ ⟨rfl,rfl,rfl,trivial⟩ ⟨rfl,⟨_,rfl,rfl⟩,trivial⟩)
      ·refine zAb [] [] rfl ?_;cases h;exact(Le.rnm [(0,0)] _ _ _ ⟨rfl,rfl,rfl,trivial⟩ ⟨rfl,⟨_,rfl,rfl⟩,trivial⟩)
  ·show Tri ..;refine zAk hle ?_;refine zAo rfl h (fun hb h=>?_) (fun hb h=>?_)
   ·refine zAh ?_;cases h;exact⟨_,rfl,(Le.rnm [(0,0)] _ _ _ ⟨rfl,rfl,trivial⟩ ⟨rfl,⟨_,rfl,rfl⟩,trivial⟩)⟩
   ·refine zQE [] [] rfl ?_;show Tri ..;refine zAg ?_;cases h;replace h:some _=some _:=ho1;obtain⟨hj1,hk1⟩:=pij h;subst hj1 hk1;unfold zAu;exact⟨_,Le.refl _ _,rfl,rfl⟩
 ·subst hz;obtain _:=z;replace h:=ho1;show Tri ..;refine zAk hle ?_;refine zAa ?_;refine zQE [] [] rfl ?_;show Tri ..;refine zAo rfl h (fun hb h=>?_) (fun hb h=>?_)
  ·refine zQE [] [] rfl ?_;show Tri ..;refine zAg ?_;obtain⟨hj1,hk1⟩:=pij h;subst hj1 hk1;unfold zAu;exact⟨_,Le.refl _ _,rfl,rfl⟩
  ·refine zAh ?_;show Tri ..;refine zQE [] [] rfl ?_;show Tri ..;refine zQE [] [32] rfl ?_;intro r5 hr5;obtain rfl:Nd.encs [Nd.mk e2A c1Ae e2D e2C]=r5:=(hr5.trans (by simp[List.map_append,List.map_take,List.map_drop,irow,brow,zAA,List.map_cons,List.map_nil,zAy,Nd.encs_eq,Nd.enc,CV.encs_eq,CV.enc,zAn,zAj,zAm,zAi])).symm;obtain⟨y6,hy6,h⟩:=zAc h;refine⟨_,⟨_,_,_,_,_,hy6,rfl,rfl⟩,?_⟩
   show Tri ..;refine zAg ?_;obtain⟨hj1,hk1⟩:=pij h;subst hj1 hk1;unfold zAu;exact⟨_,Le.refl _ _,rfl,rfl⟩
def zGi (xs:List AV) (r:Ret):Prop:=∃ (a0:(zO8×List Nd)) (y0:Int),zCD a0=some y0/\xs=[.agg ((zAi a0).map .s)]/\r = .val (.s (.int .i64 y0))
def zDL:zAv:=zAx fun xs r=>zGi xs r
theorem zFW:PSound Try.prog 81 zDL:=by
 have gok:=@gok0 Try.prog;refine zAz tokW Try.call81 Try.func81 rfl (fun xs r h=>by obtain⟨_,_,_,rfl,_⟩:=h; show 1<=44; decide) 44 rfl ?_;rintro xs r w0 G0 ⟨⟨⟨c1V,c1Ag,c1N,c1W,c1T,c1U,c1Af,c1Ae⟩,c1O⟩,y0,h,rfl,rfl⟩ _;rw[zCD]at h;refine zQE [] [] rfl ?_;show Tri ..;refine zQE [] [] rfl ?_;show Tri ..;refine zAa ?_;refine zQE [] [] rfl ?_;show Tri ..;obtain⟨need2,hj,h⟩:=zAc h
 refine zAt ⟨ofL [(1,.s (.pt [.int .i64 c1V,.sl 1 ((List.map (irow .i64)) c1Ag),.int .i64 c1N,.int .i64 c1W,.sl 4 (Nd.encs c1T),.int .i64 c1U,.str c1Af,.str c1Ae,.sl 4 (Nd.encs c1O)])),(3,.s (.int .i64 need2))],fun _=>none,0⟩ ?_ (fun σ' hle=>?_)
 ·replace h:=hj;refine zAp ?_;refine zQE [] [] rfl ?_;show Tri ..;refine zAo rfl h (fun hb h=>?_) (fun hb h=>?_)
  ·refine zAb [] [] rfl ?_;cases h;exact(Le.forget _ ⟨rfl,rfl,trivial⟩)
  ·refine zQE [] [] rfl ?_;show Tri ..;refine zAo rfl h (fun hb h=>?_) (fun hb h=>?_)
   ·refine zAb [] [14] rfl ?_;intro n3 hn3;obtain rfl:(c1T.length:Int)=n3:=(hn3.trans (congrArg (fun m:Nat=>(m:Int)) (rlen Nd.encs_eq c1T))).symm;cases h;exact(Le.forget _ ⟨rfl,rfl,trivial⟩)
   ·refine zQE [] [] rfl ?_;show Tri ..;refine zAo rfl h (fun hb h=>?_) (fun hb h=>?_)
    ·refine zAb [] [] rfl ?_;cases h;exact(Le.forget _ ⟨rfl,rfl,trivial⟩)
    ·refine zAh ?_;cases h;exact(Le.forget _ ⟨rfl,rfl,trivial⟩)
 ·show Tri ..;refine zAk hle ?_;refine zAa ?_;refine zAa ?_;obtain⟨x4,hj,h⟩:=zAc h;refine zAt ⟨ofL [(43,.s (.bool x4))],fun _=>none,0⟩ ?_ (fun σ' hle=>?_)
  ·replace h:=hj;refine zAb [] [24,30,33,37] rfl ?_;intro b hb;cases b with
   | true =>
    replace h:=zAD hb.symm h;intro b hb;subst hb;cases h;exact(Le.forget _ ⟨rfl,trivial⟩)
   | false =>
    replace h:=zAC hb.symm h;intro n5 hn5;obtain rfl:(c1O.length:Int)=n5:=(hn5.trans (congrArg (fun m:Nat=>(m:Int)) (rlen Nd.encs_eq c1O))).symm;intro b hb;cases b with
    | true =>
     replace h:=zAD hb.symm h;cases h;exact(Le.forget _ ⟨rfl,trivial⟩)
    | false =>
     replace h:=zAC hb.symm h;intro n6 hn6;obtain rfl:(c1O.length:Int)=n6:=(hn6.trans (congrArg (fun m:Nat=>(m:Int)) (rlen Nd.encs_eq c1O))).symm;cases h;exact(Le.forget _ ⟨rfl,trivial⟩)
  ·show Tri ..;refine zAk hle ?_;refine zAo rfl h (fun hb h=>?_) (fun hb h=>?_)
   ·refine zQE [] [] rfl ?_;show Tri ..;refine zAg ?_;have hy:=Option.some.inj h;subst hy;unfold zAu;exact⟨_,Le.refl _ _,rfl,rfl⟩
   ·refine zAh ?_;show Tri ..;refine zQE [] [] rfl ?_;show Tri ..;refine zAg ?_;have hy:=Option.some.inj h;subst hy;unfold zAu;exact⟨_,Le.refl _ _,rfl,rfl⟩
def zIu (n:Nat) (xs:List AV) (r:Ret):Prop:=∃ (a0:List Nd) (a1:Int) (y0:Bool),zDJ n a0 a1=some y0/\xs=[.s (.sl 4 (Nd.encs a0)),.s (.int .i64 a1)]/\r = .val (.s (.bool y0))
def zFr:zAv:=zAx fun xs r=>∃ n,zIu n xs r
theorem zH0:PSound Try.prog 79 zFr:=by
 have gok:∀ f s,look? f [(78,zDn),(89,zEA)]=some s->PSound Try.prog f s:=zAs (by
  simp only[List.forall_mem_cons]
  exact⟨zEF,zFo,by simp⟩)
 refine zAz tokW Try.call79 Try.func79 rfl (fun xs r h=>by obtain⟨n,_,_,_,_,rfl,_⟩:=h; show 2<=35; decide) 35 rfl ?_;rintro xs r w0 G0 ⟨n,l1,slot2,y0,h,rfl,rfl⟩ _;rw[zDJ]at h;refine zQE [] [] rfl ?_;show Tri ..;refine zAa ?_;refine zAa ?_;obtain⟨x3,hj,h⟩:=zAc h;refine zAt ⟨ofL [(0,.s (.sl 4 (Nd.encs l1))),(1,.s (.int .i64 slot2)),(24,.s (.bool x3))],fun _=>none,0⟩ ?_ (fun σ' hle=>?_)
 ·replace h:=hj;refine zAb [] [6,8,13,17,20] rfl ?_;intro n4 hn4;obtain rfl:(l1.length:Int)=n4:=(hn4.trans (congrArg (fun m:Nat=>(m:Int)) (rlen Nd.encs_eq l1))).symm;intro b hb;cases b with
  | true =>
   replace h:=zAD hb.symm h;intro b hb;subst hb;intro b hb;subst hb;cases h;exact(Le.forget _ ⟨rfl,rfl,rfl,trivial⟩)
  | false =>
   replace h:=zAC hb.symm h;obtain⟨y5,hy5,h⟩:=zAc h;refine⟨_,⟨_,_,_,hy5,rfl,rfl⟩,?_⟩
   intro b hb;cases b with
   | true =>
    replace h:=zAD hb.symm h;intro b hb;subst hb;cases h;exact(Le.forget _ ⟨rfl,rfl,rfl,trivial⟩)
   | false =>
    replace h:=zAC hb.symm h;intro b hb;cases b with
    | true =>
     replace h:=zAD hb.symm h;cases h;exact(Le.forget _ ⟨rfl,rfl,rfl,trivial⟩)
    | false =>
     replace h:=zAC hb.symm h;obtain⟨⟨e6A,e6B,e6D,e6C⟩,he6,h⟩:=zAc h;refine And.intro (zAK Nd.encs_eq he6).1 ?_;intro r7 hr7;obtain rfl:[.int .i64 e6A,.str e6B,.int .i64 e6D,.sl 4 (Nd.encs e6C)]=r7:=(hr7.trans (zAK Nd.encs_eq he6).2.1).symm;obtain⟨y8,hy8,h⟩:=zAc h;refine⟨_,⟨_,_,hy8,rfl,rfl⟩,?_⟩
     cases h;exact(Le.forget _ ⟨rfl,rfl,rfl,trivial⟩)
 ·show Tri ..;refine zAk hle ?_;refine zAo rfl h (fun hb h=>?_) (fun hb h=>?_)
  ·refine zQE [] [] rfl ?_;show Tri ..;refine zAg ?_;have hy:=Option.some.inj h;subst hy;unfold zAu;exact⟨_,Le.refl _ _,rfl,rfl⟩
  ·refine zAh ?_;show Tri ..;refine zQE [] [26,30,33] rfl ?_;obtain⟨⟨e9A,e9B,e9D,e9C⟩,he9,h⟩:=zAc h;refine And.intro (zAK Nd.encs_eq he9).1 ?_;intro r10 hr10;obtain rfl:[.int .i64 e9A,.str e9B,.int .i64 e9D,.sl 4 (Nd.encs e9C)]=r10:=(hr10.trans (zAK Nd.encs_eq he9).2.1).symm;obtain⟨⟨e11A,e11B,e11D,e11C⟩,he11,h⟩:=zAc h;refine And.intro (zAK Nd.encs_eq he11).1 ?_;intro r12 hr12;obtain rfl:[.int .i64 e11A,.str e11B,.int .i64 e11D,.sl 4 (Nd.encs e11C)]=r12:=(hr12.trans (zAK Nd.encs_eq he11).2.1).symm;intro n13 hn13
   obtain rfl:(e11C.length:Int)=n13:=(hn13.trans (congrArg (fun m:Nat=>(m:Int)) (rlen Nd.encs_eq e11C))).symm;show Tri ..;refine zAg ?_;have hy:=Option.some.inj h;subst hy;unfold zAu;exact⟨_,Le.refl _ _,rfl,rfl⟩
def zAq (p:zO8):List S:=[.int .i64 p.1,.sl 1 ((List.map (irow .i64)) p.2.1),.int .i64 p.2.2.1,.int .i64 p.2.2.2.1,.sl 4 (Nd.encs p.2.2.2.2.1),.int .i64 p.2.2.2.2.2.1,.str p.2.2.2.2.2.2.1,.str p.2.2.2.2.2.2.2]
def zKX (n:Nat) (xs:List AV) (r:Ret):Prop:=∃ (a0:zO8) (y0:Bool),zFk n a0=some y0/\xs=[.agg ((zAq a0).map .s)]/\r = .val (.s (.bool y0))
def zHo:zAv:=zAx fun xs r=>∃ n,zKX n xs r
theorem zKc:PSound Try.prog 67 zHo:=by
 have gok:∀ f s,look? f [(78,zDn),(79,zFr)]=some s->PSound Try.prog f s:=zAs (by
  simp only[List.forall_mem_cons]
  exact⟨zEF,zH0,by simp⟩)
 refine zAz tokW Try.call67 Try.func67 rfl (fun xs r h=>by obtain⟨n,_,_,_,rfl,_⟩:=h; show 1<=80; decide) 80 rfl ?_;rintro xs r w0 G0 ⟨n,⟨a1A,a1Z,a1Ad,a1X,a1M,a1Y,a1Aa,a1B⟩,y0,h,rfl,rfl⟩ _;rw[zFk]at h;refine zQE [] [] rfl ?_;show Tri ..;refine zAa ?_;obtain⟨x2,hj,h⟩:=zAc h;refine zAt ⟨ofL [(1,.s (.pt [.int .i64 a1A,.sl 1 ((List.map (irow .i64)) a1Z),.int .i64 a1Ad,.int .i64 a1X,.sl 4 (Nd.encs a1M),.int .i64 a1Y,.str a1Aa,.str a1B])),(3,.s (.bool x2))],fun _=>none,0⟩ ?_ (fun σ' hle=>?_)
 ·replace h:=hj;refine zAb [] [7] rfl ?_;intro b hb;cases b with
  | true =>
   replace h:=zAD hb.symm h;cases h;exact(Le.forget _ ⟨rfl,rfl,trivial⟩)
  | false =>
   replace h:=zAC hb.symm h;cases h;exact(Le.forget _ ⟨rfl,rfl,trivial⟩)
 ·show Tri ..;refine zAk hle ?_;refine zAa ?_;refine zQE [] [] rfl ?_;show Tri ..;obtain⟨fl,hj,ho1⟩:=zAc h;refine zDk (fl:=fl) (fun z=>match z with | _=>⟨ofL [],fun _=>none,0⟩) ?_ (fun z σ' hz hle=>?_)
  ·replace h:=hj;refine zAp ?_;refine zAa ?_;refine zQE [] [] rfl ?_;show Tri ..;obtain⟨x3,hj,h⟩:=zAc h;refine zAt ⟨ofL [(1,.s (.pt [.int .i64 a1A,.sl 1 ((List.map (irow .i64)) a1Z),.int .i64 a1Ad,.int .i64 a1X,.sl 4 (Nd.encs a1M),.int .i64 a1Y,.str a1Aa,.str a1B])),(3,.s (.bool x2)),(13,.s (.int .i64 a1A)),(14,.s (.bool x3))],fun _=>none,0⟩ ?_ (fun σ' hle=>?_)
   ·replace h:=hj;refine zAo rfl h (fun hb h=>?_) (fun hb h=>?_)
    ·refine zAh ?_;cases h;exact(Le.forget _ ⟨rfl,rfl,rfl,rfl,trivial⟩)
    ·refine zAb [] [] rfl ?_;cases h;exact(Le.forget _ ⟨rfl,rfl,rfl,rfl,trivial⟩)
   ·show Tri ..;refine zAk hle ?_;refine zAo rfl h (fun hb h=>?_) (fun hb h=>?_)
    ·refine zAa ?_;obtain⟨x4,hj,h⟩:=zAc h;refine zAt ⟨ofL [(2,.s (.bool x4))],fun _=>none,0⟩ ?_ (fun σ' hle=>?_)
     ·replace h:=hj;refine zAb [] [20,25,29,32,35] rfl ?_;intro b hb;cases b with
      | true =>
       replace h:=zAD hb.symm h;intro b hb;cases b with
       | true =>
        replace h:=zAD hb.symm h;intro b hb;cases b with
        | true =>
         replace h:=zAD hb.symm h;intro n5 hn5;obtain rfl:(a1M.length:Int)=n5:=(hn5.trans (congrArg (fun m:Nat=>(m:Int)) (rlen Nd.encs_eq a1M))).symm;intro b hb;cases b with
         | true =>
          replace h:=zAD hb.symm h;obtain⟨y6,hy6,h⟩:=zAc h;refine⟨_,⟨_,_,_,hy6,rfl,rfl⟩,?_⟩
          cases h;exact(Le.forget _ ⟨rfl,trivial⟩)
         | false =>
          replace h:=zAC hb.symm h;cases h;exact(Le.forget _ ⟨rfl,trivial⟩)
        | false =>
         replace h:=zAC hb.symm h;intro b hb;subst hb;cases h;exact(Le.forget _ ⟨rfl,trivial⟩)
       | false =>
        replace h:=zAC hb.symm h;intro b hb;subst hb;intro b hb;subst hb;cases h;exact(Le.forget _ ⟨rfl,trivial⟩)
      | false =>
       replace h:=zAC hb.symm h;intro b hb;subst hb;intro b hb;subst hb;intro b hb;subst hb;cases h;exact(Le.forget _ ⟨rfl,trivial⟩)
     ·show Tri ..;refine zAk hle ?_;refine zAg ?_;cases h;replace h:some _=some _:=ho1;have hy:=Option.some.inj h;subst hy;unfold zAu;exact⟨_,Le.refl _ _,rfl,rfl⟩
    ·refine zAa ?_;refine zQE [] [] rfl ?_;show Tri ..;obtain⟨x7,hj,h⟩:=zAc h;refine zAt ⟨ofL [(1,.s (.pt [.int .i64 a1A,.sl 1 ((List.map (irow .i64)) a1Z),.int .i64 a1Ad,.int .i64 a1X,.sl 4 (Nd.encs a1M),.int .i64 a1Y,.str a1Aa,.str a1B])),(3,.s (.bool x2)),(13,.s (.int .i64 a1A)),(40,.s (.bool x7))],fun _=>none,0⟩ ?_ (fun σ' hle=>?_)
     ·replace h:=hj;refine zAo rfl h (fun hb h=>?_) (fun hb h=>?_)
      ·refine zAh ?_;cases h;exact(Le.forget _ ⟨rfl,rfl,rfl,rfl,trivial⟩)
      ·refine zAb [] [] rfl ?_;cases h;exact(Le.forget _ ⟨rfl,rfl,rfl,rfl,trivial⟩)
     ·show Tri ..;refine zAk hle ?_;refine zAo rfl h (fun hb h=>?_) (fun hb h=>?_)
      ·refine zAa ?_;obtain⟨x8,hj,h⟩:=zAc h;refine zAt ⟨ofL [(2,.s (.bool x8))],fun _=>none,0⟩ ?_ (fun σ' hle=>?_)
       ·replace h:=hj;refine zAb [] [46,50] rfl ?_;intro b hb;cases b with
        | true =>
         replace h:=zAD hb.symm h;intro b hb;cases b with
         | true =>
          replace h:=zAD hb.symm h;obtain⟨y9,hy9,h⟩:=zAc h;refine⟨_,⟨_,_,_,_,hy9,rfl,rfl⟩,?_⟩
          cases h;exact(Le.forget _ ⟨rfl,trivial⟩)
         | false =>
          replace h:=zAC hb.symm h;cases h;exact(Le.forget _ ⟨rfl,trivial⟩)
        | false =>
         replace h:=zAC hb.symm h;intro b hb;subst hb;cases h;exact(Le.forget _ ⟨rfl,trivial⟩)
       ·show Tri ..;refine zAk hle ?_;refine zAg ?_;cases h;replace h:some _=some _:=ho1;have hy:=Option.some.inj h;subst hy;unfold zAu;exact⟨_,Le.refl _ _,rfl,rfl⟩
      ·refine zQE [] [] rfl ?_;show Tri ..;refine zAo rfl h (fun hb h=>?_) (fun hb h=>?_)
       ·refine zAa ?_;obtain⟨x10,hj,h⟩:=zAc h;refine zAt ⟨ofL [(2,.s (.bool x10))],fun _=>none,0⟩ ?_ (fun σ' hle=>?_)
        ·replace h:=hj;refine zAb [] [62,67,70,73] rfl ?_;intro b hb;cases b with
         | true =>
          replace h:=zAD hb.symm h;intro b hb;cases b with
          | true =>
           replace h:=zAD hb.symm h;intro n11 hn11;obtain rfl:(a1M.length:Int)=n11:=(hn11.trans (congrArg (fun m:Nat=>(m:Int)) (rlen Nd.encs_eq a1M))).symm;intro b hb;cases b with
           | true =>
            replace h:=zAD hb.symm h;cases h;exact(Le.forget _ ⟨rfl,trivial⟩)
           | false =>
            replace h:=zAC hb.symm h;cases h;exact(Le.forget _ ⟨rfl,trivial⟩)
          | false =>
           replace h:=zAC hb.symm h;intro b hb;subst hb;cases h;exact(Le.forget _ ⟨rfl,trivial⟩)
         | false =>
          replace h:=zAC hb.symm h;intro b hb;subst hb;intro b hb;subst hb;cases h;exact(Le.forget _ ⟨rfl,trivial⟩)
        ·show Tri ..;refine zAk hle ?_;refine zAg ?_;cases h;replace h:some _=some _:=ho1;have hy:=Option.some.inj h;subst hy;unfold zAu;exact⟨_,Le.refl _ _,rfl,rfl⟩
       ·refine zAh ?_;cases h;exact⟨_,rfl,(Le.forget _ trivial)⟩
  ·subst hz;obtain _:=z;replace h:=ho1;show Tri ..;refine zAk hle ?_;refine zQE [] [] rfl ?_;show Tri ..;refine zAg ?_;have hy:=Option.some.inj h;subst hy;unfold zAu;exact⟨_,Le.refl _ _,rfl,rfl⟩
def zMI (xs:List AV) (r:Ret):Prop:=∃ (a0:List Int) (y0:List Int),zCT a0=some y0/\xs=[.s (.sl 1 ((List.map (irow .i64)) a0))]/\r = .val (.s (.sl 1 ((List.map (irow .i64)) y0)))
def zGR:zAv:=zAx fun xs r=>zMI xs r
theorem zIp:PSound Try.prog 66 zGR:=by
 have gok:∀ f s,look? f [(77,zEa)]=some s->PSound Try.prog f s:=zAs (by
  simp only[List.forall_mem_cons]
  exact⟨zGr,by simp⟩)
 refine zAz tokW Try.call66 Try.func66 rfl (fun xs r h=>by obtain⟨_,_,_,rfl,_⟩:=h; show 1<=5; decide) 5 rfl ?_;rintro xs r w0 G0 ⟨l1,y0,h,rfl,rfl⟩ _;rw[zCT]at h;refine zQE [] [] rfl ?_;show Tri ..;refine zQE [] [] rfl ?_;obtain⟨y2,hy2,h⟩:=zAc h;refine⟨_,⟨_,_,hy2,rfl,rfl⟩,?_⟩
 show Tri ..;refine zAg ?_;have hy:=Option.some.inj h;subst hy;unfold zAu;exact⟨_,Le.refl _ _,rfl,rfl⟩
def zLF (n:Nat) (xs:List AV) (r:Ret):Prop:=∃ (a0:List Nd) (y0:List Nd),zED n a0=some y0/\xs=[.s (.sl 4 (Nd.encs a0))]/\r = .row 24 4 (Nd.encs y0)
def zId:zAv:=zAx fun xs r=>∃ n,zLF n xs r
theorem zLk:PSound Try.prog 76 zId:=by
 have gok:∀ f s,look? f [(17,zCb)]=some s->PSound Try.prog f s:=zAs (by
  simp only[List.forall_mem_cons]
  exact⟨zCl,by simp⟩)
 refine zAz tokW Try.call76 Try.func76 rfl (fun xs r h=>by obtain⟨n,_,_,_,rfl,_⟩:=h; show 1<=20; decide) 20 rfl ?_;rintro xs r w0 G0 ⟨n,l1,y0,h,rfl,rfl⟩ _;rw[zED]at h;refine zQE [2] [] rfl ?_;show Tri ..;refine zAk (Le.rnm [] [(0,.s (.sl 4 (Nd.encs l1)))] [] 0 ⟨rfl,trivial⟩ trivial) ?_;refine zQE [3] [] rfl ?_;show Tri ..
 refine zAk (Le.rnm [(0,0)] [(0,.s (.sl 4 (Nd.encs l1))),(3,.orow 0)] [(0,.row 24 4 (Nd.encs []))] 1 ⟨rfl,rfl,trivial⟩ ⟨rfl,⟨_,rfl,congrArg (Ob.row 24 4) (by simp[List.map_append,List.map_take,List.map_drop,irow,brow,zAA,List.map_cons,List.map_nil,zAy,Nd.encs_eq,Nd.enc,CV.encs_eq,CV.enc,zAn,zAj,zAm,zAi,zAq])⟩,trivial⟩) ?_;refine zAa ?_;refine zQE [] [6] rfl ?_;intro n2 hn2;obtain rfl:(l1.length:Int)=n2:=(hn2.trans (congrArg (fun m:Nat=>(m:Int)) (rlen Nd.encs_eq l1))).symm;show Tri ..;obtain⟨l6,hl,h⟩:=zAc h
 refine zAt ⟨ofL [(3,.orow 0)],ofH [(0,.row 24 4 (Nd.encs l6))],1⟩ ?_ (fun σ' hle=>?_)
 ·refine zAp (zAE (X:=Nat×Int×(List Nd)) (fun y=>match y with | (k,x4,l5)=>⟨ofL [(0,.s (.sl 4 (Nd.encs l1))),(3,.orow 0),(6,.s (.int .i64 (l1.length:Int))),(7,.s (.int .i64 x4))],ofH [(0,.row 24 4 (Nd.encs l5))],1⟩) (fun y=>zBi l1 y.1 y.2.1 y.2.2=some l6) (fun y=>y.1) (n,0,[]) hl ?_ ?_)
  ·exact(Le.rnm [(0,0)] _ _ _ ⟨rfl,rfl,rfl,rfl,trivial⟩ ⟨rfl,⟨_,rfl,rfl⟩,trivial⟩)
  ·rintro⟨k,x4,l5⟩ h;cases k with
   | zero=>cases h
   | succ k =>
    replace h:zBi l1 (k+1) x4 l5=some l6:=h;rw[zBi]at h;refine zQE [] [] rfl ?_;show Tri ..;refine zAa ?_;refine zAo rfl h (fun hb h=>?_) (fun hb h=>?_)
    ·refine zAh ?_;show Tri ..;refine zAa ?_;refine zAp ?_;refine zQE [] [] rfl ?_;show Tri ..;refine zAb [17] [13,16] rfl ?_;obtain⟨⟨e7A,e7B,e7D,e7C⟩,he7,h⟩:=zAc h;refine And.intro (zAK Nd.encs_eq he7).1 ?_;intro r8 hr8;obtain rfl:[.int .i64 e7A,.str e7B,.int .i64 e7D,.sl 4 (Nd.encs e7C)]=r8:=(hr8.trans (zAK Nd.encs_eq he7).2.1).symm;obtain⟨⟨y9A,y9B,y9D,y9C⟩,hy9,h⟩:=zAc h;refine⟨_,⟨_,_,hy9,rfl,rfl⟩,?_⟩
     intro r10 hr10;obtain rfl:Nd.encs [Nd.mk y9A y9B y9D y9C]=r10:=(hr10.trans (by simp[List.map_append,List.map_take,List.map_drop,irow,brow,zAA,List.map_cons,List.map_nil,zAy,Nd.encs_eq,Nd.enc,CV.encs_eq,CV.enc,zAn,zAj,zAm,zAi,zAq])).symm;obtain⟨hq,h⟩:=zAI h
     refine And.intro (show((Nd.encs l5).length+(Nd.encs [Nd.mk y9A y9B y9D y9C]).length) * 56<=140737488355328/\(Nd.encs l5).length+(Nd.encs [Nd.mk y9A y9B y9D y9C]).length<=9223372036854775807 from by simp only[List.length_append,List.length_cons,List.length_nil,List.length_map,rlen Nd.encs_eq]at hq ⊢; omega) ?_;show Tri ..
     refine zAk (Le.rnm [(1,0)] [(0,.s (.sl 4 (Nd.encs l1))),(3,.orow 0),(6,.s (.int .i64 (l1.length:Int))),(7,.s (.int .i64 x4))] [(0,.row 24 4 (Nd.encs (l5++[Nd.mk y9A y9B y9D y9C])))] 1 ⟨rfl,rfl,rfl,rfl,trivial⟩ ⟨rfl,⟨_,rfl,congrArg (Ob.row 24 4) (by simp[List.map_append,List.map_take,List.map_drop,irow,brow,zAA,List.map_cons,List.map_nil,zAy,Nd.encs_eq,Nd.enc,CV.encs_eq,CV.enc,zAn,zAj,zAm,zAi,zAq])⟩,trivial⟩) ?_;refine zAb [] [] rfl ?_
     refine⟨(k,IntKind.i64.wrap (x4+1),l5++[Nd.mk y9A y9B y9D y9C]),h,(Le.rnm [(0,0)] _ _ _ ⟨rfl,rfl,rfl,rfl,trivial⟩ ⟨rfl,⟨_,rfl,rfl⟩,trivial⟩),Nat.lt_succ_self k⟩
    ·refine zAJ ?_;cases h;exact(Le.rnm [(0,0)] _ _ _ ⟨rfl,trivial⟩ ⟨rfl,⟨_,rfl,rfl⟩,trivial⟩)
 ·show Tri ..;refine zAk hle ?_;refine zQE [] [] rfl ?_;show Tri ..;refine zAg ?_;have hy:=Option.some.inj h;subst hy;unfold zAu;exact⟨_,Le.refl _ _,0,rfl,rfl⟩
def zOb (n:Nat) (xs:List AV) (r:Ret):Prop:=∃ (a0:zO8) (y0:zO8),zFa n a0=some y0/\xs=[.agg ((zAq a0).map .s)]/\r = .val (.agg ((zAq y0).map .s))
def zLQ:zAv:=zAx fun xs r=>∃ n,zOb n xs r
theorem zNW:PSound Try.prog 65 zLQ:=by
 have gok:∀ f s,look? f [(66,zGR),(76,zId)]=some s->PSound Try.prog f s:=zAs (by
  simp only[List.forall_mem_cons]
  exact⟨zIp,zLk,by simp⟩)
 refine zAz tokW Try.call65 Try.func65 rfl (fun xs r h=>by obtain⟨n,_,_,_,rfl,_⟩:=h; show 1<=12; decide) 12 rfl ?_;rintro xs r w0 G0 ⟨n,⟨op1A,op1Z,op1Ad,op1X,op1M,op1Y,op1Aa,op1B⟩,y0,h,rfl,rfl⟩ _;rw[zFa]at h;refine zQE [1,2] [] rfl ?_;show Tri ..;refine zQE [] [] rfl ?_;obtain⟨y2,hy2,h⟩:=zAc h;refine⟨_,⟨_,_,hy2,rfl,rfl⟩,?_⟩
 show Tri ..;refine zQE [] [] rfl ?_;obtain⟨y3,hy3,h⟩:=zAc h;refine⟨_,⟨_,_,_,hy3,rfl,rfl⟩,?_⟩
 show Tri ..;refine zQE [] [] rfl ?_;show Tri ..;refine zAg ?_;have hy:=Option.some.inj h;subst hy;unfold zAu;exact⟨_,Le.refl _ _,rfl,rfl⟩
theorem zOE {P:Program}{f:Nat}{A B:List AV->Ret->Prop} (hA:PSound P f (zAx A)) (hB:PSound P f (zAx B)):PSound P f (zAx fun xs r=>A xs r∨B xs r) :=
 ⟨hA.1,fun G w xs vs r hl hg hp hv hs=>hs.elim (hA.2.1 G w xs vs r hl hg hp hv) (hB.2.1 G w xs vs r hl hg hp hv),fun R hR=>(by cases hR),fun R hR=>(by cases hR)⟩
theorem zM5 {P:Program}{f:Nat}{A B:List AV->Ret->Prop} (hA:PSound P f (zAx A)) (h:∀ xs r,B xs r->A xs r):PSound P f (zAx B) :=
 ⟨hA.1,fun G w xs vs r hl hg hp hv hs=>hA.2.1 G w xs vs r hl hg hp hv (h xs r hs),fun R hR=>(by cases hR),fun R hR=>(by cases hR)⟩
def zGl (n:Nat) (xs:List AV) (r:Ret):Prop:=∃ (a0:(zO8×List Nd)) (y0:List Nd) (y1:Int),zCG n a0=some (y0,y1)/\xs=[.agg ((zAi a0).map .s)]/\r = .val (.tup [.s (.sl 4 (Nd.encs y0)),.s (.int .i64 y1)])
def zDO:zAv:=zAx fun xs r=>∃ n,zGl n xs r
theorem zFZ:PSound Try.prog 85 zDO :=
 zM5 (zOE zEt zEs) fun xs r ⟨n,a,y,z,hm,hx,hr⟩=>by
  unfold zCG at hm;split at hm
  ·rename_i q hq
   obtain rfl:=Option.some.inj hm;exact .inl ⟨a,y,z,hq,hx,hr⟩
  ·exact .inr ⟨n,a,y,z,hm,hx,hr⟩
def zGM (n:Nat) (xs:List AV) (r:Ret):Prop:=∃ (a0:(zO8×List Nd)) (y0:List Nd) (y1:Int),zCU n a0=some (y0,y1)/\xs=[.agg ((zAi a0).map .s)]/\r = .val (.tup [.s (.sl 4 (Nd.encs y0)),.s (.int .i64 y1)])
def zD8:zAv:=zAx fun xs r=>∃ n,zGM n xs r
theorem zGp:PSound Try.prog 69 zD8:=by
 have gok:∀ f s,look? f [(81,zDL),(82,zDM),(83,zDN),(84,zEw),(85,zDO),(86,zE2)]=some s->PSound Try.prog f s:=zAs (by
  simp only[List.forall_mem_cons]
  exact⟨zFW,zFX,zFY,zG2,zFZ,zHG,by simp⟩)
 refine zAz tokW Try.call69 Try.func69 rfl (fun xs r h=>by obtain⟨n,_,_,_,_,rfl,_⟩:=h; show 1<=41; decide) 41 rfl ?_;rintro xs r w0 G0 ⟨n,⟨⟨c1V,c1Ag,c1N,c1W,c1T,c1U,c1Af,c1Ae⟩,c1O⟩,y0,y1,h,rfl,rfl⟩ _;rw[zCU]at h;refine zQE [] [] rfl ?_;show Tri ..;refine zAa ?_;refine zQE [] [] rfl ?_;obtain⟨y2,hy2,h⟩:=zAc h;refine⟨_,⟨_,_,hy2,rfl,rfl⟩,?_⟩
 show Tri ..;refine zQE [] [] rfl ?_;show Tri ..;refine zAo rfl h (fun hb h=>?_) (fun hb h=>?_)
 ·refine zQE [] [] rfl ?_;show Tri ..;refine zAg ?_;obtain⟨hj1,hk1⟩:=pij h;subst hj1 hk1;unfold zAu;exact⟨_,Le.refl _ _,rfl,rfl⟩
 ·refine zAh ?_;show Tri ..;refine zAa ?_;refine zQE [] [] rfl ?_;show Tri ..;refine zAp ?_;refine zQE [] [] rfl ?_;show Tri ..;refine zAo rfl h (fun hb h=>?_) (fun hb h=>?_)
  ·refine zQE [] [] rfl ?_;obtain⟨⟨y3,y4⟩,hy3,h⟩:=zAc h;refine⟨_,⟨_,_,_,_,hy3,rfl,rfl⟩,?_⟩
   show Tri ..;refine zAg ?_;obtain⟨hj1,hk1⟩:=pij h;subst hj1 hk1;unfold zAu;exact⟨_,Le.refl _ _,rfl,rfl⟩
  ·refine zQE [] [] rfl ?_;show Tri ..;refine zAo rfl h (fun hb h=>?_) (fun hb h=>?_)
   ·refine zQE [] [] rfl ?_;obtain⟨⟨y5,y6⟩,hy5,h⟩:=zAc h;refine⟨_,⟨_,_,_,_,hy5,rfl,rfl⟩,?_⟩
    show Tri ..;refine zAg ?_;obtain⟨hj1,hk1⟩:=pij h;subst hj1 hk1;unfold zAu;exact⟨_,Le.refl _ _,rfl,rfl⟩
   ·refine zQE [] [] rfl ?_;show Tri ..;refine zAo rfl h (fun hb h=>?_) (fun hb h=>?_)
    ·refine zQE [] [] rfl ?_;obtain⟨⟨y7,y8⟩,hy7,h⟩:=zAc h;refine⟨_,⟨_,_,_,_,hy7,rfl,rfl⟩,?_⟩
     show Tri ..;refine zAg ?_;obtain⟨hj1,hk1⟩:=pij h;subst hj1 hk1;unfold zAu;exact⟨_,Le.refl _ _,rfl,rfl⟩
    ·refine zQE [] [] rfl ?_;show Tri ..;refine zAo rfl h (fun hb h=>?_) (fun hb h=>?_)
     ·refine zQE [] [] rfl ?_;obtain⟨⟨y9,y10⟩,hy9,h⟩:=zAc h;refine⟨_,⟨_,_,_,_,hy9,rfl,rfl⟩,?_⟩
      show Tri ..;refine zAg ?_;obtain⟨hj1,hk1⟩:=pij h;subst hj1 hk1;unfold zAu;exact⟨_,Le.refl _ _,rfl,rfl⟩
     ·refine zAh ?_;show Tri ..;refine zQE [] [] rfl ?_;obtain⟨⟨y11,y12⟩,hy11,h⟩:=zAc h;refine⟨_,⟨_,_,_,_,hy11,rfl,rfl⟩,?_⟩
      show Tri ..;refine zAg ?_;obtain⟨hj1,hk1⟩:=pij h;subst hj1 hk1;unfold zAu;exact⟨_,Le.refl _ _,rfl,rfl⟩
def zLG (n:Nat) (xs:List AV) (r:Ret):Prop:=∃ (a0:Nd) (a1:zO8) (y0:Nd) (y1:Int),zFS n a0 a1=some (y0,y1)/\xs=[.agg ((Nd.enc a0).map .s),.agg ((zAq a1).map .s)]/\r = .val (.tup [.agg ((Nd.enc y0).map .s),.s (.int .i64 y1)])
def zIe:zAv:=zAx fun xs r=>∃ n,zLG n xs r
theorem zLl:PSound Try.prog 54 zIe:=by
 have gok:∀ f s,look? f [(16,zBt),(67,zHo),(68,zKr),(69,zD8),(70,zIZ)]=some s->PSound Try.prog f s:=zAs (by
  simp only[List.forall_mem_cons]
  exact⟨zBC,zKc,zM1,zGp,zMn,by simp⟩)
 refine zAz tokW Try.call54 Try.func54 rfl (fun xs r h=>by obtain⟨n,_,_,_,_,_,rfl,_⟩:=h; show 2<=53; decide) 53 rfl ?_;rintro xs r w0 G0 ⟨n,⟨n1A,n1B,n1D,n1C⟩,⟨op2A,op2Z,op2Ad,op2X,op2M,op2Y,op2Aa,op2B⟩,y0,y1,h,rfl,rfl⟩ _;rw[zFS]at h;refine zQE [4] [] rfl ?_;show Tri ..;refine zAa ?_;refine zQE [] [] rfl ?_;obtain⟨y3,hy3,h⟩:=zAc h;refine⟨_,⟨_,_,_,hy3,rfl,rfl⟩,?_⟩
 show Tri ..;refine zAo rfl h (fun hb h=>?_) (fun hb h=>?_)
 ·refine zQE [] [] rfl ?_;show Tri ..;refine zAg ?_;obtain⟨hj1,hk1⟩:=pij h;subst hj1 hk1;unfold zAu;exact⟨_,Le.refl _ _,rfl,rfl⟩
 ·refine zAh ?_;show Tri ..;refine zAa ?_;refine zQE [] [] rfl ?_;obtain⟨y4,hy4,h⟩:=zAc h;refine⟨_,⟨_,_,_,hy4,rfl,rfl⟩,?_⟩
  show Tri ..;refine zAo rfl h (fun hb h=>?_) (fun hb h=>?_)
  ·refine zQE [] [] rfl ?_;show Tri ..;refine zAg ?_;obtain⟨hj1,hk1⟩:=pij h;subst hj1 hk1;unfold zAu;exact⟨_,Le.refl _ _,rfl,rfl⟩
  ·refine zAh ?_;show Tri ..;refine zQE [6] [] rfl ?_;obtain⟨⟨⟨y5A,y5B,y5D,y5C⟩,y6⟩,hy5,h⟩:=zAc h;refine⟨_,⟨_,_,_,_,_,hy5,rfl,rfl⟩,?_⟩
   show Tri ..;refine zAa ?_;refine zQE [] [] rfl ?_;show Tri ..;refine zAo rfl h (fun hb h=>?_) (fun hb h=>?_)
   ·refine zQE [] [] rfl ?_;show Tri ..;refine zAg ?_;obtain⟨hj1,hk1⟩:=pij h;subst hj1 hk1;unfold zAu;exact⟨_,Le.refl _ _,rfl,rfl⟩
   ·refine zAh ?_;show Tri ..;refine zQE [] [] rfl ?_;obtain⟨⟨y7,y8⟩,hy7,h⟩:=zAc h;refine⟨_,⟨_,_,_,_,hy7,rfl,rfl⟩,?_⟩
    show Tri ..;refine zAa ?_;refine zQE [] [] rfl ?_;show Tri ..;refine zAo rfl h (fun hb h=>?_) (fun hb h=>?_)
    ·refine zQE [] [] rfl ?_;show Tri ..;refine zAg ?_;obtain⟨hj1,hk1⟩:=pij h;subst hj1 hk1;unfold zAu;exact⟨_,Le.refl _ _,rfl,rfl⟩
    ·refine zAh ?_;show Tri ..;refine zQE [8] [] rfl ?_;obtain⟨⟨⟨y9A,y9B,y9D,y9C⟩,y10⟩,hy9,h⟩:=zAc h;refine⟨_,⟨_,_,_,_,_,_,hy9,rfl,rfl⟩,?_⟩
     show Tri ..;refine zAk (Le.giveBox 2 [.int .i64 y9A,.str y9B,.int .i64 y9D,.sl 4 (Nd.encs y9C)] rfl rfl) ?_;refine zAa ?_;refine zQE [] [] rfl ?_;show Tri ..;refine zAo rfl h (fun hb h=>?_) (fun hb h=>?_)
     ·refine zQE [] [] rfl ?_;show Tri ..;refine zAg ?_;obtain⟨hj1,hk1⟩:=pij h;subst hj1 hk1;unfold zAu;exact⟨_,Le.refl _ _,rfl,rfl⟩
     ·refine zAh ?_;show Tri ..;refine zQE [] [] rfl ?_;show Tri ..;refine zAg ?_;obtain⟨hj1,hk1⟩:=pij h;subst hj1 hk1;unfold zAu;exact⟨_,Le.refl _ _,rfl,rfl⟩
def zIT (n:Nat) (xs:List AV) (r:Ret):Prop:=∃ (a0:Nd) (a1:List zO8) (y0:Nd) (y1:Int) (y2:Int),zEl n a0 a1=some (y0,y1,y2)/\xs=[.agg ((Nd.enc a0).map .s),.s (.sl 8 ((List.map zAq) a1))]/\r = .val (.tup [.agg ((Nd.enc y0).map .s),.s (.int .i64 y1),.s (.int .i64 y2)])
def zFF:zAv:=zAx fun xs r=>∃ n,zIT n xs r
theorem zIB:PSound Try.prog 37 zFF:=by
 have gok:∀ f s,look? f [(16,zBt),(17,zCb),(54,zIe)]=some s->PSound Try.prog f s:=zAs (by
  simp only[List.forall_mem_cons]
  exact⟨zBC,zCl,zLl,by simp⟩)
 refine zAz tokW Try.call37 Try.func37 rfl (fun xs r h=>by obtain⟨n,_,_,_,_,_,_,rfl,_⟩:=h; show 2<=39; decide) 39 rfl ?_;rintro xs r w0 G0 ⟨n,⟨n1A,n1B,n1D,n1C⟩,ops2,y0,y1,y2,h,rfl,rfl⟩ _;rw[zEl]at h;refine zQE [4] [] rfl ?_;show Tri ..;refine zAa ?_;refine zQE [] [] rfl ?_;obtain⟨y3,hy3,h⟩:=zAc h;refine⟨_,⟨_,_,_,hy3,rfl,rfl⟩,?_⟩
 show Tri ..;refine zAo rfl h (fun hb h=>?_) (fun hb h=>?_)
 ·refine zQE [] [] rfl ?_;show Tri ..;refine zAg ?_;obtain⟨hj1,hk1⟩:=pij h;subst hj1;obtain⟨hj2,hk2⟩:=Prod.mk.inj hk1;subst hj2;subst hk2;unfold zAu;exact⟨_,Le.refl _ _,rfl,rfl⟩
 ·refine zAh ?_;show Tri ..;refine zQE [7] [] rfl ?_;obtain⟨⟨y4A,y4B,y4D,y4C⟩,hy4,h⟩:=zAc h;refine⟨_,⟨_,_,hy4,rfl,rfl⟩,?_⟩
  show Tri ..;refine zAa ?_;refine zQE [] [19] rfl ?_;intro n5 hn5;obtain rfl:(ops2.length:Int)=n5:=(hn5.trans (congrArg (fun m:Nat=>(m:Int)) (rlen (fun _=>rfl) ops2))).symm;show Tri ..;obtain⟨fl,hl,ho1⟩:=zAc h;refine zDk (fl:=fl) (fun z=>match z with | ⟨x12,x13,x14,x15⟩=>⟨ofL [(4,.op 0 0),(7,.op 1 0)],ofH [(0,.box 24 [.s (.int .i64 0),.s (.str []),.s (.int .i64 0),.nl 4]),(1,.box 24 [.s (.int .i64 x12),.s (.str x13),.s (.int .i64 x14),.s (.sl 4 (Nd.encs x15))])],2⟩) ?_ (fun z σ' hz hle=>?_)
  ·refine zAp (zAE (X:=Nat×Int×(List UInt8)×Int×(List Nd)×Int) (fun y=>match y with | (k,x7,x8,x9,x10,x11)=>⟨ofL [(4,.op 0 0),(7,.op 1 0),(18,.s (.sl 8 ((List.map zAq) ops2))),(19,.s (.int .i64 (ops2.length:Int))),(20,.s (.int .i64 x11))],ofH [(0,.box 24 [.s (.int .i64 0),.s (.str []),.s (.int .i64 0),.nl 4]),(1,.box 24 [.s (.int .i64 x7),.s (.str x8),.s (.int .i64 x9),.s (.sl 4 (Nd.encs x10))])],2⟩) (fun y=>zBy n ops2 y.1 y.2.1 y.2.2.1 y.2.2.2.1 y.2.2.2.2.1 y.2.2.2.2.2=some fl) (fun y=>y.1) (n,y4A,y4B,y4D,y4C,0) hl ?_ ?_)
   ·exact(Le.rnm [(0,0),(1,1)] _ _ _ ⟨rfl,rfl,rfl,rfl,rfl,trivial⟩ ⟨rfl,⟨_,rfl,rfl⟩,rfl,⟨_,rfl,rfl⟩,trivial⟩)
   ·rintro⟨k,x7,x8,x9,x10,x11⟩ h;cases k with
    | zero=>cases h
    | succ k =>
     replace h:zBy n ops2 (k+1) x7 x8 x9 x10 x11=some fl:=h;rw[zBy]at h;refine zQE [] [] rfl ?_;show Tri ..;refine zAa ?_;refine zAo rfl h (fun hb h=>?_) (fun hb h=>?_)
     ·refine zAh ?_;show Tri ..;refine zAa ?_;refine zAp ?_;refine zQE [9] [23] rfl ?_;obtain⟨⟨e16A,e16Z,e16Ad,e16X,e16M,e16Y,e16Aa,e16B⟩,he16,h⟩:=zAc h;refine And.intro (zAK (fun _=>rfl) he16).1 ?_;intro r17 hr17;obtain rfl:[.int .i64 e16A,.sl 1 ((List.map (irow .i64)) e16Z),.int .i64 e16Ad,.int .i64 e16X,.sl 4 (Nd.encs e16M),.int .i64 e16Y,.str e16Aa,.str e16B]=r17:=(hr17.trans (zAK (fun _=>rfl) he16).2.1).symm;show Tri ..
      refine zAk (Le.giveBox 2 [.int .i64 e16A,.sl 1 ((List.map (irow .i64)) e16Z),.int .i64 e16Ad,.int .i64 e16X,.sl 4 (Nd.encs e16M),.int .i64 e16Y,.str e16Aa,.str e16B] rfl rfl) ?_;refine zQE [10] [] rfl ?_;obtain⟨⟨⟨y18A,y18B,y18D,y18C⟩,y19⟩,hy18,h⟩:=zAc h;refine⟨_,⟨_,_,_,_,_,hy18,rfl,rfl⟩,?_⟩
      show Tri ..;refine zAk (Le.giveBox 3 [.int .i64 y18A,.str y18B,.int .i64 y18D,.sl 4 (Nd.encs y18C)] rfl rfl) ?_;refine zAa ?_;refine zQE [] [] rfl ?_;show Tri ..;refine zAo rfl h (fun hb h=>?_) (fun hb h=>?_)
      ·refine zQE [] [] rfl ?_;show Tri ..;refine zAg ?_;cases h;replace h:some _=some _:=ho1;obtain⟨hj1,hk1⟩:=pij h;subst hj1;obtain⟨hj2,hk2⟩:=Prod.mk.inj hk1;subst hj2;subst hk2;unfold zAu;exact⟨_,Le.refl _ _,rfl,rfl⟩
      ·refine zAh ?_;show Tri ..;refine zAb [] [] rfl ?_;show Tri ..;refine zAb [] [] rfl ?_;refine⟨(k,y18A,y18B,y18D,y18C,IntKind.i64.wrap (x11+1)),h,(Le.rnm [(0,0),(1,1)] _ _ _ ⟨rfl,rfl,rfl,rfl,rfl,trivial⟩ ⟨rfl,⟨_,rfl,rfl⟩,rfl,⟨_,rfl,rfl⟩,trivial⟩),Nat.lt_succ_self k⟩
     ·refine zAJ ?_;cases h;exact⟨_,rfl,(Le.rnm [(0,0),(1,1)] _ _ _ ⟨rfl,rfl,trivial⟩ ⟨rfl,⟨_,rfl,rfl⟩,rfl,⟨_,rfl,rfl⟩,trivial⟩)⟩
  ·subst hz;obtain⟨x12,x13,x14,x15⟩:=z;replace h:=ho1;show Tri ..;refine zAk hle ?_;refine zQE [] [] rfl ?_;show Tri ..;refine zAg ?_;obtain⟨hj1,hk1⟩:=pij h;subst hj1;obtain⟨hj2,hk2⟩:=Prod.mk.inj hk1;subst hj2;subst hk2;unfold zAu;exact⟨_,Le.refl _ _,rfl,rfl⟩
def zIV (xs:List AV) (os:List Ob) (x:AV) (os':List (Option Ob)):Prop:=∃ (y0:CV),zBI=some y0/\xs=[.orow 0]/\os=[.row 55 4 []]/\x = .agg (match y0 with | .mk k i t _=>[.s (.int .i64 k),.s (.int .i64 i),.s (.str t),.orow 1])/\os'=[none,some (.row 55 4 (match y0 with | .mk _ _ _ l=>CV.encs l))]
def zCc:zAv:=zCm (fun xs os x os'=>zIV xs os x os') (some 0)
theorem zCS:PSound Try.prog 28 zCc:=by
 have gok:=@gok0 Try.prog;refine PSound.withNil (zF5 tokW Try.call28 Try.func28 rfl (fun xs os x os' h=>by obtain⟨_,_,rfl,rfl,_,rfl⟩:=h; exact⟨by show 1<=5; decide,by show 1<=2; decide⟩) 5 rfl ?_) _;rintro xs os x os' w0 G0 B0 ⟨y0,h,rfl,rfl,rfl,rfl⟩ _;rw[zBI]at h;cases h;refine zQE [2] [] rfl ?_;show Tri ..;refine zQE [] [] rfl ?_;show Tri ..;refine zAg ?_;unfold zB5
 exact⟨_,(Le.rnm [(0,1),(1,2)] [(2,.op 2 0)] [(1,.row 55 4 []),(2,.box 55 [.s (.int .i64 3),.s (.int .i64 0),.s (.str []),.orow 1])] 3 ⟨rfl,trivial⟩ ⟨rfl,⟨_,rfl,rfl⟩,rfl,⟨_,rfl,rfl⟩,trivial⟩),rfl,rfl,rfl,rfl,trivial⟩
def zC6 (n:Nat) (xs:List AV) (r:Ret):Prop:=∃ (a0:CV) (a1:Int) (y0:Bool),zCq n a0 a1=some y0/\xs=[.s (.pt (CV.enc a0)),.s (.int .i64 a1)]/\r = .val (.s (.bool y0))
theorem zIJ (n:Nat) (ih:PSound Try.prog 46 (zAx (zC6 n))):PSound Try.prog 46 (zAx (zC6 (n+1))):=by
 have gok:∀ f s,look? f [(46,zAx (zC6 n))]=some s->PSound Try.prog f s:=zAs (by
  simp only[List.forall_mem_cons]
  exact⟨ih,by simp⟩)
 refine zAz tokW Try.call46 Try.func46 rfl (fun xs r h=>by obtain⟨_,_,_,_,rfl,_⟩:=h; show 2<=75; decide) 75 rfl ?_;rintro xs r w0 G0 ⟨⟨a1A,a1F,a1B,a1E⟩,a2,y0,h,rfl,rfl⟩ _;rw[zCq]at h;refine zQE [] [] rfl ?_;show Tri ..;refine zAa ?_;refine zQE [] [] rfl ?_;show Tri ..;refine zAo rfl h (fun hb h=>?_) (fun hb h=>?_)
 ·refine zQE [] [] rfl ?_;show Tri ..;refine zAg ?_;have hy:=Option.some.inj h;subst hy;unfold zAu;exact⟨_,Le.refl _ _,rfl,rfl⟩
 ·refine zAh ?_;show Tri ..;refine zAa ?_;refine zQE [] [] rfl ?_;show Tri ..;refine zAp ?_;refine zQE [] [] rfl ?_;show Tri ..;refine zAo rfl h (fun hb h=>?_) (fun hb h=>?_)
  ·refine zAa ?_;obtain⟨x3,hj,h⟩:=zAc h;refine zAt ⟨ofL [(4,.s (.bool x3))],fun _=>none,0⟩ ?_ (fun σ' hle=>?_)
   ·replace h:=hj;refine zAb [] [19,24] rfl ?_;intro b hb;cases b with
    | true =>
     replace h:=zAD hb.symm h;intro n4 hn4;obtain rfl:(a1E.length:Int)=n4:=(hn4.trans (congrArg (fun m:Nat=>(m:Int)) (rlen CV.encs_eq a1E))).symm;cases h;exact(Le.forget _ ⟨rfl,trivial⟩)
    | false =>
     replace h:=zAC hb.symm h;cases h;exact(Le.forget _ ⟨rfl,trivial⟩)
   ·show Tri ..;refine zAk hle ?_;refine zAg ?_;have hy:=Option.some.inj h;subst hy;unfold zAu;exact⟨_,Le.refl _ _,rfl,rfl⟩
  ·refine zQE [] [] rfl ?_;show Tri ..;refine zAo rfl h (fun hb h=>?_) (fun hb h=>?_)
   ·refine zAa ?_;obtain⟨x5,hj,h⟩:=zAc h;refine zAt ⟨ofL [(4,.s (.bool x5))],fun _=>none,0⟩ ?_ (fun σ' hle=>?_)
    ·replace h:=hj;refine zAb [] [34,39] rfl ?_;intro b hb;cases b with
     | true =>
      replace h:=zAD hb.symm h;intro n6 hn6;obtain rfl:(a1E.length:Int)=n6:=(hn6.trans (congrArg (fun m:Nat=>(m:Int)) (rlen CV.encs_eq a1E))).symm;cases h;exact(Le.forget _ ⟨rfl,trivial⟩)
     | false =>
      replace h:=zAC hb.symm h;cases h;exact(Le.forget _ ⟨rfl,trivial⟩)
    ·show Tri ..;refine zAk hle ?_;refine zAg ?_;have hy:=Option.some.inj h;subst hy;unfold zAu;exact⟨_,Le.refl _ _,rfl,rfl⟩
   ·refine zQE [] [] rfl ?_;show Tri ..;refine zAo rfl h (fun hb h=>?_) (fun hb h=>?_)
    ·refine zAa ?_;refine zAa ?_;obtain⟨x7,hj,h⟩:=zAc h;refine zAt ⟨ofL [(0,.s (.pt [.int .i64 a1A,.int .i64 a1F,.str a1B,.sl 4 (CV.encs a1E)])),(1,.s (.int .i64 a2)),(55,.s (.bool x7))],fun _=>none,0⟩ ?_ (fun σ' hle=>?_)
     ·replace h:=hj;refine zAb [] [49] rfl ?_;intro b hb;cases b with
      | true =>
       replace h:=zAD hb.symm h;cases h;exact(Le.forget _ ⟨rfl,rfl,rfl,trivial⟩)
      | false =>
       replace h:=zAC hb.symm h;cases h;exact(Le.forget _ ⟨rfl,rfl,rfl,trivial⟩)
     ·show Tri ..;refine zAk hle ?_;refine zAo rfl h (fun hb h=>?_) (fun hb h=>?_)
      ·refine zQE [] [] rfl ?_;show Tri ..;refine zAg ?_;have hy:=Option.some.inj h;subst hy;unfold zAu;exact⟨_,Le.refl _ _,rfl,rfl⟩
      ·refine zAh ?_;show Tri ..;refine zAa ?_;refine zQE [] [60] rfl ?_;intro n8 hn8;obtain rfl:(a1E.length:Int)=n8:=(hn8.trans (congrArg (fun m:Nat=>(m:Int)) (rlen CV.encs_eq a1E))).symm;show Tri ..;obtain⟨fl,hl,ho1⟩:=zAc h;refine zDk (fl:=fl) (fun z=>match z with | _=>⟨ofL [],fun _=>none,0⟩) ?_ (fun z σ' hz hle=>?_)
       ·refine zAp (zAE (X:=Nat×Int) (fun y=>match y with | (k,x9)=>⟨ofL [(0,.s (.pt [.int .i64 a1A,.int .i64 a1F,.str a1B,.sl 4 (CV.encs a1E)])),(1,.s (.int .i64 a2)),(60,.s (.int .i64 (a1E.length:Int))),(61,.s (.int .i64 x9))],fun _=>none,0⟩) (fun y=>zBV (zCq n) a1E a2 y.1 y.2=some fl) (fun y=>y.1) (n,0) hl ?_ ?_)
        ·exact(Le.forget _ ⟨rfl,rfl,rfl,rfl,trivial⟩)
        ·rintro⟨k,x9⟩ h;cases k with
         | zero=>cases h
         | succ k =>
          replace h:zBV (zCq n) a1E a2 (k+1) x9=some fl:=h;rw[zBV]at h;refine zQE [] [] rfl ?_;show Tri ..;refine zAa ?_;refine zAo rfl h (fun hb h=>?_) (fun hb h=>?_)
          ·refine zAh ?_;show Tri ..;refine zAa ?_;refine zAp ?_;refine zQE [] [] rfl ?_;show Tri ..;refine zQE [] [69] rfl ?_;obtain⟨⟨e10A,e10F,e10B,e10E⟩,he10,h⟩:=zAc h;refine And.intro (zAK CV.encs_eq he10).1 ?_;intro r11 hr11;obtain rfl:[.int .i64 e10A,.int .i64 e10F,.str e10B,.sl 4 (CV.encs e10E)]=r11:=(hr11.trans (zAK CV.encs_eq he10).2.1).symm;obtain⟨y12,hy12,h⟩:=zAc h;refine⟨_,⟨_,_,_,hy12,rfl,rfl⟩,?_⟩
           show Tri ..;refine zAo rfl h (fun hb h=>?_) (fun hb h=>?_)
           ·refine zQE [] [] rfl ?_;show Tri ..;refine zAg ?_;cases h;replace h:some _=some _:=ho1;have hy:=Option.some.inj h;subst hy;unfold zAu;exact⟨_,Le.refl _ _,rfl,rfl⟩
           ·refine zAh ?_;show Tri ..;refine zAb [] [] rfl ?_;refine⟨(k,IntKind.i64.wrap (x9+1)),h,(Le.forget _ ⟨rfl,rfl,rfl,rfl,trivial⟩),Nat.lt_succ_self k⟩
          ·refine zAJ ?_;cases h;exact⟨_,rfl,(Le.forget _ trivial)⟩
       ·subst hz;obtain _:=z;replace h:=ho1;show Tri ..;refine zAk hle ?_;refine zQE [] [] rfl ?_;show Tri ..;refine zAg ?_;have hy:=Option.some.inj h;subst hy;unfold zAu;exact⟨_,Le.refl _ _,rfl,rfl⟩
    ·refine zAh ?_;show Tri ..;refine zQE [] [] rfl ?_;show Tri ..;refine zAg ?_;have hy:=Option.some.inj h;subst hy;unfold zAu;exact⟨_,Le.refl _ _,rfl,rfl⟩
theorem zI3:∀ n,PSound Try.prog 46 (zAx (zC6 n)):=by
 intro n
 induction n with
 | zero=>exact zCn Try.call46 (fun xs r h=>by obtain⟨_,_,_,h,_⟩:=h; cases h)
 | succ n ih=>exact zIJ n ih
def zHl:zAv:=zAx fun xs r=>∃ n,zC6 n xs r
theorem zJ9:PSound Try.prog 46 zHl:=zDu zI3
def zKU (n:Nat) (xs:List AV) (r:Ret):Prop:=∃ (a0:CV) (y0:Bool),zFj n a0=some y0/\xs=[.agg ((CV.enc a0).map .s)]/\r = .val (.s (.bool y0))
def zHk:zAv:=zAx fun xs r=>∃ n,zKU n xs r
theorem zJ8:PSound Try.prog 26 zHk:=by
 have gok:∀ f s,look? f [(46,zHl)]=some s->PSound Try.prog f s:=zAs (by
  simp only[List.forall_mem_cons]
  exact⟨zJ9,by simp⟩)
 refine zAz tokW Try.call26 Try.func26 rfl (fun xs r h=>by obtain⟨n,_,_,_,rfl,_⟩:=h; show 1<=4; decide) 4 rfl ?_;rintro xs r w0 G0 ⟨n,⟨v1A,v1F,v1B,v1E⟩,y0,h,rfl,rfl⟩ _;rw[zFj]at h;refine zQE [] [] rfl ?_;show Tri ..;refine zQE [] [] rfl ?_;obtain⟨y2,hy2,h⟩:=zAc h;refine⟨_,⟨_,_,_,_,hy2,rfl,rfl⟩,?_⟩
 show Tri ..;refine zAg ?_;have hy:=Option.some.inj h;subst hy;unfold zAu;exact⟨_,Le.refl _ _,rfl,rfl⟩
def zJU (xs:List AV) (r:Ret):Prop:=∃ (a0:CV) (y0:Int),zER a0=some y0/\xs=[.s (.pt (CV.enc a0))]/\r = .val (.s (.int .u64 y0))
def zGy:zAv:=zAx fun xs r=>zJU xs r
theorem zJq:PSound Try.prog 62 zGy:=by
 have gok:=@gok0 Try.prog;refine zAz tokW Try.call62 Try.func62 rfl (fun xs r h=>by obtain⟨_,_,_,rfl,_⟩:=h; show 1<=48; decide) 48 rfl ?_;rintro xs r w0 G0 ⟨⟨v1A,v1F,v1B,v1E⟩,y0,h,rfl,rfl⟩ _;rw[zER]at h;refine zQE [] [] rfl ?_;show Tri ..;refine zAa ?_;refine zAp ?_;refine zQE [] [] rfl ?_;show Tri ..;refine zAo rfl h (fun hb h=>?_) (fun hb h=>?_)
 ·refine zQE [] [] rfl ?_;show Tri ..;refine zAg ?_;have hy:=Option.some.inj h;subst hy;unfold zAu;exact⟨_,Le.refl _ _,rfl,rfl⟩
 ·refine zQE [] [] rfl ?_;show Tri ..;refine zAo rfl h (fun hb h=>?_) (fun hb h=>?_)
  ·refine zQE [] [25] rfl ?_;intro n2 hn2;obtain rfl:(v1E.length:Int)=n2:=(hn2.trans (congrArg (fun m:Nat=>(m:Int)) (rlen CV.encs_eq v1E))).symm;show Tri ..;refine zAg ?_;have hy:=Option.some.inj h;subst hy;unfold zAu;exact⟨_,Le.refl _ _,rfl,rfl⟩
  ·refine zQE [] [] rfl ?_;show Tri ..;refine zAo rfl h (fun hb h=>?_) (fun hb h=>?_)
   ·refine zQE [] [] rfl ?_;show Tri ..;refine zAg ?_;have hy:=Option.some.inj h;subst hy;unfold zAu;exact⟨_,Le.refl _ _,rfl,rfl⟩
   ·refine zAh ?_;show Tri ..;refine zQE [] [] rfl ?_;show Tri ..;refine zAg ?_;have hy:=Option.some.inj h;subst hy;unfold zAu;exact⟨_,Le.refl _ _,rfl,rfl⟩
def zIQ (n:Nat) (xs:List AV) (r:Ret):Prop:=∃ (a0:Int) (y0:Int),zEj n a0=some y0/\xs=[.s (.int .u64 a0)]/\r = .val (.s (.int .i64 y0))
def zFD:zAv:=zAx fun xs r=>∃ n,zIQ n xs r
theorem zIz:PSound Try.prog 63 zFD:=by
 have gok:=@gok0 Try.prog;refine zAz tokW Try.call63 Try.func63 rfl (fun xs r h=>by obtain⟨n,_,_,_,rfl,_⟩:=h; show 1<=13; decide) 13 rfl ?_;rintro xs r w0 G0 ⟨n,n1,y0,h,rfl,rfl⟩ _;rw[zEj]at h;refine zQE [] [] rfl ?_;show Tri ..;refine zQE [] [] rfl ?_;show Tri ..;refine zAa ?_;refine zQE [] [] rfl ?_;refine And.intro (by decide) ?_;show Tri ..;obtain⟨k4,hl,h⟩:=zAc h;refine zAt ⟨ofL [(3,.s (.int .i64 k4))],fun _=>none,0⟩ ?_ (fun σ' hle=>?_)
 ·refine zAp (zAE (X:=Nat×Int×Int) (fun y=>match y with | (k,n2,k3)=>⟨ofL [(0,.s (.int .u64 n2)),(3,.s (.int .i64 k3))],fun _=>none,0⟩) (fun y=>zBv  y.1 y.2.1 y.2.2=some k4) (fun y=>y.1) (n,n1.fdiv (2 ^ (min (8:Int).toNat IntKind.u64.bits)),1) hl ?_ ?_)
  ·exact(Le.forget _ ⟨rfl,rfl,trivial⟩)
  ·rintro⟨k,n2,k3⟩ h;cases k with
   | zero=>cases h
   | succ k =>
    replace h:zBv  (k+1) n2 k3=some k4:=h;rw[zBv]at h;refine zAa ?_;refine zQE [] [] rfl ?_;show Tri ..;refine zAo rfl h (fun hb h=>?_) (fun hb h=>?_)
    ·refine zAh ?_;show Tri ..;refine zAa ?_;refine zAp ?_;refine zAb [] [] rfl ?_;show Tri ..;refine zAb [] [] rfl ?_;refine And.intro (by decide) ?_;refine⟨(k,n2.fdiv (2 ^ (min (8:Int).toNat IntKind.u64.bits)),IntKind.i64.wrap (k3+1)),h,(Le.forget _ ⟨rfl,rfl,trivial⟩),Nat.lt_succ_self k⟩
    ·refine zAJ ?_;cases h;exact(Le.forget _ ⟨rfl,trivial⟩)
 ·show Tri ..;refine zAk hle ?_;refine zQE [] [] rfl ?_;show Tri ..;refine zAg ?_;have hy:=Option.some.inj h;subst hy;unfold zAu;exact⟨_,Le.refl _ _,rfl,rfl⟩
def zLE (n:Nat) (xs:List AV) (os:List Ob) (x:AV) (os':List (Option Ob)):Prop:=∃ (a0:List UInt8) (a1:CV) (y0:List UInt8),zFR n a0 a1=some y0/\xs=[.orow 0,.s (.pt (CV.enc a1))]/\os=[.row 5 1 ((List.map brow) a0)]/\x = .orow 1/\os'=[none,some (.row 5 1 ((List.map brow) y0))]
def zIc:zAv:=zCm (fun xs os x os'=>∃ n,zLE n xs os x os') (some 0)
theorem zLj:PSound Try.prog 47 zIc:=by
 have gok:∀ f s,look? f [(62,zGy),(63,zFD)]=some s->PSound Try.prog f s:=zAs (by
  simp only[List.forall_mem_cons]
  exact⟨zJq,zIz,by simp⟩)
 refine PSound.withNil (zF5 tokW Try.call47 Try.func47 rfl (fun xs os x os' h=>by obtain⟨n,_,_,_,_,rfl,rfl,_,rfl⟩:=h; exact⟨by show 2<=54; decide,by show 1<=2; decide⟩) 54 rfl ?_) _;rintro xs os x os' w0 G0 B0 ⟨n,b1,⟨v2A,v2F,v2B,v2E⟩,y0,h,rfl,rfl,rfl,rfl⟩ _;rw[zFR]at h;refine zQE [4] [] rfl ?_;show Tri ..;refine zAk (Le.rnm [(0,0)] [(0,.orow 0),(1,.s (.pt [.int .i64 v2A,.int .i64 v2F,.str v2B,.sl 4 (CV.encs v2E)]))] [(0,.row 5 1 ((List.map brow) b1))] 1 ⟨rfl,rfl,trivial⟩ ⟨rfl,⟨_,rfl,rfl⟩,trivial⟩) ?_;refine zQE [] [] rfl ?_
 obtain⟨y3,hy3,h⟩:=zAc h;refine⟨_,⟨_,_,hy3,rfl,rfl⟩,?_⟩
 show Tri ..;refine zAa ?_;refine zQE [] [] rfl ?_;show Tri ..;refine zAo rfl h (fun hb h=>?_) (fun hb h=>?_)
 ·refine zQE [23] [22] rfl ?_;intro r4 hr4;obtain rfl:(List.map brow) [b8of (IntKind.u8.wrap ((IntKind.u8.wrap (IntKind.i64.wrap (64 * v2A)))+(IntKind.u8.wrap y3)))]=r4:=(hr4.trans (by simp[List.map_append,List.map_take,List.map_drop,irow,brow,zAA,List.map_cons,List.map_nil,zAy,Nd.encs_eq,Nd.enc,CV.encs_eq,CV.enc])).symm;obtain⟨hq,h⟩:=zAI h
  refine And.intro (show(((List.map brow) b1).length+((List.map brow) [b8of (IntKind.u8.wrap ((IntKind.u8.wrap (IntKind.i64.wrap (64 * v2A)))+(IntKind.u8.wrap y3)))]).length) * 1<=140737488355328/\((List.map brow) b1).length+((List.map brow) [b8of (IntKind.u8.wrap ((IntKind.u8.wrap (IntKind.i64.wrap (64 * v2A)))+(IntKind.u8.wrap y3)))]).length<=9223372036854775807 from by simp only[List.length_append,List.length_cons,List.length_nil,List.length_map,rlen (fun _=>rfl)]at hq ⊢; omega) ?_;show Tri ..
  refine zAk (Le.rnm [(1,1)] [(4,.orow 1)] [(1,.row 5 1 ((List.map brow) (b1++[b8of (IntKind.u8.wrap ((IntKind.u8.wrap (IntKind.i64.wrap (64 * v2A)))+(IntKind.u8.wrap y3)))])))] 2 ⟨rfl,trivial⟩ ⟨rfl,⟨_,rfl,congrArg (Ob.row 5 1) (by simp[List.map_append,List.map_take,List.map_drop,irow,brow,zAA,List.map_cons,List.map_nil,zAy,Nd.encs_eq,Nd.enc,CV.encs_eq,CV.enc])⟩,trivial⟩) ?_;refine zAg ?_;have hy:=Option.some.inj h;subst hy;unfold zB5
  exact⟨_,(Le.rnm [(1,1)] [(4,.orow 1)] [(1,.row 5 1 ((List.map brow) (b1++[b8of (IntKind.u8.wrap ((IntKind.u8.wrap (IntKind.i64.wrap (64 * v2A)))+(IntKind.u8.wrap y3)))])))] 2 ⟨rfl,trivial⟩ ⟨rfl,⟨_,rfl,rfl⟩,trivial⟩),rfl,rfl,rfl,rfl,trivial⟩
 ·refine zAh ?_;show Tri ..;refine zQE [] [] rfl ?_;obtain⟨y5,hy5,h⟩:=zAc h;refine⟨_,⟨_,_,_,hy5,rfl,rfl⟩,?_⟩
  show Tri ..;refine zQE [38] [37] rfl ?_;intro r6 hr6;obtain rfl:(List.map brow) [b8of (IntKind.u8.wrap (IntKind.i64.wrap ((IntKind.i64.wrap ((IntKind.i64.wrap ((IntKind.i64.wrap (64 * v2A))+56)) - 1))+y5)))]=r6:=(hr6.trans (by simp[List.map_append,List.map_take,List.map_drop,irow,brow,zAA,List.map_cons,List.map_nil,zAy,Nd.encs_eq,Nd.enc,CV.encs_eq,CV.enc])).symm;obtain⟨hq,h⟩:=zAI h
  refine And.intro (show(((List.map brow) b1).length+((List.map brow) [b8of (IntKind.u8.wrap (IntKind.i64.wrap ((IntKind.i64.wrap ((IntKind.i64.wrap ((IntKind.i64.wrap (64 * v2A))+56)) - 1))+y5)))]).length) * 1<=140737488355328/\((List.map brow) b1).length+((List.map brow) [b8of (IntKind.u8.wrap (IntKind.i64.wrap ((IntKind.i64.wrap ((IntKind.i64.wrap ((IntKind.i64.wrap (64 * v2A))+56)) - 1))+y5)))]).length<=9223372036854775807 from by simp only[List.length_append,List.length_cons,List.length_nil,List.length_map,rlen (fun _=>rfl)]at hq ⊢; omega) ?_;show Tri ..
  refine zAk (Le.rnm [(1,1)] [(0,.orow 1),(5,.s (.int .u64 y3)),(6,.s (.int .i64 y5))] [(1,.row 5 1 ((List.map brow) (b1++[b8of (IntKind.u8.wrap (IntKind.i64.wrap ((IntKind.i64.wrap ((IntKind.i64.wrap ((IntKind.i64.wrap (64 * v2A))+56)) - 1))+y5)))])))] 2 ⟨rfl,rfl,rfl,trivial⟩ ⟨rfl,⟨_,rfl,congrArg (Ob.row 5 1) (by simp[List.map_append,List.map_take,List.map_drop,irow,brow,zAA,List.map_cons,List.map_nil,zAy,Nd.encs_eq,Nd.enc,CV.encs_eq,CV.enc])⟩,trivial⟩) ?_;refine zAa ?_;refine zQE [] [] rfl ?_;show Tri ..;obtain⟨l10,hl,h⟩:=zAc h
  refine zAt ⟨ofL [(0,.orow 1)],ofH [(1,.row 5 1 ((List.map brow) l10))],2⟩ ?_ (fun σ' hle=>?_)
  ·refine zAp (zAE (X:=Nat×Int×(List UInt8)) (fun y=>match y with | (k,i8,l9)=>⟨ofL [(0,.orow 1),(5,.s (.int .u64 y3)),(7,.s (.int .i64 i8))],ofH [(1,.row 5 1 ((List.map brow) l9))],2⟩) (fun y=>zCg y3 y.1 y.2.1 y.2.2=some l10) (fun y=>y.1) (n,IntKind.i64.wrap (y5 - 1),b1++[b8of (IntKind.u8.wrap (IntKind.i64.wrap ((IntKind.i64.wrap ((IntKind.i64.wrap ((IntKind.i64.wrap (64 * v2A))+56)) - 1))+y5)))]) hl ?_ ?_)
   ·exact(Le.rnm [(1,1)] _ _ _ ⟨rfl,rfl,rfl,trivial⟩ ⟨rfl,⟨_,rfl,rfl⟩,trivial⟩)
   ·rintro⟨k,i8,l9⟩ h;cases k with
    | zero=>cases h
    | succ k =>
     replace h:zCg y3 (k+1) i8 l9=some l10:=h;rw[zCg]at h;refine zAa ?_;refine zQE [] [] rfl ?_;show Tri ..;refine zAo rfl h (fun hb h=>?_) (fun hb h=>?_)
     ·refine zAh ?_;show Tri ..;refine zAa ?_;refine zAp ?_;refine zAb [52] [51] rfl ?_;obtain⟨hq,h⟩:=zAI h;refine And.intro hq ?_;intro r11 hr11;obtain rfl:(List.map brow) [b8of (IntKind.u8.wrap (y3.fdiv (2 ^ (min (IntKind.i64.wrap (8 * i8)).toNat IntKind.u64.bits))))]=r11:=(hr11.trans (by simp[List.map_append,List.map_take,List.map_drop,irow,brow,zAA,List.map_cons,List.map_nil,zAy,Nd.encs_eq,Nd.enc,CV.encs_eq,CV.enc])).symm;obtain⟨hq,h⟩:=zAI h
      refine And.intro (show(((List.map brow) l9).length+((List.map brow) [b8of (IntKind.u8.wrap (y3.fdiv (2 ^ (min (IntKind.i64.wrap (8 * i8)).toNat IntKind.u64.bits))))]).length) * 1<=140737488355328/\((List.map brow) l9).length+((List.map brow) [b8of (IntKind.u8.wrap (y3.fdiv (2 ^ (min (IntKind.i64.wrap (8 * i8)).toNat IntKind.u64.bits))))]).length<=9223372036854775807 from by simp only[List.length_append,List.length_cons,List.length_nil,List.length_map,rlen (fun _=>rfl)]at hq ⊢; omega) ?_;show Tri ..
      refine zAk (Le.rnm [(2,1)] [(0,.orow 1),(5,.s (.int .u64 y3)),(7,.s (.int .i64 i8))] [(1,.row 5 1 ((List.map brow) (l9++[b8of (IntKind.u8.wrap (y3.fdiv (2 ^ (min (IntKind.i64.wrap (8 * i8)).toNat IntKind.u64.bits))))])))] 2 ⟨rfl,rfl,rfl,trivial⟩ ⟨rfl,⟨_,rfl,congrArg (Ob.row 5 1) (by simp[List.map_append,List.map_take,List.map_drop,irow,brow,zAA,List.map_cons,List.map_nil,zAy,Nd.encs_eq,Nd.enc,CV.encs_eq,CV.enc])⟩,trivial⟩) ?_;refine zAb [] [] rfl ?_
      refine⟨(k,IntKind.i64.wrap (i8 - 1),l9++[b8of (IntKind.u8.wrap (y3.fdiv (2 ^ (min (IntKind.i64.wrap (8 * i8)).toNat IntKind.u64.bits))))]),h,(Le.rnm [(1,1)] _ _ _ ⟨rfl,rfl,rfl,trivial⟩ ⟨rfl,⟨_,rfl,rfl⟩,trivial⟩),Nat.lt_succ_self k⟩
     ·refine zAJ ?_;cases h;exact(Le.rnm [(1,1)] _ _ _ ⟨rfl,trivial⟩ ⟨rfl,⟨_,rfl,rfl⟩,trivial⟩)
  ·show Tri ..;refine zAk hle ?_;refine zQE [] [] rfl ?_;show Tri ..;refine zAg ?_;have hy:=Option.some.inj h;subst hy;unfold zB5;exact⟨_,(Le.rnm [(1,1)] [(4,.orow 1)] [(1,.row 5 1 ((List.map brow) l10))] 2 ⟨rfl,trivial⟩ ⟨rfl,⟨_,rfl,rfl⟩,trivial⟩),rfl,rfl,rfl,rfl,trivial⟩
def zCI (n:Nat) (xs:List AV) (os:List Ob) (x:AV) (os':List (Option Ob)):Prop:=∃ (a0:List UInt8) (a1:CV) (y0:List UInt8),zB0 n a0 a1=some y0/\xs=[.orow 0,.s (.pt (CV.enc a1))]/\os=[.row 5 1 ((List.map brow) a0)]/\x = .orow 1/\os'=[none,some (.row 5 1 ((List.map brow) y0))]
theorem zH9 (n:Nat) (ih:PSound Try.prog 27 (zCm (zCI n) (some 0))):PSound Try.prog 27 (zCm (zCI (n+1)) (some 0)):=by
 have gok:∀ f s,look? f [(47,zIc),(27,zCm (zCI n) (some 0))]=some s->PSound Try.prog f s:=zAs (by
  simp only[List.forall_mem_cons]
  exact⟨zLj,ih,by simp⟩)
 refine PSound.withNil (zF5 tokW Try.call27 Try.func27 rfl (fun xs os x os' h=>by obtain⟨_,_,_,_,rfl,rfl,_,rfl⟩:=h; exact⟨by show 2<=50; decide,by show 1<=2; decide⟩) 50 rfl ?_) _;rintro xs os x os' w0 G0 B0 ⟨b1,⟨v2A,v2F,v2B,v2E⟩,y0,h,rfl,rfl,rfl,rfl⟩ _;rw[zB0]at h;refine zQE [4] [] rfl ?_;show Tri ..;refine zAk (Le.rnm [(0,0)] [(0,.orow 0),(1,.s (.pt [.int .i64 v2A,.int .i64 v2F,.str v2B,.sl 4 (CV.encs v2E)]))] [(0,.row 5 1 ((List.map brow) b1))] 1 ⟨rfl,rfl,trivial⟩ ⟨rfl,⟨_,rfl,rfl⟩,trivial⟩) ?_;refine zQE [8] [] rfl ?_;obtain⟨y3,hy3,h⟩:=zAc h
 refine⟨_,_,⟨_,_,_,_,hy3,rfl,rfl,rfl,rfl⟩,?_⟩
 show Tri ..;refine zAa ?_;refine zQE [] [] rfl ?_;show Tri ..;refine zAo rfl h (fun hb h=>?_) (fun hb h=>?_)
 ·refine zQE [21] [] rfl ?_;obtain⟨hq,h⟩:=zAI h;refine And.intro hq ?_;obtain⟨hq,h⟩:=zAI h;refine And.intro (show(((List.map brow) y3).length+(List.map brow ((v2B.take (1048577:Int).toNat).drop (0:Int).toNat)).length) * 1<=140737488355328/\((List.map brow) y3).length+(List.map brow ((v2B.take (1048577:Int).toNat).drop (0:Int).toNat)).length<=9223372036854775807 from by simp only[List.length_append,List.length_cons,List.length_nil,List.length_map,rlen (fun _=>rfl)]at hq ⊢; omega) ?_;show Tri ..
  refine zAk (Le.rnm [(2,1)] [(4,.orow 1)] [(1,.row 5 1 ((List.map brow) (y3++((v2B.take (1048577:Int).toNat).drop (0:Int).toNat))))] 2 ⟨rfl,trivial⟩ ⟨rfl,⟨_,rfl,congrArg (Ob.row 5 1) (by simp[List.map_append,List.map_take,List.map_drop,irow,brow,zAA,List.map_cons,List.map_nil,zAy,Nd.encs_eq,Nd.enc,CV.encs_eq,CV.enc])⟩,trivial⟩) ?_;refine zAg ?_;have hy:=Option.some.inj h;subst hy;unfold zB5;exact⟨_,(Le.rnm [(1,1)] [(4,.orow 1)] [(1,.row 5 1 ((List.map brow) (y3++((v2B.take (1048577:Int).toNat).drop (0:Int).toNat))))] 2 ⟨rfl,trivial⟩ ⟨rfl,⟨_,rfl,rfl⟩,trivial⟩),rfl,rfl,rfl,rfl,trivial⟩
 ·refine zAh ?_;show Tri ..;refine zQE [27] [] rfl ?_;obtain⟨hq,h⟩:=zAI h;refine And.intro (show(((List.map brow) y3).length+(List.map brow v2B).length) * 1<=140737488355328/\((List.map brow) y3).length+(List.map brow v2B).length<=9223372036854775807 from by simp only[List.length_append,List.length_cons,List.length_nil,List.length_map,rlen (fun _=>rfl)]at hq ⊢; omega) ?_;show Tri ..
  refine zAk (Le.rnm [(2,1)] [(0,.orow 1),(1,.s (.pt [.int .i64 v2A,.int .i64 v2F,.str v2B,.sl 4 (CV.encs v2E)]))] [(1,.row 5 1 ((List.map brow) (y3++v2B)))] 2 ⟨rfl,rfl,trivial⟩ ⟨rfl,⟨_,rfl,congrArg (Ob.row 5 1) (by simp[List.map_append,List.map_take,List.map_drop,irow,brow,zAA,List.map_cons,List.map_nil,zAy,Nd.encs_eq,Nd.enc,CV.encs_eq,CV.enc])⟩,trivial⟩) ?_;refine zAa ?_;refine zQE [] [32] rfl ?_;intro n4 hn4;obtain rfl:(v2E.length:Int)=n4:=(hn4.trans (congrArg (fun m:Nat=>(m:Int)) (rlen CV.encs_eq v2E))).symm;show Tri ..;obtain⟨fl,hl,ho1⟩:=zAc h
  refine zDk (fl:=fl) (fun z=>match z with | l8=>⟨ofL [(0,.orow 1)],ofH [(1,.row 5 1 ((List.map brow) l8))],2⟩) ?_ (fun l8 σ' hz hle=>?_)
  ·refine zAp (zAE (X:=Nat×Int×(List UInt8)) (fun y=>match y with | (k,x6,l7)=>⟨ofL [(0,.orow 1),(1,.s (.pt [.int .i64 v2A,.int .i64 v2F,.str v2B,.sl 4 (CV.encs v2E)])),(32,.s (.int .i64 (v2E.length:Int))),(33,.s (.int .i64 x6))],ofH [(1,.row 5 1 ((List.map brow) l7))],2⟩) (fun y=>zBG (zB0 n) v2E y.1 y.2.1 y.2.2=some fl) (fun y=>y.1) (n,0,y3++v2B) hl ?_ ?_)
   ·exact(Le.rnm [(1,1)] _ _ _ ⟨rfl,rfl,rfl,rfl,trivial⟩ ⟨rfl,⟨_,rfl,rfl⟩,trivial⟩)
   ·rintro⟨k,x6,l7⟩ h;cases k with
    | zero=>cases h
    | succ k =>
     replace h:zBG (zB0 n) v2E (k+1) x6 l7=some fl:=h;rw[zBG]at h;refine zQE [] [] rfl ?_;show Tri ..;refine zAa ?_;refine zAo rfl h (fun hb h=>?_) (fun hb h=>?_)
     ·refine zAh ?_;show Tri ..;refine zAa ?_;refine zAp ?_;refine zQE [] [] rfl ?_;show Tri ..;refine zAa ?_;refine zQE [] [37] rfl ?_;intro n9 hn9;obtain rfl:(l7.length:Int)=n9:=(hn9.trans (congrArg (fun m:Nat=>(m:Int)) (rlen (fun _=>rfl) l7))).symm;show Tri ..;refine zAo rfl h (fun hb h=>?_) (fun hb h=>?_)
      ·refine zQE [] [] rfl ?_;show Tri ..;refine zAg ?_;cases h;replace h:some _=some _:=ho1;have hy:=Option.some.inj h;subst hy;unfold zB5;exact⟨_,(Le.rnm [(1,1)] [(4,.orow 1)] [(1,.row 5 1 ((List.map brow) l7))] 2 ⟨rfl,trivial⟩ ⟨rfl,⟨_,rfl,rfl⟩,trivial⟩),rfl,rfl,rfl,rfl,trivial⟩
      ·refine zAh ?_;show Tri ..;refine zAb [47] [46] rfl ?_;obtain⟨⟨e10A,e10F,e10B,e10E⟩,he10,h⟩:=zAc h;refine And.intro (zAK CV.encs_eq he10).1 ?_;intro r11 hr11;obtain rfl:[.int .i64 e10A,.int .i64 e10F,.str e10B,.sl 4 (CV.encs e10E)]=r11:=(hr11.trans (zAK CV.encs_eq he10).2.1).symm;obtain⟨y12,hy12,h⟩:=zAc h;refine⟨_,_,⟨_,_,_,hy12,rfl,rfl,rfl,rfl⟩,?_⟩
       show Tri ..;refine zAb [] [] rfl ?_;refine⟨(k,IntKind.i64.wrap (x6+1),y12),h,(Le.rnm [(2,1)] _ _ _ ⟨rfl,rfl,rfl,rfl,trivial⟩ ⟨rfl,⟨_,rfl,rfl⟩,trivial⟩),Nat.lt_succ_self k⟩
     ·refine zAJ ?_;cases h;exact⟨_,rfl,(Le.rnm [(1,1)] _ _ _ ⟨rfl,trivial⟩ ⟨rfl,⟨_,rfl,rfl⟩,trivial⟩)⟩
  ·subst hz;replace h:=ho1;show Tri ..;refine zAk hle ?_;refine zQE [] [] rfl ?_;show Tri ..;refine zAg ?_;have hy:=Option.some.inj h;subst hy;unfold zB5;exact⟨_,(Le.rnm [(1,1)] [(4,.orow 1)] [(1,.row 5 1 ((List.map brow) l8))] 2 ⟨rfl,trivial⟩ ⟨rfl,⟨_,rfl,rfl⟩,trivial⟩),rfl,rfl,rfl,rfl,trivial⟩
theorem zIw:∀ n,PSound Try.prog 27 (zCm (zCI n) (some 0)):=by
 intro n
 induction n with
 | zero=>exact zJB Try.call27 (fun xs os x os' h=>by obtain⟨_,_,_,h,_⟩:=h; cases h) _
 | succ n ih=>exact zH9 n ih
def zGx:zAv:=zCm (fun xs os x os'=>∃ n,zCI n xs os x os') (some 0)
theorem zJp:PSound Try.prog 27 zGx:=zKH zIw _
def zJT (n:Nat) (xs:List AV) (r:Ret):Prop:=∃ (a0:CV) (y0:List UInt8) (y1:Int),zEQ n a0=some (y0,y1)/\xs=[.agg ((CV.enc a0).map .s)]/\r = .val (.tup [.s (.sl 1 ((List.map brow) y0)),.s (.int .i64 y1)])
def zGw:zAv:=zAx fun xs r=>∃ n,zJT n xs r
theorem zJo:PSound Try.prog 19 zGw:=by
 have gok:∀ f s,look? f [(26,zHk),(27,zGx)]=some s->PSound Try.prog f s:=zAs (by
  simp only[List.forall_mem_cons]
  exact⟨zJ8,zJp,by simp⟩)
 refine zAz tokW Try.call19 Try.func19 rfl (fun xs r h=>by obtain⟨n,_,_,_,_,rfl,_⟩:=h; show 1<=13; decide) 13 rfl ?_;rintro xs r w0 G0 ⟨n,⟨v1A,v1F,v1B,v1E⟩,y0,y1,h,rfl,rfl⟩ _;rw[zEQ]at h;refine zQE [] [] rfl ?_;show Tri ..;refine zAa ?_;refine zQE [] [] rfl ?_;obtain⟨y2,hy2,h⟩:=zAc h;refine⟨_,⟨_,_,_,hy2,rfl,rfl⟩,?_⟩
 show Tri ..;refine zAo rfl h (fun hb h=>?_) (fun hb h=>?_)
 ·refine zQE [] [] rfl ?_;show Tri ..;refine zAg ?_;obtain⟨hj1,hk1⟩:=pij h;subst hj1 hk1;unfold zAu;exact⟨_,Le.refl _ _,rfl,rfl⟩
 ·refine zAh ?_;show Tri ..;refine zQE [] [] rfl ?_;obtain⟨y3,hy3,h⟩:=zAc h;refine⟨_,_,⟨_,_,_,_,hy3,rfl,rfl,rfl,rfl⟩,?_⟩
  show Tri ..;refine zAa ?_;refine zQE [] [10] rfl ?_;intro n4 hn4;obtain rfl:(y3.length:Int)=n4:=(hn4.trans (congrArg (fun m:Nat=>(m:Int)) (rlen (fun _=>rfl) y3))).symm;show Tri ..;refine zAo rfl h (fun hb h=>?_) (fun hb h=>?_)
  ·refine zQE [] [] rfl ?_;show Tri ..;refine zAg ?_;obtain⟨hj1,hk1⟩:=pij h;subst hj1 hk1;unfold zAu;exact⟨_,Le.refl _ _,rfl,rfl⟩
  ·refine zAh ?_;show Tri ..;refine zQE [] [] rfl ?_;show Tri ..;refine zAg ?_;obtain⟨hj1,hk1⟩:=pij h;subst hj1 hk1;unfold zAu;exact⟨_,(Le.trans (Le.rnm [(1,0)] [(2,.orow 0),(3,.s (.int .i64 0))] [(0,.row 5 1 ((List.map brow) y3))] 1 ⟨rfl,rfl,trivial⟩ ⟨rfl,⟨_,rfl,rfl⟩,trivial⟩) (Le.giveRow 0 rfl)),rfl,rfl⟩
def zIS (n:Nat) (xs:List AV) (r:Ret):Prop:=∃ (a0:Int) (a1:List UInt8) (y0:Int),zEk n a0 a1=some y0/\xs=[.s (.int .u64 a0),.s (.sl 1 ((List.map brow) a1))]/\r = .val (.s (.int .u64 y0))
def zFE:zAv:=zAx fun xs r=>∃ n,zIS n xs r
theorem zIA:PSound Try.prog 34 zFE:=by
 have gok:=@gok0 Try.prog;refine zAz tokW Try.call34 Try.func34 rfl (fun xs r h=>by obtain⟨n,_,_,_,_,rfl,_⟩:=h; show 2<=20; decide) 20 rfl ?_;rintro xs r w0 G0 ⟨n,h1,b2,y0,h,rfl,rfl⟩ _;rw[zEk]at h;refine zQE [] [] rfl ?_;show Tri ..;refine zAa ?_;refine zQE [] [8] rfl ?_;intro n3 hn3;obtain rfl:(b2.length:Int)=n3:=(hn3.trans (congrArg (fun m:Nat=>(m:Int)) (rlen (fun _=>rfl) b2))).symm;show Tri ..;obtain⟨h6,hl,h⟩:=zAc h;refine zAt ⟨ofL [(0,.s (.int .u64 h6))],fun _=>none,0⟩ ?_ (fun σ' hle=>?_)
 ·refine zAp (zAE (X:=Nat×Int×Int) (fun y=>match y with | (k,h4,x5)=>⟨ofL [(0,.s (.int .u64 h4)),(7,.s (.sl 1 ((List.map brow) b2))),(8,.s (.int .i64 (b2.length:Int))),(9,.s (.int .i64 x5))],fun _=>none,0⟩) (fun y=>zBx b2 y.1 y.2.1 y.2.2=some h6) (fun y=>y.1) (n,h1,0) hl ?_ ?_)
  ·exact(Le.forget _ ⟨rfl,rfl,rfl,rfl,trivial⟩)
  ·rintro⟨k,h4,x5⟩ h;cases k with
   | zero=>cases h
   | succ k =>
    replace h:zBx b2 (k+1) h4 x5=some h6:=h;rw[zBx]at h;refine zQE [] [] rfl ?_;show Tri ..;refine zAa ?_;refine zAo rfl h (fun hb h=>?_) (fun hb h=>?_)
    ·refine zAh ?_;show Tri ..;refine zAa ?_;refine zAp ?_;refine zQE [] [11] rfl ?_;obtain⟨e7,he7,h⟩:=zAc h;refine And.intro (zAK (fun _=>rfl) he7).1 ?_;intro r8 hr8;obtain rfl:[.int .u8 (e7.toNat:Int)]=r8:=(hr8.trans (zAK (fun _=>rfl) he7).2.1).symm;show Tri ..;refine zAb [] [] rfl ?_;show Tri ..;refine zAb [] [] rfl ?_;refine⟨(k,IntKind.u64.wrap ((zHU .xor .u64 h4 (IntKind.u64.wrap (e7.toNat:Int))) * 1099511628211),IntKind.i64.wrap (x5+1)),h,(Le.forget _ ⟨rfl,rfl,rfl,rfl,trivial⟩),Nat.lt_succ_self k⟩
    ·refine zAJ ?_;cases h;exact(Le.forget _ ⟨rfl,trivial⟩)
 ·show Tri ..;refine zAk hle ?_;refine zQE [] [] rfl ?_;show Tri ..;refine zAg ?_;have hy:=Option.some.inj h;subst hy;unfold zAu;exact⟨_,Le.refl _ _,rfl,rfl⟩
def zJV (n:Nat) (xs:List AV) (r:Ret):Prop:=∃ (a0:List UInt8) (y0:Int),zES n a0=some y0/\xs=[.s (.sl 1 ((List.map brow) a0))]/\r = .val (.s (.int .u64 y0))
def zGz:zAv:=zAx fun xs r=>∃ n,zJV n xs r
theorem zJs:PSound Try.prog 21 zGz:=by
 have gok:∀ f s,look? f [(34,zFE)]=some s->PSound Try.prog f s:=zAs (by
  simp only[List.forall_mem_cons]
  exact⟨zIA,by simp⟩)
 refine zAz tokW Try.call21 Try.func21 rfl (fun xs r h=>by obtain⟨n,_,_,_,rfl,_⟩:=h; show 1<=5; decide) 5 rfl ?_;rintro xs r w0 G0 ⟨n,b1,y0,h,rfl,rfl⟩ _;rw[zES]at h;refine zQE [] [] rfl ?_;show Tri ..;refine zQE [] [] rfl ?_;obtain⟨y2,hy2,h⟩:=zAc h;refine⟨_,⟨_,_,_,_,hy2,rfl,rfl⟩,?_⟩
 show Tri ..;refine zAg ?_;have hy:=Option.some.inj h;subst hy;unfold zAu;exact⟨_,Le.refl _ _,rfl,rfl⟩
def zK0 (n:Nat) (xs:List AV) (r:Ret):Prop:=∃ (a0:List UInt8) (y0:Bool),zDd n a0=some y0/\xs=[.s (.str a0)]/\r = .val (.s (.bool y0))
def zHq:zAv:=zAx fun xs r=>∃ n,zK0 n xs r
theorem zKe:PSound Try.prog 36 zHq:=by
 have gok:=@gok0 Try.prog;refine zAz tokW Try.call36 Try.func36 rfl (fun xs r h=>by obtain⟨n,_,_,_,rfl,_⟩:=h; show 1<=23; decide) 23 rfl ?_;rintro xs r w0 G0 ⟨n,s1,y0,h,rfl,rfl⟩ _;rw[zDd]at h;refine zQE [] [] rfl ?_;show Tri ..;refine zAa ?_;refine zQE [] [] rfl ?_;show Tri ..;obtain⟨fl,hl,ho1⟩:=zAc h;refine zDk (fl:=fl) (fun z=>match z with | _=>⟨ofL [(0,.s (.str s1))],fun _=>none,0⟩) ?_ (fun z σ' hz hle=>?_)
 ·refine zAp (zAE (X:=Nat×Int) (fun y=>match y with | (k,i2)=>⟨ofL [(0,.s (.str s1)),(3,.s (.int .i64 i2))],fun _=>none,0⟩) (fun y=>zA5 s1 y.1 y.2=some fl) (fun y=>y.1) (n,0) hl ?_ ?_)
  ·exact(Le.forget _ ⟨rfl,rfl,trivial⟩)
  ·rintro⟨k,i2⟩ h;cases k with
   | zero=>cases h
   | succ k =>
    replace h:zA5 s1 (k+1) i2=some fl:=h;rw[zA5]at h;refine zAa ?_;refine zQE [] [] rfl ?_;show Tri ..;refine zAo rfl h (fun hb h=>?_) (fun hb h=>?_)
    ·refine zAh ?_;show Tri ..;refine zAa ?_;refine zAp ?_;refine zAa ?_;obtain⟨x3,hj,h⟩:=zAc h;refine zAt ⟨ofL [(0,.s (.str s1)),(3,.s (.int .i64 i2)),(19,.s (.bool x3))],fun _=>none,0⟩ ?_ (fun σ' hle=>?_)
     ·replace h:=hj;refine zAb [] [12,14,17] rfl ?_;obtain⟨c4,hc4,h⟩:=zAc h;refine And.intro (zCB hc4).1 ?_;intro v5 hv5;obtain rfl:(c4.toNat:Int)=v5:=(hv5.trans (zCB hc4).2).symm;intro b hb;cases b with
      | true =>
       replace h:=zAD hb.symm h;cases h;exact(Le.forget _ ⟨rfl,rfl,rfl,trivial⟩)
      | false =>
       replace h:=zAC hb.symm h;obtain⟨c6,hc6,h⟩:=zAc h;refine And.intro (zCB hc6).1 ?_;intro v7 hv7;obtain rfl:(c6.toNat:Int)=v7:=(hv7.trans (zCB hc6).2).symm;cases h;exact(Le.forget _ ⟨rfl,rfl,rfl,trivial⟩)
     ·show Tri ..;refine zAk hle ?_;refine zAo rfl h (fun hb h=>?_) (fun hb h=>?_)
      ·refine zQE [] [] rfl ?_;show Tri ..;refine zAg ?_;cases h;replace h:some _=some _:=ho1;have hy:=Option.some.inj h;subst hy;unfold zAu;exact⟨_,Le.refl _ _,rfl,rfl⟩
      ·refine zAh ?_;show Tri ..;refine zAb [] [] rfl ?_;refine⟨(k,IntKind.i64.wrap (i2+1)),h,(Le.forget _ ⟨rfl,rfl,trivial⟩),Nat.lt_succ_self k⟩
    ·refine zAJ ?_;cases h;exact⟨_,rfl,(Le.forget _ ⟨rfl,trivial⟩)⟩
 ·subst hz;obtain _:=z;replace h:=ho1;show Tri ..;refine zAk hle ?_;refine zQE [] [] rfl ?_;show Tri ..;refine zAg ?_;have hy:=Option.some.inj h;subst hy;unfold zAu;exact⟨_,Le.refl _ _,rfl,rfl⟩
def zK6 (n:Nat) (xs:List AV) (r:Ret):Prop:=∃ (a0:Nd) (a1:List Int) (y0:Bool),zFl n a0 a1=some y0/\xs=[.agg ((Nd.enc a0).map .s),.s (.sl 1 ((List.map (irow .i64)) a1))]/\r = .val (.s (.bool y0))
def zHv:zAv:=zAx fun xs r=>∃ n,zK6 n xs r
theorem zKj:PSound Try.prog 71 zHv:=by
 have gok:=@gok0 Try.prog;refine zAz tokW Try.call71 Try.func71 rfl (fun xs r h=>by obtain⟨n,_,_,_,_,rfl,_⟩:=h; show 2<=77; decide) 77 rfl ?_;rintro xs r w0 G0 ⟨n,⟨a1A,a1B,a1D,a1C⟩,a2,y0,h,rfl,rfl⟩ _;rw[zFl]at h;refine zQE [] [] rfl ?_;show Tri ..;refine zQE [] [] rfl ?_;show Tri ..;refine zAa ?_;obtain⟨fl,hl,ho1⟩:=zAc h
 refine zDk (fl:=fl) (fun z=>match z with | ⟨x5,⟨x6A,x6B,x6D,x6C⟩⟩=>⟨ofL [(1,.s (.sl 1 ((List.map (irow .i64)) x5))),(5,.s (.pt [.int .i64 x6A,.str x6B,.int .i64 x6D,.sl 4 (Nd.encs x6C)]))],fun _=>none,0⟩) ?_ (fun z σ' hz hle=>?_)
 ·refine zAp (zAE (X:=Nat×(List Int)×Nd) (fun y=>match y with | (k,x3,⟨x4A,x4B,x4D,x4C⟩)=>⟨ofL [(1,.s (.sl 1 ((List.map (irow .i64)) x3))),(5,.s (.pt [.int .i64 x4A,.str x4B,.int .i64 x4D,.sl 4 (Nd.encs x4C)]))],fun _=>none,0⟩) (fun y=>zBX  y.1 y.2.1 y.2.2=some fl) (fun y=>y.1) (n,a2,Nd.mk a1A a1B a1D a1C) hl ?_ ?_)
  ·exact(Le.forget _ ⟨rfl,rfl,trivial⟩)
  ·rintro⟨k,x3,⟨x4A,x4B,x4D,x4C⟩⟩ h;cases k with
   | zero=>cases h
   | succ k =>
    replace h:zBX  (k+1) x3 ⟨x4A,x4B,x4D,x4C⟩=some fl:=h;rw[zBX]at h;refine zAa ?_;refine zQE [] [9] rfl ?_;intro n7 hn7;obtain rfl:(x3.length:Int)=n7:=(hn7.trans (congrArg (fun m:Nat=>(m:Int)) (rlen (fun _=>rfl) x3))).symm;show Tri ..;refine zAo rfl h (fun hb h=>?_) (fun hb h=>?_)
    ·refine zAh ?_;show Tri ..;refine zAa ?_;refine zAp ?_;refine zAa ?_;refine zBe [] [14,17] [] rfl (by decide +kernel) ?_;obtain⟨e8,he8,h⟩:=zAc h;refine And.intro (zAK (fun _=>rfl) he8).1 ?_;intro r9 hr9;obtain rfl:[.int .i64 e8]=r9:=(hr9.trans (zAK (fun _=>rfl) he8).2.1).symm;obtain⟨e10,he10,h⟩:=zAc h;refine And.intro (zAK (fun _=>rfl) he10).1 ?_;intro r11 hr11;obtain rfl:[.int .i64 e10]=r11:=(hr11.trans (zAK (fun _=>rfl) he10).2.1).symm;show Tri ..;refine zAa ?_;refine zAa ?_;obtain⟨x12,hj,h⟩:=zAc h
     refine zAt ⟨ofL [(1,.s (.sl 1 ((List.map (irow .i64)) x3))),(5,.s (.pt [.int .i64 x4A,.str x4B,.int .i64 x4D,.sl 4 (Nd.encs x4C)])),(6,.s (.int .i64 e8)),(7,.s (.int .i64 e10)),(46,.s (.bool x12))],fun _=>none,0⟩ ?_ (fun σ' hle=>?_)
     ·replace h:=hj;refine zAb [] [21,27,30,34,41,44] rfl ?_;intro b hb;cases b with
      | true =>
       replace h:=zAD hb.symm h;intro b hb;subst hb;intro b hb;subst hb;cases h;exact(Le.forget _ ⟨rfl,rfl,rfl,rfl,rfl,trivial⟩)
      | false =>
       replace h:=zAC hb.symm h;intro n13 hn13;obtain rfl:(x4C.length:Int)=n13:=(hn13.trans (congrArg (fun m:Nat=>(m:Int)) (rlen Nd.encs_eq x4C))).symm;intro b hb;cases b with
       | true =>
        replace h:=zAD hb.symm h;intro b hb;subst hb;cases h;exact(Le.forget _ ⟨rfl,rfl,rfl,rfl,rfl,trivial⟩)
       | false =>
        replace h:=zAC hb.symm h;intro b hb;cases b with
        | true =>
         replace h:=zAD hb.symm h;cases h;exact(Le.forget _ ⟨rfl,rfl,rfl,rfl,rfl,trivial⟩)
        | false =>
         replace h:=zAC hb.symm h;obtain⟨⟨e14A,e14B,e14D,e14C⟩,he14,h⟩:=zAc h;refine And.intro (zAK Nd.encs_eq he14).1 ?_;intro r15 hr15;obtain rfl:[.int .i64 e14A,.str e14B,.int .i64 e14D,.sl 4 (Nd.encs e14C)]=r15:=(hr15.trans (zAK Nd.encs_eq he14).2.1).symm;intro n16 hn16;obtain rfl:(e14C.length:Int)=n16:=(hn16.trans (congrArg (fun m:Nat=>(m:Int)) (rlen Nd.encs_eq e14C))).symm;cases h;exact(Le.forget _ ⟨rfl,rfl,rfl,rfl,rfl,trivial⟩)
     ·show Tri ..;refine zAk hle ?_;refine zAo rfl h (fun hb h=>?_) (fun hb h=>?_)
      ·refine zQE [] [] rfl ?_;show Tri ..;refine zAg ?_;cases h;replace h:some _=some _:=ho1;have hy:=Option.some.inj h;subst hy;unfold zAu;exact⟨_,Le.refl _ _,rfl,rfl⟩
      ·refine zAh ?_;show Tri ..;refine zAb [] [52,56] rfl ?_;obtain⟨⟨e17A,e17B,e17D,e17C⟩,he17,h⟩:=zAc h;refine And.intro (zAK Nd.encs_eq he17).1 ?_;intro r18 hr18;obtain rfl:[.int .i64 e17A,.str e17B,.int .i64 e17D,.sl 4 (Nd.encs e17C)]=r18:=(hr18.trans (zAK Nd.encs_eq he17).2.1).symm;obtain⟨⟨e19A,e19B,e19D,e19C⟩,he19,h⟩:=zAc h;refine And.intro (zAK Nd.encs_eq he19).1 ?_;intro r20 hr20;obtain rfl:[.int .i64 e19A,.str e19B,.int .i64 e19D,.sl 4 (Nd.encs e19C)]=r20:=(hr20.trans (zAK Nd.encs_eq he19).2.1).symm;show Tri ..;refine zAb [] [12] rfl ?_
       obtain⟨hq,h⟩:=zAI h;refine And.intro ⟨hq.1,Int.le_trans hq.2.1 (Int.ofNat_le.2 (Nat.le_of_eq (rlen (fun _=>rfl) _).symm)),Int.le_refl _⟩ ?_;intro r21 hr21;obtain rfl:(List.map (irow .i64)) ((x3.take (x3.length:Int).toNat).drop (2:Int).toNat)=r21:=(hr21.trans ((congrArg (fun m:Nat=>(((List.map (irow .i64)) x3).take m).drop (2:Int).toNat) (rlen (fun _=>rfl) _)).trans (rcut (fun _=>rfl) _ _ _))).symm;refine⟨(k,(x3.take (x3.length:Int).toNat).drop (2:Int).toNat,Nd.mk e19A e19B e19D e19C),h,(Le.forget _ ⟨rfl,rfl,trivial⟩),Nat.lt_succ_self k⟩
    ·refine zAJ ?_;cases h;exact⟨_,rfl,(Le.forget _ ⟨rfl,rfl,trivial⟩)⟩
 ·subst hz;obtain⟨x5,⟨x6A,x6B,x6D,x6C⟩⟩:=z;replace h:=ho1;show Tri ..;refine zAk hle ?_;refine zAa ?_;obtain⟨x22,hj,h⟩:=zAc h;refine zAt ⟨ofL [(4,.s (.bool x22))],fun _=>none,0⟩ ?_ (fun σ' hle=>?_)
  ·replace h:=hj;refine zBe [] [58,60,62,66,68,74] [] rfl (by decide +kernel) ?_;intro n23 hn23;obtain rfl:(x5.length:Int)=n23:=(hn23.trans (congrArg (fun m:Nat=>(m:Int)) (rlen (fun _=>rfl) x5))).symm;intro b hb;cases b with
   | true =>
    replace h:=zAD hb.symm h;obtain⟨e24,he24,h⟩:=zAc h;refine And.intro (zAK (fun _=>rfl) he24).1 ?_;intro r25 hr25;obtain rfl:[.int .i64 e24]=r25:=(hr25.trans (zAK (fun _=>rfl) he24).2.1).symm;intro b hb;cases b with
    | true =>
     replace h:=zAD hb.symm h;obtain⟨e26,he26,h⟩:=zAc h;refine And.intro (zAK (fun _=>rfl) he26).1 ?_;intro r27 hr27;obtain rfl:[.int .i64 e26]=r27:=(hr27.trans (zAK (fun _=>rfl) he26).2.1).symm;intro n28 hn28;obtain rfl:(x6C.length:Int)=n28:=(hn28.trans (congrArg (fun m:Nat=>(m:Int)) (rlen Nd.encs_eq x6C))).symm;cases h;exact(Le.forget _ ⟨rfl,trivial⟩)
    | false =>
     replace h:=zAC hb.symm h;cases h;exact(Le.forget _ ⟨rfl,trivial⟩)
   | false =>
    replace h:=zAC hb.symm h;intro b hb;subst hb;cases h;exact(Le.forget _ ⟨rfl,trivial⟩)
  ·show Tri ..;refine zAk hle ?_;refine zAg ?_;have hy:=Option.some.inj h;subst hy;unfold zAu;exact⟨_,Le.refl _ _,rfl,rfl⟩
def zIv (n:Nat) (xs:List AV) (r:Ret):Prop:=∃ (a0:Nd) (a1:List Int) (y0:Bool),zCR n a0 a1=some y0/\xs=[.agg ((Nd.enc a0).map .s),.s (.sl 1 ((List.map (irow .i64)) a1))]/\r = .val (.s (.bool y0))
def zFu:zAv:=zAx fun xs r=>∃ n,zIv n xs r
theorem zH3:PSound Try.prog 55 zFu:=by
 have gok:∀ f s,look? f [(16,zBt),(71,zHv)]=some s->PSound Try.prog f s:=zAs (by
  simp only[List.forall_mem_cons]
  exact⟨zBC,zKj,by simp⟩)
 refine zAz tokW Try.call55 Try.func55 rfl (fun xs r h=>by obtain⟨n,_,_,_,_,rfl,_⟩:=h; show 2<=12; decide) 12 rfl ?_;rintro xs r w0 G0 ⟨n,⟨n1A,n1B,n1D,n1C⟩,pos2,y0,h,rfl,rfl⟩ _;rw[zCR]at h;refine zQE [] [] rfl ?_;show Tri ..;refine zAa ?_;obtain⟨x3,hj,h⟩:=zAc h;refine zAt ⟨ofL [(4,.s (.bool x3))],fun _=>none,0⟩ ?_ (fun σ' hle=>?_)
 ·replace h:=hj;refine zAb [] [7] rfl ?_;obtain⟨y4,hy4,h⟩:=zAc h;refine⟨_,⟨_,_,_,hy4,rfl,rfl⟩,?_⟩
  intro b hb;cases b with
  | true =>
   replace h:=zAD hb.symm h;obtain⟨y5,hy5,h⟩:=zAc h;refine⟨_,⟨_,_,_,_,hy5,rfl,rfl⟩,?_⟩
   cases h;exact(Le.forget _ ⟨rfl,trivial⟩)
  | false =>
   replace h:=zAC hb.symm h;cases h;exact(Le.forget _ ⟨rfl,trivial⟩)
 ·show Tri ..;refine zAk hle ?_;refine zAg ?_;have hy:=Option.some.inj h;subst hy;unfold zAu;exact⟨_,Le.refl _ _,rfl,rfl⟩
def zAr (p:zCu):List S:=[.sl 1 ((List.map (irow .i64)) p.1),.sl 1 ((List.map (irow .i64)) p.2)]
def zJY (n:Nat) (xs:List AV) (r:Ret):Prop:=∃ (a0:Nd) (a1:zCu) (y0:Bool),zDy n a0 a1=some y0/\xs=[.agg ((Nd.enc a0).map .s),.agg ((zAr a1).map .s)]/\r = .val (.s (.bool y0))
def zGB:zAv:=zAx fun xs r=>∃ n,zJY n xs r
theorem zJu:PSound Try.prog 38 zGB:=by
 have gok:∀ f s,look? f [(55,zFu)]=some s->PSound Try.prog f s:=zAs (by
  simp only[List.forall_mem_cons]
  exact⟨zH3,by simp⟩)
 refine zAz tokW Try.call38 Try.func38 rfl (fun xs r h=>by obtain⟨n,_,_,_,_,rfl,_⟩:=h; show 2<=21; decide) 21 rfl ?_;rintro xs r w0 G0 ⟨n,⟨n1A,n1B,n1D,n1C⟩,⟨c2Aq,c2Ap⟩,y0,h,rfl,rfl⟩ _;rw[zDy]at h;refine zQE [] [] rfl ?_;show Tri ..;refine zAa ?_;obtain⟨x3,hj,h⟩:=zAc h;refine zAt ⟨ofL [(4,.s (.bool x3))],fun _=>none,0⟩ ?_ (fun σ' hle=>?_)
 ·replace h:=hj;refine zAb [] [9,12,14] rfl ?_;obtain⟨y4,hy4,h⟩:=zAc h;refine⟨_,⟨_,_,_,_,hy4,rfl,rfl⟩,?_⟩
  intro b hb;cases b with
  | true =>
   replace h:=zAD hb.symm h;intro n5 hn5;obtain rfl:(c2Ap.length:Int)=n5:=(hn5.trans (congrArg (fun m:Nat=>(m:Int)) (rlen (fun _=>rfl) c2Ap))).symm;intro b hb;cases b with
   | true =>
    replace h:=zAD hb.symm h;cases h;exact(Le.forget _ ⟨rfl,trivial⟩)
   | false =>
    replace h:=zAC hb.symm h;obtain⟨y6,hy6,h⟩:=zAc h;refine⟨_,⟨_,_,_,_,hy6,rfl,rfl⟩,?_⟩
    cases h;exact(Le.forget _ ⟨rfl,trivial⟩)
  | false =>
   replace h:=zAC hb.symm h;cases h;exact(Le.forget _ ⟨rfl,trivial⟩)
 ·show Tri ..;refine zAk hle ?_;refine zAg ?_;have hy:=Option.some.inj h;subst hy;unfold zAu;exact⟨_,Le.refl _ _,rfl,rfl⟩
def zAe (p:zRc):List S:=[.sl 8 ((List.map zAq) p.1),.sl 1 ((List.map (irow .i64)) p.2.1.1),.sl 1 ((List.map (irow .i64)) p.2.1.2),.sl 1 ((List.map (irow .i64)) p.2.2.1),.sl 1 ((List.map (irow .i64)) p.2.2.2)]
def zAl:(List UInt8×Nd×List zRc×Int)->List S
| ⟨p_title,⟨p_origin_kind,p_origin_text,p_origin_cols,p_origin_kids⟩,p_records,p_done⟩=>[.str p_title,.int .i64 p_origin_kind,.str p_origin_text,.int .i64 p_origin_cols,.sl 4 (Nd.encs p_origin_kids),.sl 5 ((List.map zAe) p_records),.int .i64 p_done]
def zJZ (n:Nat) (xs:List AV) (r:Ret):Prop:=∃ (a0:(List UInt8×Nd×List zRc×Int)) (a1:Int) (y0:Nd) (y1:Bool),zB1 n a0 a1=some (y0,y1)/\xs=[.agg ((zAl a0).map .s),.s (.int .i64 a1)]/\r = .val (.tup [.agg ((Nd.enc y0).map .s),.s (.bool y1)])
def zGC:zAv:=zAx fun xs r=>∃ n,zJZ n xs r
theorem zJv:PSound Try.prog 23 zGC:=by
 have gok:∀ f s,look? f [(36,zHq),(16,zBt),(17,zCb),(37,zFF),(38,zGB)]=some s->PSound Try.prog f s:=zAs (by
  simp only[List.forall_mem_cons]
  exact⟨zKe,zBC,zCl,zIB,zJu,by simp⟩)
 refine zAz tokW Try.call23 Try.func23 rfl (fun xs r h=>by obtain⟨n,_,_,_,_,_,rfl,_⟩:=h; show 2<=88; decide) 88 rfl ?_;rintro xs r w0 G0 ⟨n,⟨a1Ao,⟨a1I,a1J,a1K,a1L⟩,a1G,a1H⟩,a2,y0,y1,h,rfl,rfl⟩ _;rw[zB1]at h;refine zQE [4] [] rfl ?_;show Tri ..;refine zAa ?_;refine zAa ?_;obtain⟨x3,hj,h⟩:=zAc h
 refine zAt ⟨ofL [(1,.s (.int .i64 a2)),(2,.s (.pt [.str a1Ao,.int .i64 a1I,.str a1J,.int .i64 a1K,.sl 4 (Nd.encs a1L),.sl 5 ((List.map zAe) a1G),.int .i64 a1H])),(4,.op 0 0),(41,.s (.bool x3))],ofH [(0,.box 24 [.s (.int .i64 0),.s (.str []),.s (.int .i64 0),.nl 4])],1⟩ ?_ (fun σ' hle=>?_)
 ·replace h:=hj;refine zAb [] [17,23,26,29,34,39] rfl ?_;obtain⟨y4,hy4,h⟩:=zAc h;refine⟨_,⟨_,_,_,hy4,rfl,rfl⟩,?_⟩
  intro b hb;cases b with
  | true =>
   replace h:=zAD hb.symm h;intro b hb;subst hb;intro b hb;subst hb;intro b hb;subst hb;cases h;exact(Le.rnm [(0,0)] _ _ _ ⟨rfl,rfl,rfl,rfl,trivial⟩ ⟨rfl,⟨_,rfl,rfl⟩,trivial⟩)
  | false =>
   replace h:=zAC hb.symm h;obtain⟨y5,hy5,h⟩:=zAc h;refine⟨_,⟨_,_,_,hy5,rfl,rfl⟩,?_⟩
   intro b hb;cases b with
   | true =>
    replace h:=zAD hb.symm h;intro b hb;subst hb;intro b hb;subst hb;cases h;exact(Le.rnm [(0,0)] _ _ _ ⟨rfl,rfl,rfl,rfl,trivial⟩ ⟨rfl,⟨_,rfl,rfl⟩,trivial⟩)
   | false =>
    replace h:=zAC hb.symm h;intro n6 hn6;obtain rfl:(a1G.length:Int)=n6:=(hn6.trans (congrArg (fun m:Nat=>(m:Int)) (rlen (fun _=>rfl) a1G))).symm;intro b hb;cases b with
    | true =>
     replace h:=zAD hb.symm h;intro b hb;subst hb;cases h;exact(Le.rnm [(0,0)] _ _ _ ⟨rfl,rfl,rfl,rfl,trivial⟩ ⟨rfl,⟨_,rfl,rfl⟩,trivial⟩)
    | false =>
     replace h:=zAC hb.symm h;intro b hb;cases b with
     | true =>
      replace h:=zAD hb.symm h;cases h;exact(Le.rnm [(0,0)] _ _ _ ⟨rfl,rfl,rfl,rfl,trivial⟩ ⟨rfl,⟨_,rfl,rfl⟩,trivial⟩)
     | false =>
      replace h:=zAC hb.symm h;intro n7 hn7;obtain rfl:(a1G.length:Int)=n7:=(hn7.trans (congrArg (fun m:Nat=>(m:Int)) (rlen (fun _=>rfl) a1G))).symm;cases h;exact(Le.rnm [(0,0)] _ _ _ ⟨rfl,rfl,rfl,rfl,trivial⟩ ⟨rfl,⟨_,rfl,rfl⟩,trivial⟩)
 ·show Tri ..;refine zAk hle ?_;refine zAo rfl h (fun hb h=>?_) (fun hb h=>?_)
  ·refine zQE [] [] rfl ?_;show Tri ..;refine zAg ?_;obtain⟨hj1,hk1⟩:=pij h;subst hj1 hk1;unfold zAu;exact⟨_,Le.refl _ _,rfl,rfl⟩
  ·refine zAh ?_;show Tri ..;refine zQE [6] [] rfl ?_;obtain⟨⟨y8A,y8B,y8D,y8C⟩,hy8,h⟩:=zAc h;refine⟨_,⟨_,_,hy8,rfl,rfl⟩,?_⟩
   show Tri ..;refine zQE [7] [] rfl ?_;show Tri ..;refine zAa ?_;refine zQE [] [49] rfl ?_;intro n9 hn9;obtain rfl:(a1G.length:Int)=n9:=(hn9.trans (congrArg (fun m:Nat=>(m:Int)) (rlen (fun _=>rfl) a1G))).symm;show Tri ..;obtain⟨fl,hl,ho1⟩:=zAc h;refine zDk (fl:=fl) (fun z=>match z with | ⟨x20,x21,x22,x23⟩=>⟨ofL [(4,.op 0 0),(7,.op 1 0)],ofH [(0,.box 24 [.s (.int .i64 0),.s (.str []),.s (.int .i64 0),.nl 4]),(1,.box 24 [.s (.int .i64 x20),.s (.str x21),.s (.int .i64 x22),.s (.sl 4 (Nd.encs x23))])],2⟩) ?_ (fun z σ' hz hle=>?_)
   ·refine zAp (zAE (X:=Nat×Int×(List UInt8)×Int×(List Nd)×Int×(List UInt8)×Int×(List Nd)×Int) (fun y=>match y with | (k,x11,x12,x13,x14,x15,x16,x17,x18,x19)=>⟨ofL [(1,.s (.int .i64 a2)),(4,.op 0 0),(6,.op 1 0),(7,.op 2 0),(48,.s (.sl 5 ((List.map zAe) a1G))),(49,.s (.int .i64 (a1G.length:Int))),(50,.s (.int .i64 x19))],ofH [(0,.box 24 [.s (.int .i64 0),.s (.str []),.s (.int .i64 0),.nl 4]),(1,.box 24 [.s (.int .i64 x11),.s (.str x12),.s (.int .i64 x13),.s (.sl 4 (Nd.encs x14))]),(2,.box 24 [.s (.int .i64 x15),.s (.str x16),.s (.int .i64 x17),.s (.sl 4 (Nd.encs x18))])],3⟩) (fun y=>zBJ n a1G a2 y.1 y.2.1 y.2.2.1 y.2.2.2.1 y.2.2.2.2.1 y.2.2.2.2.2.1 y.2.2.2.2.2.2.1 y.2.2.2.2.2.2.2.1 y.2.2.2.2.2.2.2.2.1 y.2.2.2.2.2.2.2.2.2=some fl) (fun y=>y.1) (n,y8A,y8B,y8D,y8C,y8A,y8B,y8D,y8C,0) hl ?_ ?_)
    ·exact(Le.rnm [(0,0),(1,1),(2,2)] _ _ _ ⟨rfl,rfl,rfl,rfl,rfl,rfl,rfl,trivial⟩ ⟨rfl,⟨_,rfl,rfl⟩,rfl,⟨_,rfl,rfl⟩,rfl,⟨_,rfl,rfl⟩,trivial⟩)
    ·rintro⟨k,x11,x12,x13,x14,x15,x16,x17,x18,x19⟩ h;cases k with
     | zero=>cases h
     | succ k =>
      replace h:zBJ n a1G a2 (k+1) x11 x12 x13 x14 x15 x16 x17 x18 x19=some fl:=h;rw[zBJ]at h;refine zQE [] [] rfl ?_;show Tri ..;refine zAa ?_;refine zAo rfl h (fun hb h=>?_) (fun hb h=>?_)
      ·refine zAh ?_;show Tri ..;refine zAa ?_;obtain⟨fl,hj,ho2⟩:=zAc h
       refine zDk (fl:=fl) (fun z=>match z with | ⟨x24,x25,x26,x27,x28,x29,x30,x31⟩=>⟨ofL [(1,.s (.int .i64 a2)),(4,.op 0 0),(6,.op 1 0),(7,.op 2 0),(48,.s (.sl 5 ((List.map zAe) a1G))),(49,.s (.int .i64 (a1G.length:Int))),(50,.s (.int .i64 x19))],ofH [(0,.box 24 [.s (.int .i64 0),.s (.str []),.s (.int .i64 0),.nl 4]),(1,.box 24 [.s (.int .i64 x24),.s (.str x25),.s (.int .i64 x26),.s (.sl 4 (Nd.encs x27))]),(2,.box 24 [.s (.int .i64 x28),.s (.str x29),.s (.int .i64 x30),.s (.sl 4 (Nd.encs x31))])],3⟩) ?_ (fun z σ' hz hle=>?_)
       ·replace h:=hj;refine zAp ?_;refine zQE [9] [53] rfl ?_;obtain⟨⟨e32Aj,⟨e32Ak,e32Al⟩,⟨e32Am,e32An⟩⟩,he32,h⟩:=zAc h;refine And.intro (zAK (fun _=>rfl) he32).1 ?_;intro r33 hr33;obtain rfl:[.sl 8 ((List.map zAq) e32Aj),.sl 1 ((List.map (irow .i64)) e32Ak),.sl 1 ((List.map (irow .i64)) e32Al),.sl 1 ((List.map (irow .i64)) e32Am),.sl 1 ((List.map (irow .i64)) e32An)]=r33:=(hr33.trans (zAK (fun _=>rfl) he32).2.1).symm;show Tri ..
        refine zAk (Le.giveBox 3 [.sl 8 ((List.map zAq) e32Aj),.sl 1 ((List.map (irow .i64)) e32Ak),.sl 1 ((List.map (irow .i64)) e32Al),.sl 1 ((List.map (irow .i64)) e32Am),.sl 1 ((List.map (irow .i64)) e32An)] rfl rfl) ?_;refine zQE [10] [] rfl ?_;obtain⟨⟨⟨y34A,y34B,y34D,y34C⟩,y35,y36⟩,hy34,h⟩:=zAc h;refine⟨_,⟨_,_,_,_,_,_,hy34,rfl,rfl⟩,?_⟩
        show Tri ..;refine zAk (Le.giveBox 4 [.int .i64 y34A,.str y34B,.int .i64 y34D,.sl 4 (Nd.encs y34C)] rfl rfl) ?_;refine zAa ?_;refine zAa ?_;obtain⟨x37,hj,h⟩:=zAc h
        refine zAt ⟨ofL [(1,.s (.int .i64 a2)),(4,.op 0 0),(6,.op 1 0),(7,.op 2 0),(8,.s (.int .i64 x19)),(10,.s (.pt [.int .i64 y34A,.str y34B,.int .i64 y34D,.sl 4 (Nd.encs y34C)])),(48,.s (.sl 5 ((List.map zAe) a1G))),(49,.s (.int .i64 (a1G.length:Int))),(50,.s (.int .i64 x19)),(78,.s (.bool x37))],ofH [(0,.box 24 [.s (.int .i64 0),.s (.str []),.s (.int .i64 0),.nl 4]),(1,.box 24 [.s (.int .i64 x11),.s (.str x12),.s (.int .i64 x13),.s (.sl 4 (Nd.encs x14))]),(2,.box 24 [.s (.int .i64 x15),.s (.str x16),.s (.int .i64 x17),.s (.sl 4 (Nd.encs x18))])],3⟩ ?_ (fun σ' hle=>?_)
        ·replace h:=hj;refine zAb [] [65,72] rfl ?_;intro b hb;cases b with
         | true =>
          replace h:=zAD hb.symm h;intro b hb;subst hb;cases h;exact(Le.rnm [(0,0),(1,1),(2,2)] _ _ _ ⟨rfl,rfl,rfl,rfl,rfl,rfl,rfl,rfl,rfl,rfl,trivial⟩ ⟨rfl,⟨_,rfl,rfl⟩,rfl,⟨_,rfl,rfl⟩,rfl,⟨_,rfl,rfl⟩,trivial⟩)
         | false =>
          replace h:=zAC hb.symm h;obtain⟨y38,hy38,h⟩:=zAc h;refine⟨_,⟨_,_,_,_,hy38,rfl,rfl⟩,?_⟩
          intro b hb;cases b with
          | true =>
           replace h:=zAD hb.symm h;cases h;exact(Le.rnm [(0,0),(1,1),(2,2)] _ _ _ ⟨rfl,rfl,rfl,rfl,rfl,rfl,rfl,rfl,rfl,rfl,trivial⟩ ⟨rfl,⟨_,rfl,rfl⟩,rfl,⟨_,rfl,rfl⟩,rfl,⟨_,rfl,rfl⟩,trivial⟩)
          | false =>
           replace h:=zAC hb.symm h;obtain⟨y39,hy39,h⟩:=zAc h;refine⟨_,⟨_,_,_,_,hy39,rfl,rfl⟩,?_⟩
           cases h;exact(Le.rnm [(0,0),(1,1),(2,2)] _ _ _ ⟨rfl,rfl,rfl,rfl,rfl,rfl,rfl,rfl,rfl,rfl,trivial⟩ ⟨rfl,⟨_,rfl,rfl⟩,rfl,⟨_,rfl,rfl⟩,rfl,⟨_,rfl,rfl⟩,trivial⟩)
        ·show Tri ..;refine zAk hle ?_;refine zAo rfl h (fun hb h=>?_) (fun hb h=>?_)
         ·refine zQE [] [] rfl ?_;show Tri ..;refine zAg ?_;cases h;replace h:some _=some _:=ho2;cases h;replace h:some _=some _:=ho1;obtain⟨hj1,hk1⟩:=pij h;subst hj1 hk1;unfold zAu;exact⟨_,Le.refl _ _,rfl,rfl⟩
         ·refine zAh ?_;show Tri ..;refine zQE [] [] rfl ?_;show Tri ..;refine zQE [] [] rfl ?_;show Tri ..;refine zAo rfl h (fun hb h=>?_) (fun hb h=>?_)
          ·refine zAb [] [] rfl ?_;cases h;exact⟨_,rfl,(Le.rnm [(0,0),(1,1),(2,2)] _ _ _ ⟨rfl,rfl,rfl,rfl,rfl,rfl,rfl,trivial⟩ ⟨rfl,⟨_,rfl,rfl⟩,rfl,⟨_,rfl,rfl⟩,rfl,⟨_,rfl,rfl⟩,trivial⟩)⟩
          ·refine zAh ?_;cases h;exact⟨_,rfl,(Le.rnm [(0,0),(1,1),(2,2)] _ _ _ ⟨rfl,rfl,rfl,rfl,rfl,rfl,rfl,trivial⟩ ⟨rfl,⟨_,rfl,rfl⟩,rfl,⟨_,rfl,rfl⟩,rfl,⟨_,rfl,rfl⟩,trivial⟩)⟩
       ·subst hz;obtain⟨x24,x25,x26,x27,x28,x29,x30,x31⟩:=z;replace h:=ho2;show Tri ..;refine zAk hle ?_;refine zAb [] [] rfl ?_;refine⟨(k,x24,x25,x26,x27,x28,x29,x30,x31,IntKind.i64.wrap (x19+1)),h,(Le.rnm [(0,0),(1,1),(2,2)] _ _ _ ⟨rfl,rfl,rfl,rfl,rfl,rfl,rfl,trivial⟩ ⟨rfl,⟨_,rfl,rfl⟩,rfl,⟨_,rfl,rfl⟩,rfl,⟨_,rfl,rfl⟩,trivial⟩),Nat.lt_succ_self k⟩
      ·refine zAJ ?_;cases h;exact⟨_,rfl,(Le.rnm [(0,0),(2,1)] _ _ _ ⟨rfl,rfl,trivial⟩ ⟨rfl,⟨_,rfl,rfl⟩,rfl,⟨_,rfl,rfl⟩,trivial⟩)⟩
   ·subst hz;obtain⟨x20,x21,x22,x23⟩:=z;replace h:=ho1;show Tri ..;refine zAk hle ?_;refine zQE [] [] rfl ?_;show Tri ..;refine zAg ?_;obtain⟨hj1,hk1⟩:=pij h;subst hj1 hk1;unfold zAu;exact⟨_,Le.refl _ _,rfl,rfl⟩
def zLH (n:Nat) (xs:List AV) (r:Ret):Prop:=∃ (a0:(List UInt8×Nd×List zRc×Int)) (y0:Bool),zBO n a0=some y0/\xs=[.agg ((zAl a0).map .s)]/\r = .val (.s (.bool y0))
def zFG:zAv:=zAx fun xs r=>∃ n,zLH n xs r
theorem zHH:PSound Try.prog 15 zFG:=by
 have gok:∀ f s,look? f [(23,zGC)]=some s->PSound Try.prog f s:=zAs (by
  simp only[List.forall_mem_cons]
  exact⟨zJv,by simp⟩)
 refine zAz tokW Try.call15 Try.func15 rfl (fun xs r h=>by obtain⟨n,_,_,_,rfl,_⟩:=h; show 1<=11; decide) 11 rfl ?_;rintro xs r w0 G0 ⟨n,⟨d1Ao,⟨d1I,d1J,d1K,d1L⟩,d1G,d1H⟩,y0,h,rfl,rfl⟩ _;rw[zBO]at h;refine zQE [] [] rfl ?_;show Tri ..;refine zQE [3] [] rfl ?_;obtain⟨⟨⟨y2A,y2B,y2D,y2C⟩,y3⟩,hy2,h⟩:=zAc h;refine⟨_,⟨_,_,_,_,_,hy2,rfl,rfl⟩,?_⟩
 show Tri ..;refine zAk (Le.giveBox 0 [.int .i64 y2A,.str y2B,.int .i64 y2D,.sl 4 (Nd.encs y2C)] rfl rfl) ?_;refine zQE [] [] rfl ?_;show Tri ..;refine zAg ?_;have hy:=Option.some.inj h;subst hy;unfold zAu;exact⟨_,Le.refl _ _,rfl,rfl⟩
def zMM (xs:List AV) (r:Ret):Prop:=∃ (a0:List UInt8) (y0:CV),zDs a0=some y0/\xs=[.s (.str a0)]/\r = .val (.agg ((CV.enc y0).map .s))
def zFe:zAv:=zAx fun xs r=>zMM xs r
theorem zF1:PSound Try.prog 29 zFe:=by
 have gok:=@gok0 Try.prog;refine zAz tokW Try.call29 Try.func29 rfl (fun xs r h=>by obtain⟨_,_,_,rfl,_⟩:=h; show 1<=5; decide) 5 rfl ?_;rintro xs r w0 G0 ⟨s1,y0,h,rfl,rfl⟩ _;rw[zDs]at h;refine zQE [2] [] rfl ?_;show Tri ..;refine zQE [] [] rfl ?_;show Tri ..;refine zAg ?_;have hy:=Option.some.inj h;subst hy;unfold zAu;exact⟨_,Le.refl _ _,rfl,rfl⟩
def zML (xs:List AV) (r:Ret):Prop:=∃ (a0:List CV) (y0:CV),zCV a0=some y0/\xs=[.s (.sl 4 (CV.encs a0))]/\r = .val (.agg ((CV.enc y0).map .s))
def zDm:zAv:=zAx fun xs r=>zML xs r
theorem zDI:PSound Try.prog 28 zDm:=by
 have gok:=@gok0 Try.prog;refine zAz tokW Try.call28 Try.func28 rfl (fun xs r h=>by obtain⟨_,_,_,rfl,_⟩:=h; show 1<=5; decide) 5 rfl ?_;rintro xs r w0 G0 ⟨l1,y0,h,rfl,rfl⟩ _;rw[zCV]at h;refine zQE [2] [] rfl ?_;show Tri ..;refine zQE [] [] rfl ?_;show Tri ..;refine zAg ?_;have hy:=Option.some.inj h;subst hy;unfold zAu;exact⟨_,Le.refl _ _,rfl,rfl⟩
def zKZ (xs:List AV) (r:Ret):Prop:=∃ (a0:Int) (y0:CV),zA8 a0=some y0/\xs=[.s (.int .i64 a0)]/\r = .val (.agg ((CV.enc y0).map .s))
def zC7:zAv:=zAx fun xs r=>zKZ xs r
theorem zDz:PSound Try.prog 31 zC7:=by
 have gok:=@gok0 Try.prog;refine zAz tokW Try.call31 Try.func31 rfl (fun xs r h=>by obtain⟨_,_,_,rfl,_⟩:=h; show 1<=5; decide) 5 rfl ?_;rintro xs r w0 G0 ⟨n1,y0,h,rfl,rfl⟩ _;rw[zA8]at h;refine zQE [2] [] rfl ?_;show Tri ..;refine zQE [] [] rfl ?_;show Tri ..;refine zAg ?_;have hy:=Option.some.inj h;subst hy;unfold zAu;exact⟨_,Le.refl _ _,rfl,rfl⟩
def zBp (n:Nat) (xs:List AV) (r:Ret):Prop:=∃ (a0:List Nd) (y0:CV),zBW n a0=some y0/\xs=[.s (.sl 4 (Nd.encs a0)),.s (.fn 30)]/\r = .val (.agg ((CV.enc y0).map .s))
def zBq (n:Nat) (xs:List AV) (r:Ret):Prop:=∃ (a0:Nd) (y0:CV),zBd n a0=some y0/\xs=[.agg ((Nd.enc a0).map .s)]/\r = .val (.agg ((CV.enc y0).map .s))
theorem zHa (n:Nat) (ih_file_each_Node:PSound Try.prog 48 (zAx (zBp n))) (ih_file_writeTree:PSound Try.prog 30 (zAx (zBq n))):PSound Try.prog 48 (zAx (zBp (n+1))):=by
 have gok:∀ f s,look? f [(28,zCc),(30,zAx (zBq n))]=some s->PSound Try.prog f s:=zAs (by
  simp only[List.forall_mem_cons]
  exact⟨zCS,ih_file_writeTree,by simp⟩)
 refine zAz tokW Try.call48 Try.func48 rfl (fun xs r h=>by obtain⟨_,_,_,rfl,_⟩:=h; show 2<=25; decide) 25 rfl ?_;rintro xs r w0 G0 ⟨l1,y0,h,rfl,rfl⟩ _;rw[zBW]at h;refine zQE [4] [] rfl ?_;show Tri ..;refine zQE [5] [] rfl ?_;obtain⟨⟨y2A,y2F,y2B,y2E⟩,hy2,h⟩:=zAc h;refine⟨_,_,⟨_,hy2,rfl,rfl,rfl,rfl⟩,?_⟩
 show Tri ..;refine zAa ?_;refine zQE [] [10] rfl ?_;intro n3 hn3;obtain rfl:(l1.length:Int)=n3:=(hn3.trans (congrArg (fun m:Nat=>(m:Int)) (rlen Nd.encs_eq l1))).symm;show Tri ..;obtain⟨l8,hl,h⟩:=zAc h;refine zAt ⟨ofL [(4,.op 0 0),(5,.op 1 0)],ofH [(0,.box 55 [.s (.int .i64 0),.s (.int .i64 0),.s (.str []),.nl 4]),(1,.box 55 [.s (.int .i64 y2A),.s (.int .i64 y2F),.s (.str y2B),.orow 2]),(2,.row 55 4 (CV.encs l8))],3⟩ ?_ (fun σ' hle=>?_)
 ·refine zAp (zAE (X:=Nat×Int×(List CV)) (fun y=>match y with | (k,x6,l7)=>⟨ofL [(1,.s (.fn 30)),(4,.op 0 0),(5,.op 1 0),(9,.s (.sl 4 (Nd.encs l1))),(10,.s (.int .i64 (l1.length:Int))),(11,.s (.int .i64 x6))],ofH [(0,.box 55 [.s (.int .i64 0),.s (.int .i64 0),.s (.str []),.nl 4]),(1,.box 55 [.s (.int .i64 y2A),.s (.int .i64 y2F),.s (.str y2B),.orow 2]),(2,.row 55 4 (CV.encs l7))],3⟩) (fun y=>zBj (zBd n) l1 y.1 y.2.1 y.2.2=some l8) (fun y=>y.1) (n,0,y2E) hl ?_ ?_)
  ·exact(Le.rnm [(0,0),(3,1),(2,2)] _ _ _ ⟨rfl,rfl,rfl,rfl,rfl,rfl,trivial⟩ ⟨rfl,⟨_,rfl,rfl⟩,rfl,⟨_,rfl,rfl⟩,rfl,⟨_,rfl,rfl⟩,trivial⟩)
  ·rintro⟨k,x6,l7⟩ h;cases k with
   | zero=>cases h
   | succ k =>
    replace h:zBj (zBd n) l1 (k+1) x6 l7=some l8:=h;rw[zBj]at h;refine zQE [] [] rfl ?_;show Tri ..;refine zAa ?_;refine zAo rfl h (fun hb h=>?_) (fun hb h=>?_)
    ·refine zAh ?_;show Tri ..;refine zAa ?_;refine zAp ?_;refine zQE [7] [13] rfl ?_;obtain⟨⟨e9A,e9B,e9D,e9C⟩,he9,h⟩:=zAc h;refine And.intro (zAK Nd.encs_eq he9).1 ?_;intro r10 hr10;obtain rfl:[.int .i64 e9A,.str e9B,.int .i64 e9D,.sl 4 (Nd.encs e9C)]=r10:=(hr10.trans (zAK Nd.encs_eq he9).2.1).symm;show Tri ..;refine zAk (Le.giveBox 3 [.int .i64 e9A,.str e9B,.int .i64 e9D,.sl 4 (Nd.encs e9C)] rfl rfl) ?_;refine zBe [21] [20] [1,6,8] rfl (by decide +kernel) ?_;obtain⟨⟨y11A,y11F,y11B,y11E⟩,hy11,h⟩:=zAc h
     refine⟨_,⟨_,_,hy11,rfl,rfl⟩,?_⟩
     intro r12 hr12;obtain rfl:CV.encs [CV.mk y11A y11F y11B y11E]=r12:=(hr12.trans (by simp[List.map_append,List.map_take,List.map_drop,irow,brow,zAA,List.map_cons,List.map_nil,zAy,CV.encs_eq,CV.enc,Nd.encs_eq,Nd.enc,zAn,zAj,zAm,zAi,zAq,zAr,zAe,zAl])).symm;obtain⟨hq,h⟩:=zAI h
     refine And.intro (show((CV.encs l7).length+(CV.encs [CV.mk y11A y11F y11B y11E]).length) * 56<=140737488355328/\(CV.encs l7).length+(CV.encs [CV.mk y11A y11F y11B y11E]).length<=9223372036854775807 from by simp only[List.length_append,List.length_cons,List.length_nil,List.length_map,rlen CV.encs_eq]at hq ⊢; omega) ?_;show Tri ..
     refine zAk (Le.rnm [(0,0),(1,1),(4,2)] [(1,.s (.fn 30)),(4,.op 0 0),(5,.op 1 0),(9,.s (.sl 4 (Nd.encs l1))),(10,.s (.int .i64 (l1.length:Int))),(11,.s (.int .i64 x6))] [(0,.box 55 [.s (.int .i64 0),.s (.int .i64 0),.s (.str []),.nl 4]),(1,.box 55 [.s (.int .i64 y2A),.s (.int .i64 y2F),.s (.str y2B),.orow 2]),(2,.row 55 4 (CV.encs (l7++[CV.mk y11A y11F y11B y11E])))] 3 ⟨rfl,rfl,rfl,rfl,rfl,rfl,trivial⟩ ⟨rfl,⟨_,rfl,rfl⟩,rfl,⟨_,rfl,rfl⟩,rfl,⟨_,rfl,congrArg (Ob.row 55 4) (by simp[List.map_append,List.map_take,List.map_drop,irow,brow,zAA,List.map_cons,List.map_nil,zAy,CV.encs_eq,CV.enc,Nd.encs_eq,Nd.enc,zAn,zAj,zAm,zAi,zAq,zAr,zAe,zAl])⟩,trivial⟩) ?_
     refine zAb [] [] rfl ?_;refine⟨(k,IntKind.i64.wrap (x6+1),l7++[CV.mk y11A y11F y11B y11E]),h,(Le.rnm [(0,0),(1,1),(2,2)] _ _ _ ⟨rfl,rfl,rfl,rfl,rfl,rfl,trivial⟩ ⟨rfl,⟨_,rfl,rfl⟩,rfl,⟨_,rfl,rfl⟩,rfl,⟨_,rfl,rfl⟩,trivial⟩),Nat.lt_succ_self k⟩
    ·refine zAJ ?_;cases h;exact(Le.rnm [(0,0),(1,1),(2,2)] _ _ _ ⟨rfl,rfl,trivial⟩ ⟨rfl,⟨_,rfl,rfl⟩,rfl,⟨_,rfl,rfl⟩,rfl,⟨_,rfl,rfl⟩,trivial⟩)
 ·show Tri ..;refine zAk hle ?_;refine zQE [] [] rfl ?_;show Tri ..;refine zAg ?_;have hy:=Option.some.inj h;subst hy;unfold zAu;exact⟨_,(Le.trans (Le.rnm [(0,0),(2,1)] [(4,.op 0 0)] [(0,.box 55 [.s (.int .i64 y2A),.s (.int .i64 y2F),.s (.str y2B),.orow 1]),(1,.row 55 4 (CV.encs l8))] 2 ⟨rfl,trivial⟩ ⟨rfl,⟨_,rfl,rfl⟩,rfl,⟨_,rfl,rfl⟩,trivial⟩) (Le.giveRow 1 rfl)),rfl,rfl⟩
theorem zHb (n:Nat) (ih_file_each_Node:PSound Try.prog 48 (zAx (zBp n))) (ih_file_writeTree:PSound Try.prog 30 (zAx (zBq n))):PSound Try.prog 30 (zAx (zBq (n+1))):=by
 have gok:∀ f s,look? f [(48,zAx (zBp n)),(31,zC7),(29,zFe),(28,zDm)]=some s->PSound Try.prog f s:=zAs (by
  simp only[List.forall_mem_cons]
  exact⟨ih_file_each_Node,zDz,zF1,zDI,by simp⟩)
 refine zAz tokW Try.call30 Try.func30 rfl (fun xs r h=>by obtain⟨_,_,_,rfl,_⟩:=h; show 1<=21; decide) 21 rfl ?_;rintro xs r w0 G0 ⟨⟨n1A,n1B,n1D,n1C⟩,y0,h,rfl,rfl⟩ _;rw[zBd]at h;refine zQE [2] [] rfl ?_;show Tri ..;refine zQE [3] [] rfl ?_;obtain⟨⟨y2A,y2F,y2B,y2E⟩,hy2,h⟩:=zAc h;refine⟨_,⟨_,_,hy2,rfl,rfl⟩,?_⟩
 show Tri ..;refine zAk (Le.giveBox 1 [.int .i64 y2A,.int .i64 y2F,.str y2B,.sl 4 (CV.encs y2E)] rfl rfl) ?_;refine zAa ?_;refine zNy [16,19] [] [9,12,13,14] [] rfl (by decide +kernel) ?_;obtain⟨⟨y3A,y3F,y3B,y3E⟩,hy3,h⟩:=zAc h;refine⟨_,⟨_,_,hy3,rfl,rfl⟩,?_⟩
 obtain⟨⟨y4A,y4F,y4B,y4E⟩,hy4,h⟩:=zAc h;refine⟨_,⟨_,_,hy4,rfl,rfl⟩,?_⟩
 obtain⟨⟨y5A,y5F,y5B,y5E⟩,hy5,h⟩:=zAc h;refine⟨_,⟨_,_,hy5,rfl,rfl⟩,?_⟩
 obtain⟨hq,h⟩:=zAI h
 refine And.intro (show([[.int .i64 y3A,.int .i64 y3F,.str y3B,.sl 4 (CV.encs y3E)],[.int .i64 y4A,.int .i64 y4F,.str y4B,.sl 4 (CV.encs y4E)],[.int .i64 y5A,.int .i64 y5F,.str y5B,.sl 4 (CV.encs y5E)]].length+(CV.encs y2E).length) * 56<=140737488355328/\[[.int .i64 y3A,.int .i64 y3F,.str y3B,.sl 4 (CV.encs y3E)],[.int .i64 y4A,.int .i64 y4F,.str y4B,.sl 4 (CV.encs y4E)],[.int .i64 y5A,.int .i64 y5F,.str y5B,.sl 4 (CV.encs y5E)]].length+(CV.encs y2E).length<=9223372036854775807 from by simp only[List.length_append,List.length_cons,List.length_nil,List.length_map,rlen CV.encs_eq]at hq ⊢; omega) ?_
 obtain⟨⟨y6A,y6F,y6B,y6E⟩,hy6,h⟩:=zAc h
 refine⟨_,⟨_,_,hy6,(congrArg (fun r=>[AV.s (.sl 4 r)]) (show[[.int .i64 y3A,.int .i64 y3F,.str y3B,.sl 4 (CV.encs y3E)],[.int .i64 y4A,.int .i64 y4F,.str y4B,.sl 4 (CV.encs y4E)],[.int .i64 y5A,.int .i64 y5F,.str y5B,.sl 4 (CV.encs y5E)]]++(CV.encs y2E)=CV.encs ([CV.mk y3A y3F y3B y3E,CV.mk y4A y4F y4B y4E,CV.mk y5A y5F y5B y5E]++y2E) from(by simp[List.map_append,List.map_take,List.map_drop,irow,brow,zAA,List.map_cons,List.map_nil,zAy,CV.encs_eq,CV.enc,Nd.encs_eq,Nd.enc,zAn,zAj,zAm,zAi,zAq,zAr,zAe,zAl]))),rfl⟩,?_⟩
 show Tri ..;refine zAg ?_;have hy:=Option.some.inj h;subst hy;unfold zAu;exact⟨_,Le.refl _ _,rfl,rfl⟩
theorem zEe:∀ n,PSound Try.prog 48 (zAx (zBp n))/\PSound Try.prog 30 (zAx (zBq n)):=by
 intro n
 induction n with
 | zero =>
  refine⟨?_,?_⟩
  ·exact zCn Try.call48 (fun xs r h=>by obtain⟨_,_,h,_⟩:=h; rw[zBW]at h; cases h)
  ·exact zCn Try.call30 (fun xs r h=>by obtain⟨_,_,h,_⟩:=h; rw[zBd]at h; cases h)
 | succ n ih =>
  obtain⟨ih_file_each_Node,ih_file_writeTree⟩:=ih;exact⟨zHa n ih_file_each_Node ih_file_writeTree,zHb n ih_file_each_Node ih_file_writeTree⟩
def zFs:zAv:=zAx fun xs r=>∃ n,zBp n xs r
theorem zH1:PSound Try.prog 48 zFs:=zDu (fun n=>(zEe n).1)
def zFt:zAv:=zAx fun xs r=>∃ n,zBq n xs r
theorem zH2:PSound Try.prog 30 zFt:=zDu (fun n=>(zEe n).2)
def zIU (n:Nat) (xs:List AV) (r:Ret):Prop:=∃ (a0:List Int) (y0:CV),zEm n a0=some y0/\xs=[.s (.sl 1 ((List.map (irow .i64)) a0)),.s (.fn 31)]/\r = .val (.agg ((CV.enc y0).map .s))
def zFH:zAv:=zAx fun xs r=>∃ n,zIU n xs r
theorem zIC:PSound Try.prog 75 zFH:=by
 have gok:∀ f s,look? f [(28,zCc),(31,zC7)]=some s->PSound Try.prog f s:=zAs (by
  simp only[List.forall_mem_cons]
  exact⟨zCS,zDz,by simp⟩)
 refine zAz tokW Try.call75 Try.func75 rfl (fun xs r h=>by obtain⟨n,_,_,_,rfl,_⟩:=h; show 2<=25; decide) 25 rfl ?_;rintro xs r w0 G0 ⟨n,l1,y0,h,rfl,rfl⟩ _;rw[zEm]at h;refine zQE [4] [] rfl ?_;show Tri ..;refine zQE [5] [] rfl ?_;obtain⟨⟨y2A,y2F,y2B,y2E⟩,hy2,h⟩:=zAc h;refine⟨_,_,⟨_,hy2,rfl,rfl,rfl,rfl⟩,?_⟩
 show Tri ..;refine zAa ?_;refine zQE [] [10] rfl ?_;intro n3 hn3;obtain rfl:(l1.length:Int)=n3:=(hn3.trans (congrArg (fun m:Nat=>(m:Int)) (rlen (fun _=>rfl) l1))).symm;show Tri ..;obtain⟨l8,hl,h⟩:=zAc h;refine zAt ⟨ofL [(4,.op 0 0),(5,.op 1 0)],ofH [(0,.box 55 [.s (.int .i64 0),.s (.int .i64 0),.s (.str []),.nl 4]),(1,.box 55 [.s (.int .i64 y2A),.s (.int .i64 y2F),.s (.str y2B),.orow 2]),(2,.row 55 4 (CV.encs l8))],3⟩ ?_ (fun σ' hle=>?_)
 ·refine zAp (zAE (X:=Nat×Int×(List CV)) (fun y=>match y with | (k,x6,l7)=>⟨ofL [(1,.s (.fn 31)),(4,.op 0 0),(5,.op 1 0),(9,.s (.sl 1 ((List.map (irow .i64)) l1))),(10,.s (.int .i64 (l1.length:Int))),(11,.s (.int .i64 x6))],ofH [(0,.box 55 [.s (.int .i64 0),.s (.int .i64 0),.s (.str []),.nl 4]),(1,.box 55 [.s (.int .i64 y2A),.s (.int .i64 y2F),.s (.str y2B),.orow 2]),(2,.row 55 4 (CV.encs l7))],3⟩) (fun y=>zBz l1 y.1 y.2.1 y.2.2=some l8) (fun y=>y.1) (n,0,y2E) hl ?_ ?_)
  ·exact(Le.rnm [(0,0),(3,1),(2,2)] _ _ _ ⟨rfl,rfl,rfl,rfl,rfl,rfl,trivial⟩ ⟨rfl,⟨_,rfl,rfl⟩,rfl,⟨_,rfl,rfl⟩,rfl,⟨_,rfl,rfl⟩,trivial⟩)
  ·rintro⟨k,x6,l7⟩ h;cases k with
   | zero=>cases h
   | succ k =>
    replace h:zBz l1 (k+1) x6 l7=some l8:=h;rw[zBz]at h;refine zQE [] [] rfl ?_;show Tri ..;refine zAa ?_;refine zAo rfl h (fun hb h=>?_) (fun hb h=>?_)
    ·refine zAh ?_;show Tri ..;refine zAa ?_;refine zAp ?_;refine zQE [] [13] rfl ?_;obtain⟨e9,he9,h⟩:=zAc h;refine And.intro (zAK (fun _=>rfl) he9).1 ?_;intro r10 hr10;obtain rfl:[.int .i64 e9]=r10:=(hr10.trans (zAK (fun _=>rfl) he9).2.1).symm;show Tri ..;refine zBe [21] [20] [1,6,8] rfl (by decide +kernel) ?_;obtain⟨⟨y11A,y11F,y11B,y11E⟩,hy11,h⟩:=zAc h;refine⟨_,⟨_,_,hy11,rfl,rfl⟩,?_⟩
     intro r12 hr12;obtain rfl:CV.encs [CV.mk y11A y11F y11B y11E]=r12:=(hr12.trans (by simp[List.map_append,List.map_take,List.map_drop,irow,brow,zAA,List.map_cons,List.map_nil,zAy,CV.encs_eq,CV.enc,Nd.encs_eq,Nd.enc,zAn,zAj,zAm,zAi,zAq,zAr,zAe,zAl])).symm;obtain⟨hq,h⟩:=zAI h
     refine And.intro (show((CV.encs l7).length+(CV.encs [CV.mk y11A y11F y11B y11E]).length) * 56<=140737488355328/\(CV.encs l7).length+(CV.encs [CV.mk y11A y11F y11B y11E]).length<=9223372036854775807 from by simp only[List.length_append,List.length_cons,List.length_nil,List.length_map,rlen CV.encs_eq]at hq ⊢; omega) ?_;show Tri ..
     refine zAk (Le.rnm [(0,0),(1,1),(3,2)] [(1,.s (.fn 31)),(4,.op 0 0),(5,.op 1 0),(9,.s (.sl 1 ((List.map (irow .i64)) l1))),(10,.s (.int .i64 (l1.length:Int))),(11,.s (.int .i64 x6))] [(0,.box 55 [.s (.int .i64 0),.s (.int .i64 0),.s (.str []),.nl 4]),(1,.box 55 [.s (.int .i64 y2A),.s (.int .i64 y2F),.s (.str y2B),.orow 2]),(2,.row 55 4 (CV.encs (l7++[CV.mk y11A y11F y11B y11E])))] 3 ⟨rfl,rfl,rfl,rfl,rfl,rfl,trivial⟩ ⟨rfl,⟨_,rfl,rfl⟩,rfl,⟨_,rfl,rfl⟩,rfl,⟨_,rfl,congrArg (Ob.row 55 4) (by simp[List.map_append,List.map_take,List.map_drop,irow,brow,zAA,List.map_cons,List.map_nil,zAy,CV.encs_eq,CV.enc,Nd.encs_eq,Nd.enc,zAn,zAj,zAm,zAi,zAq,zAr,zAe,zAl])⟩,trivial⟩) ?_
     refine zAb [] [] rfl ?_;refine⟨(k,IntKind.i64.wrap (x6+1),l7++[CV.mk y11A y11F y11B y11E]),h,(Le.rnm [(0,0),(1,1),(2,2)] _ _ _ ⟨rfl,rfl,rfl,rfl,rfl,rfl,trivial⟩ ⟨rfl,⟨_,rfl,rfl⟩,rfl,⟨_,rfl,rfl⟩,rfl,⟨_,rfl,rfl⟩,trivial⟩),Nat.lt_succ_self k⟩
    ·refine zAJ ?_;cases h;exact(Le.rnm [(0,0),(1,1),(2,2)] _ _ _ ⟨rfl,rfl,trivial⟩ ⟨rfl,⟨_,rfl,rfl⟩,rfl,⟨_,rfl,rfl⟩,rfl,⟨_,rfl,rfl⟩,trivial⟩)
 ·show Tri ..;refine zAk hle ?_;refine zQE [] [] rfl ?_;show Tri ..;refine zAg ?_;have hy:=Option.some.inj h;subst hy;unfold zAu;exact⟨_,(Le.trans (Le.rnm [(0,0),(2,1)] [(4,.op 0 0)] [(0,.box 55 [.s (.int .i64 y2A),.s (.int .i64 y2F),.s (.str y2B),.orow 1]),(1,.row 55 4 (CV.encs l8))] 2 ⟨rfl,trivial⟩ ⟨rfl,⟨_,rfl,rfl⟩,rfl,⟨_,rfl,rfl⟩,trivial⟩) (Le.giveRow 1 rfl)),rfl,rfl⟩
def zJX (n:Nat) (xs:List AV) (r:Ret):Prop:=∃ (a0:List Int) (y0:CV),zCN n a0=some y0/\xs=[.s (.sl 1 ((List.map (irow .i64)) a0))]/\r = .val (.agg ((CV.enc y0).map .s))
def zEM:zAv:=zAx fun xs r=>∃ n,zJX n xs r
theorem zF0:PSound Try.prog 64 zEM:=by
 have gok:∀ f s,look? f [(75,zFH)]=some s->PSound Try.prog f s:=zAs (by
  simp only[List.forall_mem_cons]
  exact⟨zIC,by simp⟩)
 refine zAz tokW Try.call64 Try.func64 rfl (fun xs r h=>by obtain⟨n,_,_,_,rfl,_⟩:=h; show 1<=5; decide) 5 rfl ?_;rintro xs r w0 G0 ⟨n,l1,y0,h,rfl,rfl⟩ _;rw[zCN]at h;refine zQE [2] [] rfl ?_;show Tri ..;refine zQE [] [] rfl ?_;obtain⟨⟨y2A,y2F,y2B,y2E⟩,hy2,h⟩:=zAc h;refine⟨_,⟨_,_,_,hy2,rfl,rfl⟩,?_⟩
 show Tri ..;refine zAg ?_;have hy:=Option.some.inj h;subst hy;unfold zAu;exact⟨_,Le.refl _ _,rfl,rfl⟩
def zJ0 (n:Nat) (xs:List AV) (r:Ret):Prop:=∃ (a0:zO8) (y0:CV),zEU n a0=some y0/\xs=[.agg ((zAq a0).map .s)]/\r = .val (.agg ((CV.enc y0).map .s))
def zGD:zAv:=zAx fun xs r=>∃ n,zJ0 n xs r
theorem zJw:PSound Try.prog 50 zGD:=by
 have gok:∀ f s,look? f [(48,zFs),(31,zC7),(64,zEM),(29,zFe),(28,zDm)]=some s->PSound Try.prog f s:=zAs (by
  simp only[List.forall_mem_cons]
  exact⟨zH1,zDz,zF0,zF1,zDI,by simp⟩)
 refine zAz tokW Try.call50 Try.func50 rfl (fun xs r h=>by obtain⟨n,_,_,_,rfl,_⟩:=h; show 1<=31; decide) 31 rfl ?_;rintro xs r w0 G0 ⟨n,⟨op1A,op1Z,op1Ad,op1X,op1M,op1Y,op1Aa,op1B⟩,y0,h,rfl,rfl⟩ _;rw[zEU]at h;refine zQE [2] [] rfl ?_;show Tri ..;refine zQE [3] [] rfl ?_;obtain⟨⟨y2A,y2F,y2B,y2E⟩,hy2,h⟩:=zAc h;refine⟨_,⟨_,_,_,hy2,rfl,rfl⟩,?_⟩
 show Tri ..;refine zAk (Le.giveBox 1 [.int .i64 y2A,.int .i64 y2F,.str y2B,.sl 4 (CV.encs y2E)] rfl rfl) ?_;refine zAa ?_;refine zBe [] [29] [24] rfl (by decide +kernel) ?_;obtain⟨⟨y3A,y3F,y3B,y3E⟩,hy3,h⟩:=zAc h;refine⟨_,⟨_,_,hy3,rfl,rfl⟩,?_⟩
 obtain⟨⟨y4A,y4F,y4B,y4E⟩,hy4,h⟩:=zAc h;refine⟨_,⟨_,_,_,hy4,rfl,rfl⟩,?_⟩
 obtain⟨⟨y5A,y5F,y5B,y5E⟩,hy5,h⟩:=zAc h;refine⟨_,⟨_,_,hy5,rfl,rfl⟩,?_⟩
 obtain⟨⟨y6A,y6F,y6B,y6E⟩,hy6,h⟩:=zAc h;refine⟨_,⟨_,_,hy6,rfl,rfl⟩,?_⟩
 obtain⟨⟨y7A,y7F,y7B,y7E⟩,hy7,h⟩:=zAc h;refine⟨_,⟨_,_,hy7,rfl,rfl⟩,?_⟩
 obtain⟨⟨y8A,y8F,y8B,y8E⟩,hy8,h⟩:=zAc h;refine⟨_,⟨_,_,hy8,rfl,rfl⟩,?_⟩
 obtain⟨⟨y9A,y9F,y9B,y9E⟩,hy9,h⟩:=zAc h;refine⟨_,⟨_,_,hy9,rfl,rfl⟩,?_⟩
 intro r10 hr10;obtain rfl:CV.encs [CV.mk y3A y3F y3B y3E,CV.mk y4A y4F y4B y4E,CV.mk y5A y5F y5B y5E,CV.mk y6A y6F y6B y6E,CV.mk y2A y2F y2B y2E,CV.mk y7A y7F y7B y7E,CV.mk y8A y8F y8B y8E,CV.mk y9A y9F y9B y9E]=r10:=(hr10.trans (by simp[List.map_append,List.map_take,List.map_drop,irow,brow,zAA,List.map_cons,List.map_nil,zAy,CV.encs_eq,CV.enc,Nd.encs_eq,Nd.enc,zAn,zAj,zAm,zAi,zAq,zAr,zAe,zAl])).symm
 obtain⟨⟨y11A,y11F,y11B,y11E⟩,hy11,h⟩:=zAc h;refine⟨_,⟨_,_,hy11,rfl,rfl⟩,?_⟩
 show Tri ..;refine zAg ?_;have hy:=Option.some.inj h;subst hy;unfold zAu;exact⟨_,Le.refl _ _,rfl,rfl⟩
def zJW (n:Nat) (xs:List AV) (r:Ret):Prop:=∃ (a0:List zO8) (y0:CV),zET n a0=some y0/\xs=[.s (.sl 8 ((List.map zAq) a0)),.s (.fn 50)]/\r = .val (.agg ((CV.enc y0).map .s))
def zGA:zAv:=zAx fun xs r=>∃ n,zJW n xs r
theorem zJt:PSound Try.prog 49 zGA:=by
 have gok:∀ f s,look? f [(28,zCc),(50,zGD)]=some s->PSound Try.prog f s:=zAs (by
  simp only[List.forall_mem_cons]
  exact⟨zCS,zJw,by simp⟩)
 refine zAz tokW Try.call49 Try.func49 rfl (fun xs r h=>by obtain⟨n,_,_,_,rfl,_⟩:=h; show 2<=25; decide) 25 rfl ?_;rintro xs r w0 G0 ⟨n,l1,y0,h,rfl,rfl⟩ _;rw[zET]at h;refine zQE [4] [] rfl ?_;show Tri ..;refine zQE [5] [] rfl ?_;obtain⟨⟨y2A,y2F,y2B,y2E⟩,hy2,h⟩:=zAc h;refine⟨_,_,⟨_,hy2,rfl,rfl,rfl,rfl⟩,?_⟩
 show Tri ..;refine zAa ?_;refine zQE [] [10] rfl ?_;intro n3 hn3;obtain rfl:(l1.length:Int)=n3:=(hn3.trans (congrArg (fun m:Nat=>(m:Int)) (rlen (fun _=>rfl) l1))).symm;show Tri ..;obtain⟨l8,hl,h⟩:=zAc h;refine zAt ⟨ofL [(4,.op 0 0),(5,.op 1 0)],ofH [(0,.box 55 [.s (.int .i64 0),.s (.int .i64 0),.s (.str []),.nl 4]),(1,.box 55 [.s (.int .i64 y2A),.s (.int .i64 y2F),.s (.str y2B),.orow 2]),(2,.row 55 4 (CV.encs l8))],3⟩ ?_ (fun σ' hle=>?_)
 ·refine zAp (zAE (X:=Nat×Int×(List CV)) (fun y=>match y with | (k,x6,l7)=>⟨ofL [(1,.s (.fn 50)),(4,.op 0 0),(5,.op 1 0),(9,.s (.sl 8 ((List.map zAq) l1))),(10,.s (.int .i64 (l1.length:Int))),(11,.s (.int .i64 x6))],ofH [(0,.box 55 [.s (.int .i64 0),.s (.int .i64 0),.s (.str []),.nl 4]),(1,.box 55 [.s (.int .i64 y2A),.s (.int .i64 y2F),.s (.str y2B),.orow 2]),(2,.row 55 4 (CV.encs l7))],3⟩) (fun y=>zBH n l1 y.1 y.2.1 y.2.2=some l8) (fun y=>y.1) (n,0,y2E) hl ?_ ?_)
  ·exact(Le.rnm [(0,0),(3,1),(2,2)] _ _ _ ⟨rfl,rfl,rfl,rfl,rfl,rfl,trivial⟩ ⟨rfl,⟨_,rfl,rfl⟩,rfl,⟨_,rfl,rfl⟩,rfl,⟨_,rfl,rfl⟩,trivial⟩)
  ·rintro⟨k,x6,l7⟩ h;cases k with
   | zero=>cases h
   | succ k =>
    replace h:zBH n l1 (k+1) x6 l7=some l8:=h;rw[zBH]at h;refine zQE [] [] rfl ?_;show Tri ..;refine zAa ?_;refine zAo rfl h (fun hb h=>?_) (fun hb h=>?_)
    ·refine zAh ?_;show Tri ..;refine zAa ?_;refine zAp ?_;refine zQE [7] [13] rfl ?_;obtain⟨⟨e9A,e9Z,e9Ad,e9X,e9M,e9Y,e9Aa,e9B⟩,he9,h⟩:=zAc h;refine And.intro (zAK (fun _=>rfl) he9).1 ?_;intro r10 hr10;obtain rfl:[.int .i64 e9A,.sl 1 ((List.map (irow .i64)) e9Z),.int .i64 e9Ad,.int .i64 e9X,.sl 4 (Nd.encs e9M),.int .i64 e9Y,.str e9Aa,.str e9B]=r10:=(hr10.trans (zAK (fun _=>rfl) he9).2.1).symm;show Tri ..
     refine zAk (Le.giveBox 3 [.int .i64 e9A,.sl 1 ((List.map (irow .i64)) e9Z),.int .i64 e9Ad,.int .i64 e9X,.sl 4 (Nd.encs e9M),.int .i64 e9Y,.str e9Aa,.str e9B] rfl rfl) ?_;refine zBe [21] [20] [1,6,8] rfl (by decide +kernel) ?_;obtain⟨⟨y11A,y11F,y11B,y11E⟩,hy11,h⟩:=zAc h;refine⟨_,⟨_,_,_,hy11,rfl,rfl⟩,?_⟩
     intro r12 hr12;obtain rfl:CV.encs [CV.mk y11A y11F y11B y11E]=r12:=(hr12.trans (by simp[List.map_append,List.map_take,List.map_drop,irow,brow,zAA,List.map_cons,List.map_nil,zAy,CV.encs_eq,CV.enc,Nd.encs_eq,Nd.enc,zAn,zAj,zAm,zAi,zAq,zAr,zAe,zAl])).symm;obtain⟨hq,h⟩:=zAI h
     refine And.intro (show((CV.encs l7).length+(CV.encs [CV.mk y11A y11F y11B y11E]).length) * 56<=140737488355328/\(CV.encs l7).length+(CV.encs [CV.mk y11A y11F y11B y11E]).length<=9223372036854775807 from by simp only[List.length_append,List.length_cons,List.length_nil,List.length_map,rlen CV.encs_eq]at hq ⊢; omega) ?_;show Tri ..
     refine zAk (Le.rnm [(0,0),(1,1),(4,2)] [(1,.s (.fn 50)),(4,.op 0 0),(5,.op 1 0),(9,.s (.sl 8 ((List.map zAq) l1))),(10,.s (.int .i64 (l1.length:Int))),(11,.s (.int .i64 x6))] [(0,.box 55 [.s (.int .i64 0),.s (.int .i64 0),.s (.str []),.nl 4]),(1,.box 55 [.s (.int .i64 y2A),.s (.int .i64 y2F),.s (.str y2B),.orow 2]),(2,.row 55 4 (CV.encs (l7++[CV.mk y11A y11F y11B y11E])))] 3 ⟨rfl,rfl,rfl,rfl,rfl,rfl,trivial⟩ ⟨rfl,⟨_,rfl,rfl⟩,rfl,⟨_,rfl,rfl⟩,rfl,⟨_,rfl,congrArg (Ob.row 55 4) (by simp[List.map_append,List.map_take,List.map_drop,irow,brow,zAA,List.map_cons,List.map_nil,zAy,CV.encs_eq,CV.enc,Nd.encs_eq,Nd.enc,zAn,zAj,zAm,zAi,zAq,zAr,zAe,zAl])⟩,trivial⟩) ?_
     refine zAb [] [] rfl ?_;refine⟨(k,IntKind.i64.wrap (x6+1),l7++[CV.mk y11A y11F y11B y11E]),h,(Le.rnm [(0,0),(1,1),(2,2)] _ _ _ ⟨rfl,rfl,rfl,rfl,rfl,rfl,trivial⟩ ⟨rfl,⟨_,rfl,rfl⟩,rfl,⟨_,rfl,rfl⟩,rfl,⟨_,rfl,rfl⟩,trivial⟩),Nat.lt_succ_self k⟩
    ·refine zAJ ?_;cases h;exact(Le.rnm [(0,0),(1,1),(2,2)] _ _ _ ⟨rfl,rfl,trivial⟩ ⟨rfl,⟨_,rfl,rfl⟩,rfl,⟨_,rfl,rfl⟩,rfl,⟨_,rfl,rfl⟩,trivial⟩)
 ·show Tri ..;refine zAk hle ?_;refine zQE [] [] rfl ?_;show Tri ..;refine zAg ?_;have hy:=Option.some.inj h;subst hy;unfold zAu;exact⟨_,(Le.trans (Le.rnm [(0,0),(2,1)] [(4,.op 0 0)] [(0,.box 55 [.s (.int .i64 y2A),.s (.int .i64 y2F),.s (.str y2B),.orow 1]),(1,.row 55 4 (CV.encs l8))] 2 ⟨rfl,trivial⟩ ⟨rfl,⟨_,rfl,rfl⟩,rfl,⟨_,rfl,rfl⟩,trivial⟩) (Le.giveRow 1 rfl)),rfl,rfl⟩
def zHg (n:Nat) (xs:List AV) (r:Ret):Prop:=∃ (a0:zCu) (y0:CV),zB8 n a0=some y0/\xs=[.agg ((zAr a0).map .s)]/\r = .val (.agg ((CV.enc y0).map .s))
def zEy:zAv:=zAx fun xs r=>∃ n,zHg n xs r
theorem zG4:PSound Try.prog 51 zEy:=by
 have gok:∀ f s,look? f [(64,zEM),(28,zDm)]=some s->PSound Try.prog f s:=zAs (by
  simp only[List.forall_mem_cons]
  exact⟨zF0,zDI,by simp⟩)
 refine zAz tokW Try.call51 Try.func51 rfl (fun xs r h=>by obtain⟨n,_,_,_,rfl,_⟩:=h; show 1<=11; decide) 11 rfl ?_;rintro xs r w0 G0 ⟨n,⟨c1Aq,c1Ap⟩,y0,h,rfl,rfl⟩ _;rw[zB8]at h;refine zQE [2] [] rfl ?_;show Tri ..;refine zAa ?_;refine zBe [] [9] [8] rfl (by decide +kernel) ?_;obtain⟨⟨y2A,y2F,y2B,y2E⟩,hy2,h⟩:=zAc h;refine⟨_,⟨_,_,_,hy2,rfl,rfl⟩,?_⟩
 obtain⟨⟨y3A,y3F,y3B,y3E⟩,hy3,h⟩:=zAc h;refine⟨_,⟨_,_,_,hy3,rfl,rfl⟩,?_⟩
 intro r4 hr4;obtain rfl:CV.encs [CV.mk y2A y2F y2B y2E,CV.mk y3A y3F y3B y3E]=r4:=(hr4.trans (by simp[List.map_append,List.map_take,List.map_drop,irow,brow,zAA,List.map_cons,List.map_nil,zAy,CV.encs_eq,CV.enc,Nd.encs_eq,Nd.enc,zAn,zAj,zAm,zAi,zAq,zAr,zAe,zAl])).symm;obtain⟨⟨y5A,y5F,y5B,y5E⟩,hy5,h⟩:=zAc h;refine⟨_,⟨_,_,hy5,rfl,rfl⟩,?_⟩
 show Tri ..;refine zAg ?_;have hy:=Option.some.inj h;subst hy;unfold zAu;exact⟨_,Le.refl _ _,rfl,rfl⟩
def zHh (n:Nat) (xs:List AV) (r:Ret):Prop:=∃ (a0:zRc) (y0:CV),zDe n a0=some y0/\xs=[.agg ((zAe a0).map .s)]/\r = .val (.agg ((CV.enc y0).map .s))
def zEz:zAv:=zAx fun xs r=>∃ n,zHh n xs r
theorem zG5:PSound Try.prog 33 zEz:=by
 have gok:∀ f s,look? f [(49,zGA),(51,zEy),(28,zDm)]=some s->PSound Try.prog f s:=zAs (by
  simp only[List.forall_mem_cons]
  exact⟨zJt,zG4,zDI,by simp⟩)
 refine zAz tokW Try.call33 Try.func33 rfl (fun xs r h=>by obtain⟨n,_,_,_,rfl,_⟩:=h; show 1<=14; decide) 14 rfl ?_;rintro xs r w0 G0 ⟨n,⟨r1Aj,⟨r1Ak,r1Al⟩,⟨r1Am,r1An⟩⟩,y0,h,rfl,rfl⟩ _;rw[zDe]at h;refine zQE [2] [] rfl ?_;show Tri ..;refine zAa ?_;refine zBe [] [12] [11] rfl (by decide +kernel) ?_;obtain⟨⟨y2A,y2F,y2B,y2E⟩,hy2,h⟩:=zAc h;refine⟨_,⟨_,_,_,hy2,rfl,rfl⟩,?_⟩
 obtain⟨⟨y3A,y3F,y3B,y3E⟩,hy3,h⟩:=zAc h;refine⟨_,⟨_,_,_,hy3,rfl,rfl⟩,?_⟩
 obtain⟨⟨y4A,y4F,y4B,y4E⟩,hy4,h⟩:=zAc h;refine⟨_,⟨_,_,_,hy4,rfl,rfl⟩,?_⟩
 intro r5 hr5;obtain rfl:CV.encs [CV.mk y2A y2F y2B y2E,CV.mk y3A y3F y3B y3E,CV.mk y4A y4F y4B y4E]=r5:=(hr5.trans (by simp[List.map_append,List.map_take,List.map_drop,irow,brow,zAA,List.map_cons,List.map_nil,zAy,CV.encs_eq,CV.enc,Nd.encs_eq,Nd.enc,zAn,zAj,zAm,zAi,zAq,zAr,zAe,zAl])).symm;obtain⟨⟨y6A,y6F,y6B,y6E⟩,hy6,h⟩:=zAc h;refine⟨_,⟨_,_,hy6,rfl,rfl⟩,?_⟩
 show Tri ..;refine zAg ?_;have hy:=Option.some.inj h;subst hy;unfold zAu;exact⟨_,Le.refl _ _,rfl,rfl⟩
def zHf (n:Nat) (xs:List AV) (r:Ret):Prop:=∃ (a0:List zRc) (y0:CV),zDc n a0=some y0/\xs=[.s (.sl 5 ((List.map zAe) a0)),.s (.fn 33)]/\r = .val (.agg ((CV.enc y0).map .s))
def zEx:zAv:=zAx fun xs r=>∃ n,zHf n xs r
theorem zG3:PSound Try.prog 32 zEx:=by
 have gok:∀ f s,look? f [(28,zCc),(33,zEz)]=some s->PSound Try.prog f s:=zAs (by
  simp only[List.forall_mem_cons]
  exact⟨zCS,zG5,by simp⟩)
 refine zAz tokW Try.call32 Try.func32 rfl (fun xs r h=>by obtain⟨n,_,_,_,rfl,_⟩:=h; show 2<=25; decide) 25 rfl ?_;rintro xs r w0 G0 ⟨n,l1,y0,h,rfl,rfl⟩ _;rw[zDc]at h;refine zQE [4] [] rfl ?_;show Tri ..;refine zQE [5] [] rfl ?_;obtain⟨⟨y2A,y2F,y2B,y2E⟩,hy2,h⟩:=zAc h;refine⟨_,_,⟨_,hy2,rfl,rfl,rfl,rfl⟩,?_⟩
 show Tri ..;refine zAa ?_;refine zQE [] [10] rfl ?_;intro n3 hn3;obtain rfl:(l1.length:Int)=n3:=(hn3.trans (congrArg (fun m:Nat=>(m:Int)) (rlen (fun _=>rfl) l1))).symm;show Tri ..;obtain⟨l8,hl,h⟩:=zAc h;refine zAt ⟨ofL [(4,.op 0 0),(5,.op 1 0)],ofH [(0,.box 55 [.s (.int .i64 0),.s (.int .i64 0),.s (.str []),.nl 4]),(1,.box 55 [.s (.int .i64 y2A),.s (.int .i64 y2F),.s (.str y2B),.orow 2]),(2,.row 55 4 (CV.encs l8))],3⟩ ?_ (fun σ' hle=>?_)
 ·refine zAp (zAE (X:=Nat×Int×(List CV)) (fun y=>match y with | (k,x6,l7)=>⟨ofL [(1,.s (.fn 33)),(4,.op 0 0),(5,.op 1 0),(9,.s (.sl 5 ((List.map zAe) l1))),(10,.s (.int .i64 (l1.length:Int))),(11,.s (.int .i64 x6))],ofH [(0,.box 55 [.s (.int .i64 0),.s (.int .i64 0),.s (.str []),.nl 4]),(1,.box 55 [.s (.int .i64 y2A),.s (.int .i64 y2F),.s (.str y2B),.orow 2]),(2,.row 55 4 (CV.encs l7))],3⟩) (fun y=>zA9 n l1 y.1 y.2.1 y.2.2=some l8) (fun y=>y.1) (n,0,y2E) hl ?_ ?_)
  ·exact(Le.rnm [(0,0),(3,1),(2,2)] _ _ _ ⟨rfl,rfl,rfl,rfl,rfl,rfl,trivial⟩ ⟨rfl,⟨_,rfl,rfl⟩,rfl,⟨_,rfl,rfl⟩,rfl,⟨_,rfl,rfl⟩,trivial⟩)
  ·rintro⟨k,x6,l7⟩ h;cases k with
   | zero=>cases h
   | succ k =>
    replace h:zA9 n l1 (k+1) x6 l7=some l8:=h;rw[zA9]at h;refine zQE [] [] rfl ?_;show Tri ..;refine zAa ?_;refine zAo rfl h (fun hb h=>?_) (fun hb h=>?_)
    ·refine zAh ?_;show Tri ..;refine zAa ?_;refine zAp ?_;refine zQE [7] [13] rfl ?_;obtain⟨⟨e9Aj,⟨e9Ak,e9Al⟩,⟨e9Am,e9An⟩⟩,he9,h⟩:=zAc h;refine And.intro (zAK (fun _=>rfl) he9).1 ?_;intro r10 hr10;obtain rfl:[.sl 8 ((List.map zAq) e9Aj),.sl 1 ((List.map (irow .i64)) e9Ak),.sl 1 ((List.map (irow .i64)) e9Al),.sl 1 ((List.map (irow .i64)) e9Am),.sl 1 ((List.map (irow .i64)) e9An)]=r10:=(hr10.trans (zAK (fun _=>rfl) he9).2.1).symm;show Tri ..
     refine zAk (Le.giveBox 3 [.sl 8 ((List.map zAq) e9Aj),.sl 1 ((List.map (irow .i64)) e9Ak),.sl 1 ((List.map (irow .i64)) e9Al),.sl 1 ((List.map (irow .i64)) e9Am),.sl 1 ((List.map (irow .i64)) e9An)] rfl rfl) ?_;refine zBe [21] [20] [1,6,8] rfl (by decide +kernel) ?_;obtain⟨⟨y11A,y11F,y11B,y11E⟩,hy11,h⟩:=zAc h;refine⟨_,⟨_,_,_,hy11,rfl,rfl⟩,?_⟩
     intro r12 hr12;obtain rfl:CV.encs [CV.mk y11A y11F y11B y11E]=r12:=(hr12.trans (by simp[List.map_append,List.map_take,List.map_drop,irow,brow,zAA,List.map_cons,List.map_nil,zAy,CV.encs_eq,CV.enc,Nd.encs_eq,Nd.enc,zAn,zAj,zAm,zAi,zAq,zAr,zAe,zAl])).symm;obtain⟨hq,h⟩:=zAI h
     refine And.intro (show((CV.encs l7).length+(CV.encs [CV.mk y11A y11F y11B y11E]).length) * 56<=140737488355328/\(CV.encs l7).length+(CV.encs [CV.mk y11A y11F y11B y11E]).length<=9223372036854775807 from by simp only[List.length_append,List.length_cons,List.length_nil,List.length_map,rlen CV.encs_eq]at hq ⊢; omega) ?_;show Tri ..
     refine zAk (Le.rnm [(0,0),(1,1),(4,2)] [(1,.s (.fn 33)),(4,.op 0 0),(5,.op 1 0),(9,.s (.sl 5 ((List.map zAe) l1))),(10,.s (.int .i64 (l1.length:Int))),(11,.s (.int .i64 x6))] [(0,.box 55 [.s (.int .i64 0),.s (.int .i64 0),.s (.str []),.nl 4]),(1,.box 55 [.s (.int .i64 y2A),.s (.int .i64 y2F),.s (.str y2B),.orow 2]),(2,.row 55 4 (CV.encs (l7++[CV.mk y11A y11F y11B y11E])))] 3 ⟨rfl,rfl,rfl,rfl,rfl,rfl,trivial⟩ ⟨rfl,⟨_,rfl,rfl⟩,rfl,⟨_,rfl,rfl⟩,rfl,⟨_,rfl,congrArg (Ob.row 55 4) (by simp[List.map_append,List.map_take,List.map_drop,irow,brow,zAA,List.map_cons,List.map_nil,zAy,CV.encs_eq,CV.enc,Nd.encs_eq,Nd.enc,zAn,zAj,zAm,zAi,zAq,zAr,zAe,zAl])⟩,trivial⟩) ?_
     refine zAb [] [] rfl ?_;refine⟨(k,IntKind.i64.wrap (x6+1),l7++[CV.mk y11A y11F y11B y11E]),h,(Le.rnm [(0,0),(1,1),(2,2)] _ _ _ ⟨rfl,rfl,rfl,rfl,rfl,rfl,trivial⟩ ⟨rfl,⟨_,rfl,rfl⟩,rfl,⟨_,rfl,rfl⟩,rfl,⟨_,rfl,rfl⟩,trivial⟩),Nat.lt_succ_self k⟩
    ·refine zAJ ?_;cases h;exact(Le.rnm [(0,0),(1,1),(2,2)] _ _ _ ⟨rfl,rfl,trivial⟩ ⟨rfl,⟨_,rfl,rfl⟩,rfl,⟨_,rfl,rfl⟩,rfl,⟨_,rfl,rfl⟩,trivial⟩)
 ·show Tri ..;refine zAk hle ?_;refine zQE [] [] rfl ?_;show Tri ..;refine zAg ?_;have hy:=Option.some.inj h;subst hy;unfold zAu;exact⟨_,(Le.trans (Le.rnm [(0,0),(2,1)] [(4,.op 0 0)] [(0,.box 55 [.s (.int .i64 y2A),.s (.int .i64 y2F),.s (.str y2B),.orow 1]),(1,.row 55 4 (CV.encs l8))] 2 ⟨rfl,trivial⟩ ⟨rfl,⟨_,rfl,rfl⟩,rfl,⟨_,rfl,rfl⟩,trivial⟩) (Le.giveRow 1 rfl)),rfl,rfl⟩
def zGm (n:Nat) (xs:List AV) (r:Ret):Prop:=∃ (a0:(List UInt8×Nd×List zRc×Int)) (y0:CV),zCH n a0=some y0/\xs=[.agg ((zAl a0).map .s)]/\r = .val (.agg ((CV.enc y0).map .s))
def zDP:zAv:=zAx fun xs r=>∃ n,zGm n xs r
theorem zF2:PSound Try.prog 20 zDP:=by
 have gok:∀ f s,look? f [(29,zFe),(30,zFt),(31,zC7),(32,zEx),(28,zDm)]=some s->PSound Try.prog f s:=zAs (by
  simp only[List.forall_mem_cons]
  exact⟨zF1,zH2,zDz,zG3,zDI,by simp⟩)
 refine zAz tokW Try.call20 Try.func20 rfl (fun xs r h=>by obtain⟨n,_,_,_,rfl,_⟩:=h; show 1<=17; decide) 17 rfl ?_;rintro xs r w0 G0 ⟨n,⟨d1Ao,⟨d1I,d1J,d1K,d1L⟩,d1G,d1H⟩,y0,h,rfl,rfl⟩ _;rw[zCH]at h;refine zQE [2] [] rfl ?_;show Tri ..;refine zAa ?_;refine zBe [] [15] [14] rfl (by decide +kernel) ?_;obtain⟨⟨y2A,y2F,y2B,y2E⟩,hy2,h⟩:=zAc h;refine⟨_,⟨_,_,hy2,rfl,rfl⟩,?_⟩
 obtain⟨⟨y3A,y3F,y3B,y3E⟩,hy3,h⟩:=zAc h;refine⟨_,⟨_,_,_,hy3,rfl,rfl⟩,?_⟩
 obtain⟨⟨y4A,y4F,y4B,y4E⟩,hy4,h⟩:=zAc h;refine⟨_,⟨_,_,hy4,rfl,rfl⟩,?_⟩
 obtain⟨⟨y5A,y5F,y5B,y5E⟩,hy5,h⟩:=zAc h;refine⟨_,⟨_,_,_,hy5,rfl,rfl⟩,?_⟩
 intro r6 hr6;obtain rfl:CV.encs [CV.mk y2A y2F y2B y2E,CV.mk y3A y3F y3B y3E,CV.mk y4A y4F y4B y4E,CV.mk y5A y5F y5B y5E]=r6:=(hr6.trans (by simp[List.map_append,List.map_take,List.map_drop,irow,brow,zAA,List.map_cons,List.map_nil,zAy,CV.encs_eq,CV.enc,Nd.encs_eq,Nd.enc,zAn,zAj,zAm,zAi,zAq,zAr,zAe,zAl])).symm;obtain⟨⟨y7A,y7F,y7B,y7E⟩,hy7,h⟩:=zAc h;refine⟨_,⟨_,_,hy7,rfl,rfl⟩,?_⟩
 show Tri ..;refine zAg ?_;have hy:=Option.some.inj h;subst hy;unfold zAu;exact⟨_,Le.refl _ _,rfl,rfl⟩
def zMK (n:Nat) (xs:List AV) (r:Ret):Prop:=∃ (a0:(List UInt8×Nd×List zRc×Int)) (y0:List UInt8) (y1:Int),zGZ n a0=some (y0,y1)/\xs=[.agg ((zAl a0).map .s)]/\r = .val (.tup [.s (.sl 1 ((List.map brow) y0)),.s (.int .i64 y1)])
def zIX:zAv:=zAx fun xs r=>∃ n,zMK n xs r
theorem zMl:PSound Try.prog 10 zIX:=by
 have gok:∀ f s,look? f [(15,zFG),(20,zDP),(19,zGw),(21,zGz)]=some s->PSound Try.prog f s:=zAs (by
  simp only[List.forall_mem_cons]
  exact⟨zHH,zF2,zJo,zJs,by simp⟩)
 refine zAz tokW Try.call10 Try.func10 rfl (fun xs r h=>by obtain⟨n,_,_,_,_,rfl,_⟩:=h; show 1<=42; decide) 42 rfl ?_;rintro xs r w0 G0 ⟨n,⟨d1Ao,⟨d1I,d1J,d1K,d1L⟩,d1G,d1H⟩,y0,y1,h,rfl,rfl⟩ _;rw[zGZ]at h;refine zQE [2] [] rfl ?_;show Tri ..;refine zAk (Le.rnm [] [(1,.s (.pt [.str d1Ao,.int .i64 d1I,.str d1J,.int .i64 d1K,.sl 4 (Nd.encs d1L),.sl 5 ((List.map zAe) d1G),.int .i64 d1H]))] [] 0 ⟨rfl,trivial⟩ trivial) ?_;refine zAa ?_;refine zQE [] [] rfl ?_
 obtain⟨y2,hy2,h⟩:=zAc h;refine⟨_,⟨_,_,_,hy2,rfl,rfl⟩,?_⟩
 show Tri ..;refine zAo rfl h (fun hb h=>?_) (fun hb h=>?_)
 ·refine zQE [2] [] rfl ?_;show Tri ..;refine zAk (Le.rnm [(0,0)] [(2,.orow 0),(3,.s (.int .i64 1))] [(0,.row 5 1 ((List.map brow) []))] 1 ⟨rfl,rfl,trivial⟩ ⟨rfl,⟨_,rfl,congrArg (Ob.row 5 1) (by simp[List.map_append,List.map_take,List.map_drop,irow,brow,zAA,List.map_cons,List.map_nil,zAy,Nd.encs_eq,Nd.enc,CV.encs_eq,CV.enc,zAn,zAj,zAm,zAi,zAq,zAr,zAe,zAl])⟩,trivial⟩) ?_;refine zAg ?_;obtain⟨hj1,hk1⟩:=pij h;subst hj1 hk1;unfold zAu
  exact⟨_,(Le.trans (Le.rnm [(0,0)] [(2,.orow 0),(3,.s (.int .i64 1))] [(0,.row 5 1 ((List.map brow) []))] 1 ⟨rfl,rfl,trivial⟩ ⟨rfl,⟨_,rfl,rfl⟩,trivial⟩) (Le.giveRow 0 rfl)),rfl,rfl⟩
 ·refine zAh ?_;show Tri ..;refine zQE [] [] rfl ?_;obtain⟨⟨y3A,y3F,y3B,y3E⟩,hy3,h⟩:=zAc h;refine⟨_,⟨_,_,_,hy3,rfl,rfl⟩,?_⟩
  obtain⟨⟨y4,y5⟩,hy4,h⟩:=zAc h;refine⟨_,⟨_,_,_,_,hy4,rfl,rfl⟩,?_⟩
  show Tri ..;refine zAa ?_;refine zQE [] [] rfl ?_;show Tri ..;refine zAo rfl h (fun hb h=>?_) (fun hb h=>?_)
  ·refine zQE [2] [] rfl ?_;show Tri ..;refine zAk (Le.rnm [(0,0)] [(2,.orow 0),(3,.s (.int .i64 6))] [(0,.row 5 1 ((List.map brow) []))] 1 ⟨rfl,rfl,trivial⟩ ⟨rfl,⟨_,rfl,congrArg (Ob.row 5 1) (by simp[List.map_append,List.map_take,List.map_drop,irow,brow,zAA,List.map_cons,List.map_nil,zAy,Nd.encs_eq,Nd.enc,CV.encs_eq,CV.enc,zAn,zAj,zAm,zAi,zAq,zAr,zAe,zAl])⟩,trivial⟩) ?_;refine zAg ?_;obtain⟨hj1,hk1⟩:=pij h;subst hj1 hk1;unfold zAu
   exact⟨_,(Le.trans (Le.rnm [(0,0)] [(2,.orow 0),(3,.s (.int .i64 6))] [(0,.row 5 1 ((List.map brow) []))] 1 ⟨rfl,rfl,trivial⟩ ⟨rfl,⟨_,rfl,rfl⟩,trivial⟩) (Le.giveRow 0 rfl)),rfl,rfl⟩
  ·refine zAh ?_;show Tri ..;refine zQE [23] [21] rfl ?_;intro n6 hn6;obtain rfl:(y4.length:Int)=n6:=(hn6.trans (congrArg (fun m:Nat=>(m:Int)) (rlen (fun _=>rfl) y4))).symm;obtain⟨hq,h⟩:=zAI h;refine And.intro (show 0<=(0:Int)/\(0:Int)<=(IntKind.i64.wrap (12+(y4.length:Int)))/\(IntKind.i64.wrap (12+(y4.length:Int))) * ((1:Nat):Int)<=281474976710656/\(IntKind.i64.wrap (12+(y4.length:Int)))<=281474976710656 from⟨hq.1,hq.2.1,by have h1:=hq.1; have h2:=hq.2.1; have h3:=hq.2.2; omega,by have h3:=hq.2.2; omega⟩) ?_;show Tri ..
   refine zAk (Le.rnm [(0,0)] [(4,.s (.sl 1 ((List.map brow) y4))),(6,.orow 0)] [(0,.row 5 1 ((List.map brow) (List.replicate (0:Int).toNat (b8of 0))))] 1 ⟨rfl,rfl,trivial⟩ ⟨rfl,⟨_,rfl,congrArg (Ob.row 5 1) (by simp[List.map_append,List.map_take,List.map_drop,irow,brow,zAA,List.map_cons,List.map_nil,zAy,Nd.encs_eq,Nd.enc,CV.encs_eq,CV.enc,zAn,zAj,zAm,zAi,zAq,zAr,zAe,zAl])⟩,trivial⟩) ?_;refine zQE [25] [] rfl ?_;obtain⟨hq,h⟩:=zAI h
   refine And.intro (show(((List.map brow) (List.replicate (0:Int).toNat (b8of 0))).length+(List.map brow [86,67,76,49]).length) * 1<=140737488355328/\((List.map brow) (List.replicate (0:Int).toNat (b8of 0))).length+(List.map brow [86,67,76,49]).length<=9223372036854775807 from by simp only[List.length_append,List.length_cons,List.length_nil,List.length_map,rlen (fun _=>rfl)]at hq ⊢; omega) ?_;show Tri ..
   refine zAk (Le.rnm [(1,0)] [(4,.s (.sl 1 ((List.map brow) y4))),(6,.orow 0)] [(0,.row 5 1 ((List.map brow) ((List.replicate (0:Int).toNat (b8of 0))++[86,67,76,49])))] 1 ⟨rfl,rfl,trivial⟩ ⟨rfl,⟨_,rfl,congrArg (Ob.row 5 1) (by simp[List.map_append,List.map_take,List.map_drop,irow,brow,zAA,List.map_cons,List.map_nil,zAy,Nd.encs_eq,Nd.enc,CV.encs_eq,CV.enc,zAn,zAj,zAm,zAi,zAq,zAr,zAe,zAl])⟩,trivial⟩) ?_;refine zQE [] [] rfl ?_;obtain⟨y7,hy7,h⟩:=zAc h;refine⟨_,⟨_,_,_,hy7,rfl,rfl⟩,?_⟩
   show Tri ..;refine zAa ?_;refine zQE [] [] rfl ?_;show Tri ..;obtain⟨l11,hl,h⟩:=zAc h;refine zAt ⟨ofL [(4,.s (.sl 1 ((List.map brow) y4))),(6,.orow 0)],ofH [(0,.row 5 1 ((List.map brow) l11))],1⟩ ?_ (fun σ' hle=>?_)
   ·refine zAp (zAE (X:=Nat×Int×(List UInt8)) (fun y=>match y with | (k,shift9,l10)=>⟨ofL [(4,.s (.sl 1 ((List.map brow) y4))),(6,.orow 0),(7,.s (.int .u64 y7)),(8,.s (.int .i64 shift9))],ofH [(0,.row 5 1 ((List.map brow) l10))],1⟩) (fun y=>zCM y7 y.1 y.2.1 y.2.2=some l11) (fun y=>y.1) (n,56,(List.replicate (0:Int).toNat (b8of 0))++[86,67,76,49]) hl ?_ ?_)
    ·exact(Le.rnm [(0,0)] _ _ _ ⟨rfl,rfl,rfl,rfl,trivial⟩ ⟨rfl,⟨_,rfl,rfl⟩,trivial⟩)
    ·rintro⟨k,shift9,l10⟩ h;cases k with
     | zero=>cases h
     | succ k =>
      replace h:zCM y7 (k+1) shift9 l10=some l11:=h;rw[zCM]at h;refine zAa ?_;refine zQE [] [] rfl ?_;show Tri ..;refine zAo rfl h (fun hb h=>?_) (fun hb h=>?_)
      ·refine zAh ?_;show Tri ..;refine zAa ?_;refine zAp ?_;refine zAb [38] [37] rfl ?_;obtain⟨hq,h⟩:=zAI h;refine And.intro hq ?_;intro r12 hr12;obtain rfl:(List.map brow) [b8of (IntKind.u8.wrap (y7.fdiv (2 ^ (min shift9.toNat IntKind.u64.bits))))]=r12:=(hr12.trans (by simp[List.map_append,List.map_take,List.map_drop,irow,brow,zAA,List.map_cons,List.map_nil,zAy,Nd.encs_eq,Nd.enc,CV.encs_eq,CV.enc,zAn,zAj,zAm,zAi,zAq,zAr,zAe,zAl])).symm;obtain⟨hq,h⟩:=zAI h
       refine And.intro (show(((List.map brow) l10).length+((List.map brow) [b8of (IntKind.u8.wrap (y7.fdiv (2 ^ (min shift9.toNat IntKind.u64.bits))))]).length) * 1<=140737488355328/\((List.map brow) l10).length+((List.map brow) [b8of (IntKind.u8.wrap (y7.fdiv (2 ^ (min shift9.toNat IntKind.u64.bits))))]).length<=9223372036854775807 from by simp only[List.length_append,List.length_cons,List.length_nil,List.length_map,rlen (fun _=>rfl)]at hq ⊢; omega) ?_;show Tri ..
       refine zAk (Le.rnm [(1,0)] [(4,.s (.sl 1 ((List.map brow) y4))),(6,.orow 0),(7,.s (.int .u64 y7)),(8,.s (.int .i64 shift9))] [(0,.row 5 1 ((List.map brow) (l10++[b8of (IntKind.u8.wrap (y7.fdiv (2 ^ (min shift9.toNat IntKind.u64.bits))))])))] 1 ⟨rfl,rfl,rfl,rfl,trivial⟩ ⟨rfl,⟨_,rfl,congrArg (Ob.row 5 1) (by simp[List.map_append,List.map_take,List.map_drop,irow,brow,zAA,List.map_cons,List.map_nil,zAy,Nd.encs_eq,Nd.enc,CV.encs_eq,CV.enc,zAn,zAj,zAm,zAi,zAq,zAr,zAe,zAl])⟩,trivial⟩) ?_;refine zAb [] [] rfl ?_
       refine⟨(k,IntKind.i64.wrap (shift9 - 8),l10++[b8of (IntKind.u8.wrap (y7.fdiv (2 ^ (min shift9.toNat IntKind.u64.bits))))]),h,(Le.rnm [(0,0)] _ _ _ ⟨rfl,rfl,rfl,rfl,trivial⟩ ⟨rfl,⟨_,rfl,rfl⟩,trivial⟩),Nat.lt_succ_self k⟩
      ·refine zAJ ?_;cases h;exact(Le.rnm [(0,0)] _ _ _ ⟨rfl,rfl,trivial⟩ ⟨rfl,⟨_,rfl,rfl⟩,trivial⟩)
   ·show Tri ..;refine zAk hle ?_;refine zQE [41] [] rfl ?_;obtain⟨hq,h⟩:=zAI h;refine And.intro (show(((List.map brow) l11).length+((List.map brow) y4).length) * 1<=140737488355328/\((List.map brow) l11).length+((List.map brow) y4).length<=9223372036854775807 from by simp only[List.length_append,List.length_cons,List.length_nil,List.length_map,rlen (fun _=>rfl)]at hq ⊢; omega) ?_;show Tri ..
    refine zAk (Le.rnm [(1,0)] [(2,.orow 0),(3,.s (.int .i64 0))] [(0,.row 5 1 ((List.map brow) (l11++y4)))] 1 ⟨rfl,rfl,trivial⟩ ⟨rfl,⟨_,rfl,congrArg (Ob.row 5 1) (by simp[List.map_append,List.map_take,List.map_drop,irow,brow,zAA,List.map_cons,List.map_nil,zAy,Nd.encs_eq,Nd.enc,CV.encs_eq,CV.enc,zAn,zAj,zAm,zAi,zAq,zAr,zAe,zAl])⟩,trivial⟩) ?_;refine zAg ?_;obtain⟨hj1,hk1⟩:=pij h;subst hj1 hk1;unfold zAu
    exact⟨_,(Le.trans (Le.rnm [(0,0)] [(2,.orow 0),(3,.s (.int .i64 0))] [(0,.row 5 1 ((List.map brow) (l11++y4)))] 1 ⟨rfl,rfl,trivial⟩ ⟨rfl,⟨_,rfl,rfl⟩,trivial⟩) (Le.giveRow 0 rfl)),rfl,rfl⟩
def zMN (n:Nat) (xs:List AV) (r:Ret):Prop:=∃ (y0:Bool),zDt n=some y0/\xs=[]/\r = .val (.s (.bool y0))
def zIY:zAv:=zAx fun xs r=>∃ n,zMN n xs r
theorem zMm:PSound Try.prog 4 zIY:=by
 have gok:∀ f s,look? f [(10,zIX)]=some s->PSound Try.prog f s:=zAs (by
  simp only[List.forall_mem_cons]
  exact⟨zMl,by simp⟩)
 refine zAz tokW Try.call4 Try.func4 rfl (fun xs r h=>by obtain⟨n,_,_,rfl,_⟩:=h; show 0<=22; decide) 22 rfl ?_;rintro xs r w0 G0 ⟨n,y0,h,rfl,rfl⟩ _;rw[zDt]at h;refine zQE [] [] rfl ?_;show Tri ..;refine zQE [] [] rfl ?_;obtain⟨⟨y1,y2⟩,hy1,h⟩:=zAc h;refine⟨_,⟨_,_,_,_,hy1,rfl,rfl⟩,?_⟩
 show Tri ..;refine zAa ?_;obtain⟨x3,hj,h⟩:=zAc h;refine zAt ⟨ofL [(0,.s (.bool x3))],fun _=>none,0⟩ ?_ (fun σ' hle=>?_)
 ·replace h:=hj;refine zAb [] [11,13,16,18,19] rfl ?_;intro b hb;cases b with
  | true =>
   replace h:=zAD hb.symm h;intro n4 hn4;obtain rfl:(y1.length:Int)=n4:=(hn4.trans (congrArg (fun m:Nat=>(m:Int)) (rlen (fun _=>rfl) y1))).symm;intro b hb;cases b with
   | true =>
    replace h:=zAD hb.symm h;obtain⟨hq,h⟩:=zAI h;refine And.intro ⟨hq.1,Int.le_trans hq.2.1 (Int.ofNat_le.2 (Nat.le_of_eq (rlen (fun _=>rfl) _).symm)),Int.le_refl _⟩ ?_;intro r5 hr5;obtain rfl:(List.map brow) ((y1.take (y1.length:Int).toNat).drop (12:Int).toNat)=r5:=(hr5.trans ((congrArg (fun m:Nat=>(((List.map brow) y1).take m).drop (12:Int).toNat) (rlen (fun _=>rfl) _)).trans (rcut (fun _=>rfl) _ _ _))).symm;refine And.intro (show List.map brow ((y1.take (y1.length:Int).toNat).drop (12:Int).toNat)=((List.map brow ((y1.take (y1.length:Int).toNat).drop (12:Int).toNat)).map zGG).map brow from by rw[zLZ]) ?_;intro s6 hs6
    obtain rfl:(y1.take (y1.length:Int).toNat).drop (12:Int).toNat=s6:=(hs6.trans (zLZ _)).symm;cases h;exact(Le.forget _ ⟨rfl,trivial⟩)
   | false =>
    replace h:=zAC hb.symm h;cases h;exact(Le.forget _ ⟨rfl,trivial⟩)
  | false =>
   replace h:=zAC hb.symm h;intro b hb;subst hb;cases h;exact(Le.forget _ ⟨rfl,trivial⟩)
 ·show Tri ..;refine zAk hle ?_;refine zAg ?_;have hy:=Option.some.inj h;subst hy;unfold zAu;exact⟨_,Le.refl _ _,rfl,rfl⟩
def zE1 (n:Nat) (xs:List AV) (r:Ret):Prop:=∃ (a0:Nd) (a1:Int) (y0:Int),zCx n a0 a1=some y0/\xs=[.agg ((Nd.enc a0).map .s),.s (.int .i64 a1)]/\r = .val (.s (.int .i64 y0))
theorem zLz (n:Nat) (ih:PSound Try.prog 11 (zAx (zE1 n))):PSound Try.prog 11 (zAx (zE1 (n+1))):=by
 have gok:∀ f s,look? f [(11,zAx (zE1 n))]=some s->PSound Try.prog f s:=zAs (by
  simp only[List.forall_mem_cons]
  exact⟨ih,by simp⟩)
 refine zAz tokW Try.call11 Try.func11 rfl (fun xs r h=>by obtain⟨_,_,_,_,rfl,_⟩:=h; show 2<=27; decide) 27 rfl ?_;rintro xs r w0 G0 ⟨⟨n1A,n1B,n1D,n1C⟩,most2,y0,h,rfl,rfl⟩ _;rw[zCx]at h;refine zQE [] [] rfl ?_;show Tri ..;refine zQE [] [] rfl ?_;show Tri ..;refine zAa ?_;refine zQE [] [] rfl ?_;show Tri ..;obtain⟨most5,hl,h⟩:=zAc h;refine zAt ⟨ofL [(1,.s (.int .i64 most5))],fun _=>none,0⟩ ?_ (fun σ' hle=>?_)
 ·refine zAp (zAE (X:=Nat×Int×Int) (fun y=>match y with | (k,most3,i4)=>⟨ofL [(1,.s (.int .i64 most3)),(2,.s (.pt [.int .i64 n1A,.str n1B,.int .i64 n1D,.sl 4 (Nd.encs n1C)])),(5,.s (.int .i64 i4))],fun _=>none,0⟩) (fun y=>zBB (zCx n) n1C y.1 y.2.1 y.2.2=some most5) (fun y=>y.1) (n,IntKind.i64.wrap (most2 - 1),0) hl ?_ ?_)
  ·exact(Le.forget _ ⟨rfl,rfl,rfl,trivial⟩)
  ·rintro⟨k,most3,i4⟩ h;cases k with
   | zero=>cases h
   | succ k =>
    replace h:zBB (zCx n) n1C (k+1) most3 i4=some most5:=h;rw[zBB]at h;refine zAa ?_;refine zAa ?_;obtain⟨x6,hj,h⟩:=zAc h;refine zAt ⟨ofL [(1,.s (.int .i64 most3)),(2,.s (.pt [.int .i64 n1A,.str n1B,.int .i64 n1D,.sl 4 (Nd.encs n1C)])),(5,.s (.int .i64 i4)),(16,.s (.bool x6))],fun _=>none,0⟩ ?_ (fun σ' hle=>?_)
    ·replace h:=hj;refine zAb [] [11,13] rfl ?_;intro n7 hn7;obtain rfl:(n1C.length:Int)=n7:=(hn7.trans (congrArg (fun m:Nat=>(m:Int)) (rlen Nd.encs_eq n1C))).symm;intro b hb;cases b with
     | true =>
      replace h:=zAD hb.symm h;cases h;exact(Le.forget _ ⟨rfl,rfl,rfl,rfl,trivial⟩)
     | false =>
      replace h:=zAC hb.symm h;cases h;exact(Le.forget _ ⟨rfl,rfl,rfl,rfl,trivial⟩)
    ·show Tri ..;refine zAk hle ?_;refine zAo rfl h (fun hb h=>?_) (fun hb h=>?_)
     ·refine zAh ?_;show Tri ..;refine zAa ?_;refine zAp ?_;refine zAb [] [22] rfl ?_;obtain⟨⟨e8A,e8B,e8D,e8C⟩,he8,h⟩:=zAc h;refine And.intro (zAK Nd.encs_eq he8).1 ?_;intro r9 hr9;obtain rfl:[.int .i64 e8A,.str e8B,.int .i64 e8D,.sl 4 (Nd.encs e8C)]=r9:=(hr9.trans (zAK Nd.encs_eq he8).2.1).symm;obtain⟨y10,hy10,h⟩:=zAc h;refine⟨_,⟨_,_,_,hy10,rfl,rfl⟩,?_⟩
      show Tri ..;refine zAb [] [] rfl ?_;refine⟨(k,y10,IntKind.i64.wrap (i4+1)),h,(Le.forget _ ⟨rfl,rfl,rfl,trivial⟩),Nat.lt_succ_self k⟩
     ·refine zAJ ?_;cases h;exact(Le.forget _ ⟨rfl,trivial⟩)
 ·show Tri ..;refine zAk hle ?_;refine zQE [] [] rfl ?_;show Tri ..;refine zAg ?_;have hy:=Option.some.inj h;subst hy;unfold zAu;exact⟨_,Le.refl _ _,rfl,rfl⟩
theorem zLV:∀ n,PSound Try.prog 11 (zAx (zE1 n)):=by
 intro n
 induction n with
 | zero=>exact zCn Try.call11 (fun xs r h=>by obtain⟨_,_,_,h,_⟩:=h; cases h)
 | succ n ih=>exact zLz n ih
def zKs:zAv:=zAx fun xs r=>∃ n,zE1 n xs r
theorem zM2:PSound Try.prog 11 zKs:=zDu zLV
def zOd (n:Nat) (xs:List AV) (r:Ret):Prop:=∃ (a0:Nd) (a1:Int) (y0:Bool),zFU n a0 a1=some y0/\xs=[.agg ((Nd.enc a0).map .s),.s (.int .i64 a1)]/\r = .val (.s (.bool y0))
def zLT:zAv:=zAx fun xs r=>∃ n,zOd n xs r
theorem zNY:PSound Try.prog 5 zLT:=by
 have gok:∀ f s,look? f [(11,zKs)]=some s->PSound Try.prog f s:=zAs (by
  simp only[List.forall_mem_cons]
  exact⟨zM2,by simp⟩)
 refine zAz tokW Try.call5 Try.func5 rfl (fun xs r h=>by obtain⟨n,_,_,_,_,rfl,_⟩:=h; show 2<=9; decide) 9 rfl ?_;rintro xs r w0 G0 ⟨n,⟨n1A,n1B,n1D,n1C⟩,most2,y0,h,rfl,rfl⟩ _;rw[zFU]at h;refine zQE [] [] rfl ?_;show Tri ..;refine zQE [] [] rfl ?_;obtain⟨y3,hy3,h⟩:=zAc h;refine⟨_,⟨_,_,_,_,hy3,rfl,rfl⟩,?_⟩
 show Tri ..;refine zAg ?_;have hy:=Option.some.inj h;subst hy;unfold zAu;exact⟨_,Le.refl _ _,rfl,rfl⟩
def zE0 (xs:List AV) (os:List Ob) (x:AV) (os':List (Option Ob)):Prop:=∃ (a0I:Int) (a0J:List UInt8) (a0K:Int) (a0L:List Nd) (a0P:Int) (a0Q:List UInt8) (a0R:Int) (a0S:List Nd) (a0G:List zRc) (a0H:Int) (y0:Nd) (z0I:Int) (z0J:List UInt8) (z0K:Int) (z0L:List Nd) (z0P:Int) (z0Q:List UInt8) (z0R:Int) (z0S:List Nd) (z0G:List zRc) (z0H:Int),zAX (Nd.mk a0I a0J a0K a0L,Nd.mk a0P a0Q a0R a0S,a0G,a0H)=some (y0,(Nd.mk z0I z0J z0K z0L,Nd.mk z0P z0Q z0R z0S,z0G,z0H))/\xs=[.op 0 0]/\os=[.box 50 [.s (.int .i64 a0I),.s (.str a0J),.s (.int .i64 a0K),.s (.sl 4 (Nd.encs a0L)),.s (.int .i64 a0P),.s (.str a0Q),.s (.int .i64 a0R),.s (.sl 4 (Nd.encs a0S)),.orow 1,.s (.int .i64 a0H)],.row 85 5 ((List.map zAe) a0G)]/\x = .agg ((Nd.enc y0).map .s)/\os'=[some (.box 50 [.s (.int .i64 z0I),.s (.str z0J),.s (.int .i64 z0K),.s (.sl 4 (Nd.encs z0L)),.s (.int .i64 z0P),.s (.str z0Q),.s (.int .i64 z0R),.s (.sl 4 (Nd.encs z0S)),.orow 2,.s (.int .i64 z0H)]),none,some (.row 85 5 ((List.map zAe) z0G))]
def zC0:zAv:=zCm (fun xs os x os'=>zE0 xs os x os')
theorem zEW:PSound Try.prog 12 zC0:=by
 have gok:∀ f s,look? f [(17,zCb)]=some s->PSound Try.prog f s:=zAs (by
  simp only[List.forall_mem_cons]
  exact⟨zCl,by simp⟩)
 refine PSound.withNil (zF5 tokW Try.call12 Try.func12 rfl (fun xs os x os' h=>by obtain⟨_,_,_,_,_,_,_,_,_,_,_,_,_,_,_,_,_,_,_,_,_,_,rfl,rfl,_,rfl⟩:=h; exact⟨by show 1<=11; decide,by show 2<=3; decide⟩) 11 rfl ?_) _;rintro xs os x os' w0 G0 B0 ⟨o1I,o1J,o1K,o1L,o1P,o1Q,o1R,o1S,o1G,o1H,y0,z0I,z0J,z0K,z0L,z0P,z0Q,z0R,z0S,z0G,z0H,h,rfl,rfl,rfl,rfl⟩ _;rw[zAX]at h;refine zQE [2] [] rfl ?_;show Tri ..
 refine zAa ?_;refine zQE [] [] rfl ?_;show Tri ..;refine zAB rfl (fun h=>by cases h) (fun _=>?_)
 refine zAh ?_;show Tri ..;refine zQE [] [] rfl ?_;obtain⟨⟨y2A,y2B,y2D,y2C⟩,hy2,h⟩:=zAc h;refine⟨_,⟨_,_,hy2,rfl,rfl⟩,?_⟩
 show Tri ..;refine zAg ?_;have hj0:=Option.some.inj h;obtain⟨hv0,hw0⟩:=Prod.mk.inj hj0;subst hv0;obtain⟨he1Ab,hr1Ab⟩:=Prod.mk.inj hw0;obtain⟨he1Ac,hr1Ac⟩:=Prod.mk.inj hr1Ab;obtain⟨he1Ah,he1Ai⟩:=Prod.mk.inj hr1Ac;obtain⟨he2Ab,he2Ac,he2Ah,he2Ai⟩:=Nd.mk.inj he1Ab;subst he2Ab;subst he2Ac;subst he2Ah;subst he2Ai;obtain⟨he3Ab,he3Ac,he3Ah,he3Ai⟩:=Nd.mk.inj he1Ac;subst he3Ab;subst he3Ac;subst he3Ah;subst he3Ai;subst he1Ah;subst he1Ai;unfold zB5
 exact⟨_,(Le.rnm [(0,0),(1,2),(2,3)] [(2,.op 3 0)] [(0,.box 50 [.s (.int .i64 o1I),.s (.str o1J),.s (.int .i64 o1K),.s (.sl 4 (Nd.encs o1L)),.s (.int .i64 o1P),.s (.str o1Q),.s (.int .i64 o1R),.s (.sl 4 (Nd.encs o1S)),.orow 2,.s (.int .i64 o1H)]),(2,.row 85 5 ((List.map zAe) o1G)),(3,.box 24 [.s (.int .i64 y2A),.s (.str y2B),.s (.int .i64 y2D),.s (.sl 4 (Nd.encs y2C))])] 4 ⟨rfl,trivial⟩ ⟨rfl,⟨_,rfl,rfl⟩,rfl,⟨_,rfl,rfl⟩,rfl,⟨_,rfl,rfl⟩,trivial⟩),rfl,rfl,rfl,rfl,rfl,rfl,trivial⟩
def zNz (n:Nat) (xs:List AV) (r:Ret):Prop:=∃ (a0:List zO8) (y0:List zO8),zGf n a0=some y0/\xs=[.s (.sl 8 ((List.map zAq) a0))]/\r = .row 97 8 ((List.map zAq) y0)
def zKq:zAv:=zAx fun xs r=>∃ n,zNz n xs r
theorem zM0:PSound Try.prog 52 zKq:=by
 have gok:∀ f s,look? f [(65,zLQ)]=some s->PSound Try.prog f s:=zAs (by
  simp only[List.forall_mem_cons]
  exact⟨zNW,by simp⟩)
 refine zAz tokW Try.call52 Try.func52 rfl (fun xs r h=>by obtain⟨n,_,_,_,rfl,_⟩:=h; show 1<=19; decide) 19 rfl ?_;rintro xs r w0 G0 ⟨n,l1,y0,h,rfl,rfl⟩ _;rw[zGf]at h;refine zQE [2] [] rfl ?_;show Tri ..;refine zAk (Le.rnm [] [(0,.s (.sl 8 ((List.map zAq) l1)))] [] 0 ⟨rfl,trivial⟩ trivial) ?_;refine zQE [3] [] rfl ?_;show Tri ..
 refine zAk (Le.rnm [(0,0)] [(0,.s (.sl 8 ((List.map zAq) l1))),(3,.orow 0)] [(0,.row 97 8 ((List.map zAq) []))] 1 ⟨rfl,rfl,trivial⟩ ⟨rfl,⟨_,rfl,congrArg (Ob.row 97 8) (by simp[List.map_append,List.map_take,List.map_drop,irow,brow,zAA,List.map_cons,List.map_nil,zAy,Nd.encs_eq,Nd.enc,CV.encs_eq,CV.enc,zAn,zAj,zAm,zAi,zAq,zAr,zAe,zAl])⟩,trivial⟩) ?_;refine zAa ?_;refine zQE [] [7] rfl ?_;intro n2 hn2;obtain rfl:(l1.length:Int)=n2:=(hn2.trans (congrArg (fun m:Nat=>(m:Int)) (rlen (fun _=>rfl) l1))).symm
 show Tri ..;obtain⟨l6,hl,h⟩:=zAc h;refine zAt ⟨ofL [(3,.orow 0)],ofH [(0,.row 97 8 ((List.map zAq) l6))],1⟩ ?_ (fun σ' hle=>?_)
 ·refine zAp (zAE (X:=Nat×Int×(List zO8)) (fun y=>match y with | (k,x4,l5)=>⟨ofL [(3,.orow 0),(6,.s (.sl 8 ((List.map zAq) l1))),(7,.s (.int .i64 (l1.length:Int))),(8,.s (.int .i64 x4))],ofH [(0,.row 97 8 ((List.map zAq) l5))],1⟩) (fun y=>zBR n l1 y.1 y.2.1 y.2.2=some l6) (fun y=>y.1) (n,0,[]) hl ?_ ?_)
  ·exact(Le.rnm [(0,0)] _ _ _ ⟨rfl,rfl,rfl,rfl,trivial⟩ ⟨rfl,⟨_,rfl,rfl⟩,trivial⟩)
  ·rintro⟨k,x4,l5⟩ h;cases k with
   | zero=>cases h
   | succ k =>
    replace h:zBR n l1 (k+1) x4 l5=some l6:=h;rw[zBR]at h;refine zQE [] [] rfl ?_;show Tri ..;refine zAa ?_;refine zAo rfl h (fun hb h=>?_) (fun hb h=>?_)
    ·refine zAh ?_;show Tri ..;refine zAa ?_;refine zAp ?_;refine zQE [5] [10] rfl ?_;obtain⟨⟨e7A,e7Z,e7Ad,e7X,e7M,e7Y,e7Aa,e7B⟩,he7,h⟩:=zAc h;refine And.intro (zAK (fun _=>rfl) he7).1 ?_;intro r8 hr8;obtain rfl:[.int .i64 e7A,.sl 1 ((List.map (irow .i64)) e7Z),.int .i64 e7Ad,.int .i64 e7X,.sl 4 (Nd.encs e7M),.int .i64 e7Y,.str e7Aa,.str e7B]=r8:=(hr8.trans (zAK (fun _=>rfl) he7).2.1).symm;show Tri ..
     refine zAk (Le.giveBox 1 [.int .i64 e7A,.sl 1 ((List.map (irow .i64)) e7Z),.int .i64 e7Ad,.int .i64 e7X,.sl 4 (Nd.encs e7M),.int .i64 e7Y,.str e7Aa,.str e7B] rfl rfl) ?_;refine zAb [16] [15] rfl ?_;obtain⟨⟨y9A,y9Z,y9Ad,y9X,y9M,y9Y,y9Aa,y9B⟩,hy9,h⟩:=zAc h;refine⟨_,⟨_,_,_,hy9,rfl,rfl⟩,?_⟩
     intro r10 hr10;obtain rfl:(List.map zAq) [(y9A,y9Z,y9Ad,y9X,y9M,y9Y,y9Aa,y9B)]=r10:=(hr10.trans (by simp[List.map_append,List.map_take,List.map_drop,irow,brow,zAA,List.map_cons,List.map_nil,zAy,Nd.encs_eq,Nd.enc,CV.encs_eq,CV.enc,zAn,zAj,zAm,zAi,zAq,zAr,zAe,zAl])).symm;obtain⟨hq,h⟩:=zAI h
     refine And.intro (show(((List.map zAq) l5).length+((List.map zAq) [(y9A,y9Z,y9Ad,y9X,y9M,y9Y,y9Aa,y9B)]).length) * 112<=140737488355328/\((List.map zAq) l5).length+((List.map zAq) [(y9A,y9Z,y9Ad,y9X,y9M,y9Y,y9Aa,y9B)]).length<=9223372036854775807 from by simp only[List.length_append,List.length_cons,List.length_nil,List.length_map,rlen (fun _=>rfl)]at hq ⊢; omega) ?_;show Tri ..
     refine zAk (Le.rnm [(2,0)] [(3,.orow 0),(6,.s (.sl 8 ((List.map zAq) l1))),(7,.s (.int .i64 (l1.length:Int))),(8,.s (.int .i64 x4))] [(0,.row 97 8 ((List.map zAq) (l5++[(y9A,y9Z,y9Ad,y9X,y9M,y9Y,y9Aa,y9B)])))] 1 ⟨rfl,rfl,rfl,rfl,trivial⟩ ⟨rfl,⟨_,rfl,congrArg (Ob.row 97 8) (by simp[List.map_append,List.map_take,List.map_drop,irow,brow,zAA,List.map_cons,List.map_nil,zAy,Nd.encs_eq,Nd.enc,CV.encs_eq,CV.enc,zAn,zAj,zAm,zAi,zAq,zAr,zAe,zAl])⟩,trivial⟩) ?_;refine zAb [] [] rfl ?_
     refine⟨(k,IntKind.i64.wrap (x4+1),l5++[(y9A,y9Z,y9Ad,y9X,y9M,y9Y,y9Aa,y9B)]),h,(Le.rnm [(0,0)] _ _ _ ⟨rfl,rfl,rfl,rfl,trivial⟩ ⟨rfl,⟨_,rfl,rfl⟩,trivial⟩),Nat.lt_succ_self k⟩
    ·refine zAJ ?_;cases h;exact(Le.rnm [(0,0)] _ _ _ ⟨rfl,trivial⟩ ⟨rfl,⟨_,rfl,rfl⟩,trivial⟩)
 ·show Tri ..;refine zAk hle ?_;refine zQE [] [] rfl ?_;show Tri ..;refine zAg ?_;have hy:=Option.some.inj h;subst hy;unfold zAu;exact⟨_,Le.refl _ _,0,rfl,rfl⟩
def zKV (xs:List AV) (r:Ret):Prop:=∃ (a0:zCu) (y0:zCu),zBw a0=some y0/\xs=[.agg ((zAr a0).map .s)]/\r = .val (.agg ((zAr y0).map .s))
def zHm:zAv:=zAx fun xs r=>zKV xs r
theorem zKa:PSound Try.prog 53 zHm:=by
 have gok:∀ f s,look? f [(66,zGR)]=some s->PSound Try.prog f s:=zAs (by
  simp only[List.forall_mem_cons]
  exact⟨zIp,by simp⟩)
 refine zAz tokW Try.call53 Try.func53 rfl (fun xs r h=>by obtain⟨_,_,_,rfl,_⟩:=h; show 1<=10; decide) 10 rfl ?_;rintro xs r w0 G0 ⟨⟨c1Aq,c1Ap⟩,y0,h,rfl,rfl⟩ _;rw[zBw]at h;refine zQE [2] [] rfl ?_;show Tri ..;refine zAa ?_;refine zBe [] [] [7] rfl (by decide +kernel) ?_;obtain⟨y2,hy2,h⟩:=zAc h;refine⟨_,⟨_,_,hy2,rfl,rfl⟩,?_⟩
 obtain⟨y3,hy3,h⟩:=zAc h;refine⟨_,⟨_,_,hy3,rfl,rfl⟩,?_⟩
 show Tri ..;refine zAg ?_;have hy:=Option.some.inj h;subst hy;unfold zAu;exact⟨_,Le.refl _ _,rfl,rfl⟩
def zKW (n:Nat) (xs:List AV) (r:Ret):Prop:=∃ (a0:zRc) (y0:zRc),zCr n a0=some y0/\xs=[.agg ((zAe a0).map .s)]/\r = .val (.agg ((zAe y0).map .s))
def zHn:zAv:=zAx fun xs r=>∃ n,zKW n xs r
theorem zKb:PSound Try.prog 35 zHn:=by
 have gok:∀ f s,look? f [(52,zKq),(53,zHm)]=some s->PSound Try.prog f s:=zAs (by
  simp only[List.forall_mem_cons]
  exact⟨zM0,zKa,by simp⟩)
 refine zAz tokW Try.call35 Try.func35 rfl (fun xs r h=>by obtain⟨n,_,_,_,rfl,_⟩:=h; show 1<=13; decide) 13 rfl ?_;rintro xs r w0 G0 ⟨n,⟨r1Aj,⟨r1Ak,r1Al⟩,⟨r1Am,r1An⟩⟩,y0,h,rfl,rfl⟩ _;rw[zCr]at h;refine zQE [2] [] rfl ?_;show Tri ..;refine zAa ?_;refine zBe [] [] [10] rfl (by decide +kernel) ?_;obtain⟨y2,hy2,h⟩:=zAc h;refine⟨_,⟨_,_,_,hy2,rfl,rfl⟩,?_⟩
 obtain⟨⟨y3Aq,y3Ap⟩,hy3,h⟩:=zAc h;refine⟨_,⟨_,_,hy3,rfl,rfl⟩,?_⟩
 obtain⟨⟨y4Aq,y4Ap⟩,hy4,h⟩:=zAc h;refine⟨_,⟨_,_,hy4,rfl,rfl⟩,?_⟩
 show Tri ..;refine zAg ?_;have hy:=Option.some.inj h;subst hy;unfold zAu;exact⟨_,Le.refl _ _,rfl,rfl⟩
def zHc (n:Nat) (xs:List AV) (os:List Ob) (x:AV) (os':List (Option Ob)):Prop:=∃ (a0:List zRc) (y0:List zRc),zB7 n a0=some y0/\xs=[.orow 0]/\os=[.row 85 5 ((List.map zAe) a0)]/\x = .orow 1/\os'=[some (.row 85 5 ((List.map zAe) a0)),some (.row 85 5 ((List.map zAe) y0))]
def zEv:zAv:=zCm (fun xs os x os'=>∃ n,zHc n xs os x os')
theorem zG1:PSound Try.prog 22 zEv:=by
 have gok:∀ f s,look? f [(35,zHn)]=some s->PSound Try.prog f s:=zAs (by
  simp only[List.forall_mem_cons]
  exact⟨zKb,by simp⟩)
 refine PSound.withNil (zF5 tokW Try.call22 Try.func22 rfl (fun xs os x os' h=>by obtain⟨n,_,_,_,rfl,rfl,_,rfl⟩:=h; exact⟨by show 1<=19; decide,by show 1<=2; decide⟩) 19 rfl ?_) _;rintro xs os x os' w0 G0 B0 ⟨n,o1,y0,h,rfl,rfl,rfl,rfl⟩ _;rw[zB7]at h;refine zQE [2] [] rfl ?_;show Tri ..;refine zAk (Le.rnm [(0,0)] [(0,.orow 0)] [(0,.row 85 5 ((List.map zAe) o1))] 1 ⟨rfl,trivial⟩ ⟨rfl,⟨_,rfl,rfl⟩,trivial⟩) ?_;refine zQE [3] [] rfl ?_;show Tri ..
 refine zAk (Le.rnm [(0,0),(1,1)] [(0,.orow 0),(3,.orow 1)] [(0,.row 85 5 ((List.map zAe) o1)),(1,.row 85 5 ((List.map zAe) []))] 2 ⟨rfl,rfl,trivial⟩ ⟨rfl,⟨_,rfl,rfl⟩,rfl,⟨_,rfl,congrArg (Ob.row 85 5) (by simp[List.map_append,List.map_take,List.map_drop,irow,brow,zAA,List.map_cons,List.map_nil,zAy,Nd.encs_eq,Nd.enc,CV.encs_eq,CV.enc,zAn,zAj,zAm,zAi,zAq,zAr,zAe,zAl])⟩,trivial⟩) ?_;refine zAa ?_;refine zQE [] [7] rfl ?_;intro n2 hn2
 obtain rfl:(o1.length:Int)=n2:=(hn2.trans (congrArg (fun m:Nat=>(m:Int)) (rlen (fun _=>rfl) o1))).symm;show Tri ..;obtain⟨l6,hl,h⟩:=zAc h;refine zAt ⟨ofL [(3,.orow 1)],ofH [(0,.row 85 5 ((List.map zAe) o1)),(1,.row 85 5 ((List.map zAe) l6))],2⟩ ?_ (fun σ' hle=>?_)
 ·refine zAp (zAE (X:=Nat×Int×(List zRc)) (fun y=>match y with | (k,x4,l5)=>⟨ofL [(3,.orow 1),(6,.orow 0),(7,.s (.int .i64 (o1.length:Int))),(8,.s (.int .i64 x4))],ofH [(0,.row 85 5 ((List.map zAe) o1)),(1,.row 85 5 ((List.map zAe) l5))],2⟩) (fun y=>zAO n o1 y.1 y.2.1 y.2.2=some l6) (fun y=>y.1) (n,0,[]) hl ?_ ?_)
  ·exact(Le.rnm [(0,0),(1,1)] _ _ _ ⟨rfl,rfl,rfl,rfl,trivial⟩ ⟨rfl,⟨_,rfl,rfl⟩,rfl,⟨_,rfl,rfl⟩,trivial⟩)
  ·rintro⟨k,x4,l5⟩ h;cases k with
   | zero=>cases h
   | succ k =>
    replace h:zAO n o1 (k+1) x4 l5=some l6:=h;rw[zAO]at h;refine zQE [] [] rfl ?_;show Tri ..;refine zAa ?_;refine zAo rfl h (fun hb h=>?_) (fun hb h=>?_)
    ·refine zAh ?_;show Tri ..;refine zAa ?_;refine zAp ?_;refine zQE [5] [] rfl ?_;obtain⟨⟨e7Aj,⟨e7Ak,e7Al⟩,⟨e7Am,e7An⟩⟩,he7,h⟩:=zAc h;refine And.intro (zAK (fun _=>rfl) he7).1 ?_;refine And.intro (zAK (fun _=>rfl) he7).2.2 ?_;refine⟨_,(zAK (fun _=>rfl) he7).2.1,?_⟩
     show Tri ..;refine zAk (Le.giveBox 2 [.sl 8 ((List.map zAq) e7Aj),.sl 1 ((List.map (irow .i64)) e7Ak),.sl 1 ((List.map (irow .i64)) e7Al),.sl 1 ((List.map (irow .i64)) e7Am),.sl 1 ((List.map (irow .i64)) e7An)] rfl rfl) ?_;refine zAb [16] [15] rfl ?_;obtain⟨⟨y8Aj,⟨y8Ak,y8Al⟩,⟨y8Am,y8An⟩⟩,hy8,h⟩:=zAc h;refine⟨_,⟨_,_,_,hy8,rfl,rfl⟩,?_⟩
     intro r9 hr9;obtain rfl:(List.map zAe) [(y8Aj,(y8Ak,y8Al),(y8Am,y8An))]=r9:=(hr9.trans (by simp[List.map_append,List.map_take,List.map_drop,irow,brow,zAA,List.map_cons,List.map_nil,zAy,Nd.encs_eq,Nd.enc,CV.encs_eq,CV.enc,zAn,zAj,zAm,zAi,zAq,zAr,zAe,zAl])).symm;obtain⟨hq,h⟩:=zAI h
     refine And.intro (show(((List.map zAe) l5).length+((List.map zAe) [(y8Aj,(y8Ak,y8Al),(y8Am,y8An))]).length) * 120<=140737488355328/\((List.map zAe) l5).length+((List.map zAe) [(y8Aj,(y8Ak,y8Al),(y8Am,y8An))]).length<=9223372036854775807 from by simp only[List.length_append,List.length_cons,List.length_nil,List.length_map,rlen (fun _=>rfl)]at hq ⊢; omega) ?_;show Tri ..
     refine zAk (Le.rnm [(0,0),(3,1)] [(3,.orow 1),(6,.orow 0),(7,.s (.int .i64 (o1.length:Int))),(8,.s (.int .i64 x4))] [(0,.row 85 5 ((List.map zAe) o1)),(1,.row 85 5 ((List.map zAe) (l5++[(y8Aj,(y8Ak,y8Al),(y8Am,y8An))])))] 2 ⟨rfl,rfl,rfl,rfl,trivial⟩ ⟨rfl,⟨_,rfl,rfl⟩,rfl,⟨_,rfl,congrArg (Ob.row 85 5) (by simp[List.map_append,List.map_take,List.map_drop,irow,brow,zAA,List.map_cons,List.map_nil,zAy,Nd.encs_eq,Nd.enc,CV.encs_eq,CV.enc,zAn,zAj,zAm,zAi,zAq,zAr,zAe,zAl])⟩,trivial⟩) ?_
     refine zAb [] [] rfl ?_;refine⟨(k,IntKind.i64.wrap (x4+1),l5++[(y8Aj,(y8Ak,y8Al),(y8Am,y8An))]),h,(Le.rnm [(0,0),(1,1)] _ _ _ ⟨rfl,rfl,rfl,rfl,trivial⟩ ⟨rfl,⟨_,rfl,rfl⟩,rfl,⟨_,rfl,rfl⟩,trivial⟩),Nat.lt_succ_self k⟩
    ·refine zAJ ?_;cases h;exact(Le.rnm [(0,0),(1,1)] _ _ _ ⟨rfl,trivial⟩ ⟨rfl,⟨_,rfl,rfl⟩,rfl,⟨_,rfl,rfl⟩,trivial⟩)
 ·show Tri ..;refine zAk hle ?_;refine zQE [] [] rfl ?_;show Tri ..;refine zAg ?_;have hy:=Option.some.inj h;subst hy;unfold zB5;exact⟨_,(Le.rnm [(0,0),(1,1)] [(2,.orow 1)] [(0,.row 85 5 ((List.map zAe) o1)),(1,.row 85 5 ((List.map zAe) l6))] 2 ⟨rfl,trivial⟩ ⟨rfl,⟨_,rfl,rfl⟩,rfl,⟨_,rfl,rfl⟩,trivial⟩),rfl,rfl,rfl,rfl,rfl,rfl,trivial⟩
def zEJ (n:Nat) (xs:List AV) (os:List Ob) (x:AV) (os':List (Option Ob)):Prop:=∃ (a0I:Int) (a0J:List UInt8) (a0K:Int) (a0L:List Nd) (a0P:Int) (a0Q:List UInt8) (a0R:Int) (a0S:List Nd) (a0G:List zRc) (a0H:Int) (y0:List zRc) (z0I:Int) (z0J:List UInt8) (z0K:Int) (z0L:List Nd) (z0P:Int) (z0Q:List UInt8) (z0R:Int) (z0S:List Nd) (z0G:List zRc) (z0H:Int),zAU n (Nd.mk a0I a0J a0K a0L,Nd.mk a0P a0Q a0R a0S,a0G,a0H)=some (y0,(Nd.mk z0I z0J z0K z0L,Nd.mk z0P z0Q z0R z0S,z0G,z0H))/\xs=[.op 0 0]/\os=[.box 50 [.s (.int .i64 a0I),.s (.str a0J),.s (.int .i64 a0K),.s (.sl 4 (Nd.encs a0L)),.s (.int .i64 a0P),.s (.str a0Q),.s (.int .i64 a0R),.s (.sl 4 (Nd.encs a0S)),.orow 1,.s (.int .i64 a0H)],.row 85 5 ((List.map zAe) a0G)]/\x = .s (.sl 5 ((List.map zAe) y0))/\os'=[some (.box 50 [.s (.int .i64 z0I),.s (.str z0J),.s (.int .i64 z0K),.s (.sl 4 (Nd.encs z0L)),.s (.int .i64 z0P),.s (.str z0Q),.s (.int .i64 z0R),.s (.sl 4 (Nd.encs z0S)),.orow 2,.s (.int .i64 z0H)]),none,some (.row 85 5 ((List.map zAe) z0G))]
def zCJ:zAv:=zCm (fun xs os x os'=>∃ n,zEJ n xs os x os')
theorem zEu:PSound Try.prog 13 zCJ:=by
 have gok:∀ f s,look? f [(22,zEv)]=some s->PSound Try.prog f s:=zAs (by
  simp only[List.forall_mem_cons]
  exact⟨zG1,by simp⟩)
 refine PSound.withNil (zF5 tokW Try.call13 Try.func13 rfl (fun xs os x os' h=>by obtain⟨n,_,_,_,_,_,_,_,_,_,_,_,_,_,_,_,_,_,_,_,_,_,_,rfl,rfl,_,rfl⟩:=h; exact⟨by show 1<=10; decide,by show 2<=3; decide⟩) 10 rfl ?_) _;rintro xs os x os' w0 G0 B0 ⟨n,o1I,o1J,o1K,o1L,o1P,o1Q,o1R,o1S,o1G,o1H,y0,z0I,z0J,z0K,z0L,z0P,z0Q,z0R,z0S,z0G,z0H,h,rfl,rfl,rfl,rfl⟩ _;rw[zAU]at h;refine zQE [] [] rfl ?_;show Tri ..
 refine zAa ?_;refine zQE [] [] rfl ?_;show Tri ..;refine zAB rfl (fun h=>by cases h) (fun _=>?_)
 refine zAh ?_;show Tri ..;refine zQE [] [] rfl ?_;obtain⟨y2,hy2,h⟩:=zAc h;refine⟨_,_,⟨_,_,_,hy2,rfl,rfl,rfl,rfl⟩,?_⟩
 show Tri ..;refine zAg ?_;have hj0:=Option.some.inj h;obtain⟨hv0,hw0⟩:=Prod.mk.inj hj0;subst hv0;obtain⟨he1Ab,hr1Ab⟩:=Prod.mk.inj hw0;obtain⟨he1Ac,hr1Ac⟩:=Prod.mk.inj hr1Ab;obtain⟨he1Ah,he1Ai⟩:=Prod.mk.inj hr1Ac;obtain⟨he2Ab,he2Ac,he2Ah,he2Ai⟩:=Nd.mk.inj he1Ab;subst he2Ab;subst he2Ac;subst he2Ah;subst he2Ai;obtain⟨he3Ab,he3Ac,he3Ah,he3Ai⟩:=Nd.mk.inj he1Ac;subst he3Ab;subst he3Ac;subst he3Ah;subst he3Ai;subst he1Ah;subst he1Ai;unfold zB5
 exact⟨_,(Le.trans (Le.rnm [(0,0),(1,2),(2,3)] [(2,.orow 3)] [(0,.box 50 [.s (.int .i64 o1I),.s (.str o1J),.s (.int .i64 o1K),.s (.sl 4 (Nd.encs o1L)),.s (.int .i64 o1P),.s (.str o1Q),.s (.int .i64 o1R),.s (.sl 4 (Nd.encs o1S)),.orow 2,.s (.int .i64 o1H)]),(2,.row 85 5 ((List.map zAe) o1G)),(3,.row 85 5 ((List.map zAe) y2))] 4 ⟨rfl,trivial⟩ ⟨rfl,⟨_,rfl,rfl⟩,rfl,⟨_,rfl,rfl⟩,rfl,⟨_,rfl,rfl⟩,trivial⟩) (Le.giveRow 3 rfl)),rfl,rfl,rfl,rfl,rfl,rfl,trivial⟩
def zFx (xs:List AV) (os:List Ob) (x:AV) (os':List (Option Ob)):Prop:=∃ (a0I:Int) (a0J:List UInt8) (a0K:Int) (a0L:List Nd) (a0P:Int) (a0Q:List UInt8) (a0R:Int) (a0S:List Nd) (a0G:List zRc) (a0H:Int) (y0:Int) (z0I:Int) (z0J:List UInt8) (z0K:Int) (z0L:List Nd) (z0P:Int) (z0Q:List UInt8) (z0R:Int) (z0S:List Nd) (z0G:List zRc) (z0H:Int),zBn (Nd.mk a0I a0J a0K a0L,Nd.mk a0P a0Q a0R a0S,a0G,a0H)=some (y0,(Nd.mk z0I z0J z0K z0L,Nd.mk z0P z0Q z0R z0S,z0G,z0H))/\xs=[.op 0 0]/\os=[.box 50 [.s (.int .i64 a0I),.s (.str a0J),.s (.int .i64 a0K),.s (.sl 4 (Nd.encs a0L)),.s (.int .i64 a0P),.s (.str a0Q),.s (.int .i64 a0R),.s (.sl 4 (Nd.encs a0S)),.orow 1,.s (.int .i64 a0H)],.row 85 5 ((List.map zAe) a0G)]/\x = .s (.int .i64 y0)/\os'=[some (.box 50 [.s (.int .i64 z0I),.s (.str z0J),.s (.int .i64 z0K),.s (.sl 4 (Nd.encs z0L)),.s (.int .i64 z0P),.s (.str z0Q),.s (.int .i64 z0R),.s (.sl 4 (Nd.encs z0S)),.orow 2,.s (.int .i64 z0H)]),none,some (.row 85 5 ((List.map zAe) z0G))]
def zDj:zAv:=zCm (fun xs os x os'=>zFx xs os x os')
theorem zFn:PSound Try.prog 14 zDj:=by
 have gok:=@gok0 Try.prog;refine PSound.withNil (zF5 tokW Try.call14 Try.func14 rfl (fun xs os x os' h=>by obtain⟨_,_,_,_,_,_,_,_,_,_,_,_,_,_,_,_,_,_,_,_,_,_,rfl,rfl,_,rfl⟩:=h; exact⟨by show 1<=9; decide,by show 2<=3; decide⟩) 9 rfl ?_) _;rintro xs os x os' w0 G0 B0 ⟨o1I,o1J,o1K,o1L,o1P,o1Q,o1R,o1S,o1G,o1H,y0,z0I,z0J,z0K,z0L,z0P,z0Q,z0R,z0S,z0G,z0H,h,rfl,rfl,rfl,rfl⟩ _;rw[zBn]at h;refine zQE [] [] rfl ?_
 show Tri ..;refine zAa ?_;refine zQE [] [] rfl ?_;show Tri ..;refine zAB rfl (fun h=>by cases h) (fun _=>?_)
 refine zAh ?_;show Tri ..;refine zQE [] [] rfl ?_;show Tri ..;refine zAg ?_;have hj0:=Option.some.inj h;obtain⟨hv0,hw0⟩:=Prod.mk.inj hj0;subst hv0;obtain⟨he1Ab,hr1Ab⟩:=Prod.mk.inj hw0;obtain⟨he1Ac,hr1Ac⟩:=Prod.mk.inj hr1Ab;obtain⟨he1Ah,he1Ai⟩:=Prod.mk.inj hr1Ac;obtain⟨he2Ab,he2Ac,he2Ah,he2Ai⟩:=Nd.mk.inj he1Ab;subst he2Ab;subst he2Ac;subst he2Ah;subst he2Ai;obtain⟨he3Ab,he3Ac,he3Ah,he3Ai⟩:=Nd.mk.inj he1Ac;subst he3Ab;subst he3Ac;subst he3Ah;subst he3Ai;subst he1Ah;subst he1Ai;unfold zB5
 exact⟨_,(Le.rnm [(0,0),(1,2)] [(2,.s (.int .i64 o1H))] [(0,.box 50 [.s (.int .i64 o1I),.s (.str o1J),.s (.int .i64 o1K),.s (.sl 4 (Nd.encs o1L)),.s (.int .i64 o1P),.s (.str o1Q),.s (.int .i64 o1R),.s (.sl 4 (Nd.encs o1S)),.orow 2,.s (.int .i64 o1H)]),(2,.row 85 5 ((List.map zAe) o1G))] 3 ⟨rfl,trivial⟩ ⟨rfl,⟨_,rfl,rfl⟩,rfl,⟨_,rfl,rfl⟩,trivial⟩),rfl,rfl,rfl,rfl,rfl,rfl,trivial⟩
def zOc (n:Nat) (xs:List AV) (os:List Ob) (x:AV) (os':List (Option Ob)):Prop:=∃ (a0I:Int) (a0J:List UInt8) (a0K:Int) (a0L:List Nd) (a0P:Int) (a0Q:List UInt8) (a0R:Int) (a0S:List Nd) (a0G:List zRc) (a0H:Int) (a1:List UInt8) (y0:(List UInt8×Nd×List zRc×Int)) (y1:Int) (z0I:Int) (z0J:List UInt8) (z0K:Int) (z0L:List Nd) (z0P:Int) (z0Q:List UInt8) (z0R:Int) (z0S:List Nd) (z0G:List zRc) (z0H:Int),zFT n (Nd.mk a0I a0J a0K a0L,Nd.mk a0P a0Q a0R a0S,a0G,a0H) a1=some (y0,y1,(Nd.mk z0I z0J z0K z0L,Nd.mk z0P z0Q z0R z0S,z0G,z0H))/\xs=[.op 0 0,.s (.str a1)]/\os=[.box 50 [.s (.int .i64 a0I),.s (.str a0J),.s (.int .i64 a0K),.s (.sl 4 (Nd.encs a0L)),.s (.int .i64 a0P),.s (.str a0Q),.s (.int .i64 a0R),.s (.sl 4 (Nd.encs a0S)),.orow 1,.s (.int .i64 a0H)],.row 85 5 ((List.map zAe) a0G)]/\x = .tup [.agg ((zAl y0).map .s),.s (.int .i64 y1)]/\os'=[some (.box 50 [.s (.int .i64 z0I),.s (.str z0J),.s (.int .i64 z0K),.s (.sl 4 (Nd.encs z0L)),.s (.int .i64 z0P),.s (.str z0Q),.s (.int .i64 z0R),.s (.sl 4 (Nd.encs z0S)),.orow 2,.s (.int .i64 z0H)]),none,some (.row 85 5 ((List.map zAe) z0G))]
def zLR:zAv:=zCm (fun xs os x os'=>∃ n,zOc n xs os x os')
theorem zNX:PSound Try.prog 6 zLR:=by
 have gok:∀ f s,look? f [(12,zC0),(13,zCJ),(14,zDj),(15,zFG)]=some s->PSound Try.prog f s:=zAs (by
  simp only[List.forall_mem_cons]
  exact⟨zEW,zEu,zFn,zHH,by simp⟩)
 refine PSound.withNil (zF5 tokW Try.call6 Try.func6 rfl (fun xs os x os' h=>by obtain⟨n,_,_,_,_,_,_,_,_,_,_,_,_,_,_,_,_,_,_,_,_,_,_,_,_,rfl,rfl,_,rfl⟩:=h; exact⟨by show 2<=23; decide,by show 2<=3; decide⟩) 23 rfl ?_) _;rintro xs os x os' w0 G0 B0 ⟨n,o1I,o1J,o1K,o1L,o1P,o1Q,o1R,o1S,o1G,o1H,title2,y0,y1,z0I,z0J,z0K,z0L,z0P,z0Q,z0R,z0S,z0G,z0H,h,rfl,rfl,rfl,rfl⟩ _;rw[zFT]at h;refine zQE [4] [] rfl ?_;show Tri ..
 refine zAa ?_;refine zQE [] [] rfl ?_;show Tri ..;refine zAB rfl (fun h=>by cases h) (fun _=>?_)
 refine zAh ?_;show Tri ..;refine zQE [6] [] rfl ?_;obtain⟨⟨⟨y3A,y3B,y3D,y3C⟩,⟨⟨w4I,w4J,w4K,w4L⟩,⟨w4P,w4Q,w4R,w4S⟩,w4G,w4H⟩⟩,hy3,h⟩:=zAc h;refine⟨_,_,⟨_,_,_,_,_,_,_,_,_,_,_,_,_,_,_,_,_,_,_,_,_,hy3,rfl,rfl,rfl,rfl⟩,?_⟩
 obtain⟨⟨y5,⟨⟨w6I,w6J,w6K,w6L⟩,⟨w6P,w6Q,w6R,w6S⟩,w6G,w6H⟩⟩,hy5,h⟩:=zAc h;refine⟨_,_,⟨_,_,_,_,_,_,_,_,_,_,_,_,_,_,_,_,_,_,_,_,_,_,hy5,rfl,rfl,rfl,rfl⟩,?_⟩
 obtain⟨⟨y7,⟨⟨w8I,w8J,w8K,w8L⟩,⟨w8P,w8Q,w8R,w8S⟩,w8G,w8H⟩⟩,hy7,h⟩:=zAc h;refine⟨_,_,⟨_,_,_,_,_,_,_,_,_,_,_,_,_,_,_,_,_,_,_,_,_,hy7,rfl,rfl,rfl,rfl⟩,?_⟩
 show Tri ..;refine zAk (Le.giveBox 6 [.str title2,.int .i64 y3A,.str y3B,.int .i64 y3D,.sl 4 (Nd.encs y3C),.sl 5 ((List.map zAe) y5),.int .i64 y7] rfl rfl) ?_;refine zAa ?_;refine zQE [] [] rfl ?_;obtain⟨y9,hy9,h⟩:=zAc h;refine⟨_,⟨_,_,_,hy9,rfl,rfl⟩,?_⟩
 show Tri ..;refine zAo rfl h (fun hb h=>?_) (fun hb h=>?_)
 ·refine zQE [] [] rfl ?_;show Tri ..;refine zAg ?_;have hj0:=Option.some.inj h;obtain⟨hv0,hw0⟩:=Prod.mk.inj hj0;subst hv0;obtain⟨hv1,hw1⟩:=Prod.mk.inj hw0;subst hv1;obtain⟨he1Ab,hr1Ab⟩:=Prod.mk.inj hw1;obtain⟨he1Ac,hr1Ac⟩:=Prod.mk.inj hr1Ab;obtain⟨he1Ah,he1Ai⟩:=Prod.mk.inj hr1Ac;obtain⟨he2Ab,he2Ac,he2Ah,he2Ai⟩:=Nd.mk.inj he1Ab;subst he2Ab;subst he2Ac;subst he2Ah;subst he2Ai;obtain⟨he3Ab,he3Ac,he3Ah,he3Ai⟩:=Nd.mk.inj he1Ac;subst he3Ab;subst he3Ac;subst he3Ah;subst he3Ai;subst he1Ah;subst he1Ai;unfold zB5
  exact⟨_,(Le.rnm [(0,0),(5,2),(2,3)] [(4,.op 3 0),(5,.s (.int .i64 1))] [(0,.box 50 [.s (.int .i64 w8I),.s (.str w8J),.s (.int .i64 w8K),.s (.sl 4 (Nd.encs w8L)),.s (.int .i64 w8P),.s (.str w8Q),.s (.int .i64 w8R),.s (.sl 4 (Nd.encs w8S)),.orow 2,.s (.int .i64 w8H)]),(2,.row 85 5 ((List.map zAe) w8G)),(3,.box 30 [.s (.str []),.s (.int .i64 0),.s (.str []),.s (.int .i64 0),.nl 4,.nl 5,.s (.int .i64 0)])] 4 ⟨rfl,rfl,trivial⟩ ⟨rfl,⟨_,rfl,rfl⟩,rfl,⟨_,rfl,rfl⟩,rfl,⟨_,rfl,rfl⟩,trivial⟩),rfl,rfl,rfl,rfl,rfl,rfl,trivial⟩
 ·refine zAh ?_;show Tri ..;refine zQE [] [] rfl ?_;show Tri ..;refine zAg ?_;have hj0:=Option.some.inj h;obtain⟨hv0,hw0⟩:=Prod.mk.inj hj0;subst hv0;obtain⟨hv1,hw1⟩:=Prod.mk.inj hw0;subst hv1;obtain⟨he1Ab,hr1Ab⟩:=Prod.mk.inj hw1;obtain⟨he1Ac,hr1Ac⟩:=Prod.mk.inj hr1Ab;obtain⟨he1Ah,he1Ai⟩:=Prod.mk.inj hr1Ac;obtain⟨he2Ab,he2Ac,he2Ah,he2Ai⟩:=Nd.mk.inj he1Ab;subst he2Ab;subst he2Ac;subst he2Ah;subst he2Ai;obtain⟨he3Ab,he3Ac,he3Ah,he3Ai⟩:=Nd.mk.inj he1Ac;subst he3Ab;subst he3Ac;subst he3Ah;subst he3Ai;subst he1Ah;subst he1Ai;unfold zB5
  exact⟨_,(Le.rnm [(0,0),(5,2),(2,3)] [(4,.op 3 0),(5,.s (.int .i64 0))] [(0,.box 50 [.s (.int .i64 w8I),.s (.str w8J),.s (.int .i64 w8K),.s (.sl 4 (Nd.encs w8L)),.s (.int .i64 w8P),.s (.str w8Q),.s (.int .i64 w8R),.s (.sl 4 (Nd.encs w8S)),.orow 2,.s (.int .i64 w8H)]),(2,.row 85 5 ((List.map zAe) w8G)),(3,.box 30 [.s (.str title2),.s (.int .i64 y3A),.s (.str y3B),.s (.int .i64 y3D),.s (.sl 4 (Nd.encs y3C)),.s (.sl 5 ((List.map zAe) y5)),.s (.int .i64 y7)])] 4 ⟨rfl,rfl,trivial⟩ ⟨rfl,⟨_,rfl,rfl⟩,rfl,⟨_,rfl,rfl⟩,rfl,⟨_,rfl,rfl⟩,trivial⟩),rfl,rfl,rfl,rfl,rfl,rfl,trivial⟩
def zK1 (n:Nat) (xs:List AV) (os:List Ob) (x:AV) (os':List (Option Ob)):Prop:=∃ (a0:Nd) (y0:Option (Nd×Nd×List zRc×Int)) (y1:Int),zDf n a0=some (y0,y1)/\xs=[.agg ((Nd.enc a0).map .s)]/\os=[]/\x = .tup [(match y0 with | none=>.s .np | some _=>.op 0 0),.s (.int .i64 y1)]/\os'=(match y0 with | none=>[] | some ⟨⟨o_origin_kind,o_origin_text,o_origin_cols,o_origin_kids⟩,⟨o_tree_kind,o_tree_text,o_tree_cols,o_tree_kids⟩,o_records,o_done⟩=>[some (.box 50 [.s (.int .i64 o_origin_kind),.s (.str o_origin_text),.s (.int .i64 o_origin_cols),.s (.sl 4 (Nd.encs o_origin_kids)),.s (.int .i64 o_tree_kind),.s (.str o_tree_text),.s (.int .i64 o_tree_cols),.s (.sl 4 (Nd.encs o_tree_kids)),.orow 1,.s (.int .i64 o_done)]),some (.row 85 5 ((List.map zAe) o_records))])
def zHr:zAv:=zCm (fun xs os x os'=>∃ n,zK1 n xs os x os')
theorem zKf:PSound Try.prog 7 zHr:=by
 have gok:∀ f s,look? f [(16,zBt),(17,zCb)]=some s->PSound Try.prog f s:=zAs (by
  simp only[List.forall_mem_cons]
  exact⟨zBC,zCl,by simp⟩)
 refine PSound.withNil (zF5 tokW Try.call7 Try.func7 rfl (fun xs os x os' h=>by obtain⟨n,_,_,_,_,rfl,rfl,_,rfl⟩:=h; exact⟨by show 1<=13; decide,Nat.zero_le _⟩) 13 rfl ?_) _;rintro xs os x os' w0 G0 B0 ⟨n,⟨n1A,n1B,n1D,n1C⟩,y0,y1,h,rfl,rfl,rfl,rfl⟩ _;rw[zDf]at h;refine zQE [] [] rfl ?_;show Tri ..;refine zAa ?_;refine zQE [] [] rfl ?_;obtain⟨y2,hy2,h⟩:=zAc h;refine⟨_,⟨_,_,_,hy2,rfl,rfl⟩,?_⟩
 show Tri ..;refine zAo rfl h (fun hb h=>?_) (fun hb h=>?_)
 ·refine zQE [] [] rfl ?_;show Tri ..;refine zAg ?_;obtain⟨hj1,hk1⟩:=pij h;subst hj1 hk1;unfold zB5;exact⟨_,(Le.rnm [] [(2,.s (.np)),(3,.s (.int .i64 1))] [] 0 ⟨rfl,rfl,trivial⟩ trivial),rfl,rfl,trivial⟩
 ·refine zAh ?_;show Tri ..;refine zAa ?_;refine zNy [12] [] [5] [] rfl (by decide +kernel) ?_;obtain⟨⟨y3A,y3B,y3D,y3C⟩,hy3,h⟩:=zAc h;refine⟨_,⟨_,_,hy3,rfl,rfl⟩,?_⟩
  obtain⟨⟨y4A,y4B,y4D,y4C⟩,hy4,h⟩:=zAc h;refine⟨_,⟨_,_,hy4,rfl,rfl⟩,?_⟩
  show Tri ..;refine zAk (Le.trans (Le.rnm [(0,0)] [(2,.op 0 0),(3,.s (.int .i64 0))] [(0,.box 50 [.s (.int .i64 y3A),.s (.str y3B),.s (.int .i64 y3D),.s (.sl 4 (Nd.encs y3C)),.s (.int .i64 y4A),.s (.str y4B),.s (.int .i64 y4D),.s (.sl 4 (Nd.encs y4C)),.nl 5,.s (.int .i64 0)])] 1 ⟨rfl,rfl,trivial⟩ ⟨rfl,⟨_,rfl,rfl⟩,trivial⟩) (Le.takeNil 0 8 85 rfl rfl (by decide))) ?_;refine zAg ?_;obtain⟨hj1,hk1⟩:=pij h;subst hj1 hk1;unfold zB5
  exact⟨_,(Le.rnm [(0,0),(1,1)] [(2,.op 0 0),(3,.s (.int .i64 0))] [(0,.box 50 [.s (.int .i64 y3A),.s (.str y3B),.s (.int .i64 y3D),.s (.sl 4 (Nd.encs y3C)),.s (.int .i64 y4A),.s (.str y4B),.s (.int .i64 y4D),.s (.sl 4 (Nd.encs y4C)),.orow 1,.s (.int .i64 0)]),(1,.row 85 5 ((List.map zAe) []))] 2 ⟨rfl,rfl,trivial⟩ ⟨rfl,⟨_,rfl,rfl⟩,rfl,⟨_,rfl,rfl⟩,trivial⟩),rfl,rfl,rfl,rfl,rfl,rfl,trivial⟩
def zIW (n:Nat) (xs:List AV) (r:Ret):Prop:=∃ (a0:List UInt8) (y0:Bool),zCj n a0=some y0/\xs=[.s (.str a0)]/\r = .val (.s (.bool y0))
def zFI:zAv:=zAx fun xs r=>∃ n,zIW n xs r
theorem zID:PSound Try.prog 8 zFI:=by
 have gok:=@gok0 Try.prog;refine zAz tokW Try.call8 Try.func8 rfl (fun xs r h=>by obtain⟨n,_,_,_,rfl,_⟩:=h; show 1<=20; decide) 20 rfl ?_;rintro xs r w0 G0 ⟨n,s1,y0,h,rfl,rfl⟩ _;rw[zCj]at h;refine zQE [] [] rfl ?_;show Tri ..;refine zAa ?_;refine zQE [] [] rfl ?_;show Tri ..;obtain⟨fl,hl,ho1⟩:=zAc h;refine zDk (fl:=fl) (fun z=>match z with | _=>⟨ofL [],fun _=>none,0⟩) ?_ (fun z σ' hz hle=>?_)
 ·refine zAp (zAE (X:=Nat×Int) (fun y=>match y with | (k,i2)=>⟨ofL [(0,.s (.str s1)),(3,.s (.int .i64 i2))],fun _=>none,0⟩) (fun y=>zAT s1 y.1 y.2=some fl) (fun y=>y.1) (n,0) hl ?_ ?_)
  ·exact(Le.forget _ ⟨rfl,rfl,trivial⟩)
  ·rintro⟨k,i2⟩ h;cases k with
   | zero=>cases h
   | succ k =>
    replace h:zAT s1 (k+1) i2=some fl:=h;rw[zAT]at h;refine zAa ?_;refine zQE [] [] rfl ?_;show Tri ..;refine zAo rfl h (fun hb h=>?_) (fun hb h=>?_)
    ·refine zAh ?_;show Tri ..;refine zAa ?_;refine zAp ?_;refine zAa ?_;obtain⟨x3,hj,h⟩:=zAc h;refine zAt ⟨ofL [(0,.s (.str s1)),(3,.s (.int .i64 i2)),(19,.s (.bool x3))],fun _=>none,0⟩ ?_ (fun σ' hle=>?_)
     ·replace h:=hj;refine zAb [] [12,14,17] rfl ?_;obtain⟨c4,hc4,h⟩:=zAc h;refine And.intro (zCB hc4).1 ?_;intro v5 hv5;obtain rfl:(c4.toNat:Int)=v5:=(hv5.trans (zCB hc4).2).symm;intro b hb;cases b with
      | true =>
       replace h:=zAD hb.symm h;cases h;exact(Le.forget _ ⟨rfl,rfl,rfl,trivial⟩)
      | false =>
       replace h:=zAC hb.symm h;obtain⟨c6,hc6,h⟩:=zAc h;refine And.intro (zCB hc6).1 ?_;intro v7 hv7;obtain rfl:(c6.toNat:Int)=v7:=(hv7.trans (zCB hc6).2).symm;cases h;exact(Le.forget _ ⟨rfl,rfl,rfl,trivial⟩)
     ·show Tri ..;refine zAk hle ?_;refine zAo rfl h (fun hb h=>?_) (fun hb h=>?_)
      ·refine zQE [] [] rfl ?_;show Tri ..;refine zAg ?_;cases h;replace h:some _=some _:=ho1;have hy:=Option.some.inj h;subst hy;unfold zAu;exact⟨_,Le.refl _ _,rfl,rfl⟩
      ·refine zAh ?_;show Tri ..;refine zAb [] [] rfl ?_;refine⟨(k,IntKind.i64.wrap (i2+1)),h,(Le.forget _ ⟨rfl,rfl,trivial⟩),Nat.lt_succ_self k⟩
    ·refine zAJ ?_;cases h;exact⟨_,rfl,(Le.forget _ trivial)⟩
 ·subst hz;obtain _:=z;replace h:=ho1;show Tri ..;refine zAk hle ?_;refine zQE [] [] rfl ?_;show Tri ..;refine zAg ?_;have hy:=Option.some.inj h;subst hy;unfold zAu;exact⟨_,Le.refl _ _,rfl,rfl⟩
def zDl (n:Nat) (xs:List AV) (r:Ret):Prop:=∃ (a0:Nd) (a1:Nd) (y0:Bool),zBk n a0 a1=some y0/\xs=[.agg ((Nd.enc a0).map .s),.agg ((Nd.enc a1).map .s)]/\r = .val (.s (.bool y0))
def zCa (n:Nat) (xs:List AV) (r:Ret):Prop:=∃ (a0:List Nd) (a1:List Nd) (y0:Bool),zBK n a0 a1=some y0/\xs=[.s (.sl 4 (Nd.encs a0)),.s (.sl 4 (Nd.encs a1))]/\r = .val (.s (.bool y0))
theorem zKp (n:Nat) (ih_r09_Equal:PSound Try.prog 9 (zAx (zDl n))) (ih_r09_SameItems:PSound Try.prog 18 (zAx (zCa n))):PSound Try.prog 9 (zAx (zDl (n+1))):=by
 have gok:∀ f s,look? f [(18,zAx (zCa n))]=some s->PSound Try.prog f s:=zAs (by
  simp only[List.forall_mem_cons]
  exact⟨ih_r09_SameItems,by simp⟩)
 refine zAz tokW Try.call9 Try.func9 rfl (fun xs r h=>by obtain⟨_,_,_,_,rfl,_⟩:=h; show 2<=31; decide) 31 rfl ?_;rintro xs r w0 G0 ⟨⟨a1A,a1B,a1D,a1C⟩,⟨b2A,b2B,b2D,b2C⟩,y0,h,rfl,rfl⟩ _;rw[zBk]at h;refine zQE [] [] rfl ?_;show Tri ..;refine zAa ?_;obtain⟨x3,hj,h⟩:=zAc h;refine zAt ⟨ofL [(4,.s (.bool x3))],fun _=>none,0⟩ ?_ (fun σ' hle=>?_)
 ·replace h:=hj;refine zAb [] [10,17,24] rfl ?_;intro b hb;cases b with
  | true =>
   replace h:=zAD hb.symm h;intro b hb;cases b with
   | true =>
    replace h:=zAD hb.symm h;intro b hb;cases b with
    | true =>
     replace h:=zAD hb.symm h;obtain⟨y4,hy4,h⟩:=zAc h;refine⟨_,⟨_,_,_,hy4,rfl,rfl⟩,?_⟩
     cases h;exact(Le.forget _ ⟨rfl,trivial⟩)
    | false =>
     replace h:=zAC hb.symm h;cases h;exact(Le.forget _ ⟨rfl,trivial⟩)
   | false =>
    replace h:=zAC hb.symm h;intro b hb;subst hb;cases h;exact(Le.forget _ ⟨rfl,trivial⟩)
  | false =>
   replace h:=zAC hb.symm h;intro b hb;subst hb;intro b hb;subst hb;cases h;exact(Le.forget _ ⟨rfl,trivial⟩)
 ·show Tri ..;refine zAk hle ?_;refine zAg ?_;have hy:=Option.some.inj h;subst hy;unfold zAu;exact⟨_,Le.refl _ _,rfl,rfl⟩
theorem zHO (n:Nat) (ih_r09_Equal:PSound Try.prog 9 (zAx (zDl n))) (ih_r09_SameItems:PSound Try.prog 18 (zAx (zCa n))):PSound Try.prog 18 (zAx (zCa (n+1))):=by
 have gok:∀ f s,look? f [(9,zAx (zDl n))]=some s->PSound Try.prog f s:=zAs (by
  simp only[List.forall_mem_cons]
  exact⟨ih_r09_Equal,by simp⟩)
 refine zAz tokW Try.call18 Try.func18 rfl (fun xs r h=>by obtain⟨_,_,_,_,rfl,_⟩:=h; show 2<=27; decide) 27 rfl ?_;rintro xs r w0 G0 ⟨a1,b2,y0,h,rfl,rfl⟩ _;rw[zBK]at h;refine zQE [] [] rfl ?_;show Tri ..;refine zAa ?_;refine zQE [] [7,9] rfl ?_;intro n3 hn3;obtain rfl:(a1.length:Int)=n3:=(hn3.trans (congrArg (fun m:Nat=>(m:Int)) (rlen Nd.encs_eq a1))).symm;intro n4 hn4;obtain rfl:(b2.length:Int)=n4:=(hn4.trans (congrArg (fun m:Nat=>(m:Int)) (rlen Nd.encs_eq b2))).symm;show Tri ..;refine zAo rfl h (fun hb h=>?_) (fun hb h=>?_)
 ·refine zQE [] [] rfl ?_;show Tri ..;refine zAg ?_;have hy:=Option.some.inj h;subst hy;unfold zAu;exact⟨_,Le.refl _ _,rfl,rfl⟩
 ·refine zAh ?_;show Tri ..;refine zAa ?_;refine zQE [] [] rfl ?_;show Tri ..;obtain⟨fl,hl,ho1⟩:=zAc h;refine zDk (fl:=fl) (fun z=>match z with | _=>⟨ofL [],fun _=>none,0⟩) ?_ (fun z σ' hz hle=>?_)
  ·refine zAp (zAE (X:=Nat×Int) (fun y=>match y with | (k,i5)=>⟨ofL [(0,.s (.sl 4 (Nd.encs a1))),(1,.s (.sl 4 (Nd.encs b2))),(5,.s (.int .i64 i5))],fun _=>none,0⟩) (fun y=>zA4 (zBk n) a1 b2 y.1 y.2=some fl) (fun y=>y.1) (n,0) hl ?_ ?_)
   ·exact(Le.forget _ ⟨rfl,rfl,rfl,trivial⟩)
   ·rintro⟨k,i5⟩ h;cases k with
    | zero=>cases h
    | succ k =>
     replace h:zA4 (zBk n) a1 b2 (k+1) i5=some fl:=h;rw[zA4]at h;refine zAa ?_;refine zQE [] [13] rfl ?_;intro n6 hn6;obtain rfl:(a1.length:Int)=n6:=(hn6.trans (congrArg (fun m:Nat=>(m:Int)) (rlen Nd.encs_eq a1))).symm;show Tri ..;refine zAo rfl h (fun hb h=>?_) (fun hb h=>?_)
     ·refine zAh ?_;show Tri ..;refine zAa ?_;refine zAp ?_;refine zAa ?_;refine zBe [] [19,23] [] rfl (by decide +kernel) ?_;obtain⟨⟨e7A,e7B,e7D,e7C⟩,he7,h⟩:=zAc h;refine And.intro (zAK Nd.encs_eq he7).1 ?_;intro r8 hr8;obtain rfl:[.int .i64 e7A,.str e7B,.int .i64 e7D,.sl 4 (Nd.encs e7C)]=r8:=(hr8.trans (zAK Nd.encs_eq he7).2.1).symm;obtain⟨⟨e9A,e9B,e9D,e9C⟩,he9,h⟩:=zAc h;refine And.intro (zAK Nd.encs_eq he9).1 ?_;intro r10 hr10
      obtain rfl:[.int .i64 e9A,.str e9B,.int .i64 e9D,.sl 4 (Nd.encs e9C)]=r10:=(hr10.trans (zAK Nd.encs_eq he9).2.1).symm;obtain⟨y11,hy11,h⟩:=zAc h;refine⟨_,⟨_,_,_,hy11,rfl,rfl⟩,?_⟩
      show Tri ..;refine zAo rfl h (fun hb h=>?_) (fun hb h=>?_)
      ·refine zQE [] [] rfl ?_;show Tri ..;refine zAg ?_;cases h;replace h:some _=some _:=ho1;have hy:=Option.some.inj h;subst hy;unfold zAu;exact⟨_,Le.refl _ _,rfl,rfl⟩
      ·refine zAh ?_;show Tri ..;refine zAb [] [] rfl ?_;refine⟨(k,IntKind.i64.wrap (i5+1)),h,(Le.forget _ ⟨rfl,rfl,rfl,trivial⟩),Nat.lt_succ_self k⟩
     ·refine zAJ ?_;cases h;exact⟨_,rfl,(Le.forget _ trivial)⟩
  ·subst hz;obtain _:=z;replace h:=ho1;show Tri ..;refine zAk hle ?_;refine zQE [] [] rfl ?_;show Tri ..;refine zAg ?_;have hy:=Option.some.inj h;subst hy;unfold zAu;exact⟨_,Le.refl _ _,rfl,rfl⟩
theorem zJ3:∀ n,PSound Try.prog 9 (zAx (zDl n))/\PSound Try.prog 18 (zAx (zCa n)):=by
 intro n
 induction n with
 | zero =>
  refine⟨?_,?_⟩
  ·exact zCn Try.call9 (fun xs r h=>by obtain⟨_,_,_,h,_⟩:=h; rw[zBk]at h; cases h)
  ·exact zCn Try.call18 (fun xs r h=>by obtain⟨_,_,_,h,_⟩:=h; rw[zBK]at h; cases h)
 | succ n ih =>
  obtain⟨ih_r09_Equal,ih_r09_SameItems⟩:=ih;exact⟨zKp n ih_r09_Equal ih_r09_SameItems,zHO n ih_r09_Equal ih_r09_SameItems⟩
def zI1:zAv:=zAx fun xs r=>∃ n,zDl n xs r
theorem zMp:PSound Try.prog 9 zI1:=zDu (fun n=>(zJ3 n).1)
def zKY (xs:List AV) (r:Ret):Prop:=∃ (a0:List UInt8) (y0:(List UInt8×Nd×List zRc×Int)) (y1:Int),zDV a0=some (y0,y1)/\xs=[.s (.np),.s (.str a0)]/\r = .val (.tup [.agg ((zAl y0).map .s),.s (.int .i64 y1)])
def zHp:zAv:=zAx fun xs r=>zKY xs r
theorem zKd:PSound Try.prog 6 zHp:=by
 have gok:=@gok0 Try.prog;refine zAz tokW Try.call6 Try.func6 rfl (fun xs r h=>by obtain⟨_,_,_,_,rfl,_⟩:=h; show 2<=23; decide) 23 rfl ?_;rintro xs r w0 G0 ⟨title1,y0,y1,h,rfl,rfl⟩ _;rw[zDV]at h;refine zQE [4] [] rfl ?_;show Tri ..;refine zAa ?_;refine zQE [] [] rfl ?_;show Tri ..;refine zAB rfl (fun _=>?_) (fun h=>by cases h)
 refine zQE [] [] rfl ?_;show Tri ..;refine zAg ?_;obtain⟨hj1,hk1⟩:=pij h;subst hj1 hk1;unfold zAu;exact⟨_,Le.refl _ _,rfl,rfl⟩
def zLI (n:Nat) (xs:List AV) (r:Ret):Prop:=∃ (a0:Nd) (a1:List UInt8) (y0:Bool),zCh n a0 a1=some y0/\xs=[.agg ((Nd.enc a0).map .s),.s (.str a1)]/\r = .val (.s (.bool y0))
def zLS:zAv:=zAx fun xs r=>∃ n,zLI n xs r
theorem zLm:PSound Try.prog 3 zLS:=by
 have gok:∀ f s,look? f [(4,zIY),(5,zLT),(6,orS zLR (ownS zHp)),(7,zHr),(8,zFI),(9,zI1)]=some s->PSound Try.prog f s:=zAs (by
  simp only[List.forall_mem_cons]
  exact⟨zMm,zNY,(zOz zNX zKd.toOwn),zKf,zID,zMp,by simp⟩)
 refine zAz tokW Try.call3 Try.func3 rfl (fun xs r h=>by obtain⟨n,_,_,_,_,rfl,_⟩:=h; show 2<=85; decide) 85 rfl ?_;rintro xs r w0 G0 ⟨n,⟨a1A,a1B,a1D,a1C⟩,a2,y0,h,rfl,rfl⟩ _;rw[zCh]at h;refine zQE [] [] rfl ?_;show Tri ..;refine zAa ?_;refine zAa ?_;obtain⟨x3,hj,h⟩:=zAc h;refine zAt ⟨ofL [(1,.s (.str a2)),(2,.s (.pt [.int .i64 a1A,.str a1B,.int .i64 a1D,.sl 4 (Nd.encs a1C)])),(23,.s (.bool x3))],fun _=>none,0⟩ ?_ (fun σ' hle=>?_)
 ·replace h:=hj;refine zAb [] [14,19] rfl ?_;obtain⟨y4,hy4,h⟩:=zAc h;refine⟨_,⟨_,_,hy4,rfl,rfl⟩,?_⟩
  intro b hb;cases b with
  | true =>
   replace h:=zAD hb.symm h;intro b hb;subst hb;cases h;exact(Le.forget _ ⟨rfl,rfl,rfl,trivial⟩)
  | false =>
   replace h:=zAC hb.symm h;obtain⟨y5,hy5,h⟩:=zAc h;refine⟨_,⟨_,_,_,_,hy5,rfl,rfl⟩,?_⟩
   intro b hb;cases b with
   | true =>
    replace h:=zAD hb.symm h;cases h;exact(Le.forget _ ⟨rfl,rfl,rfl,trivial⟩)
   | false =>
    replace h:=zAC hb.symm h;cases h;exact(Le.forget _ ⟨rfl,rfl,rfl,trivial⟩)
 ·show Tri ..;refine zAk hle ?_;refine zAo rfl h (fun hb h=>?_) (fun hb h=>?_)
  ·refine zQE [] [] rfl ?_;obtain⟨y6,hy6,h⟩:=zAc h;refine⟨_,⟨_,_,hy6,rfl,rfl⟩,?_⟩
   show Tri ..;refine zAg ?_;have hy:=Option.some.inj h;subst hy;unfold zAu;exact⟨_,Le.refl _ _,rfl,rfl⟩
  ·refine zAh ?_;show Tri ..;refine zQE [] [] rfl ?_;show Tri ..;refine zQE [6] [] rfl ?_;obtain⟨⟨⟨y7Ao,⟨y7I,y7J,y7K,y7L⟩,y7G,y7H⟩,y8⟩,hy7,h⟩:=zAc h;refine⟨_,_,(Or.inr ⟨rfl,⟨_,_,_,hy7,rfl,rfl⟩,rfl,rfl⟩),?_⟩
   show Tri ..;refine zAk (Le.giveBox 0 [.str y7Ao,.int .i64 y7I,.str y7J,.int .i64 y7K,.sl 4 (Nd.encs y7L),.sl 5 ((List.map zAe) y7G),.int .i64 y7H] rfl rfl) ?_;refine zQE [] [] rfl ?_;obtain⟨⟨y9,y10⟩,hy9,h⟩:=zAc h;cases y9 with
   | none =>
    obtain⟨hq,h⟩:=zAI h;subst hq;refine⟨_,_,⟨_,_,_,_,hy9,rfl,rfl,rfl,rfl⟩,?_⟩
    show Tri ..;refine zAk (Le.rnm [] [(1,.s (.str a2)),(2,.s (.pt [.int .i64 a1A,.str a1B,.int .i64 a1D,.sl 4 (Nd.encs a1C)])),(7,.s (.int .i64 y8)),(8,.s (.np)),(9,.s (.int .i64 1))] [] 0 ⟨rfl,rfl,rfl,rfl,rfl,trivial⟩ trivial) ?_;refine zAa ?_;refine zAa ?_;obtain⟨_,hj,h⟩:=zAc h;refine zAt ⟨ofL [(1,.s (.str a2)),(2,.s (.pt [.int .i64 a1A,.str a1B,.int .i64 a1D,.sl 4 (Nd.encs a1C)])),(7,.s (.int .i64 y8)),(8,.s (.np)),(41,.s (.bool true))],fun _=>none,0⟩ ?_ (fun σ' hle=>?_)
    ·replace h:=hj;refine zAb [] [38] rfl ?_;intro b hb;cases b with
     | true =>
      replace h:=zAD hb.symm h;cases h;exact(Le.forget _ ⟨rfl,rfl,rfl,rfl,rfl,trivial⟩)
     | false =>
      replace h:=zAC hb.symm h;cases h;exact(Le.forget _ ⟨rfl,rfl,rfl,rfl,rfl,trivial⟩)
    ·show Tri ..;refine zAk hle ?_;refine zAB rfl (fun _=>?_) (fun h=>by cases h)
     refine zQE [] [] rfl ?_;show Tri ..;refine zAg ?_;have hy:=Option.some.inj h;subst hy;unfold zAu;exact⟨_,Le.refl _ _,rfl,rfl⟩
   | some w11 =>
    obtain⟨⟨w11I,w11J,w11K,w11L⟩,⟨w11P,w11Q,w11R,w11S⟩,w11G,w11H⟩:=w11;obtain⟨hq,h⟩:=zAI h;subst hq;refine⟨_,_,⟨_,_,_,_,hy9,rfl,rfl,rfl,rfl⟩,?_⟩
    show Tri ..;refine zAk (Le.rnm [(1,0),(2,1)] [(1,.s (.str a2)),(2,.s (.pt [.int .i64 a1A,.str a1B,.int .i64 a1D,.sl 4 (Nd.encs a1C)])),(7,.s (.int .i64 y8)),(8,.op 0 0),(9,.s (.int .i64 0))] [(0,.box 50 [.s (.int .i64 w11I),.s (.str w11J),.s (.int .i64 w11K),.s (.sl 4 (Nd.encs w11L)),.s (.int .i64 w11P),.s (.str w11Q),.s (.int .i64 w11R),.s (.sl 4 (Nd.encs w11S)),.orow 1,.s (.int .i64 w11H)]),(1,.row 85 5 ((List.map zAe) w11G))] 2 ⟨rfl,rfl,rfl,rfl,rfl,trivial⟩ ⟨rfl,⟨_,rfl,rfl⟩,rfl,⟨_,rfl,rfl⟩,trivial⟩) ?_
    refine zAa ?_;refine zAa ?_;obtain⟨x12,hj,h⟩:=zAc h;refine zAt ⟨ofL [(1,.s (.str a2)),(2,.s (.pt [.int .i64 a1A,.str a1B,.int .i64 a1D,.sl 4 (Nd.encs a1C)])),(7,.s (.int .i64 y8)),(8,.op 0 0),(41,.s (.bool x12))],ofH [(0,.box 50 [.s (.int .i64 w11I),.s (.str w11J),.s (.int .i64 w11K),.s (.sl 4 (Nd.encs w11L)),.s (.int .i64 w11P),.s (.str w11Q),.s (.int .i64 w11R),.s (.sl 4 (Nd.encs w11S)),.orow 1,.s (.int .i64 w11H)]),(1,.row 85 5 ((List.map zAe) w11G))],2⟩ ?_ (fun σ' hle=>?_)
    ·replace h:=hj;refine zAb [] [38] rfl ?_;intro b hb;cases b with
     | true =>
      replace h:=zAD hb.symm h;cases h;exact(Le.rnm [(0,0),(1,1)] _ _ _ ⟨rfl,rfl,rfl,rfl,rfl,trivial⟩ ⟨rfl,⟨_,rfl,rfl⟩,rfl,⟨_,rfl,rfl⟩,trivial⟩)
     | false =>
      replace h:=zAC hb.symm h;cases h;exact(Le.rnm [(0,0),(1,1)] _ _ _ ⟨rfl,rfl,rfl,rfl,rfl,trivial⟩ ⟨rfl,⟨_,rfl,rfl⟩,rfl,⟨_,rfl,rfl⟩,trivial⟩)
    ·show Tri ..;refine zAk hle ?_;refine zAo rfl h (fun hb h=>?_) (fun hb h=>?_)
     ·refine zQE [] [] rfl ?_;show Tri ..;refine zAg ?_;have hy:=Option.some.inj h;subst hy;unfold zAu;exact⟨_,Le.refl _ _,rfl,rfl⟩
     ·refine zAh ?_;show Tri ..;refine zQE [10] [] rfl ?_;obtain⟨⟨⟨y13Ao,⟨y13I,y13J,y13K,y13L⟩,y13G,y13H⟩,y14,⟨⟨w15I,w15J,w15K,w15L⟩,⟨w15P,w15Q,w15R,w15S⟩,w15G,w15H⟩⟩,hy13,h⟩:=zAc h;refine⟨_,_,(Or.inl ⟨_,_,_,_,_,_,_,_,_,_,_,_,_,_,_,_,_,_,_,_,_,_,_,_,hy13,rfl,rfl,rfl,rfl⟩),?_⟩
      show Tri ..;refine zAk (Le.giveBox 3 [.str y13Ao,.int .i64 y13I,.str y13J,.int .i64 y13K,.sl 4 (Nd.encs y13L),.sl 5 ((List.map zAe) y13G),.int .i64 y13H] rfl rfl) ?_;refine zAa ?_;refine zAa ?_;obtain⟨x16,hj,h⟩:=zAc h
      refine zAt ⟨ofL [(1,.s (.str a2)),(2,.s (.pt [.int .i64 a1A,.str a1B,.int .i64 a1D,.sl 4 (Nd.encs a1C)])),(10,.s (.pt [.str y13Ao,.int .i64 y13I,.str y13J,.int .i64 y13K,.sl 4 (Nd.encs y13L),.sl 5 ((List.map zAe) y13G),.int .i64 y13H])),(11,.s (.int .i64 y14)),(57,.s (.bool x16))],fun _=>none,0⟩ ?_ (fun σ' hle=>?_)
      ·replace h:=hj;refine zAb [] [53] rfl ?_;intro b hb;cases b with
       | true =>
        replace h:=zAD hb.symm h;cases h;exact(Le.rnm [] _ [] 0 ⟨rfl,rfl,rfl,rfl,rfl,trivial⟩ trivial)
       | false =>
        replace h:=zAC hb.symm h;obtain⟨y17,hy17,h⟩:=zAc h;refine⟨_,⟨_,_,_,hy17,rfl,rfl⟩,?_⟩
        cases h;exact(Le.rnm [] _ [] 0 ⟨rfl,rfl,rfl,rfl,rfl,trivial⟩ trivial)
      ·show Tri ..;refine zAk hle ?_;refine zAo rfl h (fun hb h=>?_) (fun hb h=>?_)
       ·refine zQE [] [] rfl ?_;show Tri ..;refine zAg ?_;have hy:=Option.some.inj h;subst hy;unfold zAu;exact⟨_,Le.refl _ _,rfl,rfl⟩
       ·refine zAh ?_;show Tri ..;refine zAa ?_;obtain⟨x18,hj,h⟩:=zAc h;refine zAt ⟨ofL [(4,.s (.bool x18))],fun _=>none,0⟩ ?_ (fun σ' hle=>?_)
        ·replace h:=hj;refine zAb [] [62,68,74,79,82] rfl ?_;intro b hb;cases b with
         | true =>
          replace h:=zAD hb.symm h;intro b hb;cases b with
          | true =>
           replace h:=zAD hb.symm h;obtain⟨y19,hy19,h⟩:=zAc h;refine⟨_,⟨_,_,_,_,hy19,rfl,rfl⟩,?_⟩
           intro b hb;cases b with
           | true =>
            replace h:=zAD hb.symm h;intro b hb;cases b with
            | true =>
             replace h:=zAD hb.symm h;intro n20 hn20;obtain rfl:(y13G.length:Int)=n20:=(hn20.trans (congrArg (fun m:Nat=>(m:Int)) (rlen (fun _=>rfl) y13G))).symm;cases h;exact(Le.forget _ ⟨rfl,trivial⟩)
            | false =>
             replace h:=zAC hb.symm h;cases h;exact(Le.forget _ ⟨rfl,trivial⟩)
           | false =>
            replace h:=zAC hb.symm h;intro b hb;subst hb;cases h;exact(Le.forget _ ⟨rfl,trivial⟩)
          | false =>
           replace h:=zAC hb.symm h;intro b hb;subst hb;intro b hb;subst hb;cases h;exact(Le.forget _ ⟨rfl,trivial⟩)
         | false =>
          replace h:=zAC hb.symm h;intro b hb;subst hb;intro b hb;subst hb;intro b hb;subst hb;cases h;exact(Le.forget _ ⟨rfl,trivial⟩)
        ·show Tri ..;refine zAk hle ?_;refine zAg ?_;have hy:=Option.some.inj h;subst hy;unfold zAu;exact⟨_,Le.refl _ _,rfl,rfl⟩
theorem zPH {n:Nat}{ss:List S} (h:Typed T n 24 ss):∃ t:Nd,ss=t.enc/\t.rng :=
 zN4 (T:=T) (e:=24) (s:=22) (ki:=3) (st:=9) rfl rfl rfl rfl rfl rfl rfl rfl rfl n h
theorem zCK {φ:Prop} [Decidable φ] (h:φ):decide φ=true:=decide_eq_true h
theorem zCd {φ:Prop} [Decidable φ] (h:¬ φ):decide φ=false:=decide_eq_false h
theorem zMf {F:Nd->Int->Option Int}{ks:List Nd}{b:Nat} (hF:∀ (v:Nd) (m:Nat),m<=b->∃ r,F v (m:Int)=some r/\-1<=r/\r<m/\(0<=r->r+v.cnt=m)) :
  ∀ (k i:Nat) (m:Int),m+1<k->-1<=m->m<=b->i<=ks.length->(i:Int)+m<4611686018427387904->∃ r,zBB F ks k m (i:Int)=some r/\-1<=r/\r<=m/\(0<=r->r+Nd.cnts (ks.drop i)=m)
 | 0,_,_,h,_,_,_,_=>by omega
 | k+1,i,m,hk,hm,hb,hi,hx=>by
  unfold zBB
  by_cases h:i<ks.length
  ·rw[zCK (Int.ofNat_lt.2 h),cond_true]
   simp only[Option.bind_some]
   by_cases h0:0<=m
   ·rw[zCK h0,cond_true,zFv h]
    have hd:=Nd.cnts_drop h;rcases e:ks[i] with ⟨e1,e2,e3,e4⟩
    rw[e]at hd;simp only[Option.bind_some]
    obtain⟨m',rfl⟩:=Int.eq_ofNat_of_zero_le h0;obtain⟨r,h1,h2,h3,h4⟩:=hF (.mk e1 e2 e3 e4) m' (by omega)
    rw[h1,Option.bind_some,zCY (by omega)]
    obtain⟨r',g1,g2,g3,g4⟩:=zMf (ks:=ks) hF k (i+1) r (by omega) h2 (by omega) (by omega) (by omega)
    exact⟨r',g1,g2,by omega,fun g=>by have:=g4 g; have:=h4 (by omega); omega⟩
   ·rw[zCd h0,cond_false]
    exact⟨m,rfl,hm,Int.le_refl _,fun g=>by omega⟩
  ·rw[zCd (by omega),cond_false]
   simp only[Option.bind_some,cond_false]
   obtain rfl:i=ks.length :=(by omega);exact⟨m,rfl,hm,Int.le_refl _,fun _=>by simp[Nd.cnts]⟩
theorem left_eq:∀ (n:Nat) (t:Nd) (m:Nat),m+1<n->m<=67108864->∃ r,zCx n t (m:Int)=some r/\-1<=r/\r<m/\(0<=r->r+t.cnt=m)
 | 0,_,_,h,_=>by omega
 | n+1,.mk a b c ks,m,h,hm=>by
  unfold zCx;rw[wrap64_in (by omega) (by omega)]
  cases m with
  | zero =>
   cases n with
   | zero=>omega
   | succ n =>
    refine⟨-1,?_,by omega,by omega,fun h=>by omega⟩
    unfold zBB;cases decide (((0:Nat):Int)<(ks.length:Int)) <;> simp <;> rfl
  | succ m =>
   obtain⟨r,h1,h2,h3,h4⟩:=zMf (F:=zCx n) (ks:=ks) (b:=m) (fun v q hq=>left_eq n v q (by omega) (by omega)) n 0 (m:Int) (by omega) (by omega) (by omega) (by omega) (by omega)
   rw[show((0:Nat):Int)=0 from rfl]at h1;rw[show((m+1:Nat):Int) - 1=(m:Int) by omega,h1]
   exact⟨r,rfl,h2,by omega,fun g=>by have:=h4 g; rw[List.drop_zero]at this; simp only[Nd.cnt]; omega⟩
theorem zQa (n:Nat) (t:Nd) (m:Nat) (h:m+1<n) (hm:m<=67108864):∃ b,zFU n t (m:Int)=some b/\(b=true->t.cnt<=m):=by
 obtain⟨a,b,c,ks⟩:=t;obtain⟨r,h1,h2,h3,h4⟩:=left_eq n (.mk a b c ks) m h hm;refine⟨decide (0<=r),by simp[zFU,h1],fun g=>by have g0:=of_decide_eq_true g; have:=h4 g0; omega⟩
def zLU {α:Type} (p:α->Bool) (l:List α):Fl Bool Unit:=if l.all p then .go () else .ret false
theorem zO3 {α:Type}{p:α->Bool}{l:List α}{i:Nat} (h:i<l.length):(l.drop i).all p=(p l[i]&&(l.drop (i+1)).all p):=by
 rw[List.drop_eq_getElem_cons h]; rfl
theorem zGe {α:Type}{p:α->Bool}{l:List α} (L:Nat->Int->Option (Fl Bool Unit)) (hb:l.length<=1073741824)
  (h1:∀ (k i:Nat) (h:i<l.length),L (k+1) (i:Int)=if p l[i] then L k (((i+1:Nat)):Int) else some (.ret false)) (h2:∀ k,L (k+1) (l.length:Int)=some (.go ())) :
  ∀ (k i:Nat),l.length - i<k->i<=l.length->L k (i:Int)=some (zLU p (l.drop i))
 | 0,_,h,_=>by omega
 | k+1,i,hk,hi=>by
  by_cases h:i<l.length
  ·rw[h1 k i h,zGe L hb h1 h2 k (i+1) (by omega) (by omega)]
   unfold zLU;rw[zO3 h]
   cases p l[i] <;> simp
  ·obtain rfl:i=l.length :=(by omega);rw[h2]; simp[zLU]
theorem zQw {P:UInt8->Bool} (h:(List.range 256).all (fun n=>P n.toUInt8)=true) (b:UInt8):P b=true:=by
 have:P (UInt8.ofNat b.toNat)=true:=List.all_eq_true.1 h b.toNat (List.mem_range.2 b.toNat_lt)
 rwa [UInt8.ofNat_toNat]at this
def zEP (b:UInt8):Bool:=(decide (97<=b.toNat)&&decide (b.toNat<=122))||(decide (65<=b.toNat)&&decide (b.toNat<=90))
def zC8 (b:UInt8):Bool:=decide (48<=b.toNat)&&decide (b.toNat<=57)
def zCP (b:UInt8):Bool:=decide (32<=b.toNat)&&decide (b.toNat<=126)
theorem zL0 (b:UInt8):(bif decide ((zHU .or .u8 (b.toNat:Int) 32)<97) then some true else some (decide (122<(zHU .or .u8 (b.toNat:Int) 32))))=some (!zEP b) :=
 of_decide_eq_true (zQw (P:=fun b=>decide ((bif decide ((zHU .or .u8 (b.toNat:Int) 32)<97) then some true else some (decide (122<(zHU .or .u8 (b.toNat:Int) 32))))=some (!zEP b))) (by decide +kernel) b)
theorem zJn (n:Nat) (s:List UInt8) (h:s.length<n) (hb:s.length<=1073741824):zB2 n s=some (s.all zEP):=by
 have:=zGe (p:=zEP) (l:=s) (zAY s) hb (fun k i h=>by
  rw[zAY,zCK (Int.ofNat_lt.2 h),cond_true,zFv h]
  simp only[Option.bind_some,zL0]
  rw[zCY (by omega)]
  cases zEP s[i] <;> rfl) (fun k=>by rw[zAY,zCd (by omega)]; rfl) n 0 (by omega) (by omega)
 rw[show((0:Nat):Int)=0 from rfl,List.drop_zero]at this;rw[zB2,this]
 unfold zLU;cases s.all zEP <;> rfl
theorem zEV (n:Nat) (s:List UInt8) (h:s.length<n) (hb:s.length<=1073741824):zCw n s=some (s.all zC8&&!(s == [])):=by
 have:=zGe (p:=zC8) (l:=s) (zA6 s) hb (fun k i h=>by
  rw[zA6,zCK (Int.ofNat_lt.2 h),cond_true,zFv h]
  simp only[Option.bind_some]
  rw[zCY (by omega)]
  unfold zC8
  by_cases a:48<=s[i].toNat
  ·by_cases b:s[i].toNat<=57
   ·simp[a,b,show ¬ ((s[i].toNat:Int)<48) by omega,show ¬ (57<(s[i].toNat:Int)) by omega]
   ·simp[a,b,show ¬ ((s[i].toNat:Int)<48) by omega,show(57<(s[i].toNat:Int)) by omega]
  ·simp[a,show((s[i].toNat:Int)<48) by omega]) (fun k=>by rw[zA6,zCd (by omega)]; rfl) n 0 (by omega) (by omega)
 rw[show((0:Nat):Int)=0 from rfl,List.drop_zero]at this;rw[zCw,this]
 unfold zLU;cases s.all zC8 <;> rfl
theorem zJD (b:UInt8):(bif decide ((b.toNat:Int)<32) then some true else some (decide (126<(b.toNat:Int))):Option Bool)=some (!zCP b):=by
 unfold zCP
 by_cases a:32<=b.toNat
 ·by_cases c:b.toNat<=126
  ·simp[a,c,show ¬ ((b.toNat:Int)<32) by omega,show ¬ (126<(b.toNat:Int)) by omega]
  ·simp[a,c,show ¬ ((b.toNat:Int)<32) by omega,show(126<(b.toNat:Int)) by omega]
 ·simp[a,show((b.toNat:Int)<32) by omega]
theorem zLi (n:Nat) (s:List UInt8) (h:s.length<n) (hb:s.length<=1073741824):zDH n s=some (s.all zCP&&decide ((s.length:Int)<=200)):=by
 have:=zGe (p:=zCP) (l:=s) (zBa s) hb (fun k i h=>by
  rw[zBa,zCK (Int.ofNat_lt.2 h),cond_true,zFv h]
  simp only[Option.bind_some,zJD]
  rw[zCY (by omega)]
  cases zCP s[i] <;> rfl) (fun k=>by rw[zBa,zCd (by omega)]; rfl) n 0 (by omega) (by omega)
 rw[show((0:Nat):Int)=0 from rfl,List.drop_zero]at this;rw[zDH,this]
 unfold zLU;cases s.all zCP <;> rfl
theorem zIE (n:Nat) (s:List UInt8) (h:s.length<n) (hb:s.length<=1073741824):zCj n s=some (s.all zCP):=by
 have:=zGe (p:=zCP) (l:=s) (zAT s) hb (fun k i h=>by
  rw[zAT,zCK (Int.ofNat_lt.2 h),cond_true,zFv h]
  simp only[Option.bind_some,zJD]
  rw[zCY (by omega)]
  cases zCP s[i] <;> rfl) (fun k=>by rw[zAT,zCd (by omega)]; rfl) n 0 (by omega) (by omega)
 rw[show((0:Nat):Int)=0 from rfl,List.drop_zero]at this;rw[zCj,this]
 unfold zLU;cases s.all zCP <;> rfl
def spL:List UInt8:=[43,45,42,47,61,60,62,44,59,58,33,124,39,63,126,64]
def fsL:List UInt8:=[40,41,91,93,123,125,60,62,47,124,46]
def kwL:List (List UInt8):=[[102,114,97,99],[114,111,111,116],[109,97,116,114,105,120],[102,101,110,99,101]]
def acL:List (List UInt8):=[[104,97,116],[98,97,114],[118,101,99],[100,111,116],[116,105,108,100,101],[99,104,101,99,107]]
def spB (c:UInt8):Bool:=decide (0<=Lib.indexByte spL c)
def fsB (c:UInt8):Bool:=decide (0<=Lib.indexByte fsL c)
theorem zO6 (c:UInt8):Lib.indexByte fsL ((c.toNat:Int).toNat.toUInt8)=Lib.indexByte fsL c:=by
 rw[Int.toNat_natCast]; congr 1; exact UInt8.ofNat_toNat
theorem zJ4 (e s:List UInt8):(e == s)=(s == e):=by
 rw[Bool.eq_iff_iff]; simp only[beq_iff_eq]; exact eq_comm
theorem zJm (s:List UInt8):zCO s=some (kwL.any fun e=>e == s):=by
 simp only[zCO,kwL,List.any_cons,List.any_nil,zJ4 [102,114,97,99] s,zJ4 [114,111,111,116] s,zJ4 [109,97,116,114,105,120] s,zJ4 [102,101,110,99,101] s]
 generalize (s == [102,114,97,99])=b1;generalize (s == [114,111,111,116])=b2;generalize (s == [109,97,116,114,105,120])=b3;generalize (s == [102,101,110,99,101])=b4;cases b1 <;> cases b2 <;> cases b3 <;> cases b4 <;> rfl
theorem zGK (s:List UInt8):zCv s=some (acL.any fun e=>e == s):=by
 simp only[zCv,acL,List.any_cons,List.any_nil,zJ4 [104,97,116] s,zJ4 [98,97,114] s,zJ4 [118,101,99] s,zJ4 [100,111,116] s,zJ4 [116,105,108,100,101] s,zJ4 [99,104,101,99,107] s]
 generalize (s == [104,97,116])=b1;generalize (s == [98,97,114])=b2;generalize (s == [118,101,99])=b3;generalize (s == [100,111,116])=b4;generalize (s == [116,105,108,100,101])=b5;generalize (s == [99,104,101,99,107])=b6;cases b1 <;> cases b2 <;> cases b3 <;> cases b4 <;> cases b5 <;> cases b6 <;> rfl
def symB (s:List UInt8):Bool :=
 if s.length=1 then s.all zEP||s.all spB
 else s.all zEP&&(decide (2<=s.length)&&(decide (s.length<=16)&&(!(kwL.any fun e=>e == s)&&!(acL.any fun e=>e == s))))
theorem len1 (s:List UInt8):((s.length:Int) == 1)=decide (s.length=1):=by
 by_cases h:s.length=1
 ·simp[h]
 ·rw[zCd h]
  cases e:((s.length:Int) == 1) with
  | false=>rfl
  | true=>have:=eq_of_beq e; omega
theorem zLa (a b:Nat):decide ((a:Int)<=(b:Int))=decide (a<=b):=by
 by_cases h:a<=b
 ·rw[zCK h,zCK (by omega)]
 ·rw[zCd h,zCd (by omega)]
theorem zJ7 (n:Nat) (s:List UInt8) (h:s.length+40<n) (hb:s.length<=1073741824):zDg n s=some (symB s):=by
 rw[zDg,len1,zJn n s (by omega) hb]
 unfold symB
 by_cases h1:s.length=1
 ·rw[zCK h1,if_pos h1]
  obtain⟨c,rfl⟩:=List.length_eq_one_iff.1 h1;have:zDh [43,45,42,47,61,60,62,44,59,58,33,124,39,63,126,64] [c]=some (spB c):=rfl;simp only[cond_true,Option.bind_some,this,List.all_cons,List.all_nil,Bool.and_true]
  cases zEP c <;> rfl
 ·rw[zCd h1,if_neg h1]
  have e2:=zLa 2 s.length;have e16:=zLa s.length 16;rw[show((2:Nat):Int)=2 from rfl]at e2;rw[show((16:Nat):Int)=16 from rfl]at e16;simp only[cond_false,Option.bind_some,zJm,zGK,e2,e16]
  cases s.all zEP <;> cases decide (2<=s.length) <;> cases decide (s.length<=16) <;> cases(kwL.any fun e=>e == s) <;> rfl
def fenB (s:List UInt8):Bool:=decide (s.length=2)&&s.all fsB
theorem len2 (s:List UInt8):((s.length:Int) == 2)=decide (s.length=2):=by
 by_cases h:s.length=2
 ·simp[h]
 ·rw[zCd h]
  cases e:((s.length:Int) == 2) with
  | false=>rfl
  | true=>have:=eq_of_beq e; omega
theorem zLh (s:List UInt8):zDG s=some (fenB s):=by
 rw[zDG,len2]
 unfold fenB
 by_cases h1:s.length=2
 ·rw[zCK h1]
  match s,h1 with
  | [c,d],_ =>
   have e0:at? [c,d] (0:Int)=some c:=rfl;have e1:at? [c,d] (1:Int)=some d:=rfl;have f:∀ c:UInt8,zBS [40,41,91,93,123,125,60,62,47,124,46] (c.toNat:Int)=some (Lib.indexByte fsL c):=fun c=>congrArg some (zO6 c)
   have g:∀ c:UInt8,decide (0<=Lib.indexByte fsL c)=fsB c:=fun c=>rfl
   simp only[cond_true,e0,e1,f,Option.bind_some,g,List.all_cons,List.all_nil,Bool.and_true,Bool.true_and]
   cases fsB c <;> rfl
 ·rw[zCd h1]; rfl
def okL (L:Nat):Nat->List UInt8->Bool
 | _,[]=>true
 | i,c::r=>((c == 46&&(decide (0<i)&&decide (i+1<L)))||zC8 c)&&okL L (i+1) r
def numB (s:List UInt8):Bool:=okL s.length 0 s&&(decide (0<s.length)&&(decide (s.length<=20)&&decide (s.count 46<=1)))
theorem zQj:zC8 46=false:=by decide
theorem zL2:∀ s:List UInt8,(s.count 46=0/\Lib.indexByte s 46 = -1)∨∃ a b,s=a++46::b/\a.count 46=0/\Lib.indexByte s 46=(a.length:Int)
 | []=>.inl ⟨rfl,rfl⟩
 | c::s=>by
  by_cases h:c=46
  ·subst h;exact .inr ⟨[],s,rfl,rfl,by simp[Lib.indexByte]⟩
  ·have hc:(c == 46)=false :=(by simpa using h);rcases zL2 s with ⟨h1,h2⟩ | ⟨a,b,rfl,h1,h2⟩
   ·exact .inl ⟨by rw[List.count_cons,h1,hc]; rfl,by simp[Lib.indexByte,hc,h2]⟩
   ·refine .inr ⟨c::a,b,rfl,by rw[List.count_cons,h1,hc]; rfl,?_⟩
    have h3:((a.length:Int) == -1)=false:=by
     cases e:((a.length:Int) == -1) with
     | false=>rfl
     | true=>have:=eq_of_beq e; omega
    simp[Lib.indexByte,hc,h2,h3]
theorem zFV (L:Nat):∀ (i:Nat) (a:List UInt8),a.count 46=0->okL L i a=a.all zC8
 | _,[],_=>rfl
 | i,c::a,h=>by
  have hc:(c == 46)=false:=by
   cases e:c == 46 with
   | false=>rfl
   | true=>rw[List.count_cons,e]at h; simp at h
  rw[List.count_cons,hc]at h;rw[okL,hc,zFV L (i+1) a (by simpa using h)]
  simp
theorem zKF (L:Nat):∀ (i:Nat) (a b:List UInt8),okL L i (a++b)=(okL L i a&&okL L (i+a.length) b)
 | _,[],b=>by simp[okL]
 | i,c::a,b=>by
  simp only[List.cons_append,okL,zKF L (i+1) a b,List.length_cons,Bool.and_assoc,show i+1+a.length=i+(a.length+1) by omega]
theorem zLd:∀ a:List UInt8,a.all zC8=true->a.count 46=0
 | [],_=>rfl
 | c::a,h=>by
  simp only[List.all_cons,Bool.and_eq_true]at h;have hc:(c == 46)=false:=by
   cases e:c == 46 with
   | false=>rfl
   | true=>obtain rfl:c=46:=eq_of_beq e; simp[zQj]at h
  rw[List.count_cons,hc,zLd a h.2]; rfl
theorem zP1 (a b:List UInt8) (ha:a.count 46=0):numB (a++46::b)=(decide ((a++46::b).length<=20)&&((a.all zC8&&!(a == []))&&(b.all zC8&&!(b == [])))):=by
 unfold numB;have hl:(a++46::b).length=a.length+(b.length+1) :=(by simp);rw[zKF,zFV _ _ a ha,hl]
 simp only[okL,zQj,Bool.or_false,List.count_append,List.count_cons,ha,beq_self_eq_true,Bool.true_and,if_true,Nat.zero_add]
 have e1:decide (0<a.length) = !(a == []) :=(by cases a <;> rfl);have e2:decide (a.length+1<a.length+(b.length+1)) = !(b == []):=by
  cases b with
  | nil=>simp
  | cons c b=>simp
 have e3:decide (0<a.length+(b.length+1))=true:=zCK (by omega)
 rw[e1,e2,e3]
 cases hb:b.all zC8 with
 | true =>
  rw[zFV _ _ b (zLd b hb),hb,zLd b hb]
  cases a.all zC8 <;> cases a == [] <;> cases b == [] <;> cases decide (a.length+(b.length+1)<=20) <;> rfl
 | false =>
  cases hc:decide (b.count 46+1<=1) with
  | true =>
   have:b.count 46=0 :=(by have:=of_decide_eq_true hc; omega);rw[zFV _ _ b this,hb]
   cases a.all zC8 <;> cases a == [] <;> cases b == [] <;> cases decide (a.length+(b.length+1)<=20) <;> rfl
  | false =>
   generalize okL _ _ b=z;cases z <;> cases a.all zC8 <;> cases a == [] <;> cases b == [] <;> cases decide (a.length+(b.length+1)<=20) <;> rfl
theorem zOy (s:List UInt8) (h:s.count 46=0):numB s=(decide (s.length<=20)&&(s.all zC8&&!(s == []))):=by
 unfold numB;rw[zFV _ _ s h,h]
 have e1:decide (0<s.length) = !(s == []) :=(by cases s <;> rfl);rw[e1]
 cases s.all zC8 <;> cases s == [] <;> cases decide (s.length<=20) <;> rfl
theorem zJ6 (n:Nat) (s:List UInt8) (h:s.length<n) (hb:s.length<=1073741824):zCs n s=some (numB s):=by
 have e20:=zLa s.length 20;rw[show((20:Nat):Int)=20 from rfl]at e20;have hi:zCW s [46]=some (Lib.indexByte s 46):=rfl;rcases zL2 s with ⟨h1,h2⟩ | ⟨a,b,rfl,h1,h2⟩
 ·rw[zOy s h1]
  simp only[zCs,zDi,zBL,hi,h2,Option.bind_some,show decide ((0:Int)<=-1)=false from rfl,cond_false,e20,zEV n s h hb]
  cases decide (s.length<=20) <;> cases(s.all zC8&&!(s == [])) <;> rfl
 ·have hl:(a++46::b).length=a.length+(b.length+1) :=(by simp);rw[zP1 a b h1]
  have w1:IntKind.i64.wrap ((a.length:Int)+(([46]:List UInt8).length:Int))=((a.length+1:Nat):Int):=zCY (by omega)
  have t1:((a++46::b).take ((a.length:Int)).toNat).drop (0:Int).toNat=a :=(by simp);have t2:((a++46::b).take (((a++46::b).length:Int)).toNat).drop (((a.length+1:Nat):Int)).toNat=b:=by
   rw[Int.toNat_natCast,Int.toNat_natCast,List.take_length,List.drop_append]
   simp
  simp only[zCs,zDi,zBL,hi,h2,Option.bind_some,w1]
  rw[zCK (by omega),cond_true,zIF (by omega),zIF (by omega),t1,t2]
  simp only[Option.bind_some,e20,zEV n a (by omega) (by omega),zEV n b (by omega) (by omega)]
  cases decide ((a++46::b).length<=20) <;> cases(a.all zC8&&!(a == [])) <;> cases(b.all zC8&&!(b == [])) <;> rfl
def Nd.kind:Nd->Int | .mk k _ _ _=>k
def zOX (k:Int) (t:List UInt8):Bool :=
 if k=2 then symB t else if k=3 then numB t else if k=4 then (decide (t.length<=200)&&t.all zCP) else if k=10 then acL.any (fun e=>e == t) else if k=11 then fenB t else t == []
def zOp (k c:Int) (m:Int):Bool :=
 if k=12 then decide (1<=c)&&(decide (c<=16)&&(decide (1<=m)&&(decide (m<=256)&&(m.tmod c == 0))))
 else (c == 0)&&(if k=1 then decide (m<=200) else if k=2 then m == 0 else if k=3 then m == 0 else if k=4 then m == 0 else if k=5 then m == 2 else if k=6 then m == 2 else if k=7 then m == 2 else if k=8 then m == 2
  else if k=9 then m == 3 else if k=10 then m == 1 else if k=11 then m == 1 else false)
mutual
def zJd:Nd->Bool
 | .mk k t c ks=>(zOX k t&&zOp k c (ks.length:Int))&&zJe k ks
def zJe:Int->List Nd->Bool
 | _,[]=>true
 | k,v::vs=>(!((v.kind == 1) == (k == 1))&&zJd v)&&zJe k vs
end
mutual
def Nd.dep:Nd->Nat
 | .mk _ _ _ ks=>Nd.deps ks+1
def Nd.deps:List Nd->Nat
 | []=>0
 | v::vs=>Nat.max v.dep (Nd.deps vs)
end
theorem zNL {k:Int}{a:List Nd}{i:Nat} (h:i<a.length):zJe k (a.drop i)=((!((a[i].kind == 1) == (k == 1))&&zJd a[i])&&zJe k (a.drop (i+1))):=by
 rw[List.drop_eq_getElem_cons h]; rfl
theorem zOk {a:List Nd}{i:Nat} (h:i<a.length):Nd.deps (a.drop i)=Nat.max (a[i]).dep (Nd.deps (a.drop (i+1))):=by
 rw[List.drop_eq_getElem_cons h]; rfl
mutual
theorem Nd.dep_cnt:∀ v:Nd,v.dep<=v.cnt
 | .mk _ _ _ ks=>by have:=Nd.deps_cnts ks; simp only[Nd.dep,Nd.cnt]; omega
theorem Nd.deps_cnts:∀ vs:List Nd,Nd.deps vs<=Nd.cnts vs
 | []=>Nat.le_refl _
 | v::vs=>by
  have:=Nd.dep_cnt v; have:=Nd.deps_cnts vs
  simp only[Nd.deps,Nd.cnts]
  exact Nat.max_le.2 ⟨by omega,by omega⟩
end
mutual
theorem Nd.cnt_w:∀ v:Nd,v.cnt<=v.w
 | .mk _ t _ ks=>by have:=Nd.cnts_ws ks; simp only[Nd.cnt,Nd.w]; omega
theorem Nd.cnts_ws:∀ vs:List Nd,Nd.cnts vs<=Nd.ws vs
 | []=>Nat.le_refl _
 | v::vs=>by have:=Nd.cnt_w v; have:=Nd.cnts_ws vs; simp only[Nd.cnts,Nd.ws]; omega
end
theorem zQo {a b:Int} (h:a ≠ b):(a == b)=false:=by
 cases e:(a == b) with
 | false=>rfl
 | true=>exact absurd (eq_of_beq e) h
theorem kinds (k:Int):k=1∨k=2∨k=3∨k=4∨k=5∨k=6∨k=7∨k=8∨k=9∨k=10∨k=11∨k=12∨(k<1∨12<k):=by omega
theorem zQr (n:Nat) (x:Int) (k:Int) (t:List UInt8) (c:Int) (ks:List Nd) (h:t.length+40<n) (hb:t.length<=1073741824) :
  zBA n ((),x) (.mk k t c ks)=some (zOX k t&&zOp k c (ks.length:Int),((),x)):=by
 have e200:=zLa t.length 200;rw[show((200:Nat):Int)=200 from rfl]at e200;unfold zBA;dsimp only;generalize (ks.length:Int)=m;have em:zBf t=some (t == []):=rfl;rcases kinds k with rfl | rfl | rfl | rfl | rfl | rfl | rfl | rfl | rfl | rfl | rfl | rfl | h
 ·simp only[em]
  show _=some ((t == [])&&((c == 0)&&decide (m<=200)),((),x))
  cases t == [] <;> cases c == 0 <;> rfl
 ·simp only[zJ7 n t h hb]
  show _=some (symB t&&((c == 0)&&(m == 0)),((),x))
  cases symB t <;> cases c == 0 <;> rfl
 ·simp only[zJ6 n t (by omega) hb]
  show _=some (numB t&&((c == 0)&&(m == 0)),((),x))
  cases numB t <;> cases c == 0 <;> rfl
 ·simp only[zLi n t (by omega) hb,e200]
  show _=some ((decide (t.length<=200)&&t.all zCP)&&((c == 0)&&(m == 0)),((),x))
  cases decide (t.length<=200) <;> cases t.all zCP <;> cases c == 0 <;> rfl
 ·simp only[em]
  show _=some ((t == [])&&((c == 0)&&(m == 2)),((),x))
  cases t == [] <;> cases c == 0 <;> rfl
 ·simp only[em]
  show _=some ((t == [])&&((c == 0)&&(m == 2)),((),x))
  cases t == [] <;> cases c == 0 <;> rfl
 ·simp only[em]
  show _=some ((t == [])&&((c == 0)&&(m == 2)),((),x))
  cases t == [] <;> cases c == 0 <;> rfl
 ·simp only[em]
  show _=some ((t == [])&&((c == 0)&&(m == 2)),((),x))
  cases t == [] <;> cases c == 0 <;> rfl
 ·simp only[em]
  show _=some ((t == [])&&((c == 0)&&(m == 3)),((),x))
  cases t == [] <;> cases c == 0 <;> rfl
 ·simp only[zGK]
  show _=some ((acL.any fun e=>e == t)&&((c == 0)&&(m == 1)),((),x))
  cases(acL.any fun e=>e == t) <;> cases c == 0 <;> rfl
 ·simp only[zLh]
  show _=some (fenB t&&((c == 0)&&(m == 1)),((),x))
  cases fenB t <;> cases c == 0 <;> rfl
 ·simp only[em]
  show _=some ((t == [])&&(decide (1<=c)&&(decide (c<=16)&&(decide (1<=m)&&(decide (m<=256)&&(m.tmod c == 0))))),((),x))
  by_cases h1:1<=c
  ·rw[zCK h1,zIF (by omega)]
   generalize (m.tmod c == 0)=y;cases t == [] <;> cases decide (c<=16) <;> cases decide (1<=m) <;> cases decide (m<=256) <;> rfl
  ·rw[zCd h1]
   cases t == [] <;> rfl
 ·have f:∀ i:Int,1<=i->i<=12->k ≠ i:=fun i h1 h2=>by omega
  have hk:zOp k c m=false:=by
   unfold zOp;rw[if_neg (f 12 (by decide) (by decide)),if_neg (f 1 (by decide) (by decide)),if_neg (f 2 (by decide) (by decide)),if_neg (f 3 (by decide) (by decide)),if_neg (f 4 (by decide) (by decide)),if_neg (f 5 (by decide) (by decide)),
    if_neg (f 6 (by decide) (by decide)),if_neg (f 7 (by decide) (by decide)),if_neg (f 8 (by decide) (by decide)),if_neg (f 9 (by decide) (by decide)),if_neg (f 10 (by decide) (by decide)),if_neg (f 11 (by decide) (by decide))]
   exact Bool.and_false _
  rw[hk,Bool.and_false]
  by_cases h1:k<1
  ·rw[zCK h1]; rfl
  ·rw[zCd h1,zCK (show 12<k by omega)]; rfl
def zB9 (t:Nd):Bool:=(t.kind == 1)&&(zJd t&&(decide (t.cnt<=1000)&&decide (t.dep<=24)))
abbrev okN (t:Nd) (x d:Nat):Prop:=zJd t=true/\x+t.cnt<=1000/\d+t.dep<=25
abbrev okNs (k:Int) (vs:List Nd) (x d:Nat):Prop:=zJe k vs=true/\x+Nd.cnts vs<=1000/\d+Nd.deps vs<=24
theorem zKx {F:(Unit×Int)->Nd->Int->Option (Bool×(Unit×Int))}{k:Int}{ks:List Nd}{d:Nat} (hd:d<=24)
  (hF:∀ v∈ks,∀ x:Nat,x<=1000->∃ y,F ((),(x:Int)) v ((d+1:Nat):Int)=some (decide (okN v x (d+1)),((),y))/\(okN v x (d+1)->y=((x+v.cnt:Nat):Int))) (hl:ks.length<=1073741824) :
  ∀ (q i x:Nat),ks.length - i<q->i<=ks.length->x<=1000 ->
   (okNs k (ks.drop i) x d/\zAG F k ks (d:Int) q (x:Int) (i:Int)=some (.go ((x+Nd.cnts (ks.drop i):Nat):Int))) ∨
   (¬ okNs k (ks.drop i) x d/\∃ z,zAG F k ks (d:Int) q (x:Int) (i:Int)=some (.ret (false,((),z))))
 | 0,_,_,h,_,_=>by omega
 | q+1,i,x,hq,hi,hx=>by
  unfold zAG
  by_cases h:i<ks.length
  ·rw[zCK (Int.ofNat_lt.2 h),cond_true,zFv h]
   obtain⟨y,hf,hy⟩:=hF _ (List.getElem_mem h) x hx;have g1:=zNL (k:=k) h;have g2:=Nd.cnts_drop h;have g3:=zOk h;rcases e:ks[i] with ⟨a,b,c,ds⟩
   rw[e]at hf hy g1 g2 g3;simp only[Option.bind_some]
   rw[zCY (by omega),zCY (by omega),hf]
   simp only[Option.bind_some]
   have g4:Nd.deps (ks.drop i)=Nat.max (Nd.mk a b c ds).dep (Nd.deps (ks.drop (i+1))):=g3;have g5:(Nd.mk a b c ds).dep<=Nd.deps (ks.drop i) :=(by rw[g4]; exact Nat.le_max_left _ _);have g6:Nd.deps (ks.drop (i+1))<=Nd.deps (ks.drop i) :=(by rw[g4]; exact Nat.le_max_right _ _);rw[show((k == 1) == (a == 1))=((a == 1) == (k == 1)) by cases k == 1 <;> cases a == 1 <;> rfl]
   cases hkk:((a == 1) == (k == 1)) with
   | true =>
    simp only[cond_true,Option.bind_some]
    refine .inr ⟨fun⟨h1,_⟩=>?_,_,rfl⟩
    rw[g1]at h1;simp[Nd.kind,hkk]at h1
   | false =>
    simp only[cond_false,Option.bind_some]
    by_cases hok:okN (Nd.mk a b c ds) x (d+1)
    ·rw[zCK hok]
     simp only[Bool.not_true,cond_false]
     rw[hy hok]
     have hp:=(Nd.mk a b c ds).cnt_pos;rcases zKx hd hF hl q (i+1) (x+(Nd.mk a b c ds).cnt) (by omega) (by omega) hok.2.1 with ⟨hr,hr2⟩ | ⟨hr,z,hr2⟩
     ·refine .inl ⟨⟨?_,?_,?_⟩,?_⟩
      ·rw[g1,hr.1,hok.1]; simp[Nd.kind,hkk]
      ·have:=hr.2.1; omega
      ·have:=hr.2.2;have:=hok.2.2;have:Nd.deps (ks.drop i)<=24 - d:=by rw[g4]; exact Nat.max_le.2 ⟨by omega,by omega⟩
       omega
      ·rw[hr2,g2]; congr 3; omega
     ·refine .inr ⟨fun⟨h1,h2,h3⟩=>hr ⟨?_,by omega,by omega⟩,z,hr2⟩
      rw[g1]at h1;simp only[Bool.and_eq_true]at h1;exact h1.2
    ·rw[zCd hok]
     simp only[Bool.not_false,cond_true]
     refine .inr ⟨fun⟨h1,h2,h3⟩=>hok ⟨?_,by omega,by omega⟩,y,rfl⟩
     rw[g1]at h1;simp only[Bool.and_eq_true]at h1;exact h1.1.2
  ·rw[zCd (by omega),cond_false]
   obtain rfl:i=ks.length :=(by omega);rw[List.drop_length]
   exact .inl ⟨⟨rfl,hx,hd⟩,rfl⟩
theorem zNj:∀ (n:Nat) (t:Nd) (x d:Nat),t.w+45<n->t.w<=67108864->x<=1000->d<=25 ->
  ∃ y,zAL n ((),(x:Int)) t (d:Int)=some (decide (okN t x d),((),y))/\(okN t x d->y=((x+t.cnt:Nat):Int))
 | 0,_,_,_,h,_,_,_=>by omega
 | n+1,.mk k t c ks,x,d,h,hb,hx,hd=>by
  simp only[Nd.w]at h hb;have hl:=Nd.ws_len ks;unfold zAL;rw[zCY (by omega)]
  by_cases h1:1000<((x+1:Nat):Int)
  ·rw[zCK h1]
   simp only[cond_true,Option.bind_some]
   have hn:¬ okN (.mk k t c ks) x d:=fun⟨_,h2,_⟩=>by simp only[Nd.cnt]at h2; omega
   exact⟨_,by rw[zCd hn],fun h=>absurd h hn⟩
  ·rw[zCd h1,cond_false]
   by_cases h2:24<(d:Int)
   ·rw[zCK h2]
    simp only[cond_true,Option.bind_some]
    have hn:¬ okN (.mk k t c ks) x d:=fun⟨_,_,h2⟩=>by simp only[Nd.dep]at h2; omega
    exact⟨_,by rw[zCd hn],fun h=>absurd h hn⟩
   ·rw[zCd h2,cond_false,zQr n _ k t c ks (by omega) (by omega)]
    simp only[Option.bind_some]
    cases ho:(zOX k t&&zOp k c (ks.length:Int)) with
    | false =>
     simp only[Bool.not_false,cond_true]
     have hn:¬ okN (.mk k t c ks) x d:=fun⟨h1,_⟩=>by rw[zJd,ho]at h1; cases h1
     exact⟨_,by rw[zCd hn],fun h=>absurd h hn⟩
    | true =>
     simp only[Bool.not_true,cond_false]
     have:=zKx (F:=zAL n) (k:=k) (ks:=ks) (d:=d) (by omega) (fun v hv z hz=>zNj n v z (d+1) (by have:=Nd.w_mem hv; omega) (by have:=Nd.w_mem hv; omega) hz (by omega)) (by omega) n 0 (x+1) (by omega) (by omega) (by omega)
     rw[show((0:Nat):Int)=0 from rfl,List.drop_zero]at this;rcases this with ⟨hr,hr2⟩ | ⟨hr,z,hr2⟩
     ·have hy:okN (.mk k t c ks) x d:=⟨by rw[zJd,ho,hr.1]; rfl,by have:=hr.2.1; simp only[Nd.cnt]; omega,by have:=hr.2.2; simp only[Nd.dep]; omega⟩
      rw[hr2]
      exact⟨_,by rw[zCK hy]; rfl,fun _=>by simp only[Nd.cnt]; omega⟩
     ·have hn:¬ okN (.mk k t c ks) x d:=fun⟨g1,g2,g3⟩=>hr ⟨by rw[zJd,ho]at g1; exact g1,by simp only[Nd.cnt]at g2; omega,by simp only[Nd.dep]at g3; omega⟩
      rw[hr2]
      exact⟨_,by rw[zCd hn]; rfl,fun h=>absurd h hn⟩
theorem zHF (n:Nat) (t:Nd) (h:t.w+45<n) (hb:t.w<=67108864):zAS n t=some (zB9 t):=by
 obtain⟨y,h1,_⟩:=zNj n t 0 1 h hb (by omega) (by omega)
 rw[show((0:Nat):Int)=0 from rfl,show((1:Nat):Int)=1 from rfl]at h1;obtain⟨k,s,c,ks⟩:=t;unfold zAS zB9;have hk:zEE=some ():=rfl;simp only[hk,h1,Option.bind_some,Nd.kind]
 cases k == 1 with
 | false=>rfl
 | true =>
  simp only[cond_true,Option.bind_some,Bool.true_and,Option.some.injEq,okN]
  cases zJd (.mk k s c ks) with
  | false=>simp
  | true =>
   by_cases g1:(Nd.mk k s c ks).cnt<=1000
   ·by_cases g2:(Nd.mk k s c ks).dep<=24
    ·rw[zCK g1,zCK g2,zCK ⟨rfl,by omega,by omega⟩]; rfl
    ·rw[zCK g1,zCd g2,zCd (fun h=>g2 (by omega))]; rfl
   ·rw[zCd g1,zCd (fun h=>g1 (by omega))]; rfl
def Nd.text:Nd->List UInt8 | .mk _ t _ _=>t
def Nd.cols:Nd->Int | .mk _ _ c _=>c
def zQf (x y:Nd):Bool:=(x.kind == y.kind)&&(((x.kids.length:Int) == (y.kids.length:Int))&&(x.cols == y.cols))
def rowD (P:Nd->Nd->Nat) (x:Nd) (f:List Nd->Nat):List Nd->Nat
 | []=>x.cnt+f []
 | y::ys=>if zQf x y then min (min (x.cnt+f (y::ys)) (y.cnt+rowD P x f ys)) (P x y+f ys) else min (x.cnt+f (y::ys)) (y.cnt+rowD P x f ys)
def TD (P:Nd->Nd->Nat):List Nd->List Nd->Nat
 | []=>Nd.cnts
 | x::xs=>rowD P x (TD P xs)
def sumD (f:List Nd->List Nd->Nat):List Nd->List Nd->Nat
 | u::us,v::vs=>f u.kids v.kids+sumD f us vs
 | _,_=>0
def txt (x y:Nd):Nat:=bif x.text == y.text then 0 else 1
def PD:Nat->Nd->Nd->Nat
 | 0,_,_=>0
 | n+1,x,y=>txt x y+sumD (TD (PD n)) x.kids y.kids
def D (x y:Nd):Nat:=PD x.cnt x y
theorem zMA {F:Nd->Nd->Option Bool}{a b:List Nd} (hF:∀ u∈a,∀ v∈b,∃ y,F u v=some y/\(y=true↔u=v)) (hl:a.length=b.length) (hb:a.length<=1073741824) :
  ∀ (q i:Nat),a.length - i<q->i<=a.length->∃ y,zA4 F a b q (i:Int)=some (if y then .go () else .ret false)/\(y=true↔a.drop i=b.drop i)
 | 0,_,h,_=>by omega
 | q+1,i,hq,hi=>by
  unfold zA4
  by_cases h:i<a.length
  ·have h':i<b.length :=(by omega);rw[zCK (Int.ofNat_lt.2 h),cond_true,zFv h,zFv h']
   obtain⟨y,f1,f2⟩:=hF _ (List.getElem_mem h) _ (List.getElem_mem h')
   have d1:=List.drop_eq_getElem_cons h;have d2:=List.drop_eq_getElem_cons h';rcases e:a[i] with ⟨x1,x2,x3,x4⟩
   rcases e':b[i] with ⟨y1,y2,y3,y4⟩
   rw[e,e']at f1 f2;rw[e]at d1;rw[e']at d2;simp only[Option.bind_some,f1]
   cases y with
   | false =>
    refine⟨false,rfl,⟨(fun h=>by cases h),fun h=>?_⟩⟩
    rw[d1,d2]at h;exact f2.2 (List.cons.inj h).1
   | true =>
    simp only[Bool.not_true,cond_false]
    rw[zCY (by omega)]
    obtain⟨z,g1,g2⟩:=zMA hF hl hb q (i+1) (by omega) (by omega)
    refine⟨z,g1,?_⟩
    rw[d1,d2,g2,f2.1 rfl]
    simp
  ·rw[zCd (by omega),cond_false]
   obtain rfl:i=a.length :=(by omega);refine⟨true,rfl,?_⟩
   rw[List.drop_length,hl,List.drop_length]
   simp
theorem zNg:∀ N:Nat,(∀ x y:Nd,2 * x.cnt<N->x.cnt<=67108864->∃ r,zBk N x y=some r/\(r=true↔x=y)) /\
  (∀ a b:List Nd,2 * Nd.cnts a+1<N->Nd.cnts a<=67108864->∃ r,zBK N a b=some r/\(r=true↔a=b))
 | 0=>⟨fun _ _ h _=>by omega,fun _ _ h _=>by omega⟩
 | n+1=>by
  obtain⟨ih1,ih2⟩:=zNg n;refine⟨fun x y h hx=>?_,fun a b h ha=>?_⟩
  ·obtain⟨a,b,c,d⟩:=x;obtain⟨a',b',c',d'⟩:=y;simp only[Nd.cnt]at h hx;obtain⟨r,h1,h2⟩:=ih2 d d' (by omega) (by omega)
   unfold zBk;simp only[h1,Option.bind_some]
   cases e1:a == a' with
   | false=>exact⟨false,rfl,⟨(fun h=>by cases h),fun h=>by cases h; simp at e1⟩⟩
   | true =>
    cases e2:b == b' with
    | false=>exact⟨false,rfl,⟨(fun h=>by cases h),fun h=>by cases h; simp at e2⟩⟩
    | true =>
     cases e3:c == c' with
     | false=>exact⟨false,rfl,⟨(fun h=>by cases h),fun h=>by cases h; simp at e3⟩⟩
     | true =>
      refine⟨r,rfl,h2.trans ⟨fun h=>?_,fun h=>by cases h; rfl⟩⟩
      rw[eq_of_beq e1,eq_of_beq e2,eq_of_beq e3,h]
  ·unfold zBK;have l1:=Nd.cnts_len a
   by_cases hl:a.length=b.length
   ·obtain⟨y,g1,g2⟩:=zMA (F:=zBk n) (a:=a) (b:=b) (fun u hu v _=>ih1 u v (by have:=Nd.cnts_mem hu; omega) (by have:=Nd.cnts_mem hu; omega)) hl (by omega) n 0 (by omega) (by omega)
    rw[show((0:Nat):Int)=0 from rfl]at g1;rw[hl,bne_self_eq_false,cond_false,g1]
    refine⟨y,by cases y <;> rfl,g2⟩
   ·have:((a.length:Int) != (b.length:Int))=true:=by
     unfold bne;rw[zQo (by omega)]; rfl
    rw[this]
    exact⟨false,rfl,⟨(fun h=>by cases h),fun h=>absurd (congrArg List.length h) hl⟩⟩
inductive Fd:Nd->List Int->Nd->Prop
 | nil (t:Nd):Fd t [] t
 | step {k:Int} {tx:List UInt8} {c:Int} {ks:List Nd} {i:Nat} {k2:Int} {tx2:List UInt8} {c2:Int} {ks2:List Nd} {s:Nat} {z r:Nd} {p:List Int}
   (hi:ks[i]? = some (.mk k2 tx2 c2 ks2)) (hs:ks2[s]? = some z) (h:Fd z p r):Fd (.mk k tx c ks) ((i:Int)::(s:Int)::p) r
def inL:List Nd->List Int->Prop
 | l,[o]=>0<=o/\o<=(l.length:Int)
 | l,i::s::r=>0<=i/\∃ x,l[i.toNat]? = some x/\0<=s/\∃ u,x.kids[s.toNat]? = some u/\inL u.kids r
 | _,[]=>False
def hd (l:List UInt8) (s:List UInt8):Prop:=∀ b r,l=b::r->b∈s
theorem zMT {t:Nd} (h:t.cnt<=1000000000):zAR t=some t:=zIF h
abbrev Op8:=Int×List Int×Int×Int×List Nd×Int×List UInt8×List UInt8
def Op8.nodes (o:Op8):List Nd:=o.2.2.2.2.1
def splS (l:List Nd) (p q:Nat) (b:List Nd):List Nd:=(l.take p++b)++l.drop q
def segS (l:List Nd) (p q:Nat):List Nd:=(l.take q).drop p
def rowN (l:List Nd):Nd:=.mk 1 [] 0 l
def zPV (v:Nd) (s:Nat) (l:List Nd):Nd:=.mk v.kind v.text v.cols (v.kids.set s (rowN l))
def zQn (k:Int):Bool:=(k == 2)||((k == 3)||((k == 4)||((k == 10)||(k == 11))))
def zQB (k m:Int) (nodes:List Nd):Int:=if k=1 then 0 else if k=2 then nodes.length else if k=3 then m else 1
def zQd (nodes:List Nd) (slot:Int):Prop:=∃ (v:Nd) (s:Nat) (z:Nd),nodes=[v]/\slot=(s:Int)/\zB9 (rowN [v])=true/\v.kids[s]? = some z/\z.kids=[]
def zN7:Op8->Prop
 | (k,_,_,m,nodes,slot,old,text) =>
  ((k=1∨k=2)/\nodes ≠ []/\zB9 (rowN nodes)=true/\m=0/\slot=0/\old=[]/\text=[]) ∨
  ((k=3∨k=4)/\0<=m/\zQd nodes slot/\old=[]/\text=[]) ∨
  (k=5/\old ≠ text/\nodes=[]/\m=0/\slot=0)
inductive Chg (l:List Nd):Op8->List Nd->Int->Prop
 | range {k:Int} {row:List Int} {a m:Int} {nodes:List Nd} {slot:Int} {old text:List UInt8} (h:a<0∨(l.length:Int)<a∨(l.length:Int) - a<zQB k m nodes):Chg l (k,row,a,m,nodes,slot,old,text) [] 2
 | ins {row:List Int} {p:Nat} {m:Int} {nodes:List Nd} {slot:Int} {old text:List UInt8} (h:p<=l.length):Chg l (1,row,(p:Int),m,nodes,slot,old,text) (splS l p p nodes) 0
 | del {row:List Int} {p:Nat} {m:Int} {nodes:List Nd} {slot:Int} {old text:List UInt8} (h:p+nodes.length<=l.length) (he:segS l p (p+nodes.length)=nodes):Chg l (2,row,(p:Int),m,nodes,slot,old,text) (splS l p (p+nodes.length) []) 0
 | del_no {row:List Int} {p:Nat} {m:Int} {nodes:List Nd} {slot:Int} {old text:List UInt8} (h:p+nodes.length<=l.length) (he:segS l p (p+nodes.length) ≠ nodes):Chg l (2,row,(p:Int),m,nodes,slot,old,text) [] 7
 | wrap {row:List Int} {p m:Nat} {v:Nd} {s:Nat} {old text:List UInt8} (h:p+m<=l.length):Chg l (3,row,(p:Int),(m:Int),[v],(s:Int),old,text) (splS l p (p+m) [zPV v s (segS l p (p+m))]) 0
 | unwrap {row:List Int} {p:Nat} {m:Int} {v it z:Nd} {s:Nat} {old text:List UInt8} (h:l[p]? = some it) (hz:it.kids[s]? = some z) (hm:(z.kids.length:Int)=m) (he:it=zPV v s z.kids):Chg l (4,row,(p:Int),m,[v],(s:Int),old,text) (splS l p (p+1) z.kids) 0
 | unwrap_no {row:List Int} {p:Nat} {m:Int} {v it:Nd} {s:Nat} {old text:List UInt8} (h:l[p]? = some it) (hz:∀ z,it.kids[s]? = some z->(z.kids.length:Int)=m->it ≠ zPV v s z.kids):Chg l (4,row,(p:Int),m,[v],(s:Int),old,text) [] 7
 | set {row:List Int} {p:Nat} {m:Int} {nodes:List Nd} {it:Nd} {slot:Int} {old text:List UInt8} (h:l[p]? = some it) (hl:zQn it.kind=true) (he:it.text=old):Chg l (5,row,(p:Int),m,nodes,slot,old,text) (splS l p (p+1) [.mk it.kind text it.cols it.kids]) 0
 | set_no {row:List Int} {p:Nat} {m:Int} {nodes:List Nd} {it:Nd} {slot:Int} {old text:List UInt8} (h:l[p]? = some it) (hl:¬ (zQn it.kind=true/\it.text=old)):Chg l (5,row,(p:Int),m,nodes,slot,old,text) [] 7
inductive App (t:Nd):Op8->Nd->Int->Prop
 | arg {o:Op8} (h:zB9 t=false):App t o zFd 1
 | form {o:Op8} (h:zB9 t=true) (hf:¬ zN7 o):App t o zFd 4
 | none {o:Op8} (h:zB9 t=true) (hf:zN7 o) (hn:zDT t o.2.1=Option.none):App t o zFd 8
 | chg {o:Op8} {r:Nd} {l:List Nd} {e:Int} (h:zB9 t=true) (hf:zN7 o) (hr:Fd t o.2.1 r) (hc:Chg r.kids o l e) (he:e ≠ 0):App t o zFd e
 | limit {o:Op8} {r:Nd} {l:List Nd} (h:zB9 t=true) (hf:zN7 o) (hr:Fd t o.2.1 r) (hc:Chg r.kids o l 0) (hv:zB9 (putL t o.2.1 (rowN l))=false):App t o zFd 6
 | ok {o:Op8} {r:Nd} {l:List Nd} (h:zB9 t=true) (hf:zN7 o) (hr:Fd t o.2.1 r) (hc:Chg r.kids o l 0) (hv:zB9 (putL t o.2.1 (rowN l))=true):App t o (putL t o.2.1 (rowN l)) 0
def Op8.row (o:Op8):List Int:=o.2.1
def Op8.text (o:Op8):List UInt8:=o.2.2.2.2.2.2.2
inductive Runs:Nd->List Op8->Nd->Int->Prop
 | nil (t:Nd):Runs t [] t 0
 | stop {t t':Nd} {o:Op8} {ops:List Op8} {e:Int} (h:App t o t' e) (he:e ≠ 0):Runs t (o::ops) zFd e
 | next {t t' u:Nd} {o:Op8} {ops:List Op8} {e:Int} (h:App t o t' 0) (hr:Runs t' ops u e):Runs t (o::ops) u e
def invO:Op8->Op8
 | (k,row,a,m,nodes,slot,old,text) =>
  (if k=1 then 2 else if k=2 then 1 else if k=3 then 4 else if k=4 then 3 else k,row,a,m,nodes,slot,if k=5 then text else old,if k=5 then old else text)
theorem zNe {t:Nd} (h:zB9 t=true):t.kind=1/\zJd t=true/\t.cnt<=1000/\t.dep<=24:=by
 unfold zB9 at h;simp only[Bool.and_eq_true,decide_eq_true_eq]at h;exact⟨eq_of_beq h.1,h.2⟩
def opw (o:Op8):Nat:=Nd.ws o.nodes+o.text.length+4
def sw:List Op8->Nat
 | []=>0
 | o::l=>opw o+sw l
theorem zPN:∀ l:List Op8,4 * l.length<=sw l
 | []=>Nat.zero_le _
 | o::l=>by
  have:=zPN l;simp only[List.length_cons,sw,opw]
  omega
end Go.Proofs.Ytgplhldfbkmmgaa
