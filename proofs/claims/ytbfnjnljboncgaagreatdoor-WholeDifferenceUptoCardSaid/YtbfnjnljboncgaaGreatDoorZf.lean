/-
  Joined out of: DtT, LwA, LwC, XrA, XrQ, XrB, XrC, XrD, XrE, XrX, RfE, XrY, XrZ, XtA, LibX, DtW, PTypO, PCnt, PByte, PText, PVal, PDist.
-/
import Derived.Test.YtbfnjnljboncgaaGreatDoorZe
set_option linter.unusedVariables false
set_option linter.unusedSimpArgs false
set_option maxHeartbeats 2000000
set_option maxRecDepth 100000
namespace Go.Proofs.YtbfnjnljboncgaaGreatDoor
open Go.Abs
def zQn (n:Nat) (xs:List AV) (os:List Ob) (x:AV) (os':List (Option Ob)):Prop:=∃ (a0:zO8) (a1:List zO8) (z0:List zO8),zCR n a0 a1=some z0/\xs=[.agg ((zAk a0).map .s),.op 0 0]/\os=[.box 25 [.orow 1],.row 30 8 ((List.map zAk) a1)]/\x = .tup []/\os'=[some (.box 25 [.orow 2]),none,some (.row 30 8 ((List.map zAk) z0))]
def zHk:zAp:=zB1 (fun xs os x os'=>∃ n,zQn n xs os x os')
theorem zJL:PSound Tryz.prog 22 zHk:=by
 have gok:∀ f s,look? f [(23,zL5)]=some s->PSound Tryz.prog f s:=zAo (by
  simp only[List.forall_mem_cons]
  exact⟨zOB,by simp⟩)
 refine PSound.withNil (osq tokW Tryz.call22 Tryz.func22 rfl ?_) _;rintro xs os x os' w0 G0 B0 ⟨n,⟨op1A,op1I,op1L,op1J,op1E,op1K,op1H,op1C⟩,o2,z0,h,rfl,rfl,rfl,rfl⟩ _;rw[zCR]at h;refine yAD ?_;show Tri ..;refine zA0 [7] [6] [0,4,5] rfl (by decide +kernel) ?_;obtain⟨⟨y3A,y3I,y3L,y3J,y3E,y3K,y3H,y3C⟩,hy3,h⟩:=zAc h;refine⟨_,⟨_,_,_,hy3,rfl,rfl⟩,?_⟩
 intro r4 hr4;obtain rfl:(List.map zAk) [(y3A,y3I,y3L,y3J,y3E,y3K,y3H,y3C)]=r4:=(hr4.trans zIo).symm;obtain⟨hq,h⟩:=zAK h
 refine And.intro (show(((List.map zAk) o2).length+((List.map zAk) [(y3A,y3I,y3L,y3J,y3E,y3K,y3H,y3C)]).length) * 112<=140737488355328/\((List.map zAk) o2).length+((List.map zAk) [(y3A,y3I,y3L,y3J,y3E,y3K,y3H,y3C)]).length<=9223372036854775807 from by simp only[List.length_append,List.length_cons,List.length_nil,List.length_map,rlen (fun _=>rfl)]at hq ⊢; omega) ?_;have hy:=osi h;subst hy;unfold zCA
 exact⟨_,(Le.trans (Le.rnq [(0,0),(2,2)] [] [(0,.box 25 [.orow 2]),(2,.row 30 8 ((List.map zAk) (o2++[(y3A,y3I,y3L,y3J,y3E,y3K,y3H,y3C)])))] 3 (h2:=⟨rfl,⟨_,rfl,rfl⟩,rfl,⟨_,rfl,congrArg (Ob.row 30 8) zIo⟩,trivial⟩)) (Le.rnq [(0,0),(2,2)] [] [(0,.box 25 [.orow 2]),(2,.row 30 8 ((List.map zAk) (o2++[(y3A,y3I,y3L,y3J,y3E,y3K,y3H,y3C)])))] 3)),rfl,rfl,rfl,rfl,rfl,rfl,trivial⟩
def zIi (n:Nat) (xs:List AV) (r:Ret):Prop:=∃ (a0:List (List Int)) (y0:List Int),zBi n a0=some y0/\xs=[.s (.sl 1 ((List.map zAN) a0))]/\r = .row 3 1 ((List.map (irow .i64)) y0)
def zDF:zAp:=zAu fun xs r=>∃ n,zIi n xs r
theorem zE1:PSound Tryz.prog 46 zDF:=by
 have gok:∀ f s,look? f [(81,zF0)]=some s->PSound Tryz.prog f s:=zAo (by
  simp only[List.forall_mem_cons]
  exact⟨zIY,by simp⟩)
 refine psq tokW Tryz.call46 Tryz.func46 rfl ?_;rintro xs r w0 G0 ⟨n,slices1,y0,h,rfl,rfl⟩ _;rw[zBi]at h;refine zZx [2] [] rfl ?_;refine zAj (Le.rnq [] [(0,.s (.sl 1 ((List.map zAN) slices1)))] [] 0) ?_;refine yAD ?_;refine zAa ?_;refine zZx [] [10] rfl ?_;intro n2 hn2;obtain rfl:=rlE (fun _=>rfl) slices1 hn2;show Tri ..;obtain⟨size5,hl,h⟩:=zAc h;refine zAn ⟨ofL [(0,.s (.sl 1 ((List.map zAN) slices1))),(3,.s (.int .i64 size5))],fun _=>none,0⟩ ?_ (fun σ' hle=>?_)
 ·refine zAi (zAy (X:=Nat×Int×Int) (fun y=>match y with | (k,x3,size4)=>⟨ofL [(0,.s (.sl 1 ((List.map zAN) slices1))),(3,.s (.int .i64 size4)),(9,.s (.sl 1 ((List.map zAN) slices1))),(10,.s (.int .i64 (slices1.length:Int))),(11,.s (.int .i64 x3))],fun _=>none,0⟩) (fun y=>zAG slices1 y.1 y.2.1 y.2.2=some size5) (fun y=>y.1) (n,0,0) hl ?_ ?_)
  ·exact Le.fgt
  ·rintro⟨k,x3,size4⟩ h;cases k with
   | zero=>cases h
   | succ k =>
    replace h:zAG slices1 (k+1) x3 size4=some size5:=h;rw[zAG]at h;refine yAD ?_;refine zAa ?_;refine zAm rfl h (fun hb h=>?_) (fun hb h=>?_)
    ·refine zAf ?_;refine zAa ?_;refine zAi ?_;refine zZx [] [13] rfl ?_;obtain⟨e6,he6,h⟩:=zAc h;refine And.intro (zAq (fun _=>rfl) he6).1 ?_;intro r7 hr7;obtain rfl:[.sl 1 ((List.map (irow .i64)) e6)]=r7:=(hr7.trans (zAq (fun _=>rfl) he6).2.1).symm;refine zZx [] [17] rfl ?_;intro n8 hn8;obtain rfl:=rlE (fun _=>rfl) e6 hn8;refine yAD ?_;refine zAm rfl h (fun hb h=>?_) (fun hb h=>?_)
     ·cases h
     ·refine zAf ?_;refine yAC ?_;refine⟨(k,IntKind.i64.wrap (x3+1),IntKind.i64.wrap (size4+(e6.length:Int))),h,Le.fgt,Nat.lt_succ_self k⟩
    ·refine zAB ?_;cases h;exact Le.fgt
 ·refine zAj hle ?_;refine zZx [24] [] rfl ?_;obtain⟨y9,hy9,h⟩:=zAc h;refine⟨_,⟨_,_,hy9,rfl,rfl⟩,?_⟩
  refine zAa ?_;refine zZx [] [26] rfl ?_;intro n10 hn10;obtain rfl:=rlE (fun _=>rfl) slices1 hn10;show Tri ..;obtain⟨l14,hl,h⟩:=zAc h;refine zAn ⟨ofL [(6,.orow 0)],ofH [(0,.row 3 1 ((List.map (irow .i64)) l14))],1⟩ ?_ (fun σ' hle=>?_)
  ·refine zAi (zAy (X:=Nat×Int×(List Int)) (fun y=>match y with | (k,x11,l13)=>⟨ofL [(6,.orow 0),(25,.s (.sl 1 ((List.map zAN) slices1))),(26,.s (.int .i64 (slices1.length:Int))),(27,.s (.int .i64 x11))],ofH [(0,.row 3 1 ((List.map (irow .i64)) l13))],1⟩) (fun y=>zAH slices1 y.1 y.2.1 y.2.2=some l14) (fun y=>y.1) (n,0,y9) hl ?_ ?_)
   ·exact(Le.rnq [(0,0)] _ _ _)
   ·rintro⟨k,x11,l13⟩ h;cases k with
    | zero=>cases h
    | succ k =>
     replace h:zAH slices1 (k+1) x11 l13=some l14:=h;rw[zAH]at h;refine yAD ?_;refine zAa ?_;refine zAm rfl h (fun hb h=>?_) (fun hb h=>?_)
     ·refine zAf ?_;refine zAa ?_;refine zAi ?_;refine zZx [] [29] rfl ?_;obtain⟨e15,he15,h⟩:=zAc h;refine And.intro (zAq (fun _=>rfl) he15).1 ?_;intro r16 hr16;obtain rfl:[.sl 1 ((List.map (irow .i64)) e15)]=r16:=(hr16.trans (zAq (fun _=>rfl) he15).2.1).symm;refine zAb [33] [] rfl ?_;obtain⟨hq,h⟩:=zAK h
      refine And.intro (show(((List.map (irow .i64)) l13).length+((List.map (irow .i64)) e15).length) * 8<=140737488355328/\((List.map (irow .i64)) l13).length+((List.map (irow .i64)) e15).length<=9223372036854775807 from by simp only[List.length_append,List.length_cons,List.length_nil,List.length_map,rlen (fun _=>rfl)]at hq ⊢; omega) ?_;show Tri ..
      refine zAj (Le.rnq [(1,0)] [(6,.orow 0),(25,.s (.sl 1 ((List.map zAN) slices1))),(26,.s (.int .i64 (slices1.length:Int))),(27,.s (.int .i64 x11))] [(0,.row 3 1 ((List.map (irow .i64)) (l13++e15)))] 1 (h2:=⟨rfl,⟨_,rfl,congrArg (Ob.row 3 1) zIo⟩,trivial⟩)) ?_;refine yAC ?_
      refine⟨(k,IntKind.i64.wrap (x11+1),l13++e15),h,(Le.rnq [(0,0)] _ _ _),Nat.lt_succ_self k⟩
     ·refine zAB ?_;cases h;exact(Le.rnq [(0,0)] _ _ _)
  ·refine zAj hle ?_;refine yAD ?_;refine zAh ?_;have hy:=osi h;subst hy;unfold zC4;exact⟨_,Le.refl _ _,0,rfl,rfl⟩
def zCG (n:Nat) (xs:List AV) (os:List Ob) (x:AV) (os':List (Option Ob)):Prop:=∃ (a0:List Nd) (a1:List Nd) (a2:List Int) (a3:List zO8) (z0:List zO8),zAT n a0 a1 a2 a3=some z0/\xs=[.s (.sl 4 (Nd.encs a0)),.s (.sl 4 (Nd.encs a1)),.s (.sl 1 ((List.map (irow .i64)) a2)),.clo 22 [.op 0 0]]/\os=[.box 25 [.orow 1],.row 30 8 ((List.map zAk) a3)]/\x = .tup []/\os'=[some (.box 25 [.orow 2]),none,some (.row 30 8 ((List.map zAk) z0))]
theorem zIp (n:Nat) (ih:PSound Tryz.prog 25 (zB1 (zCG n))):PSound Tryz.prog 25 (zB1 (zCG (n+1))):=by
 have gok:∀ f s,look? f [(44,zHl),(22,zHk),(46,zDF),(25,zB1 (zCG n))]=some s->PSound Tryz.prog f s:=zAo (by
  simp only[List.forall_mem_cons]
  exact⟨zJM,zJL,zE1,ih,by simp⟩)
 refine PSound.withNil (osq tokW Tryz.call25 Tryz.func25 rfl ?_) _;rintro xs os x os' w0 G0 B0 ⟨a1,a2,a3,o4,z0,h,rfl,rfl,rfl,rfl⟩ _;rw[zAT]at h;refine yAD ?_;obtain⟨y5,hy5,h⟩:=zAc h;refine⟨_,⟨_,_,_,_,hy5,rfl,rfl⟩,?_⟩
 refine zZx [] [17] rfl ?_;intro n6 hn6;obtain rfl:=rlE Nd.encs_eq a2 hn6;show Tri ..;obtain⟨l11,hl,h⟩:=zAc h;refine zAn ⟨ofL [],ofH [(0,.box 25 [.orow 2]),(2,.row 30 8 ((List.map zAk) l11))],3⟩ ?_ (fun σ' hle=>?_)
 ·refine zAi (zAy (X:=Nat×Int×(List (Int×Int))×(List zO8)) (fun y=>match y with | (k,x8,x9,l10)=>⟨ofL [(0,.s (.sl 4 (Nd.encs a1))),(2,.s (.sl 1 ((List.map (irow .i64)) a3))),(3,.clo 22 [.op 0 0]),(8,.s (.sl 2 ((List.map zAE) x9))),(16,.s (.sl 4 (Nd.encs a2))),(17,.s (.int .i64 (a2.length:Int))),(18,.s (.int .i64 x8))],ofH [(0,.box 25 [.orow 2]),(2,.row 30 8 ((List.map zAk) l10))],3⟩) (fun y=>zBf (zAT n) n a1 a2 a3 y.1 y.2.1 y.2.2.1 y.2.2.2=some l11) (fun y=>y.1) (n,0,y5,o4) hl ?_ ?_)
  ·exact(Le.rnq [(0,0),(1,2)] _ _ _)
  ·rintro⟨k,x8,x9,l10⟩ h;cases k with
   | zero=>cases h
   | succ k =>
    replace h:zBf (zAT n) n a1 a2 a3 (k+1) x8 x9 l10=some l11:=h;rw[zBf]at h;refine yAD ?_;refine zAa ?_;refine zAm rfl h (fun hb h=>?_) (fun hb h=>?_)
    ·refine zAf ?_;refine zAa ?_;obtain⟨⟨x12,l13⟩,hj,h⟩:=zAc h;refine zAn ⟨ofL [(0,.s (.sl 4 (Nd.encs a1))),(2,.s (.sl 1 ((List.map (irow .i64)) a3))),(3,.clo 22 [.op 0 0]),(8,.s (.sl 2 ((List.map zAE) x12))),(16,.s (.sl 4 (Nd.encs a2))),(17,.s (.int .i64 (a2.length:Int))),(18,.s (.int .i64 x8))],ofH [(0,.box 25 [.orow 2]),(2,.row 30 8 ((List.map zAk) l13))],3⟩ ?_ (fun σ' hle=>?_)
     ·replace h:=hj;refine zAi ?_;refine zZx [10] [21] rfl ?_;obtain⟨⟨e14A,e14C,e14D,e14B⟩,he14,h⟩:=zAc h;refine And.intro (zAq Nd.encs_eq he14).1 ?_;intro r15 hr15;obtain rfl:[.int .i64 e14A,.str e14C,.int .i64 e14D,.sl 4 (Nd.encs e14B)]=r15:=(hr15.trans (zAq Nd.encs_eq he14).2.1).symm;refine zAj (Le.giveBox 3 [.int .i64 e14A,.str e14C,.int .i64 e14D,.sl 4 (Nd.encs e14B)] rfl rfl) ?_;refine zAa ?_;refine zAa ?_;obtain⟨x16,hj,h⟩:=zAc h
      refine zAn ⟨ofL [(0,.s (.sl 4 (Nd.encs a1))),(2,.s (.sl 1 ((List.map (irow .i64)) a3))),(3,.clo 22 [.op 0 0]),(8,.s (.sl 2 ((List.map zAE) x9))),(9,.s (.int .i64 x8)),(10,.s (.pt [.int .i64 e14A,.str e14C,.int .i64 e14D,.sl 4 (Nd.encs e14B)])),(16,.s (.sl 4 (Nd.encs a2))),(17,.s (.int .i64 (a2.length:Int))),(18,.s (.int .i64 x8)),(33,.s (.bool x16))],ofH [(0,.box 25 [.orow 2]),(2,.row 30 8 ((List.map zAk) l10))],3⟩ ?_ (fun σ' hle=>?_)
      ·replace h:=hj;refine zAb [] [24,26,28] rfl ?_;intro n17 hn17;obtain rfl:=rlE (fun _=>rfl) x9 hn17;intro b hb;cases b with
       | true =>
        replace h:=zAw hb.symm h;cases h;exact(Le.rnq [(0,0),(2,2)] _ _ _)
       | false =>
        replace h:=zAv hb.symm h;obtain⟨⟨e18Ac,e18Ad⟩,he18,h⟩:=zAc h;refine And.intro (zAq (fun _=>rfl) he18).1 ?_;intro r19 hr19;obtain rfl:[.int .i64 e18Ac,.int .i64 e18Ad]=r19:=(hr19.trans (zAq (fun _=>rfl) he18).2.1).symm;refine And.intro (by decide) ?_;cases h;exact(Le.rnq [(0,0),(2,2)] _ _ _)
      ·refine zAj hle ?_;refine zAm rfl h (fun hb h=>?_) (fun hb h=>?_)
       ·refine zZx [] [38] rfl ?_;intro r20 hr20;obtain rfl:Nd.encs [Nd.mk e14A e14C e14D e14B]=r20:=(hr20.trans zIo).symm;obtain⟨w21,hw21,h⟩:=zAc h;refine⟨_,_,⟨_,_,_,_,hw21,rfl,rfl,rfl,rfl⟩,?_⟩
        show Tri ..;refine zAB ?_;cases h;exact(Le.rnq [(0,0),(3,2)] _ _ _)
       ·refine zAf ?_;refine zZx [11] [43,46] rfl ?_;obtain⟨⟨e22Ac,e22Ad⟩,he22,h⟩:=zAc h;refine And.intro (zAq (fun _=>rfl) he22).1 ?_;intro r23 hr23;obtain rfl:[.int .i64 e22Ac,.int .i64 e22Ad]=r23:=(hr23.trans (zAq (fun _=>rfl) he22).2.1).symm;refine And.intro (by decide) ?_;obtain⟨⟨e24A,e24C,e24D,e24B⟩,he24,h⟩:=zAc h;refine And.intro (zAq Nd.encs_eq he24).1 ?_;intro r25 hr25;obtain rfl:[.int .i64 e24A,.str e24C,.int .i64 e24D,.sl 4 (Nd.encs e24B)]=r25:=(hr25.trans (zAq Nd.encs_eq he24).2.1).symm;show Tri ..
        refine zAj (Le.giveBox 3 [.int .i64 e24A,.str e24C,.int .i64 e24D,.sl 4 (Nd.encs e24B)] rfl rfl) ?_;refine zZx [] [49] rfl ?_;obtain⟨hq,h⟩:=zAK h;refine And.intro ⟨hq.1,Int.le_trans hq.2.1 (Int.ofNat_le.2 (Nat.le_of_eq (rlen (fun _=>rfl) _).symm)),Int.le_refl _⟩ ?_;intro r26 hr26;obtain rfl:(List.map zAE) ((x9.take (x9.length:Int).toNat).drop (1:Int).toNat)=r26:=(hr26.trans ((congrArg (fun m:Nat=>(((List.map zAE) x9).take m).drop (1:Int).toNat) (rlen (fun _=>rfl) _)).trans (rcut (fun _=>rfl) _ _ _))).symm;refine zAa ?_;refine yAD ?_
        show Tri ..;obtain⟨l27,hj,h⟩:=zAc h;refine zAn ⟨ofL [(0,.s (.sl 4 (Nd.encs a1))),(2,.s (.sl 1 ((List.map (irow .i64)) a3))),(3,.clo 22 [.op 0 0]),(8,.s (.sl 2 ((List.map zAE) ((x9.take (x9.length:Int).toNat).drop (1:Int).toNat)))),(9,.s (.int .i64 x8)),(10,.s (.pt [.int .i64 e14A,.str e14C,.int .i64 e14D,.sl 4 (Nd.encs e14B)])),(11,.s (.pt [.int .i64 e24A,.str e24C,.int .i64 e24D,.sl 4 (Nd.encs e24B)])),(16,.s (.sl 4 (Nd.encs a2))),(17,.s (.int .i64 (a2.length:Int))),(18,.s (.int .i64 x8))],ofH [(0,.box 25 [.orow 2]),(2,.row 30 8 ((List.map zAk) l27))],3⟩ ?_ (fun σ' hle=>?_)
        ·replace h:=hj;refine zAm rfl h (fun hb h=>?_) (fun hb h=>?_)
         ·refine yAC ?_;obtain⟨w28,hw28,h⟩:=zAc h;refine⟨_,_,⟨_,_,_,_,hw28,rfl,rfl,rfl,rfl⟩,?_⟩
          cases h;exact(Le.rnq [(0,0),(4,2)] _ _ _)
         ·refine zAf ?_;cases h;exact(Le.rnq [(0,0),(2,2)] _ _ _)
        ·refine zAj hle ?_;refine zZx [] [66] rfl ?_;intro n29 hn29;obtain rfl:=rlE Nd.encs_eq e14B hn29;show Tri ..;obtain⟨l33,hl,h⟩:=zAc h;refine zAn ⟨ofL [(0,.s (.sl 4 (Nd.encs a1))),(2,.s (.sl 1 ((List.map (irow .i64)) a3))),(3,.clo 22 [.op 0 0]),(8,.s (.sl 2 ((List.map zAE) ((x9.take (x9.length:Int).toNat).drop (1:Int).toNat)))),(16,.s (.sl 4 (Nd.encs a2))),(17,.s (.int .i64 (a2.length:Int))),(18,.s (.int .i64 x8))],ofH [(0,.box 25 [.orow 2]),(2,.row 30 8 ((List.map zAk) l33))],3⟩ ?_ (fun σ' hle=>?_)
         ·refine zAi (zAy (X:=Nat×Int×(List zO8)) (fun y=>match y with | (k,x31,l32)=>⟨ofL [(0,.s (.sl 4 (Nd.encs a1))),(2,.s (.sl 1 ((List.map (irow .i64)) a3))),(3,.clo 22 [.op 0 0]),(8,.s (.sl 2 ((List.map zAE) ((x9.take (x9.length:Int).toNat).drop (1:Int).toNat)))),(9,.s (.int .i64 x8)),(10,.s (.pt [.int .i64 e14A,.str e14C,.int .i64 e14D,.sl 4 (Nd.encs e14B)])),(11,.s (.pt [.int .i64 e24A,.str e24C,.int .i64 e24D,.sl 4 (Nd.encs e24B)])),(16,.s (.sl 4 (Nd.encs a2))),(17,.s (.int .i64 (a2.length:Int))),(18,.s (.int .i64 x8)),(66,.s (.int .i64 (e14B.length:Int))),(67,.s (.int .i64 x31))],ofH [(0,.box 25 [.orow 2]),(2,.row 30 8 ((List.map zAk) l32))],3⟩) (fun y=>zBg (zAT n) n a3 x8 e14B e24B y.1 y.2.1 y.2.2=some l33) (fun y=>y.1) (n,0,l27) hl ?_ ?_)
          ·exact(Le.rnq [(0,0),(2,2)] _ _ _)
          ·rintro⟨k,x31,l32⟩ h;cases k with
           | zero=>cases h
           | succ k =>
            replace h:zBg (zAT n) n a3 x8 e14B e24B (k+1) x31 l32=some l33:=h;rw[zBg]at h;refine yAD ?_;refine zAa ?_;refine zAm rfl h (fun hb h=>?_) (fun hb h=>?_)
            ·refine zAf ?_;refine zAa ?_;refine zAi ?_;refine yAD ?_;show Tri ..;refine zA0 [] [73,79,85,86] [19] rfl (by decide +kernel) ?_;obtain⟨⟨e34A,e34C,e34D,e34B⟩,he34,h⟩:=zAc h;refine And.intro (zAq Nd.encs_eq he34).1 ?_;intro r35 hr35;obtain rfl:[.int .i64 e34A,.str e34C,.int .i64 e34D,.sl 4 (Nd.encs e34B)]=r35:=(hr35.trans (zAq Nd.encs_eq he34).2.1).symm;obtain⟨⟨e36A,e36C,e36D,e36B⟩,he36,h⟩:=zAc h;refine And.intro (zAq Nd.encs_eq he36).1 ?_;intro r37 hr37
             obtain rfl:[.int .i64 e36A,.str e36C,.int .i64 e36D,.sl 4 (Nd.encs e36B)]=r37:=(hr37.trans (zAq Nd.encs_eq he36).2.1).symm;intro r38 hr38;obtain rfl:(List.map (irow .i64)) [x8,x31]=r38:=(hr38.trans zIo).symm;intro r39 hr39
             obtain rfl:(List.map zAN) [a3,[x8,x31]]=r39:=(hr39.trans zIo).symm;obtain⟨y40,hy40,h⟩:=zAc h;refine⟨_,⟨_,_,_,hy40,rfl,rfl⟩,?_⟩
             obtain⟨w41,hw41,h⟩:=zAc h;refine⟨_,_,⟨_,_,_,_,_,hw41,rfl,rfl,rfl,rfl⟩,?_⟩
             refine yAC ?_;refine⟨(k,IntKind.i64.wrap (x31+1),w41),h,(Le.rnq [(0,0),(3,2)] _ _ _),Nat.lt_succ_self k⟩
            ·refine zAB ?_;cases h;exact(Le.rnq [(0,0),(2,2)] _ _ _)
         ·cases h;exact(Le.trans hle (Le.rnq [(0,0),(2,2)] _ _ _))
     ·refine zAj hle ?_;refine yAC ?_;refine⟨(k,IntKind.i64.wrap (x8+1),x12,l13),h,(Le.rnq [(0,0),(2,2)] _ _ _),Nat.lt_succ_self k⟩
    ·refine zAB ?_;cases h;exact(Le.rnq [(0,0),(2,2)] _ _ _)
 ·have hy:=osi h;subst hy;unfold zCA;exact⟨_,(Le.trans hle (Le.rnq [(0,0),(2,2)] [] [(0,.box 25 [.orow 2]),(2,.row 30 8 ((List.map zAk) l11))] 3)),rfl,rfl,rfl,rfl,rfl,rfl,trivial⟩
theorem zIM:∀ n,PSound Tryz.prog 25 (zB1 (zCG n)):=by
 intro n
 induction n with
 | zero=>exact zEJ Tryz.call25 (fun xs os x os' h=>by obtain⟨_,_,_,_,_,h,_⟩:=h; cases h) _
 | succ n ih=>exact zIp n ih
def zGs:zAp:=zB1 (fun xs os x os'=>∃ n,zCG n xs os x os')
theorem zJN:PSound Tryz.prog 25 zGs:=zKB zIM _
theorem zG9 {F:List Nd->List Nd->List Int->List zO8->Option (List zO8)}{n:Nat}{xk yk:List Nd}{path:List Int}{j:Int}{o:List zO8}:∀ {N:Nat}{y0:List zO8},zBB F n xk yk path j o N=some y0->∃ A:Nat->List zO8,A 0=o/\A N=y0/\∀ i,i<N ->
  ((at? xk ((xk.length - 1 - i:Nat):Int)).bind fun⟨u_kind,u_text,u_cols,u_kids⟩=>(at? yk ((xk.length - 1 - i:Nat):Int)).bind fun⟨v_kind,v_text,v_cols,v_kids⟩=>(zBi n [path,[j,((xk.length - 1 - i:Nat):Int)]]).bind fun y=>F u_kids v_kids y (A i))=some (A (i+1))
 | 0,y0,h=>⟨fun _=>o,rfl,osi h,fun i hi=>by omega⟩
 | N+1,y0,h=>by
  unfold zBB at h;obtain⟨acc,h1,h⟩:=zAc h;obtain⟨A,q1,q2,q3⟩:=zG9 h1;refine⟨fun i=>if i=N+1 then y0 else A i,by dsimp only; rw[if_neg (by omega)]; exact q1,by dsimp only; rw[if_pos rfl],fun i hi=>?_⟩
  dsimp only;rw[if_neg (by omega:¬ i=N+1)]
  by_cases e:i=N
  ·subst e;rw[if_pos rfl,q2]
   exact h
  ·rw[if_neg (by omega)]
   exact q3 i (by omega)
theorem zG8 {F:List Nd->List Nd->List Int->List zO8->Option (List zO8)}{n:Nat}{a b:List Nd}{path:List Int}{p:List (Int×Int)}{o:List zO8}:∀ {N:Nat}{y0:List (Int×Int)}{z0:List zO8},zBA F n a b path p o N=some (y0,z0)->∃ (P:Nat->List (Int×Int)) (O:Nat->List zO8),P 0=p/\O 0=o/\P N=y0/\O N=z0/\∀ i,i<N ->
  ∃ x,a[a.length - 1 - i]? = some x/\zBR F n b path ((a.length - 1 - i:Nat):Int) x (P i) (O i)=some (P (i+1),O (i+1))
 | 0,y0,z0,h=>by
  obtain⟨h1,h2⟩:=Prod.mk.inj (osi h)
  exact⟨fun _=>p,fun _=>o,rfl,rfl,h1,h2,fun i hi=>by omega⟩
 | N+1,y0,z0,h=>by
  unfold zBA at h;obtain⟨⟨p1,o1⟩,h1,h⟩:=zAc h;obtain⟨x,hx,h⟩:=zAc h;obtain⟨P,O,q1,q2,q3,q4,q5⟩:=zG8 h1;refine⟨fun i=>if i=N+1 then y0 else P i,fun i=>if i=N+1 then z0 else O i,by dsimp only; rw[if_neg (by omega)]; exact q1,by dsimp only; rw[if_neg (by omega)]; exact q2,by dsimp only; rw[if_pos rfl],by dsimp only; rw[if_pos rfl],fun i hi=>?_⟩
  dsimp only;rw[if_neg (by omega:¬ i=N+1),if_neg (by omega:¬ i=N+1)]
  by_cases e:i=N
  ·subst e;rw[if_pos rfl,if_pos rfl,q3,q4]
   exact⟨x,hx,h⟩
  ·rw[if_neg (by omega),if_neg (by omega)]
   exact q5 i (by omega)
def zC5 (n:Nat) (xs:List AV) (os:List Ob) (x:AV) (os':List (Option Ob)):Prop:=∃ (a0:List Nd) (a1:List Nd) (a2:List Int) (a3:List zO8) (z0:List zO8),zBX n a0 a1 a2 a3=some z0/\xs=[.s (.sl 4 (Nd.encs a0)),.s (.sl 4 (Nd.encs a1)),.s (.sl 1 ((List.map (irow .i64)) a2)),.clo 22 [.op 0 0]]/\os=[.box 25 [.orow 1],.row 30 8 ((List.map zAk) a3)]/\x = .tup []/\os'=[some (.box 25 [.orow 2]),none,some (.row 30 8 ((List.map zAk) z0))]
theorem zI3 (n:Nat) (ih:PSound Tryz.prog 24 (zB1 (zC5 n))):PSound Tryz.prog 24 (zB1 (zC5 (n+1))):=by
 have gok:∀ f s,look? f [(44,zHl),(45,zEb),(22,zHk),(46,zDF),(24,zB1 (zC5 n))]=some s->PSound Tryz.prog f s:=zAo (by
  simp only[List.forall_mem_cons]
  exact⟨zJM,zGF,zJL,zE1,ih,by simp⟩)
 refine PSound.withNil (zZg Tryz.call24 Tryz.func24 rfl (fun xs os x os' h=>by obtain⟨_,_,_,_,_,_,rfl,rfl,_,rfl⟩:=h; exact⟨by show 4<=81; decide,by show 2<=3; decide⟩) 81 rfl ?_) _;rintro xs os x os' w0 G0 B0 ⟨a1,b2,path3,o4,z0,h,rfl,rfl,rfl,rfl⟩ _;rw[zBX]at h;obtain⟨y5,hy5,h⟩:=zAc h;obtain⟨hla,h⟩:=zAK h;obtain⟨⟨p6,l6⟩,hr,h⟩:=zAc h;obtain rfl:l6=z0:=osi h;obtain⟨P,O,hP0,hO0,hPN,hON,hst⟩:=zG8 hr
 clear h hr
 refine zGa rfl ?_;refine zAb [7] [] rfl ?_;refine⟨rfl,?_⟩
 refine zGa rfl ?_;refine zAb [8] [] rfl ?_;refine⟨_,⟨_,_,_,_,hy5,rfl,rfl⟩,?_⟩
 refine⟨rfl,?_⟩
 refine zGa rfl ?_;refine yAC ?_;refine⟨_,⟨_,rfl,rfl⟩,?_⟩
 refine⟨rfl,?_⟩
 refine zYa (Le.rnq [(0,0),(2,2),(3,3),(1,4)] [(5,.s (.pt [.sl 4 (Nd.encs b2)])),(6,.s (.pt [.sl 1 ((List.map (irow .i64)) path3)])),(7,.op 2 0),(8,.op 3 0),(17,.clo 80 [.s (.pt [.sl 4 (Nd.encs a1)])])] [(0,.box 25 [.orow 4]),(2,.box 54 [.clo 22 [.op 0 0]]),(3,.box 98 [.s (.sl 2 ((List.map zAE) y5))]),(4,.row 30 8 ((List.map zAk) o4))] 5) ?_;refine zKS ?_;refine zOW rfl rfl (sz:=4) (rows:=Nd.encs a1) zU6 Tryz.call80 rfl (fun r hr=>by rw[Nd.encs_eq]at hr; obtain⟨o,_,rfl⟩:=List.mem_map.1 hr; cases o; rfl) (by rw[rlen Nd.encs_eq]; omega)
  (fun i=>(ofH [(0,.box 25 [.orow 4]),(2,.box 54 [.clo 22 [.op 0 0]]),(3,.box 98 [.s (.sl 2 ((List.map zAE) (P i)))]),(4,.row 30 8 ((List.map zAk) (O i)))],5)) (by dsimp only; rw[hP0,hO0]) 4 (zH7 rfl) (by show 2<=4; decide) (fun _=>by show 4<=5; decide) (by show 18<81; decide) (by show 19<81; decide) ?_ ?_
 ·intro i j row hij hrow l w X G B hl;rw[rlen Nd.encs_eq]at hij;obtain⟨⟨x_kind,x_text,x_cols,x_kids⟩,hx,h⟩:=hst i (by omega)
  rw[show a1.length - 1 - i=j by omega]at hx h;rw[Nd.encs_eq,List.getElem?_map,hx]at hrow;obtain rfl:=osi hrow;refine zZx [9] [] rfl ?_;refine zAb [10] [] rfl ?_;refine⟨rfl,fun w X G B hl=>?_⟩
  refine zAj (Le.giveBox 5 [.int .i64 (j:Int)] rfl rfl) ?_;refine zAj (Le.giveBox 6 [.int .i64 x_kind,.str x_text,.int .i64 x_cols,.sl 4 (Nd.encs x_kids)] rfl rfl) ?_;refine zAi ?_;rw[zBR]at h;refine zAa ?_;refine zAa ?_;obtain⟨c,hj,h⟩:=zAc h
  refine zAn ⟨ofL [(5,.s (.pt [.sl 4 (Nd.encs b2)])),(6,.s (.pt [.sl 1 ((List.map (irow .i64)) path3)])),(7,.op 2 0),(8,.op 3 0),(9,.s (.pt [.int .i64 (j:Int)])),(10,.s (.pt [.int .i64 x_kind,.str x_text,.int .i64 x_cols,.sl 4 (Nd.encs x_kids)])),(33,.s (.bool c))],ofH [(0,.box 25 [.orow 4]),(2,.box 54 [.clo 22 [.op 0 0]]),(3,.box 98 [.s (.sl 2 ((List.map zAE) (P i)))]),(4,.row 30 8 ((List.map zAk) (O i)))],5⟩ ?_ (fun σ' hle=>?_)
  ·replace h:=hj;refine zKb [] [21,23,26,28] [0,4,5] [0,4,5] rfl (by decide +kernel) ?_;intro n17 hn17;obtain rfl:((P i).length:Int)=n17:=(hn17.trans (congrArg (fun m:Nat=>(m:Int)) (rlen (fun _=>rfl) (P i)))).symm;intro b hb;cases b with
   | true =>
    replace h:=zAw hb.symm h;cases h;exact(Le.rnq [(0,0),(2,2),(3,3),(4,4)] _ _ _)
   | false =>
    replace h:=zAv hb.symm h;obtain⟨⟨e18Ac,e18Ad⟩,he18,h⟩:=zAc h;intro n19 hn19;obtain rfl:((P i).length:Int)=n19:=(hn19.trans (congrArg (fun m:Nat=>(m:Int)) (rlen (fun _=>rfl) (P i)))).symm;refine And.intro (zAq (fun _=>rfl) he18).1 ?_;intro r19 hr19;obtain rfl:[.int .i64 e18Ac,.int .i64 e18Ad]=r19:=(hr19.trans (zAq (fun _=>rfl) he18).2.1).symm;refine And.intro (by decide) ?_;cases h;exact(Le.rnq [(0,0),(2,2),(3,3),(4,4)] _ _ _)
  ·refine zAj hle ?_;refine zAm rfl h (fun hb h=>?_) (fun hb h=>?_)
   ·refine zZx [] [38] rfl ?_;intro r20 hr20;obtain rfl:Nd.encs [Nd.mk x_kind x_text x_cols x_kids]=r20:=hr20.symm;obtain⟨w21,hw21,h⟩:=zAc h;refine⟨_,_,⟨_,_,_,_,hw21,rfl,rfl,rfl,rfl⟩,?_⟩
    show Tri ..;refine zAB ?_;obtain⟨hP,hO⟩:=Prod.mk.inj (osi h)
    refine⟨rfl,_,Le.rename [(0,0),(2,2),(3,3),(5,4)] [] [(0,.box 25 [.orow 4]),(2,.box 54 [.clo 22 [.op 0 0]]),(3,.box 98 [.s (.sl 2 ((List.map zAE) (P (i+1))))]),(4,.row 30 8 ((List.map zAk) (O (i+1))))] 5 trivial ⟨rfl,⟨_,rfl,rfl⟩,rfl,⟨_,rfl,rfl⟩,rfl,⟨_,rfl,by rw[← hP]; rfl⟩,rfl,⟨_,rfl,by rw[← hO]; rfl⟩,trivial⟩ rfl rfl rfl rfl rfl,rfl,rfl⟩
   ·refine zAf ?_;refine zAa ?_;refine zKb [11] [44,46,49] [1,2,10,11] [1,2] rfl (by decide +kernel) ?_;obtain⟨⟨e22Ac,e22Ad⟩,he22,h⟩:=zAc h;intro n20 hn20;obtain rfl:((P i).length:Int)=n20:=(hn20.trans (congrArg (fun m:Nat=>(m:Int)) (rlen (fun _=>rfl) (P i)))).symm;refine And.intro (zAq (fun _=>rfl) he22).1 ?_;intro r23 hr23;obtain rfl:[.int .i64 e22Ac,.int .i64 e22Ad]=r23:=(hr23.trans (zAq (fun _=>rfl) he22).2.1).symm;refine And.intro (by decide) ?_;obtain⟨⟨y_kind,y_text,y_cols,y_kids⟩,he24,h⟩:=zAc h;refine And.intro (zAq Nd.encs_eq he24).1 ?_;intro r25 hr25
    obtain rfl:[.int .i64 y_kind,.str y_text,.int .i64 y_cols,.sl 4 (Nd.encs y_kids)]=r25:=(hr25.trans (zAq Nd.encs_eq he24).2.1).symm;refine zAj (Le.giveBox 5 [.int .i64 y_kind,.str y_text,.int .i64 y_cols,.sl 4 (Nd.encs y_kids)] rfl rfl) ?_;obtain⟨hq,h⟩:=zAK h;obtain⟨w,hw,h⟩:=zAc h;obtain⟨hP,hO⟩:=Prod.mk.inj (osi h)
    obtain⟨A,hA0,hAN,hin⟩:=zG9 hw;refine zZx [] [53,55] rfl ?_;intro n26 hn26;obtain rfl:((P i).length:Int)=n26:=(hn26.trans (congrArg (fun m:Nat=>(m:Int)) (rlen (fun _=>rfl) (P i)))).symm;refine And.intro ⟨Int.le_refl _,hq.1,Int.le_trans hq.2.1 (Int.ofNat_le.2 (Nat.le_of_eq (rlen (fun _=>rfl) _).symm))⟩ ?_;intro r26 hr26;obtain rfl:(List.map zAE) (P (i+1))=r26 :=(by rw[hr26,← hP,List.map_take]; rfl);refine yAD ?_;refine⟨_,⟨_,rfl,rfl⟩,?_⟩
    refine zAj (Le.rnq [(0,0),(2,2),(3,3),(4,4)] [(6,.s (.pt [.sl 1 ((List.map (irow .i64)) path3)])),(7,.op 2 0),(9,.s (.pt [.int .i64 (j:Int)])),(10,.s (.pt [.int .i64 x_kind,.str x_text,.int .i64 x_cols,.sl 4 (Nd.encs x_kids)])),(11,.s (.pt [.int .i64 y_kind,.str y_text,.int .i64 y_cols,.sl 4 (Nd.encs y_kids)])),(58,.clo 80 [.s (.pt [.sl 4 (Nd.encs x_kids)])])] [(0,.box 25 [.orow 4]),(2,.box 54 [.clo 22 [.op 0 0]]),(3,.box 98 [.s (.sl 2 ((List.map zAE) (P (i+1))))]),(4,.row 30 8 ((List.map zAk) (O i)))] 5) ?_;refine zAi ?_
    refine zUN rfl hl (sz:=4) (rows:=Nd.encs x_kids) zU6 Tryz.call80 rfl (fun r hr=>by rw[Nd.encs_eq]at hr; obtain⟨o,_,rfl⟩:=List.mem_map.1 hr; cases o; rfl) (by rw[rlen Nd.encs_eq]; omega)
     (fun q=>(ofH [(0,.box 25 [.orow 4]),(2,.box 54 [.clo 22 [.op 0 0]]),(3,.box 98 [.s (.sl 2 ((List.map zAE) (P (i+1))))]),(4,.row 30 8 ((List.map zAk) (A q)))],5)) (by dsimp only; rw[hA0]) 4 (zH7 rfl) (Nat.le_refl _) (fun _=>by show 4<=5; decide) (by show 59<81; decide) (by show 60<81; decide) ?_ ?_
    ·intro i2 j2 row hij2 hrow2 l2 w X G B hl2;rw[rlen Nd.encs_eq]at hij2;have h:=hin i2 (by omega)
     rw[show x_kids.length - 1 - i2=j2 by omega]at h;refine yAC ?_;refine⟨rfl,fun w X G B hl2=>?_⟩
     refine zAi ?_;refine zA0 [] [64,70,76,77] [18,19] rfl (by decide +kernel) ?_;obtain⟨⟨u_kind,u_text,u_cols,u_kids⟩,he34,h⟩:=zAc h;refine And.intro (zAq Nd.encs_eq he34).1 ?_;intro r35 hr35;obtain rfl:[.int .i64 u_kind,.str u_text,.int .i64 u_cols,.sl 4 (Nd.encs u_kids)]=r35:=(hr35.trans (zAq Nd.encs_eq he34).2.1).symm;obtain⟨⟨v_kind,v_text,v_cols,v_kids⟩,he36,h⟩:=zAc h;refine And.intro (zAq Nd.encs_eq he36).1 ?_;intro r37 hr37;obtain rfl:[.int .i64 v_kind,.str v_text,.int .i64 v_cols,.sl 4 (Nd.encs v_kids)]=r37:=(hr37.trans (zAq Nd.encs_eq he36).2.1).symm;intro r38 hr38
     obtain rfl:(List.map (irow .i64)) [(j:Int),(j2:Int)]=r38:=hr38.symm;intro r39 hr39;obtain rfl:(List.map zAN) [path3,[(j:Int),(j2:Int)]]=r39:=hr39.symm;obtain⟨y40,hy40,h⟩:=zAc h;refine⟨_,⟨_,_,_,hy40,rfl,rfl⟩,?_⟩
     refine⟨_,_,⟨_,_,_,_,_,h,rfl,rfl,rfl,rfl⟩,?_⟩
     refine⟨rfl,_,Le.rename [(0,0),(2,2),(3,3),(5,4)] [] [(0,.box 25 [.orow 4]),(2,.box 54 [.clo 22 [.op 0 0]]),(3,.box 98 [.s (.sl 2 ((List.map zAE) (P (i+1))))]),(4,.row 30 8 ((List.map zAk) (A (i2+1))))] 5 trivial ⟨rfl,⟨_,rfl,rfl⟩,rfl,⟨_,rfl,rfl⟩,rfl,⟨_,rfl,rfl⟩,rfl,⟨_,rfl,rfl⟩,trivial⟩ rfl rfl rfl rfl rfl,rfl,rfl⟩
    ·rw[rlen Nd.encs_eq,hAN]
     refine⟨rfl,_,Le.rename [(0,0),(2,2),(3,3),(4,4)] [] [(0,.box 25 [.orow 4]),(2,.box 54 [.clo 22 [.op 0 0]]),(3,.box 98 [.s (.sl 2 ((List.map zAE) (P (i+1))))]),(4,.row 30 8 ((List.map zAk) (O (i+1))))] 5 trivial ⟨rfl,⟨_,rfl,rfl⟩,rfl,⟨_,rfl,rfl⟩,rfl,⟨_,rfl,rfl⟩,rfl,⟨_,rfl,by rw[← hO]; rfl⟩,trivial⟩ rfl rfl rfl rfl rfl,rfl,rfl⟩
 ·intro D w2 X G2 G' β' a2 hsw hc;rw[rlen Nd.encs_eq,hPN,hON]at hc;refine zXh (c:=zDI Tryz.prog w0 B0 2 G0 81) tokW hsw rfl rfl rfl hc ?_;refine zSw ?_;unfold zCA;exact⟨_,(Le.rnq [(0,0),(4,2)] [] [(0,.box 25 [.orow 2]),(2,.row 30 8 ((List.map zAk) l6))] 3),rfl,rfl,rfl,rfl,rfl,rfl,trivial⟩
theorem zJt:∀ n,PSound Tryz.prog 24 (zB1 (zC5 n)):=by
 intro n
 induction n with
 | zero=>exact zEJ Tryz.call24 (fun xs os x os' h=>by obtain⟨_,_,_,_,_,h,_⟩:=h; cases h) _
 | succ n ih=>exact zI3 n ih
def zG5:zAp:=zB1 (fun xs os x os'=>∃ n,zC5 n xs os x os')
theorem zKw:PSound Tryz.prog 24 zG5:=zKB zJt _
def zT4 (n:Nat) (xs:List AV) (r:Ret):Prop:=∃ (a0:Nd) (a1:Nd) (y0:List zO8) (y1:Int),zEF n a0 a1=some (y0,y1)/\xs=[.agg ((Nd.enc a0).map .s),.agg ((Nd.enc a1).map .s)]/\r = .val (.tup [.s (.sl 8 ((List.map zAk) y0)),.s (.int .i64 y1)])
def zN7:zAp:=zAu fun xs r=>∃ n,zT4 n xs r
theorem zSN:PSound Tryz.prog 8 zN7:=by
 have gok:∀ f s,look? f [(21,zHm),(24,zG5),(25,zGs)]=some s->PSound Tryz.prog f s:=zAo (by
  simp only[List.forall_mem_cons]
  exact⟨zJO,zKw,zJN,by simp⟩)
 refine psq tokW Tryz.call8 Tryz.func8 rfl ?_;rintro xs r w0 G0 ⟨n,⟨a1A,a1C,a1D,a1B⟩,⟨b2A,b2C,b2D,b2B⟩,y0,y1,h,rfl,rfl⟩ _;rw[zEF]at h;refine yAD ?_;refine zAa ?_;refine yAD ?_;obtain⟨y3,hy3,h⟩:=zAc h;refine⟨_,⟨_,_,_,_,hy3,rfl,rfl⟩,?_⟩
 refine zAm rfl h (fun hb h=>?_) (fun hb h=>?_)
 ·refine yAD ?_;refine zAh ?_;obtain⟨hj1,hk1⟩:=pij h;subst hj1 hk1;exact fin0 rfl rfl
 ·refine zAf ?_;refine zZx [6] [] rfl ?_;refine zAj (Le.trans (Le.rnq [(0,0)] [(2,.s (.pt [.int .i64 a1A,.str a1C,.int .i64 a1D,.sl 4 (Nd.encs a1B)])),(3,.s (.pt [.int .i64 b2A,.str b2C,.int .i64 b2D,.sl 4 (Nd.encs b2B)])),(6,.op 0 0)] [(0,.box 25 [.nl 8])] 1) (Le.takeNil 0 0 30 rfl rfl (by decide))) ?_;refine yAD ?_;refine yAD ?_;obtain⟨w4,hw4,h⟩:=zAc h;refine⟨_,_,⟨_,_,_,_,_,_,hw4,rfl,rfl,rfl,rfl⟩,?_⟩
  refine yAD ?_;obtain⟨w5,hw5,h⟩:=zAc h;refine⟨_,_,⟨_,_,_,_,_,_,hw5,rfl,rfl,rfl,rfl⟩,?_⟩
  refine yAD ?_;refine zAh ?_;obtain⟨hj1,hk1⟩:=pij h;subst hj1 hk1;unfold zC4;exact⟨_,(Le.trans (Le.rnq [(3,0)] [(4,.orow 0),(5,.s (.int .i64 0))] [(0,.row 30 8 ((List.map zAk) w5))] 1) (Le.giveRow 0 rfl)),rfl,rfl⟩
end Go.Proofs.YtbfnjnljboncgaaGreatDoor
namespace Go.Abs
section
attribute [local semireducible] Tri Le
variable {c:Cx} {σ:St} {Q:End->St->Prop}
def TriL (c:Cx) (x:Code) (σ:St) (Q:End->St->Prop):Prop :=
 ∀ G β a w,Conc c G β σ a w->∀ (b:Frame) (k:List Item) (cs:List Frame),b.roundOf=(rF c.ro).round->(rF c.ro).fn b.fn->(rF c.ro).room (cs.length+1+2) ->
  ∃ e a' w',(∃ e' G' β' σ',e=zEx e'/\Q e' σ'/\Conc c G' β' σ' a' w')/\ArrivesIn (Machine.fenced c.P (rF c.ro)) c.P (lone (b.atR a (.code x::.inLoop x::k)) cs w) b k cs e a' w'
theorem zWI {x:Code} (h:TriL c x σ Q):Tri c (.loop x) σ Q:=fun G β a w hc b k cs hro hb hr=>by
 obtain⟨e,a',w',hq,harr⟩:=h G β a w hc b k cs hro hb hr;exact⟨e,a',w',hq,.of_steps (.one (fenced_calm hb hr rfl) stepR_loop) harr⟩
def zYv (c:Cx) (x:Code) (Q:End->St->Prop):End->St->Prop
 | .normal,σ=>TriL c x σ Q
 | e,σ=>Q e σ
theorem zUK {x:Code} (h:Tri c x σ (zYv c x Q)):TriL c x σ Q:=fun G β a w hc b k cs hro hb hr=>by
 obtain⟨e,a',w',⟨e',G',β',σ',rfl,hq,hc'⟩,harr⟩:=h G β a w hc b (.inLoop x::k) cs hro hb hr;cases e' with
 | normal =>
  obtain⟨e2,a2,w2,hq2,harr2⟩:=hq G' β' a' w' hc' b k cs hro hb hr;exact⟨e2,a2,w2,hq2,.of_steps (StepsIn.trans harr (.one (fenced_calm hb hr rfl) stepR_inLoop)) harr2⟩
 | exit id=>exact⟨.exit id,a',w',⟨.exit id,G',β',σ',rfl,hq,hc'⟩,.pass (x:=.inLoop x) rfl (fun _ _=>.inl (by simp[zEx])) harr⟩
 | ret=>exact⟨.ret,a',w',⟨.ret,G',β',σ',rfl,hq,hc'⟩,.pass (x:=.inLoop x) rfl (fun _ _=>.inl (by simp[zEx])) harr⟩
theorem zZv {x:Code}{σ':St} (hl:Le c σ σ') (h:TriL c x σ' Q):TriL c x σ Q:=fun G β a w hc =>
 let ⟨G',β',h'⟩:=hl G β a w hc
 h G' β' a w h'
end
attribute [irreducible] TriL
def upF:Nat->List Nat->List Nat
 | 0,l=>l
 | n+1,l=>upF n (n::l)
def zSL (n:Int) (l:Nat):Bool:=decide (0<=n)&&decide (n<l)
theorem zFG {n:Int}{l:Nat} (h:zSL n l=true):0<=n/\n<l:=by simpa [zSL] using h
def rowB:List S->Bool
 | [.int .u8 n]=>zSL n 256
 | _=>false
def zXT (rows:List (List S)):Bool:=rows.all rowB
theorem zXS {r:List S} (h:rowB r=true):brow (zIx r)=r:=by
 unfold rowB at h;split at h
 ·rename_i n
  obtain⟨h1,h2⟩:=zFG h;obtain⟨m,rfl⟩:=Int.eq_ofNat_of_zero_le h1;have hm:m<256 :=(by omega);simp only[zIx,brow,Int.toNat_natCast,UInt8.toNat_ofNat',List.cons.injEq,S.int.injEq,true_and,and_true]
  simp[Nat.mod_eq_of_lt hm]
 ·cases h
theorem zNc {rows:List (List S)} (h:zXT rows=true):rows=(rows.map zIx).map brow:=by
 rw[List.map_map]
 conv=>lhs; rw[← List.map_id rows]
 refine List.map_congr_left fun r hr=>?_
 exact(zXS (List.all_eq_true.1 h r hr)).symm
def zMU:Option Ob->Nat
 | some (.row _ _ rows)=>rows.length
 | some (.arow _ _ rows)=>rows.length
 | _=>0
def lenV (σ:St):AV->Nat
 | .orow k=>zMU (σ.hp k)
 | .s (.str l)=>l.length
 | .s (.sl _ rows)=>rows.length
 | _=>0
def zVX (op:BinOp) (x y:AV):Bool :=
 match x,y with
 | .s (.int _ _),.s (.int _ b)=>match op with
  | .quo | .rem=>!(decide (b=0))
  | .shl | .shr=>decide (0<=b)
  | _=>true
 | .s (.str a),.s (.str b)=>Nat.ble (a.length+b.length) 9223372036854775807
 | _,_=>true
def zZd (a b m:Nat):Bool:=Nat.ble ((a+b) * m) 140737488355328&&Nat.ble (a+b) 9223372036854775807
theorem zRz {a b m:Nat} (h:zZd a b m=true):(a+b) * m<=140737488355328/\a+b<=9223372036854775807:=by
 simp only[zZd,Bool.and_eq_true]at h;exact⟨Nat.le_of_ble_eq_true h.1,Nat.le_of_ble_eq_true h.2⟩
def zTu (T:Nat->Option TI) (σ:St) (dst:Nat) (y:AV):Bool :=
 match y with
 | .orow k=>match σ.hp k with
  | some (.row _ _ rows)=>match tk T dst with
   | .str=>zXT rows
   | _=>!rows.isEmpty
  | _=>true
 | .s (.sl _ rows)=>zXT rows
 | _=>true
def zSM (T:Nat->Option TI) (t:Nat) (y i:AV):Bool :=
 match i with
 | .s (.int _ n)=>match y with
  | .s (.str l)=>zSL n l.length
  | _=>match tk T t with | .arr len _=>zSL n len | _=>false
 | _=>false
def zIa (T:Nat->Option TI) (σ:St) (t:Nat) (y i:AV):Bool :=
 match i with
 | .s (.int _ n)=>match tk T t with
  | .arr len _=>zSL n len
  | _=>zSL n (lenV σ y)
 | _=>false
def okSl (l:Nat) (lo hi:Option AV):Bool :=
 match bnd 0 lo,bnd l hi with
 | some a,some b=>decide (0<=a)&&decide (a<=b)&&decide (b<=(l:Int))
 | _,_=>false
def okB (T:Nat->Option TI) (o:Oper) (σ:St):Bool :=
 match o.op with
 | .binOp op t x y u=>zVX op (opd T σ.env t x) (opd T σ.env u y)
 | .convert src dst x=>zTu T σ dst (opd T σ.env src x)
 | .index t x i=>zSM T t (opd T σ.env t x) (opd T σ.env 0 i)
 | .indexAddr t x i=>zIa T σ t (opd T σ.env t x) (opd T σ.env 0 i)
 | .slice t x lo hi _=>okSl (lenV σ (opd T σ.env t x)) (lo.map (opd T σ.env 0)) (hi.map (opd T σ.env 0))
 | .makeSlice t l c=>match elemOf T t,opd T σ.env 0 l,opd T σ.env 0 c with
  | some (e,j),.s (.int _ n),.s (.int _ m)=>decide (0<=n)&&decide (n<=m)&&decide (m * j.bytes<=281474976710656)&&decide (m<=281474976710656)
  | _,_,_=>false
 | .store t x y=>match opd T σ.env 0 x with
  | .rp k _ j _=>Nat.blt j (zMU (σ.hp k))
  | _=>true
 | .call { callee:=.builtin .append,args:=args,argTypes:=ts }=>match args.toList,ts.toList with
  | [x,y],[t,tx]=>match elemOf T t with
   | some (_,j)=>zZd (lenV σ (opd T σ.env t x)) (lenV σ (opd T σ.env tx y)) j.bytes
   | none=>false
  | _,_=>false
 | .call { callee:=.builtin .copy,args:=args,argTypes:=ts }=>match args.toList,ts.toList with
  | [x,y],[t,tx]=>Nat.beq (lenV σ (opd T σ.env tx y)) (lenV σ (opd T σ.env t x))
  | _,_=>false
 | _=>true
section
variable {T:Nat->Option TI} {o:Oper} {σ σ':St} {own:Bool} {φ:Prop} {x:AV}
theorem zZh {t:Nat}{op:BinOp}{a b:AV} (h:pBin T t op a b=some (some φ,x)) (hk:zVX op a b=true):φ:=by
 unfold pBin at h;split at h
 ·rename_i r hr
  cases h;unfold zV2 at hr;split at hr
  ·cases hr; simpa [zVX] using hk
  ·cases hr; simpa [zVX] using hk
  ·split at hr
   ·unfold pInt at hr;split at hr <;> first | (cases hr; simpa [zVX] using hk) | cases hr
   ·cases hr
  ·unfold pStr at hr;split at hr <;> first | (cases hr; exact Nat.le_of_ble_eq_true hk) | cases hr
  all_goals (repeat' split at hr)
  all_goals cases hr
 ·unfold pArr at h
  repeat' split at h
  all_goals cases h
theorem zWG {t e:Nat}{j:TI} (h:elemOf T t=some (e,j)):tk T t = .slice e:=by
 unfold elemOf at h;split at h
 ·rename_i i hi
  split at h
  ·rename_i e' he
   split at h
   ·cases h;simp only[tk,hi,he]
   ·cases h
  ·cases h
 ·cases h
theorem zYr (y:AV):y.nrm=y∨∃ sz,y = .nl sz/\y.nrm = .s (.sl sz []):=by
 cases y <;> first | exact .inl rfl | exact .inr ⟨_,rfl,rfl⟩
theorem zXD {src dst:Nat}{y:AV} (h:zUC T src dst y.nrm=some (some φ,x)) (hk:zTu T σ dst y=true):φ:=by
 unfold zUC at h;split at h
 ·split at h
  ·cases h
  ·cases h
  ·rename_i sz rows _ _ hx
   split at h
   ·split at h
    ·cases h;rcases zYr y with e | ⟨sz',rfl,e⟩
     ·rw[e]at hx;subst hx;exact zNc hk
     ·rw[e]at hx;cases hx; rfl
    ·cases h
   ·cases h
  ·cases h
 ·cases h
theorem zV5 {t:Nat}{y i:AV} (h:zM4 T t y i=some (some φ,x)) (hk:zSM T t y i=true):φ:=by
 unfold zM4 at h;split at h
 ·split at h
  ·cases h; exact zFG hk
  ·cases h
 ·rename_i ti xs k n ht
  split at h
  ·rename_i len e hk2
   split at h
   ·split at h
    ·cases h;have e1:tk T t = .arr len e :=(by simp only[tk,ht,hk2]);simp only[zSM,e1]at hk;exact zFG hk
    ·cases h
   ·cases h
  ·cases h
 ·cases h
theorem zTo (y:AV):lenV σ y.nrm=lenV σ y:=by
 rcases zYr y with e | ⟨sz',rfl,e⟩ <;> rw[e] <;> rfl
theorem zPX {t:Nat}{y i:AV} (h:zD8 T t y.nrm i=some (some φ,x)) (hk:zIa T σ t y i=true):φ:=by
 unfold zD8 at h;split at h
 ·rename_i ti k n ht
  split at h
  ·rename_i e sz rows hk2 hy
   split at h
   ·split at h
    ·cases h;have e1:tk T t = .slice e :=(by simp only[tk,ht,hk2]);simp only[zIa,e1]at hk;rw[← zTo,hy]at hk;exact zFG hk
    ·cases h
   ·cases h
  ·rename_i _ len e hk2
   split at h
   ·split at h
    ·cases h;have e1:tk T t = .arr len e :=(by simp only[tk,ht,hk2]);simp only[zIa,e1]at hk;exact zFG hk
    ·cases h
   ·cases h
  ·cases h
 ·cases h
theorem ok3 {a b l:Int} (h:(decide (0<=a)&&decide (a<=b)&&decide (b<=l))=true):0<=a/\a<=b/\b<=l:=by
 simp only[Bool.and_eq_true,decide_eq_true_eq]at h;exact⟨h.1.1,h.1.2,h.2⟩
theorem zJK {l:Nat}{lo hi:Option AV}{a b:Int} (h:okSl l lo hi=true) (h1:bnd 0 lo=some a) (h2:bnd l hi=some b):0<=a/\a<=b/\b<=l:=by
 unfold okSl at h;rw[h1,h2]at h;exact ok3 h
theorem zRN {t:Nat}{y:AV}{lo hi:Option AV} (h:zJT T t y lo hi=some (some φ,x)) (hk:okSl (lenV σ y) lo hi=true):φ:=by
 unfold zJT at h;split at h
 ·split at h
  ·rename_i a b _ h1 h2
   cases h;exact zJK hk h1 h2
  ·cases h
 ·split at h
  ·rename_i e a b _ h1 h2
   split at h
   ·split at h
    ·cases h;exact zJK hk h1 h2
    ·cases h
   ·cases h
  ·cases h
 ·cases h
theorem zUF {t sz:Nat}{lo hi:Option AV} (h:zKD T t sz lo hi=some (some φ,x)) (hk:okSl 0 lo hi=true):φ:=by
 unfold zKD at h;split at h
 ·rename_i e a b _ h1 h2
  split at h
  ·cases h;exact zJK hk h1 h2
  ·cases h
 ·cases h
theorem zTB (h:zB2 T own o σ.env=some (some φ,x)) (hk:okB T o σ=true):φ:=by
 unfold zB2 at h;split at h
 case h_1=>split at h <;> cases h
 case h_2=>split at h <;> cases h
 case h_3=>split at h <;> cases h
 case h_4 =>
  split at h
  ·cases h
  ·split at h <;> cases h
 case h_5 =>
  repeat' split at h
  all_goals cases h
 case h_6 =>
  unfold zRM at h
  repeat' split at h
  all_goals cases h
 case h_7 =>
  repeat' split at h
  all_goals cases h
 case h_8=>split at h <;> cases h
 case h_9 ho =>
  simp only[okB,ho]at hk;exact zZh h hk
 case h_10=>unfold pUn at h; split at h <;> cases h
 case h_11 ho =>
  simp only[okB,ho]at hk;exact zXD h hk
 case h_12 =>
  repeat' split at h
  all_goals cases h
 case h_13 ho =>
  simp only[okB,ho]at hk;split at h
  ·rename_i sz hx
   rw[hx]at hk;split at h
   ·exact zUF h hk
   ·exact zRN (σ:=σ) h hk
  ·refine zRN (σ:=σ) h ?_;rw[zTo]
   exact hk
 case h_14 =>
  unfold zFj at h
  repeat' split at h
  all_goals cases h
 case h_15 =>
  unfold zOE at h
  repeat' split at h
  all_goals cases h
 case h_16 ho =>
  simp only[okB,ho]at hk;exact zPX h hk
 case h_17 ho =>
  simp only[okB,ho]at hk;exact zV5 h hk
 case h_18 =>
  repeat' split at h
  all_goals cases h
 case h_19 =>
  split at h
  ·unfold pLen at h;split at h <;> cases h
  ·cases h
 case h_20 =>
  unfold pMin at h
  repeat' split at h
  all_goals cases h
 case h_21 =>
  unfold pMin at h
  repeat' split at h
  all_goals cases h
 case h_22 =>
  split at h
  ·unfold zUD at h
   repeat' split at h
   all_goals cases h
  ·cases h
 case h_23 =>
  split at h
  ·unfold pCap at h;split at h <;> cases h
  ·cases h
 case h_24=>cases h
theorem zXs (h:zCW T own o σ=some (some φ,x,σ')) (hk:okB T o σ=true):φ:=by
 unfold zCW at h;split at h
 case h_1 =>
  repeat' split at h
  all_goals cases h
 case h_2 =>
  repeat' split at h
  all_goals cases h
 case h_3=>split at h <;> cases h
 case h_4 =>
  split at h
  ·rw[zCw]at h; cases h
  ·cases h
 case h_5 =>
  repeat' split at h
  all_goals cases h
 case h_6 ho =>
  simp only[okB,ho]at hk;split at h
  ·rename_i e j k n k' m h1 h2 h3
   split at h
   ·cases h;rw[h1,h2,h3]at hk;simp only[Bool.and_eq_true,decide_eq_true_eq]at hk;exact⟨hk.1.1.1,hk.1.1.2,hk.1.2,hk.2⟩
   ·cases h
  ·cases h
 case h_7 =>
  repeat' split at h
  all_goals cases h
 case h_8 ho =>
  simp only[okB,ho]at hk;split at h
  ·split at h
   ·dsimp only at h;split at h
    ·rw[zCw]at h; cases h
    ·cases h
   ·cases h
  ·rename_i k sz j off i h1 h2
   rw[h1]at hk;dsimp only at hk;split at h
   ·rename_i e sz' rows ss h3 h4
    rw[h3]at hk;split at h
    ·cases h;exact Nat.le_of_ble_eq_true hk
    ·cases h
   ·cases h
  ·cases h
 case h_9 ho =>
  simp only[okB,ho]at hk;split at h
  ·rename_i e j k k' n h1 h2 h3
   split at h
   ·rename_i e' sz rows h4
    split at h
    ·cases h;have e1:tk T _ = .slice _:=zWG h1;rw[h2,h3]at hk;simp only[zIa,e1,lenV,h4,zMU]at hk;exact zFG hk
    ·cases h
   ·cases h
  ·cases h
 case h_10 ho =>
  simp only[okB,ho]at hk;split at h
  ·rename_i e j k h1 h2 h3
   rw[h3]at hk;split at h
   ·rename_i e' sz rows h4 h5
    split at h
    ·cases h;simp only[zTu,h5,h2]at hk;exact zNc hk
    ·cases h
   ·cases h
  ·rename_i e j e2 k h1 h2 h3
   rw[h3]at hk;split at h
   ·rename_i e' sz rows h4 h5
    split at h
    ·cases h;simp only[zTu,h5,h2]at hk;intro e0;rw[e0]at hk;cases hk
    ·cases h
   ·cases h
  ·cases h
 case h_11 ho =>
  simp only[okB,ho]at hk;split at h
  ·rename_i e j k k' n h1 h2 h3
   rw[h2]at hk;split at h
   ·rename_i e' sz rows h4
    split at h
    ·cases h;simp only[lenV,h4,zMU]at hk;obtain⟨h5,h6,h7⟩:=zJK (a:=0) (b:=n) hk rfl (by rw[Option.map_some,h3]; rfl)
     exact⟨h6,h7⟩
    ·cases h
   ·cases h
  ·cases h
 case h_12 =>
  repeat' split at h
  all_goals cases h
 case h_13 ho =>
  simp only[okB,ho]at hk;split at h
  ·rename_i x' y t tx ha hts
   simp only[ha,hts]at hk;unfold zHA at h;split at h
   ·rename_i e j k e' sz rows sz' rows' h1 h2 h3
    simp only[h1]at hk;have l1:lenV σ (opd T σ.env t x')=rows.length:=by
     unfold zIw at h2;split at h2
     ·rename_i hx; cases h2; rw[hx]; rfl
     ·rename_i hx
      split at h2
      ·rename_i hh; cases h2; rw[hx]; simp only[lenV,hh,zMU]
      ·cases h2
     ·cases h2
    have l2:lenV σ (opd T σ.env tx y)=rows'.length:=by
     unfold rowsOf at h3;split at h3
     ·rename_i hx; cases h3; rw[hx]; rfl
     ·rename_i hx; cases h3; rw[hx]; rfl
     ·rename_i hx
      split at h3
      ·rename_i hh; cases h3; rw[hx]; simp only[lenV,hh,zMU]
      ·cases h3
     ·rename_i hx; cases h3; rw[hx]; simp only[lenV,List.length_map]
     ·cases h3
    rw[l1,l2]at hk;have hk:=zRz hk;split at h
    ·split at h
     ·cases h;have e0:rows=[]:=by
       unfold zIw at h2
       repeat' split at h2
       all_goals cases h2
       rfl
      rw[e0,List.length_nil,Nat.zero_add]at hk;exact hk
     ·split at h
      ·cases h; exact hk
      ·cases h
    ·cases h
   ·cases h
  ·cases h
 case h_14=>cases h
theorem zVO (h:zCC T o σ=some (some φ,x,σ')) (hk:okB T o σ=true):φ:=by
 have rowsA_len:∀ {tx:Nat} {y:AV} {sz:Nat} {rows:List (List AV)},zJ2 T σ tx y=some (sz,rows)->lenV σ y=rows.length:=fun {tx y sz rows} h3=>by
  unfold zJ2 at h3;split at h3
  ·cases h3; rfl
  ·cases h3; simp only[lenV,List.length_map]
  ·split at h3
   ·rename_i hh; cases h3; simp only[lenV,hh,zMU,List.length_map]
   ·rename_i hh; cases h3; simp only[lenV,hh,zMU]
   ·cases h3
  ·cases h3
 have baseA_len:∀ {y:AV} {k e sz:Nat} {rows:List (List AV)},zJu σ y=some (k,e,sz,rows)->lenV σ y=rows.length:=fun {y k e sz rows} h3=>by
  unfold zJu at h3;split at h3
  ·split at h3
   ·rename_i hh; cases h3; simp only[lenV,hh,zMU]
   ·cases h3
  ·cases h3
 unfold zCC at h;split at h
 case h_1 =>
  repeat' split at h
  all_goals cases h
 case h_2 ho =>
  simp only[okB,ho]at hk;split at h
  ·rename_i k sz j off i h1 h2
   rw[h1]at hk;dsimp only at hk;split at h
   ·rename_i e sz' rows h3
    rw[h3]at hk;split at h
    ·cases h;exact Nat.le_of_ble_eq_true hk
    ·cases h
   ·cases h
  ·cases h
 case h_3 ho =>
  simp only[okB,ho]at hk;split at h
  ·rename_i e j k k' n h1 h2 h3
   split at h
   ·rename_i e' sz rows h4
    split at h
    ·cases h;have e1:tk T _ = .slice _:=zWG h1;rw[h2,h3]at hk;simp only[zIa,e1,lenV,h4,zMU]at hk;exact zFG hk
    ·cases h
   ·cases h
  ·cases h
 case h_4 ho =>
  simp only[okB,ho]at hk;split at h
  ·rename_i e j k k' n h1 h2 h3
   rw[h2]at hk;split at h
   ·rename_i e' sz rows h4
    split at h
    ·cases h;simp only[lenV,h4,zMU]at hk;obtain⟨h5,h6,h7⟩:=zJK (a:=0) (b:=n) hk rfl (by rw[Option.map_some,h3]; rfl)
     exact⟨h6,h7⟩
    ·cases h
   ·cases h
  ·cases h
 case h_5 =>
  repeat' split at h
  all_goals cases h
 case h_6 ho =>
  simp only[okB,ho]at hk;split at h
  ·rename_i x' y t tx ha hts
   simp only[ha,hts]at hk;split at h
   ·rename_i e j k e' sz rows sz' rows' h1 h2 h3
    simp only[h1]at hk;rw[baseA_len h2,rowsA_len h3]at hk;split at h
    ·cases h; exact zRz hk
    ·cases h
   ·cases h
  ·cases h
 case h_7 ho =>
  simp only[okB,ho]at hk;split at h
  ·rename_i x' y t tx ha hts
   simp only[ha,hts]at hk;split at h
   ·rename_i e j k e' sz rows sz' rows' h1 h2 h3
    rw[baseA_len h2,rowsA_len h3]at hk;split at h
    ·cases h; exact Nat.eq_of_beq_eq_true hk
    ·cases h
   ·cases h
  ·cases h
 case h_8=>cases h
theorem zTS {φ:Option Prop} (h:step1 T own o σ=some (φ,x,σ')) (hk:okB T o σ=true):φ.getD True:=by
 cases φ with
 | none=>exact trivial
 | some p =>
  unfold step1 at h;split at h
  ·rename_i hp; cases h; exact zTB hp hk
  ·unfold zBN at h;split at h
   ·rename_i hl; cases h; cases(zMO hl).1
   split at h
   ·rename_i hl; cases h; exact zXs hl hk
   ·exact zVO h hk
end
mutual
def S.eqb:S->S->Bool
 | .int k n,y=>(match y with | .int k' n'=>kEq k k'&&decide (n=n') | _=>false)
 | .bool a,y=>(match y with | .bool b=>a == b | _=>false)
 | .str a,y=>(match y with | .str b=>a == b | _=>false)
 | .sl z r,y=>(match y with | .sl z' r'=>Nat.beq z z'&&S.eqbss r r' | _=>false)
 | .np,y=>(match y with | .np=>true | _=>false)
 | .pt r,y=>(match y with | .pt r'=>S.eqbs r r' | _=>false)
 | .fn f,y=>(match y with | .fn f'=>Nat.beq f f' | _=>false)
 | .nf,y=>(match y with | .nf=>true | _=>false)
 | .nm,y=>(match y with | .nm=>true | _=>false)
def S.eqbs:List S->List S->Bool
 | [],y=>(match y with | []=>true | _=>false)
 | a::r,y=>(match y with | b::r'=>S.eqb a b&&S.eqbs r r' | _=>false)
def S.eqbss:List (List S)->List (List S)->Bool
 | [],y=>(match y with | []=>true | _=>false)
 | a::r,y=>(match y with | b::r'=>S.eqbs a b&&S.eqbss r r' | _=>false)
end
mutual
theorem S.eqb_eq:∀ (a:S){b:S},S.eqb a b=true->a=b
 | .int k n,b,h=>by
  cases b <;> simp only[S.eqb,Bool.and_eq_true,decide_eq_true_eq,reduceCtorEq]at h
  rw[zLb h.1,h.2]
 | .bool a,b,h=>by
  cases b <;> simp only[S.eqb,beq_iff_eq,reduceCtorEq]at h
  rw[h]
 | .str a,b,h=>by
  cases b <;> simp only[S.eqb,beq_iff_eq,reduceCtorEq]at h
  rw[h]
 | .sl z r,b,h=>by
  cases b <;> simp only[S.eqb,Bool.and_eq_true,reduceCtorEq]at h
  rw[Nat.eq_of_beq_eq_true h.1,S.eqbss_eq r h.2]
 | .np,b,h=>by cases b <;> simp only[S.eqb,reduceCtorEq]at h; rfl
 | .pt r,b,h=>by
  cases b <;> simp only[S.eqb,reduceCtorEq]at h
  rw[S.eqbs_eq r h]
 | .fn f,b,h=>by
  cases b <;> simp only[S.eqb,reduceCtorEq]at h
  rw[Nat.eq_of_beq_eq_true h]
 | .nf,b,h=>by cases b <;> simp only[S.eqb,reduceCtorEq]at h; rfl
 | .nm,b,h=>by cases b <;> simp only[S.eqb,reduceCtorEq]at h; rfl
theorem S.eqbs_eq:∀ (a:List S){b:List S},S.eqbs a b=true->a=b
 | [],b,h=>by cases b <;> simp only[S.eqbs,reduceCtorEq]at h; rfl
 | a::r,b,h=>by
  cases b <;> simp only[S.eqbs,Bool.and_eq_true,reduceCtorEq]at h
  rw[S.eqb_eq a h.1,S.eqbs_eq r h.2]
theorem S.eqbss_eq:∀ (a:List (List S)){b:List (List S)},S.eqbss a b=true->a=b
 | [],b,h=>by cases b <;> simp only[S.eqbss,reduceCtorEq]at h; rfl
 | a::r,b,h=>by
  cases b <;> simp only[S.eqbss,Bool.and_eq_true,reduceCtorEq]at h
  rw[S.eqbs_eq a h.1,S.eqbss_eq r h.2]
end
mutual
def AV.eqb:AV->AV->Bool
 | .s a,y=>(match y with | .s b=>S.eqb a b | _=>false)
 | .nl z,y=>(match y with | .nl z'=>Nat.beq z z' | _=>false)
 | .agg r,y=>(match y with | .agg r'=>AV.eqbs r r' | _=>false)
 | .tup r,y=>(match y with | .tup r'=>AV.eqbs r r' | _=>false)
 | .op k o,y=>(match y with | .op k' o'=>Nat.beq k k'&&Nat.beq o o' | _=>false)
 | .orow k,y=>(match y with | .orow k'=>Nat.beq k k' | _=>false)
 | .rp _ _ _ _,y=>false
 | .mref k,y=>(match y with | .mref k'=>Nat.beq k k' | _=>false)
 | .clo f r,y=>(match y with | .clo f' r'=>Nat.beq f f'&&AV.eqbs r r' | _=>false)
 | .junk,y=>(match y with | .junk=>true | _=>false)
def AV.eqbs:List AV->List AV->Bool
 | [],y=>(match y with | []=>true | _=>false)
 | a::r,y=>(match y with | b::r'=>AV.eqb a b&&AV.eqbs r r' | _=>false)
end
mutual
theorem AV.eqb_eq:∀ (a:AV){b:AV},AV.eqb a b=true->a=b
 | .s a,b,h=>by
  cases b <;> simp only[AV.eqb,reduceCtorEq]at h
  rw[S.eqb_eq a h]
 | .nl z,b,h=>by
  cases b <;> simp only[AV.eqb,reduceCtorEq]at h
  rw[Nat.eq_of_beq_eq_true h]
 | .agg r,b,h=>by
  cases b <;> simp only[AV.eqb,reduceCtorEq]at h
  rw[AV.eqbs_eq r h]
 | .tup r,b,h=>by
  cases b <;> simp only[AV.eqb,reduceCtorEq]at h
  rw[AV.eqbs_eq r h]
 | .op k o,b,h=>by
  cases b <;> simp only[AV.eqb,Bool.and_eq_true,reduceCtorEq]at h
  rw[Nat.eq_of_beq_eq_true h.1,Nat.eq_of_beq_eq_true h.2]
 | .orow k,b,h=>by
  cases b <;> simp only[AV.eqb,reduceCtorEq]at h
  rw[Nat.eq_of_beq_eq_true h]
 | .rp _ _ _ _,b,h=>by simp only[AV.eqb,reduceCtorEq]at h
 | .mref k,b,h=>by
  cases b <;> simp only[AV.eqb,reduceCtorEq]at h
  rw[Nat.eq_of_beq_eq_true h]
 | .clo f r,b,h=>by
  cases b <;> simp only[AV.eqb,Bool.and_eq_true,reduceCtorEq]at h
  rw[Nat.eq_of_beq_eq_true h.1,AV.eqbs_eq r h.2]
 | .junk,b,h=>by cases b <;> simp only[AV.eqb,reduceCtorEq]at h; rfl
theorem AV.eqbs_eq:∀ (a:List AV){b:List AV},AV.eqbs a b=true->a=b
 | [],b,h=>by cases b <;> simp only[AV.eqbs,reduceCtorEq]at h; rfl
 | a::r,b,h=>by
  cases b <;> simp only[AV.eqbs,Bool.and_eq_true,reduceCtorEq]at h
  rw[AV.eqb_eq a h.1,AV.eqbs_eq r h.2]
end
def AV.eqbss:List (List AV)->List (List AV)->Bool
 | [],y=>(match y with | []=>true | _=>false)
 | a::r,y=>(match y with | b::r'=>AV.eqbs a b&&AV.eqbss r r' | _=>false)
theorem AV.eqbss_eq:∀ (a:List (List AV)){b:List (List AV)},AV.eqbss a b=true->a=b
 | [],b,h=>by cases b <;> simp only[AV.eqbss,reduceCtorEq]at h; rfl
 | a::r,b,h=>by
  cases b <;> simp only[AV.eqbss,Bool.and_eq_true,reduceCtorEq]at h
  rw[AV.eqbs_eq a h.1,AV.eqbss_eq r h.2]
def Ob.eqb:Ob->Ob->Bool
 | .box t x,.box t' y=>Nat.beq t t'&&AV.eqbs x y
 | .row e s x,.row e' s' y=>Nat.beq e e'&&Nat.beq s s'&&S.eqbss x y
 | .arow e s x,.arow e' s' y=>Nat.beq e e'&&Nat.beq s s'&&AV.eqbss x y
 | _,_=>false
theorem Ob.eqb_eq:∀ {a b:Ob},Ob.eqb a b=true->a=b:=fun {a b} h=>by
 unfold Ob.eqb at h;split at h
 ·simp only[Bool.and_eq_true]at h;rw[Nat.eq_of_beq_eq_true h.1,AV.eqbs_eq _ h.2]
 ·simp only[Bool.and_eq_true]at h;rw[Nat.eq_of_beq_eq_true h.1.1,Nat.eq_of_beq_eq_true h.1.2,S.eqbss_eq _ h.2]
 ·simp only[Bool.and_eq_true]at h;rw[Nat.eq_of_beq_eq_true h.1.1,Nat.eq_of_beq_eq_true h.1.2,AV.eqbss_eq _ h.2]
 ·cases h
def zX2 (hp:Nat->Option Ob):List (Nat×Option Ob)->Bool
 | []=>true
 | (j,o)::r=>(match hp j,o with | some a,some b=>Ob.eqb a b | _,_=>false)&&zX2 hp r
theorem zTL {hp:Nat->Option Ob}:∀ {l:List (Nat×Option Ob)},zX2 hp l=true->∀ k,lookO l hp k=hp k
 | [],_,k=>rfl
 | (j,o)::r,h,k=>by
  simp only[zX2,Bool.and_eq_true]at h;simp only[lookO]
  cases e:Nat.beq k j with
  | false=>exact zTL h.2 k
  | true =>
   obtain rfl:=Nat.eq_of_beq_eq_true e;have h1:=h.1;rw[cond_true]
   split at h1
   ·rename_i a b e1
    rw[e1,Ob.eqb_eq h1]
   ·cases h1
def zOU:List (AV×List (Option Ob))->Option (AV×List (Option Ob))
 | []=>none
 | [p]=>some p
 | (x,[])::r=>match zOU r with
  | some (y,[])=>match AV.eqb x y with | true=>some (x,[]) | false=>none
  | _=>none
 | _=>none
theorem zKP:∀ {l:List (AV×List (Option Ob))}{p:AV×List (Option Ob)},zOU l=some p->∀ q∈l,q=p
 | [],p,h,q,hq=>by cases hq
 | [a],p,h,q,hq=>by
  simp only[zOU,Option.some.injEq]at h;subst h
  simpa using hq
 | (x,[])::b::r,p,h,q,hq=>by
  simp only[zOU]at h;split at h
  ·rename_i y hy
   split at h
   ·rename_i he
    cases h;have e:=AV.eqb_eq x he;subst e;rcases List.mem_cons.1 hq with rfl | hq
    ·rfl
    ·exact zKP hy q hq
   ·cases h
  ·cases h
 | (x,a::u)::b::r,p,h,q,hq=>by simp only[zOU,reduceCtorEq]at h
section
variable {β:Type}
def fN (n:Nat) (K:Nat->β):β:=match n with | 0=>K 0 | m+1=>K (m+1)
theorem zEC (n:Nat) (K:Nat->β):fN n K=K n:=by cases n <;> rfl
def fI (n:Int) (K:Int->β):β:=match n with | .ofNat m=>fN m fun m=>K (.ofNat m) | .negSucc m=>fN m fun m=>K (.negSucc m)
theorem yAw (n:Int) (K:Int->β):fI n K=K n:=by cases n <;> simp only[fI,zEC]
def fY (b:UInt8) (K:UInt8->β):β:=fN b.toNat fun n=>K (UInt8.ofNat n)
theorem zZX (b:UInt8) (K:UInt8->β):fY b K=K b:=by simp only[fY,zEC,UInt8.ofNat_toNat]
def fT (b:Bool) (K:Bool->β):β:=match b with | true=>K true | false=>K false
theorem yAy (b:Bool) (K:Bool->β):fT b K=K b:=by cases b <;> rfl
def fL {α:Type} (f:α->(α->β)->β):List α->(List α->β)->β
 | [],K=>K []
 | x::xs,K=>f x fun y=>fL f xs fun ys=>K (y::ys)
theorem zHy {α:Type}{f:α->(α->β)->β} (hf:∀ x K,f x K=K x):∀ (l:List α) (K:List α->β),fL f l K=K l
 | [],K=>rfl
 | x::xs,K=>by simp only[fL,hf]; exact zHy hf xs _
mutual
def fS:S->(S->β)->β
 | .int k n,K=>fI n fun n=>K (.int k n)
 | .bool b,K=>fT b fun b=>K (.bool b)
 | .str l,K=>fL fY l fun l=>K (.str l)
 | .sl sz rows,K=>fSss rows fun rows=>K (.sl sz rows)
 | .np,K=>K .np
 | .pt row,K=>fSs row fun row=>K (.pt row)
 | .fn f,K=>fN f fun f=>K (.fn f)
 | .nf,K=>K .nf
 | .nm,K=>K .nm
def fSs:List S->(List S->β)->β
 | [],K=>K []
 | x::xs,K=>fS x fun y=>fSs xs fun ys=>K (y::ys)
def fSss:List (List S)->(List (List S)->β)->β
 | [],K=>K []
 | x::xs,K=>fSs x fun y=>fSss xs fun ys=>K (y::ys)
end
mutual
theorem zZW:∀ (x:S) (K:S->β),fS x K=K x
 | .int k n,K=>by simp only[fS,yAw]
 | .bool b,K=>by simp only[fS,yAy]
 | .str l,K=>by simp only[fS,zHy zZX]
 | .sl sz rows,K=>by simp only[fS]; exact zPv rows _
 | .np,K=>by simp only[fS]
 | .pt row,K=>by simp only[fS]; exact zVz row _
 | .fn f,K=>by simp only[fS,zEC]
 | .nf,K=>by simp only[fS]
 | .nm,K=>by simp only[fS]
theorem zVz:∀ (x:List S) (K:List S->β),fSs x K=K x
 | [],K=>by simp only[fSs]
 | x::xs,K=>by
  simp only[fSs]
  rw[zZW x]
  exact zVz xs _
theorem zPv:∀ (x:List (List S)) (K:List (List S)->β),fSss x K=K x
 | [],K=>by simp only[fSss]
 | x::xs,K=>by
  simp only[fSss]
  rw[zVz x]
  exact zPv xs _
end
mutual
def fV:AV->(AV->β)->β
 | .s x,K=>fS x fun x=>K (.s x)
 | .nl sz,K=>K (.nl sz)
 | .agg xs,K=>fVs xs fun ys=>K (.agg ys)
 | .tup xs,K=>fVs xs fun ys=>K (.tup ys)
 | .op k o,K=>fN k fun k=>fN o fun o=>K (.op k o)
 | .orow k,K=>fN k fun k=>K (.orow k)
 | .rp k sz i o,K=>fN k fun k=>fN i fun i=>fN o fun o=>K (.rp k sz i o)
 | .mref k,K=>fN k fun k=>K (.mref k)
 | .clo f xs,K=>fN f fun f=>fVs xs fun ys=>K (.clo f ys)
 | .junk,K=>K .junk
def fVs:List AV->(List AV->β)->β
 | [],K=>K []
 | x::xs,K=>fV x fun y=>fVs xs fun ys=>K (y::ys)
end
mutual
theorem zUk:∀ (x:AV) (K:AV->β),fV x K=K x
 | .s x,K=>by simp only[fV,zZW]
 | .nl sz,K=>by simp only[fV]
 | .agg xs,K=>by simp only[fV]; exact zJD xs _
 | .tup xs,K=>by simp only[fV]; exact zJD xs _
 | .op k o,K=>by simp only[fV,zEC]
 | .orow k,K=>by simp only[fV,zEC]
 | .rp k sz i o,K=>by simp only[fV,zEC]
 | .mref k,K=>by simp only[fV,zEC]
 | .clo f xs,K=>by simp only[fV,zEC]; exact zJD xs _
 | .junk,K=>by simp only[fV]
theorem zJD:∀ (x:List AV) (K:List AV->β),fVs x K=K x
 | [],K=>by simp only[fVs]
 | x::xs,K=>by
  simp only[fVs]
  rw[zUk x]
  exact zJD xs _
end
def fTag:Tag->(Tag->β)->β
 | .map keys,K=>fL (fL fY) keys fun l=>K (.map l)
 | .iter a b c,K=>fN a fun a=>fL fN b fun b=>fN c fun c=>K (.iter a b c)
theorem zY2 (x:Tag) (K:Tag->β):fTag x K=K x:=by
 cases x <;> simp only[fTag,zHy (zHy zZX),zEC,zHy zEC]
def fO:Ob->(Ob->β)->β
 | .box t cs,K=>fVs cs fun l=>K (.box t l)
 | .row e sz rows,K=>fSss rows fun l=>K (.row e sz l)
 | .arow e sz rows,K=>fL fVs rows fun l=>K (.arow e sz l)
 | .any τ xs,K=>fTag τ fun τ=>fVs xs fun l=>K (.any τ l)
theorem zUj (x:Ob) (K:Ob->β):fO x K=K x:=by
 cases x <;> simp only[fO,zJD,zPv,zHy zJD,zY2]
def fOo:Option Ob->(Option Ob->β)->β
 | none,K=>K none
 | some o,K=>fO o fun o=>K (some o)
theorem zZU (x:Option Ob) (K:Option Ob->β):fOo x K=K x:=by cases x <;> simp only[fOo,zUj]
def fH (q:Option Nat) (σ:St) (K:St->β):β :=
 match q with
 | none=>K σ
 | some k=>match σ.hp k with
  | none=>K σ
  | some ob=>fO ob fun ob=>K ⟨σ.env,fun j=>bif Nat.beq j k then some ob else σ.hp j,σ.nx⟩
theorem zZT (q:Option Nat) (σ:St) (K:St->β):fH q σ K=K σ:=by
 unfold fH;split
 ·rfl
 ·rename_i k
  split
  ·rfl
  ·rename_i ob h
   rw[zUj]
   congr 1
   obtain⟨env,hp,nx⟩:=σ;simp only[St.mk.injEq,true_and,and_true]
   funext j
   cases e:Nat.beq j k with
   | true=>obtain rfl:=Nat.eq_of_beq_eq_true e; exact h.symm
   | false=>rfl
end
abbrev zGp:=Nat->List AV->List Ob->Option (AV×List (Option Ob))
def layP (ρ:List (Nat×Nat)) (f:Nat->Nat):Nat->List (Option Ob)->List (Nat×Option Ob)->List (Nat×Option Ob)
 | _,[],acc=>acc
 | i,o::os,acc=>layP ρ f (i+1) os ((f i,o.map (Ob.ren ρ))::acc)
theorem zVK {ρ:List (Nat×Nat)}{f:Nat->Nat}:∀ {i:Nat}{os:List (Option Ob)}{acc:List (Nat×Option Ob)}{K:List (Nat×Option Ob)->Prop},layG ρ f i os acc K=K (layP ρ f i os acc)
 | _,[],acc,K=>rfl
 | i,o::os,acc,K=>by
  simp only[layG,layP]
  rw[zKv,zYs]
  exact zVK
def layX {β:Type} (ρ:List (Nat×Nat)) (f:Nat->Nat):Nat->List (Option Ob)->List (Nat×Option Ob)->(List (Nat×Option Ob)->β)->β
 | _,[],acc,K=>K acc
 | i,o::os,acc,K=>fN (f i) fun j=>fOo (o.map (Ob.ren ρ)) fun o'=>layX ρ f (i+1) os ((j,o')::acc) K
theorem zTn {β:Type}{ρ:List (Nat×Nat)}{f:Nat->Nat}:∀ {i:Nat}{os:List (Option Ob)}{acc:List (Nat×Option Ob)}{K:List (Nat×Option Ob)->β},layX ρ f i os acc K=K (layP ρ f i os acc)
 | _,[],acc,K=>rfl
 | i,o::os,acc,K=>by
  simp only[layX,layP]
  rw[zEC,zZU]
  exact zTn
def zUP (T:Nat->Option TI) (o:Oper) (σ:St):Option (AV×St) :=
 match o.op with
 | .load t x=>match opd T σ.env 0 x with
  | .rp k sz i off=>match σ.hp k with
   | some (.row _ sz' rows)=>match Nat.beq sz sz',Nat.blt i rows.length,zMN T t ((rows.getD i []).drop off) with
    | true,true,some y=>some (y,σ)
    | _,_,_=>none
   | some (.arow _ sz' rows)=>match Nat.beq sz sz',Nat.blt i rows.length,zNJ T t ((rows.getD i []).drop off) with
    | true,true,some y=>some (y,σ)
    | _,_,_=>none
   | _=>none
  | _=>none
 | _=>none
def zWS (T:Nat->Option TI) (F:zGp) (o:Oper) (σ:St):Option (AV×St×Bool) :=
 match zBk T o σ.env with
 | none=>match zUP T o σ with | some (x,σ')=>some (x,σ',false) | none=>none
 | some (g,xs)=>fL fN (zAl σ.hp 64 (AV.keysAll xs) []) fun ks=>fN σ.nx fun nx0 =>
  match distinct ks,zJI σ.hp (zipI 0 ks) ks with
  | true,some os=>fVs (AV.renAll (zipI 0 ks) xs) fun xs'=>fL fO os fun os'=>match F g xs' os' with
   | some (x,r)=>layX (zDG ks nx0 0 r) (zEc ks nx0) 0 r [] fun l=>fN (nx0+(r.length - ks.length)) fun nx'=>some (x.ren (zDG ks nx0 0 r),St.lay σ l nx',zX2 σ.hp l)
   | none=>none
  | _,_=>none
def zKl {α β:Type}:List α->(α->Option (List β))->Option (List β)
 | [],_=>some []
 | a::r,f=>match f a with
  | none=>none
  | some l=>match zKl r f with
   | none=>none
   | some l'=>some (l++l')
theorem zDn {α β:Type}{f:α->Option (List β)}:∀ {l:List α}{L:List β},zKl l f=some L->∀ a∈l,∃ l',f a=some l'/\∀ y∈l',y∈L
 | [],L,h,a,ha=>by cases ha
 | b::r,L,h,a,ha=>by
  unfold zKl at h;split at h
  ·cases h
  ·rename_i l h1
   split at h
   ·cases h
   ·rename_i l' h2
    cases h;rcases List.mem_cons.1 ha with rfl | ha
    ·exact⟨l,h1,fun y hy=>List.mem_append.2 (.inl hy)⟩
    ·obtain⟨l2,h3,h4⟩:=zDn h2 a ha;exact⟨l2,h3,fun y hy=>List.mem_append.2 (.inr (h4 y hy))⟩
def nextL {α:Type} (f:Nat->List UInt8->AV->α) (seen:List Nat):Nat->List (List UInt8)->List AV->List α
 | i,s::ks,x::xs=>match inL i seen with
  | true=>nextL f seen (i+1) ks xs
  | false=>f i s x::nextL f seen (i+1) ks xs
 | _,_,_=>[]
theorem zRt {α:Type}{f:Nat->List UInt8->AV->α}{seen:List Nat}{s:List UInt8}{x:AV}:∀ {i j:Nat}{ks:List (List UInt8)}{xs:List AV},ks[j]? = some s->xs[j]? = some x->i+j ∉ seen->f (i+j) s x∈nextL f seen i ks xs
 | i,j,[],xs,h,_,_=>by simp at h
 | i,j,k::ks,[],_,h,_=>by simp at h
 | i,0,k::ks,y::xs,h1,h2,h3=>by
  simp at h1 h2;subst h1;subst h2;unfold nextL;split
  ·rename_i e; exact absurd (zMK.1 e) h3
  ·exact List.mem_cons_self
 | i,j+1,k::ks,y::xs,h1,h2,h3=>by
  have:=zRt (f:=f) (i:=i+1) (j:=j) (ks:=ks) (xs:=xs) (by simpa using h1) (by simpa using h2) (by rw[show i+1+j=i+(j+1) by omega]; exact h3)
  rw[show i+1+j=i+(j+1) by omega]at this;unfold nextL;split
  ·exact this
  ·exact List.mem_cons_of_mem _ this
theorem zUu {α:Type}{f:Nat->List UInt8->AV->α}{seen:List Nat}{s:List UInt8}{x:AV}{j:Nat}{ks:List (List UInt8)}{xs:List AV} (h1:ks[j]? = some s) (h2:xs[j]? = some x) (h3:j ∉ seen):f j s x∈nextL f seen 0 ks xs:=by
 have:=zRt (f:=f) (i:=0) h1 h2 (by rw[Nat.zero_add]; exact h3)
 rwa [Nat.zero_add]at this
def xMap (T:Nat->Option TI) (o:Oper) (σ:St):Option (List (AV×St)) :=
 match o.op with
 | .makeMap _ none=>some [(.mref σ.nx,zBe σ (.any (.map []) []))]
 | .insert t m k x=>match tk T t,opd T σ.env 0 m,opd T σ.env 0 k with
  | .mp kt e,.mref q,.s (.str s)=>match tk T kt,σ.hp q,(opd T σ.env e x).nrm.one with
   | .str,some (.any (.map keys) xs),true=>match zLs s keys 0 with
    | none=>some [(.junk,zEv σ q (.any (.map (keys++[s])) (xs++[(opd T σ.env e x).nrm])))]
    | some _=>none
   | _,_,_=>none
  | _,_,_=>none
 | .range t m=>match tk T t,opd T σ.env 0 m with
  | .mp _ _,.mref q=>match σ.hp q with
   | some (.any (.map keys) _)=>some [(.op σ.nx 0,zBe σ (.any (.iter keys.length [] keys.length) [.mref q]))]
   | _=>none
  | _,_=>none
 | .next it false=>match opd T σ.env 0 it with
  | .op q 0=>match σ.hp q with
   | some (.any (.iter since seen c) [.mref k])=>match σ.hp k with
    | some (.any (.map keys) xs)=>match Nat.beq keys.length since,Nat.ble since c with
     | true,true=>some ((match (List.range keys.length).all (fun i=>inL i seen) with | true=>[(.tup [.s (.bool false)],σ)] | false=>[]) ++
       nextL (fun i s x=>(.tup [.s (.bool true),.s (.str s),x],zEv σ q (.any (.iter since (seen++[i]) keys.length) [.mref k]))) seen 0 keys xs)
     | _,_=>none
    | _=>none
   | _=>none
  | _=>none
 | .entry it=>match opd T σ.env 0 it with
  | .op q 0=>match σ.hp q with
   | some (.any (.iter since seen c) [.mref k])=>match σ.hp k,seen.getLast? with
    | some (.any (.map keys) xs),some i=>match Nat.beq c keys.length,keys[i]?,xs[i]? with
     | true,some s,some x=>some [(.tup [.s (.str s),x],σ)]
     | _,_,_=>none
    | _,_=>none
   | _=>none
  | _=>none
 | _=>none
theorem zUQ {T:Nat->Option TI}{o:Oper}{σ:St}{L:List (AV×St)} (h:xMap T o σ=some L):∃ Φ,mapQ T o σ=some Φ/\∀ K:AV->St->Prop,(∀ p∈L,K p.1 p.2)->Φ K:=by
 unfold xMap at h;unfold mapQ;split at h
 ·rename_i ho; cases h; try simp only[ho]
  exact⟨_,rfl,fun K hk=>hk _ List.mem_cons_self⟩
 ·rename_i ho
  try simp only[ho]
  split at h
  ·rename_i h1 h2 h3
   try simp only[h1,h2,h3]
   split at h
   ·rename_i h4 h5 h6
    try simp only[h4,h5,h6]
    split at h
    ·rename_i h7; cases h; exact⟨_,rfl,fun K hk=>⟨h7,hk _ List.mem_cons_self⟩⟩
    ·cases h
   ·cases h
  ·cases h
 ·rename_i ho
  try simp only[ho]
  split at h
  ·rename_i h1 h2
   try simp only[h1,h2]
   split at h
   ·rename_i h4
    try simp only[h4]
    cases h; exact⟨_,rfl,fun K hk=>hk _ List.mem_cons_self⟩
   ·cases h
  ·cases h
 ·rename_i ho
  try simp only[ho]
  split at h
  ·rename_i h1
   try simp only[h1]
   split at h
   ·rename_i h2
    try simp only[h2]
    split at h
    ·rename_i h3
     try simp only[h3]
     split at h
     ·rename_i h4 h5
      cases h;refine⟨_,rfl,fun K hk=>⟨⟨Nat.eq_of_beq_eq_true h4,Nat.le_of_ble_eq_true h5⟩,fun i s x hi hx hn=>?_,fun hall=>?_⟩⟩
      ·exact hk _ (List.mem_append.2 (.inr (zUu hi hx hn)))
      ·refine hk (_,_) (List.mem_append.2 (.inl ?_))
       rw[List.all_eq_true.2 fun i hi=>zMK.2 (hall i (by simpa using hi))]
       exact List.mem_cons_self
     ·cases h
    ·cases h
   ·cases h
  ·cases h
 ·rename_i ho
  try simp only[ho]
  split at h
  ·rename_i h1
   try simp only[h1]
   split at h
   ·rename_i h2
    try simp only[h2]
    split at h
    ·rename_i h3 h4
     try simp only[h3,h4]
     split at h
     ·rename_i h5 h6 h7
      try simp only[h5,h6,h7]
      cases h; exact⟨_,rfl,fun K hk=>hk _ List.mem_cons_self⟩
     ·cases h
    ·cases h
   ·cases h
  ·cases h
 ·cases h
def touch (T:Nat->Option TI) (o:Oper) (σ:St) (x:AV):Option Nat :=
 match x with
 | .orow k=>some k
 | _=>match o.op with
  | .store _ y _=>match opd T σ.env 0 y with
   | .rp k _ _ _=>some k
   | _=>none
  | .insert _ m _ _=>match opd T σ.env 0 m with
   | .mref k=>some k
   | _=>none
  | _=>none
def zWT (T:Nat->Option TI) (F:zGp) (o:Oper) (σ:St):Option (AV×St) :=
 match zFd T o σ.env with
 | none=>none
 | some (g,xs)=>fL fN (zAl σ.hp 64 (AV.keysAll xs) []) fun ks=>fN σ.nx fun nx0 =>
  match distinct ks,zJI σ.hp (zipI 0 ks) ks with
  | true,some os=>fVs (AV.renAll (zipI 0 ks) xs) fun xs'=>fL fO os fun os'=>match F g xs' os' with
   | some (x,r)=>layX (zDG ks nx0 0 r) (zEc ks nx0) 0 r [] fun l=>fN (nx0+(r.length - ks.length)) fun nx'=>some (x.ren (zDG ks nx0 0 r),St.lay σ l nx')
   | none=>none
  | _,_=>none
def oneL {α:Type}:Option α->Option (List α)
 | some a=>some [a]
 | none=>none
def xRun (T:Nat->Option TI) (F:zGp) (own nmd:Bool) (o:Oper) (σ:St):Option (List (AV×St)) :=
 match zHz T nmd o σ with
 | some x=>some [(x,σ)]
 | none=>match zFd T o σ.env with
 | some _=>oneL (zWT T F o σ)
 | none=>match step1 T own o σ with
  | some (_,x,σ')=>match okB T o σ with | true=>some [(x,σ')] | false=>none
  | none=>match zK7 T o σ with
   | some x=>some [(x,σ)]
   | none=>match nilQ T o σ with
    | some (_::_)=>some [(.s (.bool false),σ)]
    | some []=>none
    | none=>match xMap T o σ with
     | some r=>some r
     | none=>oneL (zUP T o σ)
def putO (σ:St) (d:Option Nat) (x:AV):St:=match d with | none=>σ | some d=>σ.putN d x
def xOps (T:Nat->Option TI) (F:zGp) (M nm:List Nat) (N:Nat) (all:List Oper):List Oper->St->Option (List St)
 | [],σ=>some [σ]
 | o::os,σ=>match (match o.dst with | some t=>Nat.blt t N | none=>true),gate all o σ.env with
  | true,some true=>match xRun T F (dIn o.dst M) (dIn o.dst nm) o σ with
   | some L=>zKl L fun p=>fV p.1 fun y=>fH (touch T o σ y) p.2 fun σ2=>xOps T F M nm N all os (putO σ2 o.dst y)
   | none=>none
  | true,some false=>xOps T F M nm N all os (putO σ o.dst (.tup []))
  | _,_=>none
def zBj (R:List AV->List Ob->AV->List (Option Ob)->Prop):zAp:=⟨fun _ _=>False,some R,none,none,true⟩
def Tells (Γ:Nat->Option zAp) (F:zGp):Prop :=
 (∀ g s,Γ g=some s->s=zBj fun xs os x os'=>F g xs os=some (x,os'))/\∀ g xs os r,F g xs os=some r->Γ g ≠ none
section
variable {T:Nat->Option TI} {Γ:Nat->Option zAp} {F:zGp} {o:Oper} {σ σ':St} {x:AV} {own:Bool}
theorem Tells.get (h:Tells Γ F){g:Nat}{xs:List AV}{os:List Ob}{r:AV×List (Option Ob)} (h1:F g xs os=some r):Γ g=some (zBj fun xs os x os'=>F g xs os=some (x,os')):=by
 cases e:Γ g with
 | none=>exact absurd e (h.2 g xs os r h1)
 | some s=>rw[h.1 g s e]
theorem Tells.callOf (h:Tells Γ F) (env:Nat->AV):callOf T Γ o env=none:=by
 unfold Go.Abs.callOf;split
 ·split
  ·split
   ·rename_i s hs
    rw[h.1 _ s hs]
    simp only[zBj]
   ·rfl
  ·rfl
 ·rfl
theorem zNz (h:zUP T o σ=some (x,σ')){K:AV->St->Prop} (hK:K x σ'):zGk T o σ K:=by
 unfold zUP at h;unfold zGk;split at h
 ·rename_i ho
  simp only[ho]
  split at h
  ·rename_i h1
   simp only[h1]
   split at h
   ·rename_i h2
    simp only[h2]
    split at h
    ·rename_i h3 h4 h5
     cases h;simp only[h3]
     exact⟨Nat.le_of_ble_eq_true h4,_,rfl,by simp only[h5]; exact hK⟩
    ·cases h
   ·rename_i h2
    simp only[h2]
    split at h
    ·rename_i h3 h4 h5
     cases h;simp only[h3]
     exact⟨Nat.le_of_ble_eq_true h4,_,rfl,by simp only[h5]; exact hK⟩
    ·cases h
   ·cases h
  ·cases h
 ·cases h
theorem zNy (ht:Tells Γ F){b:Bool} (h:zWS T F o σ=some (x,σ',b)){K:AV->St->Prop} (hK:K x σ'):zMt T Γ own o σ K:=by
 unfold zWS at h;unfold zMt;split at h
 ·rename_i h1
  simp only[h1]
  split at h
  ·rename_i h2; cases h; exact zNz h2 hK
  ·cases h
 ·rename_i g xs h1
  simp only[h1]
  rw[zHy zEC,zEC]at h;split at h
  ·rename_i os h2 h3
   rw[zJD,zHy zUj]at h;split at h
   ·rename_i y r h4
    rw[zTn,zEC]at h;cases h;rw[ht.get h4]
    simp only[zBj,zE0,zPG,zKv,h2,h3]
    refine⟨y,r,h4,?_⟩
    rw[zVK]
    exact hK
   ·cases h
  ·cases h
theorem zYg (h:zWS T F o σ=some (x,σ',true)):(∀ k,σ'.hp k=σ.hp k)/\cOp o=true:=by
 unfold zWS at h;split at h
 ·split at h
  ·cases h
  ·cases h
 ·rename_i g xs h1
  rw[zHy zEC,zEC]at h;split at h
  ·rw[zJD,zHy zUj]at h;split at h
   ·rename_i y r h4
    rw[zTn,zEC]at h;have h5:=(Prod.mk.inj (Prod.mk.inj (Option.some.inj h)).2).2;have h6:=(Prod.mk.inj (Prod.mk.inj (Option.some.inj h)).2).1;subst h6;refine⟨zTL h5,?_⟩
    unfold zBk at h1;split at h1
    ·rename_i ho; unfold cOp; rw[ho]
    ·cases h1
   ·cases h
  ·cases h
theorem zR9 (ht:Tells Γ F) (h:zWT T F o σ=some (x,σ')):∃ Φ,zKo T Γ o σ=some Φ/\∀ K:AV->St->Prop,K x σ'->Φ K:=by
 unfold zWT at h;unfold zKo;split at h
 ·cases h
 ·rename_i g xs h1
  rw[zHy zEC,zEC]at h;split at h
  ·rename_i os h2 h3
   rw[zJD,zHy zUj]at h;split at h
   ·rename_i y r h4
    rw[zTn,zEC]at h;cases h;simp only[h1,ht.get h4]
    simp only[zBj,h2,h3]
    refine⟨_,rfl,fun K hK=>⟨y,r,h4,?_⟩⟩
    have:handed σ (zAl σ.hp 64 (AV.keysAll xs) []) r=St.lay σ (layP (zDG (zAl σ.hp 64 (AV.keysAll xs) []) σ.nx 0 r) (zEc (zAl σ.hp 64 (AV.keysAll xs) []) σ.nx) 0 r []) (σ.nx+(r.length - (zAl σ.hp 64 (AV.keysAll xs) []).length)):=by
     have:=zSD (hp:=σ.hp) (ρ:=zDG (zAl σ.hp 64 (AV.keysAll xs) []) σ.nx 0 r) (f:=zEc (zAl σ.hp 64 (AV.keysAll xs) []) σ.nx) 0 r [] (fun hp=>hp=lookO (layP (zDG (zAl σ.hp 64 (AV.keysAll xs) []) σ.nx 0 r) (zEc (zAl σ.hp 64 (AV.keysAll xs) []) σ.nx) 0 r []) σ.hp)
     rw[zVK]at this;have h9:=this.mp rfl;simp only[handed,St.lay,St.mk.injEq,true_and,and_true]
     exact h9
    rw[this]
    exact hK
   ·cases h
  ·cases h
theorem zUc (h:zFd T o σ.env=none):zKo T Γ o σ=none:=by
 unfold zKo;rw[h]
theorem zRO (h:zFd T o σ.env=none):zBk T o σ.env=none:=by
 unfold zFd at h;unfold zBk;split at h
 ·rename_i ho
  split at h
  ·cases h
  ·split at h <;> cases h
  ·first | rfl | (split <;> first | rfl | simp_all)
 ·first | rfl | (split <;> first | rfl | simp_all)
theorem zVS (h:zUP T o σ=some (x,σ')):mapQ T o σ=none:=by
 unfold zUP at h;split at h
 ·rename_i ho
  unfold mapQ;simp only[ho]
 ·cases h
theorem zXv {x:AV}{K:AV->Prop} (h:K x):named x K:=by
 unfold named;split
 ·intro b hb; rw[hb]; exact h
 ·intro b hb; rw[hb]; exact h
 ·intro b hb; rw[hb]; exact h
 ·intro b hb; rw[hb]; exact h
 ·intro b hb; rw[hb]; exact h
 ·rw[zGA]; exact h
theorem zPD {nm:Bool}{d:Option Nat}{K:St->Prop} (h:K (putO σ d x)):lay nm d x σ K:=by
 unfold lay;unfold putO at h;split
 ·exact h
 ·split
  ·exact zXv h
  ·rw[zGA]; exact h
theorem zGK (ht:Tells Γ F){M nm:List Nat}{N:Nat}{all:List Oper}{K:St->Prop}:∀ {os:List Oper}{σ:St}{L:List St},xOps T F M nm N all os σ=some L->(∀ τ∈L,K τ)->zBv T Γ M nm N all os σ K
 | [],σ,L,h,hk=>by cases h; exact hk _ List.mem_cons_self
 | o::os,σ,L,h,hk=>by
  unfold xOps at h;unfold zBv;have hrun:∀ {J:List (AV×St)},xRun T F (dIn o.dst M) (dIn o.dst nm) o σ=some J->(∀ p∈J,∃ l',xOps T F M nm N all os (putO p.2 o.dst p.1)=some l'/\∀ y∈l',y∈L)->(match zHz T (dIn o.dst nm) o σ with
    | some x=>lay false o.dst x σ fun σ''=>zBv T Γ M nm N all os σ'' K
    | none=>match zKo T Γ o σ with
    | some Φ=>Φ fun x σ'=>lay (dIn o.dst nm) o.dst x σ' fun σ''=>zBv T Γ M nm N all os σ'' K
    | none=>match callOf T Γ o σ.env with
    | some (_,s,xs)=>∃ r,s.spec xs r/\match zBt (dIn o.dst M) σ r with
     | none=>False
     | some (x,σ')=>lay (dIn o.dst nm) o.dst x σ' fun σ''=>zBv T Γ M nm N all os σ'' K
    | none=>match step1 T (dIn o.dst M) o σ with
     | none=>match zK7 T o σ with
      | some x=>lay (dIn o.dst nm) o.dst x σ fun σ''=>zBv T Γ M nm N all os σ'' K
      | none=>match nilQ T o σ with
      | some rows=>∀ b:Bool,(b=true->rows=[])->lay (dIn o.dst nm) o.dst (.s (.bool b)) σ fun σ''=>zBv T Γ M nm N all os σ'' K
      | none=>match mapQ T o σ with
       | some Φ=>Φ fun x σ'=>lay (dIn o.dst nm) o.dst x σ' fun σ''=>zBv T Γ M nm N all os σ'' K
       | none=>zMt T Γ (dIn o.dst M) o σ fun x σ'=>lay (dIn o.dst nm) o.dst x σ' fun σ''=>zBv T Γ M nm N all os σ'' K
     | some (φ,x,σ')=>andO φ (lay (dIn o.dst nm) o.dst x σ' fun σ''=>zBv T Γ M nm N all os σ'' K)):=fun {J} hr hn=>by
   have hl:∀ p∈J,∀ nmd,lay nmd o.dst p.1 p.2 fun σ''=>zBv T Γ M nm N all os σ'' K:=fun p hp nmd=>by
    obtain⟨l',h1,h2⟩:=hn p hp;exact zPD (zGK ht h1 fun τ hτ=>hk τ (h2 τ hτ))
   unfold xRun at hr;split at hr
   ·cases hr; exact hl _ List.mem_cons_self _
   ·rename_i h1
    try simp only[h1]
    split at hr
    ·unfold oneL at hr;split at hr
     ·rename_i q hq
      cases hr;obtain⟨Φ,h8,h9⟩:=zR9 ht hq;rw[h8]
      exact h9 _ (hl _ List.mem_cons_self _)
     ·cases hr
    rename_i hraw
    rw[zUc hraw]
    dsimp only;rw[ht.callOf]
    dsimp only;split at hr
    ·rename_i φ x1 σ1' h2
     split at hr
     ·rename_i h3
      cases hr;simp only[h2]
      have:=zTS h2 h3;cases φ with
      | none=>exact hl _ List.mem_cons_self _
      | some p=>exact⟨this,hl _ List.mem_cons_self _⟩
     ·cases hr
    ·rename_i h2
     simp only[h2]
     split at hr
     ·cases hr; exact hl _ List.mem_cons_self _
     ·rename_i h3
      try dsimp only
      split at hr
      ·rename_i h4
       cases hr;simp only[h4]
       intro b hb;cases b with
       | true=>exact absurd (hb rfl) (by simp)
       | false=>exact hl _ List.mem_cons_self _
      ·cases hr
      ·rename_i h4
       simp only[h4]
       split at hr
       ·rename_i r h5
        cases hr;obtain⟨Φ,h6,h7⟩:=zUQ h5;simp only[h6]
        exact h7 _ fun p hp=>hl p hp _
       ·unfold oneL at hr;split at hr
        ·rename_i q hq
         cases hr;simp only[zVS hq]
         unfold zMt;rw[zRO hraw]
         exact zNz hq (hl _ List.mem_cons_self _)
        ·cases hr
  have hdst:∀ (p:Prop),p->(match (match o.dst with | some t=>Nat.blt t N | none=>true) with | false=>False | true=>p)∨(match o.dst with | some t=>Nat.blt t N | none=>true)=false:=fun p hp=>by
   cases(match o.dst with | some t=>Nat.blt t N | none=>true) with
   | true=>exact .inl hp
   | false=>exact .inr rfl
  split at h
  ·rename_i hd hg
   split at h
   ·rename_i J hr
    have:=hrun hr fun p hp=>by
     obtain⟨l',h1,h2⟩:=zDn h p hp;rw[zUk,zZT]at h1;exact⟨l',h1,h2⟩
    refine(hdst _ ?_).resolve_right fun e=>absurd (hd.symm.trans e) (by simp)
    dsimp only;unfold gate at hg;split at hg
    ·rename_i e; rw[e]; exact this
    ·rename_i j want e
     rw[e]
     dsimp only;split at hg
     ·rename_i g e1
      rw[e1]
      dsimp only;split at hg
      ·rename_i b e2
       rw[e2]
       cases b <;> cases want <;> first | exact this | cases hg
      ·cases hg
      ·cases hg
     ·cases hg
   ·cases h
  ·rename_i hd hg
   have hs:lay false o.dst (.tup []) σ fun σ''=>zBv T Γ M nm N all os σ'' K:=zPD (zGK ht h hk)
   refine(hdst _ ?_).resolve_right fun e=>absurd (hd.symm.trans e) (by simp)
   dsimp only;unfold gate at hg;split at hg
   ·cases hg
   ·rename_i j want e
    rw[e]
    dsimp only;split at hg
    ·rename_i g e1
     rw[e1]
     dsimp only;split at hg
     ·rename_i b e2
      rw[e2]
      cases b <;> cases want <;> first | exact hs | cases hg
     ·rename_i e2
      rw[e2]
      exact hs
     ·cases hg
    ·cases hg
  ·cases h
end
def makes (o:Oper):Bool :=
 match o.op with
 | .move x=>zA6 x
 | .assign x=>zA6 x
 | .box _ _=>true
 | .buildSlice _ _ _=>true
 | _=>false
def zU4:AV->Option Nat
 | .op k _=>some k
 | .orow k=>some k
 | .rp k _ _ _=>some k
 | .mref k=>some k
 | _=>none
def zXL (T:Nat->Option TI) (o:Oper) (env:Nat->AV):Option Nat :=
 match o.op with
 | .load _ x=>zU4 (opd T env 0 x)
 | .indexAddr t x _=>zU4 (opd T env t x)
 | .call { callee:=.builtin .len,args:=args,argTypes:=ts }=>match args.toList,ts.toList with
  | [x],[t]=>zU4 (opd T env t x)
  | _,_=>none
 | _=>none
theorem zMm {n:Nat->Bool}{x:AV}{k:Nat} (h:zU4 x=some k) (hn:n k=true):zRJ n x=true:=by
 cases x <;> simp only[zU4,Option.some.injEq,reduceCtorEq]at h <;> subst h <;> exact hn
theorem zWe {T:Nat->Option TI}{n:Nat->Bool}{o:Oper}{env:Nat->AV}{k:Nat} (h:zXL T o env=some k) (hn:n k=true):zDO T n o env=true:=by
 unfold zXL at h;unfold zDO;split at h
 ·rename_i ho; simp only[ho]; exact zMm h hn
 ·rename_i ho; simp only[ho]; exact zMm h hn
 ·rename_i ho
  simp only[ho]
  split at h
  ·rename_i h1 h2; simp only[h1,h2]; exact zMm h hn
  ·cases h
 ·cases h
def zX3 (T:Nat->Option TI) (o:Oper) (env:Nat->AV):Option Nat :=
 match o.op with
 | .store _ x _=>match opd T env 0 x with
  | .op k _=>some k
  | .rp k _ _ _=>some k
  | _=>none
 | _=>none
theorem zWA {T:Nat->Option TI}{n:Nat->Bool}{o:Oper}{env:Nat->AV}{k:Nat} (h:zX3 T o env=some k) (hn:n k=false):zDO T n o env=true:=by
 unfold zX3 at h;unfold zDO;split at h
 ·rename_i ho
  simp only[ho]
  split at h
  ·rename_i e; cases h; rw[e]; simp only[zUt,hn]; rfl
  ·rename_i e; cases h; rw[e]; simp only[zUt,hn]; rfl
  ·cases h
 ·cases h
inductive Inf where
 | no
 | cl
 | rd (k:Nat)
 | st (k:Nat)
def zZ3 (T:Nat->Option TI) (o:Oper) (env:Nat->AV):Inf :=
 match zXL T o env with
 | some k=>.rd k
 | none=>match zX3 T o env with
  | some k=>.st k
  | none=>.no
def dRun (T:Nat->Option TI) (F:zGp) (own:Bool) (o:Oper) (σ:St):Option (AV×St×Bool×Inf) :=
 match (match own&&makes o with | true=>none | false=>zB2 T (slO own o) o σ.env) with
 | some (_,x)=>match okB T o σ with | true=>some (x,σ,false,.no) | false=>none
 | none=>match step1 T own o σ with
  | some (_,x,σ')=>match okB T o σ with | true=>some (x,σ',true,zZ3 T o σ.env) | false=>none
  | none=>match zWS T F o σ with
   | some (x,σ',true)=>some (x,σ',true,.cl)
   | some (x,σ',false)=>some (x,σ',true,.no)
   | none=>none
def dOps (T:Nat->Option TI) (F:zGp) (M:List Nat) (all:List Oper):List Oper->St->Option (St×List (Bool×Inf))
 | [],σ=>some (σ,[])
 | o::os,σ=>match gate all o σ.env with
  | some true=>match dRun T F (dIn o.dst M) o σ with
   | some (x,σ',b)=>fV x fun y=>fH (touch T o σ x) σ' fun σ2=>match dOps T F M all os (putO σ2 o.dst y) with
    | some (σ3,l)=>some (σ3,b::l)
    | none=>none
   | none=>none
  | some false=>match dOps T F M all os (putO σ o.dst (.tup [])) with
   | some (σ3,l)=>some (σ3,(false,.no)::l)
   | none=>none
  | none=>none
def idxs:Nat->List Bool->List Nat
 | _,[]=>[]
 | k,true::r=>k::idxs (k+1) r
 | k,false::r=>idxs (k+1) r
theorem zSy:∀ {l:List Bool}{k j:Nat},j<k->inL j (idxs k l)=false
 | [],_,_,_=>rfl
 | true::r,k,j,h=>by
  simp only[idxs,inL,zSy (l:=r) (k:=k+1) (by omega:j<k+1),Bool.or_false]
  cases e:Nat.beq j k with
  | true=>have:=Nat.eq_of_beq_eq_true e; omega
  | false=>rfl
 | false::r,k,j,h=>zSy (l:=r) (k:=k+1) (by omega:j<k+1)
theorem zLF:∀ {l:List Bool}{k i:Nat}{b:Bool},l[i]? = some b->inL (k+i) (idxs k l)=b
 | [],_,_,_,h=>by simp at h
 | true::r,k,0,b,h=>by
  simp at h; subst h
  simp[idxs,inL]
 | false::r,k,0,b,h=>by
  simp at h; subst h
  exact zSy (l:=r) (k:=k+1) (by omega)
 | true::r,k,i+1,b,h=>by
  have:=zLF (l:=r) (k:=k+1) (i:=i) (b:=b) (by simpa using h)
  rw[show k+1+i=k+(i+1) by omega]at this;simp only[idxs,inL,this]
  cases e:Nat.beq (k+(i+1)) k with
  | true=>have:=Nat.eq_of_beq_eq_true e; omega
  | false=>rfl
 | false::r,k,i+1,b,h=>by
  have:=zLF (l:=r) (k:=k+1) (i:=i) (b:=b) (by simpa using h)
  rw[show k+1+i=k+(i+1) by omega]at this;exact this
section
variable {T:Nat->Option TI} {Γ:Nat->Option zAp} {F:zGp}
theorem Tells.noHeap (h:Tells Γ F):Tells (noHeap Γ) F :=
 ⟨fun g s hs=>h.1 g s (zGE hs).1,fun g xs os r hr hn=>by
  have:=h.get hr;simp only[Go.Abs.noHeap,this,zBj]at hn;cases hn⟩
def Fits (L Ro:List Nat) (n:Nat->Bool) (k:Nat) (l:List (Bool×Inf)):Prop :=
 ∀ i p,l[i]? = some p->inL (k+i) L=p.1/\inL (k+i+1000) Ro=false/\(inL (k+i) Ro=true->match p.2 with | .no=>False | .cl=>True | .rd q=>n q=true | .st q=>n q=false)
theorem Fits.tail {L Ro:List Nat}{n:Nat->Bool}{k:Nat}{p:Bool×Inf}{l:List (Bool×Inf)} (h:Fits L Ro n k (p::l)):Fits L Ro n (k+1) l:=fun i q hi=>by
 have:=h (i+1) q (by simpa using hi)
 rw[show k+(i+1)=k+1+i by omega]at this;exact this
theorem zKq (ht:Tells Γ F){M L Ro:List Nat}{n:Nat->Bool}{all:List Oper}{K:St->Prop}:∀ {os:List Oper}{k:Nat}{σ σ':St}{l:List (Bool×Inf)},dOps T F M all os σ=some (σ',l)->Fits L Ro n k l->K σ'->evD T Γ M [] L Ro n all os k σ K
 | [],k,σ,σ',l,h,hL,hk=>by cases h; exact hk
 | o::os,k,σ,σ',l,h,hL,hk=>by
  unfold dOps at h;unfold evD;have hrun:∀ {x:AV} {σ1:St} {b:Bool×Inf} {l':List (Bool×Inf)},dRun T F (dIn o.dst M) o σ=some (x,σ1,b)->dOps T F M all os (putO σ1 o.dst x)=some (σ',l')->l=b::l'->(match callOf T Γ o σ.env with
    | some (_,s,xs)=>∃ r,s.spec xs r/\match zBt (dIn o.dst M&&inL k L) σ r with
     | none=>False
     | some (x,σ')=>lay (dIn o.dst []) o.dst x σ' fun σ''=>evD T Γ M [] L Ro n all os (k+1) σ'' K
    | none=>match inL k L with
     | true=>match step1 T (dIn o.dst M) o σ with
      | none=>zMt T (Go.Abs.noHeap Γ) (dIn o.dst M) o σ fun x σ'=>zXk (inL k Ro&&cOp o) n σ σ' (zXu (inL (k+1000) Ro) (cmP T Γ o σ σ') (lay (dIn o.dst []) o.dst x σ' fun σ''=>evD T Γ M [] L Ro n all os (k+1) σ'' K))
      | some (φ,x,σ')=>andO φ (lay (dIn o.dst []) o.dst x σ' fun σ''=>evD T Γ M [] L Ro n all os (k+1) σ'' K)
     | false=>match zB2 T (slO (dIn o.dst M) o) o σ.env with
      | none=>False
      | some (φ,x)=>andO φ (lay (dIn o.dst []) o.dst x σ fun σ''=>evD T Γ M [] L Ro n all os (k+1) σ'' K)) /\
    ((inL k Ro&&!(zDO T n o σ.env||clB T Γ (dIn o.dst M) (inL k L) o σ))||(inL (k+1000) Ro&&!(clB T Γ (dIn o.dst M) (inL k L) o σ&&o.guard.isNone)))=false:=fun {x σ1 b l'} hr hn hl=>by
   subst hl;obtain⟨hb,h1000,hro⟩:=hL 0 b rfl;rw[Nat.add_zero]at hb h1000 hro;have hl:∀ nmd,lay nmd o.dst x σ1 fun σ''=>evD T Γ M [] L Ro n all os (k+1) σ'' K:=fun nmd=>zPD (zKq ht hn hL.tail hk)
   rw[ht.callOf,hb,h1000]
   unfold dRun at hr;split at hr
   ·rename_i φ y hp
    split at hr
    ·rename_i hok
     cases hr;have hr0:inL k Ro=false:=by
      cases e:inL k Ro with
      | false=>rfl
      | true=>exact(hro e).elim
     rw[hr0]
     refine⟨?_,rfl⟩
     dsimp only;have hp':zB2 T (slO (dIn o.dst M) o) o σ.env=some (φ,x):=by
      split at hp
      ·cases hp
      ·exact hp
     rw[hp']
     cases φ with
     | none=>exact hl _
     | some p=>exact⟨zTB hp' hok,hl _⟩
    ·cases hr
   ·split at hr
    ·rename_i φ y σ2 hs
     split at hr
     ·rename_i hok
      cases hr;refine⟨?_,?_⟩
      ·dsimp only;rw[hs]
       have:=zTS hs hok;cases φ with
       | none=>exact hl _
       | some p=>exact⟨this,hl _⟩
      ·cases e:inL k Ro with
       | false=>rfl
       | true =>
        have h1:=hro e;unfold zZ3 at h1;cases e2:zXL T o σ.env with
        | none =>
         rw[e2]at h1;dsimp only at h1;cases e3:zX3 T o σ.env with
         | none=>rw[e3]at h1; exact h1.elim
         | some q =>
          rw[e3]at h1;rw[zWA e3 h1]
          rfl
        | some q =>
         rw[e2]at h1;rw[zWe e2 h1]
         rfl
     ·cases hr
    ·rename_i hs
     split at hr
     ·rename_i y σ2 hc
      cases hr;obtain⟨hhp,hco⟩:=zYg hc;refine⟨?_,?_⟩
      ·dsimp only;rw[hs]
       refine zNy ht.noHeap hc ?_;have:kp n σ σ1:=fun k _=>hhp k
       cases inL k Ro&&cOp o
       ·exact hl _
       ·exact⟨this,hl _⟩
      ·have:clB T Γ (dIn o.dst M) true o σ=true:=by
        unfold clB;rw[hco,ht.callOf]
        dsimp only;rw[hs]
       rw[this]
       simp
     ·rename_i y σ2 hc
      cases hr;have hr0:inL k Ro=false:=by
       cases e:inL k Ro with
       | false=>rfl
       | true=>exact(hro e).elim
      rw[hr0]
      refine⟨?_,rfl⟩
      dsimp only;rw[hs]
      exact zNy ht.noHeap hc (hl _)
     ·cases hr
  have hskip:∀ {l':List (Bool×Inf)},l=(false,.no)::l'->((inL k Ro&&!(zDO T n o σ.env||clB T Γ (dIn o.dst M) (inL k L) o σ))||(inL (k+1000) Ro&&!(clB T Γ (dIn o.dst M) (inL k L) o σ&&o.guard.isNone)))=false:=fun {l'} hl=>by
   subst hl;obtain⟨hb,h1000,hro⟩:=hL 0 _ rfl;rw[Nat.add_zero]at hb h1000 hro;have hr0:inL k Ro=false:=by
    cases e:inL k Ro with
    | false=>rfl
    | true=>exact(hro e).elim
   rw[hr0,h1000]
   rfl
  split at h
  ·rename_i hg
   split at h
   ·rename_i y σ1 b hr
    rw[zUk,zZT]at h;split at h
    ·rename_i σ3 l' hd
     cases h;obtain⟨this,hgate⟩:=hrun hr hd rfl;rw[hgate]
     dsimp only;unfold gate at hg;split at hg
     ·exact this
     ·rename_i j want e
      try rw[e]
      try dsimp only
      split at hg
      ·rename_i g e1
       try rw[e1]
       try dsimp only
       split at hg
       ·rename_i b e2
        try rw[e2]
        cases b <;> cases want <;> first | exact this | cases hg
       ·cases hg
       ·cases hg
      ·cases hg
    ·cases h
   ·cases h
  ·rename_i hg
   split at h
   ·rename_i σ3 l' hd
    cases h;have hs:lay false o.dst (.tup []) σ fun σ''=>evD T Γ M [] L Ro n all os (k+1) σ'' K:=zPD (zKq ht hd hL.tail hk)
    rw[hskip rfl]
    dsimp only;unfold gate at hg;split at hg
    ·cases hg
    ·rename_i j want e
     try rw[e]
     try dsimp only
     split at hg
     ·rename_i g e1
      try rw[e1]
      try dsimp only
      split at hg
      ·rename_i b e2
       try rw[e2]
       cases b <;> cases want <;> first | exact hs | cases hg
      ·rename_i e2
       try rw[e2]
       exact hs
      ·cases hg
     ·cases hg
   ·cases h
  ·cases h
end
def zIT (M:List Nat):List Oper->List Nat
 | []=>[]
 | o::os=>match o.op,o.dst with
  | .move _,some d=>(match inL d M with | true=>zIT M os | false=>d::zIT M os)
  | .assign _,some d=>(match inL d M with | true=>zIT M os | false=>d::zIT M os)
  | _,_=>zIT M os
def envX {β:Type} (env:Nat->AV):Nat->List (Nat×AV)->(List (Nat×AV)->β)->β
 | 0,l,K=>K l
 | t+1,l,K=>fV (env t) fun x=>match x with
  | .junk=>envX env t l K
  | x=>envX env t ((t,x)::l) K
theorem zMA {β:Type}{env:Nat->AV}:∀ {t:Nat}{l:List (Nat×AV)}{K:List (Nat×AV)->β},holds env l->∃ l',holds env l'/\envX env t l K=K l'
 | 0,l,K,h=>⟨l,h,rfl⟩
 | t+1,l,K,h=>by
  simp only[envX]
  rw[zUk]
  split
  ·exact zMA h
  ·exact zMA ⟨rfl,h⟩
def hpX {β:Type} (hp:Nat->Option Ob):Nat->List (Nat×Ob)->(List (Nat×Ob)->β)->β
 | 0,l,K=>K l
 | k+1,l,K=>match hp k with
  | none=>hpX hp k l K
  | some ob=>hpX hp k ((k,ob)::l) K
theorem zPz {β:Type}{hp:Nat->Option Ob}:∀ {n:Nat}{l:List (Nat×Ob)}{K:List (Nat×Ob)->β},(∀ k ob,ofH l k=some ob->hp k=some ob)->∃ l',(∀ k ob,ofH l' k=some ob->hp k=some ob)/\hpX hp n l K=K l'
 | 0,l,K,h=>⟨l,h,rfl⟩
 | q+1,l,K,h=>by
  simp only[hpX]
  split
  ·exact zPz h
  ·rename_i ob hq
   refine zPz fun k ob' hk=>?_
   simp only[ofH]at hk;cases e:Nat.beq k q with
   | true =>
    rw[e,cond_true]at hk;obtain rfl:=Nat.eq_of_beq_eq_true e;rw[hq,← hk]
   | false =>
    rw[e,cond_false]at hk;exact h k ob' hk
def tidy {β:Type} (N:Nat) (σ:St) (K:St->β):β:=envX σ.env N [] fun l=>fN σ.nx fun n=>hpX σ.hp n [] fun H=>K ⟨ofL l,ofH H,n⟩
theorem zNt {β:Type}{N:Nat}{σ:St}{K:St->β}:∃ σ',(∀ c,Le c σ σ')/\tidy N σ K=K σ':=by
 unfold tidy;obtain⟨l,h1,h2⟩:=zMA (env:=σ.env) (t:=N) (l:=[]) (K:=fun l=>fN σ.nx fun n=>hpX σ.hp n [] fun H=>K ⟨ofL l,ofH H,n⟩) trivial;rw[h2,zEC]
 obtain⟨H,h3,h4⟩:=zPz (hp:=σ.hp) (n:=σ.nx) (l:=[]) (K:=fun H=>K ⟨ofL l,ofH H,σ.nx⟩) (fun k ob h=>by simp[ofH]at h)
 rw[h4]
 exact⟨_,fun c=>Le.fewer l (ofH H) h1 h3,rfl⟩
def rds (nx:Nat):List (Bool×Inf)->List Nat
 | []=>[]
 | p::r=>match p.2 with
  | .rd q=>(match Nat.blt q nx with | true=>q::rds nx r | false=>rds nx r)
  | _=>rds nx r
def roB (nx:Nat) (rl:List Nat) (p:Bool×Inf):Bool :=
 match p.2 with
 | .no=>false
 | .cl=>true
 | .rd q=>Nat.blt q nx
 | .st q=>!(inL q rl)
theorem zSx:∀ {l:List Bool}{k j:Nat},k+l.length<=j->inL j (idxs k l)=false
 | [],_,_,_=>rfl
 | true::r,k,j,h=>by
  simp only[List.length_cons]at h;simp only[idxs,inL,zSx (l:=r) (k:=k+1) (j:=j) (by omega),Bool.or_false]
  cases e:Nat.beq j k with
  | true=>have:=Nat.eq_of_beq_eq_true e; omega
  | false=>rfl
 | false::r,k,j,h=>by
  simp only[List.length_cons]at h;exact zSx (l:=r) (k:=k+1) (by omega)
theorem zWg {nx q:Nat}:∀ {l:List (Bool×Inf)}{i:Nat}{b:Bool},l[i]? = some (b,.rd q)->Nat.blt q nx=true->inL q (rds nx l)=true
 | [],i,b,h,_=>by simp at h
 | p::r,0,b,h,hq=>by
  simp at h;subst h;simp only[rds,hq,inL,Nat.beq_refl,Bool.true_or]
 | p::r,i+1,b,h,hq=>by
  have:=zWg (l:=r) (i:=i) (b:=b) (by simpa using h) hq;unfold rds;split
  ·split
   ·simp only[inL,this,Bool.or_true]
   ·exact this
  ·exact this
theorem zTD {nx k:Nat}:∀ {l:List (Bool×Inf)},inL k (rds nx l)=true->k<nx
 | [],h=>by cases h
 | p::r,h=>by
  unfold rds at h;split at h
  ·split at h
   ·rename_i hq
    simp only[inL,Bool.or_eq_true]at h;rcases h with h | h
    ·obtain rfl:=Nat.eq_of_beq_eq_true h;exact Nat.le_of_ble_eq_true hq
    ·exact zTD h
   ·exact zTD h
  ·exact zTD h
theorem zY3 {nx:Nat}{l:List (Bool×Inf)} (hl:l.length<=1000):Fits (idxs 0 (l.map (·.1))) (idxs 0 (l.map (roB nx (rds nx l)))) (fun q=>inL q (rds nx l)) 0 l:=fun i p hi=>by
 refine⟨zLF (by rw[List.getElem?_map,hi]; rfl),zSx (by rw[List.length_map]; omega),fun h=>?_⟩
 have h1:roB nx (rds nx l) p=true:=by
  rw[← h]
  exact(zLF (by rw[List.getElem?_map,hi]; rfl)).symm
 obtain⟨b,f⟩:=p;cases f with
 | no=>cases h1
 | cl=>trivial
 | rd q=>exact zWg hi h1
 | st q=>simpa [roB] using h1
def nrmE (σs:List St):List (Go.Abs.End×St):=σs.map fun σ=>(.normal,σ)
def zGJ (T:Nat->Option TI) (F:zGp) (M:List Nat) (N:Nat):Nat->Code->St->Option (List (End×St))
 | 0,_,_=>none
 | n+1,code,σ=>match code with
  | .seq x y=>match zGJ T F M N n x σ with
   | none=>none
   | some l=>zKl l fun p=>match p with
    | (.normal,σ1)=>zGJ T F M N n y σ1
    | r=>some [r]
  | .region _ ops drawn=>match zD1 N ops.toList with
   | false=>none
   | true=>match drawn with
    | false=>match xOps T F M (zIT M ops.toList) N ops.toList ops.toList σ with
     | some σs=>some (nrmE σs)
     | none=>none
    | true=>match dOps T F M ops.toList ops.toList σ with
     | some (σ1,l)=>match Nat.ble l.length 1000,lexD ops (idxs 0 (l.map (·.1))) (idxs 0 (l.map (roB σ.nx (rds σ.nx l)))) ops.toList.length 0 (Array.replicate ops.toList.length false) with
      | true,true=>some [(.normal,σ1)]
      | _,_=>none
     | none=>none
  | .cond (.tmp t) x y=>match σ.env t with
   | .s (.bool true)=>zGJ T F M N n x σ
   | .s (.bool false)=>zGJ T F M N n y σ
   | _=>none
  | .skip=>some [(.normal,σ)]
  | .ret=>some [(.ret,σ)]
  | .exit id=>some [(.exit id,σ)]
  | .block id x=>match zGJ T F M N n x σ with
   | none=>none
   | some l=>some (l.map fun p=>match p with
    | (.exit j,σ1)=>(match Nat.beq j id with | true=>(.normal,σ1) | false=>(.exit j,σ1))
    | r=>r)
  | .loop x=>match zGJ T F M N n x σ with
   | none=>none
   | some l=>zKl l fun p=>match p with
    | (.normal,σ1)=>tidy N σ1 fun σ2=>zGJ T F M N n (.loop x) σ2
    | r=>some [r]
  | _=>none
section
variable {c:Cx} {T:Nat->Option TI} {Γ:Nat->Option zAp} {F:zGp}
theorem zDs (hT:TOk c.P T) (hΓ:∀ f s,Γ f=some s->PSound c.P f s) (hm:c.P.follows .mixedOrders=true) (ht:Tells Γ F){M:List Nat}:∀ {n:Nat}{code:Code}{σ:St}{L:List (End×St)}{Q:End->St->Prop},zGJ T F M c.N n code σ=some L->(∀ p∈L,Q p.1 p.2) ->
  Tri c code σ Q/\∀ x,code = .loop x->TriL c x σ Q
 | 0,_,_,_,_,h,_=>by cases h
 | n+1,code,σ,L,Q,h,hq=>by
  have ih:=fun {code:Code} {σ:St} {L:List (End×St)} {Q:End->St->Prop}=>zDs hT hΓ hm ht (M:=M) (n:=n) (code:=code) (σ:=σ) (L:=L) (Q:=Q)
  have h1q:∀ {e σ'},L=[(e,σ')]->Q e σ':=fun {e σ'} e=>hq (_,_) (by rw[e]; exact List.mem_cons_self)
  unfold zGJ at h;split at h
  ·rename_i x y
   refine⟨zAa ?_,fun _ h=>by cases h⟩
   split at h
   ·cases h
   ·rename_i l h1
    refine(ih h1 (Q:=zX6 c y Q) fun p hp=>?_).1;obtain⟨l',h2,h3⟩:=zDn h p hp;obtain⟨e,τ⟩:=p;cases e with
    | normal=>exact(ih h2 fun p hp=>hq p (h3 p hp)).1
    | exit id=>cases h2; exact hq _ (h3 _ List.mem_cons_self)
    | ret=>cases h2; exact hq _ (h3 _ List.mem_cons_self)
  ·rename_i id ops drawn
   refine⟨?_,fun _ h=>by cases h⟩
   split at h
   ·cases h
   ·rename_i hd
    split at h
    ·split at h
     ·rename_i σs h1
      cases h;have:=zKR (id:=id) (Q:=Q) hT hΓ M (zIT M ops.toList) hd (zGK ht h1 fun τ hτ=>hq (.normal,τ) (List.mem_map.2 ⟨τ,hτ,rfl⟩))
      simpa using this
     ·cases h
    ·split at h
     ·rename_i σ1 l h1
      split at h
      ·rename_i h3 h2
       cases h;have:=zKQ (id:=id) (Q:=Q) hT hΓ hm (fun q=>inL q (rds σ.nx l)) (fun _ h=>zTD h) M [] (idxs 0 (l.map (·.1))) (idxs 0 (l.map (roB σ.nx (rds σ.nx l)))) hd (by simpa using h2) (zKq ht h1 (zY3 (Nat.le_of_ble_eq_true h3)) (h1q rfl))
       simpa using this
      ·cases h
     ·cases h
  ·rename_i t x y
   refine⟨?_,fun _ h=>by cases h⟩
   split at h
   ·rename_i hb
    exact zAx hb (fun _=>(ih h hq).1) (fun h=>by cases h)
   ·rename_i hb
    exact zAx hb (fun h=>by cases h) (fun _=>(ih h hq).1)
   ·cases h
  ·cases h; exact⟨zAf (h1q rfl),fun _ h=>by cases h⟩
  ·cases h; exact⟨zAh (h1q rfl),fun _ h=>by cases h⟩
  ·cases h; exact⟨zAB (h1q rfl),fun _ h=>by cases h⟩
  ·rename_i id x
   refine⟨zAi ?_,fun _ h=>by cases h⟩
   split at h
   ·cases h
   ·rename_i l h1
    cases h;refine(ih h1 (Q:=zOd id Q) fun p hp=>?_).1;have:=hq _ (List.mem_map.2 ⟨p,hp,rfl⟩)
    obtain⟨e,τ⟩:=p;cases e with
    | normal=>exact this
    | exit j =>
     show match Nat.beq j id with | true=>Q .normal τ | false=>Q (.exit j) τ
     dsimp only at this;cases e:Nat.beq j id with
     | true=>rw[e]at this; exact this
     | false=>rw[e]at this; exact this
    | ret=>exact this
  ·rename_i x
   have key:TriL c x σ Q:=by
    refine zUK ?_;split at h
    ·cases h
    ·rename_i l h1
     refine(ih h1 (Q:=zYv c x Q) fun p hp=>?_).1;obtain⟨l',h2,h3⟩:=zDn h p hp;obtain⟨e,τ⟩:=p;cases e with
     | normal =>
      obtain⟨σ2,h4,h5⟩:=zNt (N:=c.N) (σ:=τ) (K:=fun σ2=>zGJ T F M c.N n (.loop x) σ2)
      dsimp only at h2;rw[h5]at h2;exact zZv (h4 _) ((ih h2 fun p hp=>hq p (h3 p hp)).2 x rfl)
     | exit id=>cases h2; exact hq _ (h3 _ List.mem_cons_self)
     | ret=>cases h2; exact hq _ (h3 _ List.mem_cons_self)
   exact⟨zWI key,fun y hy=>by cases hy; exact key⟩
  ·cases h
end
def xFrz (n0:Nat):List Nat->St->St
 | [],σ=>σ
 | k::r,σ=>match Nat.ble n0 k,σ.hp k with
  | true,some (.row e sz rows)=>xFrz n0 r (zLa σ k (.s (.sl sz rows)) (fun _=>.junk))
  | true,some (.arow e sz rows)=>match zOM rows with
   | some rs=>fSss rs fun rs=>xFrz n0 r (zLa σ k (.s (.sl sz rs)) (fun _=>.junk))
   | none=>xFrz n0 r σ
  | _,_=>xFrz n0 r σ
theorem zKV {c:Cx}{n0:Nat}:∀ {l:List Nat}{σ:St},Le c σ (xFrz n0 l σ)
 | [],σ=>Le.refl c σ
 | k::r,σ=>by
  unfold xFrz;split
  ·rename_i h
   exact Le.trans (Le.giveRow k h) zKV
  ·rename_i h
   split
   ·rename_i rs hs
    rw[zPv]
    exact Le.trans (Le.giveArow k rs h hs) zKV
   ·exact zKV
  ·exact zKV
def resT:ResultVar->Nat
 | .tmp t=>t
 | .cell t _=>t
def zPF (l:List Nat):List Nat->List Nat
 | []=>[]
 | k::r=>match kin k l with | true=>zPF l r | false=>k::zPF l r
def there (hp:Nat->Option Ob):List (Nat×Nat)->List (Nat×Nat)
 | []=>[]
 | (k,j)::r=>match hp k with | some _=>(k,j)::there hp r | none=>there hp r
def hpR (hp:Nat->Option Ob) (ρ:List (Nat×Nat)):List (Nat×Nat)->List (Nat×Ob)
 | []=>[]
 | (k,j)::r=>match hp k with | some ob=>(j,ob.ren ρ)::hpR hp ρ r | none=>hpR hp ρ r
theorem zPy {hp:Nat->Option Ob}{ρ:List (Nat×Nat)}:∀ {l:List (Nat×Nat)},kept hp ρ (there hp l) (hpR hp ρ l)
 | []=>trivial
 | (k,j)::r=>by
  simp only[there,hpR]
  cases e:hp k with
  | none=>exact zPy
  | some ob=>exact⟨rfl,⟨ob,e,rfl⟩,zPy⟩
theorem zMI {hp:Nat->Option Ob}{ρ:List (Nat×Nat)}:∀ {l:List (Nat×Nat)},hpR hp ρ (there hp l)=hpR hp ρ l
 | []=>rfl
 | (k,j)::r=>by
  simp only[there,hpR]
  cases e:hp k with
  | none=>exact zMI
  | some ob=>simp only[hpR,e,zMI]
def envR (env:Nat->AV) (ρ:List (Nat×Nat)):List Nat->List (Nat×AV)
 | []=>[]
 | t::r=>(t,(env t).ren ρ)::envR env ρ r
theorem zQ0 {env:Nat->AV}{ρ:List (Nat×Nat)}:∀ {l:List Nat},rens env ρ (envR env ρ l)
 | []=>trivial
 | t::r=>⟨rfl,zQ0⟩
def obsL (hl:List (Nat×Ob)):Nat->List (Option Ob)->List (Option Ob)
 | 0,l=>l
 | k+1,l=>obsL hl k (ofH hl k::l)
def zPL (n:Nat):List (Option Ob)->Bool
 | []=>true
 | none::r=>zPL n r
 | some ob::r=>ob.lt n&&zPL n r
theorem zTt {hl:List (Nat×Ob)}{n:Nat}:∀ {k:Nat}{l:List (Option Ob)},zPL n (obsL hl k l)=true->(zMH (ofH hl) n k l)->zMH (ofH hl) n 0 (obsL hl k l)
 | 0,l,_,h=>h
 | k+1,l,h1,h=>by
  simp only[obsL]at h1 ⊢;refine zTt h1 ?_;have h2:zPL n (ofH hl k::l)=true:=by
   have:∀ {k:Nat} {l:List (Option Ob)},zPL n (obsL hl k l)=true->zPL n l=true:=fun {k}=>by
    induction k with
    | zero=>intro l h; exact h
    | succ k ih =>
     intro l h;have:=ih h;cases e:ofH hl k with
     | none=>rw[e]at this; exact this
     | some ob=>rw[e]at this; simp only[zPL,Bool.and_eq_true]at this; exact this.2
   exact this h1
  cases e:ofH hl k with
  | none=>exact h
  | some ob =>
   rw[e]at h2;simp only[zPL,Bool.and_eq_true]at h2;exact⟨e,h2.1,h⟩
theorem zLJ {hl:List (Nat×Ob)}:∀ {k:Nat}{l:List (Option Ob)},(obsL hl k l).length=k+l.length
 | 0,l=>by simp[obsL]
 | k+1,l=>by simp only[obsL,zLJ,List.length_cons]; omega
def fP {β:Type} (p:Nat×Ob) (K:Nat×Ob->β):β:=fN p.1 fun j=>fO p.2 fun ob=>K (j,ob)
theorem yAx {β:Type} (p:Nat×Ob) (K:Nat×Ob->β):fP p K=K p:=by simp only[fP,zEC,zUj]
def fPN {β:Type} (p:Nat×Nat) (K:Nat×Nat->β):β:=fN p.1 fun j=>fN p.2 fun k=>K (j,k)
theorem zZV {β:Type} (p:Nat×Nat) (K:Nat×Nat->β):fPN p K=K p:=by simp only[fPN,zEC]
def xOut (T:Nat->Option TI) (n0:Nat) (rs:List ResultVar) (n1 n:Nat) (l:List (Nat×AV)) (hl:List (Nat×Ob)):Option (AV×List (Option Ob)) :=
 match zHf T ⟨ofL l,ofH hl,n⟩ rs with
 | some x=>match zPL n1 (obsL hl n1 []),x.lt n1,Nat.ble n0 n1 with
  | true,true,true=>fV x fun x=>some (x,obsL hl n1 [])
  | _,_,_=>none
 | none=>none
def xRen (T:Nat->Option TI) (n0:Nat) (rs:List ResultVar) (σ:St) (n1 n:Nat) (ρ:List (Nat×Nat)):Option (AV×List (Option Ob)) :=
 fL fP (hpR σ.hp ρ ρ) fun hl=>match distinct (ρ.map (·.1)),distinct (ρ.map (·.2)),ltL n (envR σ.env ρ (rs.map resT)),ltH n hl,zNp n0 n ρ with
  | true,true,true,true,true=>xOut T n0 rs n1 n (envR σ.env ρ (rs.map resT)) hl
  | _,_,_,_,_=>none
def yAo (T:Nat->Option TI) (n0:Nat) (rs:List ResultVar) (σ:St) (x:AV):Option (AV×List (Option Ob)) :=
 fL fN (zAl σ.hp 500 (upF n0 []++x.keys) []) fun k1=>fL fN (upF n0 []++zPF (upF n0 []) k1) fun o1 =>
  fL fN (o1++zPF o1 (zAl σ.hp 500 (AV.keysAll ((rs.map resT).map σ.env)) [])) fun o2=>fL fPN (there σ.hp (zipI 0 o2)) fun ρ =>
   fN o1.length fun n1=>fN o2.length fun n=>xRen T n0 rs σ n1 n ρ
def xEnd (T:Nat->Option TI) (n0:Nat) (rs:List ResultVar) (σ:St):Option (AV×List (Option Ob)) :=
 match zHf T σ rs with
 | none=>none
 | some x0=>fL fN (zAl σ.hp 500 x0.keys []).reverse fun k0=>match zHf T (xFrz n0 k0 σ) rs with
  | none=>none
  | some x1=>fV x1 fun x1=>yAo T n0 rs (xFrz n0 k0 σ) x1
theorem zKU {P:Program}{T:Nat->Option TI}{w0:World}{B0:Nat->Value}{G0:Nat->Prop}{n0 N:Nat}{rs:List ResultVar}{σ:St}{x:AV}{os':List (Option Ob)} (h:xEnd T n0 rs σ=some (x,os')) :
  zCA (zDI P w0 B0 n0 G0 N) T rs x os' σ/\n0<=os'.length:=by
 unfold xEnd at h;split at h
 ·cases h
 ·rw[zHy zEC]at h;split at h
  ·cases h
  ·rename_i x1 _
   rw[zUk]at h;unfold yAo at h;simp only[zHy zEC,zEC,zHy zZV]at h;unfold xRen at h;rw[zHy yAx]at h;split at h
   ·rename_i h1 h2 h3 h4 h5
    rw[zMI]at h h4;unfold xOut at h;split at h
    ·rename_i y hy
     split at h
     ·rename_i g1 g2 g3
      rw[zUk]at h;cases h;rw[zLJ,List.length_nil,Nat.add_zero]
      unfold zCA;refine⟨⟨_,Le.trans zKV (Le.rename _ _ _ _ zQ0 zPy h1 h2 h3 h4 h5),hy,?_,?_⟩,Nat.le_of_ble_eq_true g3⟩
      ·rw[zLJ,List.length_nil,Nat.add_zero]; exact g2
      ·rw[zLJ,List.length_nil,Nat.add_zero]; exact zTt g1 trivial
     ·cases h
    ·cases h
   ·cases h
structure Fi where
 fn:Func
 M:List Nat
def zHb (T:Nat->Option TI) (ext:Nat->Option (List AV->List Ob->Option (AV×List (Option Ob)))) (tab:Nat->Option Fi):Nat->zGp
 | 0,_,_,_=>none
 | n+1,g,xs,os=>match ext g with
  | some h=>h xs os
  | none=>match tab g with
   | none=>none
   | some fi=>match Nat.ble xs.length fi.fn.ntmps,fi.fn.body with
    | true,some code=>match zGJ T (zHb T ext tab n) fi.M fi.fn.ntmps 100000 code (zHT xs os) with
     | none=>none
     | some l=>match zKl l fun p=>(match p with
       | (.exit _,_)=>none
       | (_,σ)=>match xEnd T os.length fi.fn.results.toList σ with | some r=>some [r] | none=>none) with
      | none=>none
      | some rs=>zOU rs
    | _,_=>none
def oF (F:zGp) (g:Nat):zAp:=zBj fun xs os x os'=>F g xs os=some (x,os')
theorem PSound.tell {P:Program}{f:Nat}{R:List AV->List Ob->AV->List (Option Ob)->Prop} (h:PSound P f (zB1 R)):PSound P f (zBj R):=⟨h.1,h.2.1,h.2.2.1,fun R hR=>by cases hR⟩
theorem PSound.untell {P:Program}{f:Nat}{R:List AV->List Ob->AV->List (Option Ob)->Prop} (h:PSound P f (zBj R)):PSound P f (zB1 R):=⟨h.1,h.2.1,h.2.2.1,fun R hR=>by cases hR⟩
theorem zMs {P:Program}{T:Nat->Option TI}{ext:Nat->Option (List AV->List Ob->Option (AV×List (Option Ob)))}{tab:Nat->Option Fi}{n:Nat} (ih:∀ g,(ext g ≠ none∨tab g ≠ none)->PSound P g (oF (zHb T ext tab n) g)) :
  ∃ Γ:Nat->Option zAp,(∀ f s,Γ f=some s->PSound P f s)/\Tells Γ (zHb T ext tab n):=by
 have hget:∀ g s,(match ext g,tab g with | none,none=>none | _,_=>some (oF (zHb T ext tab n) g):Option zAp)=some s->s=oF (zHb T ext tab n) g/\(ext g ≠ none∨tab g ≠ none):=fun g s hs=>by
  split at hs
  ·cases hs
  ·rename_i hn
   cases hs;refine⟨rfl,?_⟩
   cases e1:ext g with
   | some h=>exact .inl (by simp)
   | none=>cases e2:tab g with
    | some fi=>exact .inr (by simp)
    | none=>exact absurd e2 (hn e1)
 refine⟨fun g=>match ext g,tab g with | none,none=>none | _,_=>some (oF (zHb T ext tab n) g),fun f s hs=>?_,fun g s hs=>(hget g s hs).1,fun g xs os r hr hn=>?_⟩
 ·obtain⟨rfl,h2⟩:=hget f s hs;exact ih f h2
 ·dsimp only at hn;split at hn
  ·rename_i e1 e2
   cases n with
   | zero=>cases hr
   | succ n =>
    simp only[zHb,e1,e2]at hr;cases hr
  ·cases hn
theorem zGN {P:Program}{T:Nat->Option TI} (hT:TOk P T) (hm:P.follows .mixedOrders=true){ext:Nat->Option (List AV->List Ob->Option (AV×List (Option Ob)))}{tab:Nat->Option Fi}
  (hext:∀ g h,ext g=some h->PSound P g (zBj fun xs os x os'=>h xs os=some (x,os')))
  (htab:∀ g fi,tab g=some fi->(∀ args w,(callFunc g args).run P w = .ok (.enter g args) w)/\P.funcs[g]? = some fi.fn) :
  ∀ (n g:Nat),(ext g ≠ none∨tab g ≠ none)->PSound P g (oF (zHb T ext tab n) g)
 | 0,g,hg=>by
  refine(zEJ ?_ (fun xs os x os' h=>by cases h) none).tell;rcases hg with hg | hg
  ·cases e:ext g with
   | none=>exact absurd e hg
   | some h=>exact(hext g h e).1
  ·cases e:tab g with
   | none=>exact absurd e hg
   | some fi=>exact(htab g fi e).1
 | n+1,g,hg=>by
  have ih:=zGN hT hm hext htab n
  let F:=zHb T ext tab n
  obtain⟨Γ,hΓ,ht⟩:=zMs (T:=T) ih;cases e1:ext g with
  | some h =>
   have:oF (zHb T ext tab (n+1)) g=zBj fun xs os x os'=>h xs os=some (x,os'):=by
    unfold oF
    congr 1
    funext xs os x os'
    simp only[zHb,e1]
   rw[this]
   exact hext g h e1
  | none =>
   cases e2:tab g with
   | none=>rcases hg with hg | hg <;> contradiction
   | some fi =>
    obtain⟨t1,t2⟩:=htab g fi e2;have key:∀ {xs os x os'},zHb T ext tab (n+1) g xs os=some (x,os')->xs.length<=fi.fn.ntmps/\∃ code l,fi.fn.body=some code/\zGJ T F fi.M fi.fn.ntmps 100000 code (zHT xs os)=some l/\l ≠ []/\∀ p∈l,(∀ id,p.1 ≠ .exit id)/\xEnd T os.length fi.fn.results.toList p.2=some (x,os'):=fun {xs os x os'} h=>by
     simp only[zHb,e1,e2]at h;split at h
     ·rename_i code hb hbody
      refine⟨Nat.le_of_ble_eq_true hb,?_⟩
      split at h
      ·cases h
      ·rename_i l h1
       split at h
       ·cases h
       ·rename_i rs h2
        refine⟨code,l,hbody,h1,fun e=>?_,fun p hp=>?_⟩
        ·subst e;cases h2;cases h
        ·obtain⟨l',h3,h4⟩:=zDn h2 p hp;obtain⟨e,τ⟩:=p;cases e with
         | exit id=>cases h3
         | normal =>
          dsimp only at h3;split at h3
          ·rename_i r hr
           cases h3;have:=zKP h r (h4 r List.mem_cons_self)
           subst this;exact⟨(fun id h=>by cases h),hr⟩
          ·cases h3
         | ret =>
          dsimp only at h3;split at h3
          ·rename_i r hr
           cases h3;have:=zKP h r (h4 r List.mem_cons_self)
           subst this;exact⟨(fun id h=>by cases h),hr⟩
          ·cases h3
     ·cases h
    cases hbody:fi.fn.body with
    | none =>
     refine(zEJ t1 (fun xs os x os' h=>?_) none).tell;obtain⟨_,code,l,h2,_⟩:=key h;rw[hbody]at h2;cases h2
    | some code =>
    refine(zYu hT t1 t2 hbody (fun xs os x os' h=>?_) fi.fn.ntmps rfl (fun xs os x os' w0 G0 B0 h _=>?_)).tell
    ·obtain⟨h1,code',l,hc,h2,h3,h4⟩:=key h;obtain⟨p,hp⟩:=List.exists_mem_of_ne_nil l h3;exact⟨h1,(zKU (P:=P) (w0:=default) (B0:=fun _=>.tuple #[]) (G0:=fun _=>False) (N:=0) (h4 p hp).2).2⟩
    ·obtain⟨h1,code',l,hc,h2,h3,h4⟩:=key h;rw[hbody]at hc;cases hc;refine(zDs (c:=zDI P w0 B0 os.length G0 fi.fn.ntmps) hT hΓ hm ht h2 fun p hp=>?_).1;obtain⟨h5,h6⟩:=h4 p hp;obtain⟨e,τ⟩:=p;cases e with
     | normal=>exact(zKU h6).1
     | exit id=>exact absurd rfl (h5 id)
     | ret=>exact(zKU h6).1
theorem PSound.extO {P:Program}{f:Nat}{R:List AV->List Ob->AV->List (Option Ob)->Prop} (hp:PSound P f (zB1 R)){h:List AV->List Ob->Option (AV×List (Option Ob))}
  (hk:∀ xs os x os',h xs os=some (x,os')->R xs os x os'):PSound P f (zBj fun xs os x os'=>h xs os=some (x,os')) :=
 ⟨hp.1,fun G w xs vs r _ _ _ _ hs=>hs.elim,fun R' hR'=>by
  obtain rfl:(fun xs os x os'=>h xs os=some (x,os'))=R' :=(by simpa [zBj] using hR');exact fun G w β xs vs os x os' h1 h2 h3 h4 h5 h6=>hp.2.2.1 R rfl G w β xs vs os x os' h1 h2 h3 h4 h5 (hk _ _ _ _ h6),fun R hR=>by cases hR⟩
theorem PSound.extP {P:Program}{f:Nat}{s:zAp} (hp:PSound P f s){h:List AV->Option AV}
  (hk:∀ xs x,h xs=some x->AV.persAll xs=true/\s.spec xs (.val x)):PSound P f (zBj fun xs os x os'=>(match os,h xs with | [],some y=>some (y,[]) | _,_=>none)=some (x,os')) :=
 PSound.extO (h:=fun xs os=>match os,h xs with | [],some y=>some (y,[]) | _,_=>none) hp.toOwn fun xs os x os' e=>by
  split at e
  ·rename_i y hy
   cases e;obtain⟨h1,h2⟩:=hk _ _ hy;exact⟨h1,h2,rfl,rfl⟩
  ·cases e
structure Hd where
 c:Cx
 env:Nat->AV
 a:Act
 N:Nat
 m:Nat
 l:Nat
 D:Nat
 ky:Nat
 p:Nat
 rc:Loop
structure Hd.Ok (h:Hd):Prop where
 ro:h.c.ro=none
 ds:h.c.ds=[]
 n0:h.c.n0<=h.m
 lt:∀ t,(h.env t).lt h.m=true
 l:h.c.w0.heap.size<=h.l
 D:h.c.w0.heap.size<=h.D
 ne:h.D ≠ h.l
 ky:h.ky<h.m
 st:h.rc.state = .ready
 pe:h.rc.pending=none
 ps:h.rc.params = #[h.p]
 tm:h.rc.tmps=h.a.tmps
 p:h.p<h.c.N
def Hd.held (h:Hd) (τ:St) (ai:Act) (W:World):Prop :=
 ∃ G β,Conc h.c G β ⟨h.env,τ.hp,τ.nx⟩ h.a W/\Conc { h.c with N:=h.N } G β τ ai W/\W.heap[h.l]? = some (.loop h.rc)/\W.heap[h.D]? = some (.deferred (some []))/\¬ G h.l/\¬ G h.D/\h.m<=τ.nx/\β h.ky = .func (.yield h.l) #[] #[]
def Hd.cx (h:Hd) (w:World) (X G:Nat->Prop) (B:Nat->Value):Cx:={ P:=h.c.P,w0:=w,X:=X,G0:=G,N:=h.N,n0:=h.m,B0:=B }
def TriY (h:Hd) (x:Code) (τ:St) (Q:End->St->Prop):Prop :=
 ∀ a W,h.held τ a W->x.wpIn (rF none) 1 h.c.P (fun e a' W'=>∃ e' τ',e=zEx e'/\Q e' τ'/\h.held τ' a' W') a W
section
variable {h:Hd} (ho:h.Ok) {τ:St} {Q:End->St->Prop}
include ho
theorem Hd.go {ai:Act}{W:World} (hh:h.held τ ai W):∃ G β,Conc (h.cx W (ownB β τ.hp) G β) G β τ ai W/\∀ G' β' τ' a' W',Conc (h.cx W (ownB β τ.hp) G β) G' β' τ' a' W'->h.held τ' a' W':=by
 obtain⟨G,β,h1,h2,hl,hD,nl,nD,hm,hy⟩:=hh;have e0:h2.defers.trans ho.ds=h2.defers.trans ho.ds:=rfl;refine⟨G,β,h2.re (c2:=h.cx W (ownB β τ.hp) G β) (fun _ _=>rfl) (fun _ _=>rfl) (Nat.le_refl _) (h2.defers.trans ho.ds) h2.size h2.env h2.envlt (fun _ h=>.inl h) (fun _ h=>h) (fun _ h=>.inl h) (Fr.refl _ _) ⟨hm,fun _ _=>rfl⟩,fun G' β' τ' a' W' hc=>?_⟩
 have s1:=h1.stand hc rfl (fun _ h=>h) rfl rfl rfl ho.lt ho.n0;have nol:¬ ownB β τ.hp h.l:=h2.not_own hl rfl;have noD:¬ ownB β τ.hp h.D:=h2.not_own hD rfl;have ll:=(Array.getElem?_eq_some_iff.1 hl).1;have lD:=(Array.getElem?_eq_some_iff.1 hD).1;have new:∀ b,b<W.heap.size->¬ G b->¬ ownB β τ.hp b->¬ G' b:=fun b hb h1 h2 h=>(hc.new b h).elim h1 fun h=>h.elim h2 fun h=>by have:W.heap.size<=b:=h; omega
 exact⟨G',β',s1,hc.re (c2:={ h.c with N:=h.N }) (fun _ _=>rfl) (fun _ _=>rfl) (Nat.le_refl _) (hc.defers.trans ho.ds.symm) hc.size hc.env hc.envlt s1.own_mine s1.sub s1.new s1.fr s1.stay,
  (hc.fr.old _ ll nol).trans hl,(hc.fr.old _ lD noD).trans hD,new _ ll nl nol,new _ lD nD noD,hc.stay.1,(hc.stay.2 _ ho.ky).trans hy⟩
theorem zZw {x:Code} (ht:∀ W X G B,Tri (h.cx W X G B) x τ Q):TriY h x τ Q:=fun a W hh=>by
 obtain⟨G,β,hc,hk⟩:=Hd.go ho hh;have:=ht W (ownB β τ.hp) G β;unfold Tri at this;refine wpIn_mono (zWQ (m:=1) (this G β a W hc)) ?_;rintro e a' W' ⟨e',G',β',τ',rfl,hq,hc'⟩
 exact⟨e',τ',rfl,hq,hk G' β' τ' a' W' hc'⟩
omit ho
def yAm (h:Hd) (y:Code) (Q:End->St->Prop):End->St->Prop
 | .normal,τ=>TriY h y τ Q
 | e,τ=>Q e τ
theorem zX8 {x y:Code} (ht:TriY h x τ (yAm h y Q)):TriY h (.seq x y) τ Q:=fun a W hh=>by
 refine wpIn_seq (wpIn_mono (ht a W hh) ?_)
 rintro e a' W' ⟨e',τ',rfl,hq,hh'⟩
 cases e' with
 | normal=>exact hq a' W' hh'
 | exit id=>exact⟨.exit id,τ',rfl,hq,hh'⟩
 | ret=>exact⟨.ret,τ',rfl,hq,hh'⟩
theorem zUL {id:Nat}{x:Code} (ht:TriY h x τ (zOd id Q)):TriY h (.block id x) τ Q:=fun a W hh=>by
 refine wpIn_block (wpIn_mono (ht a W hh) ?_)
 rintro e a' W' ⟨e',τ',rfl,hq,hh'⟩
 cases e' with
 | normal=>exact⟨.normal,τ',rfl,hq,hh'⟩
 | ret=>exact⟨.ret,τ',rfl,hq,hh'⟩
 | exit j =>
  simp only[zOd]at hq;show Exit.inBlock id _ (.exit j) a' W';unfold Exit.inBlock;dsimp only;split at hq
  ·rename_i e
   rw[if_pos (Nat.eq_of_beq_eq_true e)]
   exact⟨.normal,τ',rfl,hq,hh'⟩
  ·rename_i e
   rw[if_neg (Nat.ne_of_beq_eq_false e)]
   exact⟨.exit j,τ',rfl,hq,hh'⟩
theorem zR4 {x y:Code}{t:Nat}{b:Bool} (hb:τ.env t = .s (.bool b)) (h1:b=true->TriY h x τ Q) (h2:b=false->TriY h y τ Q):TriY h (.cond (.tmp t) x y) τ Q:=fun a W hh=>by
 obtain⟨G,β,_,hc,_⟩:=id hh;have e:=hc.env t;rw[hb]at e;simp only[AVal,Rep]at e;exact wpIn_cond_split (t:=b) e (fun e=>h1 e a W hh) (fun e=>h2 e a W hh)
def zSk (h:Hd) (x:Code) (τ:St) (Q:End->St->Prop):Prop :=
 ∀ a W,h.held τ a W->∀ (b:Frame) (k:List Item) (cs:List Frame),b.roundOf=(rF none).round->(rF none).fn b.fn->(rF none).room (cs.length+1+1) ->
  ∃ e a' W',(∃ e' τ',e=zEx e'/\Q e' τ'/\h.held τ' a' W')/\ArrivesIn (Machine.fenced h.c.P (rF none)) h.c.P (lone (b.atR a (.code x::.inLoop x::k)) cs W) b k cs e a' W'
theorem zWH {x:Code} (ht:zSk h x τ Q):TriY h (.loop x) τ Q:=fun a W hh b k cs hro hb hr=>by
 obtain⟨e,a',W',hq,harr⟩:=ht a W hh b k cs hro hb hr;exact⟨e,a',W',hq,.of_steps (.one (fenced_calm hb hr rfl) stepR_loop) harr⟩
def zYw (h:Hd) (x:Code) (Q:End->St->Prop):End->St->Prop
 | .normal,τ=>zSk h x τ Q
 | e,τ=>Q e τ
theorem zS1 {x:Code} (ht:TriY h x τ (zYw h x Q)):zSk h x τ Q:=fun a W hh b k cs hro hb hr=>by
 obtain⟨e,a',W',⟨e',τ',rfl,hq,hh'⟩,harr⟩:=ht a W hh b (.inLoop x::k) cs hro hb hr;cases e' with
 | normal =>
  obtain⟨e2,a2,w2,hq2,harr2⟩:=hq a' W' hh' b k cs hro hb hr;exact⟨e2,a2,w2,hq2,.of_steps (StepsIn.trans harr (.one (fenced_calm hb hr rfl) stepR_inLoop)) harr2⟩
 | exit id=>exact⟨.exit id,a',W',⟨.exit id,τ',rfl,hq,hh'⟩,.pass (x:=.inLoop x) rfl (fun _ _=>.inl (by simp[zEx])) harr⟩
 | ret=>exact⟨.ret,a',W',⟨.ret,τ',rfl,hq,hh'⟩,.pass (x:=.inLoop x) rfl (fun _ _=>.inl (by simp[zEx])) harr⟩
include ho
theorem zX7 {x:Code}{τ':St} (hl:∀ W X G B,Le (h.cx W X G B) τ τ') (ht:zSk h x τ' Q):zSk h x τ Q:=fun a W hh=>by
 obtain⟨G,β,hc,hk⟩:=Hd.go ho hh;have:=hl W (ownB β τ.hp) G β;unfold Le at this;obtain⟨G',β',hc'⟩:=this _ _ _ _ hc;exact ht a W (hk _ _ _ _ _ hc')
omit ho
end
theorem zXA {P:Program}{o:Oper}{a:Act}{w:World}{K:Act->World->Prop}{Q Q':Exit->Act->World->Prop} (hQ:∀ e a w,e ≠ .normal->Q e a w->Q' e a w) (h:o.wp P a w K Q):o.wp P a w K Q':=by
 unfold Oper.wp at h ⊢;unfold Oper.upon at h ⊢;generalize Sem.run P (execOp a.eval o) w=r at h ⊢;split at h
 ·exact h
 ·exact h
 ·exact h
 ·refine h.mono fun e w' he=>?_
  cases e with
  | returned v=>exact he
  | panicked c=>exact hQ _ _ _ (by intro h; cases h) he
  | outgrown=>exact he.imp fun a h=>h.imp fun w h=>hQ _ _ _ (by intro h; cases h) h
 ·exact h
 ·exact hQ _ _ _ (by intro h; cases h) h
 ·exact h.elim
theorem zOY {ro:Option Nat}{n:Nat}{P:Program}{ops:Array Oper}{Q Q1:Exit->Act->World->Prop}{rest:List Oper} (hno:∀ e a w,e ≠ .normal->¬ Q1 e a w) (hn:∀ a w,Q1 .normal a w->wpListIn (rF ro) n P ops Q rest a w) :
  ∀ (l:List Oper),(∀ o∈l,∀ c,o.op ≠ .defer c)->∀ a w,wpList P ops Q1 l a w->wpListIn (rF ro) n P ops Q (l++rest) a w
 | [],_,a,w,h=>hn a w h
 | o::l,hd,a,w,h=>by
  have ih:=fun a w=>zOY hno hn l (fun o ho=>hd o (List.mem_cons_of_mem _ ho)) a w
  unfold wpList at h;show wpListIn _ _ _ _ _ (o::(l++rest)) a w;unfold wpListIn;split
  ·rename_i hw
   rw[if_pos hw]at h;rcases h with h | ⟨_,a',w',h⟩
   ·exact zUA (hd o List.mem_cons_self) ih (zXA (fun e a w he h=>(hno e a w he h).elim) h)
   ·exact(hno _ _ _ (by intro h; cases h) h).elim
  ·rename_i hw
   rw[if_neg hw]at h;exact⟨fun _ _=>trivial,ih _ _ h⟩
theorem zWV {P:Program}{o:Oper}{f x:Operand}{ts:Array TypeId}{l:Nat}{a:Act}{w:World}{K:Act->World->Prop}{Q:Exit->Act->World->Prop}{R:Ending->World->Prop}{u:Value} (ho:o.op = .call { callee:=.value f,args:=#[x],argTypes:=ts })
  (hf:a.eval f = .func (.yield l) #[] #[]) (hY:YieldAt Fence.wide 0 P l #[a.eval x] w R) (hR:∀ e w',R e w'->e = .returned u/\K (a.put o.dst u) w'):o.wpIn (rF none) 1 P a w K Q:=by
 obtain⟨fn,tmps,assign,body,hy,hr⟩:=hY;refine⟨fun _ _=>trivial,?_⟩
 rw[Oper.semAt_eq _ _ _ (by rw[ho]; intro c e; cases e)]
 have:(execOp a.eval o).run P w = .ok (.round l fn tmps assign body) w:=by
  simp[execOp,ho,resolve,hf,Deferred.ofValue,invoke,hy]
 rw[this]
 refine⟨fun h=>(by cases h),hr.mono fun e w' he=>?_⟩
 obtain⟨rfl,h⟩:=hR e w' he;exact h
def renv (env:Nat->AV) (p:Nat) (row:List S) (t:Nat):AV:=bif Nat.beq t p then .agg (row.map .s) else env t
def zQA (h:Hd) (row:List S) (hp:Nat->Option Ob) (nx:Nat) (Q:(Nat->Option Ob)->Nat->Prop):Prop :=
 ∀ w X G B,Rl w X h.l->Tri (rcx h.c.P h.c.N nx h.l w X G B) h.rc.assign ⟨renv h.env h.p row,hp,nx⟩ (fun e σ1=>e = .normal/\∀ w X G B,Rl w X h.l ->
  Tri (rcx h.c.P h.c.N nx h.l w X G B) h.rc.body σ1 (fun e σ2=>e = .normal/\∃ σ3,Le (rcx h.c.P h.c.N nx h.l w X G B) σ2 σ3/\Q σ3.hp σ3.nx))
theorem zip1 {α β:Type} (a:α) (x:β) : #[a].zip #[x] = #[(a,x)]:=by
 apply Array.ext'
 simp[Array.toList_zip]
theorem zUn {h:Hd} (ho:h.Ok){τ:St}{a:Act}{W:World} (hh:h.held τ a W){row:List S}{x:Nat} (hx:τ.env x = .agg (row.map .s)){Q:(Nat->Option Ob)->Nat->Prop} (hr:zQA h row τ.hp τ.nx Q) :
  YieldAt Fence.wide 0 h.c.P h.l #[a.eval (.tmp x)] W (fun e W2=>e = .returned (.bool true)/\∃ hp' nx',Q hp' nx'/\h.held ⟨τ.env,hp',nx'⟩ a W2):=by
 obtain⟨G,β,h1,h2,hl,hD,nl,nD,hm,hy⟩:=hh;have hv:=h2.env x;rw[hx]at hv;have hs:h.p<h.a.tmps.size :=(by rw[h1.size]; exact ho.p);have hA:Conc (rcx h.c.P h.c.N τ.nx h.l W (ownB β τ.hp) G β) G β ⟨renv h.env h.p row,τ.hp,τ.nx⟩ { tmps:=(h.rc.params.zip #[a.eval (.tmp x)]).foldl (fun tmps (t,a)=>tmps.setIfInBounds t a) h.rc.tmps,defers:=[] } W:=by
  rw[ho.ps,ho.tm]
  have htm:(#[h.p].zip #[a.eval (.tmp x)]).foldl (fun(tmps:Array Value) (y:Nat×Value)=>tmps.setIfInBounds y.1 y.2) h.a.tmps=h.a.tmps.setIfInBounds h.p (a.tmps.getD x undef) :=(by rw[zip1]; rfl);refine h1.re (c2:=rcx h.c.P h.c.N τ.nx h.l W (ownB β τ.hp) G β) (fun _ _=>rfl) (fun _ _=>rfl) (Nat.le_refl _) rfl (by show Array.size ((#[h.p].zip #[a.eval (.tmp x)]).foldl (fun(tmps:Array Value) (y:Nat×Value)=>tmps.setIfInBounds y.1 y.2) h.a.tmps)=_; rw[htm,Array.size_setIfInBounds]; exact h1.size) (fun t=>?_) (fun t=>?_) (fun _ h=>.inl h) (fun _ h=>h) (fun _ h=>.inl h) (Fr.refl _ _) ⟨Nat.le_refl _,fun _ _=>rfl⟩
  ·show AVal G W β (renv h.env h.p row t) (((#[h.p].zip #[a.eval (.tmp x)]).foldl (fun(tmps:Array Value) (y:Nat×Value)=>tmps.setIfInBounds y.1 y.2) h.a.tmps).getD t undef)
   rw[htm,zGR hs]
   unfold renv
   by_cases e1:t=h.p
   ·subst e1;rw[if_pos rfl,Nat.beq_refl,cond_true]
    exact hv
   ·rw[if_neg e1,nbeq e1,cond_false]
    exact h1.env t
  ·show(renv h.env h.p row t).lt _=true;unfold renv
   by_cases e1:t=h.p
   ·subst e1; rw[Nat.beq_refl,cond_true]; simp only[AV.lt]; exact zMQ row
   ·rw[nbeq e1,cond_false]; exact h1.envlt t
 have noD:¬ ownB β τ.hp h.D:=h2.not_own hD rfl;have lD:=(Array.getElem?_eq_some_iff.1 hD).1;refine zNa hl ho.st ho.pe nl (by rw[ho.ps]; rfl) hA hr fun G' β' hp' nx' W2 hQ e1 e2 e3 e4 e5 e6 e8 e9 e7=>⟨rfl,hp',nx',hQ,?_⟩
 have s1:=e7 _ _ _ h1 h1.envlt h1.stay.1 ho.l;exact⟨G',β',s1,e7 { h.c with N:=h.N } _ _ h2 h2.envlt h2.stay.1 ho.l,e1,(e6 _ lD ho.ne noD).trans hD,e2,fun q=>(e4 _ q).elim nD fun q=>q.elim noD fun q=>by omega,
  Nat.le_trans hm e8,(e9 _ (Nat.lt_of_lt_of_le ho.ky hm)).trans hy⟩
theorem zUM {h:Hd} (ho:h.Ok){T:Nat->Option TI}{Γ:Nat->Option zAp} (hT:TOk h.c.P T) (hΓ:∀ f s,Γ f=some s->PSound h.c.P f s){id:Nat}{ops pre post:List Oper}{yo:Oper} (hops:ops=pre++yo::post){M nm:List Nat} (hN:zD1 h.N ops=true){τ:St}{Q:End->St->Prop}
  (hpre:zBv T Γ M nm h.N ops pre τ fun τ1=>∃ f x d ts row Q2,yo.op = .call { callee:=.value (.tmp f),args:=#[.tmp x],argTypes:=ts }/\yo.dst=some d/\gate ops yo τ1.env=some true/\τ1.env f = .mref h.ky/\τ1.env x = .agg (row.map .s)/\zQA h row τ1.hp τ1.nx Q2 /\
   ∀ hp' nx',Q2 hp' nx'->zBv T Γ M nm h.N ops post ((⟨τ1.env,hp',nx'⟩:St).put (some d) (.s (.bool true))) (Q .normal)) :
  TriY h (.region id ops.toArray false) τ Q:=fun a W hh=>by
 have hno:¬ LetsOut (fun e a' w'=>∃ e' τ',e=zEx e'/\Q e' τ'/\h.held τ' a' w'):=by
  rintro⟨a,w,e',_,h,_⟩
  cases e' <;> cases h
 obtain⟨G,β,hc,hk⟩:=Hd.go ho hh;refine wpIn_region_lit ?_;have hd:=zJB hN;rw[hops]at hd;show wpListIn _ _ _ _ _ ops a W;have key:=zBU (Q:=fun e a' w'=>e=Exit.normal/\∃ σ',(∃ f x d ts row Q2,yo.op = .call { callee:=.value (.tmp f),args:=#[.tmp x],argTypes:=ts }/\yo.dst=some d/\gate ops yo σ'.env=some true/\σ'.env f = .mref h.ky/\σ'.env x = .agg (row.map .s)/\zQA h row σ'.hp σ'.nx Q2 /\
   ∀ hp' nx',Q2 hp' nx'->zBv T Γ M nm h.N ops post ((⟨σ'.env,hp',nx'⟩:St).put (some d) (.s (.bool true))) (Q .normal))/\h.held σ' a' w') hT hΓ (c:=h.cx W (ownB β τ.hp) G β) (fun σ' G' β' a' w' hk' hc'=>⟨rfl,σ',hk',hk _ _ _ _ _ hc'⟩) (zDS hN) pre τ G β a W hpre hc
 have key2:=zOY (ro:=none) (n:=1) (Q:=fun e a' w'=>∃ e' τ',e=zEx e'/\Q e' τ'/\h.held τ' a' w') (rest:=yo::post) (fun e a w he h=>he h.1) (fun a1 w1 hq=>?_) pre (fun o ho c=>hd o (List.mem_append_left _ ho) c) a W key
 ·have e:pre++yo::post=ops:=hops.symm;rw[e]at key2;exact key2
 obtain⟨_,τ1,⟨f,x,d,ts,row,Q2,q1,q2,q3,q4,q5,q6,q7⟩,hh1⟩:=hq;obtain⟨G1,β1,hc1,hk1⟩:=Hd.go ho hh1;unfold wpListIn;rw[if_pos (zMG hc1 (zDS hN) q3)]
 have hf:a1.eval (.tmp f) = .func (.yield h.l) #[] #[]:=by
  obtain⟨G',β',_,e2,_,_,_,_,_,e9⟩:=hh1;have:=e2.env f;rw[q4]at this;simp only[AVal]at this;exact this.1.trans e9
 refine zWV (u:=.bool true) (l:=h.l) q1 hf (zUn ho hh1 q5 q6) ?_;rintro e w2 ⟨rfl,hp',nx',hQ,hh2⟩
 refine⟨rfl,?_⟩
 obtain⟨G2,β2,hc2,hk2⟩:=Hd.go ho hh2;have hp:=hc2.put (d:=yo.dst) (x:=.s (.bool true)) (v:=.bool true) (fun t ht=>zDS hN pre.length t (by rw[hops]; simpa using ht)) (by simp[AVal,Rep]) rfl;rw[q2]at hp ⊢;exact zNv hno post (fun o ho=>hd o (List.mem_append_right _ (List.mem_cons_of_mem _ ho))) _ _ (zBU (Q:=fun e a' w'=>∃ e' τ',e=zEx e'/\Q e' τ'/\h.held τ' a' w') (c:=h.cx w2 (ownB β2 hp') G2 β2) hT hΓ (fun σ' G' β' a' w' hk' hc'=>⟨.normal,σ',rfl,hk',hk2 _ _ _ _ _ hc'⟩) (zDS hN) post _ G2 β2 _ _ (q7 _ _ hQ) hp)
theorem Ob.lt_up {n:Nat}{ob:Ob} (hl:ob.lt n=true):ob.lt (n+1)=true:=by
 cases ob with
 | row=>rfl
 | _=>exact AV.ltAll_mono (Nat.le_succ _) (by simpa [Ob.lt] using hl)
theorem Conc.key {c:Cx}{G:Nat->Prop}{β:Nat->Value}{σ:St}{a:Act}{w:World} (h:Conc c G β σ a w) (v:Value):∃ β',(∀ k,k<σ.nx->β' k=β k)/\β' σ.nx=v/\Conc c G β' { σ with nx:=σ.nx+1 } a w:=by
 refine⟨fun k=>if k=σ.nx then v else β k,fun k hk=>if_neg (by omega),if_pos rfl,?_⟩
 have hb:∀ k,k<σ.nx->(fun k=>if k=σ.nx then v else β k) k=β k:=fun k hk=>if_neg (by omega)
 have hk:∀ k ob,σ.hp k=some ob->(if k=σ.nx then v else β k)=β k:=fun k ob hk=>if_neg (by have:=(h.hplt k ob hk).1; omega)
 refine { h with env:=fun t=>(h.env t).beta hb (h.envlt t),envlt:=fun t=>AV.lt_mono (Nat.le_succ _) (h.envlt t),hp:=fun k ob hk'=>?_,hplt:=fun k ob hk'=>⟨Nat.lt_succ_of_lt (h.hplt k ob hk').1,Ob.lt_up (h.hplt k ob hk').2⟩,inj:=fun k k' ob ob' e1 e2=>(by rw[hk k ob e1,hk k' ob' e2]; exact h.inj k k' ob ob' e1 e2),stay:=⟨Nat.le_succ_of_le h.stay.1,fun k hk=>?_⟩ }
 ·rw[hk k ob hk']
  have hu:=h.hp k ob hk';have hlt:=(h.hplt k ob hk').2;cases ob with
  | box cells =>
   obtain⟨b,e,cur,h1,h2,h3,h4,h5,h6⟩:=hu;exact⟨b,e,cur,h1,h2,h3,h4,h5.beta hb (by simpa [Ob.lt] using hlt),h6⟩
  | row e sz rows=>exact hu
  | arow e sz rows=>exact hu.moveA (fun _ _ _ h=>h) (fun _ _ _ _ h=>h) (fun _ _ h=>h) (fun i x u hx hr=>hr.beta hb (zH6 (by simpa [Ob.lt] using hlt) hx))
  | any τ xs =>
   obtain⟨b,o,vs,h1,h2,h3,h4,h5,h6⟩:=hu;exact⟨b,o,vs,h1,h2,h3,h4,h5.beta hb (by simpa [Ob.lt] using hlt),h6⟩
 ·have h1:=h.stay.1;rw[if_neg (by omega)]
  exact h.stay.2 k hk
theorem zS2 {c:Cx}{σ:St}{Φ:Exit->Act->World->Prop} (hro:c.ro=none) (hds:c.ds=[]){tg p fid:Nat}{ifn:Func}{icode:Code}{caps:List AV}{assign body:Code} (hcall:∀ args w,(callFunc fid args).run c.P w = .ok (.enter fid args) w) (hf:c.P.funcs[fid]? = some ifn) (hb:ifn.body=some icode) (hres:ifn.results = #[])
  (hN:caps.length+1<=ifn.ntmps) (he:σ.env tg = .clo fid caps) (hp:p<c.N) {Q:(Nat->Option Ob)->Nat->Prop}
  (hit:∀ h:Hd,h.Ok->h.c=c->h.env=σ.env->h.N=ifn.ntmps->h.p=p->h.ky=σ.nx->h.rc.assign=assign->h.rc.body=body->TriY h icode ⟨fun t=>(AV.mref σ.nx::caps).getD t .junk,σ.hp,σ.nx+1⟩ (fun e τ=>(∀ id,e ≠ .exit id)/\Q τ.hp τ.nx))
  (hdone:∀ D w2 X G2 G' β' a2 hp' nx',Q hp' nx'->Sw c (lcx c.P c.N c.n0 w2 X G2 c.B0 D) D->Conc (lcx c.P c.N c.n0 w2 X G2 c.B0 D) G' β' ⟨σ.env,hp',nx'⟩ a2 w2->Φ .normal a2 w2) (hfid:Nat.ble 1048576 fid=false:=by rfl) :
  TriX c (.rangeFunc (.tmp tg) #[p] assign body) σ Φ:=fun G β a w hc=>by
 have hg:=hc.env tg;rw[he]at hg;simp only[AVal]at hg;obtain⟨vs,hg,hvs⟩:=hg;have hg:a.eval (.tmp tg) = .func (.func fid) #[] vs.toArray :=(by rw[zOi hfid]at hg; exact hg);have hlc:=hc.envlt tg;rw[he]at hlc;simp only[AV.lt]at hlc;refine wpIn_rangeFunc fun fn _=>?_
 obtain⟨rec,hrec⟩:∃ rec:Loop,rec={ state:=.ready,pending:=none,fn:=fn,tmps:=a.tmps,params:=#[p],assign:=assign,body:=body,defers:=w.heap.size }:=⟨_,rfl⟩
 obtain⟨l,hl0⟩:∃ l,l=w.heap.size+1:=⟨_,rfl⟩
 obtain⟨D,hD0⟩:∃ D,D=w.heap.size:=⟨_,rfl⟩
 obtain⟨W1,hW1⟩:∃ W1,(w.alloc (.deferred (some []))).alloc (.loop rec)=W1:=⟨_,rfl⟩
 have hL1:W1.heap[l]? = some (.loop rec):=by
  have:=World.alloc_heap_new (w.alloc (.deferred (some []))) (.loop rec)
  rw[World.size_alloc]at this;rw[← hW1,hl0]; exact this
 have hDD:W1.heap[D]? = some (.deferred (some [])):=by
  have:=zBa (w.alloc (.deferred (some []))) (.loop rec) (b:=w.heap.size) (by rw[World.size_alloc]; omega)
  rw[← hW1,hD0,this]
  exact World.alloc_heap_new w _
 have hc1:Conc c G β σ a W1:=by
  rw[← hW1]
  have h1:=hc.ext (Ext.alloc0 hc.lt (.deferred (some [])))
  exact h1.ext (Ext.alloc0 h1.lt (.loop rec))
 have hcl:c.w0.heap.size<=D :=(by rw[hD0]; exact hc.fr.size);obtain⟨β1,b1,b2,hc2⟩:=hc1.key (.func (.yield l) #[] #[])
 have hlw:W1.heap.size=w.heap.size+2 :=(by rw[← hW1,World.size_alloc,World.size_alloc]);obtain⟨h,hh⟩:∃ h:Hd,h={ c:=c,env:=σ.env,a:=a,N:=ifn.ntmps,m:=σ.nx+1,l:=l,D:=D,ky:=σ.nx,p:=p,rc:=rec }:=⟨_,rfl⟩
 have ho:h.Ok:=by
  rw[hh]
  exact⟨hro,hds,hc2.stay.1,hc2.envlt,by show c.w0.heap.size<=l; omega,hcl,by show D ≠ l; omega,Nat.lt_succ_self _,by rw[hrec],by rw[hrec],by rw[hrec],by rw[hrec],hp⟩
 refine⟨l,[{ target:=.collected D,args:=#[] }],W1,{ target:=.fn (.func fid) vs.toArray,args:=#[.func (.yield l) #[] #[]] },W1,fid,#[.func (.yield l) #[] #[]]++vs.toArray,W1,?_,?_,?_,?_,fun h=>(by cases h),?_⟩
 ·rw[← hW1,hrec,hl0,hD0]; exact run_enterLoop_outer _ _ _ _ _
 ·simp only[resolve,hg]
  simp[go_sem]
 ·intro f' hf'; trivial
 ·simp[invoke,go_sem,hcall]
 have hlen:=hvs.length;have hv':AVals G W1 β1 (AV.mref σ.nx::caps) (.func (.yield l) #[] #[]::vs):=by
  simp only[AVals]
  refine⟨_,vs,rfl,?_,(hvs.beta b1 hlc).keep ⟨fun _ h=>h,fun b hb=>?_⟩⟩
  ·simp only[AVal]; exact⟨b2.symm,rfl⟩
  ·have hb':=hc.lt b hb;rw[← hW1,zBa _ _ (by rw[World.size_alloc]; omega),zBa _ _ hb']
 have hheld:h.held ⟨fun t=>(AV.mref σ.nx::caps).getD t .junk,σ.hp,σ.nx+1⟩ { tmps:=(Value.func (.yield l) #[] #[]::vs).toArray++Array.replicate (ifn.ntmps - (vs.length+1)) undef,defers:=[] } W1:=by
  rw[hh]
  refine⟨G,β1,hc2,?_,hL1,hDD,fun q=>?_,fun q=>?_,Nat.le_refl _,b2⟩
  ·refine hc2.re (c2:={ c with N:=ifn.ntmps }) (fun _ _=>rfl) (fun _ _=>rfl) (Nat.le_refl _) hds.symm (by simp; omega) (fun t=>?_) (fun t=>?_) hc2.own_mine hc2.sub hc2.new hc2.fr hc2.stay
   ·have:=zH0 (N:=ifn.ntmps) hv' t;rw[show(Value.func (.yield l) #[] #[]::vs).toArray.size=vs.length+1 by simp]at this;exact this
   ·exact zKk (n:=σ.nx+1) (xs:=AV.mref σ.nx::caps) (by
     simp only[AV.ltAll,Bool.and_eq_true]
     exact⟨by simp[AV.lt],AV.ltAll_mono (Nat.le_succ _) hlc⟩) t
  ·have:=hc.lt _ q; have q:l<w.heap.size:=this; omega
  ·have:=hc.lt _ q; have q:D<w.heap.size:=this; omega
 have key:=hit h ho (by rw[hh]) (by rw[hh]) (by rw[hh]) (by rw[hh]) (by rw[hh]) (by rw[hh,hrec]) (by rw[hh,hrec]) _ _ hheld;have hP:h.c.P=c.P :=(by rw[hh]);rw[hP]at key;refine callsIn_of_wp hf hb trivial ?_;have eargs:(#[Value.func (.yield l) #[] #[]]++vs.toArray)=(Value.func (.yield l) #[] #[]::vs).toArray :=(by apply Array.ext'; simp);rw[eargs,show(Value.func (.yield l) #[] #[]::vs).toArray.size=vs.length+1 by simp]
 refine wpIn_mono key ?_;rintro e a' W3 ⟨e',τ,rfl,⟨hne,hQ⟩,G3,β3,hc3,h3,h1,h2,hnl,hnD,_,_⟩
 rw[hh]at hc3 h3 h1 h2 hnl hnD;dsimp only at hc3 h3 h1 h2 hnl hnD;have fin:a'.defers=[]/\∃ v,(results ifn a'.tmps).run c.P W3 = .ok v W3/\rangePost Fence.wide 2 c.P l Φ { a with defers:=[{ target:=.collected D,args:=#[] }]++a.defers } (.returned v) W3:=by
  refine⟨h3.defers.trans hds,_,results_none hres _ _ _,?_⟩
  have hend:=run_endLoop (P:=c.P) h1 (by rw[hrec]; simp)
  rw[hrec]at hend;refine⟨none,_,hend,?_⟩
  dsimp only;have hnol:¬ ownB β3 τ.hp l:=hc3.not_own h1 rfl;have hnoD:¬ ownB β3 τ.hp D:=hc3.not_own h2 rfl;have lD:=(Array.getElem?_eq_some_iff.1 h2).1;have hc4:=hc3.poke (.loop { state:=.exhausted,pending:=none,fn:=fn,tmps:=a.tmps,params:=#[p],assign:=assign,body:=body,defers:=w.heap.size }) (by omega) hnl hnol;have hoth:(W3.putObj l (.loop { state:=.exhausted,pending:=none,fn:=fn,tmps:=a.tmps,params:=#[p],assign:=assign,body:=body,defers:=w.heap.size })).heap[D]? = W3.heap[D]?:=World.putObj_heap_other (by omega)
  generalize W3.putObj l (.loop { state:=.exhausted,pending:=none,fn:=fn,tmps:=a.tmps,params:=#[p],assign:=assign,body:=body,defers:=w.heap.size })=W4 at hc4 hoth ⊢;refine hdone D W4 (ownB β3 τ.hp) G3 G3 β3 _ τ.hp τ.nx hQ ⟨hc4.fr,hc4.own_mine,hc4.sub,hc4.new,hoth.trans h2,hnoD,hnD,hcl⟩ ?_;exact hc4.re (c2:=lcx c.P c.N c.n0 W4 (ownB β3 τ.hp) G3 c.B0 D) (fun b hb=>rfl) (fun b hb=>rfl) (Nat.le_refl _)
   (by show _::a.defers=_; rw[hc.defers,hds]; rfl) hc.size hc4.env hc4.envlt (fun b hb=>.inl hb) (fun b hb=>hb) (fun b hb=>.inl hb) (Fr.refl _ _) hc4.stay
 cases e' with
 | normal=>exact fin
 | ret=>exact fin
 | exit id=>exact absurd rfl (hne id)
def sAll:List AV->Option (List S)
 | []=>some []
 | .s x::r=>match sAll r with | some l=>some (x::l) | none=>none
 | _=>none
theorem zWx:∀ {l:List AV}{r:List S},sAll l=some r->l=r.map .s
 | [],_,h=>by cases h; rfl
 | .s x::l,r,h=>by
  simp only[sAll]at h;split at h
  ·rename_i l' hl
   cases h;rw[zWx hl]
   rfl
  ·cases h
def zPr (o:Oper):Option (Nat×Nat×Array TypeId) :=
 match o.op with
 | .call { callee:=.value (.tmp f),args:=⟨[.tmp x]⟩,argTypes:=ts }=>some (f,x,ts)
 | _=>none
theorem zUf {o:Oper}{f x:Nat}{ts:Array TypeId} (h:zPr o=some (f,x,ts)):o.op = .call { callee:=.value (.tmp f),args:=#[.tmp x],argTypes:=ts }:=by
 unfold zPr at h;split at h
 ·rename_i e
  cases h;exact e
 ·cases h
def zTR:List Oper->Option (List Oper×Oper×List Oper)
 | []=>none
 | o::os=>match zPr o with
  | some _=>some ([],o,os)
  | none=>match zTR os with
   | some (a,y,b)=>some (o::a,y,b)
   | none=>none
theorem zRZ:∀ {l a b:List Oper}{y:Oper},zTR l=some (a,y,b)->l=a++y::b
 | [],_,_,_,h=>by cases h
 | o::os,a,b,y,h=>by
  unfold zTR at h;split at h
  ·cases h; rfl
  ·split at h
   ·rename_i h1
    cases h;rw[zRZ h1]
    rfl
   ·cases h
def zTG (T:Nat->Option TI) (F:zGp) (M:List Nat) (N:Nat) (assign body:Code) (env:Nat->AV) (p:Nat) (row:List S) (hp:Nat->Option Ob) (nx:Nat):Option (List ((Nat->Option Ob)×Nat)) :=
 match zGJ T F M N 1000 assign ⟨renv env p row,hp,nx⟩ with
 | none=>none
 | some L1=>zKl L1 fun q=>match q with
  | (.normal,σ1)=>match zGJ T F M N 1000 body σ1 with
   | none=>none
   | some L2=>zKl L2 fun q=>match q with
    | (.normal,σ2)=>some [(σ2.hp,σ2.nx)]
    | _=>none
  | _=>none
def xY (T:Nat->Option TI) (F:zGp) (M:List Nat) (N ky:Nat) (round:List S->(Nat->Option Ob)->Nat->Option (List ((Nat->Option Ob)×Nat))):Nat->Code->St->Option (List (Go.Abs.End×St))
 | 0,_,_=>none
 | n+1,code,σ=>match code with
  | .seq x y=>match xY T F M N ky round n x σ with
   | none=>none
   | some l=>zKl l fun p=>match p with
    | (.normal,σ1)=>xY T F M N ky round n y σ1
    | r=>some [r]
  | .region id ops drawn=>match zTR ops.toList with
   | none=>zGJ T F M N 1 (.region id ops drawn) σ
   | some (pre,yo,post)=>match drawn,zD1 N ops.toList with
    | false,true=>match xOps T F M [] N ops.toList pre σ with
     | none=>none
     | some L=>zKl L fun τ=>match zPr yo,yo.dst,gate ops.toList yo τ.env with
      | some (f,x,_),some d,some true=>match τ.env f,τ.env x with
       | .mref k,.agg cells=>match Nat.beq k ky,sAll cells with
        | true,some row=>match round row τ.hp τ.nx with
         | none=>none
         | some R=>zKl R fun q=>match xOps T F M [] N ops.toList post ((⟨τ.env,q.1,q.2⟩:St).put (some d) (.s (.bool true))) with
          | none=>none
          | some L2=>some (nrmE L2)
        | _,_=>none
       | _,_=>none
      | _,_,_=>none
    | _,_=>none
  | .cond (.tmp t) x y=>match σ.env t with
   | .s (.bool true)=>xY T F M N ky round n x σ
   | .s (.bool false)=>xY T F M N ky round n y σ
   | _=>none
  | .block id x=>match xY T F M N ky round n x σ with
   | none=>none
   | some l=>some (l.map fun p=>match p with
    | (.exit j,σ1)=>(match Nat.beq j id with | true=>(.normal,σ1) | false=>(.exit j,σ1))
    | r=>r)
  | .loop x=>match xY T F M N ky round n x σ with
   | none=>none
   | some l=>zKl l fun p=>match p with
    | (.normal,σ1)=>tidy N σ1 fun σ2=>xY T F M N ky round n (.loop x) σ2
    | r=>some [r]
  | c=>zGJ T F M N 1 c σ
section
variable {h:Hd} {T:Nat->Option TI} {Γ:Nat->Option zAp} {F:zGp}
theorem zRR (hT:TOk h.c.P T) (hΓ:∀ f s,Γ f=some s->PSound h.c.P f s) (hm:h.c.P.follows .mixedOrders=true) (ht:Tells Γ F){M:List Nat}{row:List S}{hp:Nat->Option Ob}{nx:Nat}{R:List ((Nat->Option Ob)×Nat)}
  (e:zTG T F M h.c.N h.rc.assign h.rc.body h.env h.p row hp nx=some R):zQA h row hp nx (fun hp' nx'=>(hp',nx')∈R):=fun w X G B _=>by
 unfold zTG at e;split at e
 ·cases e
 ·rename_i L1 h1
  refine(zDs (c:=rcx h.c.P h.c.N nx h.l w X G B) hT hΓ hm ht h1 fun q hq=>?_).1;obtain⟨l',h2,h3⟩:=zDn e q hq;obtain⟨e1,σ1⟩:=q;cases e1 with
  | normal =>
   refine⟨rfl,fun w X G B _=>?_⟩
   dsimp only at h2;split at h2
   ·cases h2
   ·rename_i L2 h4
    refine(zDs (c:=rcx h.c.P h.c.N nx h.l w X G B) hT hΓ hm ht h4 fun q hq=>?_).1;obtain⟨l2,h5,h6⟩:=zDn h2 q hq;obtain⟨e2,σ2⟩:=q;cases e2 with
    | normal=>cases h5; exact⟨rfl,σ2,Le.refl _ _,h3 _ (h6 _ List.mem_cons_self)⟩
    | exit id=>cases h5
    | ret=>cases h5
  | exit id=>cases h2
  | ret=>cases h2
theorem zT1 (ho:h.Ok) (hT:TOk h.c.P T) (hΓ:∀ f s,Γ f=some s->PSound h.c.P f s) (hm:h.c.P.follows .mixedOrders=true) (ht:Tells Γ F){M:List Nat}{round:List S->(Nat->Option Ob)->Nat->Option (List ((Nat->Option Ob)×Nat))}
  (hr:∀ row hp nx R,round row hp nx=some R->zQA h row hp nx (fun hp' nx'=>(hp',nx')∈R)):∀ {n:Nat} {code:Code} {σ:St} {L:List (End×St)} {Q:End->St->Prop},xY T F M h.N h.ky round n code σ=some L->(∀ p∈L,Q p.1 p.2) ->
  TriY h code σ Q/\∀ x,code = .loop x->zSk h x σ Q
 | 0,_,_,_,_,e,_=>by cases e
 | n+1,code,σ,L,Q,e,hq=>by
  have ih:=fun {code:Code} {σ:St} {L:List (End×St)} {Q:End->St->Prop}=>zT1 ho hT hΓ hm ht hr (M:=M) (n:=n) (code:=code) (σ:=σ) (L:=L) (Q:=Q)
  have plain:∀ {code:Code},zGJ T F M h.N 1 code σ=some L->TriY h code σ Q:=fun e=>zZw ho fun W X G B=>(zDs (c:=h.cx W X G B) hT hΓ hm ht e hq).1
  unfold xY at e;split at e
  ·rename_i x y
   refine⟨zX8 ?_,fun _ h=>by cases h⟩
   split at e
   ·cases e
   ·rename_i l h1
    refine(ih h1 (Q:=yAm h y Q) fun p hp=>?_).1;obtain⟨l',h2,h3⟩:=zDn e p hp;obtain⟨e,τ⟩:=p;cases e with
    | normal=>exact(ih h2 fun p hp=>hq p (h3 p hp)).1
    | exit id=>cases h2; exact hq _ (h3 _ List.mem_cons_self)
    | ret=>cases h2; exact hq _ (h3 _ List.mem_cons_self)
  ·rename_i id ops drawn
   refine⟨?_,fun _ h=>by cases h⟩
   split at e
   ·exact plain e
   ·rename_i pre yo post hs
    split at e
    ·rename_i hd
     split at e
     ·cases e
     ·rename_i L1 h1
      have:=zUM ho hT hΓ (id:=id) (zRZ hs) hd (M:=M) (nm:=[]) (Q:=Q) (zGK ht h1 fun τ hτ=>?_)
      ·simpa using this
      obtain⟨l',h2,h3⟩:=zDn e τ hτ;split at h2
      ·rename_i f x ts d e1 e2 e3
       split at h2
       ·rename_i k cells e4 e5
        split at h2
        ·rename_i row e6 e7
         split at h2
         ·cases h2
         ·rename_i R e8
          obtain rfl:=Nat.eq_of_beq_eq_true e6;refine⟨f,x,d,ts,row,_,zUf e1,e2,e3,e4,by rw[e5,zWx e7],hr _ _ _ _ e8,fun hp' nx' hR=>?_⟩
          obtain⟨l2,h4,h5⟩:=zDn h2 _ hR;dsimp only at h4;split at h4
          ·cases h4
          ·rename_i L2 e9
           cases h4;exact zGK ht e9 fun τ hτ=>hq (.normal,τ) (h3 _ (h5 _ (List.mem_map.2 ⟨τ,hτ,rfl⟩)))
        ·cases h2
       ·cases h2
      ·cases h2
    ·cases e
  ·rename_i t x y
   refine⟨?_,fun _ h=>by cases h⟩
   split at e
   ·rename_i hb
    exact zR4 hb (fun _=>(ih e hq).1) (fun h=>by cases h)
   ·rename_i hb
    exact zR4 hb (fun h=>by cases h) (fun _=>(ih e hq).1)
   ·cases e
  ·rename_i id x
   refine⟨zUL ?_,fun _ h=>by cases h⟩
   split at e
   ·cases e
   ·rename_i l h1
    cases e;refine(ih h1 (Q:=zOd id Q) fun p hp=>?_).1;have:=hq _ (List.mem_map.2 ⟨p,hp,rfl⟩)
    obtain⟨e,τ⟩:=p;cases e with
    | normal=>exact this
    | exit j =>
     show match Nat.beq j id with | true=>Q .normal τ | false=>Q (.exit j) τ
     dsimp only at this;cases e:Nat.beq j id with
     | true=>rw[e]at this; exact this
     | false=>rw[e]at this; exact this
    | ret=>exact this
  ·rename_i x
   have key:zSk h x σ Q:=by
    refine zS1 ?_;split at e
    ·cases e
    ·rename_i l h1
     refine(ih h1 (Q:=zYw h x Q) fun p hp=>?_).1;obtain⟨l',h2,h3⟩:=zDn e p hp;obtain⟨e,τ⟩:=p;cases e with
     | normal =>
      obtain⟨σ2,h4,h5⟩:=zNt (N:=h.N) (σ:=τ) (K:=fun σ2=>xY T F M h.N h.ky round n (.loop x) σ2)
      dsimp only at h2;rw[h5]at h2;exact zX7 ho (fun W X G B=>h4 (h.cx W X G B)) ((ih h2 fun p hp=>hq p (h3 p hp)).2 x rfl)
     | exit id=>cases h2; exact hq _ (h3 _ List.mem_cons_self)
     | ret=>cases h2; exact hq _ (h3 _ List.mem_cons_self)
   exact⟨zWH key,fun y hy=>by cases hy; exact key⟩
  ·rename_i hl
   exact⟨plain e,fun x hx=>(hl x hx).elim⟩
end
def xFin (T:Nat->Option TI) (rs:List ResultVar) (σ:St):Option AV :=
 match zHf T σ rs with
 | none=>none
 | some x0=>fL fN (zAl σ.hp 500 x0.keys []).reverse fun k0=>match zHf T (xFrz 0 k0 σ) rs with
  | none=>none
  | some x1=>match x1.pers with
   | true=>some x1
   | false=>none
theorem zOZ {c:Cx} (h0:c.n0=0){T:Nat->Option TI}{rs:List ResultVar}{σ:St}{x:AV} (h:xFin T rs σ=some x):zC4 c T rs (.val x) σ:=by
 unfold xFin at h;split at h
 ·cases h
 ·rw[zHy zEC]at h;split at h
  ·cases h
  ·rename_i x1 h1
   split at h
   ·rename_i h2
    cases h;unfold zC4;exact⟨_,zKV (n0:=0),h1,h2⟩
   ·cases h
def noEx:Go.Abs.End->Bool
 | .exit _=>false
 | _=>true
def xR (T:Nat->Option TI) (F:zGp) (tab:Nat->Option Fi) (M:List Nat) (N:Nat) (rs:List ResultVar):Nat->Code->St->Option AV
 | 0,_,_=>none
 | n+1,code,σ=>match code with
  | .seq (.seq x (.block _ (.rangeFunc (.tmp tg) ⟨[p]⟩ assign body))) y=>match zGJ T F M N 1000 x σ with
   | some [(.normal,σ)]=>match σ.env tg with
    | .clo fid caps=>match tab fid with
     | some fi=>match fi.fn.body,fi.fn.results,Nat.ble (caps.length+1) fi.fn.ntmps,Nat.ble 1048576 fid,Nat.blt p N with
      | some icode,⟨[]⟩,true,false,true=>match xY T F fi.M fi.fn.ntmps σ.nx (zTG T F M N assign body σ.env p) 1000 icode ⟨fun t=>(AV.mref σ.nx::caps).getD t .junk,σ.hp,σ.nx+1⟩ with
       | some [(e1,τ)]=>match noEx e1,zGJ T F M N 1000 y ⟨σ.env,τ.hp,τ.nx⟩ with
        | true,some [(e2,σ2)]=>match noEx e2 with
         | true=>xFin T rs σ2
         | false=>none
        | _,_=>none
       | _=>none
      | _,_,_,_,_=>none
     | none=>none
    | _=>none
   | _=>none
  | .seq x y=>match zGJ T F M N 1000 x σ with
   | some [(.normal,σ1)]=>tidy N σ1 fun σ2=>xR T F tab M N rs n y σ2
   | _=>none
  | _=>none
theorem zT0 {P:Program}{T:Nat->Option TI}{Γ:Nat->Option zAp}{F:zGp} (hT:TOk P T) (hΓ:∀ f s,Γ f=some s->PSound P f s) (hm:P.follows .mixedOrders=true) (ht:Tells Γ F){tab:Nat->Option Fi}
  (htab:∀ g fi,tab g=some fi->(∀ args w,(callFunc g args).run P w = .ok (.enter g args) w)/\P.funcs[g]? = some fi.fn) {fn:Func} {M:List Nat} {w0:World} {G0:Nat->Prop}:∀ {n:Nat} {code:Code} {σ:St} {x:AV},xR T F tab M fn.ntmps fn.results.toList n code σ=some x ->
  TriX (zCT P w0 G0 fn.ntmps) code σ (bodyPostM (rF none) 2 P fn fun e W'=>∃ v G',e = .returned v/\Ext G0 G' w0 W'/\RetAt G' w0 W' (.val x) v)
 | 0,_,_,_,e=>by cases e
 | n+1,code,σ,x,e=>by
  have ih:=fun {code:Code} {σ:St} {x:AV}=>zT0 hT hΓ hm ht htab (fn:=fn) (M:=M) (w0:=w0) (G0:=G0) (n:=n) (code:=code) (σ:=σ) (x:=x)
  unfold xR at e;split at e
  ·rename_i x0 bid tg p assign body y
   split at e
   ·rename_i σ1 h0
    split at e
    ·rename_i fid caps hclo
     split at e
     ·rename_i fi hfi
      obtain⟨hcall,hfn⟩:=htab _ _ hfi;split at e
      ·rename_i icode hb hres hN hfid hp
       split at e
       ·rename_i e1 τ h1
        split at e
        ·rename_i e2 σ2 hne h2
         split at e
         ·rename_i hne2
          refine zTY (zGa rfl (zDs (c:=zCT P w0 G0 fn.ntmps) hT hΓ hm ht h0 fun q hq=>?_).1)
          obtain rfl:=List.mem_singleton.1 hq;refine⟨rfl,zKS (zS2 (c:=zCT P w0 G0 fn.ntmps) rfl rfl hcall hfn hb hres (Nat.le_of_ble_eq_true hN) hclo (Nat.le_of_ble_eq_true hp) (Q:=fun hp nx=>hp=τ.hp/\nx=τ.nx) ?_ ?_ hfid)⟩
          ·intro h ho g1 g2 g3 g4 g5 g6 g7;have hP:h.c.P=P :=(by rw[g1]; rfl);have hNn:h.c.N=fn.ntmps :=(by rw[g1]; rfl);refine(zT1 ho (by rw[hP]; exact hT) (Γ:=Γ) (by rw[hP]; exact hΓ) (by rw[hP]; exact hm) ht (M:=fi.M) (round:=zTG T F M fn.ntmps assign body σ1.env p) (fun row hp nx R e=>zRR (by rw[hP]; exact hT) (Γ:=Γ) (by rw[hP]; exact hΓ) (by rw[hP]; exact hm) ht (M:=M) (by rw[hNn,g2,g4,g6,g7]; exact e)) (n:=1000) (code:=icode) (L:=[(e1,τ)]) (by rw[g3,g5]; exact h1) fun q hq=>?_).1;obtain rfl:=List.mem_singleton.1 hq;exact⟨fun id h=>(by rw[show e1 = .exit id from h]at hne; cases hne),rfl,rfl⟩
          ·rintro D w2 X G2 G' β' a2 hp' nx' ⟨rfl,rfl⟩ hsw hc;show y.wpIn _ _ _ _ a2 w2;refine zQ5 (c:=zCT P w0 G0 fn.ntmps) hT hsw (fun _ h=>h) rfl rfl (zDs (c:=lcx P fn.ntmps 0 w2 X G2 _ D) hT hΓ hm ht h2 fun q hq=>?_).1 G' β' a2 w2 hc;obtain rfl:=List.mem_singleton.1 hq;cases e2 with
           | exit id=>cases hne2
           | normal=>exact zOZ rfl e
           | ret=>exact zOZ rfl e
         ·cases e
        ·cases e
       ·cases e
      ·cases e
     ·cases e
    ·cases e
   ·cases e
  ·rename_i y' y hy
   split at e
   ·rename_i σ1 h1
    obtain⟨σ2,h4,h5⟩:=zNt (N:=fn.ntmps) (σ:=σ1) (K:=fun σ2=>xR T F tab M fn.ntmps fn.results.toList n y σ2)
    rw[h5]at e;refine zGa rfl (zDs (c:=zCT P w0 G0 fn.ntmps) hT hΓ hm ht h1 fun q hq=>?_).1;obtain rfl:=List.mem_singleton.1 hq;refine⟨rfl,fun G β a w hc=>?_⟩
    have:=h4 (zCT P w0 G0 fn.ntmps)
    unfold Le at this;obtain⟨G',β',hc'⟩:=this G β a w hc;exact ih e G' β' a w hc'
   ·cases e
  ·cases e
def zU9 (T:Nat->Option TI) (F:zGp) (tab:Nat->Option Fi) (g:Nat) (xs:List AV) (os:List Ob):Option (AV×List (Option Ob)) :=
 match os,tab g with
 | [],some fi=>match Nat.ble xs.length fi.fn.ntmps,AV.persAll xs,fi.fn.body with
  | true,true,some code=>match xR T F tab fi.M fi.fn.ntmps fi.fn.results.toList 1000 code (start xs) with
   | some x=>some (x,[])
   | none=>none
  | _,_,_=>none
 | _,_=>none
theorem zSq {P:Program}{T:Nat->Option TI}{Γ:Nat->Option zAp}{F:zGp} (hT:TOk P T) (hΓ:∀ f s,Γ f=some s->PSound P f s) (hm:P.follows .mixedOrders=true) (ht:Tells Γ F){tab:Nat->Option Fi}
  (htab:∀ g fi,tab g=some fi->(∀ args w,(callFunc g args).run P w = .ok (.enter g args) w)/\P.funcs[g]? = some fi.fn) {g:Nat} {fi:Fi} (hg:tab g=some fi):PSound P g (zBj fun xs os x os'=>zU9 T F tab g xs os=some (x,os')):=by
 obtain⟨hcall,hfn⟩:=htab _ _ hg;cases hb:fi.fn.body with
 | none =>
  refine(zEJ hcall (fun xs os x os' h=>?_) none).tell;unfold zU9 at h;split at h
  ·rename_i fi' e1
   rw[hg]at e1;cases e1;split at h
   ·rename_i q3
    rw[hb]at q3;cases q3
   ·cases h
  ·cases h
 | some code =>
  let R:List AV->Ret->Prop:=fun xs r=>∃ x,r = .val x/\xs.length<=fi.fn.ntmps/\xR T F tab fi.M fi.fn.ntmps fi.fn.results.toList 1000 code (start xs)=some x
  have key:PSound P g (zAu R):=by
   refine zWa hcall hfn hb (fun xs r h=>?_) fi.fn.ntmps rfl (fun xs r w0 G0 h hp=>?_)
   ·obtain⟨_,_,h,_⟩:=h;exact h
   ·obtain⟨x,rfl,_,h⟩:=h;exact zT0 hT hΓ hm ht htab h
  refine PSound.extO (h:=zU9 T F tab g) key.toOwn fun xs os x os' e=>?_
  unfold zU9 at e;rw[hg]at e;split at e
  ·rename_i fi' e1
   cases e1;split at e
   ·rename_i code' q1 q2 q3
    rw[hb]at q3;cases q3;split at e
    ·rename_i y hy
     cases e;exact⟨q2,⟨_,rfl,Nat.le_of_ble_eq_true q1,hy⟩,rfl,rfl⟩
    ·cases e
   ·cases e
  ·cases e
theorem zYR {P:Program}{f D off n:Nat}
  (hwalk:∀ (b:Nat) (w:World) (cur:Array Value),w.heap[b]? = some (.cells cur D (0,0))->cur.size=n->(cur[off]? = some (.pointer none)∨cur[off]? = some (.pointer (some ⟨b,off,none⟩))) ->
   Calls P f #[.pointer (some ⟨b,off,none⟩)] w fun e w'=>e = .returned (.tuple #[])/\Wrote b off (.pointer (some ⟨b,off,none⟩)) cur D w w') :
  zI6 P f fun xs os x os'=>∃ cells p r,xs=[.op 0 off]/\os = .box D cells::r/\cells.length=n/\cells[off]? = some p/\(p = .s .np∨p = .op 0 off)/\x = .tup []/\os'=some (.box D (cells.set off (.op 0 off)))::r.map some:=by
 rintro G w β xs vs os x os' hlt hgl hv hxl hobs ⟨cells,p,r,rfl,rfl,hn,hoff,hp,rfl,rfl⟩
 obtain⟨hob0,hl0⟩:=hobs.1 0 (.box D cells) rfl;obtain⟨b,e',cur,h1,h2,h3,h4,h5,h6,rfl⟩:=hob0;simp only[AVals,AVal]at hv;obtain⟨v,vs',rfl,⟨b',hb',rfl⟩,rfl⟩:=hv;have hbb:b'=b :=(by rw[h1]at hb'; simpa using hb'.symm);subst hbb;have hsz:cur.size=cells.length :=(by simpa using h5.length);have hin:off<cur.size :=(by rw[hsz]; exact(List.getElem?_eq_some_iff.1 hoff).1);have hcur:cur[off]? = some (.pointer none)∨cur[off]? = some (.pointer (some ⟨b',off,none⟩)):=by
  obtain⟨u,hu,hr⟩:=h5.get hoff;rw[Array.getElem?_toList]at hu;rw[hu]
  rcases hp with rfl | rfl
  ·simp only[AVal,Rep]at hr;exact .inl (by rw[hr])
  ·simp only[AVal]at hr;obtain⟨b2,hb2,hv2⟩:=hr;rw[h1]at hb2; cases hb2
   exact .inr (by rw[hv2])
 refine(hwalk b' w cur h2 (hsz.trans hn) hcur).mono fun e2 w' ⟨he,hw⟩=>?_
 have hk:Keep G G w w':=zSA h3 hw.old;have hX:(zDI P w β (Ob.box e' cells::r).length G 0).X b':=⟨0,Nat.succ_pos _,by rw[h1]; rfl⟩
 have hpp:AVals G w' β (cells.set off (.op 0 off)) (cur.setIfInBounds off (.pointer (some ⟨b',off,none⟩))).toList:=by
  refine AVals.mk (by simp[hsz]) fun i x v hx hv=>?_
  rw[Array.getElem?_toList,Array.getElem?_setIfInBounds]at hv;rw[List.getElem?_set]at hx;split at hx
  ·rename_i hi
   subst hi;split at hx
   ·cases hx;rw[if_pos rfl,if_pos hin]at hv;cases hv;simp only[AVal]
    exact⟨b',h1,rfl⟩
   ·cases hx
  ·rename_i hi
   rw[if_neg hi]at hv;obtain⟨u,hu,hr⟩:=h5.get hx;rw[Array.getElem?_toList,hv]at hu; cases hu
   exact hr.keep hk
 have hone:∀ u∈(cur.setIfInBounds off (.pointer (some ⟨b',off,none⟩))).toList,u.oneCell'=true:=fun u hu=>by
  obtain⟨i,hi⟩:=List.getElem?_of_mem hu;rw[Array.getElem?_toList,Array.getElem?_setIfInBounds]at hi;split at hi
  ·first | (cases hi; rfl) | (split at hi <;> first | (cases hi; rfl) | cases hi)
  ·exact h6 u (List.mem_of_getElem? (by rw[Array.getElem?_toList]; exact hi))
 have hltc:∀ {m:Nat},0<m->AV.ltAll m cells=true->AV.ltAll m (cells.set off (.op 0 off))=true:=fun hm hl=>by
  refine zCp fun q y hq=>?_
  rw[List.getElem?_set]at hq;split at hq
  ·split at hq
   ·cases hq; simpa [AV.lt] using hm
   ·cases hq
  ·exact zBc hl hq
 have len:(some (Ob.box e' (cells.set off (.op 0 off)))::r.map some).length=(Ob.box e' cells::r).length :=(by simp);have was:∀ (i:Nat) ob,(some (Ob.box e' (cells.set off (.op 0 off)))::r.map some)[i]? = some (some ob)->∃ ob0,((Ob.box e' cells::r).map some)[i]? = some (some ob0):=fun i ob h=>by
  cases i with
  | zero=>exact⟨_,rfl⟩
  | succ i=>exact⟨ob,by simpa using h⟩
 refine⟨.tuple #[],G,β,he,⟨hw.os,hw.tape,hw.output,by rw[hw.size]; exact Nat.le_refl _,fun i hi hx=>hw.old i fun e=>hx (e ▸ hX)⟩,fun _ h=>h,fun _ h=>.inl h,fun i hi=>by rw[hw.size]; exact hlt i hi,
  by simp only[AVal,AVals]; exact⟨[],rfl,rfl⟩,rfl,by rw[len]; exact Nat.le_refl _,⟨fun i ob hi=>?_,fun i j ob ob' hi hj hne=>?_⟩,fun i ob hi ho=>rfl⟩
 ·rw[len]
  cases i with
  | zero =>
   cases hi;refine⟨⟨b',_,_,h1,hw.new,h3,h4,hpp,hone,rfl⟩,?_⟩
   rw[List.length_map]at hl0;exact hltc (by simp) (by simpa [Ob.lt] using hl0)
  | succ i =>
   have hi':((Ob.box e' cells::r).map some)[i+1]? = some (some ob) :=(by simpa using hi);obtain⟨q1,q2⟩:=hobs.1 (i+1) ob hi';rw[List.length_map]at q2;exact⟨q1.turn hk (fun b hb=>hw.old b fun e=>hobs.2 0 (i+1) (.box e' cells) ob rfl hi' (by omega) b' (by rw[h1]; rfl) (e ▸ hb)) (fun b hb=>(row_block q1 b hb).2),q2⟩
 ·obtain⟨o1,k1⟩:=was i ob hi;obtain⟨o2,k2⟩:=was j ob' hj;exact hobs.2 i j o1 o2 k1 k2 hne
def extB (D off n:Nat) (xs:List AV) (os:List Ob):Option (AV×List (Option Ob)) :=
 match xs,os with
 | [.op 0 o],.box D' cells::r=>match Nat.beq o off,Nat.beq D' D,Nat.beq cells.length n,cells[off]? with
  | true,true,true,some (.s .np)=>some (.tup [],some (.box D (cells.set off (.op 0 off)))::r.map some)
  | true,true,true,some (.op 0 o')=>match Nat.beq o' off with
   | true=>some (.tup [],some (.box D (cells.set off (.op 0 off)))::r.map some)
   | false=>none
  | _,_,_,_=>none
 | _,_=>none
theorem zUh {P:Program}{f D off n:Nat} (hcall:∀ args w,(callFunc f args).run P w = .ok (.enter f args) w)
  (hwalk:∀ (b:Nat) (w:World) (cur:Array Value),w.heap[b]? = some (.cells cur D (0,0))->cur.size=n->(cur[off]? = some (.pointer none)∨cur[off]? = some (.pointer (some ⟨b,off,none⟩))) ->
   Calls P f #[.pointer (some ⟨b,off,none⟩)] w fun e w'=>e = .returned (.tuple #[])/\Wrote b off (.pointer (some ⟨b,off,none⟩)) cur D w w'):PSound P f (zBj fun xs os x os'=>extB D off n xs os=some (x,os')):=by
 refine PSound.extO (h:=extB D off n) (PSound.ofOwn hcall (zYR hwalk)) fun xs os x os' h=>?_
 unfold extB at h;split at h
 ·split at h
  ·rename_i e1 e2 e3 e4
   obtain rfl:=Nat.eq_of_beq_eq_true e1;obtain rfl:=Nat.eq_of_beq_eq_true e2;cases h;exact⟨_,_,_,rfl,rfl,Nat.eq_of_beq_eq_true e3,e4,.inl rfl,rfl,rfl⟩
  ·rename_i e1 e2 e3 e4
   split at h
   ·rename_i e5
    obtain rfl:=Nat.eq_of_beq_eq_true e1;obtain rfl:=Nat.eq_of_beq_eq_true e2;obtain rfl:=Nat.eq_of_beq_eq_true e5;cases h;exact⟨_,_,_,rfl,rfl,Nat.eq_of_beq_eq_true e3,e4,.inr rfl,rfl,rfl⟩
   ·cases h
  ·cases h
 ·cases h
def extS (D e:Nat) (xs:List AV) (os:List Ob):Option (AV×List (Option Ob)) :=
 match xs,os with
 | [.op 0 0],[.box D' [.op 0 0,.orow 1],.row e' 1 rows]=>match Nat.beq D' D,Nat.beq e' e,zXT rows,Nat.ble rows.length 4294967296,rows with
  | true,true,true,true,_::_=>some (.s (.str (rows.map zIx)),[some (.box D [.op 0 0,.junk]),none])
  | _,_,_,_,_=>none
 | _,_=>none
theorem zUi {P:Program}{f D e:Nat} (hcall:∀ args w,(callFunc f args).run P w = .ok (.enter f args) w)
  (hwalk:∀ (b g cap:Nat) (l:List UInt8) (w:World) (cur:Array Value) (mk:Nat×Nat),l ≠ []->w.cell? ⟨b,0+1,none⟩=some (.slice (some ⟨g,0,none⟩) l.length cap)->w.heap[g]? = some (.cells cur e mk)->cur.size=cap * 1->l.length<=cap->l.length<=9223372036854775807 ->
   (∀ (j:Nat) x,l[j]? = some x->cur[j]? = some (.int .u8 x.toNat)) ->
   Calls P f #[.pointer (some ⟨b,0,none⟩)] w fun e w'=>e = .returned (.string ⟨l.toArray⟩)/\w'=w.drew.freeze ⟨g,0,none⟩ l.length):PSound P f (zBj fun xs os x os'=>extS D e xs os=some (x,os')):=by
 refine PSound.extO (h:=extS D e) (PSound.ofOwn hcall (zMr (D:=D) (cells:=[.op 0 0,.orow 1]) rfl rfl rfl (fun i x h h1 h2=>by
  match i,h with
  | 0,_=>exact absurd rfl h1
  | 1,_=>exact absurd rfl h2
  | i+2,h=>simp at h) hwalk)) fun xs os x os' h=>?_
 unfold extS at h;split at h
 ·split at h
  ·rename_i e1 e2 e3 e4
   obtain rfl:=Nat.eq_of_beq_eq_true e1;obtain rfl:=Nat.eq_of_beq_eq_true e2;have e4:=Nat.le_of_ble_eq_true e4;cases h;refine⟨_,by simp,by rw[List.length_map]; omega,rfl,?_,rfl,rfl⟩
   rw[← zNc e3]
  ·cases h
 ·cases h
def known (xs0:List AV) (x0:AV) (xs:List AV) (os:List Ob):Option (AV×List (Option Ob)) :=
 match os,AV.eqbs xs xs0 with
 | [],true=>some (x0,[])
 | _,_=>none
def zP5 (F:List AV->List Ob->Option (AV×List (Option Ob))) (xs0:List AV) (x0:AV):Bool:=match F xs0 [] with | some (x,[])=>AV.eqb x x0 | _=>false
theorem zTJ {F:List AV->List Ob->Option (AV×List (Option Ob))}{xs0:List AV}{x0:AV} (h:zP5 F xs0 x0=true):F xs0 []=some (x0,[]):=by
 unfold zP5 at h;split at h
 ·rename_i e
  rw[e,AV.eqb_eq _ h]
 ·cases h
theorem zTm {P:Program}{g:Nat}{F:List AV->List Ob->Option (AV×List (Option Ob))}{xs0:List AV}{x0:AV} (h:zP5 F xs0 x0=true) (hF:PSound P g (zBj fun xs os x os'=>F xs os=some (x,os'))) :
  PSound P g (zBj fun xs os x os'=>known xs0 x0 xs os=some (x,os')):=PSound.extO (h:=known xs0 x0) hF.untell fun xs os x os' e=>by
 unfold known at e;split at e
 ·rename_i hx
  cases e;rw[AV.eqbs_eq _ hx]
  exact zTJ h
 ·cases e
theorem zSC {P:Program}{g:Nat}{F:List AV->List Ob->Option (AV×List (Option Ob))}{xs0:List AV}{x0:AV} (h:zP5 F xs0 x0=true) (hx:x0.pers=true){R:List AV->Ret->Prop} (hR:∀ xs r,R xs r->xs=xs0/\r = .val x0) (hF:PSound P g (zBj fun xs os x os'=>F xs os=some (x,os'))) :
  PSound P g (zAu R) :=
 ⟨hF.1,fun G w xs vs r hlt hgl hp hv hs=>by
  obtain⟨rfl,rfl⟩:=hR _ _ hs;refine(hF.2.2.1 _ rfl G w (fun _=>.tuple #[]) xs vs [] x0 [] hlt hgl hv (AV.persAll_lt hp) ⟨fun i ob hi=>by simp at hi,fun i j ob ob' hi=>by simp at hi⟩ (zTJ h)).mono fun e w' ⟨v,G',β',he,hfr,hs,hn,hl,hx',_⟩ =>
   ⟨v,G',he,⟨hfr.os,hfr.tape,hfr.output,hfr.size,fun b hb=>hfr.old b hb fun⟨i,hi,_⟩=>absurd hi (Nat.not_lt_zero _),hs,fun b hb=>(hn b hb).imp id fun h=>h.elim (fun⟨i,hi,_⟩=>absurd hi (Nat.not_lt_zero _)) id,hl⟩,?_⟩
  unfold RetAt;exact⟨hx,AVal.pers hx hx'⟩,fun R hR=>(by cases hR),fun R hR=>(by cases hR)⟩
end Go.Abs
namespace Go.Proofs.YtbfnjnljboncgaaGreatDoor
open Go.Abs
noncomputable def xTab:List (Nat×Fi):=[(4,⟨Tryz.f4,[1]⟩),(14,⟨Tryz.f14,[4,7,9]⟩),(15,⟨Tryz.f15,[1,4]⟩),(32,⟨Tryz.f32,[6,8]⟩),(18,⟨Tryz.f18,[1,6]⟩),(33,⟨Tryz.f33,[1,2]⟩),(34,⟨Tryz.f34,[1,4]⟩),(53,⟨Tryz.f53,[2,3,4,6,10,22]⟩),(54,⟨Tryz.f54,[15,17]⟩),(55,⟨Tryz.f55,[3,4,5,7,73]⟩),(56,⟨Tryz.f56,[2]⟩),(57,⟨Tryz.f57,[2]⟩),(36,⟨Tryz.f36,[0]⟩),(37,⟨Tryz.f37,[]⟩),(58,⟨Tryz.f58,[3,4,5,7,22]⟩),(59,⟨Tryz.f59,[1,3]⟩),(60,⟨Tryz.f60,[5]⟩),(61,⟨Tryz.f61,[]⟩),(84,⟨Tryz.f84,[0,1]⟩),(85,⟨Tryz.f85,[1]⟩),(86,⟨Tryz.f86,[3]⟩),(87,⟨Tryz.f87,[3,5]⟩),(88,⟨Tryz.f88,[3,4,7,38]⟩),(89,⟨Tryz.f89,[3]⟩),(90,⟨Tryz.f90,[2]⟩),(91,⟨Tryz.f91,[5]⟩),(92,⟨Tryz.f92,[3,6,7,9]⟩),(62,⟨Tryz.f62,[]⟩),(63,⟨Tryz.f63,[]⟩),(64,⟨Tryz.f64,[]⟩),(65,⟨Tryz.f65,[]⟩),(66,⟨Tryz.f66,[]⟩),(67,⟨Tryz.f67,[]⟩),(68,⟨Tryz.f68,[]⟩),(93,⟨Tryz.f93,[1,2,3,4]⟩),(94,⟨Tryz.f94,[8]⟩),(95,⟨Tryz.f95,[14]⟩),(96,⟨Tryz.f96,[]⟩),(97,⟨Tryz.f97,[14]⟩),(111,⟨Tryz.f111,[]⟩),(112,⟨Tryz.f112,[3]⟩),(115,⟨Tryz.f115,[4,7,8,9,26]⟩),(116,⟨Tryz.f116,[5,7]⟩),(117,⟨Tryz.f117,[11]⟩),(118,⟨Tryz.f118,[4]⟩),(119,⟨Tryz.f119,[3,6,9]⟩),(120,⟨Tryz.f120,[4,6]⟩),(98,⟨Tryz.f98,[]⟩),(99,⟨Tryz.f99,[]⟩),(100,⟨Tryz.f100,[]⟩),(101,⟨Tryz.f101,[]⟩),(102,⟨Tryz.f102,[]⟩),(103,⟨Tryz.f103,[]⟩),(121,⟨Tryz.f121,[]⟩),(122,⟨Tryz.f122,[4,5,7,21]⟩),(123,⟨Tryz.f123,[1,2,3,5,25,42]⟩),(124,⟨Tryz.f124,[1]⟩),(125,⟨Tryz.f125,[]⟩),(126,⟨Tryz.f126,[]⟩),(127,⟨Tryz.f127,[3]⟩),(128,⟨Tryz.f128,[]⟩),(113,⟨Tryz.f113,[]⟩),(114,⟨Tryz.f114,[2]⟩),(140,⟨Tryz.f140,[2,3,6,8]⟩),(141,⟨Tryz.f141,[4]⟩),(142,⟨Tryz.f142,[3,5]⟩),(129,⟨Tryz.f129,[]⟩),(130,⟨Tryz.f130,[]⟩),(131,⟨Tryz.f131,[]⟩),(143,⟨Tryz.f143,[]⟩),(144,⟨Tryz.f144,[]⟩),(145,⟨Tryz.f145,[]⟩),(146,⟨Tryz.f146,[]⟩),(147,⟨Tryz.f147,[2]⟩),(134,⟨Tryz.f134,[]⟩),(135,⟨Tryz.f135,[2]⟩),(136,⟨Tryz.f136,[10]⟩),(137,⟨Tryz.f137,[2,4]⟩),(138,⟨Tryz.f138,[2]⟩),(139,⟨Tryz.f139,[6]⟩),(153,⟨Tryz.f153,[7]⟩),(154,⟨Tryz.f154,[7]⟩),(155,⟨Tryz.f155,[4,7,10,12,13,14,53]⟩),(149,⟨Tryz.f149,[]⟩),(156,⟨Tryz.f156,[]⟩),(161,⟨Tryz.f161,[5,7]⟩),(162,⟨Tryz.f162,[6,8]⟩),(27,⟨Tryz.f27,[1,3]⟩),(158,⟨Tryz.f158,[]⟩),(159,⟨Tryz.f159,[]⟩),(19,⟨Tryz.f19,[1,2,3,35,60]⟩),(168,⟨Tryz.f168,[2,4,7,8]⟩),(49,⟨Tryz.f49,[4,5,50]⟩),(50,⟨Tryz.f50,[]⟩),(163,⟨Tryz.f163,[]⟩),(174,⟨Tryz.f174,[2,6,15]⟩),(175,⟨Tryz.f175,[5,10,12,35,66,72]⟩),(178,⟨Tryz.f178,[6,7,93]⟩),(179,⟨Tryz.f179,[]⟩),(43,⟨Tryz.f43,[3,17]⟩)]
noncomputable def yAq (p:Nat×Fi):Prop:=(∀ args w,(callFunc p.1 args).run Tryz.prog w = .ok (.enter p.1 args) w)/\Tryz.prog.funcs[p.1]? = some p.2.fn
theorem zZB:∀ p∈xTab,yAq p:=by
 unfold xTab;simp only[List.forall_mem_cons]
 exact⟨⟨Tryz.call4,Tryz.func4⟩,⟨Tryz.call14,Tryz.func14⟩,⟨Tryz.call15,Tryz.func15⟩,⟨Tryz.call32,Tryz.func32⟩,⟨Tryz.call18,Tryz.func18⟩,⟨Tryz.call33,Tryz.func33⟩,⟨Tryz.call34,Tryz.func34⟩,⟨Tryz.call53,Tryz.func53⟩,⟨Tryz.call54,Tryz.func54⟩,⟨Tryz.call55,Tryz.func55⟩,⟨Tryz.call56,Tryz.func56⟩,⟨Tryz.call57,Tryz.func57⟩,⟨Tryz.call36,Tryz.func36⟩,⟨Tryz.call37,Tryz.func37⟩,⟨Tryz.call58,Tryz.func58⟩,⟨Tryz.call59,Tryz.func59⟩,⟨Tryz.call60,Tryz.func60⟩,⟨Tryz.call61,Tryz.func61⟩,⟨Tryz.call84,Tryz.func84⟩,⟨Tryz.call85,Tryz.func85⟩,⟨Tryz.call86,Tryz.func86⟩,⟨Tryz.call87,Tryz.func87⟩,⟨Tryz.call88,Tryz.func88⟩,⟨Tryz.call89,Tryz.func89⟩,⟨Tryz.call90,Tryz.func90⟩,⟨Tryz.call91,Tryz.func91⟩,⟨Tryz.call92,Tryz.func92⟩,⟨Tryz.call62,Tryz.func62⟩,⟨Tryz.call63,Tryz.func63⟩,⟨Tryz.call64,Tryz.func64⟩,⟨Tryz.call65,Tryz.func65⟩,⟨Tryz.call66,Tryz.func66⟩,⟨Tryz.call67,Tryz.func67⟩,⟨Tryz.call68,Tryz.func68⟩,⟨Tryz.call93,Tryz.func93⟩,⟨Tryz.call94,Tryz.func94⟩,⟨Tryz.call95,Tryz.func95⟩,⟨Tryz.call96,Tryz.func96⟩,⟨Tryz.call97,Tryz.func97⟩,⟨Tryz.call111,Tryz.func111⟩,⟨Tryz.call112,Tryz.func112⟩,⟨Tryz.call115,Tryz.func115⟩,⟨Tryz.call116,Tryz.func116⟩,⟨Tryz.call117,Tryz.func117⟩,⟨Tryz.call118,Tryz.func118⟩,⟨Tryz.call119,Tryz.func119⟩,⟨Tryz.call120,Tryz.func120⟩,⟨Tryz.call98,Tryz.func98⟩,⟨Tryz.call99,Tryz.func99⟩,⟨Tryz.call100,Tryz.func100⟩,⟨Tryz.call101,Tryz.func101⟩,⟨Tryz.call102,Tryz.func102⟩,⟨Tryz.call103,Tryz.func103⟩,⟨Tryz.call121,Tryz.func121⟩,⟨Tryz.call122,Tryz.func122⟩,⟨Tryz.call123,Tryz.func123⟩,⟨Tryz.call124,Tryz.func124⟩,⟨Tryz.call125,Tryz.func125⟩,⟨Tryz.call126,Tryz.func126⟩,⟨Tryz.call127,Tryz.func127⟩,⟨Tryz.call128,Tryz.func128⟩,⟨Tryz.call113,Tryz.func113⟩,⟨Tryz.call114,Tryz.func114⟩,⟨Tryz.call140,Tryz.func140⟩,⟨Tryz.call141,Tryz.func141⟩,⟨Tryz.call142,Tryz.func142⟩,⟨Tryz.call129,Tryz.func129⟩,⟨Tryz.call130,Tryz.func130⟩,⟨Tryz.call131,Tryz.func131⟩,⟨Tryz.call143,Tryz.func143⟩,⟨Tryz.call144,Tryz.func144⟩,⟨Tryz.call145,Tryz.func145⟩,⟨Tryz.call146,Tryz.func146⟩,⟨Tryz.call147,Tryz.func147⟩,⟨Tryz.call134,Tryz.func134⟩,⟨Tryz.call135,Tryz.func135⟩,⟨Tryz.call136,Tryz.func136⟩,⟨Tryz.call137,Tryz.func137⟩,⟨Tryz.call138,Tryz.func138⟩,⟨Tryz.call139,Tryz.func139⟩,⟨Tryz.call153,Tryz.func153⟩,⟨Tryz.call154,Tryz.func154⟩,⟨Tryz.call155,Tryz.func155⟩,⟨Tryz.call149,Tryz.func149⟩,⟨Tryz.call156,Tryz.func156⟩,⟨Tryz.call161,Tryz.func161⟩,⟨Tryz.call162,Tryz.func162⟩,⟨Tryz.call27,Tryz.func27⟩,⟨Tryz.call158,Tryz.func158⟩,⟨Tryz.call159,Tryz.func159⟩,⟨Tryz.call19,Tryz.func19⟩,⟨Tryz.call168,Tryz.func168⟩,⟨Tryz.call49,Tryz.func49⟩,⟨Tryz.call50,Tryz.func50⟩,⟨Tryz.call163,Tryz.func163⟩,⟨Tryz.call174,Tryz.func174⟩,⟨Tryz.call175,Tryz.func175⟩,⟨Tryz.call178,Tryz.func178⟩,⟨Tryz.call179,Tryz.func179⟩,⟨Tryz.call43,Tryz.func43⟩,by simp⟩
noncomputable def xFn (g:Nat):Option Fi:=look? g xTab
theorem zTZ:∀ g fi,xFn g=some fi->(∀ args w,(callFunc g args).run Tryz.prog w = .ok (.enter g args) w)/\Tryz.prog.funcs[g]? = some fi.fn:=zAo (Q:=fun(g:Nat) (fi:Fi)=>(∀ args w,(callFunc g args).run Tryz.prog w = .ok (.enter g args) w)/\Tryz.prog.funcs[g]? = some fi.fn) zZB
def zVC (xs:List AV):Option AV :=
 match xs with
 | [.s (.str a),.s (.str [c])]=>some (.s (.int .i64 (Lib.indexByte a c)))
 | _=>none
def extI (xs:List AV) (os:List Ob):Option (AV×List (Option Ob)):=match os,zVC xs with | [],some y=>some (y,[]) | _,_=>none
theorem zY0:PSound Tryz.prog 149 (zBj fun xs os x os'=>extI xs os=some (x,os')) :=
 PSound.extP (h:=zVC) zE9 fun xs x h=>by
  unfold zVC at h;split at h
  ·rename_i a c
   cases h;exact⟨rfl,a,[c],_,by simp only[zCZ,req,List.length_singleton,↓reduceIte]; rfl,rfl,rfl⟩
  ·cases h
theorem zYZ:PSound Tryz.prog 128 (zBj fun xs os x os'=>extB 128 0 2 xs os=some (x,os')) :=
 zUh Tryz.call128 fun b w cur h hs hc=>hc.elim
  (fun hc=>(Tryz.bld_check_fresh b 0 128 2 w (by simp[World.cell?,h,hc]) (by simp[World.shape?,h,hs]) (by decide) (by kernel_rfl) (by simp[World.frozen?,h])).mono fun e w' ⟨h1,h2⟩=>⟨h1,by subst h2; exact Wrote.cell h⟩)
  (fun hc=>(Tryz.bld_check_used b 0 w (by simp[World.cell?,h,hc])).mono fun e w' ⟨h1,h2⟩=>⟨h1,by subst h2; exact Wrote.same h hc⟩)
theorem zY1:PSound Tryz.prog 61 (zBj fun xs os x os'=>extS 128 5 xs os=some (x,os')) :=
 zUi Tryz.call61 fun b g cap l w cur mk=>Tryz.bld_String b 0 g cap l w cur mk
abbrev ExtF:=List AV->List Ob->Option (AV×List (Option Ob))
def eL:List (Nat×ExtF):=[(149,extI),(128,extB 128 0 2),(61,extS 128 5)]
def e0 (g:Nat):Option ExtF:=look? g eL
theorem zYX:∀ p∈eL,PSound Tryz.prog p.1 (zBj fun xs os x os'=>p.2 xs os=some (x,os')):=by
 simp only[eL,List.forall_mem_cons]
 exact⟨zY0,zYZ,zY1,by simp⟩
theorem zZS:∀ g h,look? g eL=some h->PSound Tryz.prog g (zBj fun xs os x os'=>h xs os=some (x,os')):=zAo (Q:=fun(g:Nat) (h:ExtF)=>PSound Tryz.prog g (zBj fun xs os x os'=>h xs os=some (x,os'))) zYX
def zWU:AV:=.s (.str [92,102,114,97,99,49,32,50])
def xTok:AV:=.tup [.s (.sl 4 [[.int .i64 4,.str [102,114,97,99],.int .i64 0,.int .i64 5],[.int .i64 2,.str [49],.int .i64 5,.int .i64 6],[.int .i64 2,.str [50],.int .i64 7,.int .i64 8]]),.s (.int .i64 0),.s (.int .i64 0)]
def zYh:AV:=.agg [.s (.int .i64 1),.s (.str []),.s (.int .i64 0),.s (.sl 4 [[.int .i64 5,.str [],.int .i64 0,.sl 4 [[.int .i64 1,.str [],.int .i64 0,.sl 4 [[.int .i64 3,.str [49],.int .i64 0,.sl 4 []]]],[.int .i64 1,.str [],.int .i64 0,.sl 4 [[.int .i64 3,.str [50],.int .i64 0,.sl 4 []]]]]]])]
def yAp:AV:=.tup [.s (.str [60,109,97,116,104,62,60,109,102,114,97,99,62,60,109,114,111,119,62,60,109,110,62,49,60,47,109,110,62,60,47,109,114,111,119,62,60,109,114,111,119,62,60,109,110,62,50,60,47,109,110,62,60,47,109,114,111,119,62,60,47,109,102,114,97,99,62,60,47,109,97,116,104,62]),.s (.int .i64 0)]
theorem zZu:zP5 (zU9 TW (zHb TW e0 xFn 100) xFn 53) [zWU] xTok=true:=by decide +kernel
theorem yAn:PSound Tryz.prog 53 (zBj fun xs os x os'=>known [zWU] xTok xs os=some (x,os')):=by
 obtain⟨Γ,h1,h2⟩:=zMs (zGN (P:=Tryz.prog) tokW mixed (ext:=e0) (tab:=xFn) zZS zTZ 100)
 exact zTm zZu (zSq tokW h1 mixed h2 zTZ (fi:=(xFn 53).get rfl) (Option.some_get _).symm)
theorem zYx {l:List (Nat×ExtF)} (hl:∀ p∈l,PSound Tryz.prog p.1 (zBj fun xs os x os'=>p.2 xs os=some (x,os'))){g:Nat} (hg:xFn g ≠ none){xs0:List AV}{x0:AV} (h:zP5 (zHb TW (fun g=>look? g l) xFn 100 g) xs0 x0=true) :
  PSound Tryz.prog g (zBj fun xs os x os'=>known xs0 x0 xs os=some (x,os')) :=
 zTm h (zGN tokW mixed (zAo (Q:=fun(g:Nat) (h:ExtF)=>PSound Tryz.prog g (zBj fun xs os x os'=>h xs os=some (x,os'))) hl) zTZ 100 g (.inr hg))
def e1L:List (Nat×ExtF):=(53,known [zWU] xTok)::eL
theorem yAu:∀ p∈e1L,PSound Tryz.prog p.1 (zBj fun xs os x os'=>p.2 xs os=some (x,os')):=List.forall_mem_cons.2 ⟨yAn,zYX⟩
theorem zV7:zP5 (zHb TW (fun g=>look? g e1L) xFn 100 14) [zWU,.s .np] (.tup [zYh,.s (.int .i64 0),.s (.int .i64 0)])=true:=by decide +kernel
theorem zUg:zP5 (zHb TW (fun g=>look? g eL) xFn 100 15) [zYh] yAp=true:=by decide +kernel
def e2L:List (Nat×ExtF):=[(14,known [zWU,.s .np] (.tup [zYh,.s (.int .i64 0),.s (.int .i64 0)])),(15,known [zYh] yAp)]
theorem yAv:∀ p∈e2L,PSound Tryz.prog p.1 (zBj fun xs os x os'=>p.2 xs os=some (x,os')):=by
 simp only[e2L,List.forall_mem_cons]
 exact⟨zYx yAu (by decide) zV7,zYx zYX (by decide) zUg,by simp⟩
theorem zU5:zP5 (zHb TW (fun g=>look? g e2L) xFn 100 4) [] (.s (.bool true))=true:=by decide +kernel
def zPf (xs:List AV) (r:Ret):Prop:=∃ (y0:Bool),zFc=some y0/\xs=[]/\r = .val (.s (.bool y0))
def zJp:zAp:=zAu fun xs r=>zPf xs r
theorem zNY:PSound Tryz.prog 4 zJp :=
 zSC zU5 rfl (fun xs r ⟨y,hy,h1,h2⟩=>(by cases hy; exact⟨h1,h2⟩)) (zGN tokW mixed (zAo (Q:=fun(g:Nat) (h:ExtF)=>PSound Tryz.prog g (zBj fun xs os x os'=>h xs os=some (x,os'))) yAv) zTZ 100 _ (.inr (by decide)))
def zSj (n:Nat) (xs:List AV) (r:Ret):Prop:=∃ (a0:Nd) (y0:Bool),zFE n a0=some y0/\xs=[.agg ((Nd.enc a0).map .s)]/\r = .val (.s (.bool y0))
def zMe:zAp:=zAu fun xs r=>∃ n,zSj n xs r
theorem zRI:PSound Tryz.prog 5 zMe:=by
 have gok:∀ f s,look? f [(16,zMc)]=some s->PSound Tryz.prog f s:=zAo (by
  simp only[List.forall_mem_cons]
  exact⟨zOC,by simp⟩)
 refine psq tokW Tryz.call5 Tryz.func5 rfl ?_;rintro xs r w0 G0 ⟨n,⟨n1A,n1C,n1D,n1B⟩,y0,h,rfl,rfl⟩ _;rw[zFE]at h;refine yAD ?_;refine yAD ?_;obtain⟨y2,hy2,h⟩:=zAc h;refine⟨_,⟨_,_,_,_,hy2,rfl,rfl⟩,?_⟩
 refine zAh ?_;have hy:=osi h;subst hy;exact fin0 rfl rfl
def zL2 (n:Nat) (xs:List AV) (os:List Ob) (x:AV) (os':List (Option Ob)):Prop:=∃ (a0:List UInt8) (a1:Int) (y0:List UInt8),zBD n a0 a1=some y0/\xs=[.orow 0,.s (.int .u64 a1)]/\os=[.row 5 1 ((List.map brow) a0)]/\x = .orow 1/\os'=[none,some (.row 5 1 ((List.map brow) y0))]
def zHo:zAp:=zB1 (fun xs os x os'=>∃ n,zL2 n xs os x os')
theorem zLu:PSound Tryz.prog 82 zHo:=by
 have gok:=@gok0 Tryz.prog;refine PSound.withNil (osq tokW Tryz.call82 Tryz.func82 rfl ?_) _;rintro xs os x os' w0 G0 B0 ⟨n,b1,n2,y0,h,rfl,rfl,rfl,rfl⟩ _;rw[zBD]at h;refine zZx [4] [] rfl ?_;refine zAj (Le.rnq [(0,0)] [(0,.orow 0),(1,.s (.int .u64 n2))] [(0,.row 5 1 ((List.map brow) b1))] 1) ?_;refine zAa ?_;refine yAD ?_;show Tri ..;obtain⟨l6,hl,h⟩:=zAc h;refine zAn ⟨ofL [(0,.orow 1)],ofH [(1,.row 5 1 ((List.map brow) l6))],2⟩ ?_ (fun σ' hle=>?_)
 ·refine zAi (zAy (X:=Nat×Int×(List UInt8)) (fun y=>match y with | (k,shift4,l5)=>⟨ofL [(0,.orow 1),(1,.s (.int .u64 n2)),(5,.s (.int .i64 shift4))],ofH [(1,.row 5 1 ((List.map brow) l5))],2⟩) (fun y=>zBl n2 y.1 y.2.1 y.2.2=some l6) (fun y=>y.1) (n,56,b1) hl ?_ ?_)
  ·exact(Le.rnq [(0,1)] _ _ _)
  ·rintro⟨k,shift4,l5⟩ h;cases k with
   | zero=>cases h
   | succ k =>
    replace h:zBl n2 (k+1) shift4 l5=some l6:=h;rw[zBl]at h;refine zAa ?_;refine yAD ?_;refine zAm rfl h (fun hb h=>?_) (fun hb h=>?_)
    ·refine zAf ?_;refine zAa ?_;refine zAi ?_;refine zAb [16] [15] rfl ?_;obtain⟨hq,h⟩:=zAK h;refine And.intro hq ?_;intro r7 hr7;obtain rfl:(List.map brow) [b8of (IntKind.u8.wrap (n2.fdiv (2 ^ (min shift4.toNat IntKind.u64.bits))))]=r7:=(hr7.trans zIo).symm;obtain⟨hq,h⟩:=zAK h
     refine And.intro (show(((List.map brow) l5).length+((List.map brow) [b8of (IntKind.u8.wrap (n2.fdiv (2 ^ (min shift4.toNat IntKind.u64.bits))))]).length) * 1<=140737488355328/\((List.map brow) l5).length+((List.map brow) [b8of (IntKind.u8.wrap (n2.fdiv (2 ^ (min shift4.toNat IntKind.u64.bits))))]).length<=9223372036854775807 from by simp only[List.length_append,List.length_cons,List.length_nil,List.length_map,rlen (fun _=>rfl)]at hq ⊢; omega) ?_;show Tri ..
     refine zAj (Le.rnq [(2,1)] [(0,.orow 1),(1,.s (.int .u64 n2)),(5,.s (.int .i64 shift4))] [(1,.row 5 1 ((List.map brow) (l5++[b8of (IntKind.u8.wrap (n2.fdiv (2 ^ (min shift4.toNat IntKind.u64.bits))))])))] 2 (h2:=⟨rfl,⟨_,rfl,congrArg (Ob.row 5 1) zIo⟩,trivial⟩)) ?_;refine yAC ?_
     refine⟨(k,IntKind.i64.wrap (shift4 - 8),l5++[b8of (IntKind.u8.wrap (n2.fdiv (2 ^ (min shift4.toNat IntKind.u64.bits))))]),h,(Le.rnq [(1,1)] _ _ _),Nat.lt_succ_self k⟩
    ·refine zAB ?_;cases h;exact(Le.rnq [(1,1)] _ _ _)
 ·refine zAj hle ?_;refine yAD ?_;refine zAh ?_;have hy:=osi h;subst hy;unfold zCA;exact⟨_,(Le.rnq [(1,1)] [(4,.orow 1)] [(1,.row 5 1 ((List.map brow) l6))] 2),rfl,rfl,rfl,rfl,trivial⟩
def zL1 (n:Nat) (xs:List AV) (r:Ret):Prop:=∃ (a0:Int) (a1:List UInt8) (y0:Int),zEn n a0 a1=some y0/\xs=[.s (.int .u64 a0),.s (.sl 1 ((List.map brow) a1))]/\r = .val (.s (.int .u64 y0))
def zHn:zAp:=zAu fun xs r=>∃ n,zL1 n xs r
theorem zLt:PSound Tryz.prog 110 zHn:=by
 have gok:=@gok0 Tryz.prog;refine psq tokW Tryz.call110 Tryz.func110 rfl ?_;rintro xs r w0 G0 ⟨n,h1,b2,y0,h,rfl,rfl⟩ _;rw[zEn]at h;refine yAD ?_;refine zAa ?_;refine zZx [] [8] rfl ?_;intro n3 hn3;obtain rfl:=rlE (fun _=>rfl) b2 hn3;show Tri ..;obtain⟨h6,hl,h⟩:=zAc h;refine zAn ⟨ofL [(0,.s (.int .u64 h6))],fun _=>none,0⟩ ?_ (fun σ' hle=>?_)
 ·refine zAi (zAy (X:=Nat×Int×Int) (fun y=>match y with | (k,h4,x5)=>⟨ofL [(0,.s (.int .u64 h4)),(7,.s (.sl 1 ((List.map brow) b2))),(8,.s (.int .i64 (b2.length:Int))),(9,.s (.int .i64 x5))],fun _=>none,0⟩) (fun y=>zBC b2 y.1 y.2.1 y.2.2=some h6) (fun y=>y.1) (n,h1,0) hl ?_ ?_)
  ·exact Le.fgt
  ·rintro⟨k,h4,x5⟩ h;cases k with
   | zero=>cases h
   | succ k =>
    replace h:zBC b2 (k+1) h4 x5=some h6:=h;rw[zBC]at h;refine yAD ?_;refine zAa ?_;refine zAm rfl h (fun hb h=>?_) (fun hb h=>?_)
    ·refine zAf ?_;refine zAa ?_;refine zAi ?_;refine zZx [] [11] rfl ?_;obtain⟨e7,he7,h⟩:=zAc h;refine And.intro (zAq (fun _=>rfl) he7).1 ?_;intro r8 hr8;obtain rfl:[.int .u8 (e7.toNat:Int)]=r8:=(hr8.trans (zAq (fun _=>rfl) he7).2.1).symm;refine yAC ?_;refine yAC ?_;refine⟨(k,IntKind.u64.wrap ((zKm .xor .u64 h4 (IntKind.u64.wrap (e7.toNat:Int))) * 1099511628211),IntKind.i64.wrap (x5+1)),h,Le.fgt,Nat.lt_succ_self k⟩
    ·refine zAB ?_;cases h;exact Le.fgt
 ·refine zAj hle ?_;refine yAD ?_;refine zAh ?_;have hy:=osi h;subst hy;exact fin0 rfl rfl
def zNB (n:Nat) (xs:List AV) (r:Ret):Prop:=∃ (a0:List UInt8) (y0:Int),zDL n a0=some y0/\xs=[.s (.sl 1 ((List.map brow) a0))]/\r = .val (.s (.int .u64 y0))
def zIs:zAp:=zAu fun xs r=>∃ n,zNB n xs r
theorem zMX:PSound Tryz.prog 83 zIs:=by
 have gok:∀ f s,look? f [(110,zHn)]=some s->PSound Tryz.prog f s:=zAo (by
  simp only[List.forall_mem_cons]
  exact⟨zLt,by simp⟩)
 refine psq tokW Tryz.call83 Tryz.func83 rfl ?_;rintro xs r w0 G0 ⟨n,b1,y0,h,rfl,rfl⟩ _;rw[zDL]at h;refine yAD ?_;refine yAD ?_;obtain⟨y2,hy2,h⟩:=zAc h;refine⟨_,⟨_,_,_,_,hy2,rfl,rfl⟩,?_⟩
 refine zAh ?_;have hy:=osi h;subst hy;exact fin0 rfl rfl
def zO5 (n:Nat) (xs:List AV) (r:Ret):Prop:=∃ (a0:Int) (a1:List UInt8) (a2:Int) (a3:List Int) (y0:Int),zEm n a0 a1 a2 a3=some y0/\xs=[.s (.int .i64 a0),.s (.str a1),.s (.int .i64 a2),.s (.sl 1 ((List.map (irow .u64)) a3))]/\r = .val (.s (.int .u64 y0))
def zJg:zAp:=zAu fun xs r=>∃ n,zO5 n xs r
theorem zNP:PSound Tryz.prog 52 zJg:=by
 have gok:∀ f s,look? f [(82,zHo),(83,zIs)]=some s->PSound Tryz.prog f s:=zAo (by
  simp only[List.forall_mem_cons]
  exact⟨zLu,zMX,by simp⟩)
 refine psq tokW Tryz.call52 Tryz.func52 rfl ?_;rintro xs r w0 G0 ⟨n,kind1,text2,cols3,kids4,y0,h,rfl,rfl⟩ _;rw[zEm]at h;refine yAD ?_;refine zZx [19] [16] rfl ?_;intro n5 hn5;obtain rfl:=rlE (fun _=>rfl) kids4 hn5;obtain⟨hq,h⟩:=zAK h
 refine And.intro (show 0<=(0:Int)/\(0:Int)<=(IntKind.i64.wrap ((IntKind.i64.wrap (32+(text2.length:Int)))+(IntKind.i64.wrap (8 * (kids4.length:Int)))))/\(IntKind.i64.wrap ((IntKind.i64.wrap (32+(text2.length:Int)))+(IntKind.i64.wrap (8 * (kids4.length:Int))))) * ((1:Nat):Int)<=281474976710656/\(IntKind.i64.wrap ((IntKind.i64.wrap (32+(text2.length:Int)))+(IntKind.i64.wrap (8 * (kids4.length:Int)))))<=281474976710656 from⟨hq.1,hq.2.1,by have h1:=hq.1; have h2:=hq.2.1; have h3:=hq.2.2; omega,by have h3:=hq.2.2; omega⟩) ?_;show Tri ..
 refine zAj (Le.rnq [(0,0)] [(0,.s (.int .i64 kind1)),(1,.s (.str text2)),(2,.s (.int .i64 cols3)),(3,.s (.sl 1 ((List.map (irow .u64)) kids4))),(9,.orow 0)] [(0,.row 5 1 ((List.map brow) (List.replicate (0:Int).toNat (b8of 0))))] 1 (h2:=⟨rfl,⟨_,rfl,congrArg (Ob.row 5 1) zIo⟩,trivial⟩)) ?_;refine zZx [23] [] rfl ?_;obtain⟨y6,hy6,h⟩:=zAc h
 refine⟨_,_,⟨_,_,_,_,hy6,rfl,rfl,rfl,rfl⟩,?_⟩
 refine zZx [28] [] rfl ?_;obtain⟨y7,hy7,h⟩:=zAc h;refine⟨_,_,⟨_,_,_,_,hy7,rfl,rfl,rfl,rfl⟩,?_⟩
 refine zZx [31] [] rfl ?_;obtain⟨hq,h⟩:=zAK h;refine And.intro (show(((List.map brow) y7).length+(List.map brow text2).length) * 1<=140737488355328/\((List.map brow) y7).length+(List.map brow text2).length<=9223372036854775807 from by simp only[List.length_append,List.length_cons,List.length_nil,List.length_map,rlen (fun _=>rfl)]at hq ⊢; omega) ?_;show Tri ..
 refine zAj (Le.rnq [(3,0)] [(2,.s (.int .i64 cols3)),(3,.s (.sl 1 ((List.map (irow .u64)) kids4))),(9,.orow 0)] [(0,.row 5 1 ((List.map brow) (y7++text2)))] 1 (h2:=⟨rfl,⟨_,rfl,congrArg (Ob.row 5 1) zIo⟩,trivial⟩)) ?_;refine zZx [35] [] rfl ?_;obtain⟨y8,hy8,h⟩:=zAc h;refine⟨_,_,⟨_,_,_,_,hy8,rfl,rfl,rfl,rfl⟩,?_⟩
 refine zZx [40] [38] rfl ?_;intro n9 hn9;obtain rfl:=rlE (fun _=>rfl) kids4 hn9;obtain⟨y10,hy10,h⟩:=zAc h;refine⟨_,_,⟨_,_,_,_,hy10,rfl,rfl,rfl,rfl⟩,?_⟩
 refine zAa ?_;refine zZx [] [42] rfl ?_;intro n11 hn11;obtain rfl:=rlE (fun _=>rfl) kids4 hn11;show Tri ..;obtain⟨l15,hl,h⟩:=zAc h;refine zAn ⟨ofL [(9,.orow 0)],ofH [(0,.row 5 1 ((List.map brow) l15))],1⟩ ?_ (fun σ' hle=>?_)
 ·refine zAi (zAy (X:=Nat×Int×(List UInt8)) (fun y=>match y with | (k,x12,l14)=>⟨ofL [(9,.orow 0),(41,.s (.sl 1 ((List.map (irow .u64)) kids4))),(42,.s (.int .i64 (kids4.length:Int))),(43,.s (.int .i64 x12))],ofH [(0,.row 5 1 ((List.map brow) l14))],1⟩) (fun y=>zBY n kids4 y.1 y.2.1 y.2.2=some l15) (fun y=>y.1) (n,0,y10) hl ?_ ?_)
  ·exact(Le.rnq [(2,0)] _ _ _)
  ·rintro⟨k,x12,l14⟩ h;cases k with
   | zero=>cases h
   | succ k =>
    replace h:zBY n kids4 (k+1) x12 l14=some l15:=h;rw[zBY]at h;refine yAD ?_;refine zAa ?_;refine zAm rfl h (fun hb h=>?_) (fun hb h=>?_)
    ·refine zAf ?_;refine zAa ?_;refine zAi ?_;refine zZx [] [45] rfl ?_;obtain⟨e16,he16,h⟩:=zAc h;refine And.intro (zAq (fun _=>rfl) he16).1 ?_;intro r17 hr17;obtain rfl:[.int .u64 e16]=r17:=(hr17.trans (zAq (fun _=>rfl) he16).2.1).symm;refine zAb [49] [] rfl ?_;obtain⟨y18,hy18,h⟩:=zAc h;refine⟨_,_,⟨_,_,_,_,hy18,rfl,rfl,rfl,rfl⟩,?_⟩
     refine yAC ?_;refine⟨(k,IntKind.i64.wrap (x12+1),y18),h,(Le.rnq [(1,0)] _ _ _),Nat.lt_succ_self k⟩
    ·refine zAB ?_;cases h;exact(Le.rnq [(0,0)] _ _ _)
 ·refine zAj hle ?_;refine yAD ?_;obtain⟨y19,hy19,h⟩:=zAc h;refine⟨_,⟨_,_,_,hy19,rfl,rfl⟩,?_⟩
  refine zAh ?_;have hy:=osi h;subst hy;exact fin0 rfl rfl
def zEa (n:Nat) (xs:List AV) (r:Ret):Prop:=∃ (a0:Nd) (y0:Int),zB5 n a0=some y0/\xs=[.s (.pt (Nd.enc a0))]/\r = .val (.s (.int .u64 y0))
theorem zLx (n:Nat) (ih:PSound Tryz.prog 31 (zAu (zEa n))):PSound Tryz.prog 31 (zAu (zEa (n+1))):=by
 have gok:∀ f s,look? f [(31,zAu (zEa n)),(52,zJg)]=some s->PSound Tryz.prog f s:=zAo (by
  simp only[List.forall_mem_cons]
  exact⟨ih,zNP,by simp⟩)
 refine psq tokW Tryz.call31 Tryz.func31 rfl ?_;rintro xs r w0 G0 ⟨⟨n1A,n1C,n1D,n1B⟩,y0,h,rfl,rfl⟩ _;rw[zB5]at h;refine yAD ?_;refine zZx [10] [9] rfl ?_;intro n2 hn2;obtain rfl:=rlE Nd.encs_eq n1B hn2;obtain⟨hq,h⟩:=zAK h;refine And.intro (show 0<=(n1B.length:Int)/\(n1B.length:Int)<=(n1B.length:Int)/\(n1B.length:Int) * ((8:Nat):Int)<=281474976710656/\(n1B.length:Int)<=281474976710656 from⟨hq.1,Int.le_refl _,by have h1:=hq.1; have h2:=hq.2; omega,by have h2:=hq.2; omega⟩) ?_;show Tri ..
 refine zAj (Le.rnq [(0,0)] [(0,.s (.pt [.int .i64 n1A,.str n1C,.int .i64 n1D,.sl 4 (Nd.encs n1B)])),(3,.orow 0)] [(0,.row 42 1 ((List.map (irow .u64)) (List.replicate (n1B.length:Int).toNat 0)))] 1 (h2:=⟨rfl,⟨_,rfl,congrArg (Ob.row 42 1) zIo⟩,trivial⟩)) ?_;refine zAa ?_;refine zZx [] [15] rfl ?_;intro n3 hn3
 obtain rfl:=rlE Nd.encs_eq n1B hn3;show Tri ..;obtain⟨l6,hl,h⟩:=zAc h;refine zAn ⟨ofL [(0,.s (.pt [.int .i64 n1A,.str n1C,.int .i64 n1D,.sl 4 (Nd.encs n1B)])),(3,.orow 0)],ofH [(0,.row 42 1 ((List.map (irow .u64)) l6))],1⟩ ?_ (fun σ' hle=>?_)
 ·refine zAi (zAy (X:=Nat×Int×(List Int)) (fun y=>match y with | (k,x4,l5)=>⟨ofL [(0,.s (.pt [.int .i64 n1A,.str n1C,.int .i64 n1D,.sl 4 (Nd.encs n1B)])),(3,.orow 0),(15,.s (.int .i64 (n1B.length:Int))),(16,.s (.int .i64 x4))],ofH [(0,.row 42 1 ((List.map (irow .u64)) l5))],1⟩) (fun y=>zBZ (zB5 n) n1B y.1 y.2.1 y.2.2=some l6) (fun y=>y.1) (n,0,List.replicate (n1B.length:Int).toNat 0) hl ?_ ?_)
  ·exact(Le.rnq [(0,0)] _ _ _)
  ·rintro⟨k,x4,l5⟩ h;cases k with
   | zero=>cases h
   | succ k =>
    replace h:zBZ (zB5 n) n1B (k+1) x4 l5=some l6:=h;rw[zBZ]at h;refine yAD ?_;refine zAa ?_;refine zAm rfl h (fun hb h=>?_) (fun hb h=>?_)
    ·refine zAf ?_;refine zAa ?_;refine zAi ?_;refine yAD ?_;refine zAb [] [26] rfl ?_;obtain⟨⟨e7A,e7C,e7D,e7B⟩,he7,h⟩:=zAc h;refine And.intro (zAq Nd.encs_eq he7).1 ?_;intro r8 hr8;obtain rfl:[.int .i64 e7A,.str e7C,.int .i64 e7D,.sl 4 (Nd.encs e7B)]=r8:=(hr8.trans (zAq Nd.encs_eq he7).2.1).symm;obtain⟨y9,hy9,h⟩:=zAc h;refine⟨_,⟨_,_,hy9,rfl,rfl⟩,?_⟩
     obtain⟨e10,he10,h⟩:=zAc h;refine And.intro (zAq (fun _=>rfl) he10).1 ?_;have hset11:=(rset (R:=(List.map (irow .u64))) (f:=(irow .u64)) (fun _=>rfl) he10 y9 0 1 [.int .u64 y9] rfl)
     have hat11:=at_set he10 y9;refine And.intro (zAq (fun _=>rfl) he10).2.2 ?_;refine zAj (Le.rnq [(0,0)] [(0,.s (.pt [.int .i64 n1A,.str n1C,.int .i64 n1D,.sl 4 (Nd.encs n1B)])),(3,.orow 0),(15,.s (.int .i64 (n1B.length:Int))),(16,.s (.int .i64 x4))] [(0,.row 42 1 ((List.map (irow .u64)) (l5.set x4.toNat y9)))] 1 (h2:=⟨rfl,⟨_,rfl,congrArg (Ob.row 42 1) hset11⟩,trivial⟩)) ?_;refine yAC ?_;refine⟨(k,IntKind.i64.wrap (x4+1),l5.set x4.toNat y9),h,(Le.rnq [(0,0)] _ _ _),Nat.lt_succ_self k⟩
    ·refine zAB ?_;cases h;exact(Le.rnq [(0,0)] _ _ _)
 ·refine zAj hle ?_;refine zAa ?_;refine zA0 [] [] [13] rfl (by decide +kernel) ?_;obtain⟨y12,hy12,h⟩:=zAc h;refine⟨_,⟨_,_,_,_,_,_,hy12,rfl,rfl⟩,?_⟩
  refine zAh ?_;have hy:=osi h;subst hy;exact fin0 rfl rfl
theorem zMh:∀ n,PSound Tryz.prog 31 (zAu (zEa n)):=by
 intro n
 induction n with
 | zero=>exact zDr Tryz.call31 (fun xs r h=>by obtain⟨_,_,h,_⟩:=h; cases h)
 | succ n ih=>exact zLx n ih
def zJi:zAp:=zAu fun xs r=>∃ n,zEa n xs r
theorem zNR:PSound Tryz.prog 31 zJi:=zFk zMh
def zO6 (n:Nat) (xs:List AV) (r:Ret):Prop:=∃ (a0:Nd) (y0:Int),zDw n a0=some y0/\xs=[.agg ((Nd.enc a0).map .s)]/\r = .val (.s (.int .u64 y0))
def zJh:zAp:=zAu fun xs r=>∃ n,zO6 n xs r
theorem zNQ:PSound Tryz.prog 13 zJh:=by
 have gok:∀ f s,look? f [(31,zJi)]=some s->PSound Tryz.prog f s:=zAo (by
  simp only[List.forall_mem_cons]
  exact⟨zNR,by simp⟩)
 refine psq tokW Tryz.call13 Tryz.func13 rfl ?_;rintro xs r w0 G0 ⟨n,⟨n1A,n1C,n1D,n1B⟩,y0,h,rfl,rfl⟩ _;rw[zDw]at h;refine yAD ?_;refine yAD ?_;obtain⟨y2,hy2,h⟩:=zAc h;refine⟨_,⟨_,_,_,hy2,rfl,rfl⟩,?_⟩
 refine zAh ?_;have hy:=osi h;subst hy;exact fin0 rfl rfl
def zHj (n:Nat) (xs:List AV) (r:Ret):Prop:=∃ (a0:Nd) (a1:List zO8) (y0:Bool),zA3 n a0 a1=some y0/\xs=[.agg ((Nd.enc a0).map .s),.s (.sl 8 ((List.map zAk) a1))]/\r = .val (.s (.bool y0))
def zHs:zAp:=zAu fun xs r=>∃ n,zHj n xs r
theorem zHe:PSound Tryz.prog 3 zHs:=by
 have gok:∀ f s,look? f [(4,zJp),(5,zMe),(6,zQB),(7,zHp),(8,zN7),(9,zL6),(10,zJf),(11,zG6),(12,zMb),(13,zJh)]=some s->PSound Tryz.prog f s:=zAo (by
  simp only[List.forall_mem_cons]
  exact⟨zNY,zRI,zUz,zLv,zSN,zRB,zNO,zKx,zRG,zNQ,by simp⟩)
 refine psq tokW Tryz.call3 Tryz.func3 rfl ?_;rintro xs r w0 G0 ⟨n,⟨a1A,a1C,a1D,a1B⟩,a2,y0,h,rfl,rfl⟩ _;rw[zA3]at h;refine yAD ?_;refine zAa ?_;refine zAa ?_;obtain⟨x3,hj,h⟩:=zAc h;refine zAn ⟨ofL [(1,.s (.sl 8 ((List.map zAk) a2))),(2,.s (.pt [.int .i64 a1A,.str a1C,.int .i64 a1D,.sl 4 (Nd.encs a1B)])),(33,.s (.bool x3))],fun _=>none,0⟩ ?_ (fun σ' hle=>?_)
 ·replace h:=hj;refine zAb [] [24,29,31] rfl ?_;obtain⟨y4,hy4,h⟩:=zAc h;refine⟨_,⟨_,hy4,rfl,rfl⟩,?_⟩
  intro b hb;cases b with
  | true =>
   replace h:=zAw hb.symm h;intro b hb;subst hb;cases h;exact Le.fgt
  | false =>
   replace h:=zAv hb.symm h;obtain⟨y5,hy5,h⟩:=zAc h;refine⟨_,⟨_,_,_,hy5,rfl,rfl⟩,?_⟩
   intro b hb;cases b with
   | true =>
    replace h:=zAw hb.symm h;cases h;exact Le.fgt
   | false =>
    replace h:=zAv hb.symm h;intro n6 hn6;obtain rfl:=rlE (fun _=>rfl) a2 hn6;cases h;exact Le.fgt
 ·refine zAj hle ?_;refine zAm rfl h (fun hb h=>?_) (fun hb h=>?_)
  ·refine yAD ?_;obtain⟨y7,hy7,h⟩:=zAc h;refine⟨_,⟨_,hy7,rfl,rfl⟩,?_⟩
   refine zAh ?_;have hy:=osi h;subst hy;exact fin0 rfl rfl
  ·refine zAf ?_;refine zAa ?_;refine zZx [] [36] rfl ?_;intro n8 hn8;obtain rfl:=rlE (fun _=>rfl) a2 hn8;show Tri ..;obtain⟨fl,hl,ho1⟩:=zAc h;refine zF9 (fl:=fl) (fun z=>match z with | _=>⟨ofL [(1,.s (.sl 8 ((List.map zAk) a2))),(2,.s (.pt [.int .i64 a1A,.str a1C,.int .i64 a1D,.sl 4 (Nd.encs a1B)]))],fun _=>none,0⟩) ?_ (fun z σ' hz hle=>?_)
   ·refine zAi (zAy (X:=Nat×Int) (fun y=>match y with | (k,x9)=>⟨ofL [(1,.s (.sl 8 ((List.map zAk) a2))),(2,.s (.pt [.int .i64 a1A,.str a1C,.int .i64 a1D,.sl 4 (Nd.encs a1B)])),(35,.s (.sl 8 ((List.map zAk) a2))),(36,.s (.int .i64 (a2.length:Int))),(37,.s (.int .i64 x9))],fun _=>none,0⟩) (fun y=>zAL n a2 y.1 y.2=some fl) (fun y=>y.1) (n,0) hl ?_ ?_)
    ·exact Le.fgt
    ·rintro⟨k,x9⟩ h;cases k with
     | zero=>cases h
     | succ k =>
      replace h:zAL n a2 (k+1) x9=some fl:=h;rw[zAL]at h;refine yAD ?_;refine zAa ?_;refine zAm rfl h (fun hb h=>?_) (fun hb h=>?_)
      ·refine zAf ?_;refine zAa ?_;refine zAi ?_;refine zZx [6] [39] rfl ?_;obtain⟨⟨e10A,e10I,e10L,e10J,e10E,e10K,e10H,e10C⟩,he10,h⟩:=zAc h;refine And.intro (zAq (fun _=>rfl) he10).1 ?_;intro r11 hr11;obtain rfl:[.int .i64 e10A,.sl 1 ((List.map (irow .i64)) e10I),.int .i64 e10L,.int .i64 e10J,.sl 4 (Nd.encs e10E),.int .i64 e10K,.str e10H,.str e10C]=r11:=(hr11.trans (zAq (fun _=>rfl) he10).2.1).symm;show Tri ..
       refine zAj (Le.giveBox 0 [.int .i64 e10A,.sl 1 ((List.map (irow .i64)) e10I),.int .i64 e10L,.int .i64 e10J,.sl 4 (Nd.encs e10E),.int .i64 e10K,.str e10H,.str e10C] rfl rfl) ?_;refine zAa ?_;obtain⟨x12,hj,h⟩:=zAc h;refine zAn ⟨ofL [(1,.s (.sl 8 ((List.map zAk) a2))),(2,.s (.pt [.int .i64 a1A,.str a1C,.int .i64 a1D,.sl 4 (Nd.encs a1B)])),(35,.s (.sl 8 ((List.map zAk) a2))),(36,.s (.int .i64 (a2.length:Int))),(37,.s (.int .i64 x9)),(53,.s (.bool x12))],fun _=>none,0⟩ ?_ (fun σ' hle=>?_)
       ·replace h:=hj;refine zAb [] [44,49] rfl ?_;obtain⟨y13,hy13,h⟩:=zAc h;refine⟨_,⟨_,_,_,hy13,rfl,rfl⟩,?_⟩
        intro b hb;cases b with
        | true =>
         replace h:=zAw hb.symm h;intro b hb;subst hb;cases h;exact(Le.rnq [] _ [] 0)
        | false =>
         replace h:=zAv hb.symm h;intro b hb;cases b with
         | true =>
          replace h:=zAw hb.symm h;cases h;exact(Le.rnq [] _ [] 0)
         | false =>
          replace h:=zAv hb.symm h;cases h;exact(Le.rnq [] _ [] 0)
       ·refine zAj hle ?_;refine zAm rfl h (fun hb h=>?_) (fun hb h=>?_)
        ·refine yAD ?_;refine zAh ?_;cases h;replace h:some _=some _:=ho1;have hy:=osi h;subst hy;exact fin0 rfl rfl
        ·refine zAf ?_;refine yAC ?_;refine⟨(k,IntKind.i64.wrap (x9+1)),h,Le.fgt,Nat.lt_succ_self k⟩
      ·refine zAB ?_;cases h;exact⟨_,rfl,Le.fgt⟩
   ·subst hz;obtain _:=z;replace h:=ho1;refine zAj hle ?_;refine zZx [7] [] rfl ?_;obtain⟨⟨⟨y14A,y14C,y14D,y14B⟩,y15,y16⟩,hy14,h⟩:=zAc h;refine⟨_,⟨_,_,_,_,_,_,hy14,rfl,rfl⟩,?_⟩
    refine zAj (Le.giveBox 0 [.int .i64 y14A,.str y14C,.int .i64 y14D,.sl 4 (Nd.encs y14B)] rfl rfl) ?_;refine zAa ?_;refine yAD ?_;refine zAm rfl h (fun hb h=>?_) (fun hb h=>?_)
    ·refine yAD ?_;refine zAh ?_;have hy:=osi h;subst hy;exact fin0 rfl rfl
    ·refine zAf ?_;refine yAD ?_;obtain⟨⟨y17,y18⟩,hy17,h⟩:=zAc h;refine⟨_,⟨_,_,_,_,_,hy17,rfl,rfl⟩,?_⟩
     refine yAD ?_;obtain⟨⟨y19,y20⟩,hy19,h⟩:=zAc h;refine⟨_,⟨_,_,_,_,_,hy19,rfl,rfl⟩,?_⟩
     refine yAD ?_;obtain⟨⟨y21,y22⟩,hy21,h⟩:=zAc h;refine⟨_,⟨_,_,_,_,hy21,rfl,rfl⟩,?_⟩
     refine zZx [16] [] rfl ?_;obtain⟨⟨⟨y23A,y23C,y23D,y23B⟩,y24,y25⟩,hy23,h⟩:=zAc h;refine⟨_,⟨_,_,_,_,_,_,hy23,rfl,rfl⟩,?_⟩
     refine zAj (Le.giveBox 1 [.int .i64 y23A,.str y23C,.int .i64 y23D,.sl 4 (Nd.encs y23B)] rfl rfl) ?_;refine zAa ?_;refine zKb [19] [] [8,9] [] rfl (by decide +kernel) ?_;obtain⟨y26,hy26,h⟩:=zAc h;refine⟨_,⟨_,_,_,hy26,rfl,rfl⟩,?_⟩
     obtain⟨⟨⟨y27A,y27C,y27D,y27B⟩,y28,y29⟩,hy27,h⟩:=zAc h;refine⟨_,⟨_,_,_,_,_,_,hy27,rfl,rfl⟩,?_⟩
     refine zAj (Le.giveBox 2 [.int .i64 y27A,.str y27C,.int .i64 y27D,.sl 4 (Nd.encs y27B)] rfl rfl) ?_;refine zAa ?_;refine zAa ?_;obtain⟨x30,hj,h⟩:=zAc h
     refine zAn ⟨ofL [(2,.s (.pt [.int .i64 a1A,.str a1C,.int .i64 a1D,.sl 4 (Nd.encs a1B)])),(7,.s (.pt [.int .i64 y14A,.str y14C,.int .i64 y14D,.sl 4 (Nd.encs y14B)])),(12,.s (.int .i64 y19)),(14,.s (.int .i64 y21)),(16,.s (.pt [.int .i64 y23A,.str y23C,.int .i64 y23D,.sl 4 (Nd.encs y23B)])),(19,.s (.pt [.int .i64 y27A,.str y27C,.int .i64 y27D,.sl 4 (Nd.encs y27B)])),(113,.s (.bool x30))],fun _=>none,0⟩ ?_ (fun σ' hle=>?_)
     ·replace h:=hj;refine zAb [] [98,102,106,110] rfl ?_;intro b hb;cases b with
      | true =>
       replace h:=zAw hb.symm h;intro b hb;subst hb;intro b hb;subst hb;intro b hb;subst hb;cases h;exact(Le.rnq [] _ [] 0)
      | false =>
       replace h:=zAv hb.symm h;intro b hb;cases b with
       | true =>
        replace h:=zAw hb.symm h;intro b hb;subst hb;intro b hb;subst hb;cases h;exact(Le.rnq [] _ [] 0)
       | false =>
        replace h:=zAv hb.symm h;intro b hb;cases b with
        | true =>
         replace h:=zAw hb.symm h;intro b hb;subst hb;cases h;exact(Le.rnq [] _ [] 0)
        | false =>
         replace h:=zAv hb.symm h;intro b hb;cases b with
         | true =>
          replace h:=zAw hb.symm h;cases h;exact(Le.rnq [] _ [] 0)
         | false =>
          replace h:=zAv hb.symm h;cases h;exact(Le.rnq [] _ [] 0)
     ·refine zAj hle ?_;refine zAm rfl h (fun hb h=>?_) (fun hb h=>?_)
      ·refine yAD ?_;refine zAh ?_;have hy:=osi h;subst hy;exact fin0 rfl rfl
      ·refine zAf ?_;refine zAa ?_;obtain⟨x31,hj,h⟩:=zAc h;refine zAn ⟨ofL [(4,.s (.bool x31))],fun _=>none,0⟩ ?_ (fun σ' hle=>?_)
       ·replace h:=hj;refine zA0 [] [117,122,127] [] rfl (by decide +kernel) ?_;obtain⟨y32,hy32,h⟩:=zAc h;refine⟨_,⟨_,_,_,_,hy32,rfl,rfl⟩,?_⟩
        intro b hb;cases b with
        | true =>
         replace h:=zAw hb.symm h;obtain⟨y33,hy33,h⟩:=zAc h;refine⟨_,⟨_,_,_,_,hy33,rfl,rfl⟩,?_⟩
         intro b hb;cases b with
         | true =>
          replace h:=zAw hb.symm h;intro b hb;cases b with
          | true =>
           replace h:=zAw hb.symm h;obtain⟨y34,hy34,h⟩:=zAc h;refine⟨_,⟨_,_,_,hy34,rfl,rfl⟩,?_⟩
           obtain⟨y35,hy35,h⟩:=zAc h;refine⟨_,⟨_,_,_,hy35,rfl,rfl⟩,?_⟩
           cases h;exact Le.fgt
          | false =>
           replace h:=zAv hb.symm h;cases h;exact Le.fgt
         | false =>
          replace h:=zAv hb.symm h;intro b hb;subst hb;cases h;exact Le.fgt
        | false =>
         replace h:=zAv hb.symm h;intro b hb;subst hb;intro b hb;subst hb;cases h;exact Le.fgt
       ·refine zAj hle ?_;refine zAh ?_;have hy:=osi h;subst hy;exact fin0 rfl rfl
theorem zYc {n:Nat}{ss:List S} (h:Typed T n 24 ss):∃ t:Nd,ss=t.enc/\t.rng :=
 zOX (T:=T) (e:=24) (s:=22) (ki:=3) (st:=9) rfl rfl rfl rfl rfl rfl rfl rfl rfl n h
theorem zS3 {n t:Nat}{ss:List S} (h:Typed T n 22 ss):∃ l:List Nd,ss=[.sl 4 (Nd.encs l)]/\Nd.rngs l:=by
 obtain⟨m,rows,rfl,rfl,_,hr⟩:=zG3 (T:=T) (e:=24) rfl rfl h;obtain⟨ks,rfl,hks⟩:=zMi (f:=Nd.enc) (q:=Nd.rng) (l:=rows) fun r hr'=>zOX (T:=T) (e:=24) (s:=22) (ki:=3) (st:=9) rfl rfl rfl rfl rfl rfl rfl rfl rfl m (hr r hr')
 exact⟨ks,by rw[Nd.encs_eq]; rfl,Nd.rngAll hks⟩
theorem zYd {n:Nat}{ss:List S} (h:Typed T n 30 ss):∃ o:zO8,ss=zAk o/\True:=by
 obtain⟨m,rfl,a0,q0,rfl,u0,a1,q1,rfl,u1,a2,q2,rfl,u2,a3,q3,rfl,u3,a4,q4,rfl,u4,a5,q5,rfl,u5,a6,q6,rfl,u6,a7,q7,rfl,u7,rfl⟩:=zLk (T:=T) (t:=30) rfl rfl h;obtain⟨x0,rfl,_⟩:=zFP (T:=T) (k:=.i64) rfl rfl u0;obtain⟨x1,rfl,_⟩:=zUO (T:=T) (k:=.i64) (e:=3) rfl rfl rfl rfl u1;obtain⟨x2,rfl,_⟩:=zFP (T:=T) (k:=.i64) rfl rfl u2;obtain⟨x3,rfl,_⟩:=zFP (T:=T) (k:=.i64) rfl rfl u3;obtain⟨x4,rfl,_⟩:=zS3 (t:=0) u4;obtain⟨x5,rfl,_⟩:=zFP (T:=T) (k:=.i64) rfl rfl u5;obtain⟨x6,rfl,_⟩:=zNu (T:=T) rfl rfl u6;obtain⟨x7,rfl,_⟩:=zNu (T:=T) rfl rfl u7
 exact⟨(x0,x1,x2,x3,x4,x5,x6,x7),rfl,trivial⟩
theorem zWK {n:Nat}{ss:List S} (h:Typed T n 25 ss):∃ l:List zO8,ss=[.sl 8 (l.map zAk)]:=by
 obtain⟨m,rows,rfl,rfl,_,hr⟩:=zG3 (T:=T) (e:=30) rfl rfl h;obtain⟨ks,rfl,hks⟩:=zMi (f:=zAk) (q:=fun _=>True) (l:=rows) fun r hr'=>zYd (hr r hr')
 exact⟨ks,rfl⟩
theorem zS8 {α:Type}{f:α->List S}:∀ {l:List α}{x:α},x∈l->zDR (f x)<=zEe (l.map f)
 | y::l,x,h=>by
  simp only[List.map_cons,zEe]
  rcases List.mem_cons.1 h with rfl | h
  ·omega
  ·have:=zS8 (f:=f) h; omega
theorem zZe (o:zO8):Nd.ws o.2.2.2.2.1+o.2.2.2.2.2.2.2.length+o.2.1.length<=zDR (zAk o):=by
 have h1:=Nd.ws_bulk o.2.2.2.2.1;have h2:=zU8 .i64 o.2.1;simp only[zAk,zDR,S.bulk]
 omega
theorem zBs {φ:Prop} [Decidable φ] (h:φ):decide φ=true:=decide_eq_true h
theorem zBn {φ:Prop} [Decidable φ] (h:¬ φ):decide φ=false:=decide_eq_false h
def scnt:List (Nd×Int)->Nat
 | []=>0
 | p::l=>p.1.cnt+scnt l
theorem zI1:∀ a b:List (Nd×Int),scnt (a++b)=scnt a+scnt b
 | [],b=>by simp[scnt]
 | v::a,b=>by simp only[List.cons_append,scnt,zI1 a b]; omega
theorem zP7:∀ a:List (Nd×Int),a.length<=scnt a
 | []=>Nat.le_refl _
 | v::a=>by have:=zP7 a; have:=v.1.cnt_pos; simp only[scnt,List.length_cons]; omega
theorem zOn {ks:List Nd}{d:Int}:∀ (k i:Nat) (l:List (Nd×Int)),ks.length - i<k->i<=ks.length->scnt l+Nd.cnts (ks.drop i)<=1073741824->ks.length<=1073741824 ->
  ∃ l',zCz ks d k (i:Int) l=some l'/\scnt l'=scnt l+Nd.cnts (ks.drop i)
 | 0,_,_,h,_,_,_=>by omega
 | k+1,i,l,hk,hi,ho,hl=>by
  unfold zCz
  by_cases h:i<ks.length
  ·rw[zBs (Int.ofNat_lt.2 h),cond_true,zBJ h]
   have hd:=Nd.cnts_drop h;rcases e:ks[i] with ⟨a,b,c,e4⟩
   rw[e]at hd;have hp:=(Nd.mk a b c e4).cnt_pos;have hll:=zP7 l;simp only[obs]
   rw[zCs (by simp only[List.length_singleton]; omega),zAP (by omega)]
   have hs:scnt (l++[(Nd.mk a b c e4,IntKind.i64.wrap (d+1))])=scnt l+(Nd.mk a b c e4).cnt :=(by rw[zI1]; simp[scnt]);obtain⟨l',h1,h2⟩:=zOn (ks:=ks) (d:=d) k (i+1) (l++[(Nd.mk a b c e4,IntKind.i64.wrap (d+1))]) (by omega) (by omega) (by omega) hl;exact⟨l',h1,by omega⟩
  ·rw[zBn (by omega),cond_false]
   obtain rfl:i=ks.length :=(by omega);exact⟨l,rfl,by simp[Nd.cnts]⟩
theorem zOm (n:Nat):∀ (k:Nat) (x:Nat) (l:List (Nd×Int)),scnt l<k->scnt l<n->x+scnt l<=67108864->zCy n k (x:Int) l=some ((x+scnt l:Nat):Int)
 | 0,_,_,h,_,_=>by omega
 | k+1,x,l,hk,hn,hx=>by
  unfold zCy;rcases List.eq_nil_or_concat l with rfl | ⟨l,p,rfl⟩
  ·simp[scnt]
  ·rw[List.concat_eq_append]at *;obtain⟨⟨a,b,c,ks⟩,d⟩:=p;have hs:scnt (l++[(Nd.mk a b c ks,d)])=scnt l+(Nd.cnts ks+1) :=(by rw[zI1]; simp[scnt,Nd.cnt]);have hll:=zP7 l;have hlk:=Nd.cnts_len ks;have hlen:((l++[(Nd.mk a b c ks,d)]).length:Int)=(l.length:Int)+1 :=(by simp);have hw:IntKind.i64.wrap (((l++[(Nd.mk a b c ks,d)]).length:Int) - 1)=(l.length:Int) :=(by rw[hlen,wrap64_in (by omega) (by omega)]; omega);rw[zBs (by omega),cond_true,hw,zBJ (by simp)]
   simp only[List.getElem_concat_length,obs]
   rw[zCs (by omega)]
   simp only[zEO,obs,Int.toNat_natCast,List.take_left]
   obtain⟨l',h1,h2⟩:=zOn (ks:=ks) (d:=d) n 0 l (by omega) (by omega) (by simp; omega) (by omega)
   rw[List.drop_zero]at h2;rw[show((0:Nat):Int)=0 from rfl]at h1;rw[h1,obs,zAP (by omega),zOm n k (x+1) l' (by omega) (by omega) (by omega)]
   congr 2; omega
theorem zJH (n:Nat) (t:Nd) (h:t.cnt<n) (hb:t.cnt<=67108864):zD6 n t=some (t.cnt:Int):=by
 obtain⟨a,b,c,ks⟩:=t;have:=zOm n n 0 [(.mk a b c ks,1)] (by simpa [scnt] using h) (by simpa [scnt] using h) (by simp only[scnt]; omega)
 rw[show((0:Nat):Int)=0 from rfl]at this;simp only[zD6,zGV,this,obs,scnt]
 congr 2; omega
theorem zRn {F:Nd->Int->Option Int}{ks:List Nd}{b:Nat} (hF:∀ (v:Nd) (m:Nat),m<=b->∃ r,F v (m:Int)=some r/\-1<=r/\r<m/\(0<=r->r+v.cnt=m)) :
  ∀ (k i:Nat) (m:Int),m+1<k->-1<=m->m<=b->i<=ks.length->(i:Int)+m<4611686018427387904->∃ r,zCr F ks k m (i:Int)=some r/\-1<=r/\r<=m/\(0<=r->r+Nd.cnts (ks.drop i)=m)
 | 0,_,_,h,_,_,_,_=>by omega
 | k+1,i,m,hk,hm,hb,hi,hx=>by
  unfold zCr
  by_cases h:i<ks.length
  ·rw[zBs (Int.ofNat_lt.2 h),cond_true]
   simp only[obs]
   by_cases h0:0<=m
   ·rw[zBs h0,cond_true,zBJ h]
    have hd:=Nd.cnts_drop h;rcases e:ks[i] with ⟨e1,e2,e3,e4⟩
    rw[e]at hd;simp only[obs]
    obtain⟨m',rfl⟩:=Int.eq_ofNat_of_zero_le h0;obtain⟨r,h1,h2,h3,h4⟩:=hF (.mk e1 e2 e3 e4) m' (by omega)
    rw[h1,obs,zAP (by omega)]
    obtain⟨r',g1,g2,g3,g4⟩:=zRn (ks:=ks) hF k (i+1) r (by omega) h2 (by omega) (by omega) (by omega)
    exact⟨r',g1,g2,by omega,fun g=>by have:=g4 g; have:=h4 (by omega); omega⟩
   ·rw[zBn h0,cond_false]
    exact⟨m,rfl,hm,Int.le_refl _,fun g=>by omega⟩
  ·rw[zBn (by omega),cond_false]
   simp only[obs,cond_false]
   obtain rfl:i=ks.length :=(by omega);exact⟨m,rfl,hm,Int.le_refl _,fun _=>by simp[Nd.cnts]⟩
theorem left_eq:∀ (n:Nat) (t:Nd) (m:Nat),m+1<n->m<=67108864->∃ r,zDB n t (m:Int)=some r/\-1<=r/\r<m/\(0<=r->r+t.cnt=m)
 | 0,_,_,h,_=>by omega
 | n+1,.mk a b c ks,m,h,hm=>by
  unfold zDB;rw[wrap64_in (by omega) (by omega)]
  cases m with
  | zero =>
   cases n with
   | zero=>omega
   | succ n =>
    refine⟨-1,?_,by omega,by omega,fun h=>by omega⟩
    unfold zCr;cases decide (((0:Nat):Int)<(ks.length:Int)) <;> simp <;> rfl
  | succ m =>
   obtain⟨r,h1,h2,h3,h4⟩:=zRn (F:=zDB n) (ks:=ks) (b:=m) (fun v q hq=>left_eq n v q (by omega) (by omega)) n 0 (m:Int) (by omega) (by omega) (by omega) (by omega) (by omega)
   rw[show((0:Nat):Int)=0 from rfl]at h1;rw[show((m+1:Nat):Int) - 1=(m:Int) by omega,h1]
   exact⟨r,rfl,h2,by omega,fun g=>by have:=h4 g; rw[List.drop_zero]at this; simp only[Nd.cnt]; omega⟩
theorem zYl (n:Nat) (t:Nd) (m:Nat) (h:m+1<n) (hm:m<=67108864):∃ b,zGD n t (m:Int)=some b/\(b=true->t.cnt<=m):=by
 obtain⟨a,b,c,ks⟩:=t;obtain⟨r,h1,h2,h3,h4⟩:=left_eq n (.mk a b c ks) m h hm;refine⟨decide (0<=r),by simp[zGD,h1],fun g=>by have g0:=of_decide_eq_true g; have:=h4 g0; omega⟩
def zT8 {α:Type} (p:α->Bool) (l:List α):Fl Bool Unit:=if l.all p then .go () else .ret false
theorem zW1 {α:Type}{p:α->Bool}{l:List α}{i:Nat} (h:i<l.length):(l.drop i).all p=(p l[i]&&(l.drop (i+1)).all p):=by
 rw[List.drop_eq_getElem_cons h]; rfl
theorem zLI {α:Type}{p:α->Bool}{l:List α} (L:Nat->Int->Option (Fl Bool Unit)) (hb:l.length<=1073741824)
  (h1:∀ (k i:Nat) (h:i<l.length),L (k+1) (i:Int)=if p l[i] then L k (((i+1:Nat)):Int) else some (.ret false)) (h2:∀ k,L (k+1) (l.length:Int)=some (.go ())) :
  ∀ (k i:Nat),l.length - i<k->i<=l.length->L k (i:Int)=some (zT8 p (l.drop i))
 | 0,_,h,_=>by omega
 | k+1,i,hk,hi=>by
  by_cases h:i<l.length
  ·rw[h1 k i h,zLI L hb h1 h2 k (i+1) (by omega) (by omega)]
   unfold zT8;rw[zW1 h]
   cases p l[i] <;> simp
  ·obtain rfl:i=l.length :=(by omega);rw[h2]; simp[zT8]
theorem zWL {P:UInt8->Bool} (h:(List.range 256).all (fun n=>P n.toUInt8)=true) (b:UInt8):P b=true:=by
 have:P (UInt8.ofNat b.toNat)=true:=List.all_eq_true.1 h b.toNat (List.mem_range.2 b.toNat_lt)
 rwa [UInt8.ofNat_toNat]at this
def zGj (b:UInt8):Bool:=(decide (97<=b.toNat)&&decide (b.toNat<=122))||(decide (65<=b.toNat)&&decide (b.toNat<=90))
def zEg (b:UInt8):Bool:=decide (48<=b.toNat)&&decide (b.toNat<=57)
def zJX (b:UInt8):Bool:=decide (32<=b.toNat)&&decide (b.toNat<=126)
theorem zQK (b:UInt8):(bif decide ((zKm .or .u8 (b.toNat:Int) 32)<97) then some true else some (decide (122<(zKm .or .u8 (b.toNat:Int) 32))))=some (!zGj b) :=
 of_decide_eq_true (zWL (P:=fun b=>decide ((bif decide ((zKm .or .u8 (b.toNat:Int) 32)<97) then some true else some (decide (122<(zKm .or .u8 (b.toNat:Int) 32))))=some (!zGj b))) (by decide +kernel) b)
theorem zMS (n:Nat) (s:List UInt8) (h:s.length<n) (hb:s.length<=1073741824):zDb n s=some (s.all zGj):=by
 have:=zLI (p:=zGj) (l:=s) (zBu s) hb (fun k i h=>by
  rw[zBu,zBs (Int.ofNat_lt.2 h),cond_true,zBJ h]
  simp only[obs,zQK]
  rw[zAP (by omega)]
  cases zGj s[i] <;> rfl) (fun k=>by rw[zBu,zBn (by omega)]; rfl) n 0 (by omega) (by omega)
 rw[show((0:Nat):Int)=0 from rfl,List.drop_zero]at this;rw[zDb,this]
 unfold zT8;cases s.all zGj <;> rfl
theorem zGl (n:Nat) (s:List UInt8) (h:s.length<n) (hb:s.length<=1073741824):zDA n s=some (s.all zEg&&!(s == [])):=by
 have:=zLI (p:=zEg) (l:=s) (zBI s) hb (fun k i h=>by
  rw[zBI,zBs (Int.ofNat_lt.2 h),cond_true,zBJ h]
  simp only[obs]
  rw[zAP (by omega)]
  unfold zEg
  by_cases a:48<=s[i].toNat
  ·by_cases b:s[i].toNat<=57
   ·simp[a,b,show ¬ ((s[i].toNat:Int)<48) by omega,show ¬ (57<(s[i].toNat:Int)) by omega]
   ·simp[a,b,show ¬ ((s[i].toNat:Int)<48) by omega,show(57<(s[i].toNat:Int)) by omega]
  ·simp[a,show((s[i].toNat:Int)<48) by omega]) (fun k=>by rw[zBI,zBn (by omega)]; rfl) n 0 (by omega) (by omega)
 rw[show((0:Nat):Int)=0 from rfl,List.drop_zero]at this;rw[zDA,this]
 unfold zT8;cases s.all zEg <;> rfl
theorem zV9 (b:UInt8):(bif decide ((b.toNat:Int)<32) then some true else some (decide (126<(b.toNat:Int))):Option Bool)=some (!zJX b):=by
 unfold zJX
 by_cases a:32<=b.toNat
 ·by_cases c:b.toNat<=126
  ·simp[a,c,show ¬ ((b.toNat:Int)<32) by omega,show ¬ (126<(b.toNat:Int)) by omega]
  ·simp[a,c,show ¬ ((b.toNat:Int)<32) by omega,show(126<(b.toNat:Int)) by omega]
 ·simp[a,show((b.toNat:Int)<32) by omega]
theorem zPK (n:Nat) (s:List UInt8) (h:s.length<n) (hb:s.length<=1073741824):zEZ n s=some (s.all zJX&&decide ((s.length:Int)<=200)):=by
 have:=zLI (p:=zJX) (l:=s) (zBO s) hb (fun k i h=>by
  rw[zBO,zBs (Int.ofNat_lt.2 h),cond_true,zBJ h]
  simp only[obs,zV9]
  rw[zAP (by omega)]
  cases zJX s[i] <;> rfl) (fun k=>by rw[zBO,zBn (by omega)]; rfl) n 0 (by omega) (by omega)
 rw[show((0:Nat):Int)=0 from rfl,List.drop_zero]at this;rw[zEZ,this]
 unfold zT8;cases s.all zJX <;> rfl
def spL:List UInt8:=[43,45,42,47,61,60,62,44,59,58,33,124,39,63,126,64]
def fsL:List UInt8:=[40,41,91,93,123,125,60,62,47,124,46]
def kwL:List (List UInt8):=[[102,114,97,99],[114,111,111,116],[109,97,116,114,105,120],[102,101,110,99,101]]
def acL:List (List UInt8):=[[104,97,116],[98,97,114],[118,101,99],[100,111,116],[116,105,108,100,101],[99,104,101,99,107]]
def spB (c:UInt8):Bool:=decide (0<=Lib.indexByte spL c)
def fsB (c:UInt8):Bool:=decide (0<=Lib.indexByte fsL c)
theorem zW4 (c:UInt8):Lib.indexByte fsL ((c.toNat:Int).toNat.toUInt8)=Lib.indexByte fsL c:=by
 rw[Int.toNat_natCast]; congr 1; exact UInt8.ofNat_toNat
theorem zMp (e s:List UInt8):(e == s)=(s == e):=by
 rw[Bool.eq_iff_iff]; simp only[beq_iff_eq]; exact eq_comm
theorem zMR (s:List UInt8):zDM s=some (kwL.any fun e=>e == s):=by
 simp only[zDM,kwL,List.any_cons,List.any_nil,zMp [102,114,97,99] s,zMp [114,111,111,116] s,zMp [109,97,116,114,105,120] s,zMp [102,101,110,99,101] s]
 generalize (s == [102,114,97,99])=b1;generalize (s == [114,111,111,116])=b2;generalize (s == [109,97,116,114,105,120])=b3;generalize (s == [102,101,110,99,101])=b4;cases b1 <;> cases b2 <;> cases b3 <;> cases b4 <;> rfl
theorem zIB (s:List UInt8):zDz s=some (acL.any fun e=>e == s):=by
 simp only[zDz,acL,List.any_cons,List.any_nil,zMp [104,97,116] s,zMp [98,97,114] s,zMp [118,101,99] s,zMp [100,111,116] s,zMp [116,105,108,100,101] s,zMp [99,104,101,99,107] s]
 generalize (s == [104,97,116])=b1;generalize (s == [98,97,114])=b2;generalize (s == [118,101,99])=b3;generalize (s == [100,111,116])=b4;generalize (s == [116,105,108,100,101])=b5;generalize (s == [99,104,101,99,107])=b6;cases b1 <;> cases b2 <;> cases b3 <;> cases b4 <;> cases b5 <;> cases b6 <;> rfl
def symB (s:List UInt8):Bool :=
 if s.length=1 then s.all zGj||s.all spB
 else s.all zGj&&(decide (2<=s.length)&&(decide (s.length<=16)&&(!(kwL.any fun e=>e == s)&&!(acL.any fun e=>e == s))))
theorem len1 (s:List UInt8):((s.length:Int) == 1)=decide (s.length=1):=by
 by_cases h:s.length=1
 ·simp[h]
 ·rw[zBn h]
  cases e:((s.length:Int) == 1) with
  | false=>rfl
  | true=>have:=eq_of_beq e; omega
theorem zPi (a b:Nat):decide ((a:Int)<=(b:Int))=decide (a<=b):=by
 by_cases h:a<=b
 ·rw[zBs h,zBs (by omega)]
 ·rw[zBn h,zBn (by omega)]
theorem zNL (n:Nat) (s:List UInt8) (h:s.length+40<n) (hb:s.length<=1073741824):zEp n s=some (symB s):=by
 rw[zEp,len1,zMS n s (by omega) hb]
 unfold symB
 by_cases h1:s.length=1
 ·rw[zBs h1,if_pos h1]
  obtain⟨c,rfl⟩:=List.length_eq_one_iff.1 h1;have:zEq [43,45,42,47,61,60,62,44,59,58,33,124,39,63,126,64] [c]=some (spB c):=rfl;simp only[cond_true,obs,this,List.all_cons,List.all_nil,Bool.and_true]
  cases zGj c <;> rfl
 ·rw[zBn h1,if_neg h1]
  have e2:=zPi 2 s.length;have e16:=zPi s.length 16;rw[show((2:Nat):Int)=2 from rfl]at e2;rw[show((16:Nat):Int)=16 from rfl]at e16;simp only[cond_false,obs,zMR,zIB,e2,e16]
  cases s.all zGj <;> cases decide (2<=s.length) <;> cases decide (s.length<=16) <;> cases(kwL.any fun e=>e == s) <;> rfl
def fenB (s:List UInt8):Bool:=decide (s.length=2)&&s.all fsB
theorem len2 (s:List UInt8):((s.length:Int) == 2)=decide (s.length=2):=by
 by_cases h:s.length=2
 ·simp[h]
 ·rw[zBn h]
  cases e:((s.length:Int) == 2) with
  | false=>rfl
  | true=>have:=eq_of_beq e; omega
theorem zPJ (s:List UInt8):zEY s=some (fenB s):=by
 rw[zEY,len2]
 unfold fenB
 by_cases h1:s.length=2
 ·rw[zBs h1]
  match s,h1 with
  | [c,d],_ =>
   have e0:at? [c,d] (0:Int)=some c:=rfl;have e1:at? [c,d] (1:Int)=some d:=rfl;have f:∀ c:UInt8,zCY [40,41,91,93,123,125,60,62,47,124,46] (c.toNat:Int)=some (Lib.indexByte fsL c):=fun c=>congrArg some (zW4 c)
   have g:∀ c:UInt8,decide (0<=Lib.indexByte fsL c)=fsB c:=fun c=>rfl
   simp only[cond_true,e0,e1,f,obs,g,List.all_cons,List.all_nil,Bool.and_true,Bool.true_and]
   cases fsB c <;> rfl
 ·rw[zBn h1]; rfl
def okL (L:Nat):Nat->List UInt8->Bool
 | _,[]=>true
 | i,c::r=>((c == 46&&(decide (0<i)&&decide (i+1<L)))||zEg c)&&okL L (i+1) r
def numB (s:List UInt8):Bool:=okL s.length 0 s&&(decide (0<s.length)&&(decide (s.length<=20)&&decide (s.count 46<=1)))
theorem zZR:zEg 46=false:=by decide
theorem zQQ:∀ s:List UInt8,(s.count 46=0/\Lib.indexByte s 46 = -1)∨∃ a b,s=a++46::b/\a.count 46=0/\Lib.indexByte s 46=(a.length:Int)
 | []=>.inl ⟨rfl,rfl⟩
 | c::s=>by
  by_cases h:c=46
  ·subst h;exact .inr ⟨[],s,rfl,rfl,by simp[Lib.indexByte]⟩
  ·have hc:(c == 46)=false :=(by simpa using h);rcases zQQ s with ⟨h1,h2⟩ | ⟨a,b,rfl,h1,h2⟩
   ·exact .inl ⟨by rw[List.count_cons,h1,hc]; rfl,by simp[Lib.indexByte,hc,h2]⟩
   ·refine .inr ⟨c::a,b,rfl,by rw[List.count_cons,h1,hc]; rfl,?_⟩
    have h3:((a.length:Int) == -1)=false:=by
     cases e:((a.length:Int) == -1) with
     | false=>rfl
     | true=>have:=eq_of_beq e; omega
    simp[Lib.indexByte,hc,h2,h3]
theorem zHH (L:Nat):∀ (i:Nat) (a:List UInt8),a.count 46=0->okL L i a=a.all zEg
 | _,[],_=>rfl
 | i,c::a,h=>by
  have hc:(c == 46)=false:=by
   cases e:c == 46 with
   | false=>rfl
   | true=>rw[List.count_cons,e]at h; simp at h
  rw[List.count_cons,hc]at h;rw[okL,hc,zHH L (i+1) a (by simpa using h)]
  simp
theorem zOA (L:Nat):∀ (i:Nat) (a b:List UInt8),okL L i (a++b)=(okL L i a&&okL L (i+a.length) b)
 | _,[],b=>by simp[okL]
 | i,c::a,b=>by
  simp only[List.cons_append,okL,zOA L (i+1) a b,List.length_cons,Bool.and_assoc,show i+1+a.length=i+(a.length+1) by omega]
theorem zPq:∀ a:List UInt8,a.all zEg=true->a.count 46=0
 | [],_=>rfl
 | c::a,h=>by
  simp only[List.all_cons,Bool.and_eq_true]at h;have hc:(c == 46)=false:=by
   cases e:c == 46 with
   | false=>rfl
   | true=>obtain rfl:c=46:=eq_of_beq e; simp[zZR]at h
  rw[List.count_cons,hc,zPq a h.2]; rfl
theorem zZc (a b:List UInt8) (ha:a.count 46=0):numB (a++46::b)=(decide ((a++46::b).length<=20)&&((a.all zEg&&!(a == []))&&(b.all zEg&&!(b == [])))):=by
 unfold numB;have hl:(a++46::b).length=a.length+(b.length+1) :=(by simp);rw[zOA,zHH _ _ a ha,hl]
 simp only[okL,zZR,Bool.or_false,List.count_append,List.count_cons,ha,beq_self_eq_true,Bool.true_and,if_true,Nat.zero_add]
 have e1:decide (0<a.length) = !(a == []) :=(by cases a <;> rfl);have e2:decide (a.length+1<a.length+(b.length+1)) = !(b == []):=by
  cases b with
  | nil=>simp
  | cons c b=>simp
 have e3:decide (0<a.length+(b.length+1))=true:=zBs (by omega)
 rw[e1,e2,e3]
 cases hb:b.all zEg with
 | true =>
  rw[zHH _ _ b (zPq b hb),hb,zPq b hb]
  cases a.all zEg <;> cases a == [] <;> cases b == [] <;> cases decide (a.length+(b.length+1)<=20) <;> rfl
 | false =>
  cases hc:decide (b.count 46+1<=1) with
  | true =>
   have:b.count 46=0 :=(by have:=of_decide_eq_true hc; omega);rw[zHH _ _ b this,hb]
   cases a.all zEg <;> cases a == [] <;> cases b == [] <;> cases decide (a.length+(b.length+1)<=20) <;> rfl
  | false =>
   generalize okL _ _ b=z;cases z <;> cases a.all zEg <;> cases a == [] <;> cases b == [] <;> cases decide (a.length+(b.length+1)<=20) <;> rfl
theorem zVV (s:List UInt8) (h:s.count 46=0):numB s=(decide (s.length<=20)&&(s.all zEg&&!(s == []))):=by
 unfold numB;rw[zHH _ _ s h,h]
 have e1:decide (0<s.length) = !(s == []) :=(by cases s <;> rfl);rw[e1]
 cases s.all zEg <;> cases s == [] <;> cases decide (s.length<=20) <;> rfl
theorem zNK (n:Nat) (s:List UInt8) (h:s.length<n) (hb:s.length<=1073741824):zDy n s=some (numB s):=by
 have e20:=zPi s.length 20;rw[show((20:Nat):Int)=20 from rfl]at e20;have hi:zCZ s [46]=some (Lib.indexByte s 46):=rfl;rcases zQQ s with ⟨h1,h2⟩ | ⟨a,b,rfl,h1,h2⟩
 ·rw[zVV s h1]
  simp only[zDy,zEr,zCO,hi,h2,obs,show decide ((0:Int)<=-1)=false from rfl,cond_false,e20,zGl n s h hb]
  cases decide (s.length<=20) <;> cases(s.all zEg&&!(s == [])) <;> rfl
 ·have hl:(a++46::b).length=a.length+(b.length+1) :=(by simp);rw[zZc a b h1]
  have w1:IntKind.i64.wrap ((a.length:Int)+(([46]:List UInt8).length:Int))=((a.length+1:Nat):Int):=zAP (by omega)
  have t1:((a++46::b).take ((a.length:Int)).toNat).drop (0:Int).toNat=a :=(by simp);have t2:((a++46::b).take (((a++46::b).length:Int)).toNat).drop (((a.length+1:Nat):Int)).toNat=b:=by
   rw[Int.toNat_natCast,Int.toNat_natCast,List.take_length,List.drop_append]
   simp
  simp only[zDy,zEr,zCO,hi,h2,obs,w1]
  rw[zBs (by omega),cond_true,zCs (by omega),zCs (by omega),t1,t2]
  simp only[obs,e20,zGl n a (by omega) (by omega),zGl n b (by omega) (by omega)]
  cases decide ((a++46::b).length<=20) <;> cases(a.all zEg&&!(a == [])) <;> cases(b.all zEg&&!(b == [])) <;> rfl
def Nd.kind:Nd->Int | .mk k _ _ _=>k
def zJ9 (k:Int) (t:List UInt8):Bool :=
 if k=2 then symB t else if k=3 then numB t else if k=4 then (decide (t.length<=200)&&t.all zJX) else if k=10 then acL.any (fun e=>e == t) else if k=11 then fenB t else t == []
def zML (k c:Int) (m:Int):Bool :=
 if k=12 then decide (1<=c)&&(decide (c<=16)&&(decide (1<=m)&&(decide (m<=256)&&(m.tmod c == 0))))
 else (c == 0)&&(if k=1 then decide (m<=200) else if k=2 then m == 0 else if k=3 then m == 0 else if k=4 then m == 0 else if k=5 then m == 2 else if k=6 then m == 2 else if k=7 then m == 2 else if k=8 then m == 2
  else if k=9 then m == 3 else if k=10 then m == 1 else if k=11 then m == 1 else false)
mutual
def zCJ:Nd->Bool
 | .mk k t c ks=>(zJ9 k t&&zML k c (ks.length:Int))&&zBo k ks
def zBo:Int->List Nd->Bool
 | _,[]=>true
 | k,v::vs=>(!((v.kind == 1) == (k == 1))&&zCJ v)&&zBo k vs
end
mutual
def Nd.dep:Nd->Nat
 | .mk _ _ _ ks=>Nd.deps ks+1
def Nd.deps:List Nd->Nat
 | []=>0
 | v::vs=>Nat.max v.dep (Nd.deps vs)
end
theorem zUl {k:Int}{a:List Nd}{i:Nat} (h:i<a.length):zBo k (a.drop i)=((!((a[i].kind == 1) == (k == 1))&&zCJ a[i])&&zBo k (a.drop (i+1))):=by
 rw[List.drop_eq_getElem_cons h]; rfl
theorem zVu {a:List Nd}{i:Nat} (h:i<a.length):Nd.deps (a.drop i)=Nat.max (a[i]).dep (Nd.deps (a.drop (i+1))):=by
 rw[List.drop_eq_getElem_cons h]; rfl
theorem Nd.dep_pos:∀ v:Nd,1<=v.dep
 | .mk _ _ _ ks=>by simp only[Nd.dep]; omega
mutual
theorem Nd.cnt_w:∀ v:Nd,v.cnt<=v.w
 | .mk _ t _ ks=>by have:=Nd.cnts_ws ks; simp only[Nd.cnt,Nd.w]; omega
theorem Nd.cnts_ws:∀ vs:List Nd,Nd.cnts vs<=Nd.ws vs
 | []=>Nat.le_refl _
 | v::vs=>by have:=Nd.cnt_w v; have:=Nd.cnts_ws vs; simp only[Nd.cnts,Nd.ws]; omega
end
theorem zDq {a b:Int} (h:a ≠ b):(a == b)=false:=by
 cases e:(a == b) with
 | false=>rfl
 | true=>exact absurd (eq_of_beq e) h
theorem kinds (k:Int):k=1∨k=2∨k=3∨k=4∨k=5∨k=6∨k=7∨k=8∨k=9∨k=10∨k=11∨k=12∨(k<1∨12<k):=by omega
theorem zZ7 (n:Nat) (x:Int) (k:Int) (t:List UInt8) (c:Int) (ks:List Nd) (h:t.length+40<n) (hb:t.length<=1073741824) :
  zCq n ((),x) (.mk k t c ks)=some (zJ9 k t&&zML k c (ks.length:Int),((),x)):=by
 have e200:=zPi t.length 200;rw[show((200:Nat):Int)=200 from rfl]at e200;unfold zCq;dsimp only;generalize (ks.length:Int)=m;have em:zCb t=some (t == []):=rfl;rcases kinds k with rfl | rfl | rfl | rfl | rfl | rfl | rfl | rfl | rfl | rfl | rfl | rfl | h
 ·simp only[em]
  show _=some ((t == [])&&((c == 0)&&decide (m<=200)),((),x))
  cases t == [] <;> cases c == 0 <;> rfl
 ·simp only[zNL n t h hb]
  show _=some (symB t&&((c == 0)&&(m == 0)),((),x))
  cases symB t <;> cases c == 0 <;> rfl
 ·simp only[zNK n t (by omega) hb]
  show _=some (numB t&&((c == 0)&&(m == 0)),((),x))
  cases numB t <;> cases c == 0 <;> rfl
 ·simp only[zPK n t (by omega) hb,e200]
  show _=some ((decide (t.length<=200)&&t.all zJX)&&((c == 0)&&(m == 0)),((),x))
  cases decide (t.length<=200) <;> cases t.all zJX <;> cases c == 0 <;> rfl
 ·simp only[em]
  show _=some ((t == [])&&((c == 0)&&(m == 2)),((),x))
  cases t == [] <;> cases c == 0 <;> rfl
 ·simp only[em]
  show _=some ((t == [])&&((c == 0)&&(m == 2)),((),x))
  cases t == [] <;> cases c == 0 <;> rfl
 ·simp only[em]
  show _=some ((t == [])&&((c == 0)&&(m == 2)),((),x))
  cases t == [] <;> cases c == 0 <;> rfl
 ·simp only[em]
  show _=some ((t == [])&&((c == 0)&&(m == 2)),((),x))
  cases t == [] <;> cases c == 0 <;> rfl
 ·simp only[em]
  show _=some ((t == [])&&((c == 0)&&(m == 3)),((),x))
  cases t == [] <;> cases c == 0 <;> rfl
 ·simp only[zIB]
  show _=some ((acL.any fun e=>e == t)&&((c == 0)&&(m == 1)),((),x))
  cases(acL.any fun e=>e == t) <;> cases c == 0 <;> rfl
 ·simp only[zPJ]
  show _=some (fenB t&&((c == 0)&&(m == 1)),((),x))
  cases fenB t <;> cases c == 0 <;> rfl
 ·simp only[em]
  show _=some ((t == [])&&(decide (1<=c)&&(decide (c<=16)&&(decide (1<=m)&&(decide (m<=256)&&(m.tmod c == 0))))),((),x))
  by_cases h1:1<=c
  ·rw[zBs h1,zCs (by omega)]
   generalize (m.tmod c == 0)=y;cases t == [] <;> cases decide (c<=16) <;> cases decide (1<=m) <;> cases decide (m<=256) <;> rfl
  ·rw[zBn h1]
   cases t == [] <;> rfl
 ·have f:∀ i:Int,1<=i->i<=12->k ≠ i:=fun i h1 h2=>by omega
  have hk:zML k c m=false:=by
   unfold zML;rw[if_neg (f 12 (by decide) (by decide)),if_neg (f 1 (by decide) (by decide)),if_neg (f 2 (by decide) (by decide)),if_neg (f 3 (by decide) (by decide)),if_neg (f 4 (by decide) (by decide)),if_neg (f 5 (by decide) (by decide)),
    if_neg (f 6 (by decide) (by decide)),if_neg (f 7 (by decide) (by decide)),if_neg (f 8 (by decide) (by decide)),if_neg (f 9 (by decide) (by decide)),if_neg (f 10 (by decide) (by decide)),if_neg (f 11 (by decide) (by decide))]
   exact Bool.and_false _
  rw[hk,Bool.and_false]
  by_cases h1:k<1
  ·rw[zBs h1]; rfl
  ·rw[zBn h1,zBs (show 12<k by omega)]; rfl
def zAA (t:Nd):Bool:=(t.kind == 1)&&(zCJ t&&(decide (t.cnt<=1000)&&decide (t.dep<=24)))
abbrev okN (t:Nd) (x d:Nat):Prop:=zCJ t=true/\x+t.cnt<=1000/\d+t.dep<=25
abbrev okNs (k:Int) (vs:List Nd) (x d:Nat):Prop:=zBo k vs=true/\x+Nd.cnts vs<=1000/\d+Nd.deps vs<=24
theorem zOh {F:(Unit×Int)->Nd->Int->Option (Bool×(Unit×Int))}{k:Int}{ks:List Nd}{d:Nat} (hd:d<=24)
  (hF:∀ v∈ks,∀ x:Nat,x<=1000->∃ y,F ((),(x:Int)) v ((d+1:Nat):Int)=some (decide (okN v x (d+1)),((),y))/\(okN v x (d+1)->y=((x+v.cnt:Nat):Int))) (hl:ks.length<=1073741824) :
  ∀ (q i x:Nat),ks.length - i<q->i<=ks.length->x<=1000 ->
   (okNs k (ks.drop i) x d/\zAQ F k ks (d:Int) q (x:Int) (i:Int)=some (.go ((x+Nd.cnts (ks.drop i):Nat):Int))) ∨
   (¬ okNs k (ks.drop i) x d/\∃ z,zAQ F k ks (d:Int) q (x:Int) (i:Int)=some (.ret (false,((),z))))
 | 0,_,_,h,_,_=>by omega
 | q+1,i,x,hq,hi,hx=>by
  unfold zAQ
  by_cases h:i<ks.length
  ·rw[zBs (Int.ofNat_lt.2 h),cond_true,zBJ h]
   obtain⟨y,hf,hy⟩:=hF _ (List.getElem_mem h) x hx;have g1:=zUl (k:=k) h;have g2:=Nd.cnts_drop h;have g3:=zVu h;rcases e:ks[i] with ⟨a,b,c,ds⟩
   rw[e]at hf hy g1 g2 g3;simp only[obs]
   rw[zAP (by omega),zAP (by omega),hf]
   simp only[obs]
   have g4:Nd.deps (ks.drop i)=Nat.max (Nd.mk a b c ds).dep (Nd.deps (ks.drop (i+1))):=g3;have g5:(Nd.mk a b c ds).dep<=Nd.deps (ks.drop i) :=(by rw[g4]; exact Nat.le_max_left _ _);have g6:Nd.deps (ks.drop (i+1))<=Nd.deps (ks.drop i) :=(by rw[g4]; exact Nat.le_max_right _ _);rw[show((k == 1) == (a == 1))=((a == 1) == (k == 1)) by cases k == 1 <;> cases a == 1 <;> rfl]
   cases hkk:((a == 1) == (k == 1)) with
   | true =>
    simp only[cond_true,obs]
    refine .inr ⟨fun⟨h1,_⟩=>?_,_,rfl⟩
    rw[g1]at h1;simp[Nd.kind,hkk]at h1
   | false =>
    simp only[cond_false,obs]
    by_cases hok:okN (Nd.mk a b c ds) x (d+1)
    ·rw[zBs hok]
     simp only[Bool.not_true,cond_false]
     rw[hy hok]
     have hp:=(Nd.mk a b c ds).cnt_pos;rcases zOh hd hF hl q (i+1) (x+(Nd.mk a b c ds).cnt) (by omega) (by omega) hok.2.1 with ⟨hr,hr2⟩ | ⟨hr,z,hr2⟩
     ·refine .inl ⟨⟨?_,?_,?_⟩,?_⟩
      ·rw[g1,hr.1,hok.1]; simp[Nd.kind,hkk]
      ·have:=hr.2.1; omega
      ·have:=hr.2.2;have:=hok.2.2;have:Nd.deps (ks.drop i)<=24 - d:=by rw[g4]; exact Nat.max_le.2 ⟨by omega,by omega⟩
       omega
      ·rw[hr2,g2]; congr 3; omega
     ·refine .inr ⟨fun⟨h1,h2,h3⟩=>hr ⟨?_,by omega,by omega⟩,z,hr2⟩
      rw[g1]at h1;simp only[Bool.and_eq_true]at h1;exact h1.2
    ·rw[zBn hok]
     simp only[Bool.not_false,cond_true]
     refine .inr ⟨fun⟨h1,h2,h3⟩=>hok ⟨?_,by omega,by omega⟩,y,rfl⟩
     rw[g1]at h1;simp only[Bool.and_eq_true]at h1;exact h1.1.2
  ·rw[zBn (by omega),cond_false]
   obtain rfl:i=ks.length :=(by omega);rw[List.drop_length]
   exact .inl ⟨⟨rfl,hx,hd⟩,rfl⟩
theorem zS9:∀ (n:Nat) (t:Nd) (x d:Nat),t.w+45<n->t.w<=67108864->x<=1000->d<=25 ->
  ∃ y,zA4 n ((),(x:Int)) t (d:Int)=some (decide (okN t x d),((),y))/\(okN t x d->y=((x+t.cnt:Nat):Int))
 | 0,_,_,_,h,_,_,_=>by omega
 | n+1,.mk k t c ks,x,d,h,hb,hx,hd=>by
  simp only[Nd.w]at h hb;have hl:=Nd.ws_len ks;unfold zA4;rw[zAP (by omega)]
  by_cases h1:1000<((x+1:Nat):Int)
  ·rw[zBs h1]
   simp only[cond_true,obs]
   have hn:¬ okN (.mk k t c ks) x d:=fun⟨_,h2,_⟩=>by simp only[Nd.cnt]at h2; omega
   exact⟨_,by rw[zBn hn],fun h=>absurd h hn⟩
  ·rw[zBn h1,cond_false]
   by_cases h2:24<(d:Int)
   ·rw[zBs h2]
    simp only[cond_true,obs]
    have hn:¬ okN (.mk k t c ks) x d:=fun⟨_,_,h2⟩=>by simp only[Nd.dep]at h2; omega
    exact⟨_,by rw[zBn hn],fun h=>absurd h hn⟩
   ·rw[zBn h2,cond_false,zZ7 n _ k t c ks (by omega) (by omega)]
    simp only[obs]
    cases ho:(zJ9 k t&&zML k c (ks.length:Int)) with
    | false =>
     simp only[Bool.not_false,cond_true]
     have hn:¬ okN (.mk k t c ks) x d:=fun⟨h1,_⟩=>by rw[zCJ,ho]at h1; cases h1
     exact⟨_,by rw[zBn hn],fun h=>absurd h hn⟩
    | true =>
     simp only[Bool.not_true,cond_false]
     have:=zOh (F:=zA4 n) (k:=k) (ks:=ks) (d:=d) (by omega) (fun v hv z hz=>zS9 n v z (d+1) (by have:=Nd.w_mem hv; omega) (by have:=Nd.w_mem hv; omega) hz (by omega)) (by omega) n 0 (x+1) (by omega) (by omega) (by omega)
     rw[show((0:Nat):Int)=0 from rfl,List.drop_zero]at this;rcases this with ⟨hr,hr2⟩ | ⟨hr,z,hr2⟩
     ·have hy:okN (.mk k t c ks) x d:=⟨by rw[zCJ,ho,hr.1]; rfl,by have:=hr.2.1; simp only[Nd.cnt]; omega,by have:=hr.2.2; simp only[Nd.dep]; omega⟩
      rw[hr2]
      exact⟨_,by rw[zBs hy]; rfl,fun _=>by simp only[Nd.cnt]; omega⟩
     ·have hn:¬ okN (.mk k t c ks) x d:=fun⟨g1,g2,g3⟩=>hr ⟨by rw[zCJ,ho]at g1; exact g1,by simp only[Nd.cnt]at g2; omega,by simp only[Nd.dep]at g3; omega⟩
      rw[hr2]
      exact⟨_,by rw[zBn hn]; rfl,fun h=>absurd h hn⟩
theorem zC0 (n:Nat) (t:Nd) (h:t.w+45<n) (hb:t.w<=67108864):zA2 n t=some (zAA t):=by
 obtain⟨y,h1,_⟩:=zS9 n t 0 1 h hb (by omega) (by omega)
 rw[show((0:Nat):Int)=0 from rfl,show((1:Nat):Int)=1 from rfl]at h1;obtain⟨k,s,c,ks⟩:=t;unfold zA2 zAA;have hk:zD7=some ():=rfl;simp only[hk,h1,obs,Nd.kind]
 cases k == 1 with
 | false=>rfl
 | true =>
  simp only[cond_true,obs,Bool.true_and,Option.some.injEq,okN]
  cases zCJ (.mk k s c ks) with
  | false=>simp
  | true =>
   by_cases g1:(Nd.mk k s c ks).cnt<=1000
   ·by_cases g2:(Nd.mk k s c ks).dep<=24
    ·rw[zBs g1,zBs g2,zBs ⟨rfl,by omega,by omega⟩]; rfl
    ·rw[zBs g1,zBn g2,zBn (fun h=>g2 (by omega))]; rfl
   ·rw[zBn g1,zBn (fun h=>g1 (by omega))]; rfl
def Nd.text:Nd->List UInt8 | .mk _ t _ _=>t
def Nd.cols:Nd->Int | .mk _ _ c _=>c
theorem Nd.cnt_kids:∀ x:Nd,x.cnt=Nd.cnts x.kids+1
 | .mk _ _ _ _=>rfl
def zBb (x y:Nd):Bool:=(x.kind == y.kind)&&(((x.kids.length:Int) == (y.kids.length:Int))&&(x.cols == y.cols))
def rowD (P:Nd->Nd->Nat) (x:Nd) (f:List Nd->Nat):List Nd->Nat
 | []=>x.cnt+f []
 | y::ys=>if zBb x y then min (min (x.cnt+f (y::ys)) (y.cnt+rowD P x f ys)) (P x y+f ys) else min (x.cnt+f (y::ys)) (y.cnt+rowD P x f ys)
def TD (P:Nd->Nd->Nat):List Nd->List Nd->Nat
 | []=>Nd.cnts
 | x::xs=>rowD P x (TD P xs)
def sumD (f:List Nd->List Nd->Nat):List Nd->List Nd->Nat
 | u::us,v::vs=>f u.kids v.kids+sumD f us vs
 | _,_=>0
def txt (x y:Nd):Nat:=bif x.text == y.text then 0 else 1
def PD:Nat->Nd->Nd->Nat
 | 0,_,_=>0
 | n+1,x,y=>txt x y+sumD (TD (PD n)) x.kids y.kids
def D (x y:Nd):Nat:=PD x.cnt x y
def DL (a b:List Nd):Nat:=TD D a b
theorem zOJ {P P':Nd->Nd->Nat}{x:Nd}{f:List Nd->Nat} (h:∀ y,P x y=P' x y):∀ b,rowD P x f b=rowD P' x f b
 | []=>rfl
 | y::ys=>by simp only[rowD,zOJ h ys,h]
theorem zPg {P P':Nd->Nd->Nat}:∀ {a:List Nd},(∀ x∈a,∀ y,P x y=P' x y)->TD P a=TD P' a
 | [],_=>rfl
 | x::xs,h=>by
  rw[TD,TD,zPg fun x hx=>h x (List.mem_cons_of_mem _ hx)]
  exact funext (zOJ (h x List.mem_cons_self))
theorem zKO {f g:List Nd->List Nd->Nat}:∀ {us:List Nd} (vs:List Nd),(∀ u∈us,f u.kids=g u.kids)->sumD f us vs=sumD g us vs
 | [],vs,_=>by cases vs <;> rfl
 | u::us,[],_=>rfl
 | u::us,v::vs,h=>by
  rw[sumD,sumD,h u List.mem_cons_self,zKO vs fun u hu=>h u (List.mem_cons_of_mem _ hu)]
theorem zQj:∀ (n m:Nat) (x y:Nd),x.cnt<=n->x.cnt<=m->PD n x y=PD m x y
 | 0,_,x,_,h,_=>by have:=x.cnt_pos; omega
 | _+1,0,x,_,_,h=>by have:=x.cnt_pos; omega
 | n+1,m+1,x,y,h1,h2=>by
  rw[PD,PD]
  congr 1
  refine zKO _ fun u hu=>zPg fun x' hx' y'=>?_
  have e1:=x.cnt_kids;have e2:=u.cnt_kids;have e3:=Nd.cnts_mem hu;have e4:=Nd.cnts_mem hx';exact zQj n m x' y' (by omega) (by omega)
theorem D_eq (x y:Nd):D x y=txt x y+sumD DL x.kids y.kids:=by
 unfold D DL;have e1:=x.cnt_kids;rw[e1,PD]
 congr 1
 refine zKO _ fun u hu=>zPg fun x' hx' y'=>?_
 have e2:=u.cnt_kids;have e3:=Nd.cnts_mem hu;have e4:=Nd.cnts_mem hx';exact zQj _ _ x' y' (by omega) (Nat.le_refl _)
theorem zWo {P:Nd->Nd->Nat}{x:Nd}{f:List Nd->Nat}{c:Nat} (h:∀ b,f b<=c+Nd.cnts b):∀ b,rowD P x f b<=x.cnt+c+Nd.cnts b
 | []=>by have:=h []; simp only[rowD]; omega
 | y::ys=>by
  have h1:=h (y::ys)
  have:rowD P x f (y::ys)<=x.cnt+f (y::ys):=by
   simp only[rowD]
   split
   ·exact Nat.le_trans (Nat.min_le_left _ _) (Nat.min_le_left _ _)
   ·exact Nat.min_le_left _ _
  omega
theorem zQC {P:Nd->Nd->Nat}:∀ a b:List Nd,TD P a b<=Nd.cnts a+Nd.cnts b
 | [],b=>by simp[TD,Nd.cnts]
 | x::xs,b=>by
  have:=zWo (P:=P) (x:=x) (zQC (P:=P) xs) b;simp only[TD,Nd.cnts]; omega
theorem zS0:∀ us vs:List Nd,sumD DL us vs<=Nd.cnts us+Nd.cnts vs
 | [],vs=>by cases vs <;> simp[sumD]
 | u::us,[]=>by simp[sumD]
 | u::us,v::vs=>by
  have h1:=zS0 us vs;have h2:DL u.kids v.kids<=_:=zQC u.kids v.kids;have e1:=u.cnt_kids;have e2:=v.cnt_kids;simp only[sumD,Nd.cnts]; omega
theorem zWJ (x y:Nd):txt x y<=1:=by
 unfold txt;cases x.text == y.text
 ·exact Nat.le_refl _
 ·exact Nat.zero_le _
theorem D_le (x y:Nd):D x y<=x.cnt+y.cnt:=by
 have h1:=zS0 x.kids y.kids;have h2:=zWJ x y;have e1:=x.cnt_kids;have e2:=y.cnt_kids;rw[D_eq]; omega
def sufs (f:List Nd->Nat):List Nd->List Int
 | []=>[(f []:Int)]
 | y::ys=>(f (y::ys):Int)::sufs f ys
theorem zNs (f:List Nd->Nat):∀ b,∃ r,sufs f b=(f b:Int)::r
 | []=>⟨_,rfl⟩
 | y::ys=>⟨_,rfl⟩
theorem zOT (f:List Nd->Nat) (b:List Nd):(sufs f b).headD 0=(f b:Int):=by
 obtain⟨r,h⟩:=zNs f b; rw[h]; rfl
def tabD (P:Nd->Nd->Nat):List Nd->List Nd->List (List Int)
 | [],b=>[sufs (TD P []) b]
 | x::xs,b=>sufs (TD P (x::xs)) b::tabD P xs b
theorem zR2 (P:Nd->Nd->Nat):∀ a b,∃ r,tabD P a b=sufs (TD P a) b::r
 | [],b=>⟨_,rfl⟩
 | x::xs,b=>⟨_,rfl⟩
theorem yAi (P:Nd->Nd->Nat) (a b:List Nd):∃ r,at? (tabD P a b) 0=some r/\at? r 0=some (TD P a b:Int):=by
 obtain⟨r,h⟩:=zR2 P a b;obtain⟨r',h'⟩:=zNs (TD P a) b;exact⟨sufs (TD P a) b,by rw[h]; rfl,by rw[h']; rfl⟩
theorem zTs (a b:Nat):(if (a:Int)<(b:Int) then (a:Int) else (b:Int))=((min a b:Nat):Int):=by
 by_cases h:(a:Int)<(b:Int)
 ·rw[if_pos h,Nat.min_eq_left (by omega)]
 ·rw[if_neg h,Nat.min_eq_right (by omega)]
theorem zX5 {f:List Nd->List Nd->Nat}{a b:List Nd}{i:Nat} (h:i<a.length) (h':i<b.length):sumD f (a.drop i) (b.drop i)=f a[i].kids b[i].kids+sumD f (a.drop (i+1)) (b.drop (i+1)):=by
 rw[List.drop_eq_getElem_cons h,List.drop_eq_getElem_cons h']; rfl
theorem zMg {x y:Nd} (h:zBb x y=true):x.kids.length=y.kids.length:=by
 unfold zBb at h;simp only[Bool.and_eq_true]at h;have:=eq_of_beq h.2.1
 omega
end Go.Proofs.YtbfnjnljboncgaaGreatDoor
