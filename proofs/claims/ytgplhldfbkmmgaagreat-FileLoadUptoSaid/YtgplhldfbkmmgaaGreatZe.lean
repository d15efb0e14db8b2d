/-
  Joined out of: FzCA, FzCB, FzLA.
-/
import Derived.Test.YtgplhldfbkmmgaaGreatZd
set_option linter.unusedVariables false
set_option linter.unusedSimpArgs false
set_option maxHeartbeats 2000000
set_option maxRecDepth 100000
namespace Go.Proofs.YtgplhldfbkmmgaaGreat
open Go.Abs
def zFp (n:Nat) (xs:List AV) (r:Ret):Prop:=∃ (a0:CV) (a1:Int) (y0:Bool),zEy n a0 a1=some y0/\xs=[.s (.pt (CV.enc a0)),.s (.int .i64 a1)]/\r = .val (.s (.bool y0))
theorem zNO (n:Nat) (ih:PSound Tryz.prog 99 (zAq (zFp n))):PSound Tryz.prog 99 (zAq (zFp (n+1))):=by
 have gok:∀ f s,look? f [(99,zAq (zFp n))]=some s->PSound Tryz.prog f s:=zAm (by
  simp only[List.forall_mem_cons]
  exact⟨ih,by simp⟩)
 refine zAs tokW Tryz.call99 Tryz.func99 rfl (fun xs r h=>by obtain⟨_,_,_,_,rfl,_⟩:=h; show 2<=75; decide) 75 rfl ?_;rintro xs r w0 G0 ⟨⟨a1A,a1D,a1B,a1C⟩,a2,y0,h,rfl,rfl⟩ _;rw[zEy]at h;refine yAW ?_;refine zAa ?_;refine yAW ?_;refine zAf rfl h (fun hb h=>?_) (fun hb h=>?_)
 ·refine yAW ?_;refine zAd ?_;have hy:=osi h;subst hy;exact fin0 rfl rfl
 ·refine zAe ?_;refine zAa ?_;refine yAW ?_;refine zAi ?_;refine yAW ?_;refine zAf rfl h (fun hb h=>?_) (fun hb h=>?_)
  ·refine zAa ?_;obtain⟨x3,hj,h⟩:=zAc h;refine zAl ⟨ofL [(4,.s (.bool x3))],fun _=>none,0⟩ ?_ (fun σ' hle=>?_)
   ·replace h:=hj;refine zAb [] [19,24] rfl ?_;intro b hb;cases b with
    | true =>
     replace h:=zAv hb.symm h;intro n4 hn4;obtain rfl:(a1C.length:Int)=n4:=(hn4.trans (congrArg (fun m:Nat=>(m:Int)) (rlen CV.encs_eq a1C))).symm;cases h;exact(Le.forget _ ⟨rfl,trivial⟩)
    | false =>
     replace h:=zAu hb.symm h;cases h;exact(Le.forget _ ⟨rfl,trivial⟩)
   ·refine zAh hle ?_;refine zAd ?_;have hy:=osi h;subst hy;exact fin0 rfl rfl
  ·refine yAW ?_;refine zAf rfl h (fun hb h=>?_) (fun hb h=>?_)
   ·refine zAa ?_;obtain⟨x5,hj,h⟩:=zAc h;refine zAl ⟨ofL [(4,.s (.bool x5))],fun _=>none,0⟩ ?_ (fun σ' hle=>?_)
    ·replace h:=hj;refine zAb [] [34,39] rfl ?_;intro b hb;cases b with
     | true =>
      replace h:=zAv hb.symm h;intro n6 hn6;obtain rfl:(a1C.length:Int)=n6:=(hn6.trans (congrArg (fun m:Nat=>(m:Int)) (rlen CV.encs_eq a1C))).symm;cases h;exact(Le.forget _ ⟨rfl,trivial⟩)
     | false =>
      replace h:=zAu hb.symm h;cases h;exact(Le.forget _ ⟨rfl,trivial⟩)
    ·refine zAh hle ?_;refine zAd ?_;have hy:=osi h;subst hy;exact fin0 rfl rfl
   ·refine yAW ?_;refine zAf rfl h (fun hb h=>?_) (fun hb h=>?_)
    ·refine zAa ?_;refine zAa ?_;obtain⟨x7,hj,h⟩:=zAc h;refine zAl ⟨ofL [(0,.s (.pt [.int .i64 a1A,.int .i64 a1D,.str a1B,.sl 4 (CV.encs a1C)])),(1,.s (.int .i64 a2)),(55,.s (.bool x7))],fun _=>none,0⟩ ?_ (fun σ' hle=>?_)
     ·replace h:=hj;refine zAb [] [49] rfl ?_;intro b hb;cases b with
      | true =>
       replace h:=zAv hb.symm h;cases h;exact(Le.forget _ ⟨rfl,rfl,rfl,trivial⟩)
      | false =>
       replace h:=zAu hb.symm h;cases h;exact(Le.forget _ ⟨rfl,rfl,rfl,trivial⟩)
     ·refine zAh hle ?_;refine zAf rfl h (fun hb h=>?_) (fun hb h=>?_)
      ·refine yAW ?_;refine zAd ?_;have hy:=osi h;subst hy;exact fin0 rfl rfl
      ·refine zAe ?_;refine zAa ?_;refine yAh [] [60] rfl ?_;intro n8 hn8;obtain rfl:(a1C.length:Int)=n8:=(hn8.trans (congrArg (fun m:Nat=>(m:Int)) (rlen CV.encs_eq a1C))).symm;show Tri ..;obtain⟨fl,hl,ho1⟩:=zAc h;refine zBA (fl:=fl) (fun z=>match z with | _=>⟨ofL [],fun _=>none,0⟩) ?_ (fun z σ' hz hle=>?_)
       ·refine zAi (zAt (X:=Nat×Int) (fun y=>match y with | (k,x9)=>⟨ofL [(0,.s (.pt [.int .i64 a1A,.int .i64 a1D,.str a1B,.sl 4 (CV.encs a1C)])),(1,.s (.int .i64 a2)),(60,.s (.int .i64 (a1C.length:Int))),(61,.s (.int .i64 x9))],fun _=>none,0⟩) (fun y=>zDV (zEy n) a1C a2 y.1 y.2=some fl) (fun y=>y.1) (n,0) hl ?_ ?_)
        ·exact(Le.forget _ ⟨rfl,rfl,rfl,rfl,trivial⟩)
        ·rintro⟨k,x9⟩ h;cases k with
         | zero=>cases h
         | succ k =>
          replace h:zDV (zEy n) a1C a2 (k+1) x9=some fl:=h;rw[zDV]at h;refine yAW ?_;refine zAa ?_;refine zAf rfl h (fun hb h=>?_) (fun hb h=>?_)
          ·refine zAe ?_;refine zAa ?_;refine zAi ?_;refine yAW ?_;refine yAh [] [69] rfl ?_;obtain⟨⟨e10A,e10D,e10B,e10C⟩,he10,h⟩:=zAc h;refine And.intro (zAn CV.encs_eq he10).1 ?_;intro r11 hr11;obtain rfl:[.int .i64 e10A,.int .i64 e10D,.str e10B,.sl 4 (CV.encs e10C)]=r11:=(hr11.trans (zAn CV.encs_eq he10).2.1).symm;obtain⟨y12,hy12,h⟩:=zAc h;refine⟨_,⟨_,_,_,hy12,rfl,rfl⟩,?_⟩
           refine zAf rfl h (fun hb h=>?_) (fun hb h=>?_)
           ·refine yAW ?_;refine zAd ?_;cases h;replace h:some _=some _:=ho1;have hy:=osi h;subst hy;exact fin0 rfl rfl
           ·refine zAe ?_;refine yAV ?_;refine⟨(k,IntKind.i64.wrap (x9+1)),h,(Le.forget _ ⟨rfl,rfl,rfl,rfl,trivial⟩),Nat.lt_succ_self k⟩
          ·refine zAy ?_;cases h;exact⟨_,rfl,(Le.forget _ trivial)⟩
       ·subst hz;obtain _:=z;replace h:=ho1;refine zAh hle ?_;refine yAW ?_;refine zAd ?_;have hy:=osi h;subst hy;exact fin0 rfl rfl
    ·refine zAe ?_;refine yAW ?_;refine zAd ?_;have hy:=osi h;subst hy;exact fin0 rfl rfl
theorem zOt:∀ n,PSound Tryz.prog 99 (zAq (zFp n)):=by
 intro n
 induction n with
 | zero=>exact zBo Tryz.call99 (fun xs r h=>by obtain⟨_,_,_,h,_⟩:=h; cases h)
 | succ n ih=>exact zNO n ih
def zLJ:zAr:=zAq fun xs r=>∃ n,zFp n xs r
theorem zP4:PSound Tryz.prog 99 zLJ:=zBH zOt
def zRg (n:Nat) (xs:List AV) (r:Ret):Prop:=∃ (a0:CV) (y0:Bool),zIQ n a0=some y0/\xs=[.agg ((CV.enc a0).map .s)]/\r = .val (.s (.bool y0))
def zLI:zAr:=zAq fun xs r=>∃ n,zRg n xs r
theorem zP3:PSound Tryz.prog 56 zLI:=by
 have gok:∀ f s,look? f [(99,zLJ)]=some s->PSound Tryz.prog f s:=zAm (by
  simp only[List.forall_mem_cons]
  exact⟨zP4,by simp⟩)
 refine zAs tokW Tryz.call56 Tryz.func56 rfl (fun xs r h=>by obtain⟨n,_,_,_,rfl,_⟩:=h; show 1<=4; decide) 4 rfl ?_;rintro xs r w0 G0 ⟨n,⟨v1A,v1D,v1B,v1C⟩,y0,h,rfl,rfl⟩ _;rw[zIQ]at h;refine yAW ?_;refine yAW ?_;obtain⟨y2,hy2,h⟩:=zAc h;refine⟨_,⟨_,_,_,_,hy2,rfl,rfl⟩,?_⟩
 refine zAd ?_;have hy:=osi h;subst hy;exact fin0 rfl rfl
def zPG (xs:List AV) (r:Ret):Prop:=∃ (a0:CV) (y0:Int),zH1 a0=some y0/\xs=[.s (.pt (CV.enc a0))]/\r = .val (.s (.int .u64 y0))
def zKx:zAr:=zAq fun xs r=>zPG xs r
theorem zOZ:PSound Tryz.prog 135 zKx:=by
 have gok:=@gok0 Tryz.prog;refine zAs tokW Tryz.call135 Tryz.func135 rfl (fun xs r h=>by obtain⟨_,_,_,rfl,_⟩:=h; show 1<=48; decide) 48 rfl ?_;rintro xs r w0 G0 ⟨⟨v1A,v1D,v1B,v1C⟩,y0,h,rfl,rfl⟩ _;rw[zH1]at h;refine yAW ?_;refine zAa ?_;refine zAi ?_;refine yAW ?_;refine zAf rfl h (fun hb h=>?_) (fun hb h=>?_)
 ·refine yAW ?_;refine zAd ?_;have hy:=osi h;subst hy;exact fin0 rfl rfl
 ·refine yAW ?_;refine zAf rfl h (fun hb h=>?_) (fun hb h=>?_)
  ·refine yAh [] [25] rfl ?_;intro n2 hn2;obtain rfl:(v1C.length:Int)=n2:=(hn2.trans (congrArg (fun m:Nat=>(m:Int)) (rlen CV.encs_eq v1C))).symm;refine zAd ?_;have hy:=osi h;subst hy;exact fin0 rfl rfl
  ·refine yAW ?_;refine zAf rfl h (fun hb h=>?_) (fun hb h=>?_)
   ·refine yAW ?_;refine zAd ?_;have hy:=osi h;subst hy;exact fin0 rfl rfl
   ·refine zAe ?_;refine yAW ?_;refine zAd ?_;have hy:=osi h;subst hy;exact fin0 rfl rfl
def zN0 (n:Nat) (xs:List AV) (r:Ret):Prop:=∃ (a0:Int) (y0:Int),zDs n a0=some y0/\xs=[.s (.int .u64 a0)]/\r = .val (.s (.int .i64 y0))
def zGY:zAr:=zAq fun xs r=>∃ n,zN0 n xs r
theorem zI5:PSound Tryz.prog 136 zGY:=by
 have gok:=@gok0 Tryz.prog;refine zAs tokW Tryz.call136 Tryz.func136 rfl (fun xs r h=>by obtain⟨n,_,_,_,rfl,_⟩:=h; show 1<=13; decide) 13 rfl ?_;rintro xs r w0 G0 ⟨n,n1,y0,h,rfl,rfl⟩ _;rw[zDs]at h;refine yAW ?_;refine yAW ?_;refine zAa ?_;refine yAW ?_;refine And.intro (by decide) ?_;show Tri ..;obtain⟨k4,hl,h⟩:=zAc h;refine zAl ⟨ofL [(3,.s (.int .i64 k4))],fun _=>none,0⟩ ?_ (fun σ' hle=>?_)
 ·refine zAi (zAt (X:=Nat×Int×Int) (fun y=>match y with | (k,n2,k3)=>⟨ofL [(0,.s (.int .u64 n2)),(3,.s (.int .i64 k3))],fun _=>none,0⟩) (fun y=>zBg  y.1 y.2.1 y.2.2=some k4) (fun y=>y.1) (n,n1.fdiv (2 ^ (min (8:Int).toNat IntKind.u64.bits)),1) hl ?_ ?_)
  ·exact(Le.forget _ ⟨rfl,rfl,trivial⟩)
  ·rintro⟨k,n2,k3⟩ h;cases k with
   | zero=>cases h
   | succ k =>
    replace h:zBg  (k+1) n2 k3=some k4:=h;rw[zBg]at h;refine zAa ?_;refine yAW ?_;refine zAf rfl h (fun hb h=>?_) (fun hb h=>?_)
    ·refine zAe ?_;refine zAa ?_;refine zAi ?_;refine yAV ?_;refine yAV ?_;refine And.intro (by decide) ?_;refine⟨(k,n2.fdiv (2 ^ (min (8:Int).toNat IntKind.u64.bits)),IntKind.i64.wrap (k3+1)),h,(Le.forget _ ⟨rfl,rfl,trivial⟩),Nat.lt_succ_self k⟩
    ·refine zAy ?_;cases h;exact(Le.forget _ ⟨rfl,trivial⟩)
 ·refine zAh hle ?_;refine yAW ?_;refine zAd ?_;have hy:=osi h;subst hy;exact fin0 rfl rfl
def zSC (n:Nat) (xs:List AV) (os:List Ob) (x:AV) (os':List (Option Ob)):Prop:=∃ (a0:List UInt8) (a1:CV) (y0:List UInt8),zJA n a0 a1=some y0/\xs=[.orow 0,.s (.pt (CV.enc a1))]/\os=[.row 5 1 ((List.map brow) a0)]/\x = .orow 1/\os'=[none,some (.row 5 1 ((List.map brow) y0))]
def zMZ:zAr:=zBI (fun xs os x os'=>∃ n,zSC n xs os x os') (some 0)
theorem zUb {α:Type}{a b:α} (h:a=b:=by simp[List.map_append,List.map_take,List.map_drop,irow,brow,zEa,List.map_cons,List.map_nil,zDr,Nd.encs_eq,Nd.enc,CV.encs_eq,CV.enc]):a=b :=
 h
theorem zRU:PSound Tryz.prog 100 zMZ:=by
 have gok:∀ f s,look? f [(135,zKx),(136,zGY)]=some s->PSound Tryz.prog f s:=zAm (by
  simp only[List.forall_mem_cons]
  exact⟨zOZ,zI5,by simp⟩)
 refine PSound.withNil (zDZ tokW Tryz.call100 Tryz.func100 rfl (fun xs os x os' h=>by obtain⟨n,_,_,_,_,rfl,rfl,_,rfl⟩:=h; exact⟨by show 2<=54; decide,by show 1<=2; decide⟩) 54 rfl ?_) _;rintro xs os x os' w0 G0 B0 ⟨n,b1,⟨v2A,v2D,v2B,v2C⟩,y0,h,rfl,rfl,rfl,rfl⟩ _;rw[zJA]at h;refine yAh [4] [] rfl ?_;refine zAh (Le.rnm [(0,0)] [(0,.orow 0),(1,.s (.pt [.int .i64 v2A,.int .i64 v2D,.str v2B,.sl 4 (CV.encs v2C)]))] [(0,.row 5 1 ((List.map brow) b1))] 1 ⟨rfl,rfl,trivial⟩ ⟨rfl,⟨_,rfl,rfl⟩,trivial⟩) ?_;refine yAW ?_
 obtain⟨y3,hy3,h⟩:=zAc h;refine⟨_,⟨_,_,hy3,rfl,rfl⟩,?_⟩
 refine zAa ?_;refine yAW ?_;refine zAf rfl h (fun hb h=>?_) (fun hb h=>?_)
 ·refine yAh [23] [22] rfl ?_;intro r4 hr4;obtain rfl:(List.map brow) [b8of (IntKind.u8.wrap ((IntKind.u8.wrap (IntKind.i64.wrap (64 * v2A)))+(IntKind.u8.wrap y3)))]=r4:=(hr4.trans zUb).symm;obtain⟨hq,h⟩:=zAw h
  refine And.intro (show(((List.map brow) b1).length+((List.map brow) [b8of (IntKind.u8.wrap ((IntKind.u8.wrap (IntKind.i64.wrap (64 * v2A)))+(IntKind.u8.wrap y3)))]).length) * 1<=140737488355328/\((List.map brow) b1).length+((List.map brow) [b8of (IntKind.u8.wrap ((IntKind.u8.wrap (IntKind.i64.wrap (64 * v2A)))+(IntKind.u8.wrap y3)))]).length<=9223372036854775807 from by simp only[List.length_append,List.length_cons,List.length_nil,List.length_map,rlen (fun _=>rfl)]at hq ⊢; omega) ?_;show Tri ..
  refine zAh (Le.rnm [(1,1)] [(4,.orow 1)] [(1,.row 5 1 ((List.map brow) (b1++[b8of (IntKind.u8.wrap ((IntKind.u8.wrap (IntKind.i64.wrap (64 * v2A)))+(IntKind.u8.wrap y3)))])))] 2 ⟨rfl,trivial⟩ ⟨rfl,⟨_,rfl,congrArg (Ob.row 5 1) zUb⟩,trivial⟩) ?_;refine zAd ?_;have hy:=osi h;subst hy;unfold zBb
  exact⟨_,(Le.rnm [(1,1)] [(4,.orow 1)] [(1,.row 5 1 ((List.map brow) (b1++[b8of (IntKind.u8.wrap ((IntKind.u8.wrap (IntKind.i64.wrap (64 * v2A)))+(IntKind.u8.wrap y3)))])))] 2 ⟨rfl,trivial⟩ ⟨rfl,⟨_,rfl,rfl⟩,trivial⟩),rfl,rfl,rfl,rfl,trivial⟩
 ·refine zAe ?_;refine yAW ?_;obtain⟨y5,hy5,h⟩:=zAc h;refine⟨_,⟨_,_,_,hy5,rfl,rfl⟩,?_⟩
  refine yAh [38] [37] rfl ?_;intro r6 hr6;obtain rfl:(List.map brow) [b8of (IntKind.u8.wrap (IntKind.i64.wrap ((IntKind.i64.wrap ((IntKind.i64.wrap ((IntKind.i64.wrap (64 * v2A))+56)) - 1))+y5)))]=r6:=(hr6.trans zUb).symm;obtain⟨hq,h⟩:=zAw h
  refine And.intro (show(((List.map brow) b1).length+((List.map brow) [b8of (IntKind.u8.wrap (IntKind.i64.wrap ((IntKind.i64.wrap ((IntKind.i64.wrap ((IntKind.i64.wrap (64 * v2A))+56)) - 1))+y5)))]).length) * 1<=140737488355328/\((List.map brow) b1).length+((List.map brow) [b8of (IntKind.u8.wrap (IntKind.i64.wrap ((IntKind.i64.wrap ((IntKind.i64.wrap ((IntKind.i64.wrap (64 * v2A))+56)) - 1))+y5)))]).length<=9223372036854775807 from by simp only[List.length_append,List.length_cons,List.length_nil,List.length_map,rlen (fun _=>rfl)]at hq ⊢; omega) ?_;show Tri ..
  refine zAh (Le.rnm [(1,1)] [(0,.orow 1),(5,.s (.int .u64 y3)),(6,.s (.int .i64 y5))] [(1,.row 5 1 ((List.map brow) (b1++[b8of (IntKind.u8.wrap (IntKind.i64.wrap ((IntKind.i64.wrap ((IntKind.i64.wrap ((IntKind.i64.wrap (64 * v2A))+56)) - 1))+y5)))])))] 2 ⟨rfl,rfl,rfl,trivial⟩ ⟨rfl,⟨_,rfl,congrArg (Ob.row 5 1) zUb⟩,trivial⟩) ?_;refine zAa ?_;refine yAW ?_;show Tri ..;obtain⟨l10,hl,h⟩:=zAc h
  refine zAl ⟨ofL [(0,.orow 1)],ofH [(1,.row 5 1 ((List.map brow) l10))],2⟩ ?_ (fun σ' hle=>?_)
  ·refine zAi (zAt (X:=Nat×Int×(List UInt8)) (fun y=>match y with | (k,i8,l9)=>⟨ofL [(0,.orow 1),(5,.s (.int .u64 y3)),(7,.s (.int .i64 i8))],ofH [(1,.row 5 1 ((List.map brow) l9))],2⟩) (fun y=>zEk y3 y.1 y.2.1 y.2.2=some l10) (fun y=>y.1) (n,IntKind.i64.wrap (y5 - 1),b1++[b8of (IntKind.u8.wrap (IntKind.i64.wrap ((IntKind.i64.wrap ((IntKind.i64.wrap ((IntKind.i64.wrap (64 * v2A))+56)) - 1))+y5)))]) hl ?_ ?_)
   ·exact(Le.rnm [(1,1)] _ _ _ ⟨rfl,rfl,rfl,trivial⟩ ⟨rfl,⟨_,rfl,rfl⟩,trivial⟩)
   ·rintro⟨k,i8,l9⟩ h;cases k with
    | zero=>cases h
    | succ k =>
     replace h:zEk y3 (k+1) i8 l9=some l10:=h;rw[zEk]at h;refine zAa ?_;refine yAW ?_;refine zAf rfl h (fun hb h=>?_) (fun hb h=>?_)
     ·refine zAe ?_;refine zAa ?_;refine zAi ?_;refine zAb [52] [51] rfl ?_;obtain⟨hq,h⟩:=zAw h;refine And.intro hq ?_;intro r11 hr11;obtain rfl:(List.map brow) [b8of (IntKind.u8.wrap (y3.fdiv (2 ^ (min (IntKind.i64.wrap (8 * i8)).toNat IntKind.u64.bits))))]=r11:=(hr11.trans zUb).symm;obtain⟨hq,h⟩:=zAw h
      refine And.intro (show(((List.map brow) l9).length+((List.map brow) [b8of (IntKind.u8.wrap (y3.fdiv (2 ^ (min (IntKind.i64.wrap (8 * i8)).toNat IntKind.u64.bits))))]).length) * 1<=140737488355328/\((List.map brow) l9).length+((List.map brow) [b8of (IntKind.u8.wrap (y3.fdiv (2 ^ (min (IntKind.i64.wrap (8 * i8)).toNat IntKind.u64.bits))))]).length<=9223372036854775807 from by simp only[List.length_append,List.length_cons,List.length_nil,List.length_map,rlen (fun _=>rfl)]at hq ⊢; omega) ?_;show Tri ..
      refine zAh (Le.rnm [(2,1)] [(0,.orow 1),(5,.s (.int .u64 y3)),(7,.s (.int .i64 i8))] [(1,.row 5 1 ((List.map brow) (l9++[b8of (IntKind.u8.wrap (y3.fdiv (2 ^ (min (IntKind.i64.wrap (8 * i8)).toNat IntKind.u64.bits))))])))] 2 ⟨rfl,rfl,rfl,trivial⟩ ⟨rfl,⟨_,rfl,congrArg (Ob.row 5 1) zUb⟩,trivial⟩) ?_;refine yAV ?_
      refine⟨(k,IntKind.i64.wrap (i8 - 1),l9++[b8of (IntKind.u8.wrap (y3.fdiv (2 ^ (min (IntKind.i64.wrap (8 * i8)).toNat IntKind.u64.bits))))]),h,(Le.rnm [(1,1)] _ _ _ ⟨rfl,rfl,rfl,trivial⟩ ⟨rfl,⟨_,rfl,rfl⟩,trivial⟩),Nat.lt_succ_self k⟩
     ·refine zAy ?_;cases h;exact(Le.rnm [(1,1)] _ _ _ ⟨rfl,trivial⟩ ⟨rfl,⟨_,rfl,rfl⟩,trivial⟩)
  ·refine zAh hle ?_;refine yAW ?_;refine zAd ?_;have hy:=osi h;subst hy;unfold zBb;exact⟨_,(Le.rnm [(1,1)] [(4,.orow 1)] [(1,.row 5 1 ((List.map brow) l10))] 2 ⟨rfl,trivial⟩ ⟨rfl,⟨_,rfl,rfl⟩,trivial⟩),rfl,rfl,rfl,rfl,trivial⟩
def zER (n:Nat) (xs:List AV) (os:List Ob) (x:AV) (os':List (Option Ob)):Prop:=∃ (a0:List UInt8) (a1:CV) (y0:List UInt8),zD2 n a0 a1=some y0/\xs=[.orow 0,.s (.pt (CV.enc a1))]/\os=[.row 5 1 ((List.map brow) a0)]/\x = .orow 1/\os'=[none,some (.row 5 1 ((List.map brow) y0))]
theorem zMU (n:Nat) (ih:PSound Tryz.prog 57 (zBI (zER n) (some 0))):PSound Tryz.prog 57 (zBI (zER (n+1)) (some 0)):=by
 have gok:∀ f s,look? f [(100,zMZ),(57,zBI (zER n) (some 0))]=some s->PSound Tryz.prog f s:=zAm (by
  simp only[List.forall_mem_cons]
  exact⟨zRU,ih,by simp⟩)
 refine PSound.withNil (zDZ tokW Tryz.call57 Tryz.func57 rfl (fun xs os x os' h=>by obtain⟨_,_,_,_,rfl,rfl,_,rfl⟩:=h; exact⟨by show 2<=50; decide,by show 1<=2; decide⟩) 50 rfl ?_) _;rintro xs os x os' w0 G0 B0 ⟨b1,⟨v2A,v2D,v2B,v2C⟩,y0,h,rfl,rfl,rfl,rfl⟩ _;rw[zD2]at h;refine yAh [4] [] rfl ?_;refine zAh (Le.rnm [(0,0)] [(0,.orow 0),(1,.s (.pt [.int .i64 v2A,.int .i64 v2D,.str v2B,.sl 4 (CV.encs v2C)]))] [(0,.row 5 1 ((List.map brow) b1))] 1 ⟨rfl,rfl,trivial⟩ ⟨rfl,⟨_,rfl,rfl⟩,trivial⟩) ?_;refine yAh [8] [] rfl ?_
 obtain⟨y3,hy3,h⟩:=zAc h;refine⟨_,_,⟨_,_,_,_,hy3,rfl,rfl,rfl,rfl⟩,?_⟩
 refine zAa ?_;refine yAW ?_;refine zAf rfl h (fun hb h=>?_) (fun hb h=>?_)
 ·refine yAh [21] [] rfl ?_;obtain⟨hq,h⟩:=zAw h;refine And.intro hq ?_;obtain⟨hq,h⟩:=zAw h;refine And.intro (show(((List.map brow) y3).length+(List.map brow ((v2B.take (1048577:Int).toNat).drop (0:Int).toNat)).length) * 1<=140737488355328/\((List.map brow) y3).length+(List.map brow ((v2B.take (1048577:Int).toNat).drop (0:Int).toNat)).length<=9223372036854775807 from by simp only[List.length_append,List.length_cons,List.length_nil,List.length_map,rlen (fun _=>rfl)]at hq ⊢; omega) ?_;show Tri ..
  refine zAh (Le.rnm [(2,1)] [(4,.orow 1)] [(1,.row 5 1 ((List.map brow) (y3++((v2B.take (1048577:Int).toNat).drop (0:Int).toNat))))] 2 ⟨rfl,trivial⟩ ⟨rfl,⟨_,rfl,congrArg (Ob.row 5 1) zUb⟩,trivial⟩) ?_;refine zAd ?_;have hy:=osi h;subst hy;unfold zBb;exact⟨_,(Le.rnm [(1,1)] [(4,.orow 1)] [(1,.row 5 1 ((List.map brow) (y3++((v2B.take (1048577:Int).toNat).drop (0:Int).toNat))))] 2 ⟨rfl,trivial⟩ ⟨rfl,⟨_,rfl,rfl⟩,trivial⟩),rfl,rfl,rfl,rfl,trivial⟩
 ·refine zAe ?_;refine yAh [27] [] rfl ?_;obtain⟨hq,h⟩:=zAw h;refine And.intro (show(((List.map brow) y3).length+(List.map brow v2B).length) * 1<=140737488355328/\((List.map brow) y3).length+(List.map brow v2B).length<=9223372036854775807 from by simp only[List.length_append,List.length_cons,List.length_nil,List.length_map,rlen (fun _=>rfl)]at hq ⊢; omega) ?_;show Tri ..
  refine zAh (Le.rnm [(2,1)] [(0,.orow 1),(1,.s (.pt [.int .i64 v2A,.int .i64 v2D,.str v2B,.sl 4 (CV.encs v2C)]))] [(1,.row 5 1 ((List.map brow) (y3++v2B)))] 2 ⟨rfl,rfl,trivial⟩ ⟨rfl,⟨_,rfl,congrArg (Ob.row 5 1) zUb⟩,trivial⟩) ?_;refine zAa ?_;refine yAh [] [32] rfl ?_;intro n4 hn4;obtain rfl:(v2C.length:Int)=n4:=(hn4.trans (congrArg (fun m:Nat=>(m:Int)) (rlen CV.encs_eq v2C))).symm;show Tri ..;obtain⟨fl,hl,ho1⟩:=zAc h
  refine zBA (fl:=fl) (fun z=>match z with | l8=>⟨ofL [(0,.orow 1)],ofH [(1,.row 5 1 ((List.map brow) l8))],2⟩) ?_ (fun l8 σ' hz hle=>?_)
  ·refine zAi (zAt (X:=Nat×Int×(List UInt8)) (fun y=>match y with | (k,x6,l7)=>⟨ofL [(0,.orow 1),(1,.s (.pt [.int .i64 v2A,.int .i64 v2D,.str v2B,.sl 4 (CV.encs v2C)])),(32,.s (.int .i64 (v2C.length:Int))),(33,.s (.int .i64 x6))],ofH [(1,.row 5 1 ((List.map brow) l7))],2⟩) (fun y=>zDt (zD2 n) v2C y.1 y.2.1 y.2.2=some fl) (fun y=>y.1) (n,0,y3++v2B) hl ?_ ?_)
   ·exact(Le.rnm [(1,1)] _ _ _ ⟨rfl,rfl,rfl,rfl,trivial⟩ ⟨rfl,⟨_,rfl,rfl⟩,trivial⟩)
   ·rintro⟨k,x6,l7⟩ h;cases k with
    | zero=>cases h
    | succ k =>
     replace h:zDt (zD2 n) v2C (k+1) x6 l7=some fl:=h;rw[zDt]at h;refine yAW ?_;refine zAa ?_;refine zAf rfl h (fun hb h=>?_) (fun hb h=>?_)
     ·refine zAe ?_;refine zAa ?_;refine zAi ?_;refine yAW ?_;refine zAa ?_;refine yAh [] [37] rfl ?_;intro n9 hn9;obtain rfl:(l7.length:Int)=n9:=(hn9.trans (congrArg (fun m:Nat=>(m:Int)) (rlen (fun _=>rfl) l7))).symm;refine zAf rfl h (fun hb h=>?_) (fun hb h=>?_)
      ·refine yAW ?_;refine zAd ?_;cases h;replace h:some _=some _:=ho1;have hy:=osi h;subst hy;unfold zBb;exact⟨_,(Le.rnm [(1,1)] [(4,.orow 1)] [(1,.row 5 1 ((List.map brow) l7))] 2 ⟨rfl,trivial⟩ ⟨rfl,⟨_,rfl,rfl⟩,trivial⟩),rfl,rfl,rfl,rfl,trivial⟩
      ·refine zAe ?_;refine zAb [47] [46] rfl ?_;obtain⟨⟨e10A,e10D,e10B,e10C⟩,he10,h⟩:=zAc h;refine And.intro (zAn CV.encs_eq he10).1 ?_;intro r11 hr11;obtain rfl:[.int .i64 e10A,.int .i64 e10D,.str e10B,.sl 4 (CV.encs e10C)]=r11:=(hr11.trans (zAn CV.encs_eq he10).2.1).symm;obtain⟨y12,hy12,h⟩:=zAc h;refine⟨_,_,⟨_,_,_,hy12,rfl,rfl,rfl,rfl⟩,?_⟩
       refine yAV ?_;refine⟨(k,IntKind.i64.wrap (x6+1),y12),h,(Le.rnm [(2,1)] _ _ _ ⟨rfl,rfl,rfl,rfl,trivial⟩ ⟨rfl,⟨_,rfl,rfl⟩,trivial⟩),Nat.lt_succ_self k⟩
     ·refine zAy ?_;cases h;exact⟨_,rfl,(Le.rnm [(1,1)] _ _ _ ⟨rfl,trivial⟩ ⟨rfl,⟨_,rfl,rfl⟩,trivial⟩)⟩
  ·subst hz;replace h:=ho1;refine zAh hle ?_;refine yAW ?_;refine zAd ?_;have hy:=osi h;subst hy;unfold zBb;exact⟨_,(Le.rnm [(1,1)] [(4,.orow 1)] [(1,.row 5 1 ((List.map brow) l8))] 2 ⟨rfl,trivial⟩ ⟨rfl,⟨_,rfl,rfl⟩,trivial⟩),rfl,rfl,rfl,rfl,trivial⟩
theorem zNE:∀ n,PSound Tryz.prog 57 (zBI (zER n) (some 0)):=by
 intro n
 induction n with
 | zero=>exact zHp Tryz.call57 (fun xs os x os' h=>by obtain⟨_,_,_,h,_⟩:=h; cases h) _
 | succ n ih=>exact zMU n ih
def zKw:zAr:=zBI (fun xs os x os'=>∃ n,zER n xs os x os') (some 0)
theorem zOY:PSound Tryz.prog 57 zKw:=zIy zNE _
def zPF (n:Nat) (xs:List AV) (r:Ret):Prop:=∃ (a0:CV) (y0:List UInt8) (y1:Int),zH0 n a0=some (y0,y1)/\xs=[.agg ((CV.enc a0).map .s)]/\r = .val (.tup [.s (.sl 1 ((List.map brow) y0)),.s (.int .i64 y1)])
def zKv:zAr:=zAq fun xs r=>∃ n,zPF n xs r
theorem zOX:PSound Tryz.prog 26 zKv:=by
 have gok:∀ f s,look? f [(56,zLI),(57,zKw)]=some s->PSound Tryz.prog f s:=zAm (by
  simp only[List.forall_mem_cons]
  exact⟨zP3,zOY,by simp⟩)
 refine zAs tokW Tryz.call26 Tryz.func26 rfl (fun xs r h=>by obtain⟨n,_,_,_,_,rfl,_⟩:=h; show 1<=13; decide) 13 rfl ?_;rintro xs r w0 G0 ⟨n,⟨v1A,v1D,v1B,v1C⟩,y0,y1,h,rfl,rfl⟩ _;rw[zH0]at h;refine yAW ?_;refine zAa ?_;refine yAW ?_;obtain⟨y2,hy2,h⟩:=zAc h;refine⟨_,⟨_,_,_,hy2,rfl,rfl⟩,?_⟩
 refine zAf rfl h (fun hb h=>?_) (fun hb h=>?_)
 ·refine yAW ?_;refine zAd ?_;obtain⟨hj1,hk1⟩:=pij h;subst hj1 hk1;exact fin0 rfl rfl
 ·refine zAe ?_;refine yAW ?_;obtain⟨y3,hy3,h⟩:=zAc h;refine⟨_,_,⟨_,_,_,_,hy3,rfl,rfl,rfl,rfl⟩,?_⟩
  refine zAa ?_;refine yAh [] [10] rfl ?_;intro n4 hn4;obtain rfl:(y3.length:Int)=n4:=(hn4.trans (congrArg (fun m:Nat=>(m:Int)) (rlen (fun _=>rfl) y3))).symm;refine zAf rfl h (fun hb h=>?_) (fun hb h=>?_)
  ·refine yAW ?_;refine zAd ?_;obtain⟨hj1,hk1⟩:=pij h;subst hj1 hk1;exact fin0 rfl rfl
  ·refine zAe ?_;refine yAW ?_;refine zAd ?_;obtain⟨hj1,hk1⟩:=pij h;subst hj1 hk1;unfold zDR;exact⟨_,(Le.trans (Le.rnm [(1,0)] [(2,.orow 0),(3,.s (.int .i64 0))] [(0,.row 5 1 ((List.map brow) y3))] 1 ⟨rfl,rfl,trivial⟩ ⟨rfl,⟨_,rfl,rfl⟩,trivial⟩) (Le.giveRow 0 rfl)),rfl,rfl⟩
def zAG (p:(List UInt8)):List S:=[.sl 1 ((List.map brow) p)]
def zKV (n:Nat) (xs:List AV) (os:List Ob) (x:AV) (os':List (Option Ob)):Prop:=∃ (a0:(List UInt8)) (y0:Int) (y1:Int) (y2:Bool) (z0:(List UInt8)),zBm n a0=some (y0,y1,y2,z0)/\xs=[.op 0 0]/\os=[.box 130 ((zAG a0).map .s)]/\x = .tup [.s (.int .i64 y0),.s (.int .u64 y1),.s (.bool y2)]/\os'=[some (.box 130 ((zAG z0).map .s))]
def zGZ:zAr:=zBI (fun xs os x os'=>∃ n,zKV n xs os x os')
theorem zKk:PSound Tryz.prog 121 zGZ:=by
 have gok:∀ f s,look? f [(136,zGY)]=some s->PSound Tryz.prog f s:=zAm (by
  simp only[List.forall_mem_cons]
  exact⟨zI5,by simp⟩)
 refine PSound.withNil (zDZ tokW Tryz.call121 Tryz.func121 rfl (fun xs os x os' h=>by obtain⟨n,_,_,_,_,_,_,rfl,rfl,_,rfl⟩:=h; exact⟨by show 1<=91; decide,by show 1<=1; decide⟩) 91 rfl ?_) _;rintro xs os x os' w0 G0 B0 ⟨n,o1,y0,y1,y2,z0,h,rfl,rfl,rfl,rfl⟩ _;rw[zBm]at h;refine yAW ?_;refine zAa ?_;refine yAh [] [12] rfl ?_;intro n2 hn2;obtain rfl:(o1.length:Int)=n2:=(hn2.trans (congrArg (fun m:Nat=>(m:Int)) (rlen (fun _=>rfl) o1))).symm;refine zAf rfl h (fun hb h=>?_) (fun hb h=>?_)
 ·refine yAW ?_;refine zAd ?_;obtain⟨hj1,hk1⟩:=pij h;subst hj1;obtain⟨hj2,hk2⟩:=Prod.mk.inj hk1;subst hj2;obtain⟨hj3,hk3⟩:=Prod.mk.inj hk2;subst hj3;subst hk3;unfold zBb;exact⟨_,(Le.rnm [(0,0)] [(2,.s (.int .i64 0)),(3,.s (.int .u64 0)),(4,.s (.bool false))] [(0,.box 130 [.s (.sl 1 ((List.map brow) o1))])] 1 ⟨rfl,rfl,rfl,trivial⟩ ⟨rfl,⟨_,rfl,rfl⟩,trivial⟩),rfl,rfl,rfl,rfl,trivial⟩
 ·refine zAe ?_;refine zAa ?_;refine zAK [] [18,26] [3,11] rfl (by decide +kernel) ?_;obtain⟨e3,he3,h⟩:=zAc h;refine And.intro (zAn (fun _=>rfl) he3).1 ?_;intro r4 hr4;obtain rfl:[.int .u8 (e3.toNat:Int)]=r4:=(hr4.trans (zAn (fun _=>rfl) he3).2.1).symm;refine And.intro (by decide) ?_;obtain⟨e5,he5,h⟩:=zAc h;refine And.intro (zAn (fun _=>rfl) he5).1 ?_;intro r6 hr6;obtain rfl:[.int .u8 (e5.toNat:Int)]=r6:=(hr6.trans (zAn (fun _=>rfl) he5).2.1).symm;refine yAh [] [35] rfl ?_;obtain⟨hq,h⟩:=zAw h
  refine And.intro ⟨hq.1,Int.le_trans hq.2.1 (Int.ofNat_le.2 (Nat.le_of_eq (rlen (fun _=>rfl) _).symm)),Int.le_refl _⟩ ?_;intro r7 hr7;obtain rfl:(List.map brow) ((o1.take (o1.length:Int).toNat).drop (1:Int).toNat)=r7:=(hr7.trans ((congrArg (fun m:Nat=>(((List.map brow) o1).take m).drop (1:Int).toNat) (rlen (fun _=>rfl) _)).trans (rcut (fun _=>rfl) _ _ _))).symm;refine zAa ?_;refine yAW ?_;refine zAf rfl h (fun hb h=>?_) (fun hb h=>?_)
  ·refine yAW ?_;refine zAd ?_;obtain⟨hj1,hk1⟩:=pij h;subst hj1;obtain⟨hj2,hk2⟩:=Prod.mk.inj hk1;subst hj2;obtain⟨hj3,hk3⟩:=Prod.mk.inj hk2;subst hj3;subst hk3;unfold zBb;exact⟨_,(Le.rnm [(0,0)] [(2,.s (.int .i64 0)),(3,.s (.int .u64 0)),(4,.s (.bool false))] [(0,.box 130 [.s (.sl 1 ((List.map brow) ((o1.take (o1.length:Int).toNat).drop (1:Int).toNat)))])] 1 ⟨rfl,rfl,rfl,trivial⟩ ⟨rfl,⟨_,rfl,rfl⟩,trivial⟩),rfl,rfl,rfl,rfl,trivial⟩
  ·refine zAe ?_;refine zAa ?_;refine yAW ?_;refine zAf rfl h (fun hb h=>?_) (fun hb h=>?_)
   ·refine yAW ?_;refine zAd ?_;obtain⟨hj1,hk1⟩:=pij h;subst hj1;obtain⟨hj2,hk2⟩:=Prod.mk.inj hk1;subst hj2;obtain⟨hj3,hk3⟩:=Prod.mk.inj hk2;subst hj3;subst hk3;unfold zBb;exact⟨_,(Le.rnm [(0,0)] [(2,.s (.int .i64 (IntKind.i64.wrap ((e3.toNat:Int).fdiv (2 ^ (min (6:Int).toNat IntKind.u8.bits)))))),(3,.s (.int .u64 (IntKind.u64.wrap (zCA .and .u8 (e5.toNat:Int) 63)))),(4,.s (.bool true))] [(0,.box 130 [.s (.sl 1 ((List.map brow) ((o1.take (o1.length:Int).toNat).drop (1:Int).toNat)))])] 1 ⟨rfl,rfl,rfl,trivial⟩ ⟨rfl,⟨_,rfl,rfl⟩,trivial⟩),rfl,rfl,rfl,rfl,trivial⟩
   ·refine zAe ?_;refine yAW ?_;refine zAa ?_;refine yAh [] [52] rfl ?_;intro n8 hn8;obtain rfl:(((o1.take (o1.length:Int).toNat).drop (1:Int).toNat).length:Int)=n8:=(hn8.trans (congrArg (fun m:Nat=>(m:Int)) (rlen (fun _=>rfl) ((o1.take (o1.length:Int).toNat).drop (1:Int).toNat)))).symm;refine zAf rfl h (fun hb h=>?_) (fun hb h=>?_)
    ·refine yAW ?_;refine zAd ?_;obtain⟨hj1,hk1⟩:=pij h;subst hj1;obtain⟨hj2,hk2⟩:=Prod.mk.inj hk1;subst hj2;obtain⟨hj3,hk3⟩:=Prod.mk.inj hk2;subst hj3;subst hk3;unfold zBb;exact⟨_,(Le.rnm [(0,0)] [(2,.s (.int .i64 0)),(3,.s (.int .u64 0)),(4,.s (.bool false))] [(0,.box 130 [.s (.sl 1 ((List.map brow) ((o1.take (o1.length:Int).toNat).drop (1:Int).toNat)))])] 1 ⟨rfl,rfl,rfl,trivial⟩ ⟨rfl,⟨_,rfl,rfl⟩,trivial⟩),rfl,rfl,rfl,rfl,trivial⟩
    ·refine zAe ?_;refine yAW ?_;refine zAa ?_;refine yAh [] [60,61] rfl ?_;obtain⟨hq,h⟩:=zAw h;refine And.intro ⟨hq.1,hq.2.1,Int.le_trans hq.2.2 (Int.ofNat_le.2 (Nat.le_of_eq (rlen (fun _=>rfl) _).symm))⟩ ?_;intro r9 hr9;obtain rfl:(List.map brow) ((((o1.take (o1.length:Int).toNat).drop (1:Int).toNat).take (IntKind.i64.wrap ((IntKind.i64.wrap ((IntKind.i64.wrap (IntKind.u64.wrap (zCA .and .u8 (e5.toNat:Int) 63))) - 56))+1)).toNat).drop (0:Int).toNat)=r9:=(hr9.trans (rcut (fun _=>rfl) _ _ _)).symm;intro n10 hn10
     obtain rfl:(((((o1.take (o1.length:Int).toNat).drop (1:Int).toNat).take (IntKind.i64.wrap ((IntKind.i64.wrap ((IntKind.i64.wrap (IntKind.u64.wrap (zCA .and .u8 (e5.toNat:Int) 63))) - 56))+1)).toNat).drop (0:Int).toNat).length:Int)=n10:=(hn10.trans (congrArg (fun m:Nat=>(m:Int)) (rlen (fun _=>rfl) ((((o1.take (o1.length:Int).toNat).drop (1:Int).toNat).take (IntKind.i64.wrap ((IntKind.i64.wrap ((IntKind.i64.wrap (IntKind.u64.wrap (zCA .and .u8 (e5.toNat:Int) 63))) - 56))+1)).toNat).drop (0:Int).toNat)))).symm;show Tri ..;obtain⟨x13,hl,h⟩:=zAc h
     refine zAl ⟨ofL [(0,.op 0 0),(2,.s (.int .i64 (IntKind.i64.wrap ((e3.toNat:Int).fdiv (2 ^ (min (6:Int).toNat IntKind.u8.bits)))))),(3,.s (.int .u64 x13)),(5,.s (.int .i64 (IntKind.i64.wrap ((IntKind.i64.wrap ((IntKind.i64.wrap (IntKind.u64.wrap (zCA .and .u8 (e5.toNat:Int) 63))) - 56))+1))))],ofH [(0,.box 130 [.s (.sl 1 ((List.map brow) ((o1.take (o1.length:Int).toNat).drop (1:Int).toNat)))])],1⟩ ?_ (fun σ' hle=>?_)
     ·refine zAi (zAt (X:=Nat×Int×Int) (fun y=>match y with | (k,x11,x12)=>⟨ofL [(0,.op 0 0),(2,.s (.int .i64 (IntKind.i64.wrap ((e3.toNat:Int).fdiv (2 ^ (min (6:Int).toNat IntKind.u8.bits)))))),(3,.s (.int .u64 x11)),(5,.s (.int .i64 (IntKind.i64.wrap ((IntKind.i64.wrap ((IntKind.i64.wrap (IntKind.u64.wrap (zCA .and .u8 (e5.toNat:Int) 63))) - 56))+1)))),(60,.s (.sl 1 ((List.map brow) ((((o1.take (o1.length:Int).toNat).drop (1:Int).toNat).take (IntKind.i64.wrap ((IntKind.i64.wrap ((IntKind.i64.wrap (IntKind.u64.wrap (zCA .and .u8 (e5.toNat:Int) 63))) - 56))+1)).toNat).drop (0:Int).toNat)))),(61,.s (.int .i64 (((((o1.take (o1.length:Int).toNat).drop (1:Int).toNat).take (IntKind.i64.wrap ((IntKind.i64.wrap ((IntKind.i64.wrap (IntKind.u64.wrap (zCA .and .u8 (e5.toNat:Int) 63))) - 56))+1)).toNat).drop (0:Int).toNat).length:Int))),(62,.s (.int .i64 x12))],ofH [(0,.box 130 [.s (.sl 1 ((List.map brow) ((o1.take (o1.length:Int).toNat).drop (1:Int).toNat)))])],1⟩) (fun y=>zAT o1 e5 y.1 y.2.1 y.2.2=some x13) (fun y=>y.1) (n,0,0) hl ?_ ?_)
      ·exact(Le.rnm [(0,0)] _ _ _ ⟨rfl,rfl,rfl,rfl,rfl,rfl,rfl,trivial⟩ ⟨rfl,⟨_,rfl,rfl⟩,trivial⟩)
      ·rintro⟨k,x11,x12⟩ h;cases k with
       | zero=>cases h
       | succ k =>
        replace h:zAT o1 e5 (k+1) x11 x12=some x13:=h;rw[zAT]at h;refine yAW ?_;refine zAa ?_;refine zAf rfl h (fun hb h=>?_) (fun hb h=>?_)
        ·refine zAe ?_;refine zAa ?_;refine zAi ?_;refine yAh [] [64] rfl ?_;obtain⟨e14,he14,h⟩:=zAc h;refine And.intro (zAn (fun _=>rfl) he14).1 ?_;intro r15 hr15;obtain rfl:[.int .u8 (e14.toNat:Int)]=r15:=(hr15.trans (zAn (fun _=>rfl) he14).2.1).symm;refine yAV ?_;refine And.intro (by decide) ?_;refine yAV ?_
         refine⟨(k,zCA .or .u64 (IntKind.u64.wrap (x11 * 2 ^ (min (8:Int).toNat IntKind.u64.bits))) (IntKind.u64.wrap (e14.toNat:Int)),IntKind.i64.wrap (x12+1)),h,(Le.rnm [(0,0)] _ _ _ ⟨rfl,rfl,rfl,rfl,rfl,rfl,rfl,trivial⟩ ⟨rfl,⟨_,rfl,rfl⟩,trivial⟩),Nat.lt_succ_self k⟩
        ·refine zAy ?_;cases h;exact(Le.rnm [(0,0)] _ _ _ ⟨rfl,rfl,rfl,rfl,trivial⟩ ⟨rfl,⟨_,rfl,rfl⟩,trivial⟩)
     ·refine zAh hle ?_;refine yAh [] [78] rfl ?_;obtain⟨hq,h⟩:=zAw h;refine And.intro ⟨hq.1,Int.le_trans hq.2.1 (Int.ofNat_le.2 (Nat.le_of_eq (rlen (fun _=>rfl) _).symm)),Int.le_refl _⟩ ?_;intro r16 hr16
      obtain rfl:(List.map brow) ((((o1.take (o1.length:Int).toNat).drop (1:Int).toNat).take (((o1.take (o1.length:Int).toNat).drop (1:Int).toNat).length:Int).toNat).drop (IntKind.i64.wrap ((IntKind.i64.wrap ((IntKind.i64.wrap (IntKind.u64.wrap (zCA .and .u8 (e5.toNat:Int) 63))) - 56))+1)).toNat)=r16:=(hr16.trans ((congrArg (fun m:Nat=>(((List.map brow) ((o1.take (o1.length:Int).toNat).drop (1:Int).toNat)).take m).drop (IntKind.i64.wrap ((IntKind.i64.wrap ((IntKind.i64.wrap (IntKind.u64.wrap (zCA .and .u8 (e5.toNat:Int) 63))) - 56))+1)).toNat) (rlen (fun _=>rfl) _)).trans (rcut (fun _=>rfl) _ _ _))).symm;refine zAa ?_
      obtain⟨x17,hj,h⟩:=zAc h;refine zAl ⟨ofL [(2,.s (.int .i64 (IntKind.i64.wrap ((e3.toNat:Int).fdiv (2 ^ (min (6:Int).toNat IntKind.u8.bits)))))),(3,.s (.int .u64 x13)),(4,.s (.bool x17))],ofH [(0,.box 130 [.s (.sl 1 ((List.map brow) ((((o1.take (o1.length:Int).toNat).drop (1:Int).toNat).take (((o1.take (o1.length:Int).toNat).drop (1:Int).toNat).length:Int).toNat).drop (IntKind.i64.wrap ((IntKind.i64.wrap ((IntKind.i64.wrap (IntKind.u64.wrap (zCA .and .u8 (e5.toNat:Int) 63))) - 56))+1)).toNat)))])],1⟩ ?_ (fun σ' hle=>?_)
      ·replace h:=hj;refine zAb [] [85] rfl ?_;intro b hb;cases b with
       | true =>
        replace h:=zAv hb.symm h;obtain⟨y18,hy18,h⟩:=zAc h;refine⟨_,⟨_,_,_,hy18,rfl,rfl⟩,?_⟩
        cases h;exact(Le.rnm [(0,0)] _ _ _ ⟨rfl,rfl,rfl,trivial⟩ ⟨rfl,⟨_,rfl,rfl⟩,trivial⟩)
       | false =>
        replace h:=zAu hb.symm h;cases h;exact(Le.rnm [(0,0)] _ _ _ ⟨rfl,rfl,rfl,trivial⟩ ⟨rfl,⟨_,rfl,rfl⟩,trivial⟩)
      ·refine zAh hle ?_;refine zAd ?_;obtain⟨hj1,hk1⟩:=pij h;subst hj1;obtain⟨hj2,hk2⟩:=Prod.mk.inj hk1;subst hj2;obtain⟨hj3,hk3⟩:=Prod.mk.inj hk2;subst hj3;subst hk3;unfold zBb
       exact⟨_,(Le.rnm [(0,0)] [(2,.s (.int .i64 (IntKind.i64.wrap ((e3.toNat:Int).fdiv (2 ^ (min (6:Int).toNat IntKind.u8.bits)))))),(3,.s (.int .u64 x13)),(4,.s (.bool x17))] [(0,.box 130 [.s (.sl 1 ((List.map brow) ((((o1.take (o1.length:Int).toNat).drop (1:Int).toNat).take (((o1.take (o1.length:Int).toNat).drop (1:Int).toNat).length:Int).toNat).drop (IntKind.i64.wrap ((IntKind.i64.wrap ((IntKind.i64.wrap (IntKind.u64.wrap (zCA .and .u8 (e5.toNat:Int) 63))) - 56))+1)).toNat)))])] 1 ⟨rfl,rfl,rfl,trivial⟩ ⟨rfl,⟨_,rfl,rfl⟩,trivial⟩),rfl,rfl,rfl,rfl,trivial⟩
def zKW (xs:List AV) (os:List Ob) (x:AV) (os':List (Option Ob)):Prop:=∃ (a0:(List UInt8)) (a1:Int) (y0:List UInt8) (y1:Bool) (z0:(List UInt8)),zCL a0 a1=some (y0,y1,z0)/\xs=[.op 0 0,.s (.int .u64 a1)]/\os=[.box 130 ((zAG a0).map .s)]/\x = .tup [.s (.str y0),.s (.bool y1)]/\os'=[some (.box 130 ((zAG z0).map .s))]
def zG0:zAr:=zBI (fun xs os x os'=>zKW xs os x os')
theorem zKl:PSound Tryz.prog 122 zG0:=by
 have gok:=@gok0 Tryz.prog;refine PSound.withNil (zDZ tokW Tryz.call122 Tryz.func122 rfl (fun xs os x os' h=>by obtain⟨_,_,_,_,_,_,rfl,rfl,_,rfl⟩:=h; exact⟨by show 2<=32; decide,by show 1<=1; decide⟩) 32 rfl ?_) _;rintro xs os x os' w0 G0 B0 ⟨r1,n2,y0,y1,z0,h,rfl,rfl,rfl,rfl⟩ _;rw[zCL]at h;refine yAW ?_;refine zAa ?_;refine yAh [] [12] rfl ?_;intro n3 hn3;obtain rfl:(r1.length:Int)=n3:=(hn3.trans (congrArg (fun m:Nat=>(m:Int)) (rlen (fun _=>rfl) r1))).symm;refine zAf rfl h (fun hb h=>?_) (fun hb h=>?_)
 ·refine yAW ?_;refine zAd ?_;obtain⟨hj1,hk1⟩:=pij h;subst hj1;obtain⟨hj2,hk2⟩:=Prod.mk.inj hk1;subst hj2;subst hk2;unfold zBb;exact⟨_,(Le.rnm [(0,0)] [(4,.s (.str [])),(5,.s (.bool false))] [(0,.box 130 [.s (.sl 1 ((List.map brow) r1))])] 1 ⟨rfl,rfl,trivial⟩ ⟨rfl,⟨_,rfl,rfl⟩,trivial⟩),rfl,rfl,rfl,rfl,trivial⟩
 ·refine zAe ?_;refine yAh [] [20,21] rfl ?_;obtain⟨hq,h⟩:=zAw h;refine And.intro ⟨hq.1,hq.2.1,Int.le_trans hq.2.2 (Int.ofNat_le.2 (Nat.le_of_eq (rlen (fun _=>rfl) _).symm))⟩ ?_;intro r4 hr4;obtain rfl:(List.map brow) ((r1.take n2.toNat).drop (0:Int).toNat)=r4:=(hr4.trans (rcut (fun _=>rfl) _ _ _)).symm;refine And.intro (show List.map brow ((r1.take n2.toNat).drop (0:Int).toNat)=((List.map brow ((r1.take n2.toNat).drop (0:Int).toNat)).map zGB).map brow from by rw[zC7]) ?_;intro s5 hs5;obtain rfl:(r1.take n2.toNat).drop (0:Int).toNat=s5:=(hs5.trans (zC7 _)).symm;show Tri ..
  refine yAh [] [28] rfl ?_;obtain⟨hq,h⟩:=zAw h;refine And.intro ⟨hq.1,Int.le_trans hq.2.1 (Int.ofNat_le.2 (Nat.le_of_eq (rlen (fun _=>rfl) _).symm)),Int.le_refl _⟩ ?_;intro r6 hr6;obtain rfl:(List.map brow) ((r1.take (r1.length:Int).toNat).drop n2.toNat)=r6:=(hr6.trans ((congrArg (fun m:Nat=>(((List.map brow) r1).take m).drop n2.toNat) (rlen (fun _=>rfl) _)).trans (rcut (fun _=>rfl) _ _ _))).symm;refine yAW ?_;refine zAd ?_;obtain⟨hj1,hk1⟩:=pij h;subst hj1;obtain⟨hj2,hk2⟩:=Prod.mk.inj hk1;subst hj2;subst hk2;unfold zBb
  exact⟨_,(Le.rnm [(0,0)] [(4,.s (.str ((r1.take n2.toNat).drop (0:Int).toNat))),(5,.s (.bool true))] [(0,.box 130 [.s (.sl 1 ((List.map brow) ((r1.take (r1.length:Int).toNat).drop n2.toNat)))])] 1 ⟨rfl,rfl,trivial⟩ ⟨rfl,⟨_,rfl,rfl⟩,trivial⟩),rfl,rfl,rfl,rfl,trivial⟩
def zBZ (n:Nat) (xs:List AV) (os:List Ob) (x:AV) (os':List (Option Ob)):Prop:=∃ (a0:Int) (a1:(List UInt8)) (y0:CV) (y1:Bool) (z1:(List UInt8)),zAA n a0 a1=some (y0,y1,z1)/\xs=[.s (.int .i64 a0),.op 0 0,.op 2 0]/\os=[.box 128 [.op 1 0],.box 130 ((zAG a1).map .s),.box 175 [.clo 120 [.op 0 0,.op 2 0]]]/\x = .tup [.agg ((CV.enc y0).map .s),.s (.bool y1)]/\os'=[some (.box 128 [.op 1 0]),some (.box 130 ((zAG z1).map .s)),some (.box 175 [.clo 120 [.op 0 0,.op 2 0]])]
theorem zSm {α:Type}{a b:α} (h:a=b:=by simp[List.map_append,List.map_take,List.map_drop,irow,brow,zEa,List.map_cons,List.map_nil,zDr,CV.encs_eq,CV.enc,Nd.encs_eq,Nd.enc,zAG]):a=b :=
 h
theorem zH8 (n:Nat) (ih:PSound Tryz.prog 120 (zBI (zBZ n))):PSound Tryz.prog 120 (zBI (zBZ (n+1))):=by
 have gok:∀ f s,look? f [(121,zGZ),(122,zG0),(120,zBI (zBZ n))]=some s->PSound Tryz.prog f s:=zAm (by
  simp only[List.forall_mem_cons]
  exact⟨zKk,zKl,ih,by simp⟩)
 refine PSound.withNil (zDZ tokW Tryz.call120 Tryz.func120 rfl (fun xs os x os' h=>by obtain⟨_,_,_,_,_,_,rfl,rfl,_,rfl⟩:=h; exact⟨by show 3<=83; decide,by show 3<=3; decide⟩) 83 rfl ?_) _;rintro xs os x os' w0 G0 B0 ⟨a1,o2,y0,y1,z1,h,rfl,rfl,rfl,rfl⟩ _;rw[zAA]at h;refine yAh [4] [] rfl ?_;refine zAa ?_;refine yAW ?_;refine zAf rfl h (fun hb h=>?_) (fun hb h=>?_)
 ·refine yAW ?_;refine zAd ?_;obtain⟨hj1,hk1⟩:=pij h;subst hj1;obtain⟨hj2,hk2⟩:=Prod.mk.inj hk1;subst hj2;subst hk2;unfold zBb;exact⟨_,(Le.rnm [(0,0),(1,1),(2,2),(3,3)] [(4,.op 3 0),(5,.s (.bool false))] [(0,.box 128 [.op 1 0]),(1,.box 130 [.s (.sl 1 ((List.map brow) o2))]),(2,.box 175 [.clo 120 [.op 0 0,.op 2 0]]),(3,.box 68 [.s (.int .i64 0),.s (.int .i64 0),.s (.str []),.nl 4])] 4 ⟨rfl,rfl,trivial⟩ ⟨rfl,⟨_,rfl,rfl⟩,rfl,⟨_,rfl,rfl⟩,rfl,⟨_,rfl,rfl⟩,rfl,⟨_,rfl,rfl⟩,trivial⟩),rfl,rfl,rfl,rfl,rfl,rfl,rfl,rfl,trivial⟩
 ·refine zAe ?_;refine yAW ?_;obtain⟨⟨y3,y4,y5,w6⟩,hy3,h⟩:=zAc h;refine⟨_,_,⟨_,_,_,_,_,_,hy3,rfl,rfl,rfl,rfl⟩,?_⟩
  refine zAa ?_;refine yAW ?_;refine zAf rfl h (fun hb h=>?_) (fun hb h=>?_)
  ·refine yAW ?_;refine zAd ?_;obtain⟨hj1,hk1⟩:=pij h;subst hj1;obtain⟨hj2,hk2⟩:=Prod.mk.inj hk1;subst hj2;subst hk2;unfold zBb;exact⟨_,(Le.rnm [(0,0),(1,1),(2,2),(3,3)] [(4,.op 3 0),(5,.s (.bool false))] [(0,.box 128 [.op 1 0]),(1,.box 130 [.s (.sl 1 ((List.map brow) w6))]),(2,.box 175 [.clo 120 [.op 0 0,.op 2 0]]),(3,.box 68 [.s (.int .i64 0),.s (.int .i64 0),.s (.str []),.nl 4])] 4 ⟨rfl,rfl,trivial⟩ ⟨rfl,⟨_,rfl,rfl⟩,rfl,⟨_,rfl,rfl⟩,rfl,⟨_,rfl,rfl⟩,rfl,⟨_,rfl,rfl⟩,trivial⟩),rfl,rfl,rfl,rfl,rfl,rfl,rfl,rfl,trivial⟩
  ·refine zAe ?_;refine yAh [9] [] rfl ?_;refine zAa ?_;refine yAW ?_;refine zAi ?_;refine yAW ?_;refine zAf rfl h (fun hb h=>?_) (fun hb h=>?_)
   ·refine yAW ?_;refine And.intro (by decide) ?_;refine zAa ?_;refine yAW ?_;show Tri ..;obtain⟨x7,hj,h⟩:=zAc h;refine zAl ⟨ofL [(4,.op 3 0),(9,.op 4 0)],ofH [(0,.box 128 [.op 1 0]),(1,.box 130 [.s (.sl 1 ((List.map brow) w6))]),(2,.box 175 [.clo 120 [.op 0 0,.op 2 0]]),(3,.box 68 [.s (.int .i64 0),.s (.int .i64 0),.s (.str []),.nl 4]),(4,.box 68 [.s (.int .i64 y3),.s (.int .i64 x7),.s (.str []),.nl 4])],5⟩ ?_ (fun σ' hle=>?_)
    ·replace h:=hj;refine zAf rfl h (fun hb h=>?_) (fun hb h=>?_)
     ·refine yAV ?_;cases h;exact(Le.rnm [(0,0),(1,1),(2,2),(3,3),(4,4)] _ _ _ ⟨rfl,rfl,trivial⟩ ⟨rfl,⟨_,rfl,rfl⟩,rfl,⟨_,rfl,rfl⟩,rfl,⟨_,rfl,rfl⟩,rfl,⟨_,rfl,rfl⟩,rfl,⟨_,rfl,rfl⟩,trivial⟩)
     ·refine zAe ?_;cases h;exact(Le.rnm [(0,0),(1,1),(2,2),(3,3),(4,4)] _ _ _ ⟨rfl,rfl,trivial⟩ ⟨rfl,⟨_,rfl,rfl⟩,rfl,⟨_,rfl,rfl⟩,rfl,⟨_,rfl,rfl⟩,rfl,⟨_,rfl,rfl⟩,rfl,⟨_,rfl,rfl⟩,trivial⟩)
    ·refine zAh hle ?_;refine yAW ?_;refine zAd ?_;obtain⟨hj1,hk1⟩:=pij h;subst hj1;obtain⟨hj2,hk2⟩:=Prod.mk.inj hk1;subst hj2;subst hk2;unfold zBb;exact⟨_,(Le.rnm [(0,0),(1,1),(2,2),(3,3)] [(4,.op 3 0),(5,.s (.bool true))] [(0,.box 128 [.op 1 0]),(1,.box 130 [.s (.sl 1 ((List.map brow) w6))]),(2,.box 175 [.clo 120 [.op 0 0,.op 2 0]]),(3,.box 68 [.s (.int .i64 y3),.s (.int .i64 x7),.s (.str []),.nl 4])] 4 ⟨rfl,rfl,trivial⟩ ⟨rfl,⟨_,rfl,rfl⟩,rfl,⟨_,rfl,rfl⟩,rfl,⟨_,rfl,rfl⟩,rfl,⟨_,rfl,rfl⟩,trivial⟩),rfl,rfl,rfl,rfl,rfl,rfl,rfl,rfl,trivial⟩
   ·refine yAW ?_;refine zAf rfl h (fun hb h=>?_) (fun hb h=>?_)
    ·refine yAW ?_;obtain⟨⟨y8,y9,w10⟩,hy8,h⟩:=zAc h;refine⟨_,_,⟨_,_,_,_,_,hy8,rfl,rfl,rfl,rfl⟩,?_⟩
     refine yAW ?_;refine zAd ?_;obtain⟨hj1,hk1⟩:=pij h;subst hj1;obtain⟨hj2,hk2⟩:=Prod.mk.inj hk1;subst hj2;subst hk2;unfold zBb;exact⟨_,(Le.rnm [(0,0),(1,1),(2,2),(3,3)] [(4,.op 3 0),(5,.s (.bool y9))] [(0,.box 128 [.op 1 0]),(1,.box 130 [.s (.sl 1 ((List.map brow) w10))]),(2,.box 175 [.clo 120 [.op 0 0,.op 2 0]]),(3,.box 68 [.s (.int .i64 y3),.s (.int .i64 0),.s (.str y8),.nl 4])] 4 ⟨rfl,rfl,trivial⟩ ⟨rfl,⟨_,rfl,rfl⟩,rfl,⟨_,rfl,rfl⟩,rfl,⟨_,rfl,rfl⟩,rfl,⟨_,rfl,rfl⟩,trivial⟩),rfl,rfl,rfl,rfl,rfl,rfl,rfl,rfl,trivial⟩
    ·refine zAe ?_;refine zAa ?_;refine yAh [] [58] rfl ?_;intro n11 hn11;obtain rfl:(w6.length:Int)=n11:=(hn11.trans (congrArg (fun m:Nat=>(m:Int)) (rlen (fun _=>rfl) w6))).symm;refine zAf rfl h (fun hb h=>?_) (fun hb h=>?_)
     ·refine yAW ?_;refine zAd ?_;obtain⟨hj1,hk1⟩:=pij h;subst hj1;obtain⟨hj2,hk2⟩:=Prod.mk.inj hk1;subst hj2;subst hk2;unfold zBb;exact⟨_,(Le.rnm [(0,0),(1,1),(2,2),(3,3)] [(4,.op 3 0),(5,.s (.bool false))] [(0,.box 128 [.op 1 0]),(1,.box 130 [.s (.sl 1 ((List.map brow) w6))]),(2,.box 175 [.clo 120 [.op 0 0,.op 2 0]]),(3,.box 68 [.s (.int .i64 0),.s (.int .i64 0),.s (.str []),.nl 4])] 4 ⟨rfl,rfl,trivial⟩ ⟨rfl,⟨_,rfl,rfl⟩,rfl,⟨_,rfl,rfl⟩,rfl,⟨_,rfl,rfl⟩,rfl,⟨_,rfl,rfl⟩,trivial⟩),rfl,rfl,rfl,rfl,rfl,rfl,rfl,rfl,trivial⟩
     ·refine zAe ?_;refine zAa ?_;refine yAW ?_;show Tri ..;obtain⟨fl,hl,ho1⟩:=zAc h;refine zBA (fl:=fl) (fun z=>match z with | ⟨x19,l20⟩=>⟨ofL [(4,.op 3 0),(9,.op 4 0)],ofH [(0,.box 128 [.op 1 0]),(1,.box 130 [.s (.sl 1 ((List.map brow) x19))]),(2,.box 175 [.clo 120 [.op 0 0,.op 2 0]]),(3,.box 68 [.s (.int .i64 0),.s (.int .i64 0),.s (.str []),.nl 4]),(4,.box 68 [.s (.int .i64 y3),.s (.int .i64 0),.s (.str []),.orow 5]),(5,.row 68 4 (CV.encs l20))],6⟩) ?_ (fun z σ' hz hle=>?_)
      ·refine zAi (zAt (X:=Nat×(List UInt8)×Int×(List CV)) (fun y=>match y with | (k,x13,x17,l18)=>⟨ofL [(0,.s (.int .i64 a1)),(2,.op 2 0),(4,.op 3 0),(9,.op 4 0),(62,.s (.int .u64 y4)),(63,.s (.int .u64 x17))],ofH [(0,.box 128 [.op 1 0]),(1,.box 130 [.s (.sl 1 ((List.map brow) x13))]),(2,.box 175 [.clo 120 [.op 0 0,.op 2 0]]),(3,.box 68 [.s (.int .i64 0),.s (.int .i64 0),.s (.str []),.nl 4]),(4,.box 68 [.s (.int .i64 y3),.s (.int .i64 0),.s (.str []),.orow 5]),(5,.row 68 4 (CV.encs l18))],6⟩) (fun y=>zAz (zAA n) a1 y4 y.1 y.2.1 y.2.2.1 y.2.2.2=some fl) (fun y=>y.1) (n,w6,0,[]) hl ?_ ?_)
       ·exact(Le.trans (Le.trans (Le.rnm [(0,0),(1,1),(2,2),(3,3),(4,4)] [(0,.s (.int .i64 a1)),(2,.op 2 0),(4,.op 3 0),(9,.op 4 0),(62,.s (.int .u64 y4)),(63,.s (.int .u64 0))] [(0,.box 128 [.op 1 0]),(1,.box 130 [.s (.sl 1 ((List.map brow) w6))]),(2,.box 175 [.clo 120 [.op 0 0,.op 2 0]]),(3,.box 68 [.s (.int .i64 0),.s (.int .i64 0),.s (.str []),.nl 4]),(4,.box 68 [.s (.int .i64 y3),.s (.int .i64 0),.s (.str []),.nl 4])] 5 ⟨rfl,rfl,rfl,rfl,rfl,rfl,trivial⟩ ⟨rfl,⟨_,rfl,rfl⟩,rfl,⟨_,rfl,rfl⟩,rfl,⟨_,rfl,rfl⟩,rfl,⟨_,rfl,rfl⟩,rfl,⟨_,rfl,rfl⟩,trivial⟩) (Le.takeNil 4 3 68 rfl rfl (by decide))) (Le.rnm [(0,0),(1,1),(2,2),(3,3),(4,4),(5,5)] _ _ _ ⟨rfl,rfl,rfl,rfl,rfl,rfl,trivial⟩ ⟨rfl,⟨_,rfl,rfl⟩,rfl,⟨_,rfl,rfl⟩,rfl,⟨_,rfl,rfl⟩,rfl,⟨_,rfl,rfl⟩,rfl,⟨_,rfl,rfl⟩,rfl,⟨_,rfl,congrArg (Ob.row 68 4) zSm⟩,trivial⟩))
       ·rintro⟨k,x13,x17,l18⟩ h;cases k with
        | zero=>cases h
        | succ k =>
         replace h:zAz (zAA n) a1 y4 (k+1) x13 x17 l18=some fl:=h;rw[zAz]at h;refine yAW ?_;refine zAa ?_;refine zAf rfl h (fun hb h=>?_) (fun hb h=>?_)
         ·refine zAe ?_;refine zAa ?_;refine zAi ?_;refine yAh [10] [] rfl ?_;obtain⟨⟨⟨y21A,y21D,y21B,y21C⟩,y22,w23⟩,hy21,h⟩:=zAc h;refine⟨_,_,⟨_,_,_,_,_,hy21,rfl,rfl,rfl,rfl⟩,?_⟩
          refine zAh (Le.giveBox 6 [.int .i64 y21A,.int .i64 y21D,.str y21B,.sl 4 (CV.encs y21C)] rfl rfl) ?_;refine zAa ?_;refine yAW ?_;refine zAf rfl h (fun hb h=>?_) (fun hb h=>?_)
          ·refine yAW ?_;refine zAd ?_;cases h;replace h:some _=some _:=ho1;obtain⟨hj1,hk1⟩:=pij h;subst hj1;obtain⟨hj2,hk2⟩:=Prod.mk.inj hk1;subst hj2;subst hk2;unfold zBb;exact⟨_,(Le.rnm [(0,0),(1,1),(2,2),(3,3)] [(4,.op 3 0),(5,.s (.bool false))] [(0,.box 128 [.op 1 0]),(1,.box 130 [.s (.sl 1 ((List.map brow) w23))]),(2,.box 175 [.clo 120 [.op 0 0,.op 2 0]]),(3,.box 68 [.s (.int .i64 0),.s (.int .i64 0),.s (.str []),.nl 4])] 4 ⟨rfl,rfl,trivial⟩ ⟨rfl,⟨_,rfl,rfl⟩,rfl,⟨_,rfl,rfl⟩,rfl,⟨_,rfl,rfl⟩,rfl,⟨_,rfl,rfl⟩,trivial⟩),rfl,rfl,rfl,rfl,rfl,rfl,rfl,rfl,trivial⟩
          ·refine zAe ?_;refine zAb [79] [78] rfl ?_;intro r24 hr24;obtain rfl:CV.encs [CV.mk y21A y21D y21B y21C]=r24:=(hr24.trans zSm).symm;obtain⟨hq,h⟩:=zAw h
           refine And.intro (show((CV.encs l18).length+(CV.encs [CV.mk y21A y21D y21B y21C]).length) * 56<=140737488355328/\(CV.encs l18).length+(CV.encs [CV.mk y21A y21D y21B y21C]).length<=9223372036854775807 from by simp only[List.length_append,List.length_cons,List.length_nil,List.length_map,rlen CV.encs_eq]at hq ⊢; omega) ?_;show Tri ..
           refine zAh (Le.rnm [(0,0),(1,1),(2,2),(3,3),(4,4),(7,5)] [(0,.s (.int .i64 a1)),(2,.op 2 0),(4,.op 3 0),(9,.op 4 0),(62,.s (.int .u64 y4)),(63,.s (.int .u64 x17))] [(0,.box 128 [.op 1 0]),(1,.box 130 [.s (.sl 1 ((List.map brow) w23))]),(2,.box 175 [.clo 120 [.op 0 0,.op 2 0]]),(3,.box 68 [.s (.int .i64 0),.s (.int .i64 0),.s (.str []),.nl 4]),(4,.box 68 [.s (.int .i64 y3),.s (.int .i64 0),.s (.str []),.orow 5]),(5,.row 68 4 (CV.encs (l18++[CV.mk y21A y21D y21B y21C])))] 6 ⟨rfl,rfl,rfl,rfl,rfl,rfl,trivial⟩ ⟨rfl,⟨_,rfl,rfl⟩,rfl,⟨_,rfl,rfl⟩,rfl,⟨_,rfl,rfl⟩,rfl,⟨_,rfl,rfl⟩,rfl,⟨_,rfl,rfl⟩,rfl,⟨_,rfl,congrArg (Ob.row 68 4) zSm⟩,trivial⟩) ?_
           refine yAV ?_;refine⟨(k,w23,IntKind.u64.wrap (x17+1),l18++[CV.mk y21A y21D y21B y21C]),h,(Le.rnm [(0,0),(1,1),(2,2),(3,3),(4,4),(5,5)] _ _ _ ⟨rfl,rfl,rfl,rfl,rfl,rfl,trivial⟩ ⟨rfl,⟨_,rfl,rfl⟩,rfl,⟨_,rfl,rfl⟩,rfl,⟨_,rfl,rfl⟩,rfl,⟨_,rfl,rfl⟩,rfl,⟨_,rfl,rfl⟩,rfl,⟨_,rfl,rfl⟩,trivial⟩),Nat.lt_succ_self k⟩
         ·refine zAy ?_;cases h;exact⟨_,rfl,(Le.rnm [(0,0),(1,1),(2,2),(3,3),(4,4),(5,5)] _ _ _ ⟨rfl,rfl,trivial⟩ ⟨rfl,⟨_,rfl,rfl⟩,rfl,⟨_,rfl,rfl⟩,rfl,⟨_,rfl,rfl⟩,rfl,⟨_,rfl,rfl⟩,rfl,⟨_,rfl,rfl⟩,rfl,⟨_,rfl,rfl⟩,trivial⟩)⟩
      ·subst hz;obtain⟨x19,l20⟩:=z;replace h:=ho1;refine zAh hle ?_;refine yAW ?_;refine zAd ?_;obtain⟨hj1,hk1⟩:=pij h;subst hj1;obtain⟨hj2,hk2⟩:=Prod.mk.inj hk1;subst hj2;subst hk2;unfold zBb
       exact⟨_,(Le.trans (Le.rnm [(0,0),(1,1),(2,2),(3,3),(5,4)] [(4,.op 3 0),(5,.s (.bool true))] [(0,.box 128 [.op 1 0]),(1,.box 130 [.s (.sl 1 ((List.map brow) x19))]),(2,.box 175 [.clo 120 [.op 0 0,.op 2 0]]),(3,.box 68 [.s (.int .i64 y3),.s (.int .i64 0),.s (.str []),.orow 4]),(4,.row 68 4 (CV.encs l20))] 5 ⟨rfl,rfl,trivial⟩ ⟨rfl,⟨_,rfl,rfl⟩,rfl,⟨_,rfl,rfl⟩,rfl,⟨_,rfl,rfl⟩,rfl,⟨_,rfl,rfl⟩,rfl,⟨_,rfl,rfl⟩,trivial⟩) (Le.giveRow 4 rfl)),rfl,rfl,rfl,rfl,rfl,rfl,rfl,rfl,trivial⟩
theorem zIe:∀ n,PSound Tryz.prog 120 (zBI (zBZ n)):=by
 intro n
 induction n with
 | zero=>exact zHp Tryz.call120 (fun xs os x os' h=>by obtain⟨_,_,_,_,_,h,_⟩:=h; cases h) _
 | succ n ih=>exact zH8 n ih
def zFG:zAr:=zBI (fun xs os x os'=>∃ n,zBZ n xs os x os')
theorem zIT:PSound Tryz.prog 120 zFG:=zIy zIe _
def zKa (n:Nat) (xs:List AV) (os:List Ob) (x:AV) (os':List (Option Ob)):Prop:=∃ (a0:(List UInt8)) (y0:CV) (y1:Bool) (z0:(List UInt8)),zBs n a0=some (y0,y1,z0)/\xs=[.op 0 0]/\os=[.box 130 ((zAG a0).map .s)]/\x = .tup [.agg ((CV.enc y0).map .s),.s (.bool y1)]/\os'=[some (.box 130 ((zAG z0).map .s))]
def zGr:zAr:=zBI (fun xs os x os'=>∃ n,zKa n xs os x os')
theorem zJE:PSound Tryz.prog 82 zGr:=by
 have gok:∀ f s,look? f [(120,zFG)]=some s->PSound Tryz.prog f s:=zAm (by
  simp only[List.forall_mem_cons]
  exact⟨zIT,by simp⟩)
 refine PSound.withNil (zDZ tokW Tryz.call82 Tryz.func82 rfl (fun xs os x os' h=>by obtain⟨n,_,_,_,_,_,rfl,rfl,_,rfl⟩:=h; exact⟨by show 1<=10; decide,by show 1<=1; decide⟩) 10 rfl ?_) _;rintro xs os x os' w0 G0 B0 ⟨n,r1,y0,y1,z0,h,rfl,rfl,rfl,rfl⟩ _;rw[zBs]at h;refine yAh [1,2] [] rfl ?_;refine yAh [4] [] rfl ?_;refine yAW ?_;refine yAW ?_;obtain⟨⟨⟨y2A,y2D,y2B,y2C⟩,y3,w4⟩,hy2,h⟩:=zAc h;refine⟨_,_,⟨_,_,_,_,_,_,hy2,rfl,rfl,rfl,rfl⟩,?_⟩
 refine zAd ?_;obtain⟨hj1,hk1⟩:=pij h;subst hj1;obtain⟨hj2,hk2⟩:=Prod.mk.inj hk1;subst hj2;subst hk2;unfold zBb;exact⟨_,(Le.rnm [(0,0),(2,1)] [(2,.op 1 0),(3,.s (.bool y3))] [(0,.box 130 [.s (.sl 1 ((List.map brow) w4))]),(1,.box 68 [.s (.int .i64 y2A),.s (.int .i64 y2D),.s (.str y2B),.s (.sl 4 (CV.encs y2C))])] 2 ⟨rfl,rfl,trivial⟩ ⟨rfl,⟨_,rfl,rfl⟩,rfl,⟨_,rfl,rfl⟩,trivial⟩),rfl,rfl,rfl,rfl,trivial⟩
def zPE (n:Nat) (xs:List AV) (r:Ret):Prop:=∃ (a0:List UInt8) (y0:CV) (y1:Int),zEU n a0=some (y0,y1)/\xs=[.s (.sl 1 ((List.map brow) a0))]/\r = .val (.tup [.agg ((CV.enc y0).map .s),.s (.int .i64 y1)])
def zKu:zAr:=zAq fun xs r=>∃ n,zPE n xs r
theorem zOW:PSound Tryz.prog 40 zKu:=by
 have gok:∀ f s,look? f [(82,zGr)]=some s->PSound Tryz.prog f s:=zAm (by
  simp only[List.forall_mem_cons]
  exact⟨zJE,by simp⟩)
 refine zAs tokW Tryz.call40 Tryz.func40 rfl (fun xs r h=>by obtain⟨n,_,_,_,_,rfl,_⟩:=h; show 1<=31; decide) 31 rfl ?_;rintro xs r w0 G0 ⟨n,b1,y0,y1,h,rfl,rfl⟩ _;rw[zEU]at h;refine yAh [2] [] rfl ?_;refine zAa ?_;refine yAh [] [8] rfl ?_;intro n2 hn2;obtain rfl:(b1.length:Int)=n2:=(hn2.trans (congrArg (fun m:Nat=>(m:Int)) (rlen (fun _=>rfl) b1))).symm;refine zAf rfl h (fun hb h=>?_) (fun hb h=>?_)
 ·refine yAW ?_;refine zAd ?_;obtain⟨hj1,hk1⟩:=pij h;subst hj1 hk1;exact fin0 rfl rfl
 ·refine zAe ?_;refine yAh [13] [] rfl ?_;refine yAh [5] [] rfl ?_;obtain⟨⟨⟨y3A,y3D,y3B,y3C⟩,y4,w5⟩,hy3,h⟩:=zAc h;refine⟨_,_,⟨_,_,_,_,_,hy3,rfl,rfl,rfl,rfl⟩,?_⟩
  refine zAh (Le.giveBox 2 [.int .i64 y3A,.int .i64 y3D,.str y3B,.sl 4 (CV.encs y3C)] rfl rfl) ?_;refine zAa ?_;refine zAa ?_;obtain⟨x6,hj,h⟩:=zAc h;refine zAl ⟨ofL [(2,.op 0 0),(5,.s (.pt [.int .i64 y3A,.int .i64 y3D,.str y3B,.sl 4 (CV.encs y3C)])),(28,.s (.bool x6))],ofH [(0,.box 68 [.s (.int .i64 0),.s (.int .i64 0),.s (.str []),.nl 4])],1⟩ ?_ (fun σ' hle=>?_)
  ·replace h:=hj;refine zAb [] [21,26] rfl ?_;intro b hb;cases b with
   | true =>
    replace h:=zAv hb.symm h;cases h;exact(Le.rnm [(0,0)] _ _ _ ⟨rfl,rfl,rfl,trivial⟩ ⟨rfl,⟨_,rfl,rfl⟩,trivial⟩)
   | false =>
    replace h:=zAu hb.symm h;intro n7 hn7;obtain rfl:(w5.length:Int)=n7:=(hn7.trans (congrArg (fun m:Nat=>(m:Int)) (rlen (fun _=>rfl) w5))).symm;cases h;exact(Le.rnm [(0,0)] _ _ _ ⟨rfl,rfl,rfl,trivial⟩ ⟨rfl,⟨_,rfl,rfl⟩,trivial⟩)
  ·refine zAh hle ?_;refine zAf rfl h (fun hb h=>?_) (fun hb h=>?_)
   ·refine yAW ?_;refine zAd ?_;obtain⟨hj1,hk1⟩:=pij h;subst hj1 hk1;exact fin0 rfl rfl
   ·refine zAe ?_;refine yAW ?_;refine zAd ?_;obtain⟨hj1,hk1⟩:=pij h;subst hj1 hk1;exact fin0 rfl rfl
def zGU (n:Nat) (xs:List AV) (r:Ret):Prop:=∃ (a0:CV) (a1:CV) (y0:Bool),zDi n a0 a1=some y0/\xs=[.agg ((CV.enc a0).map .s),.agg ((CV.enc a1).map .s)]/\r = .val (.s (.bool y0))
theorem zQi (n:Nat) (ih:PSound Tryz.prog 44 (zAq (zGU n))):PSound Tryz.prog 44 (zAq (zGU (n+1))):=by
 have gok:∀ f s,look? f [(44,zAq (zGU n))]=some s->PSound Tryz.prog f s:=zAm (by
  simp only[List.forall_mem_cons]
  exact⟨ih,by simp⟩)
 refine zAs tokW Tryz.call44 Tryz.func44 rfl (fun xs r h=>by obtain⟨_,_,_,_,rfl,_⟩:=h; show 2<=53; decide) 53 rfl ?_;rintro xs r w0 G0 ⟨⟨a1A,a1D,a1B,a1C⟩,⟨b2A,b2D,b2B,b2C⟩,y0,h,rfl,rfl⟩ _;rw[zDi]at h;refine yAW ?_;refine zAa ?_;refine zAa ?_;obtain⟨x3,hj,h⟩:=zAc h;refine zAl ⟨ofL [(2,.s (.pt [.int .i64 a1A,.int .i64 a1D,.str a1B,.sl 4 (CV.encs a1C)])),(3,.s (.pt [.int .i64 b2A,.int .i64 b2D,.str b2B,.sl 4 (CV.encs b2C)])),(33,.s (.bool x3))],fun _=>none,0⟩ ?_ (fun σ' hle=>?_)
 ·replace h:=hj;refine zAb [] [11,18,25,28,31] rfl ?_;intro b hb;cases b with
  | true =>
   replace h:=zAv hb.symm h;intro b hb;subst hb;intro b hb;subst hb;cases h;exact(Le.forget _ ⟨rfl,rfl,rfl,trivial⟩)
  | false =>
   replace h:=zAu hb.symm h;intro b hb;cases b with
   | true =>
    replace h:=zAv hb.symm h;intro b hb;subst hb;cases h;exact(Le.forget _ ⟨rfl,rfl,rfl,trivial⟩)
   | false =>
    replace h:=zAu hb.symm h;intro b hb;cases b with
    | true =>
     replace h:=zAv hb.symm h;cases h;exact(Le.forget _ ⟨rfl,rfl,rfl,trivial⟩)
    | false =>
     replace h:=zAu hb.symm h;intro n4 hn4;obtain rfl:(a1C.length:Int)=n4:=(hn4.trans (congrArg (fun m:Nat=>(m:Int)) (rlen CV.encs_eq a1C))).symm;intro n5 hn5;obtain rfl:(b2C.length:Int)=n5:=(hn5.trans (congrArg (fun m:Nat=>(m:Int)) (rlen CV.encs_eq b2C))).symm;cases h;exact(Le.forget _ ⟨rfl,rfl,rfl,trivial⟩)
 ·refine zAh hle ?_;refine zAf rfl h (fun hb h=>?_) (fun hb h=>?_)
  ·refine yAW ?_;refine zAd ?_;have hy:=osi h;subst hy;exact fin0 rfl rfl
  ·refine zAe ?_;refine zAa ?_;refine yAW ?_;show Tri ..;obtain⟨fl,hl,ho1⟩:=zAc h;refine zBA (fl:=fl) (fun z=>match z with | _=>⟨ofL [],fun _=>none,0⟩) ?_ (fun z σ' hz hle=>?_)
   ·refine zAi (zAt (X:=Nat×Int) (fun y=>match y with | (k,i6)=>⟨ofL [(2,.s (.pt [.int .i64 a1A,.int .i64 a1D,.str a1B,.sl 4 (CV.encs a1C)])),(3,.s (.pt [.int .i64 b2A,.int .i64 b2D,.str b2B,.sl 4 (CV.encs b2C)])),(5,.s (.int .i64 i6))],fun _=>none,0⟩) (fun y=>zCc (zDi n) a1C b2C y.1 y.2=some fl) (fun y=>y.1) (n,0) hl ?_ ?_)
    ·exact(Le.forget _ ⟨rfl,rfl,rfl,trivial⟩)
    ·rintro⟨k,i6⟩ h;cases k with
     | zero=>cases h
     | succ k =>
      replace h:zCc (zDi n) a1C b2C (k+1) i6=some fl:=h;rw[zCc]at h;refine zAa ?_;refine yAh [] [37] rfl ?_;intro n7 hn7;obtain rfl:(a1C.length:Int)=n7:=(hn7.trans (congrArg (fun m:Nat=>(m:Int)) (rlen CV.encs_eq a1C))).symm;refine zAf rfl h (fun hb h=>?_) (fun hb h=>?_)
      ·refine zAe ?_;refine zAa ?_;refine zAi ?_;refine zAa ?_;refine zAK [] [44,49] [] rfl (by decide +kernel) ?_;obtain⟨⟨e8A,e8D,e8B,e8C⟩,he8,h⟩:=zAc h;refine And.intro (zAn CV.encs_eq he8).1 ?_;intro r9 hr9;obtain rfl:[.int .i64 e8A,.int .i64 e8D,.str e8B,.sl 4 (CV.encs e8C)]=r9:=(hr9.trans (zAn CV.encs_eq he8).2.1).symm;obtain⟨⟨e10A,e10D,e10B,e10C⟩,he10,h⟩:=zAc h;refine And.intro (zAn CV.encs_eq he10).1 ?_;intro r11 hr11
       obtain rfl:[.int .i64 e10A,.int .i64 e10D,.str e10B,.sl 4 (CV.encs e10C)]=r11:=(hr11.trans (zAn CV.encs_eq he10).2.1).symm;obtain⟨y12,hy12,h⟩:=zAc h;refine⟨_,⟨_,_,_,hy12,rfl,rfl⟩,?_⟩
       refine zAf rfl h (fun hb h=>?_) (fun hb h=>?_)
       ·refine yAW ?_;refine zAd ?_;cases h;replace h:some _=some _:=ho1;have hy:=osi h;subst hy;exact fin0 rfl rfl
       ·refine zAe ?_;refine yAV ?_;refine⟨(k,IntKind.i64.wrap (i6+1)),h,(Le.forget _ ⟨rfl,rfl,rfl,trivial⟩),Nat.lt_succ_self k⟩
      ·refine zAy ?_;cases h;exact⟨_,rfl,(Le.forget _ trivial)⟩
   ·subst hz;obtain _:=z;replace h:=ho1;refine zAh hle ?_;refine yAW ?_;refine zAd ?_;have hy:=osi h;subst hy;exact fin0 rfl rfl
theorem zRv:∀ n,PSound Tryz.prog 44 (zAq (zGU n)):=by
 intro n
 induction n with
 | zero=>exact zBo Tryz.call44 (fun xs r h=>by obtain⟨_,_,_,h,_⟩:=h; cases h)
 | succ n ih=>exact zQi n ih
def zOd:zAr:=zAq fun xs r=>∃ n,zGU n xs r
theorem zTL:PSound Tryz.prog 44 zOd:=zBH zRv
def zH9 (n:Nat) (xs:List AV) (r:Ret):Prop:=∃ (a0:List UInt8) (a1:Int) (y0:CV) (y1:Int),zBG n a0 a1=some (y0,y1)/\xs=[.s (.sl 1 ((List.map brow) a0)),.s (.int .i64 a1)]/\r = .val (.tup [.agg ((CV.enc y0).map .s),.s (.int .i64 y1)])
theorem zSt (n:Nat) (ih:PSound Tryz.prog 90 (zAq (zH9 n))):PSound Tryz.prog 90 (zAq (zH9 (n+1))):=by
 have gok:∀ f s,look? f [(90,zAq (zH9 n))]=some s->PSound Tryz.prog f s:=zAm (by
  simp only[List.forall_mem_cons]
  exact⟨ih,by simp⟩)
 refine zAs tokW Tryz.call90 Tryz.func90 rfl (fun xs r h=>by obtain⟨_,_,_,_,_,rfl,_⟩:=h; show 2<=150; decide) 150 rfl ?_;rintro xs r w0 G0 ⟨a1,a2,y0,y1,h,rfl,rfl⟩ _;rw[zBG]at h;refine yAh [4] [] rfl ?_;refine zAa ?_;refine zAa ?_;obtain⟨x3,hj,h⟩:=zAc h;refine zAl ⟨ofL [(0,.s (.sl 1 ((List.map brow) a1))),(1,.s (.int .i64 a2)),(4,.op 0 0),(26,.s (.bool x3))],ofH [(0,.box 75 [.s (.int .i64 0),.s (.int .i64 0),.s (.str []),.nl 4])],1⟩ ?_ (fun σ' hle=>?_)
 ·replace h:=hj;refine zAb [] [15,17,21,23] rfl ?_;intro n4 hn4;obtain rfl:(a1.length:Int)=n4:=(hn4.trans (congrArg (fun m:Nat=>(m:Int)) (rlen (fun _=>rfl) a1))).symm;intro b hb;cases b with
  | true =>
   replace h:=zAv hb.symm h;intro b hb;subst hb;cases h;exact(Le.rnm [(0,0)] _ _ _ ⟨rfl,rfl,rfl,rfl,trivial⟩ ⟨rfl,⟨_,rfl,rfl⟩,trivial⟩)
  | false =>
   replace h:=zAu hb.symm h;intro b hb;cases b with
   | true =>
    replace h:=zAv hb.symm h;cases h;exact(Le.rnm [(0,0)] _ _ _ ⟨rfl,rfl,rfl,rfl,trivial⟩ ⟨rfl,⟨_,rfl,rfl⟩,trivial⟩)
   | false =>
    replace h:=zAu hb.symm h;obtain⟨e5,he5,h⟩:=zAc h;refine And.intro (zAn (fun _=>rfl) he5).1 ?_;intro r6 hr6;obtain rfl:[.int .u8 (e5.toNat:Int)]=r6:=(hr6.trans (zAn (fun _=>rfl) he5).2.1).symm;cases h;exact(Le.rnm [(0,0)] _ _ _ ⟨rfl,rfl,rfl,rfl,trivial⟩ ⟨rfl,⟨_,rfl,rfl⟩,trivial⟩)
 ·refine zAh hle ?_;refine zAf rfl h (fun hb h=>?_) (fun hb h=>?_)
  ·refine yAW ?_;refine zAd ?_;obtain⟨hj1,hk1⟩:=pij h;subst hj1 hk1;exact fin0 rfl rfl
  ·refine zAe ?_;refine yAh [6] [29] rfl ?_;obtain⟨e7,he7,h⟩:=zAc h;refine And.intro (zAn (fun _=>rfl) he7).1 ?_;intro r8 hr8;obtain rfl:[.int .u8 (e7.toNat:Int)]=r8:=(hr8.trans (zAn (fun _=>rfl) he7).2.1).symm;refine And.intro (by decide) ?_;refine yAh [] [35] rfl ?_;obtain⟨e9,he9,h⟩:=zAc h;refine And.intro (zAn (fun _=>rfl) he9).1 ?_;intro r10 hr10;obtain rfl:[.int .u8 (e9.toNat:Int)]=r10:=(hr10.trans (zAn (fun _=>rfl) he9).2.1).symm;refine And.intro (by decide) ?_;refine zAa ?_;refine yAW ?_
   show Tri ..;obtain⟨fl,hj,ho1⟩:=zAc h;refine zBA (fl:=fl) (fun z=>match z with | ⟨x11,x12⟩=>⟨ofL [(0,.s (.sl 1 ((List.map brow) a1))),(1,.s (.int .i64 a2)),(4,.op 0 0),(6,.op 1 0),(7,.s (.int .u64 x11)),(8,.s (.int .i64 x12))],ofH [(0,.box 75 [.s (.int .i64 0),.s (.int .i64 0),.s (.str []),.nl 4]),(1,.box 75 [.s (.int .i64 (IntKind.i64.wrap ((IntKind.i64.wrap (e7.toNat:Int)).tdiv 64))),.s (.int .i64 0),.s (.str []),.nl 4])],2⟩) ?_ (fun z σ' hz hle=>?_)
   ·replace h:=hj;refine zAf rfl h (fun hb h=>?_) (fun hb h=>?_)
    ·refine yAW ?_;refine zAa ?_;refine zAa ?_;obtain⟨x13,hj,h⟩:=zAc h;refine zAl ⟨ofL [(0,.s (.sl 1 ((List.map brow) a1))),(1,.s (.int .i64 a2)),(4,.op 0 0),(6,.op 1 0),(9,.s (.int .i64 (IntKind.i64.wrap ((IntKind.i64.wrap (IntKind.u64.wrap ((e9.toNat:Int).tmod 64))) - 55)))),(54,.s (.bool x13))],ofH [(0,.box 75 [.s (.int .i64 0),.s (.int .i64 0),.s (.str []),.nl 4]),(1,.box 75 [.s (.int .i64 (IntKind.i64.wrap ((IntKind.i64.wrap (e7.toNat:Int)).tdiv 64))),.s (.int .i64 0),.s (.str []),.nl 4])],2⟩ ?_ (fun σ' hle=>?_)
     ·replace h:=hj;refine zAb [] [45,49,51] rfl ?_;intro n14 hn14;obtain rfl:(a1.length:Int)=n14:=(hn14.trans (congrArg (fun m:Nat=>(m:Int)) (rlen (fun _=>rfl) a1))).symm;intro b hb;cases b with
      | true =>
       replace h:=zAv hb.symm h;cases h;exact(Le.rnm [(0,0),(1,1)] _ _ _ ⟨rfl,rfl,rfl,rfl,rfl,rfl,trivial⟩ ⟨rfl,⟨_,rfl,rfl⟩,rfl,⟨_,rfl,rfl⟩,trivial⟩)
      | false =>
       replace h:=zAu hb.symm h;obtain⟨e15,he15,h⟩:=zAc h;refine And.intro (zAn (fun _=>rfl) he15).1 ?_;intro r16 hr16;obtain rfl:[.int .u8 (e15.toNat:Int)]=r16:=(hr16.trans (zAn (fun _=>rfl) he15).2.1).symm;cases h;exact(Le.rnm [(0,0),(1,1)] _ _ _ ⟨rfl,rfl,rfl,rfl,rfl,rfl,trivial⟩ ⟨rfl,⟨_,rfl,rfl⟩,rfl,⟨_,rfl,rfl⟩,trivial⟩)
     ·refine zAh hle ?_;refine zAf rfl h (fun hb h=>?_) (fun hb h=>?_)
      ·refine yAW ?_;refine zAd ?_;cases h;replace h:some _=some _:=ho1;obtain⟨hj1,hk1⟩:=pij h;subst hj1 hk1;exact fin0 rfl rfl
      ·refine zAe ?_;refine yAW ?_;refine zAa ?_;refine yAW ?_;show Tri ..;obtain⟨x19,hl,h⟩:=zAc h
       refine zAl ⟨ofL [(0,.s (.sl 1 ((List.map brow) a1))),(1,.s (.int .i64 a2)),(4,.op 0 0),(6,.op 1 0),(7,.s (.int .u64 x19)),(8,.s (.int .i64 (IntKind.i64.wrap (1+(IntKind.i64.wrap ((IntKind.i64.wrap (IntKind.u64.wrap ((e9.toNat:Int).tmod 64))) - 55))))))],ofH [(0,.box 75 [.s (.int .i64 0),.s (.int .i64 0),.s (.str []),.nl 4]),(1,.box 75 [.s (.int .i64 (IntKind.i64.wrap ((IntKind.i64.wrap (e7.toNat:Int)).tdiv 64))),.s (.int .i64 0),.s (.str []),.nl 4])],2⟩ ?_ (fun σ' hle=>?_)
       ·refine zAi (zAt (X:=Nat×Int×Int) (fun y=>match y with | (k,x17,x18)=>⟨ofL [(0,.s (.sl 1 ((List.map brow) a1))),(1,.s (.int .i64 a2)),(4,.op 0 0),(6,.op 1 0),(7,.s (.int .u64 x18)),(8,.s (.int .i64 (IntKind.i64.wrap (1+(IntKind.i64.wrap ((IntKind.i64.wrap (IntKind.u64.wrap ((e9.toNat:Int).tmod 64))) - 55)))))),(9,.s (.int .i64 (IntKind.i64.wrap ((IntKind.i64.wrap (IntKind.u64.wrap ((e9.toNat:Int).tmod 64))) - 55)))),(10,.s (.int .i64 x17))],ofH [(0,.box 75 [.s (.int .i64 0),.s (.int .i64 0),.s (.str []),.nl 4]),(1,.box 75 [.s (.int .i64 (IntKind.i64.wrap ((IntKind.i64.wrap (e7.toNat:Int)).tdiv 64))),.s (.int .i64 0),.s (.str []),.nl 4])],2⟩) (fun y=>zCB a1 e9 y.1 y.2.1 y.2.2=some x19) (fun y=>y.1) (n,1,0) hl ?_ ?_)
        ·exact(Le.rnm [(0,0),(1,1)] _ _ _ ⟨rfl,rfl,rfl,rfl,rfl,rfl,rfl,rfl,trivial⟩ ⟨rfl,⟨_,rfl,rfl⟩,rfl,⟨_,rfl,rfl⟩,trivial⟩)
        ·rintro⟨k,x17,x18⟩ h;cases k with
         | zero=>cases h
         | succ k =>
          replace h:zCB a1 e9 (k+1) x17 x18=some x19:=h;rw[zCB]at h;refine zAa ?_;refine yAW ?_;refine zAf rfl h (fun hb h=>?_) (fun hb h=>?_)
          ·refine zAe ?_;refine zAa ?_;refine zAi ?_;refine zAb [] [67] rfl ?_;obtain⟨e20,he20,h⟩:=zAc h;refine And.intro (zAn (fun _=>rfl) he20).1 ?_;intro r21 hr21;obtain rfl:[.int .u8 (e20.toNat:Int)]=r21:=(hr21.trans (zAn (fun _=>rfl) he20).2.1).symm;refine yAV ?_;refine⟨(k,IntKind.i64.wrap (x17+1),IntKind.u64.wrap ((IntKind.u64.wrap (256 * x18))+(IntKind.u64.wrap (e20.toNat:Int)))),h,(Le.rnm [(0,0),(1,1)] _ _ _ ⟨rfl,rfl,rfl,rfl,rfl,rfl,rfl,rfl,trivial⟩ ⟨rfl,⟨_,rfl,rfl⟩,rfl,⟨_,rfl,rfl⟩,trivial⟩),Nat.lt_succ_self k⟩
          ·refine zAy ?_;cases h;exact(Le.rnm [(0,0),(1,1)] _ _ _ ⟨rfl,rfl,rfl,rfl,rfl,rfl,trivial⟩ ⟨rfl,⟨_,rfl,rfl⟩,rfl,⟨_,rfl,rfl⟩,trivial⟩)
       ·refine zAh hle ?_;refine yAW ?_;refine zAf rfl h (fun hb h=>?_) (fun hb h=>?_)
        ·refine yAW ?_;refine zAd ?_;cases h;replace h:some _=some _:=ho1;obtain⟨hj1,hk1⟩:=pij h;subst hj1 hk1;exact fin0 rfl rfl
        ·refine zAe ?_;cases h;exact⟨_,rfl,(Le.rnm [(0,0),(1,1)] _ _ _ ⟨rfl,rfl,rfl,rfl,rfl,rfl,trivial⟩ ⟨rfl,⟨_,rfl,rfl⟩,rfl,⟨_,rfl,rfl⟩,trivial⟩)⟩
    ·refine zAe ?_;cases h;exact⟨_,rfl,(Le.rnm [(0,0),(1,1)] _ _ _ ⟨rfl,rfl,rfl,rfl,rfl,rfl,trivial⟩ ⟨rfl,⟨_,rfl,rfl⟩,rfl,⟨_,rfl,rfl⟩,trivial⟩)⟩
   ·subst hz;obtain⟨x11,x12⟩:=z;replace h:=ho1;refine zAh hle ?_;refine zAa ?_;refine yAW ?_;show Tri ..;obtain⟨fl,hj,ho1⟩:=zAc h;refine zBA (fl:=fl) (fun z=>match z with | ⟨x22,x23,x24,l25⟩=>⟨ofL [(4,.op 0 0),(6,.op 1 0),(8,.s (.int .i64 x22))],ofH [(0,.box 75 [.s (.int .i64 0),.s (.int .i64 0),.s (.str []),.nl 4]),(1,.box 75 [.s (.int .i64 (IntKind.i64.wrap ((IntKind.i64.wrap (e7.toNat:Int)).tdiv 64))),.s (.int .i64 x23),.s (.str x24),.orow 2]),(2,.row 75 4 (CV.encs l25))],3⟩) ?_ (fun z σ' hz hle=>?_)
    ·replace h:=hj;refine zAi ?_;refine yAW ?_;refine zAf rfl h (fun hb h=>?_) (fun hb h=>?_)
     ·refine yAW ?_;refine And.intro (by decide) ?_;refine yAW ?_;refine And.intro (by decide) ?_;refine zAf rfl h (fun hb h=>?_) (fun hb h=>?_)
      ·refine yAV ?_;cases h
       exact⟨_,rfl,(Le.trans (Le.trans (Le.rnm [(0,0),(1,1)] [(4,.op 0 0),(6,.op 1 0),(8,.s (.int .i64 x12))] [(0,.box 75 [.s (.int .i64 0),.s (.int .i64 0),.s (.str []),.nl 4]),(1,.box 75 [.s (.int .i64 (IntKind.i64.wrap ((IntKind.i64.wrap (e7.toNat:Int)).tdiv 64))),.s (.int .i64 (IntKind.i64.wrap ((IntKind.i64.wrap (0 - (IntKind.i64.wrap (IntKind.u64.wrap (x11.tdiv 2))))) - 1))),.s (.str []),.nl 4])] 2 ⟨rfl,rfl,rfl,trivial⟩ ⟨rfl,⟨_,rfl,rfl⟩,rfl,⟨_,rfl,rfl⟩,trivial⟩) (Le.takeNil 1 3 75 rfl rfl (by decide))) (Le.rnm [(0,0),(1,1),(2,2)] _ _ _ ⟨rfl,rfl,rfl,trivial⟩ ⟨rfl,⟨_,rfl,rfl⟩,rfl,⟨_,rfl,rfl⟩,rfl,⟨_,rfl,congrArg (Ob.row 75 4) zSm⟩,trivial⟩))⟩
      ·refine zAe ?_;cases h
       exact⟨_,rfl,(Le.trans (Le.trans (Le.rnm [(0,0),(1,1)] [(4,.op 0 0),(6,.op 1 0),(8,.s (.int .i64 x12))] [(0,.box 75 [.s (.int .i64 0),.s (.int .i64 0),.s (.str []),.nl 4]),(1,.box 75 [.s (.int .i64 (IntKind.i64.wrap ((IntKind.i64.wrap (e7.toNat:Int)).tdiv 64))),.s (.int .i64 (IntKind.i64.wrap (IntKind.u64.wrap (x11.tdiv 2)))),.s (.str []),.nl 4])] 2 ⟨rfl,rfl,rfl,trivial⟩ ⟨rfl,⟨_,rfl,rfl⟩,rfl,⟨_,rfl,rfl⟩,trivial⟩) (Le.takeNil 1 3 75 rfl rfl (by decide))) (Le.rnm [(0,0),(1,1),(2,2)] _ _ _ ⟨rfl,rfl,rfl,trivial⟩ ⟨rfl,⟨_,rfl,rfl⟩,rfl,⟨_,rfl,rfl⟩,rfl,⟨_,rfl,congrArg (Ob.row 75 4) zSm⟩,trivial⟩))⟩
     ·refine yAW ?_;refine zAf rfl h (fun hb h=>?_) (fun hb h=>?_)
      ·refine zAa ?_;refine yAh [] [129] rfl ?_;intro n26 hn26;obtain rfl:(a1.length:Int)=n26:=(hn26.trans (congrArg (fun m:Nat=>(m:Int)) (rlen (fun _=>rfl) a1))).symm;refine zAf rfl h (fun hb h=>?_) (fun hb h=>?_)
       ·refine yAW ?_;refine zAd ?_;cases h;replace h:some _=some _:=ho1;obtain⟨hj1,hk1⟩:=pij h;subst hj1 hk1;exact fin0 rfl rfl
       ·refine zAe ?_;refine yAh [] [141,142] rfl ?_;obtain⟨hq,h⟩:=zAw h;refine And.intro ⟨hq.1,hq.2.1,Int.le_trans hq.2.2 (Int.ofNat_le.2 (Nat.le_of_eq (rlen (fun _=>rfl) _).symm))⟩ ?_;intro r27 hr27;obtain rfl:(List.map brow) ((a1.take (IntKind.i64.wrap (x12+(IntKind.i64.wrap x11))).toNat).drop x12.toNat)=r27:=(hr27.trans (rcut (fun _=>rfl) _ _ _)).symm
        refine And.intro (show List.map brow ((a1.take (IntKind.i64.wrap (x12+(IntKind.i64.wrap x11))).toNat).drop x12.toNat)=((List.map brow ((a1.take (IntKind.i64.wrap (x12+(IntKind.i64.wrap x11))).toNat).drop x12.toNat)).map zGB).map brow from by rw[zC7]) ?_;intro s28 hs28;obtain rfl:(a1.take (IntKind.i64.wrap (x12+(IntKind.i64.wrap x11))).toNat).drop x12.toNat=s28:=(hs28.trans (zC7 _)).symm;refine yAV ?_;cases h
        exact⟨_,rfl,(Le.trans (Le.trans (Le.rnm [(0,0),(1,1)] [(4,.op 0 0),(6,.op 1 0),(8,.s (.int .i64 (IntKind.i64.wrap (x12+(IntKind.i64.wrap x11)))))] [(0,.box 75 [.s (.int .i64 0),.s (.int .i64 0),.s (.str []),.nl 4]),(1,.box 75 [.s (.int .i64 (IntKind.i64.wrap ((IntKind.i64.wrap (e7.toNat:Int)).tdiv 64))),.s (.int .i64 0),.s (.str ((a1.take (IntKind.i64.wrap (x12+(IntKind.i64.wrap x11))).toNat).drop x12.toNat)),.nl 4])] 2 ⟨rfl,rfl,rfl,trivial⟩ ⟨rfl,⟨_,rfl,rfl⟩,rfl,⟨_,rfl,rfl⟩,trivial⟩) (Le.takeNil 1 3 75 rfl rfl (by decide))) (Le.rnm [(0,0),(1,1),(2,2)] _ _ _ ⟨rfl,rfl,rfl,trivial⟩ ⟨rfl,⟨_,rfl,rfl⟩,rfl,⟨_,rfl,rfl⟩,rfl,⟨_,rfl,congrArg (Ob.row 75 4) zSm⟩,trivial⟩))⟩
      ·refine zAa ?_;refine yAh [] [78] rfl ?_;intro n29 hn29;obtain rfl:(a1.length:Int)=n29:=(hn29.trans (congrArg (fun m:Nat=>(m:Int)) (rlen (fun _=>rfl) a1))).symm;refine zAf rfl h (fun hb h=>?_) (fun hb h=>?_)
       ·refine yAW ?_;refine zAd ?_;cases h;replace h:some _=some _:=ho1;obtain⟨hj1,hk1⟩:=pij h;subst hj1 hk1;exact fin0 rfl rfl
       ·refine zAe ?_;refine yAW ?_;show Tri ..;obtain⟨fl,hl,ho2⟩:=zAc h;refine zBA (fl:=fl) (fun z=>match z with | ⟨x35,l36⟩=>⟨ofL [(4,.op 0 0),(6,.op 1 0),(8,.s (.int .i64 x35))],ofH [(0,.box 75 [.s (.int .i64 0),.s (.int .i64 0),.s (.str []),.nl 4]),(1,.box 75 [.s (.int .i64 (IntKind.i64.wrap ((IntKind.i64.wrap (e7.toNat:Int)).tdiv 64))),.s (.int .i64 0),.s (.str []),.orow 2]),(2,.row 75 4 (CV.encs l36))],3⟩) ?_ (fun z σ' hz hle=>?_)
        ·refine zAi (zAt (X:=Nat×Int×Int×(List CV)) (fun y=>match y with | (k,x32,x33,l34)=>⟨ofL [(0,.s (.sl 1 ((List.map brow) a1))),(1,.s (.int .i64 a2)),(4,.op 0 0),(6,.op 1 0),(7,.s (.int .u64 x11)),(8,.s (.int .i64 x33)),(11,.s (.int .i64 x32))],ofH [(0,.box 75 [.s (.int .i64 0),.s (.int .i64 0),.s (.str []),.nl 4]),(1,.box 75 [.s (.int .i64 (IntKind.i64.wrap ((IntKind.i64.wrap (e7.toNat:Int)).tdiv 64))),.s (.int .i64 0),.s (.str []),.orow 2]),(2,.row 75 4 (CV.encs l34))],3⟩) (fun y=>zBp (zBG n) a1 a2 x11 y.1 y.2.1 y.2.2.1 y.2.2.2=some fl) (fun y=>y.1) (n,0,x12,[]) hl ?_ ?_)
         ·exact(Le.trans (Le.trans (Le.rnm [(0,0),(1,1)] [(0,.s (.sl 1 ((List.map brow) a1))),(1,.s (.int .i64 a2)),(4,.op 0 0),(6,.op 1 0),(7,.s (.int .u64 x11)),(8,.s (.int .i64 x12)),(11,.s (.int .i64 0))] [(0,.box 75 [.s (.int .i64 0),.s (.int .i64 0),.s (.str []),.nl 4]),(1,.box 75 [.s (.int .i64 (IntKind.i64.wrap ((IntKind.i64.wrap (e7.toNat:Int)).tdiv 64))),.s (.int .i64 0),.s (.str []),.nl 4])] 2 ⟨rfl,rfl,rfl,rfl,rfl,rfl,rfl,trivial⟩ ⟨rfl,⟨_,rfl,rfl⟩,rfl,⟨_,rfl,rfl⟩,trivial⟩) (Le.takeNil 1 3 75 rfl rfl (by decide))) (Le.rnm [(0,0),(1,1),(2,2)] _ _ _ ⟨rfl,rfl,rfl,rfl,rfl,rfl,rfl,trivial⟩ ⟨rfl,⟨_,rfl,rfl⟩,rfl,⟨_,rfl,rfl⟩,rfl,⟨_,rfl,congrArg (Ob.row 75 4) zSm⟩,trivial⟩))
         ·rintro⟨k,x32,x33,l34⟩ h;cases k with
          | zero=>cases h
          | succ k =>
           replace h:zBp (zBG n) a1 a2 x11 (k+1) x32 x33 l34=some fl:=h;rw[zBp]at h;refine zAa ?_;refine yAW ?_;refine zAf rfl h (fun hb h=>?_) (fun hb h=>?_)
           ·refine zAe ?_;refine zAa ?_;refine zAi ?_;refine yAh [12] [93] rfl ?_;obtain⟨hq,h⟩:=zAw h;refine And.intro ⟨hq.1,Int.le_trans hq.2.1 (Int.ofNat_le.2 (Nat.le_of_eq (rlen (fun _=>rfl) _).symm)),Int.le_refl _⟩ ?_;intro r37 hr37;obtain rfl:(List.map brow) ((a1.take (a1.length:Int).toNat).drop x33.toNat)=r37:=(hr37.trans ((congrArg (fun m:Nat=>(((List.map brow) a1).take m).drop x33.toNat) (rlen (fun _=>rfl) _)).trans (rcut (fun _=>rfl) _ _ _))).symm;obtain⟨⟨⟨y38A,y38D,y38B,y38C⟩,y39⟩,hy38,h⟩:=zAc h;refine⟨_,⟨_,_,_,_,hy38,rfl,rfl⟩,?_⟩
            refine zAh (Le.giveBox 3 [.int .i64 y38A,.int .i64 y38D,.str y38B,.sl 4 (CV.encs y38C)] rfl rfl) ?_;refine zAa ?_;refine yAW ?_;refine zAf rfl h (fun hb h=>?_) (fun hb h=>?_)
            ·refine yAW ?_;refine zAd ?_;cases h;replace h:some _=some _:=ho2;cases h;replace h:some _=some _:=ho1;obtain⟨hj1,hk1⟩:=pij h;subst hj1 hk1;exact fin0 rfl rfl
            ·refine zAe ?_;refine yAh [106] [105] rfl ?_;intro r40 hr40;obtain rfl:CV.encs [CV.mk y38A y38D y38B y38C]=r40:=(hr40.trans zSm).symm;obtain⟨hq,h⟩:=zAw h
             refine And.intro (show((CV.encs l34).length+(CV.encs [CV.mk y38A y38D y38B y38C]).length) * 56<=140737488355328/\(CV.encs l34).length+(CV.encs [CV.mk y38A y38D y38B y38C]).length<=9223372036854775807 from by simp only[List.length_append,List.length_cons,List.length_nil,List.length_map,rlen CV.encs_eq]at hq ⊢; omega) ?_;show Tri ..
             refine zAh (Le.rnm [(0,0),(1,1),(4,2)] [(0,.s (.sl 1 ((List.map brow) a1))),(1,.s (.int .i64 a2)),(4,.op 0 0),(6,.op 1 0),(7,.s (.int .u64 x11)),(8,.s (.int .i64 x33)),(11,.s (.int .i64 x32)),(13,.s (.int .i64 y39))] [(0,.box 75 [.s (.int .i64 0),.s (.int .i64 0),.s (.str []),.nl 4]),(1,.box 75 [.s (.int .i64 (IntKind.i64.wrap ((IntKind.i64.wrap (e7.toNat:Int)).tdiv 64))),.s (.int .i64 0),.s (.str []),.orow 2]),(2,.row 75 4 (CV.encs (l34++[CV.mk y38A y38D y38B y38C])))] 3 ⟨rfl,rfl,rfl,rfl,rfl,rfl,rfl,rfl,trivial⟩ ⟨rfl,⟨_,rfl,rfl⟩,rfl,⟨_,rfl,rfl⟩,rfl,⟨_,rfl,congrArg (Ob.row 75 4) zSm⟩,trivial⟩) ?_
             refine yAV ?_;refine yAV ?_;refine⟨(k,IntKind.i64.wrap (x32+1),IntKind.i64.wrap (x33+y39),l34++[CV.mk y38A y38D y38B y38C]),h,(Le.rnm [(0,0),(1,1),(2,2)] _ _ _ ⟨rfl,rfl,rfl,rfl,rfl,rfl,rfl,trivial⟩ ⟨rfl,⟨_,rfl,rfl⟩,rfl,⟨_,rfl,rfl⟩,rfl,⟨_,rfl,rfl⟩,trivial⟩),Nat.lt_succ_self k⟩
           ·refine zAy ?_;cases h;exact⟨_,rfl,(Le.rnm [(0,0),(1,1),(2,2)] _ _ _ ⟨rfl,rfl,rfl,trivial⟩ ⟨rfl,⟨_,rfl,rfl⟩,rfl,⟨_,rfl,rfl⟩,rfl,⟨_,rfl,rfl⟩,trivial⟩)⟩
        ·subst hz;obtain⟨x35,l36⟩:=z;replace h:=ho2;cases h;exact⟨_,rfl,(Le.trans hle (Le.rnm [(0,0),(1,1),(2,2)] _ _ _ ⟨rfl,rfl,rfl,trivial⟩ ⟨rfl,⟨_,rfl,rfl⟩,rfl,⟨_,rfl,rfl⟩,rfl,⟨_,rfl,rfl⟩,trivial⟩))⟩
    ·subst hz;obtain⟨x22,x23,x24,l25⟩:=z;replace h:=ho1;refine zAh hle ?_;refine yAW ?_;refine zAd ?_;obtain⟨hj1,hk1⟩:=pij h;subst hj1 hk1;unfold zDR;exact⟨_,(Le.trans (Le.rnm [(0,0),(2,1)] [(4,.op 0 0),(5,.s (.int .i64 x22))] [(0,.box 75 [.s (.int .i64 (IntKind.i64.wrap ((IntKind.i64.wrap (e7.toNat:Int)).tdiv 64))),.s (.int .i64 x23),.s (.str x24),.orow 1]),(1,.row 75 4 (CV.encs l25))] 2 ⟨rfl,rfl,trivial⟩ ⟨rfl,⟨_,rfl,rfl⟩,rfl,⟨_,rfl,rfl⟩,trivial⟩) (Le.giveRow 1 rfl)),rfl,rfl⟩
theorem zS5:∀ n,PSound Tryz.prog 90 (zAq (zH9 n)):=by
 intro n
 induction n with
 | zero=>exact zBo Tryz.call90 (fun xs r h=>by obtain⟨_,_,_,_,h,_⟩:=h; cases h)
 | succ n ih=>exact zSt n ih
def zQp:zAr:=zAq fun xs r=>∃ n,zH9 n xs r
theorem zU5:PSound Tryz.prog 90 zQp:=zBH zS5
def zSL (n:Nat) (xs:List AV) (r:Ret):Prop:=∃ (a0:List UInt8) (y0:CV) (y1:Int),zGg n a0=some (y0,y1)/\xs=[.s (.sl 1 ((List.map brow) a0))]/\r = .val (.tup [.agg ((CV.enc y0).map .s),.s (.int .i64 y1)])
def zM6:zAr:=zAq fun xs r=>∃ n,zSL n xs r
theorem zR1:PSound Tryz.prog 42 zM6:=by
 have gok:∀ f s,look? f [(90,zQp)]=some s->PSound Tryz.prog f s:=zAm (by
  simp only[List.forall_mem_cons]
  exact⟨zU5,by simp⟩)
 refine zAs tokW Tryz.call42 Tryz.func42 rfl (fun xs r h=>by obtain⟨n,_,_,_,_,rfl,_⟩:=h; show 1<=25; decide) 25 rfl ?_;rintro xs r w0 G0 ⟨n,b1,y0,y1,h,rfl,rfl⟩ _;rw[zGg]at h;refine yAh [2] [] rfl ?_;refine yAh [4] [] rfl ?_;obtain⟨⟨⟨y2A,y2D,y2B,y2C⟩,y3⟩,hy2,h⟩:=zAc h;refine⟨_,⟨_,_,_,_,_,hy2,rfl,rfl⟩,?_⟩
 refine zAh (Le.giveBox 1 [.int .i64 y2A,.int .i64 y2D,.str y2B,.sl 4 (CV.encs y2C)] rfl rfl) ?_;refine zAa ?_;refine zAa ?_;obtain⟨x4,hj,h⟩:=zAc h;refine zAl ⟨ofL [(2,.op 0 0),(4,.s (.pt [.int .i64 y2A,.int .i64 y2D,.str y2B,.sl 4 (CV.encs y2C)])),(22,.s (.bool x4))],ofH [(0,.box 75 [.s (.int .i64 0),.s (.int .i64 0),.s (.str []),.nl 4])],1⟩ ?_ (fun σ' hle=>?_)
 ·replace h:=hj;refine zAb [] [13,16,19] rfl ?_;intro b hb;cases b with
  | true =>
   replace h:=zAv hb.symm h;intro b hb;subst hb;cases h;exact(Le.rnm [(0,0)] _ _ _ ⟨rfl,rfl,rfl,trivial⟩ ⟨rfl,⟨_,rfl,rfl⟩,trivial⟩)
  | false =>
   replace h:=zAu hb.symm h;intro n5 hn5;obtain rfl:(b1.length:Int)=n5:=(hn5.trans (congrArg (fun m:Nat=>(m:Int)) (rlen (fun _=>rfl) b1))).symm;intro b hb;cases b with
   | true =>
    replace h:=zAv hb.symm h;cases h;exact(Le.rnm [(0,0)] _ _ _ ⟨rfl,rfl,rfl,trivial⟩ ⟨rfl,⟨_,rfl,rfl⟩,trivial⟩)
   | false =>
    replace h:=zAu hb.symm h;cases h;exact(Le.rnm [(0,0)] _ _ _ ⟨rfl,rfl,rfl,trivial⟩ ⟨rfl,⟨_,rfl,rfl⟩,trivial⟩)
 ·refine zAh hle ?_;refine zAf rfl h (fun hb h=>?_) (fun hb h=>?_)
  ·refine yAW ?_;refine zAd ?_;obtain⟨hj1,hk1⟩:=pij h;subst hj1 hk1;exact fin0 rfl rfl
  ·refine zAe ?_;refine yAW ?_;refine zAd ?_;obtain⟨hj1,hk1⟩:=pij h;subst hj1 hk1;exact fin0 rfl rfl
def zN2 (n:Nat) (xs:List AV) (r:Ret):Prop:=∃ (a0:Int) (a1:List UInt8) (y0:Int),zCf n a0 a1=some y0/\xs=[.s (.int .u64 a0),.s (.sl 1 ((List.map brow) a1))]/\r = .val (.s (.int .u64 y0))
def zJk:zAr:=zAq fun xs r=>∃ n,zN2 n xs r
theorem zNI:PSound Tryz.prog 64 zJk:=by
 have gok:=@gok0 Tryz.prog;refine zAs tokW Tryz.call64 Tryz.func64 rfl (fun xs r h=>by obtain⟨n,_,_,_,_,rfl,_⟩:=h; show 2<=20; decide) 20 rfl ?_;rintro xs r w0 G0 ⟨n,h1,b2,y0,h,rfl,rfl⟩ _;rw[zCf]at h;refine yAW ?_;refine zAa ?_;refine yAh [] [8] rfl ?_;intro n3 hn3;obtain rfl:(b2.length:Int)=n3:=(hn3.trans (congrArg (fun m:Nat=>(m:Int)) (rlen (fun _=>rfl) b2))).symm;show Tri ..;obtain⟨h6,hl,h⟩:=zAc h;refine zAl ⟨ofL [(0,.s (.int .u64 h6))],fun _=>none,0⟩ ?_ (fun σ' hle=>?_)
 ·refine zAi (zAt (X:=Nat×Int×Int) (fun y=>match y with | (k,h4,x5)=>⟨ofL [(0,.s (.int .u64 h4)),(7,.s (.sl 1 ((List.map brow) b2))),(8,.s (.int .i64 (b2.length:Int))),(9,.s (.int .i64 x5))],fun _=>none,0⟩) (fun y=>zAX b2 y.1 y.2.1 y.2.2=some h6) (fun y=>y.1) (n,h1,0) hl ?_ ?_)
  ·exact(Le.forget _ ⟨rfl,rfl,rfl,rfl,trivial⟩)
  ·rintro⟨k,h4,x5⟩ h;cases k with
   | zero=>cases h
   | succ k =>
    replace h:zAX b2 (k+1) h4 x5=some h6:=h;rw[zAX]at h;refine yAW ?_;refine zAa ?_;refine zAf rfl h (fun hb h=>?_) (fun hb h=>?_)
    ·refine zAe ?_;refine zAa ?_;refine zAi ?_;refine yAh [] [11] rfl ?_;obtain⟨e7,he7,h⟩:=zAc h;refine And.intro (zAn (fun _=>rfl) he7).1 ?_;intro r8 hr8;obtain rfl:[.int .u8 (e7.toNat:Int)]=r8:=(hr8.trans (zAn (fun _=>rfl) he7).2.1).symm;refine yAV ?_;refine yAV ?_;refine⟨(k,IntKind.u64.wrap ((zCA .xor .u64 h4 (IntKind.u64.wrap (e7.toNat:Int))) * 1099511628211),IntKind.i64.wrap (x5+1)),h,(Le.forget _ ⟨rfl,rfl,rfl,rfl,trivial⟩),Nat.lt_succ_self k⟩
    ·refine zAy ?_;cases h;exact(Le.forget _ ⟨rfl,trivial⟩)
 ·refine zAh hle ?_;refine yAW ?_;refine zAd ?_;have hy:=osi h;subst hy;exact fin0 rfl rfl
def zPH (n:Nat) (xs:List AV) (r:Ret):Prop:=∃ (a0:List UInt8) (y0:Int),zBK n a0=some y0/\xs=[.s (.sl 1 ((List.map brow) a0))]/\r = .val (.s (.int .u64 y0))
def zHT:zAr:=zAq fun xs r=>∃ n,zPH n xs r
theorem zJF:PSound Tryz.prog 28 zHT:=by
 have gok:∀ f s,look? f [(64,zJk)]=some s->PSound Tryz.prog f s:=zAm (by
  simp only[List.forall_mem_cons]
  exact⟨zNI,by simp⟩)
 refine zAs tokW Tryz.call28 Tryz.func28 rfl (fun xs r h=>by obtain⟨n,_,_,_,rfl,_⟩:=h; show 1<=5; decide) 5 rfl ?_;rintro xs r w0 G0 ⟨n,b1,y0,h,rfl,rfl⟩ _;rw[zBK]at h;refine yAW ?_;refine yAW ?_;obtain⟨y2,hy2,h⟩:=zAc h;refine⟨_,⟨_,_,_,_,hy2,rfl,rfl⟩,?_⟩
 refine zAd ?_;have hy:=osi h;subst hy;exact fin0 rfl rfl
def zSM (n:Nat) (xs:List AV) (r:Ret):Prop:=∃ (a0:Int) (a1:List UInt8) (y0:Int),zEm n a0 a1=some y0/\xs=[.s (.int .u64 a0),.s (.sl 1 ((List.map brow) a1))]/\r = .val (.s (.int .u64 y0))
def zM7:zAr:=zAq fun xs r=>∃ n,zSM n xs r
theorem zR2:PSound Tryz.prog 71 zM7:=by
 have gok:=@gok0 Tryz.prog;refine zAs tokW Tryz.call71 Tryz.func71 rfl (fun xs r h=>by obtain⟨n,_,_,_,_,rfl,_⟩:=h; show 2<=21; decide) 21 rfl ?_;rintro xs r w0 G0 ⟨n,h1,b2,y0,h,rfl,rfl⟩ _;rw[zEm]at h;refine yAW ?_;refine zAa ?_;refine yAW ?_;show Tri ..;obtain⟨h5,hl,h⟩:=zAc h;refine zAl ⟨ofL [(0,.s (.int .u64 h5))],fun _=>none,0⟩ ?_ (fun σ' hle=>?_)
 ·refine zAi (zAt (X:=Nat×Int×Int) (fun y=>match y with | (k,h3,i4)=>⟨ofL [(0,.s (.int .u64 h3)),(1,.s (.sl 1 ((List.map brow) b2))),(5,.s (.int .i64 i4))],fun _=>none,0⟩) (fun y=>zCi b2 y.1 y.2.1 y.2.2=some h5) (fun y=>y.1) (n,h1,0) hl ?_ ?_)
  ·exact(Le.forget _ ⟨rfl,rfl,rfl,trivial⟩)
  ·rintro⟨k,h3,i4⟩ h;cases k with
   | zero=>cases h
   | succ k =>
    replace h:zCi b2 (k+1) h3 i4=some h5:=h;rw[zCi]at h;refine zAa ?_;refine yAh [] [8] rfl ?_;intro n6 hn6;obtain rfl:(b2.length:Int)=n6:=(hn6.trans (congrArg (fun m:Nat=>(m:Int)) (rlen (fun _=>rfl) b2))).symm;refine zAf rfl h (fun hb h=>?_) (fun hb h=>?_)
    ·refine zAe ?_;refine zAa ?_;refine zAi ?_;refine zAb [] [15] rfl ?_;obtain⟨e7,he7,h⟩:=zAc h;refine And.intro (zAn (fun _=>rfl) he7).1 ?_;intro r8 hr8;obtain rfl:[.int .u8 (e7.toNat:Int)]=r8:=(hr8.trans (zAn (fun _=>rfl) he7).2.1).symm;refine yAV ?_;refine⟨(k,IntKind.u64.wrap ((zCA .xor .u64 h3 (IntKind.u64.wrap (e7.toNat:Int))) * 1099511628211),IntKind.i64.wrap (i4+1)),h,(Le.forget _ ⟨rfl,rfl,rfl,trivial⟩),Nat.lt_succ_self k⟩
    ·refine zAy ?_;cases h;exact(Le.forget _ ⟨rfl,trivial⟩)
 ·refine zAh hle ?_;refine yAW ?_;refine zAd ?_;have hy:=osi h;subst hy;exact fin0 rfl rfl
def zUC (n:Nat) (xs:List AV) (r:Ret):Prop:=∃ (a0:List UInt8) (y0:Int),zE6 n a0=some y0/\xs=[.s (.sl 1 ((List.map brow) a0))]/\r = .val (.s (.int .u64 y0))
def zOe:zAr:=zAq fun xs r=>∃ n,zUC n xs r
theorem zTM:PSound Tryz.prog 32 zOe:=by
 have gok:∀ f s,look? f [(71,zM7)]=some s->PSound Tryz.prog f s:=zAm (by
  simp only[List.forall_mem_cons]
  exact⟨zR2,by simp⟩)
 refine zAs tokW Tryz.call32 Tryz.func32 rfl (fun xs r h=>by obtain⟨n,_,_,_,rfl,_⟩:=h; show 1<=5; decide) 5 rfl ?_;rintro xs r w0 G0 ⟨n,b1,y0,h,rfl,rfl⟩ _;rw[zE6]at h;refine yAW ?_;refine yAW ?_;obtain⟨y2,hy2,h⟩:=zAc h;refine⟨_,⟨_,_,_,_,hy2,rfl,rfl⟩,?_⟩
 refine zAd ?_;have hy:=osi h;subst hy;exact fin0 rfl rfl
def zUD (n:Nat) (xs:List AV) (r:Ret):Prop:=∃ (a0:Int) (y0:List UInt8),zHl n a0=some y0/\xs=[.s (.int .u64 a0)]/\r = .row 5 1 ((List.map brow) y0)
def zOf:zAr:=zAq fun xs r=>∃ n,zUD n xs r
theorem zZ7 {α:Type}{a b:α} (h:a=b:=by simp[List.map_append,List.map_take,List.map_drop,irow,brow,zEa,List.map_cons,List.map_nil,zDr,Nd.encs_eq,Nd.enc,CV.encs_eq,CV.enc,zAG]):a=b :=
 h
theorem zTN:PSound Tryz.prog 31 zOf:=by
 have gok:=@gok0 Tryz.prog;refine zAs tokW Tryz.call31 Tryz.func31 rfl (fun xs r h=>by obtain⟨n,_,_,_,rfl,_⟩:=h; show 1<=19; decide) 19 rfl ?_;rintro xs r w0 G0 ⟨n,n1,y0,h,rfl,rfl⟩ _;rw[zHl]at h;refine yAh [2] [] rfl ?_;refine zAh (Le.rnm [] [(0,.s (.int .u64 n1))] [] 0 ⟨rfl,trivial⟩ trivial) ?_;refine yAh [3] [] rfl ?_;show Tri ..
 refine zAh (Le.rnm [(0,0)] [(0,.s (.int .u64 n1)),(3,.orow 0)] [(0,.row 5 1 ((List.map brow) []))] 1 ⟨rfl,rfl,trivial⟩ ⟨rfl,⟨_,rfl,congrArg (Ob.row 5 1) zZ7⟩,trivial⟩) ?_;refine zAa ?_;refine yAW ?_;show Tri ..;obtain⟨l5,hl,h⟩:=zAc h;refine zAl ⟨ofL [(3,.orow 0)],ofH [(0,.row 5 1 ((List.map brow) l5))],1⟩ ?_ (fun σ' hle=>?_)
 ·refine zAi (zAt (X:=Nat×Int×(List UInt8)) (fun y=>match y with | (k,i3,l4)=>⟨ofL [(0,.s (.int .u64 n1)),(3,.orow 0),(4,.s (.int .i64 i3))],ofH [(0,.row 5 1 ((List.map brow) l4))],1⟩) (fun y=>zDj n1 y.1 y.2.1 y.2.2=some l5) (fun y=>y.1) (n,0,[]) hl ?_ ?_)
  ·exact(Le.rnm [(0,0)] _ _ _ ⟨rfl,rfl,rfl,trivial⟩ ⟨rfl,⟨_,rfl,rfl⟩,trivial⟩)
  ·rintro⟨k,i3,l4⟩ h;cases k with
   | zero=>cases h
   | succ k =>
    replace h:zDj n1 (k+1) i3 l4=some l5:=h;rw[zDj]at h;refine zAa ?_;refine yAW ?_;refine zAf rfl h (fun hb h=>?_) (fun hb h=>?_)
    ·refine zAe ?_;refine zAa ?_;refine zAi ?_;refine zAb [17] [16] rfl ?_;obtain⟨hq,h⟩:=zAw h;refine And.intro hq ?_;intro r6 hr6;obtain rfl:(List.map brow) [b8of (IntKind.u8.wrap (n1.fdiv (2 ^ (min (IntKind.i64.wrap (56 - (IntKind.i64.wrap (8 * i3)))).toNat IntKind.u64.bits))))]=r6:=(hr6.trans zZ7).symm;obtain⟨hq,h⟩:=zAw h
     refine And.intro (show(((List.map brow) l4).length+((List.map brow) [b8of (IntKind.u8.wrap (n1.fdiv (2 ^ (min (IntKind.i64.wrap (56 - (IntKind.i64.wrap (8 * i3)))).toNat IntKind.u64.bits))))]).length) * 1<=140737488355328/\((List.map brow) l4).length+((List.map brow) [b8of (IntKind.u8.wrap (n1.fdiv (2 ^ (min (IntKind.i64.wrap (56 - (IntKind.i64.wrap (8 * i3)))).toNat IntKind.u64.bits))))]).length<=9223372036854775807 from by simp only[List.length_append,List.length_cons,List.length_nil,List.length_map,rlen (fun _=>rfl)]at hq ⊢; omega) ?_;show Tri ..
     refine zAh (Le.rnm [(1,0)] [(0,.s (.int .u64 n1)),(3,.orow 0),(4,.s (.int .i64 i3))] [(0,.row 5 1 ((List.map brow) (l4++[b8of (IntKind.u8.wrap (n1.fdiv (2 ^ (min (IntKind.i64.wrap (56 - (IntKind.i64.wrap (8 * i3)))).toNat IntKind.u64.bits))))])))] 1 ⟨rfl,rfl,rfl,trivial⟩ ⟨rfl,⟨_,rfl,congrArg (Ob.row 5 1) zZ7⟩,trivial⟩) ?_;refine yAV ?_
     refine⟨(k,IntKind.i64.wrap (i3+1),l4++[b8of (IntKind.u8.wrap (n1.fdiv (2 ^ (min (IntKind.i64.wrap (56 - (IntKind.i64.wrap (8 * i3)))).toNat IntKind.u64.bits))))]),h,(Le.rnm [(0,0)] _ _ _ ⟨rfl,rfl,rfl,trivial⟩ ⟨rfl,⟨_,rfl,rfl⟩,trivial⟩),Nat.lt_succ_self k⟩
    ·refine zAy ?_;cases h;exact(Le.rnm [(0,0)] _ _ _ ⟨rfl,trivial⟩ ⟨rfl,⟨_,rfl,rfl⟩,trivial⟩)
 ·refine zAh hle ?_;refine yAW ?_;refine zAd ?_;have hy:=osi h;subst hy;unfold zDR;exact⟨_,Le.refl _ _,0,rfl,rfl⟩
def zRj (n:Nat) (xs:List AV) (r:Ret):Prop:=∃ (a0:List UInt8) (y0:Bool),zFx n a0=some y0/\xs=[.s (.str a0)]/\r = .val (.s (.bool y0))
def zLL:zAr:=zAq fun xs r=>∃ n,zRj n xs r
theorem zP6:PSound Tryz.prog 72 zLL:=by
 have gok:=@gok0 Tryz.prog;refine zAs tokW Tryz.call72 Tryz.func72 rfl (fun xs r h=>by obtain⟨n,_,_,_,rfl,_⟩:=h; show 1<=23; decide) 23 rfl ?_;rintro xs r w0 G0 ⟨n,s1,y0,h,rfl,rfl⟩ _;rw[zFx]at h;refine yAW ?_;refine zAa ?_;refine yAW ?_;show Tri ..;obtain⟨fl,hl,ho1⟩:=zAc h;refine zBA (fl:=fl) (fun z=>match z with | _=>⟨ofL [(0,.s (.str s1))],fun _=>none,0⟩) ?_ (fun z σ' hz hle=>?_)
 ·refine zAi (zAt (X:=Nat×Int) (fun y=>match y with | (k,i2)=>⟨ofL [(0,.s (.str s1)),(3,.s (.int .i64 i2))],fun _=>none,0⟩) (fun y=>zBW s1 y.1 y.2=some fl) (fun y=>y.1) (n,0) hl ?_ ?_)
  ·exact(Le.forget _ ⟨rfl,rfl,trivial⟩)
  ·rintro⟨k,i2⟩ h;cases k with
   | zero=>cases h
   | succ k =>
    replace h:zBW s1 (k+1) i2=some fl:=h;rw[zBW]at h;refine zAa ?_;refine yAW ?_;refine zAf rfl h (fun hb h=>?_) (fun hb h=>?_)
    ·refine zAe ?_;refine zAa ?_;refine zAi ?_;refine zAa ?_;obtain⟨x3,hj,h⟩:=zAc h;refine zAl ⟨ofL [(0,.s (.str s1)),(3,.s (.int .i64 i2)),(19,.s (.bool x3))],fun _=>none,0⟩ ?_ (fun σ' hle=>?_)
     ·replace h:=hj;refine zAb [] [12,14,17] rfl ?_;obtain⟨c4,hc4,h⟩:=zAc h;refine And.intro (zB9 hc4).1 ?_;intro v5 hv5;obtain rfl:(c4.toNat:Int)=v5:=(hv5.trans (zB9 hc4).2).symm;intro b hb;cases b with
      | true =>
       replace h:=zAv hb.symm h;cases h;exact(Le.forget _ ⟨rfl,rfl,rfl,trivial⟩)
      | false =>
       replace h:=zAu hb.symm h;obtain⟨c6,hc6,h⟩:=zAc h;refine And.intro (zB9 hc6).1 ?_;intro v7 hv7;obtain rfl:(c6.toNat:Int)=v7:=(hv7.trans (zB9 hc6).2).symm;cases h;exact(Le.forget _ ⟨rfl,rfl,rfl,trivial⟩)
     ·refine zAh hle ?_;refine zAf rfl h (fun hb h=>?_) (fun hb h=>?_)
      ·refine yAW ?_;refine zAd ?_;cases h;replace h:some _=some _:=ho1;have hy:=osi h;subst hy;exact fin0 rfl rfl
      ·refine zAe ?_;refine yAV ?_;refine⟨(k,IntKind.i64.wrap (i2+1)),h,(Le.forget _ ⟨rfl,rfl,trivial⟩),Nat.lt_succ_self k⟩
    ·refine zAy ?_;cases h;exact⟨_,rfl,(Le.forget _ ⟨rfl,trivial⟩)⟩
 ·subst hz;obtain _:=z;replace h:=ho1;refine zAh hle ?_;refine yAW ?_;refine zAd ?_;have hy:=osi h;subst hy;exact fin0 rfl rfl
def zRo (n:Nat) (xs:List AV) (r:Ret):Prop:=∃ (a0:Nd) (a1:List Int) (y0:Bool),zFA n a0 a1=some y0/\xs=[.agg ((Nd.enc a0).map .s),.s (.sl 1 ((List.map (irow .i64)) a1))]/\r = .val (.s (.bool y0))
def zLP:zAr:=zAq fun xs r=>∃ n,zRo n xs r
theorem zQa:PSound Tryz.prog 149 zLP:=by
 have gok:=@gok0 Tryz.prog;refine zAs tokW Tryz.call149 Tryz.func149 rfl (fun xs r h=>by obtain⟨n,_,_,_,_,rfl,_⟩:=h; show 2<=77; decide) 77 rfl ?_;rintro xs r w0 G0 ⟨n,⟨a1A,a1B,a1F,a1E⟩,a2,y0,h,rfl,rfl⟩ _;rw[zFA]at h;refine yAW ?_;refine yAW ?_;refine zAa ?_;obtain⟨fl,hl,ho1⟩:=zAc h
 refine zBA (fl:=fl) (fun z=>match z with | ⟨x5,⟨x6A,x6B,x6F,x6E⟩⟩=>⟨ofL [(1,.s (.sl 1 ((List.map (irow .i64)) x5))),(5,.s (.pt [.int .i64 x6A,.str x6B,.int .i64 x6F,.sl 4 (Nd.encs x6E)]))],fun _=>none,0⟩) ?_ (fun z σ' hz hle=>?_)
 ·refine zAi (zAt (X:=Nat×(List Int)×Nd) (fun y=>match y with | (k,x3,⟨x4A,x4B,x4F,x4E⟩)=>⟨ofL [(1,.s (.sl 1 ((List.map (irow .i64)) x3))),(5,.s (.pt [.int .i64 x4A,.str x4B,.int .i64 x4F,.sl 4 (Nd.encs x4E)]))],fun _=>none,0⟩) (fun y=>zCt  y.1 y.2.1 y.2.2=some fl) (fun y=>y.1) (n,a2,Nd.mk a1A a1B a1F a1E) hl ?_ ?_)
  ·exact(Le.forget _ ⟨rfl,rfl,trivial⟩)
  ·rintro⟨k,x3,⟨x4A,x4B,x4F,x4E⟩⟩ h;cases k with
   | zero=>cases h
   | succ k =>
    replace h:zCt  (k+1) x3 ⟨x4A,x4B,x4F,x4E⟩=some fl:=h;rw[zCt]at h;refine zAa ?_;refine yAh [] [9] rfl ?_;intro n7 hn7;obtain rfl:(x3.length:Int)=n7:=(hn7.trans (congrArg (fun m:Nat=>(m:Int)) (rlen (fun _=>rfl) x3))).symm;refine zAf rfl h (fun hb h=>?_) (fun hb h=>?_)
    ·refine zAe ?_;refine zAa ?_;refine zAi ?_;refine zAa ?_;refine zAK [] [14,17] [] rfl (by decide +kernel) ?_;obtain⟨e8,he8,h⟩:=zAc h;refine And.intro (zAn (fun _=>rfl) he8).1 ?_;intro r9 hr9;obtain rfl:[.int .i64 e8]=r9:=(hr9.trans (zAn (fun _=>rfl) he8).2.1).symm;obtain⟨e10,he10,h⟩:=zAc h;refine And.intro (zAn (fun _=>rfl) he10).1 ?_;intro r11 hr11;obtain rfl:[.int .i64 e10]=r11:=(hr11.trans (zAn (fun _=>rfl) he10).2.1).symm;refine zAa ?_;refine zAa ?_;obtain⟨x12,hj,h⟩:=zAc h
     refine zAl ⟨ofL [(1,.s (.sl 1 ((List.map (irow .i64)) x3))),(5,.s (.pt [.int .i64 x4A,.str x4B,.int .i64 x4F,.sl 4 (Nd.encs x4E)])),(6,.s (.int .i64 e8)),(7,.s (.int .i64 e10)),(46,.s (.bool x12))],fun _=>none,0⟩ ?_ (fun σ' hle=>?_)
     ·replace h:=hj;refine zAb [] [21,27,30,34,41,44] rfl ?_;intro b hb;cases b with
      | true =>
       replace h:=zAv hb.symm h;intro b hb;subst hb;intro b hb;subst hb;cases h;exact(Le.forget _ ⟨rfl,rfl,rfl,rfl,rfl,trivial⟩)
      | false =>
       replace h:=zAu hb.symm h;intro n13 hn13;obtain rfl:(x4E.length:Int)=n13:=(hn13.trans (congrArg (fun m:Nat=>(m:Int)) (rlen Nd.encs_eq x4E))).symm;intro b hb;cases b with
       | true =>
        replace h:=zAv hb.symm h;intro b hb;subst hb;cases h;exact(Le.forget _ ⟨rfl,rfl,rfl,rfl,rfl,trivial⟩)
       | false =>
        replace h:=zAu hb.symm h;intro b hb;cases b with
        | true =>
         replace h:=zAv hb.symm h;cases h;exact(Le.forget _ ⟨rfl,rfl,rfl,rfl,rfl,trivial⟩)
        | false =>
         replace h:=zAu hb.symm h;obtain⟨⟨e14A,e14B,e14F,e14E⟩,he14,h⟩:=zAc h;refine And.intro (zAn Nd.encs_eq he14).1 ?_;intro r15 hr15;obtain rfl:[.int .i64 e14A,.str e14B,.int .i64 e14F,.sl 4 (Nd.encs e14E)]=r15:=(hr15.trans (zAn Nd.encs_eq he14).2.1).symm;intro n16 hn16;obtain rfl:(e14E.length:Int)=n16:=(hn16.trans (congrArg (fun m:Nat=>(m:Int)) (rlen Nd.encs_eq e14E))).symm;cases h;exact(Le.forget _ ⟨rfl,rfl,rfl,rfl,rfl,trivial⟩)
     ·refine zAh hle ?_;refine zAf rfl h (fun hb h=>?_) (fun hb h=>?_)
      ·refine yAW ?_;refine zAd ?_;cases h;replace h:some _=some _:=ho1;have hy:=osi h;subst hy;exact fin0 rfl rfl
      ·refine zAe ?_;refine zAb [] [52,56] rfl ?_;obtain⟨⟨e17A,e17B,e17F,e17E⟩,he17,h⟩:=zAc h;refine And.intro (zAn Nd.encs_eq he17).1 ?_;intro r18 hr18;obtain rfl:[.int .i64 e17A,.str e17B,.int .i64 e17F,.sl 4 (Nd.encs e17E)]=r18:=(hr18.trans (zAn Nd.encs_eq he17).2.1).symm;obtain⟨⟨e19A,e19B,e19F,e19E⟩,he19,h⟩:=zAc h;refine And.intro (zAn Nd.encs_eq he19).1 ?_;intro r20 hr20;obtain rfl:[.int .i64 e19A,.str e19B,.int .i64 e19F,.sl 4 (Nd.encs e19E)]=r20:=(hr20.trans (zAn Nd.encs_eq he19).2.1).symm;refine zAb [] [12] rfl ?_
       obtain⟨hq,h⟩:=zAw h;refine And.intro ⟨hq.1,Int.le_trans hq.2.1 (Int.ofNat_le.2 (Nat.le_of_eq (rlen (fun _=>rfl) _).symm)),Int.le_refl _⟩ ?_;intro r21 hr21;obtain rfl:(List.map (irow .i64)) ((x3.take (x3.length:Int).toNat).drop (2:Int).toNat)=r21:=(hr21.trans ((congrArg (fun m:Nat=>(((List.map (irow .i64)) x3).take m).drop (2:Int).toNat) (rlen (fun _=>rfl) _)).trans (rcut (fun _=>rfl) _ _ _))).symm;refine⟨(k,(x3.take (x3.length:Int).toNat).drop (2:Int).toNat,Nd.mk e19A e19B e19F e19E),h,(Le.forget _ ⟨rfl,rfl,trivial⟩),Nat.lt_succ_self k⟩
    ·refine zAy ?_;cases h;exact⟨_,rfl,(Le.forget _ ⟨rfl,rfl,trivial⟩)⟩
 ·subst hz;obtain⟨x5,⟨x6A,x6B,x6F,x6E⟩⟩:=z;replace h:=ho1;refine zAh hle ?_;refine zAa ?_;obtain⟨x22,hj,h⟩:=zAc h;refine zAl ⟨ofL [(4,.s (.bool x22))],fun _=>none,0⟩ ?_ (fun σ' hle=>?_)
  ·replace h:=hj;refine zAK [] [58,60,62,66,68,74] [] rfl (by decide +kernel) ?_;intro n23 hn23;obtain rfl:(x5.length:Int)=n23:=(hn23.trans (congrArg (fun m:Nat=>(m:Int)) (rlen (fun _=>rfl) x5))).symm;intro b hb;cases b with
   | true =>
    replace h:=zAv hb.symm h;obtain⟨e24,he24,h⟩:=zAc h;refine And.intro (zAn (fun _=>rfl) he24).1 ?_;intro r25 hr25;obtain rfl:[.int .i64 e24]=r25:=(hr25.trans (zAn (fun _=>rfl) he24).2.1).symm;intro b hb;cases b with
    | true =>
     replace h:=zAv hb.symm h;obtain⟨e26,he26,h⟩:=zAc h;refine And.intro (zAn (fun _=>rfl) he26).1 ?_;intro r27 hr27;obtain rfl:[.int .i64 e26]=r27:=(hr27.trans (zAn (fun _=>rfl) he26).2.1).symm;intro n28 hn28;obtain rfl:(x6E.length:Int)=n28:=(hn28.trans (congrArg (fun m:Nat=>(m:Int)) (rlen Nd.encs_eq x6E))).symm;cases h;exact(Le.forget _ ⟨rfl,trivial⟩)
    | false =>
     replace h:=zAu hb.symm h;cases h;exact(Le.forget _ ⟨rfl,trivial⟩)
   | false =>
    replace h:=zAu hb.symm h;intro b hb;subst hb;cases h;exact(Le.forget _ ⟨rfl,trivial⟩)
  ·refine zAh hle ?_;refine zAd ?_;have hy:=osi h;subst hy;exact fin0 rfl rfl
def zNB (n:Nat) (xs:List AV) (r:Ret):Prop:=∃ (a0:Nd) (a1:List Int) (y0:Bool),zC4 n a0 a1=some y0/\xs=[.agg ((Nd.enc a0).map .s),.s (.sl 1 ((List.map (irow .i64)) a1))]/\r = .val (.s (.bool y0))
def zI3:zAr:=zAq fun xs r=>∃ n,zNB n xs r
theorem zMH:PSound Tryz.prog 112 zI3:=by
 have gok:∀ f s,look? f [(73,zDB),(149,zLP)]=some s->PSound Tryz.prog f s:=zAm (by
  simp only[List.forall_mem_cons]
  exact⟨zDO,zQa,by simp⟩)
 refine zAs tokW Tryz.call112 Tryz.func112 rfl (fun xs r h=>by obtain⟨n,_,_,_,_,rfl,_⟩:=h; show 2<=12; decide) 12 rfl ?_;rintro xs r w0 G0 ⟨n,⟨n1A,n1B,n1F,n1E⟩,pos2,y0,h,rfl,rfl⟩ _;rw[zC4]at h;refine yAW ?_;refine zAa ?_;obtain⟨x3,hj,h⟩:=zAc h;refine zAl ⟨ofL [(4,.s (.bool x3))],fun _=>none,0⟩ ?_ (fun σ' hle=>?_)
 ·replace h:=hj;refine zAb [] [7] rfl ?_;obtain⟨y4,hy4,h⟩:=zAc h;refine⟨_,⟨_,_,_,hy4,rfl,rfl⟩,?_⟩
  intro b hb;cases b with
  | true =>
   replace h:=zAv hb.symm h;obtain⟨y5,hy5,h⟩:=zAc h;refine⟨_,⟨_,_,_,_,hy5,rfl,rfl⟩,?_⟩
   cases h;exact(Le.forget _ ⟨rfl,trivial⟩)
  | false =>
   replace h:=zAu hb.symm h;cases h;exact(Le.forget _ ⟨rfl,trivial⟩)
 ·refine zAh hle ?_;refine zAd ?_;have hy:=osi h;subst hy;exact fin0 rfl rfl
def zA9 (p:zCu):List S:=[.sl 1 ((List.map (irow .i64)) p.1),.sl 1 ((List.map (irow .i64)) p.2)]
def zPK (n:Nat) (xs:List AV) (r:Ret):Prop:=∃ (a0:Nd) (a1:zCu) (y0:Bool),zDg n a0 a1=some y0/\xs=[.agg ((Nd.enc a0).map .s),.agg ((zA9 a1).map .s)]/\r = .val (.s (.bool y0))
def zKz:zAr:=zAq fun xs r=>∃ n,zPK n xs r
theorem zO2:PSound Tryz.prog 75 zKz:=by
 have gok:∀ f s,look? f [(112,zI3)]=some s->PSound Tryz.prog f s:=zAm (by
  simp only[List.forall_mem_cons]
  exact⟨zMH,by simp⟩)
 refine zAs tokW Tryz.call75 Tryz.func75 rfl (fun xs r h=>by obtain⟨n,_,_,_,_,rfl,_⟩:=h; show 2<=21; decide) 21 rfl ?_;rintro xs r w0 G0 ⟨n,⟨n1A,n1B,n1F,n1E⟩,⟨c2Ai,c2Ah⟩,y0,h,rfl,rfl⟩ _;rw[zDg]at h;refine yAW ?_;refine zAa ?_;obtain⟨x3,hj,h⟩:=zAc h;refine zAl ⟨ofL [(4,.s (.bool x3))],fun _=>none,0⟩ ?_ (fun σ' hle=>?_)
 ·replace h:=hj;refine zAb [] [9,12,14] rfl ?_;obtain⟨y4,hy4,h⟩:=zAc h;refine⟨_,⟨_,_,_,_,hy4,rfl,rfl⟩,?_⟩
  intro b hb;cases b with
  | true =>
   replace h:=zAv hb.symm h;intro n5 hn5;obtain rfl:(c2Ah.length:Int)=n5:=(hn5.trans (congrArg (fun m:Nat=>(m:Int)) (rlen (fun _=>rfl) c2Ah))).symm;intro b hb;cases b with
   | true =>
    replace h:=zAv hb.symm h;cases h;exact(Le.forget _ ⟨rfl,trivial⟩)
   | false =>
    replace h:=zAu hb.symm h;obtain⟨y6,hy6,h⟩:=zAc h;refine⟨_,⟨_,_,_,_,hy6,rfl,rfl⟩,?_⟩
    cases h;exact(Le.forget _ ⟨rfl,trivial⟩)
  | false =>
   replace h:=zAu hb.symm h;cases h;exact(Le.forget _ ⟨rfl,trivial⟩)
 ·refine zAh hle ?_;refine zAd ?_;have hy:=osi h;subst hy;exact fin0 rfl rfl
def zAk (p:zRc):List S:=[.sl 8 ((List.map zAo) p.1),.sl 1 ((List.map (irow .i64)) p.2.1.1),.sl 1 ((List.map (irow .i64)) p.2.1.2),.sl 1 ((List.map (irow .i64)) p.2.2.1),.sl 1 ((List.map (irow .i64)) p.2.2.2)]
def zAQ:(List UInt8×Nd×List zRc×Int)->List S
| ⟨p_title,⟨p_origin_kind,p_origin_text,p_origin_cols,p_origin_kids⟩,p_records,p_done⟩=>[.str p_title,.int .i64 p_origin_kind,.str p_origin_text,.int .i64 p_origin_cols,.sl 4 (Nd.encs p_origin_kids),.sl 5 ((List.map zAk) p_records),.int .i64 p_done]
def zPL (n:Nat) (xs:List AV) (r:Ret):Prop:=∃ (a0:(List UInt8×Nd×List zRc×Int)) (a1:Int) (y0:Nd) (y1:Bool),zDh n a0 a1=some (y0,y1)/\xs=[.agg ((zAQ a0).map .s),.s (.int .i64 a1)]/\r = .val (.tup [.agg ((Nd.enc y0).map .s),.s (.bool y1)])
def zKA:zAr:=zAq fun xs r=>∃ n,zPL n xs r
theorem zO3:PSound Tryz.prog 33 zKA:=by
 have gok:∀ f s,look? f [(72,zLL),(73,zDB),(53,zG1),(74,zJl),(75,zKz)]=some s->PSound Tryz.prog f s:=zAm (by
  simp only[List.forall_mem_cons]
  exact⟨zP6,zDO,zHM,zNJ,zO2,by simp⟩)
 refine zAs tokW Tryz.call33 Tryz.func33 rfl (fun xs r h=>by obtain⟨n,_,_,_,_,_,rfl,_⟩:=h; show 2<=88; decide) 88 rfl ?_;rintro xs r w0 G0 ⟨n,⟨a1V,⟨a1Q,a1R,a1S,a1T⟩,a1J,a1U⟩,a2,y0,y1,h,rfl,rfl⟩ _;rw[zDh]at h;refine yAh [4] [] rfl ?_;refine zAa ?_;refine zAa ?_;obtain⟨x3,hj,h⟩:=zAc h
 refine zAl ⟨ofL [(1,.s (.int .i64 a2)),(2,.s (.pt [.str a1V,.int .i64 a1Q,.str a1R,.int .i64 a1S,.sl 4 (Nd.encs a1T),.sl 5 ((List.map zAk) a1J),.int .i64 a1U])),(4,.op 0 0),(41,.s (.bool x3))],ofH [(0,.box 24 [.s (.int .i64 0),.s (.str []),.s (.int .i64 0),.nl 4])],1⟩ ?_ (fun σ' hle=>?_)
 ·replace h:=hj;refine zAb [] [17,23,26,29,34,39] rfl ?_;obtain⟨y4,hy4,h⟩:=zAc h;refine⟨_,⟨_,_,_,hy4,rfl,rfl⟩,?_⟩
  intro b hb;cases b with
  | true =>
   replace h:=zAv hb.symm h;intro b hb;subst hb;intro b hb;subst hb;intro b hb;subst hb;cases h;exact(Le.rnm [(0,0)] _ _ _ ⟨rfl,rfl,rfl,rfl,trivial⟩ ⟨rfl,⟨_,rfl,rfl⟩,trivial⟩)
  | false =>
   replace h:=zAu hb.symm h;obtain⟨y5,hy5,h⟩:=zAc h;refine⟨_,⟨_,_,_,hy5,rfl,rfl⟩,?_⟩
   intro b hb;cases b with
   | true =>
    replace h:=zAv hb.symm h;intro b hb;subst hb;intro b hb;subst hb;cases h;exact(Le.rnm [(0,0)] _ _ _ ⟨rfl,rfl,rfl,rfl,trivial⟩ ⟨rfl,⟨_,rfl,rfl⟩,trivial⟩)
   | false =>
    replace h:=zAu hb.symm h;intro n6 hn6;obtain rfl:(a1J.length:Int)=n6:=(hn6.trans (congrArg (fun m:Nat=>(m:Int)) (rlen (fun _=>rfl) a1J))).symm;intro b hb;cases b with
    | true =>
     replace h:=zAv hb.symm h;intro b hb;subst hb;cases h;exact(Le.rnm [(0,0)] _ _ _ ⟨rfl,rfl,rfl,rfl,trivial⟩ ⟨rfl,⟨_,rfl,rfl⟩,trivial⟩)
    | false =>
     replace h:=zAu hb.symm h;intro b hb;cases b with
     | true =>
      replace h:=zAv hb.symm h;cases h;exact(Le.rnm [(0,0)] _ _ _ ⟨rfl,rfl,rfl,rfl,trivial⟩ ⟨rfl,⟨_,rfl,rfl⟩,trivial⟩)
     | false =>
      replace h:=zAu hb.symm h;intro n7 hn7;obtain rfl:(a1J.length:Int)=n7:=(hn7.trans (congrArg (fun m:Nat=>(m:Int)) (rlen (fun _=>rfl) a1J))).symm;cases h;exact(Le.rnm [(0,0)] _ _ _ ⟨rfl,rfl,rfl,rfl,trivial⟩ ⟨rfl,⟨_,rfl,rfl⟩,trivial⟩)
 ·refine zAh hle ?_;refine zAf rfl h (fun hb h=>?_) (fun hb h=>?_)
  ·refine yAW ?_;refine zAd ?_;obtain⟨hj1,hk1⟩:=pij h;subst hj1 hk1;exact fin0 rfl rfl
  ·refine zAe ?_;refine yAh [6] [] rfl ?_;obtain⟨⟨y8A,y8B,y8F,y8E⟩,hy8,h⟩:=zAc h;refine⟨_,⟨_,_,hy8,rfl,rfl⟩,?_⟩
   refine yAh [7] [] rfl ?_;refine zAa ?_;refine yAh [] [49] rfl ?_;intro n9 hn9;obtain rfl:(a1J.length:Int)=n9:=(hn9.trans (congrArg (fun m:Nat=>(m:Int)) (rlen (fun _=>rfl) a1J))).symm;show Tri ..;obtain⟨fl,hl,ho1⟩:=zAc h;refine zBA (fl:=fl) (fun z=>match z with | ⟨x20,x21,x22,x23⟩=>⟨ofL [(4,.op 0 0),(7,.op 1 0)],ofH [(0,.box 24 [.s (.int .i64 0),.s (.str []),.s (.int .i64 0),.nl 4]),(1,.box 24 [.s (.int .i64 x20),.s (.str x21),.s (.int .i64 x22),.s (.sl 4 (Nd.encs x23))])],2⟩) ?_ (fun z σ' hz hle=>?_)
   ·refine zAi (zAt (X:=Nat×Int×(List UInt8)×Int×(List Nd)×Int×(List UInt8)×Int×(List Nd)×Int) (fun y=>match y with | (k,x11,x12,x13,x14,x15,x16,x17,x18,x19)=>⟨ofL [(1,.s (.int .i64 a2)),(4,.op 0 0),(6,.op 1 0),(7,.op 2 0),(48,.s (.sl 5 ((List.map zAk) a1J))),(49,.s (.int .i64 (a1J.length:Int))),(50,.s (.int .i64 x19))],ofH [(0,.box 24 [.s (.int .i64 0),.s (.str []),.s (.int .i64 0),.nl 4]),(1,.box 24 [.s (.int .i64 x11),.s (.str x12),.s (.int .i64 x13),.s (.sl 4 (Nd.encs x14))]),(2,.box 24 [.s (.int .i64 x15),.s (.str x16),.s (.int .i64 x17),.s (.sl 4 (Nd.encs x18))])],3⟩) (fun y=>zB5 n a1J a2 y.1 y.2.1 y.2.2.1 y.2.2.2.1 y.2.2.2.2.1 y.2.2.2.2.2.1 y.2.2.2.2.2.2.1 y.2.2.2.2.2.2.2.1 y.2.2.2.2.2.2.2.2.1 y.2.2.2.2.2.2.2.2.2=some fl) (fun y=>y.1) (n,y8A,y8B,y8F,y8E,y8A,y8B,y8F,y8E,0) hl ?_ ?_)
    ·exact(Le.rnm [(0,0),(1,1),(2,2)] _ _ _ ⟨rfl,rfl,rfl,rfl,rfl,rfl,rfl,trivial⟩ ⟨rfl,⟨_,rfl,rfl⟩,rfl,⟨_,rfl,rfl⟩,rfl,⟨_,rfl,rfl⟩,trivial⟩)
    ·rintro⟨k,x11,x12,x13,x14,x15,x16,x17,x18,x19⟩ h;cases k with
     | zero=>cases h
     | succ k =>
      replace h:zB5 n a1J a2 (k+1) x11 x12 x13 x14 x15 x16 x17 x18 x19=some fl:=h;rw[zB5]at h;refine yAW ?_;refine zAa ?_;refine zAf rfl h (fun hb h=>?_) (fun hb h=>?_)
      ·refine zAe ?_;refine zAa ?_;obtain⟨fl,hj,ho2⟩:=zAc h
       refine zBA (fl:=fl) (fun z=>match z with | ⟨x24,x25,x26,x27,x28,x29,x30,x31⟩=>⟨ofL [(1,.s (.int .i64 a2)),(4,.op 0 0),(6,.op 1 0),(7,.op 2 0),(48,.s (.sl 5 ((List.map zAk) a1J))),(49,.s (.int .i64 (a1J.length:Int))),(50,.s (.int .i64 x19))],ofH [(0,.box 24 [.s (.int .i64 0),.s (.str []),.s (.int .i64 0),.nl 4]),(1,.box 24 [.s (.int .i64 x24),.s (.str x25),.s (.int .i64 x26),.s (.sl 4 (Nd.encs x27))]),(2,.box 24 [.s (.int .i64 x28),.s (.str x29),.s (.int .i64 x30),.s (.sl 4 (Nd.encs x31))])],3⟩) ?_ (fun z σ' hz hle=>?_)
       ·replace h:=hj;refine zAi ?_;refine yAh [9] [53] rfl ?_;obtain⟨⟨e32P,⟨e32W,e32X⟩,⟨e32Y,e32Z⟩⟩,he32,h⟩:=zAc h;refine And.intro (zAn (fun _=>rfl) he32).1 ?_;intro r33 hr33;obtain rfl:[.sl 8 ((List.map zAo) e32P),.sl 1 ((List.map (irow .i64)) e32W),.sl 1 ((List.map (irow .i64)) e32X),.sl 1 ((List.map (irow .i64)) e32Y),.sl 1 ((List.map (irow .i64)) e32Z)]=r33:=(hr33.trans (zAn (fun _=>rfl) he32).2.1).symm;show Tri ..
        refine zAh (Le.giveBox 3 [.sl 8 ((List.map zAo) e32P),.sl 1 ((List.map (irow .i64)) e32W),.sl 1 ((List.map (irow .i64)) e32X),.sl 1 ((List.map (irow .i64)) e32Y),.sl 1 ((List.map (irow .i64)) e32Z)] rfl rfl) ?_;refine yAh [10] [] rfl ?_;obtain⟨⟨⟨y34A,y34B,y34F,y34E⟩,y35,y36⟩,hy34,h⟩:=zAc h;refine⟨_,⟨_,_,_,_,_,_,hy34,rfl,rfl⟩,?_⟩
        refine zAh (Le.giveBox 4 [.int .i64 y34A,.str y34B,.int .i64 y34F,.sl 4 (Nd.encs y34E)] rfl rfl) ?_;refine zAa ?_;refine zAa ?_;obtain⟨x37,hj,h⟩:=zAc h
        refine zAl ⟨ofL [(1,.s (.int .i64 a2)),(4,.op 0 0),(6,.op 1 0),(7,.op 2 0),(8,.s (.int .i64 x19)),(10,.s (.pt [.int .i64 y34A,.str y34B,.int .i64 y34F,.sl 4 (Nd.encs y34E)])),(48,.s (.sl 5 ((List.map zAk) a1J))),(49,.s (.int .i64 (a1J.length:Int))),(50,.s (.int .i64 x19)),(78,.s (.bool x37))],ofH [(0,.box 24 [.s (.int .i64 0),.s (.str []),.s (.int .i64 0),.nl 4]),(1,.box 24 [.s (.int .i64 x11),.s (.str x12),.s (.int .i64 x13),.s (.sl 4 (Nd.encs x14))]),(2,.box 24 [.s (.int .i64 x15),.s (.str x16),.s (.int .i64 x17),.s (.sl 4 (Nd.encs x18))])],3⟩ ?_ (fun σ' hle=>?_)
        ·replace h:=hj;refine zAb [] [65,72] rfl ?_;intro b hb;cases b with
         | true =>
          replace h:=zAv hb.symm h;intro b hb;subst hb;cases h;exact(Le.rnm [(0,0),(1,1),(2,2)] _ _ _ ⟨rfl,rfl,rfl,rfl,rfl,rfl,rfl,rfl,rfl,rfl,trivial⟩ ⟨rfl,⟨_,rfl,rfl⟩,rfl,⟨_,rfl,rfl⟩,rfl,⟨_,rfl,rfl⟩,trivial⟩)
         | false =>
          replace h:=zAu hb.symm h;obtain⟨y38,hy38,h⟩:=zAc h;refine⟨_,⟨_,_,_,_,hy38,rfl,rfl⟩,?_⟩
          intro b hb;cases b with
          | true =>
           replace h:=zAv hb.symm h;cases h;exact(Le.rnm [(0,0),(1,1),(2,2)] _ _ _ ⟨rfl,rfl,rfl,rfl,rfl,rfl,rfl,rfl,rfl,rfl,trivial⟩ ⟨rfl,⟨_,rfl,rfl⟩,rfl,⟨_,rfl,rfl⟩,rfl,⟨_,rfl,rfl⟩,trivial⟩)
          | false =>
           replace h:=zAu hb.symm h;obtain⟨y39,hy39,h⟩:=zAc h;refine⟨_,⟨_,_,_,_,hy39,rfl,rfl⟩,?_⟩
           cases h;exact(Le.rnm [(0,0),(1,1),(2,2)] _ _ _ ⟨rfl,rfl,rfl,rfl,rfl,rfl,rfl,rfl,rfl,rfl,trivial⟩ ⟨rfl,⟨_,rfl,rfl⟩,rfl,⟨_,rfl,rfl⟩,rfl,⟨_,rfl,rfl⟩,trivial⟩)
        ·refine zAh hle ?_;refine zAf rfl h (fun hb h=>?_) (fun hb h=>?_)
         ·refine yAW ?_;refine zAd ?_;cases h;replace h:some _=some _:=ho2;cases h;replace h:some _=some _:=ho1;obtain⟨hj1,hk1⟩:=pij h;subst hj1 hk1;exact fin0 rfl rfl
         ·refine zAe ?_;refine yAW ?_;refine yAW ?_;refine zAf rfl h (fun hb h=>?_) (fun hb h=>?_)
          ·refine yAV ?_;cases h;exact⟨_,rfl,(Le.rnm [(0,0),(1,1),(2,2)] _ _ _ ⟨rfl,rfl,rfl,rfl,rfl,rfl,rfl,trivial⟩ ⟨rfl,⟨_,rfl,rfl⟩,rfl,⟨_,rfl,rfl⟩,rfl,⟨_,rfl,rfl⟩,trivial⟩)⟩
          ·refine zAe ?_;cases h;exact⟨_,rfl,(Le.rnm [(0,0),(1,1),(2,2)] _ _ _ ⟨rfl,rfl,rfl,rfl,rfl,rfl,rfl,trivial⟩ ⟨rfl,⟨_,rfl,rfl⟩,rfl,⟨_,rfl,rfl⟩,rfl,⟨_,rfl,rfl⟩,trivial⟩)⟩
       ·subst hz;obtain⟨x24,x25,x26,x27,x28,x29,x30,x31⟩:=z;replace h:=ho2;refine zAh hle ?_;refine yAV ?_;refine⟨(k,x24,x25,x26,x27,x28,x29,x30,x31,IntKind.i64.wrap (x19+1)),h,(Le.rnm [(0,0),(1,1),(2,2)] _ _ _ ⟨rfl,rfl,rfl,rfl,rfl,rfl,rfl,trivial⟩ ⟨rfl,⟨_,rfl,rfl⟩,rfl,⟨_,rfl,rfl⟩,rfl,⟨_,rfl,rfl⟩,trivial⟩),Nat.lt_succ_self k⟩
      ·refine zAy ?_;cases h;exact⟨_,rfl,(Le.rnm [(0,0),(2,1)] _ _ _ ⟨rfl,rfl,trivial⟩ ⟨rfl,⟨_,rfl,rfl⟩,rfl,⟨_,rfl,rfl⟩,trivial⟩)⟩
   ·subst hz;obtain⟨x20,x21,x22,x23⟩:=z;replace h:=ho1;refine zAh hle ?_;refine yAW ?_;refine zAd ?_;obtain⟨hj1,hk1⟩:=pij h;subst hj1 hk1;exact fin0 rfl rfl
def zSE (n:Nat) (xs:List AV) (r:Ret):Prop:=∃ (a0:(List UInt8×Nd×List zRc×Int)) (y0:Bool),zDD n a0=some y0/\xs=[.agg ((zAQ a0).map .s)]/\r = .val (.s (.bool y0))
def zJm:zAr:=zAq fun xs r=>∃ n,zSE n xs r
theorem zL5:PSound Tryz.prog 12 zJm:=by
 have gok:∀ f s,look? f [(33,zKA)]=some s->PSound Tryz.prog f s:=zAm (by
  simp only[List.forall_mem_cons]
  exact⟨zO3,by simp⟩)
 refine zAs tokW Tryz.call12 Tryz.func12 rfl (fun xs r h=>by obtain⟨n,_,_,_,rfl,_⟩:=h; show 1<=11; decide) 11 rfl ?_;rintro xs r w0 G0 ⟨n,⟨d1V,⟨d1Q,d1R,d1S,d1T⟩,d1J,d1U⟩,y0,h,rfl,rfl⟩ _;rw[zDD]at h;refine yAW ?_;refine yAh [3] [] rfl ?_;obtain⟨⟨⟨y2A,y2B,y2F,y2E⟩,y3⟩,hy2,h⟩:=zAc h;refine⟨_,⟨_,_,_,_,_,hy2,rfl,rfl⟩,?_⟩
 refine zAh (Le.giveBox 0 [.int .i64 y2A,.str y2B,.int .i64 y2F,.sl 4 (Nd.encs y2E)] rfl rfl) ?_;refine yAW ?_;refine zAd ?_;have hy:=osi h;subst hy;exact fin0 rfl rfl
def zUy (xs:List AV) (r:Ret):Prop:=∃ (a0:List UInt8) (y0:CV),zFU a0=some y0/\xs=[.s (.str a0)]/\r = .val (.agg ((CV.enc y0).map .s))
def zID:zAr:=zAq fun xs r=>zUy xs r
theorem zJO:PSound Tryz.prog 59 zID:=by
 have gok:=@gok0 Tryz.prog;refine zAs tokW Tryz.call59 Tryz.func59 rfl (fun xs r h=>by obtain⟨_,_,_,rfl,_⟩:=h; show 1<=5; decide) 5 rfl ?_;rintro xs r w0 G0 ⟨s1,y0,h,rfl,rfl⟩ _;rw[zFU]at h;refine yAh [2] [] rfl ?_;refine yAW ?_;refine zAd ?_;have hy:=osi h;subst hy;exact fin0 rfl rfl
def zUx (xs:List AV) (r:Ret):Prop:=∃ (a0:List CV) (y0:CV),zE5 a0=some y0/\xs=[.s (.sl 4 (CV.encs a0))]/\r = .val (.agg ((CV.enc y0).map .s))
def zFO:zAr:=zAq fun xs r=>zUx xs r
theorem zGn:PSound Tryz.prog 58 zFO:=by
 have gok:=@gok0 Tryz.prog;refine zAs tokW Tryz.call58 Tryz.func58 rfl (fun xs r h=>by obtain⟨_,_,_,rfl,_⟩:=h; show 1<=5; decide) 5 rfl ?_;rintro xs r w0 G0 ⟨l1,y0,h,rfl,rfl⟩ _;rw[zE5]at h;refine yAh [2] [] rfl ?_;refine yAW ?_;refine zAd ?_;have hy:=osi h;subst hy;exact fin0 rfl rfl
def zRi (xs:List AV) (r:Ret):Prop:=∃ (a0:Int) (y0:CV),zCb a0=some y0/\xs=[.s (.int .i64 a0)]/\r = .val (.agg ((CV.enc y0).map .s))
def zFq:zAr:=zAq fun xs r=>zRi xs r
theorem zF7:PSound Tryz.prog 61 zFq:=by
 have gok:=@gok0 Tryz.prog;refine zAs tokW Tryz.call61 Tryz.func61 rfl (fun xs r h=>by obtain⟨_,_,_,rfl,_⟩:=h; show 1<=5; decide) 5 rfl ?_;rintro xs r w0 G0 ⟨n1,y0,h,rfl,rfl⟩ _;rw[zCb]at h;refine yAh [2] [] rfl ?_;refine yAW ?_;refine zAd ?_;have hy:=osi h;subst hy;exact fin0 rfl rfl
def zCZ (n:Nat) (xs:List AV) (r:Ret):Prop:=∃ (a0:List Nd) (y0:CV),zDX n a0=some y0/\xs=[.s (.sl 4 (Nd.encs a0)),.s (.fn 60)]/\r = .val (.agg ((CV.enc y0).map .s))
def zC0 (n:Nat) (xs:List AV) (r:Ret):Prop:=∃ (a0:Nd) (y0:CV),zCs n a0=some y0/\xs=[.agg ((Nd.enc a0).map .s)]/\r = .val (.agg ((CV.enc y0).map .s))
theorem zMO {α:Type}{a b:α} (h:a=b:=by simp[List.map_append,List.map_take,List.map_drop,irow,brow,zEa,List.map_cons,List.map_nil,zDr,CV.encs_eq,CV.enc,Nd.encs_eq,Nd.enc,zBf,zAR,zBT,zAP,zAI,zAo,zAG,zA9,zAk,zAQ]):a=b :=
 h
theorem zLr (n:Nat) (ih_file_each_Node:PSound Tryz.prog 101 (zAq (zCZ n))) (ih_file_writeTree:PSound Tryz.prog 60 (zAq (zC0 n))):PSound Tryz.prog 101 (zAq (zCZ (n+1))):=by
 have gok:∀ f s,look? f [(58,zEh),(60,zAq (zC0 n))]=some s->PSound Tryz.prog f s:=zAm (by
  simp only[List.forall_mem_cons]
  exact⟨zE1,ih_file_writeTree,by simp⟩)
 refine zAs tokW Tryz.call101 Tryz.func101 rfl (fun xs r h=>by obtain⟨_,_,_,rfl,_⟩:=h; show 2<=25; decide) 25 rfl ?_;rintro xs r w0 G0 ⟨l1,y0,h,rfl,rfl⟩ _;rw[zDX]at h;refine yAh [4] [] rfl ?_;refine yAh [5] [] rfl ?_;obtain⟨⟨y2A,y2D,y2B,y2C⟩,hy2,h⟩:=zAc h;refine⟨_,_,⟨_,hy2,rfl,rfl,rfl,rfl⟩,?_⟩
 refine zAa ?_;refine yAh [] [10] rfl ?_;intro n3 hn3;obtain rfl:(l1.length:Int)=n3:=(hn3.trans (congrArg (fun m:Nat=>(m:Int)) (rlen Nd.encs_eq l1))).symm;show Tri ..;obtain⟨l8,hl,h⟩:=zAc h;refine zAl ⟨ofL [(4,.op 0 0),(5,.op 1 0)],ofH [(0,.box 68 [.s (.int .i64 0),.s (.int .i64 0),.s (.str []),.nl 4]),(1,.box 68 [.s (.int .i64 y2A),.s (.int .i64 y2D),.s (.str y2B),.orow 2]),(2,.row 68 4 (CV.encs l8))],3⟩ ?_ (fun σ' hle=>?_)
 ·refine zAi (zAt (X:=Nat×Int×(List CV)) (fun y=>match y with | (k,x6,l7)=>⟨ofL [(1,.s (.fn 60)),(4,.op 0 0),(5,.op 1 0),(9,.s (.sl 4 (Nd.encs l1))),(10,.s (.int .i64 (l1.length:Int))),(11,.s (.int .i64 x6))],ofH [(0,.box 68 [.s (.int .i64 0),.s (.int .i64 0),.s (.str []),.nl 4]),(1,.box 68 [.s (.int .i64 y2A),.s (.int .i64 y2D),.s (.str y2B),.orow 2]),(2,.row 68 4 (CV.encs l7))],3⟩) (fun y=>zCO (zCs n) l1 y.1 y.2.1 y.2.2=some l8) (fun y=>y.1) (n,0,y2C) hl ?_ ?_)
  ·exact(Le.rnm [(0,0),(3,1),(2,2)] _ _ _ ⟨rfl,rfl,rfl,rfl,rfl,rfl,trivial⟩ ⟨rfl,⟨_,rfl,rfl⟩,rfl,⟨_,rfl,rfl⟩,rfl,⟨_,rfl,rfl⟩,trivial⟩)
  ·rintro⟨k,x6,l7⟩ h;cases k with
   | zero=>cases h
   | succ k =>
    replace h:zCO (zCs n) l1 (k+1) x6 l7=some l8:=h;rw[zCO]at h;refine yAW ?_;refine zAa ?_;refine zAf rfl h (fun hb h=>?_) (fun hb h=>?_)
    ·refine zAe ?_;refine zAa ?_;refine zAi ?_;refine yAh [7] [13] rfl ?_;obtain⟨⟨e9A,e9B,e9F,e9E⟩,he9,h⟩:=zAc h;refine And.intro (zAn Nd.encs_eq he9).1 ?_;intro r10 hr10;obtain rfl:[.int .i64 e9A,.str e9B,.int .i64 e9F,.sl 4 (Nd.encs e9E)]=r10:=(hr10.trans (zAn Nd.encs_eq he9).2.1).symm;refine zAh (Le.giveBox 3 [.int .i64 e9A,.str e9B,.int .i64 e9F,.sl 4 (Nd.encs e9E)] rfl rfl) ?_;refine zAK [21] [20] [1,6,8] rfl (by decide +kernel) ?_;obtain⟨⟨y11A,y11D,y11B,y11C⟩,hy11,h⟩:=zAc h
     refine⟨_,⟨_,_,hy11,rfl,rfl⟩,?_⟩
     intro r12 hr12;obtain rfl:CV.encs [CV.mk y11A y11D y11B y11C]=r12:=(hr12.trans zMO).symm;obtain⟨hq,h⟩:=zAw h
     refine And.intro (show((CV.encs l7).length+(CV.encs [CV.mk y11A y11D y11B y11C]).length) * 56<=140737488355328/\(CV.encs l7).length+(CV.encs [CV.mk y11A y11D y11B y11C]).length<=9223372036854775807 from by simp only[List.length_append,List.length_cons,List.length_nil,List.length_map,rlen CV.encs_eq]at hq ⊢; omega) ?_;show Tri ..
     refine zAh (Le.rnm [(0,0),(1,1),(4,2)] [(1,.s (.fn 60)),(4,.op 0 0),(5,.op 1 0),(9,.s (.sl 4 (Nd.encs l1))),(10,.s (.int .i64 (l1.length:Int))),(11,.s (.int .i64 x6))] [(0,.box 68 [.s (.int .i64 0),.s (.int .i64 0),.s (.str []),.nl 4]),(1,.box 68 [.s (.int .i64 y2A),.s (.int .i64 y2D),.s (.str y2B),.orow 2]),(2,.row 68 4 (CV.encs (l7++[CV.mk y11A y11D y11B y11C])))] 3 ⟨rfl,rfl,rfl,rfl,rfl,rfl,trivial⟩ ⟨rfl,⟨_,rfl,rfl⟩,rfl,⟨_,rfl,rfl⟩,rfl,⟨_,rfl,congrArg (Ob.row 68 4) zMO⟩,trivial⟩) ?_
     refine yAV ?_;refine⟨(k,IntKind.i64.wrap (x6+1),l7++[CV.mk y11A y11D y11B y11C]),h,(Le.rnm [(0,0),(1,1),(2,2)] _ _ _ ⟨rfl,rfl,rfl,rfl,rfl,rfl,trivial⟩ ⟨rfl,⟨_,rfl,rfl⟩,rfl,⟨_,rfl,rfl⟩,rfl,⟨_,rfl,rfl⟩,trivial⟩),Nat.lt_succ_self k⟩
    ·refine zAy ?_;cases h;exact(Le.rnm [(0,0),(1,1),(2,2)] _ _ _ ⟨rfl,rfl,trivial⟩ ⟨rfl,⟨_,rfl,rfl⟩,rfl,⟨_,rfl,rfl⟩,rfl,⟨_,rfl,rfl⟩,trivial⟩)
 ·refine zAh hle ?_;refine yAW ?_;refine zAd ?_;have hy:=osi h;subst hy;unfold zDR;exact⟨_,(Le.trans (Le.rnm [(0,0),(2,1)] [(4,.op 0 0)] [(0,.box 68 [.s (.int .i64 y2A),.s (.int .i64 y2D),.s (.str y2B),.orow 1]),(1,.row 68 4 (CV.encs l8))] 2 ⟨rfl,trivial⟩ ⟨rfl,⟨_,rfl,rfl⟩,rfl,⟨_,rfl,rfl⟩,trivial⟩) (Le.giveRow 1 rfl)),rfl,rfl⟩
theorem zLs (n:Nat) (ih_file_each_Node:PSound Tryz.prog 101 (zAq (zCZ n))) (ih_file_writeTree:PSound Tryz.prog 60 (zAq (zC0 n))):PSound Tryz.prog 60 (zAq (zC0 (n+1))):=by
 have gok:∀ f s,look? f [(101,zAq (zCZ n)),(61,zFq),(59,zID),(58,zFO)]=some s->PSound Tryz.prog f s:=zAm (by
  simp only[List.forall_mem_cons]
  exact⟨ih_file_each_Node,zF7,zJO,zGn,by simp⟩)
 refine zAs tokW Tryz.call60 Tryz.func60 rfl (fun xs r h=>by obtain⟨_,_,_,rfl,_⟩:=h; show 1<=21; decide) 21 rfl ?_;rintro xs r w0 G0 ⟨⟨n1A,n1B,n1F,n1E⟩,y0,h,rfl,rfl⟩ _;rw[zCs]at h;refine yAh [2] [] rfl ?_;refine yAh [3] [] rfl ?_;obtain⟨⟨y2A,y2D,y2B,y2C⟩,hy2,h⟩:=zAc h;refine⟨_,⟨_,_,hy2,rfl,rfl⟩,?_⟩
 refine zAh (Le.giveBox 1 [.int .i64 y2A,.int .i64 y2D,.str y2B,.sl 4 (CV.encs y2C)] rfl rfl) ?_;refine zAa ?_;refine zHP [16,19] [] [9,12,13,14] [] rfl (by decide +kernel) ?_;obtain⟨⟨y3A,y3D,y3B,y3C⟩,hy3,h⟩:=zAc h;refine⟨_,⟨_,_,hy3,rfl,rfl⟩,?_⟩
 obtain⟨⟨y4A,y4D,y4B,y4C⟩,hy4,h⟩:=zAc h;refine⟨_,⟨_,_,hy4,rfl,rfl⟩,?_⟩
 obtain⟨⟨y5A,y5D,y5B,y5C⟩,hy5,h⟩:=zAc h;refine⟨_,⟨_,_,hy5,rfl,rfl⟩,?_⟩
 obtain⟨hq,h⟩:=zAw h
 refine And.intro (show([[.int .i64 y3A,.int .i64 y3D,.str y3B,.sl 4 (CV.encs y3C)],[.int .i64 y4A,.int .i64 y4D,.str y4B,.sl 4 (CV.encs y4C)],[.int .i64 y5A,.int .i64 y5D,.str y5B,.sl 4 (CV.encs y5C)]].length+(CV.encs y2C).length) * 56<=140737488355328/\[[.int .i64 y3A,.int .i64 y3D,.str y3B,.sl 4 (CV.encs y3C)],[.int .i64 y4A,.int .i64 y4D,.str y4B,.sl 4 (CV.encs y4C)],[.int .i64 y5A,.int .i64 y5D,.str y5B,.sl 4 (CV.encs y5C)]].length+(CV.encs y2C).length<=9223372036854775807 from by simp only[List.length_append,List.length_cons,List.length_nil,List.length_map,rlen CV.encs_eq]at hq ⊢; omega) ?_
 obtain⟨⟨y6A,y6D,y6B,y6C⟩,hy6,h⟩:=zAc h
 refine⟨_,⟨_,_,hy6,(congrArg (fun r=>[AV.s (.sl 4 r)]) (show[[.int .i64 y3A,.int .i64 y3D,.str y3B,.sl 4 (CV.encs y3C)],[.int .i64 y4A,.int .i64 y4D,.str y4B,.sl 4 (CV.encs y4C)],[.int .i64 y5A,.int .i64 y5D,.str y5B,.sl 4 (CV.encs y5C)]]++(CV.encs y2C)=CV.encs ([CV.mk y3A y3D y3B y3C,CV.mk y4A y4D y4B y4C,CV.mk y5A y5D y5B y5C]++y2C) from zMO)),rfl⟩,?_⟩
 refine zAd ?_;have hy:=osi h;subst hy;exact fin0 rfl rfl
theorem zHc:∀ n,PSound Tryz.prog 101 (zAq (zCZ n))/\PSound Tryz.prog 60 (zAq (zC0 n)):=by
 intro n
 induction n with
 | zero =>
  refine⟨?_,?_⟩
  ·exact zBo Tryz.call101 (fun xs r h=>by obtain⟨_,_,h,_⟩:=h; rw[zDX]at h; cases h)
  ·exact zBo Tryz.call60 (fun xs r h=>by obtain⟨_,_,h,_⟩:=h; rw[zCs]at h; cases h)
 | succ n ih =>
  obtain⟨ih_file_each_Node,ih_file_writeTree⟩:=ih;exact⟨zLr n ih_file_each_Node ih_file_writeTree,zLs n ih_file_each_Node ih_file_writeTree⟩
def zI0:zAr:=zAq fun xs r=>∃ n,zCZ n xs r
theorem zME:PSound Tryz.prog 101 zI0:=zBH (fun n=>(zHc n).1)
def zI2:zAr:=zAq fun xs r=>∃ n,zC0 n xs r
theorem zMG:PSound Tryz.prog 60 zI2:=zBH (fun n=>(zHc n).2)
def zN4 (n:Nat) (xs:List AV) (r:Ret):Prop:=∃ (a0:List Int) (y0:CV),zHk n a0=some y0/\xs=[.s (.sl 1 ((List.map (irow .i64)) a0)),.s (.fn 61)]/\r = .val (.agg ((CV.enc y0).map .s))
def zJn:zAr:=zAq fun xs r=>∃ n,zN4 n xs r
theorem zNK:PSound Tryz.prog 169 zJn:=by
 have gok:∀ f s,look? f [(58,zEh),(61,zFq)]=some s->PSound Tryz.prog f s:=zAm (by
  simp only[List.forall_mem_cons]
  exact⟨zE1,zF7,by simp⟩)
 refine zAs tokW Tryz.call169 Tryz.func169 rfl (fun xs r h=>by obtain⟨n,_,_,_,rfl,_⟩:=h; show 2<=25; decide) 25 rfl ?_;rintro xs r w0 G0 ⟨n,l1,y0,h,rfl,rfl⟩ _;rw[zHk]at h;refine yAh [4] [] rfl ?_;refine yAh [5] [] rfl ?_;obtain⟨⟨y2A,y2D,y2B,y2C⟩,hy2,h⟩:=zAc h;refine⟨_,_,⟨_,hy2,rfl,rfl,rfl,rfl⟩,?_⟩
 refine zAa ?_;refine yAh [] [10] rfl ?_;intro n3 hn3;obtain rfl:(l1.length:Int)=n3:=(hn3.trans (congrArg (fun m:Nat=>(m:Int)) (rlen (fun _=>rfl) l1))).symm;show Tri ..;obtain⟨l8,hl,h⟩:=zAc h;refine zAl ⟨ofL [(4,.op 0 0),(5,.op 1 0)],ofH [(0,.box 68 [.s (.int .i64 0),.s (.int .i64 0),.s (.str []),.nl 4]),(1,.box 68 [.s (.int .i64 y2A),.s (.int .i64 y2D),.s (.str y2B),.orow 2]),(2,.row 68 4 (CV.encs l8))],3⟩ ?_ (fun σ' hle=>?_)
 ·refine zAi (zAt (X:=Nat×Int×(List CV)) (fun y=>match y with | (k,x6,l7)=>⟨ofL [(1,.s (.fn 61)),(4,.op 0 0),(5,.op 1 0),(9,.s (.sl 1 ((List.map (irow .i64)) l1))),(10,.s (.int .i64 (l1.length:Int))),(11,.s (.int .i64 x6))],ofH [(0,.box 68 [.s (.int .i64 0),.s (.int .i64 0),.s (.str []),.nl 4]),(1,.box 68 [.s (.int .i64 y2A),.s (.int .i64 y2D),.s (.str y2B),.orow 2]),(2,.row 68 4 (CV.encs l7))],3⟩) (fun y=>zC9 l1 y.1 y.2.1 y.2.2=some l8) (fun y=>y.1) (n,0,y2C) hl ?_ ?_)
  ·exact(Le.rnm [(0,0),(3,1),(2,2)] _ _ _ ⟨rfl,rfl,rfl,rfl,rfl,rfl,trivial⟩ ⟨rfl,⟨_,rfl,rfl⟩,rfl,⟨_,rfl,rfl⟩,rfl,⟨_,rfl,rfl⟩,trivial⟩)
  ·rintro⟨k,x6,l7⟩ h;cases k with
   | zero=>cases h
   | succ k =>
    replace h:zC9 l1 (k+1) x6 l7=some l8:=h;rw[zC9]at h;refine yAW ?_;refine zAa ?_;refine zAf rfl h (fun hb h=>?_) (fun hb h=>?_)
    ·refine zAe ?_;refine zAa ?_;refine zAi ?_;refine yAh [] [13] rfl ?_;obtain⟨e9,he9,h⟩:=zAc h;refine And.intro (zAn (fun _=>rfl) he9).1 ?_;intro r10 hr10;obtain rfl:[.int .i64 e9]=r10:=(hr10.trans (zAn (fun _=>rfl) he9).2.1).symm;show Tri ..;refine zAK [21] [20] [1,6,8] rfl (by decide +kernel) ?_;obtain⟨⟨y11A,y11D,y11B,y11C⟩,hy11,h⟩:=zAc h;refine⟨_,⟨_,_,hy11,rfl,rfl⟩,?_⟩
     intro r12 hr12;obtain rfl:CV.encs [CV.mk y11A y11D y11B y11C]=r12:=(hr12.trans zMO).symm;obtain⟨hq,h⟩:=zAw h
     refine And.intro (show((CV.encs l7).length+(CV.encs [CV.mk y11A y11D y11B y11C]).length) * 56<=140737488355328/\(CV.encs l7).length+(CV.encs [CV.mk y11A y11D y11B y11C]).length<=9223372036854775807 from by simp only[List.length_append,List.length_cons,List.length_nil,List.length_map,rlen CV.encs_eq]at hq ⊢; omega) ?_;show Tri ..
     refine zAh (Le.rnm [(0,0),(1,1),(3,2)] [(1,.s (.fn 61)),(4,.op 0 0),(5,.op 1 0),(9,.s (.sl 1 ((List.map (irow .i64)) l1))),(10,.s (.int .i64 (l1.length:Int))),(11,.s (.int .i64 x6))] [(0,.box 68 [.s (.int .i64 0),.s (.int .i64 0),.s (.str []),.nl 4]),(1,.box 68 [.s (.int .i64 y2A),.s (.int .i64 y2D),.s (.str y2B),.orow 2]),(2,.row 68 4 (CV.encs (l7++[CV.mk y11A y11D y11B y11C])))] 3 ⟨rfl,rfl,rfl,rfl,rfl,rfl,trivial⟩ ⟨rfl,⟨_,rfl,rfl⟩,rfl,⟨_,rfl,rfl⟩,rfl,⟨_,rfl,congrArg (Ob.row 68 4) zMO⟩,trivial⟩) ?_
     refine yAV ?_;refine⟨(k,IntKind.i64.wrap (x6+1),l7++[CV.mk y11A y11D y11B y11C]),h,(Le.rnm [(0,0),(1,1),(2,2)] _ _ _ ⟨rfl,rfl,rfl,rfl,rfl,rfl,trivial⟩ ⟨rfl,⟨_,rfl,rfl⟩,rfl,⟨_,rfl,rfl⟩,rfl,⟨_,rfl,rfl⟩,trivial⟩),Nat.lt_succ_self k⟩
    ·refine zAy ?_;cases h;exact(Le.rnm [(0,0),(1,1),(2,2)] _ _ _ ⟨rfl,rfl,trivial⟩ ⟨rfl,⟨_,rfl,rfl⟩,rfl,⟨_,rfl,rfl⟩,rfl,⟨_,rfl,rfl⟩,trivial⟩)
 ·refine zAh hle ?_;refine yAW ?_;refine zAd ?_;have hy:=osi h;subst hy;unfold zDR;exact⟨_,(Le.trans (Le.rnm [(0,0),(2,1)] [(4,.op 0 0)] [(0,.box 68 [.s (.int .i64 y2A),.s (.int .i64 y2D),.s (.str y2B),.orow 1]),(1,.row 68 4 (CV.encs l8))] 2 ⟨rfl,trivial⟩ ⟨rfl,⟨_,rfl,rfl⟩,rfl,⟨_,rfl,rfl⟩,trivial⟩) (Le.giveRow 1 rfl)),rfl,rfl⟩
def zPJ (n:Nat) (xs:List AV) (r:Ret):Prop:=∃ (a0:List Int) (y0:CV),zEW n a0=some y0/\xs=[.s (.sl 1 ((List.map (irow .i64)) a0))]/\r = .val (.agg ((CV.enc y0).map .s))
def zHW:zAr:=zAq fun xs r=>∃ n,zPJ n xs r
theorem zJL:PSound Tryz.prog 137 zHW:=by
 have gok:∀ f s,look? f [(169,zJn)]=some s->PSound Tryz.prog f s:=zAm (by
  simp only[List.forall_mem_cons]
  exact⟨zNK,by simp⟩)
 refine zAs tokW Tryz.call137 Tryz.func137 rfl (fun xs r h=>by obtain⟨n,_,_,_,rfl,_⟩:=h; show 1<=5; decide) 5 rfl ?_;rintro xs r w0 G0 ⟨n,l1,y0,h,rfl,rfl⟩ _;rw[zEW]at h;refine yAh [2] [] rfl ?_;refine yAW ?_;obtain⟨⟨y2A,y2D,y2B,y2C⟩,hy2,h⟩:=zAc h;refine⟨_,⟨_,_,_,hy2,rfl,rfl⟩,?_⟩
 refine zAd ?_;have hy:=osi h;subst hy;exact fin0 rfl rfl
def zPM (n:Nat) (xs:List AV) (r:Ret):Prop:=∃ (a0:zO8) (y0:CV),zH3 n a0=some y0/\xs=[.agg ((zAo a0).map .s)]/\r = .val (.agg ((CV.enc y0).map .s))
def zKB:zAr:=zAq fun xs r=>∃ n,zPM n xs r
theorem zO4:PSound Tryz.prog 103 zKB:=by
 have gok:∀ f s,look? f [(101,zI0),(61,zFq),(137,zHW),(59,zID),(58,zFO)]=some s->PSound Tryz.prog f s:=zAm (by
  simp only[List.forall_mem_cons]
  exact⟨zME,zF7,zJL,zJO,zGn,by simp⟩)
 refine zAs tokW Tryz.call103 Tryz.func103 rfl (fun xs r h=>by obtain⟨n,_,_,_,rfl,_⟩:=h; show 1<=31; decide) 31 rfl ?_;rintro xs r w0 G0 ⟨n,⟨op1A,op1I,op1H,op1L,op1G,op1K,op1M,op1B⟩,y0,h,rfl,rfl⟩ _;rw[zH3]at h;refine yAh [2] [] rfl ?_;refine yAh [3] [] rfl ?_;obtain⟨⟨y2A,y2D,y2B,y2C⟩,hy2,h⟩:=zAc h;refine⟨_,⟨_,_,_,hy2,rfl,rfl⟩,?_⟩
 refine zAh (Le.giveBox 1 [.int .i64 y2A,.int .i64 y2D,.str y2B,.sl 4 (CV.encs y2C)] rfl rfl) ?_;refine zAa ?_;refine zAK [] [29] [24] rfl (by decide +kernel) ?_;obtain⟨⟨y3A,y3D,y3B,y3C⟩,hy3,h⟩:=zAc h;refine⟨_,⟨_,_,hy3,rfl,rfl⟩,?_⟩
 obtain⟨⟨y4A,y4D,y4B,y4C⟩,hy4,h⟩:=zAc h;refine⟨_,⟨_,_,_,hy4,rfl,rfl⟩,?_⟩
 obtain⟨⟨y5A,y5D,y5B,y5C⟩,hy5,h⟩:=zAc h;refine⟨_,⟨_,_,hy5,rfl,rfl⟩,?_⟩
 obtain⟨⟨y6A,y6D,y6B,y6C⟩,hy6,h⟩:=zAc h;refine⟨_,⟨_,_,hy6,rfl,rfl⟩,?_⟩
 obtain⟨⟨y7A,y7D,y7B,y7C⟩,hy7,h⟩:=zAc h;refine⟨_,⟨_,_,hy7,rfl,rfl⟩,?_⟩
 obtain⟨⟨y8A,y8D,y8B,y8C⟩,hy8,h⟩:=zAc h;refine⟨_,⟨_,_,hy8,rfl,rfl⟩,?_⟩
 obtain⟨⟨y9A,y9D,y9B,y9C⟩,hy9,h⟩:=zAc h;refine⟨_,⟨_,_,hy9,rfl,rfl⟩,?_⟩
 intro r10 hr10;obtain rfl:CV.encs [CV.mk y3A y3D y3B y3C,CV.mk y4A y4D y4B y4C,CV.mk y5A y5D y5B y5C,CV.mk y6A y6D y6B y6C,CV.mk y2A y2D y2B y2C,CV.mk y7A y7D y7B y7C,CV.mk y8A y8D y8B y8C,CV.mk y9A y9D y9B y9C]=r10:=(hr10.trans zMO).symm
 obtain⟨⟨y11A,y11D,y11B,y11C⟩,hy11,h⟩:=zAc h;refine⟨_,⟨_,_,hy11,rfl,rfl⟩,?_⟩
 refine zAd ?_;have hy:=osi h;subst hy;exact fin0 rfl rfl
def zPI (n:Nat) (xs:List AV) (r:Ret):Prop:=∃ (a0:List zO8) (y0:CV),zH2 n a0=some y0/\xs=[.s (.sl 8 ((List.map zAo) a0)),.s (.fn 103)]/\r = .val (.agg ((CV.enc y0).map .s))
def zKy:zAr:=zAq fun xs r=>∃ n,zPI n xs r
theorem zO1:PSound Tryz.prog 102 zKy:=by
 have gok:∀ f s,look? f [(58,zEh),(103,zKB)]=some s->PSound Tryz.prog f s:=zAm (by
  simp only[List.forall_mem_cons]
  exact⟨zE1,zO4,by simp⟩)
 refine zAs tokW Tryz.call102 Tryz.func102 rfl (fun xs r h=>by obtain⟨n,_,_,_,rfl,_⟩:=h; show 2<=25; decide) 25 rfl ?_;rintro xs r w0 G0 ⟨n,l1,y0,h,rfl,rfl⟩ _;rw[zH2]at h;refine yAh [4] [] rfl ?_;refine yAh [5] [] rfl ?_;obtain⟨⟨y2A,y2D,y2B,y2C⟩,hy2,h⟩:=zAc h;refine⟨_,_,⟨_,hy2,rfl,rfl,rfl,rfl⟩,?_⟩
 refine zAa ?_;refine yAh [] [10] rfl ?_;intro n3 hn3;obtain rfl:(l1.length:Int)=n3:=(hn3.trans (congrArg (fun m:Nat=>(m:Int)) (rlen (fun _=>rfl) l1))).symm;show Tri ..;obtain⟨l8,hl,h⟩:=zAc h;refine zAl ⟨ofL [(4,.op 0 0),(5,.op 1 0)],ofH [(0,.box 68 [.s (.int .i64 0),.s (.int .i64 0),.s (.str []),.nl 4]),(1,.box 68 [.s (.int .i64 y2A),.s (.int .i64 y2D),.s (.str y2B),.orow 2]),(2,.row 68 4 (CV.encs l8))],3⟩ ?_ (fun σ' hle=>?_)
 ·refine zAi (zAt (X:=Nat×Int×(List CV)) (fun y=>match y with | (k,x6,l7)=>⟨ofL [(1,.s (.fn 103)),(4,.op 0 0),(5,.op 1 0),(9,.s (.sl 8 ((List.map zAo) l1))),(10,.s (.int .i64 (l1.length:Int))),(11,.s (.int .i64 x6))],ofH [(0,.box 68 [.s (.int .i64 0),.s (.int .i64 0),.s (.str []),.nl 4]),(1,.box 68 [.s (.int .i64 y2A),.s (.int .i64 y2D),.s (.str y2B),.orow 2]),(2,.row 68 4 (CV.encs l7))],3⟩) (fun y=>zDw n l1 y.1 y.2.1 y.2.2=some l8) (fun y=>y.1) (n,0,y2C) hl ?_ ?_)
  ·exact(Le.rnm [(0,0),(3,1),(2,2)] _ _ _ ⟨rfl,rfl,rfl,rfl,rfl,rfl,trivial⟩ ⟨rfl,⟨_,rfl,rfl⟩,rfl,⟨_,rfl,rfl⟩,rfl,⟨_,rfl,rfl⟩,trivial⟩)
  ·rintro⟨k,x6,l7⟩ h;cases k with
   | zero=>cases h
   | succ k =>
    replace h:zDw n l1 (k+1) x6 l7=some l8:=h;rw[zDw]at h;refine yAW ?_;refine zAa ?_;refine zAf rfl h (fun hb h=>?_) (fun hb h=>?_)
    ·refine zAe ?_;refine zAa ?_;refine zAi ?_;refine yAh [7] [13] rfl ?_;obtain⟨⟨e9A,e9I,e9H,e9L,e9G,e9K,e9M,e9B⟩,he9,h⟩:=zAc h;refine And.intro (zAn (fun _=>rfl) he9).1 ?_;intro r10 hr10;obtain rfl:[.int .i64 e9A,.sl 1 ((List.map (irow .i64)) e9I),.int .i64 e9H,.int .i64 e9L,.sl 4 (Nd.encs e9G),.int .i64 e9K,.str e9M,.str e9B]=r10:=(hr10.trans (zAn (fun _=>rfl) he9).2.1).symm;show Tri ..
     refine zAh (Le.giveBox 3 [.int .i64 e9A,.sl 1 ((List.map (irow .i64)) e9I),.int .i64 e9H,.int .i64 e9L,.sl 4 (Nd.encs e9G),.int .i64 e9K,.str e9M,.str e9B] rfl rfl) ?_;refine zAK [21] [20] [1,6,8] rfl (by decide +kernel) ?_;obtain⟨⟨y11A,y11D,y11B,y11C⟩,hy11,h⟩:=zAc h;refine⟨_,⟨_,_,_,hy11,rfl,rfl⟩,?_⟩
     intro r12 hr12;obtain rfl:CV.encs [CV.mk y11A y11D y11B y11C]=r12:=(hr12.trans zMO).symm;obtain⟨hq,h⟩:=zAw h
     refine And.intro (show((CV.encs l7).length+(CV.encs [CV.mk y11A y11D y11B y11C]).length) * 56<=140737488355328/\(CV.encs l7).length+(CV.encs [CV.mk y11A y11D y11B y11C]).length<=9223372036854775807 from by simp only[List.length_append,List.length_cons,List.length_nil,List.length_map,rlen CV.encs_eq]at hq ⊢; omega) ?_;show Tri ..
     refine zAh (Le.rnm [(0,0),(1,1),(4,2)] [(1,.s (.fn 103)),(4,.op 0 0),(5,.op 1 0),(9,.s (.sl 8 ((List.map zAo) l1))),(10,.s (.int .i64 (l1.length:Int))),(11,.s (.int .i64 x6))] [(0,.box 68 [.s (.int .i64 0),.s (.int .i64 0),.s (.str []),.nl 4]),(1,.box 68 [.s (.int .i64 y2A),.s (.int .i64 y2D),.s (.str y2B),.orow 2]),(2,.row 68 4 (CV.encs (l7++[CV.mk y11A y11D y11B y11C])))] 3 ⟨rfl,rfl,rfl,rfl,rfl,rfl,trivial⟩ ⟨rfl,⟨_,rfl,rfl⟩,rfl,⟨_,rfl,rfl⟩,rfl,⟨_,rfl,congrArg (Ob.row 68 4) zMO⟩,trivial⟩) ?_
     refine yAV ?_;refine⟨(k,IntKind.i64.wrap (x6+1),l7++[CV.mk y11A y11D y11B y11C]),h,(Le.rnm [(0,0),(1,1),(2,2)] _ _ _ ⟨rfl,rfl,rfl,rfl,rfl,rfl,trivial⟩ ⟨rfl,⟨_,rfl,rfl⟩,rfl,⟨_,rfl,rfl⟩,rfl,⟨_,rfl,rfl⟩,trivial⟩),Nat.lt_succ_self k⟩
    ·refine zAy ?_;cases h;exact(Le.rnm [(0,0),(1,1),(2,2)] _ _ _ ⟨rfl,rfl,trivial⟩ ⟨rfl,⟨_,rfl,rfl⟩,rfl,⟨_,rfl,rfl⟩,rfl,⟨_,rfl,rfl⟩,trivial⟩)
 ·refine zAh hle ?_;refine yAW ?_;refine zAd ?_;have hy:=osi h;subst hy;unfold zDR;exact⟨_,(Le.trans (Le.rnm [(0,0),(2,1)] [(4,.op 0 0)] [(0,.box 68 [.s (.int .i64 y2A),.s (.int .i64 y2D),.s (.str y2B),.orow 1]),(1,.row 68 4 (CV.encs l8))] 2 ⟨rfl,trivial⟩ ⟨rfl,⟨_,rfl,rfl⟩,rfl,⟨_,rfl,rfl⟩,trivial⟩) (Le.giveRow 1 rfl)),rfl,rfl⟩
def zLE (n:Nat) (xs:List AV) (r:Ret):Prop:=∃ (a0:zCu) (y0:CV),zEd n a0=some y0/\xs=[.agg ((zA9 a0).map .s)]/\r = .val (.agg ((CV.enc y0).map .s))
def zHE:zAr:=zAq fun xs r=>∃ n,zLE n xs r
theorem zLi:PSound Tryz.prog 104 zHE:=by
 have gok:∀ f s,look? f [(137,zHW),(58,zFO)]=some s->PSound Tryz.prog f s:=zAm (by
  simp only[List.forall_mem_cons]
  exact⟨zJL,zGn,by simp⟩)
 refine zAs tokW Tryz.call104 Tryz.func104 rfl (fun xs r h=>by obtain⟨n,_,_,_,rfl,_⟩:=h; show 1<=11; decide) 11 rfl ?_;rintro xs r w0 G0 ⟨n,⟨c1Ai,c1Ah⟩,y0,h,rfl,rfl⟩ _;rw[zEd]at h;refine yAh [2] [] rfl ?_;refine zAa ?_;refine zAK [] [9] [8] rfl (by decide +kernel) ?_;obtain⟨⟨y2A,y2D,y2B,y2C⟩,hy2,h⟩:=zAc h;refine⟨_,⟨_,_,_,hy2,rfl,rfl⟩,?_⟩
 obtain⟨⟨y3A,y3D,y3B,y3C⟩,hy3,h⟩:=zAc h;refine⟨_,⟨_,_,_,hy3,rfl,rfl⟩,?_⟩
 intro r4 hr4;obtain rfl:CV.encs [CV.mk y2A y2D y2B y2C,CV.mk y3A y3D y3B y3C]=r4:=(hr4.trans zMO).symm;obtain⟨⟨y5A,y5D,y5B,y5C⟩,hy5,h⟩:=zAc h;refine⟨_,⟨_,_,hy5,rfl,rfl⟩,?_⟩
 refine zAd ?_;have hy:=osi h;subst hy;exact fin0 rfl rfl
def zLF (n:Nat) (xs:List AV) (r:Ret):Prop:=∃ (a0:zRc) (y0:CV),zFy n a0=some y0/\xs=[.agg ((zAk a0).map .s)]/\r = .val (.agg ((CV.enc y0).map .s))
def zHF:zAr:=zAq fun xs r=>∃ n,zLF n xs r
theorem zLj:PSound Tryz.prog 63 zHF:=by
 have gok:∀ f s,look? f [(102,zKy),(104,zHE),(58,zFO)]=some s->PSound Tryz.prog f s:=zAm (by
  simp only[List.forall_mem_cons]
  exact⟨zO1,zLi,zGn,by simp⟩)
 refine zAs tokW Tryz.call63 Tryz.func63 rfl (fun xs r h=>by obtain⟨n,_,_,_,rfl,_⟩:=h; show 1<=14; decide) 14 rfl ?_;rintro xs r w0 G0 ⟨n,⟨r1P,⟨r1W,r1X⟩,⟨r1Y,r1Z⟩⟩,y0,h,rfl,rfl⟩ _;rw[zFy]at h;refine yAh [2] [] rfl ?_;refine zAa ?_;refine zAK [] [12] [11] rfl (by decide +kernel) ?_;obtain⟨⟨y2A,y2D,y2B,y2C⟩,hy2,h⟩:=zAc h;refine⟨_,⟨_,_,_,hy2,rfl,rfl⟩,?_⟩
 obtain⟨⟨y3A,y3D,y3B,y3C⟩,hy3,h⟩:=zAc h;refine⟨_,⟨_,_,_,hy3,rfl,rfl⟩,?_⟩
 obtain⟨⟨y4A,y4D,y4B,y4C⟩,hy4,h⟩:=zAc h;refine⟨_,⟨_,_,_,hy4,rfl,rfl⟩,?_⟩
 intro r5 hr5;obtain rfl:CV.encs [CV.mk y2A y2D y2B y2C,CV.mk y3A y3D y3B y3C,CV.mk y4A y4D y4B y4C]=r5:=(hr5.trans zMO).symm;obtain⟨⟨y6A,y6D,y6B,y6C⟩,hy6,h⟩:=zAc h;refine⟨_,⟨_,_,hy6,rfl,rfl⟩,?_⟩
 refine zAd ?_;have hy:=osi h;subst hy;exact fin0 rfl rfl
def zLz (n:Nat) (xs:List AV) (r:Ret):Prop:=∃ (a0:List zRc) (y0:CV),zFw n a0=some y0/\xs=[.s (.sl 5 ((List.map zAk) a0)),.s (.fn 63)]/\r = .val (.agg ((CV.enc y0).map .s))
def zHB:zAr:=zAq fun xs r=>∃ n,zLz n xs r
theorem zLf:PSound Tryz.prog 62 zHB:=by
 have gok:∀ f s,look? f [(58,zEh),(63,zHF)]=some s->PSound Tryz.prog f s:=zAm (by
  simp only[List.forall_mem_cons]
  exact⟨zE1,zLj,by simp⟩)
 refine zAs tokW Tryz.call62 Tryz.func62 rfl (fun xs r h=>by obtain⟨n,_,_,_,rfl,_⟩:=h; show 2<=25; decide) 25 rfl ?_;rintro xs r w0 G0 ⟨n,l1,y0,h,rfl,rfl⟩ _;rw[zFw]at h;refine yAh [4] [] rfl ?_;refine yAh [5] [] rfl ?_;obtain⟨⟨y2A,y2D,y2B,y2C⟩,hy2,h⟩:=zAc h;refine⟨_,_,⟨_,hy2,rfl,rfl,rfl,rfl⟩,?_⟩
 refine zAa ?_;refine yAh [] [10] rfl ?_;intro n3 hn3;obtain rfl:(l1.length:Int)=n3:=(hn3.trans (congrArg (fun m:Nat=>(m:Int)) (rlen (fun _=>rfl) l1))).symm;show Tri ..;obtain⟨l8,hl,h⟩:=zAc h;refine zAl ⟨ofL [(4,.op 0 0),(5,.op 1 0)],ofH [(0,.box 68 [.s (.int .i64 0),.s (.int .i64 0),.s (.str []),.nl 4]),(1,.box 68 [.s (.int .i64 y2A),.s (.int .i64 y2D),.s (.str y2B),.orow 2]),(2,.row 68 4 (CV.encs l8))],3⟩ ?_ (fun σ' hle=>?_)
 ·refine zAi (zAt (X:=Nat×Int×(List CV)) (fun y=>match y with | (k,x6,l7)=>⟨ofL [(1,.s (.fn 63)),(4,.op 0 0),(5,.op 1 0),(9,.s (.sl 5 ((List.map zAk) l1))),(10,.s (.int .i64 (l1.length:Int))),(11,.s (.int .i64 x6))],ofH [(0,.box 68 [.s (.int .i64 0),.s (.int .i64 0),.s (.str []),.nl 4]),(1,.box 68 [.s (.int .i64 y2A),.s (.int .i64 y2D),.s (.str y2B),.orow 2]),(2,.row 68 4 (CV.encs l7))],3⟩) (fun y=>zCg n l1 y.1 y.2.1 y.2.2=some l8) (fun y=>y.1) (n,0,y2C) hl ?_ ?_)
  ·exact(Le.rnm [(0,0),(3,1),(2,2)] _ _ _ ⟨rfl,rfl,rfl,rfl,rfl,rfl,trivial⟩ ⟨rfl,⟨_,rfl,rfl⟩,rfl,⟨_,rfl,rfl⟩,rfl,⟨_,rfl,rfl⟩,trivial⟩)
  ·rintro⟨k,x6,l7⟩ h;cases k with
   | zero=>cases h
   | succ k =>
    replace h:zCg n l1 (k+1) x6 l7=some l8:=h;rw[zCg]at h;refine yAW ?_;refine zAa ?_;refine zAf rfl h (fun hb h=>?_) (fun hb h=>?_)
    ·refine zAe ?_;refine zAa ?_;refine zAi ?_;refine yAh [7] [13] rfl ?_;obtain⟨⟨e9P,⟨e9W,e9X⟩,⟨e9Y,e9Z⟩⟩,he9,h⟩:=zAc h;refine And.intro (zAn (fun _=>rfl) he9).1 ?_;intro r10 hr10;obtain rfl:[.sl 8 ((List.map zAo) e9P),.sl 1 ((List.map (irow .i64)) e9W),.sl 1 ((List.map (irow .i64)) e9X),.sl 1 ((List.map (irow .i64)) e9Y),.sl 1 ((List.map (irow .i64)) e9Z)]=r10:=(hr10.trans (zAn (fun _=>rfl) he9).2.1).symm;show Tri ..
     refine zAh (Le.giveBox 3 [.sl 8 ((List.map zAo) e9P),.sl 1 ((List.map (irow .i64)) e9W),.sl 1 ((List.map (irow .i64)) e9X),.sl 1 ((List.map (irow .i64)) e9Y),.sl 1 ((List.map (irow .i64)) e9Z)] rfl rfl) ?_;refine zAK [21] [20] [1,6,8] rfl (by decide +kernel) ?_;obtain⟨⟨y11A,y11D,y11B,y11C⟩,hy11,h⟩:=zAc h;refine⟨_,⟨_,_,_,hy11,rfl,rfl⟩,?_⟩
     intro r12 hr12;obtain rfl:CV.encs [CV.mk y11A y11D y11B y11C]=r12:=(hr12.trans zMO).symm;obtain⟨hq,h⟩:=zAw h
     refine And.intro (show((CV.encs l7).length+(CV.encs [CV.mk y11A y11D y11B y11C]).length) * 56<=140737488355328/\(CV.encs l7).length+(CV.encs [CV.mk y11A y11D y11B y11C]).length<=9223372036854775807 from by simp only[List.length_append,List.length_cons,List.length_nil,List.length_map,rlen CV.encs_eq]at hq ⊢; omega) ?_;show Tri ..
     refine zAh (Le.rnm [(0,0),(1,1),(4,2)] [(1,.s (.fn 63)),(4,.op 0 0),(5,.op 1 0),(9,.s (.sl 5 ((List.map zAk) l1))),(10,.s (.int .i64 (l1.length:Int))),(11,.s (.int .i64 x6))] [(0,.box 68 [.s (.int .i64 0),.s (.int .i64 0),.s (.str []),.nl 4]),(1,.box 68 [.s (.int .i64 y2A),.s (.int .i64 y2D),.s (.str y2B),.orow 2]),(2,.row 68 4 (CV.encs (l7++[CV.mk y11A y11D y11B y11C])))] 3 ⟨rfl,rfl,rfl,rfl,rfl,rfl,trivial⟩ ⟨rfl,⟨_,rfl,rfl⟩,rfl,⟨_,rfl,rfl⟩,rfl,⟨_,rfl,congrArg (Ob.row 68 4) zMO⟩,trivial⟩) ?_
     refine yAV ?_;refine⟨(k,IntKind.i64.wrap (x6+1),l7++[CV.mk y11A y11D y11B y11C]),h,(Le.rnm [(0,0),(1,1),(2,2)] _ _ _ ⟨rfl,rfl,rfl,rfl,rfl,rfl,trivial⟩ ⟨rfl,⟨_,rfl,rfl⟩,rfl,⟨_,rfl,rfl⟩,rfl,⟨_,rfl,rfl⟩,trivial⟩),Nat.lt_succ_self k⟩
    ·refine zAy ?_;cases h;exact(Le.rnm [(0,0),(1,1),(2,2)] _ _ _ ⟨rfl,rfl,trivial⟩ ⟨rfl,⟨_,rfl,rfl⟩,rfl,⟨_,rfl,rfl⟩,rfl,⟨_,rfl,rfl⟩,trivial⟩)
 ·refine zAh hle ?_;refine yAW ?_;refine zAd ?_;have hy:=osi h;subst hy;unfold zDR;exact⟨_,(Le.trans (Le.rnm [(0,0),(2,1)] [(4,.op 0 0)] [(0,.box 68 [.s (.int .i64 y2A),.s (.int .i64 y2D),.s (.str y2B),.orow 1]),(1,.row 68 4 (CV.encs l8))] 2 ⟨rfl,trivial⟩ ⟨rfl,⟨_,rfl,rfl⟩,rfl,⟨_,rfl,rfl⟩,trivial⟩) (Le.giveRow 1 rfl)),rfl,rfl⟩
def zKi (n:Nat) (xs:List AV) (r:Ret):Prop:=∃ (a0:(List UInt8×Nd×List zRc×Int)) (y0:CV),zEP n a0=some y0/\xs=[.agg ((zAQ a0).map .s)]/\r = .val (.agg ((CV.enc y0).map .s))
def zGz:zAr:=zAq fun xs r=>∃ n,zKi n xs r
theorem zJP:PSound Tryz.prog 27 zGz:=by
 have gok:∀ f s,look? f [(59,zID),(60,zI2),(61,zFq),(62,zHB),(58,zFO)]=some s->PSound Tryz.prog f s:=zAm (by
  simp only[List.forall_mem_cons]
  exact⟨zJO,zMG,zF7,zLf,zGn,by simp⟩)
 refine zAs tokW Tryz.call27 Tryz.func27 rfl (fun xs r h=>by obtain⟨n,_,_,_,rfl,_⟩:=h; show 1<=17; decide) 17 rfl ?_;rintro xs r w0 G0 ⟨n,⟨d1V,⟨d1Q,d1R,d1S,d1T⟩,d1J,d1U⟩,y0,h,rfl,rfl⟩ _;rw[zEP]at h;refine yAh [2] [] rfl ?_;refine zAa ?_;refine zAK [] [15] [14] rfl (by decide +kernel) ?_;obtain⟨⟨y2A,y2D,y2B,y2C⟩,hy2,h⟩:=zAc h;refine⟨_,⟨_,_,hy2,rfl,rfl⟩,?_⟩
 obtain⟨⟨y3A,y3D,y3B,y3C⟩,hy3,h⟩:=zAc h;refine⟨_,⟨_,_,_,hy3,rfl,rfl⟩,?_⟩
 obtain⟨⟨y4A,y4D,y4B,y4C⟩,hy4,h⟩:=zAc h;refine⟨_,⟨_,_,hy4,rfl,rfl⟩,?_⟩
 obtain⟨⟨y5A,y5D,y5B,y5C⟩,hy5,h⟩:=zAc h;refine⟨_,⟨_,_,_,hy5,rfl,rfl⟩,?_⟩
 intro r6 hr6;obtain rfl:CV.encs [CV.mk y2A y2D y2B y2C,CV.mk y3A y3D y3B y3C,CV.mk y4A y4D y4B y4C,CV.mk y5A y5D y5B y5C]=r6:=(hr6.trans zMO).symm;obtain⟨⟨y7A,y7D,y7B,y7C⟩,hy7,h⟩:=zAc h;refine⟨_,⟨_,_,hy7,rfl,rfl⟩,?_⟩
 refine zAd ?_;have hy:=osi h;subst hy;exact fin0 rfl rfl
def zUw (n:Nat) (xs:List AV) (r:Ret):Prop:=∃ (a0:(List UInt8×Nd×List zRc×Int)) (y0:List UInt8) (y1:Int),zLd n a0=some (y0,y1)/\xs=[.agg ((zAQ a0).map .s)]/\r = .val (.tup [.s (.sl 1 ((List.map brow) y0)),.s (.int .i64 y1)])
def zN9:zAr:=zAq fun xs r=>∃ n,zUw n xs r
theorem zVn {α:Type}{a b:α} (h:a=b:=by simp[List.map_append,List.map_take,List.map_drop,irow,brow,zEa,List.map_cons,List.map_nil,zDr,Nd.encs_eq,Nd.enc,CV.encs_eq,CV.enc,zBf,zAR,zBT,zAP,zAI,zAo,zAG,zA9,zAk,zAQ]):a=b :=
 h
theorem zTH:PSound Tryz.prog 10 zN9:=by
 have gok:∀ f s,look? f [(12,zJm),(27,zGz),(26,zKv),(28,zHT)]=some s->PSound Tryz.prog f s:=zAm (by
  simp only[List.forall_mem_cons]
  exact⟨zL5,zJP,zOX,zJF,by simp⟩)
 refine zAs tokW Tryz.call10 Tryz.func10 rfl (fun xs r h=>by obtain⟨n,_,_,_,_,rfl,_⟩:=h; show 1<=42; decide) 42 rfl ?_;rintro xs r w0 G0 ⟨n,⟨d1V,⟨d1Q,d1R,d1S,d1T⟩,d1J,d1U⟩,y0,y1,h,rfl,rfl⟩ _;rw[zLd]at h;refine yAh [2] [] rfl ?_;refine zAh (Le.rnm [] [(1,.s (.pt [.str d1V,.int .i64 d1Q,.str d1R,.int .i64 d1S,.sl 4 (Nd.encs d1T),.sl 5 ((List.map zAk) d1J),.int .i64 d1U]))] [] 0 ⟨rfl,trivial⟩ trivial) ?_;refine zAa ?_;refine yAW ?_
 obtain⟨y2,hy2,h⟩:=zAc h;refine⟨_,⟨_,_,_,hy2,rfl,rfl⟩,?_⟩
 refine zAf rfl h (fun hb h=>?_) (fun hb h=>?_)
 ·refine yAh [2] [] rfl ?_;refine zAh (Le.rnm [(0,0)] [(2,.orow 0),(3,.s (.int .i64 1))] [(0,.row 5 1 ((List.map brow) []))] 1 ⟨rfl,rfl,trivial⟩ ⟨rfl,⟨_,rfl,congrArg (Ob.row 5 1) zVn⟩,trivial⟩) ?_;refine zAd ?_;obtain⟨hj1,hk1⟩:=pij h;subst hj1 hk1;unfold zDR
  exact⟨_,(Le.trans (Le.rnm [(0,0)] [(2,.orow 0),(3,.s (.int .i64 1))] [(0,.row 5 1 ((List.map brow) []))] 1 ⟨rfl,rfl,trivial⟩ ⟨rfl,⟨_,rfl,rfl⟩,trivial⟩) (Le.giveRow 0 rfl)),rfl,rfl⟩
 ·refine zAe ?_;refine yAW ?_;obtain⟨⟨y3A,y3D,y3B,y3C⟩,hy3,h⟩:=zAc h;refine⟨_,⟨_,_,_,hy3,rfl,rfl⟩,?_⟩
  obtain⟨⟨y4,y5⟩,hy4,h⟩:=zAc h;refine⟨_,⟨_,_,_,_,hy4,rfl,rfl⟩,?_⟩
  refine zAa ?_;refine yAW ?_;refine zAf rfl h (fun hb h=>?_) (fun hb h=>?_)
  ·refine yAh [2] [] rfl ?_;refine zAh (Le.rnm [(0,0)] [(2,.orow 0),(3,.s (.int .i64 6))] [(0,.row 5 1 ((List.map brow) []))] 1 ⟨rfl,rfl,trivial⟩ ⟨rfl,⟨_,rfl,congrArg (Ob.row 5 1) zVn⟩,trivial⟩) ?_;refine zAd ?_;obtain⟨hj1,hk1⟩:=pij h;subst hj1 hk1;unfold zDR
   exact⟨_,(Le.trans (Le.rnm [(0,0)] [(2,.orow 0),(3,.s (.int .i64 6))] [(0,.row 5 1 ((List.map brow) []))] 1 ⟨rfl,rfl,trivial⟩ ⟨rfl,⟨_,rfl,rfl⟩,trivial⟩) (Le.giveRow 0 rfl)),rfl,rfl⟩
  ·refine zAe ?_;refine yAh [23] [21] rfl ?_;intro n6 hn6;obtain rfl:(y4.length:Int)=n6:=(hn6.trans (congrArg (fun m:Nat=>(m:Int)) (rlen (fun _=>rfl) y4))).symm;obtain⟨hq,h⟩:=zAw h;refine And.intro (show 0<=(0:Int)/\(0:Int)<=(IntKind.i64.wrap (12+(y4.length:Int)))/\(IntKind.i64.wrap (12+(y4.length:Int))) * ((1:Nat):Int)<=281474976710656/\(IntKind.i64.wrap (12+(y4.length:Int)))<=281474976710656 from⟨hq.1,hq.2.1,by have h1:=hq.1; have h2:=hq.2.1; have h3:=hq.2.2; omega,by have h3:=hq.2.2; omega⟩) ?_;show Tri ..
   refine zAh (Le.rnm [(0,0)] [(4,.s (.sl 1 ((List.map brow) y4))),(6,.orow 0)] [(0,.row 5 1 ((List.map brow) (List.replicate (0:Int).toNat (b8of 0))))] 1 ⟨rfl,rfl,trivial⟩ ⟨rfl,⟨_,rfl,congrArg (Ob.row 5 1) zVn⟩,trivial⟩) ?_;refine yAh [25] [] rfl ?_;obtain⟨hq,h⟩:=zAw h
   refine And.intro (show(((List.map brow) (List.replicate (0:Int).toNat (b8of 0))).length+(List.map brow [86,67,76,49]).length) * 1<=140737488355328/\((List.map brow) (List.replicate (0:Int).toNat (b8of 0))).length+(List.map brow [86,67,76,49]).length<=9223372036854775807 from by simp only[List.length_append,List.length_cons,List.length_nil,List.length_map,rlen (fun _=>rfl)]at hq ⊢; omega) ?_;show Tri ..
   refine zAh (Le.rnm [(1,0)] [(4,.s (.sl 1 ((List.map brow) y4))),(6,.orow 0)] [(0,.row 5 1 ((List.map brow) ((List.replicate (0:Int).toNat (b8of 0))++[86,67,76,49])))] 1 ⟨rfl,rfl,trivial⟩ ⟨rfl,⟨_,rfl,congrArg (Ob.row 5 1) zVn⟩,trivial⟩) ?_;refine yAW ?_;obtain⟨y7,hy7,h⟩:=zAc h
   refine⟨_,⟨_,_,_,hy7,rfl,rfl⟩,?_⟩
   refine zAa ?_;refine yAW ?_;show Tri ..;obtain⟨l11,hl,h⟩:=zAc h;refine zAl ⟨ofL [(4,.s (.sl 1 ((List.map brow) y4))),(6,.orow 0)],ofH [(0,.row 5 1 ((List.map brow) l11))],1⟩ ?_ (fun σ' hle=>?_)
   ·refine zAi (zAt (X:=Nat×Int×(List UInt8)) (fun y=>match y with | (k,shift9,l10)=>⟨ofL [(4,.s (.sl 1 ((List.map brow) y4))),(6,.orow 0),(7,.s (.int .u64 y7)),(8,.s (.int .i64 shift9))],ofH [(0,.row 5 1 ((List.map brow) l10))],1⟩) (fun y=>zEV y7 y.1 y.2.1 y.2.2=some l11) (fun y=>y.1) (n,56,(List.replicate (0:Int).toNat (b8of 0))++[86,67,76,49]) hl ?_ ?_)
    ·exact(Le.rnm [(0,0)] _ _ _ ⟨rfl,rfl,rfl,rfl,trivial⟩ ⟨rfl,⟨_,rfl,rfl⟩,trivial⟩)
    ·rintro⟨k,shift9,l10⟩ h;cases k with
     | zero=>cases h
     | succ k =>
      replace h:zEV y7 (k+1) shift9 l10=some l11:=h;rw[zEV]at h;refine zAa ?_;refine yAW ?_;refine zAf rfl h (fun hb h=>?_) (fun hb h=>?_)
      ·refine zAe ?_;refine zAa ?_;refine zAi ?_;refine zAb [38] [37] rfl ?_;obtain⟨hq,h⟩:=zAw h;refine And.intro hq ?_;intro r12 hr12;obtain rfl:(List.map brow) [b8of (IntKind.u8.wrap (y7.fdiv (2 ^ (min shift9.toNat IntKind.u64.bits))))]=r12:=(hr12.trans zVn).symm;obtain⟨hq,h⟩:=zAw h
       refine And.intro (show(((List.map brow) l10).length+((List.map brow) [b8of (IntKind.u8.wrap (y7.fdiv (2 ^ (min shift9.toNat IntKind.u64.bits))))]).length) * 1<=140737488355328/\((List.map brow) l10).length+((List.map brow) [b8of (IntKind.u8.wrap (y7.fdiv (2 ^ (min shift9.toNat IntKind.u64.bits))))]).length<=9223372036854775807 from by simp only[List.length_append,List.length_cons,List.length_nil,List.length_map,rlen (fun _=>rfl)]at hq ⊢; omega) ?_;show Tri ..
       refine zAh (Le.rnm [(1,0)] [(4,.s (.sl 1 ((List.map brow) y4))),(6,.orow 0),(7,.s (.int .u64 y7)),(8,.s (.int .i64 shift9))] [(0,.row 5 1 ((List.map brow) (l10++[b8of (IntKind.u8.wrap (y7.fdiv (2 ^ (min shift9.toNat IntKind.u64.bits))))])))] 1 ⟨rfl,rfl,rfl,rfl,trivial⟩ ⟨rfl,⟨_,rfl,congrArg (Ob.row 5 1) zVn⟩,trivial⟩) ?_
       refine yAV ?_;refine⟨(k,IntKind.i64.wrap (shift9 - 8),l10++[b8of (IntKind.u8.wrap (y7.fdiv (2 ^ (min shift9.toNat IntKind.u64.bits))))]),h,(Le.rnm [(0,0)] _ _ _ ⟨rfl,rfl,rfl,rfl,trivial⟩ ⟨rfl,⟨_,rfl,rfl⟩,trivial⟩),Nat.lt_succ_self k⟩
      ·refine zAy ?_;cases h;exact(Le.rnm [(0,0)] _ _ _ ⟨rfl,rfl,trivial⟩ ⟨rfl,⟨_,rfl,rfl⟩,trivial⟩)
   ·refine zAh hle ?_;refine yAh [41] [] rfl ?_;obtain⟨hq,h⟩:=zAw h;refine And.intro (show(((List.map brow) l11).length+((List.map brow) y4).length) * 1<=140737488355328/\((List.map brow) l11).length+((List.map brow) y4).length<=9223372036854775807 from by simp only[List.length_append,List.length_cons,List.length_nil,List.length_map,rlen (fun _=>rfl)]at hq ⊢; omega) ?_;show Tri ..
    refine zAh (Le.rnm [(1,0)] [(2,.orow 0),(3,.s (.int .i64 0))] [(0,.row 5 1 ((List.map brow) (l11++y4)))] 1 ⟨rfl,rfl,trivial⟩ ⟨rfl,⟨_,rfl,congrArg (Ob.row 5 1) zVn⟩,trivial⟩) ?_;refine zAd ?_;obtain⟨hj1,hk1⟩:=pij h;subst hj1 hk1;unfold zDR
    exact⟨_,(Le.trans (Le.rnm [(0,0)] [(2,.orow 0),(3,.s (.int .i64 0))] [(0,.row 5 1 ((List.map brow) (l11++y4)))] 1 ⟨rfl,rfl,trivial⟩ ⟨rfl,⟨_,rfl,rfl⟩,trivial⟩) (Le.giveRow 0 rfl)),rfl,rfl⟩
def zUz (n:Nat) (xs:List AV) (r:Ret):Prop:=∃ (y0:Bool),zFV n=some y0/\xs=[]/\r = .val (.s (.bool y0))
def zOa:zAr:=zAq fun xs r=>∃ n,zUz n xs r
theorem zTI:PSound Tryz.prog 8 zOa:=by
 have gok:∀ f s,look? f [(10,zN9)]=some s->PSound Tryz.prog f s:=zAm (by
  simp only[List.forall_mem_cons]
  exact⟨zTH,by simp⟩)
 refine zAs tokW Tryz.call8 Tryz.func8 rfl (fun xs r h=>by obtain⟨n,_,_,rfl,_⟩:=h; show 0<=22; decide) 22 rfl ?_;rintro xs r w0 G0 ⟨n,y0,h,rfl,rfl⟩ _;rw[zFV]at h;refine yAW ?_;refine yAW ?_;obtain⟨⟨y1,y2⟩,hy1,h⟩:=zAc h;refine⟨_,⟨_,_,_,_,hy1,rfl,rfl⟩,?_⟩
 refine zAa ?_;obtain⟨x3,hj,h⟩:=zAc h;refine zAl ⟨ofL [(0,.s (.bool x3))],fun _=>none,0⟩ ?_ (fun σ' hle=>?_)
 ·replace h:=hj;refine zAb [] [11,13,16,18,19] rfl ?_;intro b hb;cases b with
  | true =>
   replace h:=zAv hb.symm h;intro n4 hn4;obtain rfl:(y1.length:Int)=n4:=(hn4.trans (congrArg (fun m:Nat=>(m:Int)) (rlen (fun _=>rfl) y1))).symm;intro b hb;cases b with
   | true =>
    replace h:=zAv hb.symm h;obtain⟨hq,h⟩:=zAw h;refine And.intro ⟨hq.1,Int.le_trans hq.2.1 (Int.ofNat_le.2 (Nat.le_of_eq (rlen (fun _=>rfl) _).symm)),Int.le_refl _⟩ ?_;intro r5 hr5;obtain rfl:(List.map brow) ((y1.take (y1.length:Int).toNat).drop (12:Int).toNat)=r5:=(hr5.trans ((congrArg (fun m:Nat=>(((List.map brow) y1).take m).drop (12:Int).toNat) (rlen (fun _=>rfl) _)).trans (rcut (fun _=>rfl) _ _ _))).symm;refine And.intro (show List.map brow ((y1.take (y1.length:Int).toNat).drop (12:Int).toNat)=((List.map brow ((y1.take (y1.length:Int).toNat).drop (12:Int).toNat)).map zGB).map brow from by rw[zC7]) ?_;intro s6 hs6
    obtain rfl:(y1.take (y1.length:Int).toNat).drop (12:Int).toNat=s6:=(hs6.trans (zC7 _)).symm;cases h;exact(Le.forget _ ⟨rfl,trivial⟩)
   | false =>
    replace h:=zAu hb.symm h;cases h;exact(Le.forget _ ⟨rfl,trivial⟩)
  | false =>
   replace h:=zAu hb.symm h;intro b hb;subst hb;cases h;exact(Le.forget _ ⟨rfl,trivial⟩)
 ·refine zAh hle ?_;refine zAd ?_;have hy:=osi h;subst hy;exact fin0 rfl rfl
def zIC (xs:List AV) (r:Ret):Prop:=∃ (a0:List UInt8) (a1:List UInt8) (y0:Bool),zCD a0 a1=some y0/\xs=[.s (.str a0),.s (.str a1)]/\r = .val (.s (.bool y0))
def zFr:zAr:=zAq fun xs r=>zIC xs r
theorem zIx:PSound Tryz.prog 81 zFr:=by
 have gok:=@gok0 Tryz.prog;refine zAs tokW Tryz.call81 Tryz.func81 rfl (fun xs r h=>by obtain⟨_,_,_,_,rfl,_⟩:=h; show 2<=18; decide) 18 rfl ?_;rintro xs r w0 G0 ⟨s1,prefix2,y0,h,rfl,rfl⟩ _;rw[zCD]at h;refine yAW ?_;refine zAa ?_;obtain⟨x3,hj,h⟩:=zAc h;refine zAl ⟨ofL [(4,.s (.bool x3))],fun _=>none,0⟩ ?_ (fun σ' hle=>?_)
 ·replace h:=hj;refine zAb [] [10] rfl ?_;intro b hb;cases b with
  | true =>
   replace h:=zAv hb.symm h;obtain⟨hq,h⟩:=zAw h;refine And.intro hq ?_;cases h;exact(Le.forget _ ⟨rfl,trivial⟩)
  | false =>
   replace h:=zAu hb.symm h;cases h;exact(Le.forget _ ⟨rfl,trivial⟩)
 ·refine zAh hle ?_;refine zAd ?_;have hy:=osi h;subst hy;exact fin0 rfl rfl
def zK1 (xs:List AV) (r:Ret):Prop:=∃ (a0:List UInt8) (a1:List UInt8) (y0:Bool),zCS a0 a1=some y0/\xs=[.s (.str a0),.s (.str a1)]/\r = .val (.s (.bool y0))
def zG9:zAr:=zAq fun xs r=>zK1 xs r
theorem zKq:PSound Tryz.prog 39 zG9:=by
 have gok:∀ f s,look? f [(81,zFr)]=some s->PSound Tryz.prog f s:=zAm (by
  simp only[List.forall_mem_cons]
  exact⟨zIx,by simp⟩)
 refine zAs tokW Tryz.call39 Tryz.func39 rfl (fun xs r h=>by obtain⟨_,_,_,_,rfl,_⟩:=h; show 2<=8; decide) 8 rfl ?_;rintro xs r w0 G0 ⟨s1,prefix2,y0,h,rfl,rfl⟩ _;rw[zCS]at h;refine yAW ?_;refine yAW ?_;obtain⟨y3,hy3,h⟩:=zAc h;refine⟨_,⟨_,_,_,hy3,rfl,rfl⟩,?_⟩
 refine zAd ?_;have hy:=osi h;subst hy;exact fin0 rfl rfl
def zAp (p:(Int)):List S:=[.int .i64 p]
def zLB (xs:List AV) (os:List Ob) (x:AV) (os':List (Option Ob)):Prop:=∃ (a0:(Int)) (z0:(Int)),zBh a0=some z0/\xs=[.op 0 0]/\os=[.box 92 ((zAp a0).map .s)]/\x = .tup []/\os'=[some (.box 92 ((zAp z0).map .s))]
def zCo:zAr:=zBI (fun xs os x os'=>zLB xs os x os')
theorem zCU:PSound Tryz.prog 124 zCo:=by
 have gok:=@gok0 Tryz.prog;refine PSound.withNil (zDZ tokW Tryz.call124 Tryz.func124 rfl (fun xs os x os' h=>by obtain⟨_,_,_,rfl,rfl,_,rfl⟩:=h; exact⟨by show 1<=10; decide,by show 1<=1; decide⟩) 10 rfl ?_) _;rintro xs os x os' w0 G0 B0 ⟨r1,z0,h,rfl,rfl,rfl,rfl⟩ _;rw[zBh]at h;refine yAW ?_;refine zAf rfl h (fun hb h=>?_) (fun hb h=>?_)
 ·refine yAV ?_;have hy:=osi h;subst hy;unfold zBb;exact⟨_,(Le.rnm [(0,0)] [] [(0,.box 92 [.s (.int .i64 4)])] 1 trivial ⟨rfl,⟨_,rfl,rfl⟩,trivial⟩),rfl,rfl,rfl,rfl,trivial⟩
 ·refine zAe ?_;have hy:=osi h;subst hy;unfold zBb;exact⟨_,(Le.rnm [(0,0)] [] [(0,.box 92 [.s (.int .i64 r1)])] 1 trivial ⟨rfl,⟨_,rfl,rfl⟩,trivial⟩),rfl,rfl,rfl,rfl,trivial⟩
def zLC (xs:List AV) (os:List Ob) (x:AV) (os':List (Option Ob)):Prop:=∃ (a0:(Int)) (a1:CV) (y0:List CV) (z0:(Int)),zBi a0 a1=some (y0,z0)/\xs=[.op 0 0,.agg ((CV.enc a1).map .s)]/\os=[.box 92 ((zAp a0).map .s)]/\x = .s (.sl 4 (CV.encs y0))/\os'=[some (.box 92 ((zAp z0).map .s))]
def zCp:zAr:=zBI (fun xs os x os'=>zLC xs os x os')
theorem zCW:PSound Tryz.prog 88 zCp:=by
 have gok:∀ f s,look? f [(124,zCo)]=some s->PSound Tryz.prog f s:=zAm (by
  simp only[List.forall_mem_cons]
  exact⟨zCU,by simp⟩)
 refine PSound.withNil (zDZ tokW Tryz.call88 Tryz.func88 rfl (fun xs os x os' h=>by obtain⟨_,_,_,_,_,rfl,rfl,_,rfl⟩:=h; exact⟨by show 2<=12; decide,by show 1<=1; decide⟩) 12 rfl ?_) _;rintro xs os x os' w0 G0 B0 ⟨r1,⟨v2A,v2D,v2B,v2C⟩,y0,z0,h,rfl,rfl,rfl,rfl⟩ _;rw[zBi]at h;refine yAW ?_;refine zAa ?_;refine yAW ?_;show Tri ..;obtain⟨x3,hj,h⟩:=zAc h;refine zAl ⟨ofL [(3,.s (.pt [.int .i64 v2A,.int .i64 v2D,.str v2B,.sl 4 (CV.encs v2C)]))],ofH [(0,.box 92 [.s (.int .i64 x3)])],1⟩ ?_ (fun σ' hle=>?_)
 ·replace h:=hj;refine zAf rfl h (fun hb h=>?_) (fun hb h=>?_)
  ·refine yAV ?_;obtain⟨w4,hw4,h⟩:=zAc h;refine⟨_,_,⟨_,_,hw4,rfl,rfl,rfl,rfl⟩,?_⟩
   cases h;exact(Le.rnm [(0,0)] _ _ _ ⟨rfl,trivial⟩ ⟨rfl,⟨_,rfl,rfl⟩,trivial⟩)
  ·refine zAe ?_;cases h;exact(Le.rnm [(0,0)] _ _ _ ⟨rfl,trivial⟩ ⟨rfl,⟨_,rfl,rfl⟩,trivial⟩)
 ·refine zAh hle ?_;refine yAW ?_;refine zAd ?_;obtain⟨hj1,hk1⟩:=pij h;subst hj1 hk1;unfold zBb;exact⟨_,(Le.rnm [(0,0)] [(4,.s (.sl 4 (CV.encs v2C)))] [(0,.box 92 [.s (.int .i64 x3)])] 1 ⟨rfl,trivial⟩ ⟨rfl,⟨_,rfl,rfl⟩,trivial⟩),rfl,rfl,rfl,rfl,trivial⟩
def zKZ (xs:List AV) (os:List Ob) (x:AV) (os':List (Option Ob)):Prop:=∃ (a0:(Int)) (a1:CV) (a2:Int) (y0:List CV) (z0:(Int)),zB4 a0 a1 a2=some (y0,z0)/\xs=[.op 0 0,.agg ((CV.enc a1).map .s),.s (.int .i64 a2)]/\os=[.box 92 ((zAp a0).map .s)]/\x = .s (.sl 4 (CV.encs y0))/\os'=[some (.box 92 ((zAp z0).map .s))]
def zE3:zAr:=zBI (fun xs os x os'=>zKZ xs os x os')
theorem yAK {α:Type}{a b:α} (h:a=b:=by simp[List.map_append,List.map_take,List.map_drop,irow,brow,zEa,List.map_cons,List.map_nil,zDr,CV.encs_eq,CV.enc,Nd.encs_eq,Nd.enc,zBf,zAR,zBT,zAP,zAI,zAo,zAG,zA9,zAk,zAQ,zAp]):a=b :=
 h
theorem zGD:PSound Tryz.prog 123 zE3:=by
 have gok:∀ f s,look? f [(88,zCp),(124,zCo)]=some s->PSound Tryz.prog f s:=zAm (by
  simp only[List.forall_mem_cons]
  exact⟨zCW,zCU,by simp⟩)
 refine PSound.withNil (zDZ tokW Tryz.call123 Tryz.func123 rfl (fun xs os x os' h=>by obtain⟨_,_,_,_,_,_,rfl,rfl,_,rfl⟩:=h; exact⟨by show 3<=20; decide,by show 1<=1; decide⟩) 20 rfl ?_) _;rintro xs os x os' w0 G0 B0 ⟨r1,⟨v2A,v2D,v2B,v2C⟩,size3,y0,z0,h,rfl,rfl,rfl,rfl⟩ _;rw[zB4]at h;refine yAW ?_;refine yAW ?_;obtain⟨⟨y4,w5⟩,hy4,h⟩:=zAc h;refine⟨_,_,⟨_,_,_,_,hy4,rfl,rfl,rfl,rfl⟩,?_⟩
 refine zAa ?_;refine yAh [] [12] rfl ?_;intro n6 hn6;obtain rfl:(y4.length:Int)=n6:=(hn6.trans (congrArg (fun m:Nat=>(m:Int)) (rlen CV.encs_eq y4))).symm;refine zAf rfl h (fun hb h=>?_) (fun hb h=>?_)
 ·refine yAW ?_;obtain⟨w7,hw7,h⟩:=zAc h;refine⟨_,_,⟨_,_,hw7,rfl,rfl,rfl,rfl⟩,?_⟩
  refine yAW ?_;obtain⟨hq,h⟩:=zAw h;refine And.intro (show 0<=size3/\size3<=size3/\size3 * ((56:Nat):Int)<=281474976710656/\size3<=281474976710656 from⟨hq.1,Int.le_refl _,by have h1:=hq.1; have h2:=hq.2; omega,by have h2:=hq.2; omega⟩) ?_;show Tri ..
  refine zAh (Le.rnm [(0,0),(1,1)] [(6,.orow 1)] [(0,.box 92 [.s (.int .i64 w7)]),(1,.row 68 4 (CV.encs (List.replicate size3.toNat (CV.mk 0 0 [] []))))] 2 ⟨rfl,trivial⟩ ⟨rfl,⟨_,rfl,rfl⟩,rfl,⟨_,rfl,congrArg (Ob.row 68 4) yAK⟩,trivial⟩) ?_;refine zAd ?_;obtain⟨hj1,hk1⟩:=pij h;subst hj1 hk1;unfold zBb
  exact⟨_,(Le.trans (Le.rnm [(0,0),(1,1)] [(6,.orow 1)] [(0,.box 92 [.s (.int .i64 w7)]),(1,.row 68 4 (CV.encs (List.replicate size3.toNat (CV.mk 0 0 [] []))))] 2 ⟨rfl,trivial⟩ ⟨rfl,⟨_,rfl,rfl⟩,rfl,⟨_,rfl,rfl⟩,trivial⟩) (Le.giveRow 1 rfl)),rfl,rfl,rfl,rfl,trivial⟩
 ·refine zAe ?_;refine yAW ?_;refine zAd ?_;obtain⟨hj1,hk1⟩:=pij h;subst hj1 hk1;unfold zBb;exact⟨_,(Le.rnm [(0,0)] [(6,.s (.sl 4 (CV.encs y4)))] [(0,.box 92 [.s (.int .i64 w5)])] 1 ⟨rfl,trivial⟩ ⟨rfl,⟨_,rfl,rfl⟩,trivial⟩),rfl,rfl,rfl,rfl,trivial⟩
def zJf (xs:List AV) (os:List Ob) (x:AV) (os':List (Option Ob)):Prop:=∃ (a0:(Int)) (a1:CV) (a2:Int) (y0:List CV) (z0:(Int)),zBc a0 a1 a2=some (y0,z0)/\xs=[.op 0 0,.agg ((CV.enc a1).map .s),.s (.int .i64 a2)]/\os=[.box 92 ((zAp a0).map .s)]/\x = .s (.sl 4 (CV.encs y0))/\os'=[some (.box 92 ((zAp z0).map .s))]
def zCe:zAr:=zBI (fun xs os x os'=>zJf xs os x os')
theorem zCX:PSound Tryz.prog 83 zCe:=by
 have gok:∀ f s,look? f [(123,zE3),(124,zCo)]=some s->PSound Tryz.prog f s:=zAm (by
  simp only[List.forall_mem_cons]
  exact⟨zGD,zCU,by simp⟩)
 refine PSound.withNil (zDZ tokW Tryz.call83 Tryz.func83 rfl (fun xs os x os' h=>by obtain⟨_,_,_,_,_,_,rfl,rfl,_,rfl⟩:=h; exact⟨by show 3<=19; decide,by show 1<=1; decide⟩) 19 rfl ?_) _;rintro xs os x os' w0 G0 B0 ⟨r1,⟨v2A,v2D,v2B,v2C⟩,size3,y0,z0,h,rfl,rfl,rfl,rfl⟩ _;rw[zBc]at h;refine yAW ?_;refine yAW ?_;obtain⟨⟨y4,w5⟩,hy4,h⟩:=zAc h;refine⟨_,_,⟨_,_,_,_,_,hy4,rfl,rfl,rfl,rfl⟩,?_⟩
 refine zAa ?_;refine yAh [] [13] rfl ?_;intro n6 hn6;obtain rfl:(y4.length:Int)=n6:=(hn6.trans (congrArg (fun m:Nat=>(m:Int)) (rlen CV.encs_eq y4))).symm;show Tri ..;obtain⟨x7,hj,h⟩:=zAc h;refine zAl ⟨ofL [(7,.s (.sl 4 (CV.encs y4)))],ofH [(0,.box 92 [.s (.int .i64 x7)])],1⟩ ?_ (fun σ' hle=>?_)
 ·replace h:=hj;refine zAf rfl h (fun hb h=>?_) (fun hb h=>?_)
  ·refine yAV ?_;obtain⟨w8,hw8,h⟩:=zAc h;refine⟨_,_,⟨_,_,hw8,rfl,rfl,rfl,rfl⟩,?_⟩
   cases h;exact(Le.rnm [(0,0)] _ _ _ ⟨rfl,trivial⟩ ⟨rfl,⟨_,rfl,rfl⟩,trivial⟩)
  ·refine zAe ?_;cases h;exact(Le.rnm [(0,0)] _ _ _ ⟨rfl,trivial⟩ ⟨rfl,⟨_,rfl,rfl⟩,trivial⟩)
 ·refine zAh hle ?_;refine yAW ?_;refine zAd ?_;obtain⟨hj1,hk1⟩:=pij h;subst hj1 hk1;unfold zBb;exact⟨_,(Le.rnm [(0,0)] [(6,.s (.sl 4 (CV.encs y4)))] [(0,.box 92 [.s (.int .i64 x7)])] 1 ⟨rfl,trivial⟩ ⟨rfl,⟨_,rfl,rfl⟩,trivial⟩),rfl,rfl,rfl,rfl,trivial⟩
def zLD (xs:List AV) (os:List Ob) (x:AV) (os':List (Option Ob)):Prop:=∃ (a0:(Int)) (a1:CV) (y0:List UInt8) (z0:(Int)),zBx a0 a1=some (y0,z0)/\xs=[.op 0 0,.agg ((CV.enc a1).map .s)]/\os=[.box 92 ((zAp a0).map .s)]/\x = .s (.str y0)/\os'=[some (.box 92 ((zAp z0).map .s))]
def zD9:zAr:=zBI (fun xs os x os'=>zLD xs os x os')
theorem zFd:PSound Tryz.prog 84 zD9:=by
 have gok:∀ f s,look? f [(124,zCo)]=some s->PSound Tryz.prog f s:=zAm (by
  simp only[List.forall_mem_cons]
  exact⟨zCU,by simp⟩)
 refine PSound.withNil (zDZ tokW Tryz.call84 Tryz.func84 rfl (fun xs os x os' h=>by obtain⟨_,_,_,_,_,rfl,rfl,_,rfl⟩:=h; exact⟨by show 2<=12; decide,by show 1<=1; decide⟩) 12 rfl ?_) _;rintro xs os x os' w0 G0 B0 ⟨r1,⟨v2A,v2D,v2B,v2C⟩,y0,z0,h,rfl,rfl,rfl,rfl⟩ _;rw[zBx]at h;refine yAW ?_;refine zAa ?_;refine yAW ?_;show Tri ..;obtain⟨x3,hj,h⟩:=zAc h;refine zAl ⟨ofL [(3,.s (.pt [.int .i64 v2A,.int .i64 v2D,.str v2B,.sl 4 (CV.encs v2C)]))],ofH [(0,.box 92 [.s (.int .i64 x3)])],1⟩ ?_ (fun σ' hle=>?_)
 ·replace h:=hj;refine zAf rfl h (fun hb h=>?_) (fun hb h=>?_)
  ·refine yAV ?_;obtain⟨w4,hw4,h⟩:=zAc h;refine⟨_,_,⟨_,_,hw4,rfl,rfl,rfl,rfl⟩,?_⟩
   cases h;exact(Le.rnm [(0,0)] _ _ _ ⟨rfl,trivial⟩ ⟨rfl,⟨_,rfl,rfl⟩,trivial⟩)
  ·refine zAe ?_;cases h;exact(Le.rnm [(0,0)] _ _ _ ⟨rfl,trivial⟩ ⟨rfl,⟨_,rfl,rfl⟩,trivial⟩)
 ·refine zAh hle ?_;refine yAW ?_;refine zAd ?_;obtain⟨hj1,hk1⟩:=pij h;subst hj1 hk1;unfold zBb;exact⟨_,(Le.rnm [(0,0)] [(4,.s (.str v2B))] [(0,.box 92 [.s (.int .i64 x3)])] 1 ⟨rfl,trivial⟩ ⟨rfl,⟨_,rfl,rfl⟩,trivial⟩),rfl,rfl,rfl,rfl,trivial⟩
def zKg (xs:List AV) (os:List Ob) (x:AV) (os':List (Option Ob)):Prop:=∃ (a0:(Int)) (a1:CV) (y0:Int) (z0:(Int)),zAE a0 a1=some (y0,z0)/\xs=[.op 0 0,.agg ((CV.enc a1).map .s)]/\os=[.box 92 ((zAp a0).map .s)]/\x = .s (.int .i64 y0)/\os'=[some (.box 92 ((zAp z0).map .s))]
def zCx:zAr:=zBI (fun xs os x os'=>zKg xs os x os')
theorem zDe:PSound Tryz.prog 86 zCx:=by
 have gok:∀ f s,look? f [(124,zCo)]=some s->PSound Tryz.prog f s:=zAm (by
  simp only[List.forall_mem_cons]
  exact⟨zCU,by simp⟩)
 refine PSound.withNil (zDZ tokW Tryz.call86 Tryz.func86 rfl (fun xs os x os' h=>by obtain⟨_,_,_,_,_,rfl,rfl,_,rfl⟩:=h; exact⟨by show 2<=12; decide,by show 1<=1; decide⟩) 12 rfl ?_) _;rintro xs os x os' w0 G0 B0 ⟨r1,⟨v2A,v2D,v2B,v2C⟩,y0,z0,h,rfl,rfl,rfl,rfl⟩ _;rw[zAE]at h;refine yAW ?_;refine zAa ?_;refine yAW ?_;show Tri ..;obtain⟨x3,hj,h⟩:=zAc h;refine zAl ⟨ofL [(3,.s (.pt [.int .i64 v2A,.int .i64 v2D,.str v2B,.sl 4 (CV.encs v2C)]))],ofH [(0,.box 92 [.s (.int .i64 x3)])],1⟩ ?_ (fun σ' hle=>?_)
 ·replace h:=hj;refine zAf rfl h (fun hb h=>?_) (fun hb h=>?_)
  ·refine yAV ?_;obtain⟨w4,hw4,h⟩:=zAc h;refine⟨_,_,⟨_,_,hw4,rfl,rfl,rfl,rfl⟩,?_⟩
   cases h;exact(Le.rnm [(0,0)] _ _ _ ⟨rfl,trivial⟩ ⟨rfl,⟨_,rfl,rfl⟩,trivial⟩)
  ·refine zAe ?_;cases h;exact(Le.rnm [(0,0)] _ _ _ ⟨rfl,trivial⟩ ⟨rfl,⟨_,rfl,rfl⟩,trivial⟩)
 ·refine zAh hle ?_;refine yAW ?_;refine zAd ?_;obtain⟨hj1,hk1⟩:=pij h;subst hj1 hk1;unfold zBb;exact⟨_,(Le.rnm [(0,0)] [(4,.s (.int .i64 v2D))] [(0,.box 92 [.s (.int .i64 x3)])] 1 ⟨rfl,trivial⟩ ⟨rfl,⟨_,rfl,rfl⟩,trivial⟩),rfl,rfl,rfl,rfl,trivial⟩
def zBS (n:Nat) (xs:List AV) (os:List Ob) (x:AV) (os':List (Option Ob)):Prop:=∃ (a0:(Int)) (a1:List CV) (y0:List Nd) (z0:(Int)),zBu n a0 a1=some (y0,z0)/\xs=[.op 0 0,.s (.sl 4 (CV.encs a1)),.clo 1048661 [.op 0 0]]/\os=[.box 92 ((zAp a0).map .s)]/\x = .orow 1/\os'=[some (.box 92 ((zAp z0).map .s)),some (.row 24 4 (Nd.encs y0))]
def zCm (n:Nat) (xs:List AV) (os:List Ob) (x:AV) (os':List (Option Ob)):Prop:=∃ (a0:(Int)) (a1:CV) (y0:Nd) (z0:(Int)),zAZ n a0 a1=some (y0,z0)/\xs=[.op 0 0,.agg ((CV.enc a1).map .s)]/\os=[.box 92 ((zAp a0).map .s)]/\x = .agg ((Nd.enc y0).map .s)/\os'=[some (.box 92 ((zAp z0).map .s))]
theorem zFE {α:Type}{a b:α} (h:a=b:=by simp[List.map_append,List.map_take,List.map_drop,irow,brow,zEa,List.map_cons,List.map_nil,zDr,Nd.encs_eq,Nd.enc,CV.encs_eq,CV.enc,zBf,zAR,zBT,zAP,zAI,zAo,zAG,zA9,zAk,zAQ,zAp]):a=b :=
 h
theorem zIY (n:Nat) (ih_file_elements_Node:PSound Tryz.prog 125 (zBI (zBS n))) (ih_file_reader_tree:PSound Tryz.prog 85 (zBI (zCm n))):PSound Tryz.prog 125 (zBI (zBS (n+1))):=by
 have gok:∀ f s,look? f [(85,zBI (zCm n))]=some s->PSound Tryz.prog f s:=zAm (by
  simp only[List.forall_mem_cons]
  exact⟨ih_file_reader_tree,by simp⟩)
 refine PSound.withNil (zDZ tokW Tryz.call125 Tryz.func125 rfl (fun xs os x os' h=>by obtain⟨_,_,_,_,_,rfl,rfl,_,rfl⟩:=h; exact⟨by show 3<=29; decide,by show 1<=2; decide⟩) 29 rfl ?_) _;rintro xs os x os' w0 G0 B0 ⟨r1,l2,y0,z0,h,rfl,rfl,rfl,rfl⟩ _;rw[zBu]at h;refine yAh [6] [] rfl ?_;refine zAh (Le.rnm [(0,0)] [(0,.op 0 0),(1,.s (.sl 4 (CV.encs l2))),(2,.clo 1048661 [.op 0 0])] [(0,.box 92 [.s (.int .i64 r1)])] 1 ⟨rfl,rfl,rfl,trivial⟩ ⟨rfl,⟨_,rfl,rfl⟩,trivial⟩) ?_;refine yAh [7] [] rfl ?_;show Tri ..
 refine zAh (Le.rnm [(0,0),(1,1)] [(0,.op 0 0),(1,.s (.sl 4 (CV.encs l2))),(2,.clo 1048661 [.op 0 0]),(7,.orow 1)] [(0,.box 92 [.s (.int .i64 r1)]),(1,.row 24 4 (Nd.encs []))] 2 ⟨rfl,rfl,rfl,rfl,trivial⟩ ⟨rfl,⟨_,rfl,rfl⟩,rfl,⟨_,rfl,congrArg (Ob.row 24 4) zFE⟩,trivial⟩) ?_;refine zAa ?_;refine zAa ?_
 refine zAb [] [11] rfl ?_;intro n3 hn3;obtain rfl:(l2.length:Int)=n3:=(hn3.trans (congrArg (fun m:Nat=>(m:Int)) (rlen CV.encs_eq l2))).symm;show Tri ..;obtain⟨fl,hl,ho1⟩:=zAc h;refine zBA (fl:=fl) (fun z=>match z with | ⟨x8,l9⟩=>⟨ofL [(7,.orow 1)],ofH [(0,.box 92 [.s (.int .i64 x8)]),(1,.row 24 4 (Nd.encs l9))],2⟩) ?_ (fun z σ' hz hle=>?_)
 ·refine zAi (zAt (X:=Nat×Int×Int×(List Nd)) (fun y=>match y with | (k,x4,x5,l7)=>⟨ofL [(0,.op 0 0),(2,.clo 1048661 [.op 0 0]),(7,.orow 1),(10,.s (.sl 4 (CV.encs l2))),(11,.s (.int .i64 (l2.length:Int))),(12,.s (.int .i64 x5))],ofH [(0,.box 92 [.s (.int .i64 x4)]),(1,.row 24 4 (Nd.encs l7))],2⟩) (fun y=>zAO (zAZ n) l2 y.1 y.2.1 y.2.2.1 y.2.2.2=some fl) (fun y=>y.1) (n,r1,0,[]) hl ?_ ?_)
  ·exact(Le.rnm [(0,0),(1,1)] _ _ _ ⟨rfl,rfl,rfl,rfl,rfl,rfl,trivial⟩ ⟨rfl,⟨_,rfl,rfl⟩,rfl,⟨_,rfl,rfl⟩,trivial⟩)
  ·rintro⟨k,x4,x5,l7⟩ h;cases k with
   | zero=>cases h
   | succ k =>
    replace h:zAO (zAZ n) l2 (k+1) x4 x5 l7=some fl:=h;rw[zAO]at h;refine yAW ?_;refine zAa ?_;refine zAf rfl h (fun hb h=>?_) (fun hb h=>?_)
    ·refine zAe ?_;refine zAa ?_;refine zAi ?_;refine yAh [9] [14] rfl ?_;obtain⟨⟨e10A,e10D,e10B,e10C⟩,he10,h⟩:=zAc h;refine And.intro (zAn CV.encs_eq he10).1 ?_;intro r11 hr11;obtain rfl:[.int .i64 e10A,.int .i64 e10D,.str e10B,.sl 4 (CV.encs e10C)]=r11:=(hr11.trans (zAn CV.encs_eq he10).2.1).symm;refine zAh (Le.giveBox 2 [.int .i64 e10A,.int .i64 e10D,.str e10B,.sl 4 (CV.encs e10C)] rfl rfl) ?_;refine zAa ?_;refine yAW ?_;refine zAf rfl h (fun hb h=>?_) (fun hb h=>?_)
     ·refine yAh [6] [] rfl ?_;refine zAh (Le.rnm [(0,0),(3,1)] [(6,.orow 1)] [(0,.box 92 [.s (.int .i64 x4)]),(1,.row 24 4 (Nd.encs []))] 2 ⟨rfl,trivial⟩ ⟨rfl,⟨_,rfl,rfl⟩,rfl,⟨_,rfl,congrArg (Ob.row 24 4) zFE⟩,trivial⟩) ?_;refine zAd ?_;cases h;replace h:some _=some _:=ho1
      obtain⟨hj1,hk1⟩:=pij h;subst hj1 hk1;unfold zBb;exact⟨_,(Le.rnm [(0,0),(1,1)] [(6,.orow 1)] [(0,.box 92 [.s (.int .i64 x4)]),(1,.row 24 4 (Nd.encs []))] 2 ⟨rfl,trivial⟩ ⟨rfl,⟨_,rfl,rfl⟩,rfl,⟨_,rfl,rfl⟩,trivial⟩),rfl,rfl,rfl,rfl,rfl,rfl,trivial⟩
     ·refine zAe ?_;refine zAb [26] [25] rfl ?_;obtain⟨⟨⟨y12A,y12B,y12F,y12E⟩,w13⟩,hy12,h⟩:=zAc h;refine⟨_,_,⟨_,_,_,_,hy12,rfl,rfl,rfl,rfl⟩,?_⟩
      intro r14 hr14;obtain rfl:Nd.encs [Nd.mk y12A y12B y12F y12E]=r14:=(hr14.trans zFE).symm;obtain⟨hq,h⟩:=zAw h
      refine And.intro (show((Nd.encs l7).length+(Nd.encs [Nd.mk y12A y12B y12F y12E]).length) * 56<=140737488355328/\(Nd.encs l7).length+(Nd.encs [Nd.mk y12A y12B y12F y12E]).length<=9223372036854775807 from by simp only[List.length_append,List.length_cons,List.length_nil,List.length_map,rlen Nd.encs_eq]at hq ⊢; omega) ?_;show Tri ..
      refine zAh (Le.rnm [(0,0),(3,1)] [(0,.op 0 0),(2,.clo 1048661 [.op 0 0]),(7,.orow 1),(10,.s (.sl 4 (CV.encs l2))),(11,.s (.int .i64 (l2.length:Int))),(12,.s (.int .i64 x5))] [(0,.box 92 [.s (.int .i64 w13)]),(1,.row 24 4 (Nd.encs (l7++[Nd.mk y12A y12B y12F y12E])))] 2 ⟨rfl,rfl,rfl,rfl,rfl,rfl,trivial⟩ ⟨rfl,⟨_,rfl,rfl⟩,rfl,⟨_,rfl,congrArg (Ob.row 24 4) zFE⟩,trivial⟩) ?_
      refine yAV ?_;refine⟨(k,w13,IntKind.i64.wrap (x5+1),l7++[Nd.mk y12A y12B y12F y12E]),h,(Le.rnm [(0,0),(1,1)] _ _ _ ⟨rfl,rfl,rfl,rfl,rfl,rfl,trivial⟩ ⟨rfl,⟨_,rfl,rfl⟩,rfl,⟨_,rfl,rfl⟩,trivial⟩),Nat.lt_succ_self k⟩
    ·refine zAy ?_;cases h;exact⟨_,rfl,(Le.rnm [(0,0),(1,1)] _ _ _ ⟨rfl,trivial⟩ ⟨rfl,⟨_,rfl,rfl⟩,rfl,⟨_,rfl,rfl⟩,trivial⟩)⟩
 ·subst hz;obtain⟨x8,l9⟩:=z;replace h:=ho1;refine zAh hle ?_;refine yAW ?_;refine zAd ?_;obtain⟨hj1,hk1⟩:=pij h;subst hj1 hk1;unfold zBb;exact⟨_,(Le.rnm [(0,0),(1,1)] [(6,.orow 1)] [(0,.box 92 [.s (.int .i64 x8)]),(1,.row 24 4 (Nd.encs l9))] 2 ⟨rfl,trivial⟩ ⟨rfl,⟨_,rfl,rfl⟩,rfl,⟨_,rfl,rfl⟩,trivial⟩),rfl,rfl,rfl,rfl,rfl,rfl,trivial⟩
theorem zJ2 (n:Nat) (ih_file_elements_Node:PSound Tryz.prog 125 (zBI (zBS n))) (ih_file_reader_tree:PSound Tryz.prog 85 (zBI (zCm n))):PSound Tryz.prog 85 (zBI (zCm (n+1))):=by
 have gok:∀ f s,look? f [(123,zE3),(86,zCx),(84,zD9),(125,zBI (zBS n))]=some s->PSound Tryz.prog f s:=zAm (by
  simp only[List.forall_mem_cons]
  exact⟨zGD,zDe,zFd,ih_file_elements_Node,by simp⟩)
 refine PSound.withNil (zDZ tokW Tryz.call85 Tryz.func85 rfl (fun xs os x os' h=>by obtain⟨_,_,_,_,_,rfl,rfl,_,rfl⟩:=h; exact⟨by show 2<=34; decide,by show 1<=1; decide⟩) 34 rfl ?_) _;rintro xs os x os' w0 G0 B0 ⟨r1,⟨v2A,v2D,v2B,v2C⟩,y0,z0,h,rfl,rfl,rfl,rfl⟩ _;rw[zAZ]at h;refine yAh [4] [] rfl ?_;refine yAW ?_;obtain⟨⟨y3,w4⟩,hy3,h⟩:=zAc h;refine⟨_,_,⟨_,_,_,_,_,hy3,rfl,rfl,rfl,rfl⟩,?_⟩
 refine zAa ?_;refine zHP [6] [12,17,22] [4,9,14,16,17] [1004,1009,1014] rfl (by decide +kernel) ?_;obtain⟨⟨e5A,e5D,e5B,e5C⟩,he5,h⟩:=zAc h;refine And.intro (zAn CV.encs_eq he5).1 ?_;intro r6 hr6;obtain rfl:[.int .i64 e5A,.int .i64 e5D,.str e5B,.sl 4 (CV.encs e5C)]=r6:=(hr6.trans (zAn CV.encs_eq he5).2.1).symm;obtain⟨⟨y7,w8⟩,hy7,h⟩:=zAc h;refine⟨_,_,⟨_,_,_,_,hy7,rfl,rfl,rfl,rfl⟩,?_⟩
 refine And.intro ⟨rfl,rfl⟩ ?_;obtain⟨⟨e9A,e9D,e9B,e9C⟩,he9,h⟩:=zAc h;refine And.intro (zAn CV.encs_eq he9).1 ?_;intro r10 hr10;obtain rfl:[.int .i64 e9A,.int .i64 e9D,.str e9B,.sl 4 (CV.encs e9C)]=r10:=(hr10.trans (zAn CV.encs_eq he9).2.1).symm;obtain⟨⟨y11,w12⟩,hy11,h⟩:=zAc h;refine⟨_,_,⟨_,_,_,_,hy11,rfl,rfl,rfl,rfl⟩,?_⟩
 refine And.intro ⟨rfl,rfl⟩ ?_;obtain⟨⟨e13A,e13D,e13B,e13C⟩,he13,h⟩:=zAc h;refine And.intro (zAn CV.encs_eq he13).1 ?_;intro r14 hr14;obtain rfl:[.int .i64 e13A,.int .i64 e13D,.str e13B,.sl 4 (CV.encs e13C)]=r14:=(hr14.trans (zAn CV.encs_eq he13).2.1).symm;obtain⟨⟨y15,w16⟩,hy15,h⟩:=zAc h;refine⟨_,_,⟨_,_,_,_,hy15,rfl,rfl,rfl,rfl⟩,?_⟩
 refine And.intro ⟨rfl,rfl⟩ ?_;refine yAh [] [28] rfl ?_;obtain⟨hq,h⟩:=zAw h;refine And.intro ⟨hq.1,Int.le_trans hq.2.1 (Int.ofNat_le.2 (Nat.le_of_eq (rlen CV.encs_eq _).symm)),Int.le_refl _⟩ ?_;intro r17 hr17;obtain rfl:CV.encs ((y3.take (y3.length:Int).toNat).drop (3:Int).toNat)=r17:=(hr17.trans ((congrArg (fun m:Nat=>((CV.encs y3).take m).drop (3:Int).toNat) (rlen CV.encs_eq _)).trans (rcut CV.encs_eq _ _ _))).symm;obtain⟨⟨y18,w19⟩,hy18,h⟩:=zAc h;refine⟨_,_,⟨_,_,_,_,hy18,rfl,rfl,rfl,rfl⟩,?_⟩
 refine yAW ?_;refine zAd ?_;obtain⟨hj1,hk1⟩:=pij h;subst hj1 hk1;unfold zBb;exact⟨_,(Le.trans (Le.rnm [(0,0),(1,1),(3,2)] [(4,.op 1 0)] [(0,.box 92 [.s (.int .i64 w19)]),(1,.box 24 [.s (.int .i64 y7),.s (.str y11),.s (.int .i64 y15),.orow 2]),(2,.row 24 4 (Nd.encs y18))] 3 ⟨rfl,trivial⟩ ⟨rfl,⟨_,rfl,rfl⟩,rfl,⟨_,rfl,rfl⟩,rfl,⟨_,rfl,rfl⟩,trivial⟩) (Le.giveRow 2 rfl)),rfl,rfl,rfl,rfl,trivial⟩
theorem zFs:∀ n,PSound Tryz.prog 125 (zBI (zBS n))/\PSound Tryz.prog 85 (zBI (zCm n)):=by
 intro n
 induction n with
 | zero =>
  refine⟨?_,?_⟩
  ·exact zHp Tryz.call125 (fun xs os x os' h=>by obtain⟨_,_,_,_,h,_⟩:=h; rw[zBu]at h; cases h) _
  ·exact zHp Tryz.call85 (fun xs os x os' h=>by obtain⟨_,_,_,_,h,_⟩:=h; rw[zAZ]at h; cases h) _
 | succ n ih =>
  obtain⟨ih_file_elements_Node,ih_file_reader_tree⟩:=ih;exact⟨zIY n ih_file_elements_Node ih_file_reader_tree,zJ2 n ih_file_elements_Node ih_file_reader_tree⟩
def zGw:zAr:=zBI (fun xs os x os'=>∃ n,zBS n xs os x os')
theorem zJK:PSound Tryz.prog 125 zGw:=zIy (fun n=>(zFs n).1) _
def zHD:zAr:=zBI (fun xs os x os'=>∃ n,zCm n xs os x os')
theorem zLh:PSound Tryz.prog 85 zHD:=zIy (fun n=>(zFs n).2) _
def zKY (n:Nat) (xs:List AV) (os:List Ob) (x:AV) (os':List (Option Ob)):Prop:=∃ (a0:(Int)) (a1:List CV) (y0:List Int) (z0:(Int)),zCP n a0 a1=some (y0,z0)/\xs=[.op 0 0,.s (.sl 4 (CV.encs a1)),.clo 1048662 [.op 0 0]]/\os=[.box 92 ((zAp a0).map .s)]/\x = .orow 1/\os'=[some (.box 92 ((zAp z0).map .s)),some (.row 3 1 ((List.map (irow .i64)) y0))]
def zG4:zAr:=zBI (fun xs os x os'=>∃ n,zKY n xs os x os')
theorem zKn:PSound Tryz.prog 190 zG4:=by
 have gok:∀ f s,look? f [(86,zCx)]=some s->PSound Tryz.prog f s:=zAm (by
  simp only[List.forall_mem_cons]
  exact⟨zDe,by simp⟩)
 refine PSound.withNil (zDZ tokW Tryz.call190 Tryz.func190 rfl (fun xs os x os' h=>by obtain⟨n,_,_,_,_,_,rfl,rfl,_,rfl⟩:=h; exact⟨by show 3<=29; decide,by show 1<=2; decide⟩) 29 rfl ?_) _;rintro xs os x os' w0 G0 B0 ⟨n,r1,l2,y0,z0,h,rfl,rfl,rfl,rfl⟩ _;rw[zCP]at h;refine yAh [6] [] rfl ?_;refine zAh (Le.rnm [(0,0)] [(0,.op 0 0),(1,.s (.sl 4 (CV.encs l2))),(2,.clo 1048662 [.op 0 0])] [(0,.box 92 [.s (.int .i64 r1)])] 1 ⟨rfl,rfl,rfl,trivial⟩ ⟨rfl,⟨_,rfl,rfl⟩,trivial⟩) ?_;refine yAh [7] [] rfl ?_;show Tri ..
 refine zAh (Le.rnm [(0,0),(1,1)] [(0,.op 0 0),(1,.s (.sl 4 (CV.encs l2))),(2,.clo 1048662 [.op 0 0]),(7,.orow 1)] [(0,.box 92 [.s (.int .i64 r1)]),(1,.row 3 1 ((List.map (irow .i64)) []))] 2 ⟨rfl,rfl,rfl,rfl,trivial⟩ ⟨rfl,⟨_,rfl,rfl⟩,rfl,⟨_,rfl,congrArg (Ob.row 3 1) zFE⟩,trivial⟩) ?_;refine zAa ?_;refine zAa ?_
 refine zAb [] [11] rfl ?_;intro n3 hn3;obtain rfl:(l2.length:Int)=n3:=(hn3.trans (congrArg (fun m:Nat=>(m:Int)) (rlen CV.encs_eq l2))).symm;show Tri ..;obtain⟨fl,hl,ho1⟩:=zAc h;refine zBA (fl:=fl) (fun z=>match z with | ⟨x8,l9⟩=>⟨ofL [(7,.orow 1)],ofH [(0,.box 92 [.s (.int .i64 x8)]),(1,.row 3 1 ((List.map (irow .i64)) l9))],2⟩) ?_ (fun z σ' hz hle=>?_)
 ·refine zAi (zAt (X:=Nat×Int×Int×(List Int)) (fun y=>match y with | (k,x4,x5,l7)=>⟨ofL [(0,.op 0 0),(2,.clo 1048662 [.op 0 0]),(7,.orow 1),(10,.s (.sl 4 (CV.encs l2))),(11,.s (.int .i64 (l2.length:Int))),(12,.s (.int .i64 x5))],ofH [(0,.box 92 [.s (.int .i64 x4)]),(1,.row 3 1 ((List.map (irow .i64)) l7))],2⟩) (fun y=>zAU l2 y.1 y.2.1 y.2.2.1 y.2.2.2=some fl) (fun y=>y.1) (n,r1,0,[]) hl ?_ ?_)
  ·exact(Le.rnm [(0,0),(1,1)] _ _ _ ⟨rfl,rfl,rfl,rfl,rfl,rfl,trivial⟩ ⟨rfl,⟨_,rfl,rfl⟩,rfl,⟨_,rfl,rfl⟩,trivial⟩)
  ·rintro⟨k,x4,x5,l7⟩ h;cases k with
   | zero=>cases h
   | succ k =>
    replace h:zAU l2 (k+1) x4 x5 l7=some fl:=h;rw[zAU]at h;refine yAW ?_;refine zAa ?_;refine zAf rfl h (fun hb h=>?_) (fun hb h=>?_)
    ·refine zAe ?_;refine zAa ?_;refine zAi ?_;refine yAh [9] [14] rfl ?_;obtain⟨⟨e10A,e10D,e10B,e10C⟩,he10,h⟩:=zAc h;refine And.intro (zAn CV.encs_eq he10).1 ?_;intro r11 hr11;obtain rfl:[.int .i64 e10A,.int .i64 e10D,.str e10B,.sl 4 (CV.encs e10C)]=r11:=(hr11.trans (zAn CV.encs_eq he10).2.1).symm;refine zAh (Le.giveBox 2 [.int .i64 e10A,.int .i64 e10D,.str e10B,.sl 4 (CV.encs e10C)] rfl rfl) ?_;refine zAa ?_;refine yAW ?_;refine zAf rfl h (fun hb h=>?_) (fun hb h=>?_)
     ·refine yAh [6] [] rfl ?_;refine zAh (Le.rnm [(0,0),(3,1)] [(6,.orow 1)] [(0,.box 92 [.s (.int .i64 x4)]),(1,.row 3 1 ((List.map (irow .i64)) []))] 2 ⟨rfl,trivial⟩ ⟨rfl,⟨_,rfl,rfl⟩,rfl,⟨_,rfl,congrArg (Ob.row 3 1) zFE⟩,trivial⟩) ?_;refine zAd ?_;cases h;replace h:some _=some _:=ho1
      obtain⟨hj1,hk1⟩:=pij h;subst hj1 hk1;unfold zBb;exact⟨_,(Le.rnm [(0,0),(1,1)] [(6,.orow 1)] [(0,.box 92 [.s (.int .i64 x4)]),(1,.row 3 1 ((List.map (irow .i64)) []))] 2 ⟨rfl,trivial⟩ ⟨rfl,⟨_,rfl,rfl⟩,rfl,⟨_,rfl,rfl⟩,trivial⟩),rfl,rfl,rfl,rfl,rfl,rfl,trivial⟩
     ·refine zAe ?_;refine zAb [26] [25] rfl ?_;obtain⟨⟨y12,w13⟩,hy12,h⟩:=zAc h;refine⟨_,_,⟨_,_,_,_,hy12,rfl,rfl,rfl,rfl⟩,?_⟩
      intro r14 hr14;obtain rfl:(List.map (irow .i64)) [y12]=r14:=(hr14.trans zFE).symm;obtain⟨hq,h⟩:=zAw h
      refine And.intro (show(((List.map (irow .i64)) l7).length+((List.map (irow .i64)) [y12]).length) * 8<=140737488355328/\((List.map (irow .i64)) l7).length+((List.map (irow .i64)) [y12]).length<=9223372036854775807 from by simp only[List.length_append,List.length_cons,List.length_nil,List.length_map,rlen (fun _=>rfl)]at hq ⊢; omega) ?_;show Tri ..
      refine zAh (Le.rnm [(0,0),(3,1)] [(0,.op 0 0),(2,.clo 1048662 [.op 0 0]),(7,.orow 1),(10,.s (.sl 4 (CV.encs l2))),(11,.s (.int .i64 (l2.length:Int))),(12,.s (.int .i64 x5))] [(0,.box 92 [.s (.int .i64 w13)]),(1,.row 3 1 ((List.map (irow .i64)) (l7++[y12])))] 2 ⟨rfl,rfl,rfl,rfl,rfl,rfl,trivial⟩ ⟨rfl,⟨_,rfl,rfl⟩,rfl,⟨_,rfl,congrArg (Ob.row 3 1) zFE⟩,trivial⟩) ?_
      refine yAV ?_;refine⟨(k,w13,IntKind.i64.wrap (x5+1),l7++[y12]),h,(Le.rnm [(0,0),(1,1)] _ _ _ ⟨rfl,rfl,rfl,rfl,rfl,rfl,trivial⟩ ⟨rfl,⟨_,rfl,rfl⟩,rfl,⟨_,rfl,rfl⟩,trivial⟩),Nat.lt_succ_self k⟩
    ·refine zAy ?_;cases h;exact⟨_,rfl,(Le.rnm [(0,0),(1,1)] _ _ _ ⟨rfl,trivial⟩ ⟨rfl,⟨_,rfl,rfl⟩,rfl,⟨_,rfl,rfl⟩,trivial⟩)⟩
 ·subst hz;obtain⟨x8,l9⟩:=z;replace h:=ho1;refine zAh hle ?_;refine yAW ?_;refine zAd ?_;obtain⟨hj1,hk1⟩:=pij h;subst hj1 hk1;unfold zBb;exact⟨_,(Le.rnm [(0,0),(1,1)] [(6,.orow 1)] [(0,.box 92 [.s (.int .i64 x8)]),(1,.row 3 1 ((List.map (irow .i64)) l9))] 2 ⟨rfl,trivial⟩ ⟨rfl,⟨_,rfl,rfl⟩,rfl,⟨_,rfl,rfl⟩,trivial⟩),rfl,rfl,rfl,rfl,rfl,rfl,trivial⟩
end Go.Proofs.YtgplhldfbkmmgaaGreat
