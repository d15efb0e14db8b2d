/-
  Joined out of: HzVA, HzVB, LibG, LibH, LibW, AbsY, LibO, LibR, HzE, LibE, HzF, RfA, RfB.
-/
import Derived.WalkKit
import Derived.Lib.Walk
import Derived.Lib.SliceRun
import Derived.Lib.AppendZerosOnto
import Derived.Shelf.RegionOpenPlain
import Derived.RangeFuncNested
import Derived.RangeFuncLeaves
import Derived.RangeFuncRecord
import Derived.Test.YtffhjiplcfncdaaGreatZc
set_option linter.unusedVariables false
set_option linter.unusedSimpArgs false
set_option maxHeartbeats 2000000
set_option maxRecDepth 100000
namespace Go.Proofs.YtffhjiplcfncdaaGreat
open Go.Abs
def zP7 (xs:List AV) (r:Ret):Prop:=∃ (a0:List UInt8) (y0:Bool),zB3 a0=some y0/\xs=[.s (.str a0)]/\r = .val (.s (.bool y0))
def zKS:zAq:=zAs fun xs r=>zP7 xs r
theorem zPq:PSound Tryz.prog 94 zKS:=by
 have gok:=@gok0 Tryz.prog;refine zAr tokW Tryz.call94 Tryz.func94 rfl (fun xs r h=>by obtain⟨_,_,_,rfl,_⟩:=h; show 1<=5; decide) 5 rfl ?_;rintro xs r w0 G0 ⟨s1,y0,h,rfl,rfl⟩ _;rw[zB3]at h;refine zYV ?_;refine zYV ?_;refine zAe ?_;have hy:=osi h;subst hy;exact fin0 rfl rfl
def zNd (n:Nat) (xs:List AV) (r:Ret):Prop:=∃ (a0:List UInt8) (y0:Bool),zC8 n a0=some y0/\xs=[.s (.str a0)]/\r = .val (.s (.bool y0))
def zIZ:zAq:=zAs fun xs r=>∃ n,zNd n xs r
theorem zME:PSound Tryz.prog 128 zIZ:=by
 have gok:=@gok0 Tryz.prog;refine zAr tokW Tryz.call128 Tryz.func128 rfl (fun xs r h=>by obtain⟨n,_,_,_,rfl,_⟩:=h; show 1<=21; decide) 21 rfl ?_;rintro xs r w0 G0 ⟨n,s1,y0,h,rfl,rfl⟩ _;rw[zC8]at h;refine zYV ?_;refine zAa ?_;refine zYV ?_;show Tri ..;obtain⟨fl,hl,ho1⟩:=zAc h;refine zBA (fl:=fl) (fun z=>match z with | _=>⟨ofL [],fun _=>none,0⟩) ?_ (fun z σ' hz hle=>?_)
 ·refine zAl (zAy (X:=Nat×Int) (fun y=>match y with | (k,i2)=>⟨ofL [(0,.s (.str s1)),(3,.s (.int .i64 i2))],fun _=>none,0⟩) (fun y=>zBr s1 y.1 y.2=some fl) (fun y=>y.1) (n,0) hl ?_ ?_)
  ·exact(Le.forget _ ⟨rfl,rfl,trivial⟩)
  ·rintro⟨k,i2⟩ h;cases k with
   | zero=>cases h
   | succ k =>
    replace h:zBr s1 (k+1) i2=some fl:=h;rw[zBr]at h;refine zAa ?_;refine zYV ?_;refine zAg rfl h (fun hb h=>?_) (fun hb h=>?_)
    ·refine zAf ?_;refine zAa ?_;refine zAl ?_;refine zYf [] [13] rfl ?_;obtain⟨c3,hc3,h⟩:=zAc h;refine And.intro (zB7 hc3).1 ?_;intro v4 hv4;obtain rfl:(c3.toNat:Int)=v4:=(hv4.trans (zB7 hc3).2).symm;refine zAa ?_;obtain⟨x5,hj,h⟩:=zAc h;refine zAm ⟨ofL [(0,.s (.str s1)),(3,.s (.int .i64 i2)),(20,.s (.bool x5))],fun _=>none,0⟩ ?_ (fun σ' hle=>?_)
     ·replace h:=hj;refine zAb [] [17] rfl ?_;intro b hb;cases b with
      | true =>
       replace h:=zAu hb.symm h;cases h;exact(Le.forget _ ⟨rfl,rfl,rfl,trivial⟩)
      | false =>
       replace h:=zAt hb.symm h;cases h;exact(Le.forget _ ⟨rfl,rfl,rfl,trivial⟩)
     ·refine zAh hle ?_;refine zAg rfl h (fun hb h=>?_) (fun hb h=>?_)
      ·refine zYV ?_;refine zAe ?_;cases h;replace h:some _=some _:=ho1;have hy:=osi h;subst hy;exact fin0 rfl rfl
      ·refine zAf ?_;refine zYU ?_;refine⟨(k,IntKind.i64.wrap (i2+1)),h,(Le.forget _ ⟨rfl,rfl,trivial⟩),Nat.lt_succ_self k⟩
    ·refine zAC ?_;cases h;exact⟨_,rfl,(Le.forget _ trivial)⟩
 ·subst hz;obtain _:=z;replace h:=ho1;refine zAh hle ?_;refine zYV ?_;refine zAe ?_;have hy:=osi h;subst hy;exact fin0 rfl rfl
def zNc (xs:List AV) (r:Ret):Prop:=∃ (a0:List UInt8) (y0:Bool),zD3 a0=some y0/\xs=[.s (.str a0)]/\r = .val (.s (.bool y0))
def zIY:zAq:=zAs fun xs r=>zNc xs r
theorem zMD:PSound Tryz.prog 130 zIY:=by
 have gok:=@gok0 Tryz.prog;refine zAr tokW Tryz.call130 Tryz.func130 rfl (fun xs r h=>by obtain⟨_,_,_,rfl,_⟩:=h; show 1<=9; decide) 9 rfl ?_;rintro xs r w0 G0 ⟨s1,y0,h,rfl,rfl⟩ _;rw[zD3]at h;refine zYV ?_;refine zAa ?_;refine zYV ?_;show Tri ..;obtain⟨fl,hj,ho1⟩:=zAc h;refine zBA (fl:=fl) (fun z=>match z with | _=>⟨ofL [],fun _=>none,0⟩) ?_ (fun z σ' hz hle=>?_)
 ·replace h:=hj;refine zAl ?_;refine zAa ?_;refine zYV ?_;show Tri ..;obtain⟨x2,hj,h⟩:=zAc h;refine zAm ⟨ofL [(4,.s (.bool x2))],fun _=>none,0⟩ ?_ (fun σ' hle=>?_)
  ·replace h:=hj;refine zAg rfl h (fun hb h=>?_) (fun hb h=>?_)
   ·refine zAf ?_;cases h;exact(Le.forget _ ⟨rfl,trivial⟩)
   ·refine zYV ?_;refine zAg rfl h (fun hb h=>?_) (fun hb h=>?_)
    ·refine zAf ?_;cases h;exact(Le.forget _ ⟨rfl,trivial⟩)
    ·refine zYV ?_;refine zAg rfl h (fun hb h=>?_) (fun hb h=>?_)
     ·refine zAf ?_;cases h;exact(Le.forget _ ⟨rfl,trivial⟩)
     ·refine zYU ?_;cases h;exact(Le.forget _ ⟨rfl,trivial⟩)
  ·refine zAh hle ?_;refine zAg rfl h (fun hb h=>?_) (fun hb h=>?_)
   ·refine zYV ?_;refine zAe ?_;cases h;replace h:some _=some _:=ho1;have hy:=osi h;subst hy;exact fin0 rfl rfl
   ·refine zAf ?_;cases h;exact⟨_,rfl,(Le.forget _ trivial)⟩
 ·subst hz;obtain _:=z;replace h:=ho1;refine zAh hle ?_;refine zYV ?_;refine zAe ?_;have hy:=osi h;subst hy;exact fin0 rfl rfl
def zOR (xs:List AV) (r:Ret):Prop:=∃ (a0:List UInt8) (y0:Bool),zDI a0=some y0/\xs=[.s (.str a0)]/\r = .val (.s (.bool y0))
def zHm:zAq:=zAs fun xs r=>zOR xs r
theorem zI9:PSound Tryz.prog 98 zHm:=by
 have gok:=@gok0 Tryz.prog;refine zAr tokW Tryz.call98 Tryz.func98 rfl (fun xs r h=>by obtain⟨_,_,_,rfl,_⟩:=h; show 1<=11; decide) 11 rfl ?_;rintro xs r w0 G0 ⟨s1,y0,h,rfl,rfl⟩ _;rw[zDI]at h;refine zYV ?_;refine zAa ?_;refine zYV ?_;show Tri ..;obtain⟨fl,hj,ho1⟩:=zAc h;refine zBA (fl:=fl) (fun z=>match z with | _=>⟨ofL [],fun _=>none,0⟩) ?_ (fun z σ' hz hle=>?_)
 ·replace h:=hj;refine zAl ?_;refine zAa ?_;refine zYV ?_;show Tri ..;obtain⟨x2,hj,h⟩:=zAc h;refine zAm ⟨ofL [(4,.s (.bool x2))],fun _=>none,0⟩ ?_ (fun σ' hle=>?_)
  ·replace h:=hj;refine zAg rfl h (fun hb h=>?_) (fun hb h=>?_)
   ·refine zAf ?_;cases h;exact(Le.forget _ ⟨rfl,trivial⟩)
   ·refine zYV ?_;refine zAg rfl h (fun hb h=>?_) (fun hb h=>?_)
    ·refine zAf ?_;cases h;exact(Le.forget _ ⟨rfl,trivial⟩)
    ·refine zYV ?_;refine zAg rfl h (fun hb h=>?_) (fun hb h=>?_)
     ·refine zAf ?_;cases h;exact(Le.forget _ ⟨rfl,trivial⟩)
     ·refine zYV ?_;refine zAg rfl h (fun hb h=>?_) (fun hb h=>?_)
      ·refine zAf ?_;cases h;exact(Le.forget _ ⟨rfl,trivial⟩)
      ·refine zYV ?_;refine zAg rfl h (fun hb h=>?_) (fun hb h=>?_)
       ·refine zAf ?_;cases h;exact(Le.forget _ ⟨rfl,trivial⟩)
       ·refine zYU ?_;cases h;exact(Le.forget _ ⟨rfl,trivial⟩)
  ·refine zAh hle ?_;refine zAg rfl h (fun hb h=>?_) (fun hb h=>?_)
   ·refine zYV ?_;refine zAe ?_;cases h;replace h:some _=some _:=ho1;have hy:=osi h;subst hy;exact fin0 rfl rfl
   ·refine zAf ?_;cases h;exact⟨_,rfl,(Le.forget _ trivial)⟩
 ·subst hz;obtain _:=z;replace h:=ho1;refine zAh hle ?_;refine zYV ?_;refine zAe ?_;have hy:=osi h;subst hy;exact fin0 rfl rfl
def zOQ (n:Nat) (xs:List AV) (r:Ret):Prop:=∃ (a0:List UInt8) (y0:Bool),zEz n a0=some y0/\xs=[.s (.str a0)]/\r = .val (.s (.bool y0))
def zJQ:zAq:=zAs fun xs r=>∃ n,zOQ n xs r
theorem zNr:PSound Tryz.prog 95 zJQ:=by
 have gok:∀ f s,look? f [(128,zIZ),(129,zGx),(130,zIY),(98,zHm)]=some s->PSound Tryz.prog f s:=zAo (by
  simp only[List.forall_mem_cons]
  exact⟨zME,zJB,zMD,zI9,by simp⟩)
 refine zAr tokW Tryz.call95 Tryz.func95 rfl (fun xs r h=>by obtain⟨n,_,_,_,rfl,_⟩:=h; show 1<=34; decide) 34 rfl ?_;rintro xs r w0 G0 ⟨n,s1,y0,h,rfl,rfl⟩ _;rw[zEz]at h;refine zYV ?_;refine zAa ?_;refine zYV ?_;refine zAg rfl h (fun hb h=>?_) (fun hb h=>?_)
 ·refine zAa ?_;obtain⟨x2,hj,h⟩:=zAc h;refine zAm ⟨ofL [(2,.s (.bool x2))],fun _=>none,0⟩ ?_ (fun σ' hle=>?_)
  ·replace h:=hj;refine zAb [] [8] rfl ?_;obtain⟨y3,hy3,h⟩:=zAc h;refine⟨_,⟨_,_,_,hy3,rfl,rfl⟩,?_⟩
   intro b hb;cases b with
   | true =>
    replace h:=zAu hb.symm h;cases h;exact(Le.forget _ ⟨rfl,trivial⟩)
   | false =>
    replace h:=zAt hb.symm h;obtain⟨y4,hy4,h⟩:=zAc h;refine⟨_,⟨_,_,_,hy4,rfl,rfl⟩,?_⟩
    cases h;exact(Le.forget _ ⟨rfl,trivial⟩)
  ·refine zAh hle ?_;refine zAe ?_;have hy:=osi h;subst hy;exact fin0 rfl rfl
 ·refine zAf ?_;refine zAa ?_;obtain⟨x5,hj,h⟩:=zAc h;refine zAm ⟨ofL [(2,.s (.bool x5))],fun _=>none,0⟩ ?_ (fun σ' hle=>?_)
  ·replace h:=hj;refine zAb [] [15,20,24,29] rfl ?_;intro b hb;cases b with
   | true =>
    replace h:=zAu hb.symm h;intro b hb;cases b with
    | true =>
     replace h:=zAu hb.symm h;obtain⟨y6,hy6,h⟩:=zAc h;refine⟨_,⟨_,_,_,hy6,rfl,rfl⟩,?_⟩
     intro b hb;cases b with
     | true =>
      replace h:=zAu hb.symm h;obtain⟨y7,hy7,h⟩:=zAc h;refine⟨_,⟨_,_,hy7,rfl,rfl⟩,?_⟩
      intro b hb;cases b with
      | true =>
       replace h:=zAu hb.symm h;obtain⟨y8,hy8,h⟩:=zAc h;refine⟨_,⟨_,_,hy8,rfl,rfl⟩,?_⟩
       cases h;exact(Le.forget _ ⟨rfl,trivial⟩)
      | false =>
       replace h:=zAt hb.symm h;cases h;exact(Le.forget _ ⟨rfl,trivial⟩)
     | false =>
      replace h:=zAt hb.symm h;intro b hb;subst hb;cases h;exact(Le.forget _ ⟨rfl,trivial⟩)
    | false =>
     replace h:=zAt hb.symm h;intro b hb;subst hb;intro b hb;subst hb;cases h;exact(Le.forget _ ⟨rfl,trivial⟩)
   | false =>
    replace h:=zAt hb.symm h;intro b hb;subst hb;intro b hb;subst hb;intro b hb;subst hb;cases h;exact(Le.forget _ ⟨rfl,trivial⟩)
  ·refine zAh hle ?_;refine zAe ?_;have hy:=osi h;subst hy;exact fin0 rfl rfl
def zKu (xs:List AV) (r:Ret):Prop:=∃ (a0:List UInt8) (a1:List UInt8) (y0:List UInt8) (y1:List UInt8) (y2:Bool),zCJ a0 a1=some (y0,y1,y2)/\xs=[.s (.str a0),.s (.str a1)]/\r = .val (.tup [.s (.str y0),.s (.str y1),.s (.bool y2)])
def zGX:zAq:=zAs fun xs r=>zKu xs r
theorem zKf:PSound Tryz.prog 148 zGX:=by
 have gok:∀ f s,look? f [(154,zF6)]=some s->PSound Tryz.prog f s:=zAo (by
  simp only[List.forall_mem_cons]
  exact⟨zIU,by simp⟩)
 refine zAr tokW Tryz.call148 Tryz.func148 rfl (fun xs r h=>by obtain⟨_,_,_,_,_,_,rfl,_⟩:=h; show 2<=23; decide) 23 rfl ?_;rintro xs r w0 G0 ⟨s1,sep2,y0,y1,y2,h,rfl,rfl⟩ _;rw[zCJ]at h;refine zYV ?_;refine zAa ?_;refine zYV ?_;obtain⟨y3,hy3,h⟩:=zAc h;refine⟨_,⟨_,_,_,hy3,rfl,rfl⟩,?_⟩
 refine zYV ?_;refine zAg rfl h (fun hb h=>?_) (fun hb h=>?_)
 ·refine zAa ?_;refine zAA [] [] [] rfl (by decide +kernel) ?_;obtain⟨hq,h⟩:=zAw h;refine And.intro hq ?_;obtain⟨hq,h⟩:=zAw h;refine And.intro hq ?_;refine zAe ?_;obtain⟨hj1,hk1⟩:=pij h;subst hj1;obtain⟨hj2,hk2⟩:=Prod.mk.inj hk1;subst hj2;subst hk2;exact fin0 rfl rfl
 ·refine zAf ?_;refine zYV ?_;refine zAe ?_;obtain⟨hj1,hk1⟩:=pij h;subst hj1;obtain⟨hj2,hk2⟩:=Prod.mk.inj hk1;subst hj2;subst hk2;exact fin0 rfl rfl
def zOY (xs:List AV) (r:Ret):Prop:=∃ (a0:List UInt8) (a1:List UInt8) (y0:List UInt8) (y1:List UInt8) (y2:Bool),zEC a0 a1=some (y0,y1,y2)/\xs=[.s (.str a0),.s (.str a1)]/\r = .val (.tup [.s (.str y0),.s (.str y1),.s (.bool y2)])
def zJX:zAq:=zAs fun xs r=>zOY xs r
theorem zNw:PSound Tryz.prog 131 zJX:=by
 have gok:∀ f s,look? f [(148,zGX)]=some s->PSound Tryz.prog f s:=zAo (by
  simp only[List.forall_mem_cons]
  exact⟨zKf,by simp⟩)
 refine zAr tokW Tryz.call131 Tryz.func131 rfl (fun xs r h=>by obtain⟨_,_,_,_,_,_,rfl,_⟩:=h; show 2<=13; decide) 13 rfl ?_;rintro xs r w0 G0 ⟨s1,sep2,y0,y1,y2,h,rfl,rfl⟩ _;rw[zEC]at h;refine zYV ?_;refine zYV ?_;obtain⟨⟨y3,y4,y5⟩,hy3,h⟩:=zAc h;refine⟨_,⟨_,_,_,_,_,hy3,rfl,rfl⟩,?_⟩
 refine zAe ?_;obtain⟨hj1,hk1⟩:=pij h;subst hj1;obtain⟨hj2,hk2⟩:=Prod.mk.inj hk1;subst hj2;subst hk2;exact fin0 rfl rfl
def zOS (n:Nat) (xs:List AV) (r:Ret):Prop:=∃ (a0:List UInt8) (y0:Bool),zDJ n a0=some y0/\xs=[.s (.str a0)]/\r = .val (.s (.bool y0))
def zJR:zAq:=zAs fun xs r=>∃ n,zOS n xs r
theorem zNs:PSound Tryz.prog 132 zJR:=by
 have gok:=@gok0 Tryz.prog;refine zAr tokW Tryz.call132 Tryz.func132 rfl (fun xs r h=>by obtain⟨n,_,_,_,rfl,_⟩:=h; show 1<=22; decide) 22 rfl ?_;rintro xs r w0 G0 ⟨n,s1,y0,h,rfl,rfl⟩ _;rw[zDJ]at h;refine zYV ?_;refine zAa ?_;refine zYV ?_;show Tri ..;obtain⟨fl,hl,ho1⟩:=zAc h;refine zBA (fl:=fl) (fun z=>match z with | _=>⟨ofL [(0,.s (.str s1))],fun _=>none,0⟩) ?_ (fun z σ' hz hle=>?_)
 ·refine zAl (zAy (X:=Nat×Int) (fun y=>match y with | (k,i2)=>⟨ofL [(0,.s (.str s1)),(3,.s (.int .i64 i2))],fun _=>none,0⟩) (fun y=>zBz s1 y.1 y.2=some fl) (fun y=>y.1) (n,0) hl ?_ ?_)
  ·exact(Le.forget _ ⟨rfl,rfl,trivial⟩)
  ·rintro⟨k,i2⟩ h;cases k with
   | zero=>cases h
   | succ k =>
    replace h:zBz s1 (k+1) i2=some fl:=h;rw[zBz]at h;refine zAa ?_;refine zYV ?_;refine zAg rfl h (fun hb h=>?_) (fun hb h=>?_)
    ·refine zAf ?_;refine zAa ?_;refine zAl ?_;refine zAa ?_;obtain⟨x3,hj,h⟩:=zAc h;refine zAm ⟨ofL [(0,.s (.str s1)),(3,.s (.int .i64 i2)),(19,.s (.bool x3))],fun _=>none,0⟩ ?_ (fun σ' hle=>?_)
     ·replace h:=hj;refine zAb [] [12,14,17] rfl ?_;obtain⟨c4,hc4,h⟩:=zAc h;refine And.intro (zB7 hc4).1 ?_;intro v5 hv5;obtain rfl:(c4.toNat:Int)=v5:=(hv5.trans (zB7 hc4).2).symm;intro b hb;cases b with
      | true =>
       replace h:=zAu hb.symm h;cases h;exact(Le.forget _ ⟨rfl,rfl,rfl,trivial⟩)
      | false =>
       replace h:=zAt hb.symm h;obtain⟨c6,hc6,h⟩:=zAc h;refine And.intro (zB7 hc6).1 ?_;intro v7 hv7;obtain rfl:(c6.toNat:Int)=v7:=(hv7.trans (zB7 hc6).2).symm;cases h;exact(Le.forget _ ⟨rfl,rfl,rfl,trivial⟩)
     ·refine zAh hle ?_;refine zAg rfl h (fun hb h=>?_) (fun hb h=>?_)
      ·refine zYV ?_;refine zAe ?_;cases h;replace h:some _=some _:=ho1;have hy:=osi h;subst hy;exact fin0 rfl rfl
      ·refine zAf ?_;refine zYU ?_;refine⟨(k,IntKind.i64.wrap (i2+1)),h,(Le.forget _ ⟨rfl,rfl,trivial⟩),Nat.lt_succ_self k⟩
    ·refine zAC ?_;cases h;exact⟨_,rfl,(Le.forget _ ⟨rfl,trivial⟩)⟩
 ·subst hz;obtain _:=z;replace h:=ho1;refine zAh hle ?_;refine zYV ?_;refine zAe ?_;have hy:=osi h;subst hy;exact fin0 rfl rfl
def zOP (n:Nat) (xs:List AV) (r:Ret):Prop:=∃ (a0:List UInt8) (y0:Bool),zDH n a0=some y0/\xs=[.s (.str a0)]/\r = .val (.s (.bool y0))
def zJP:zAq:=zAs fun xs r=>∃ n,zOP n xs r
theorem zNq:PSound Tryz.prog 96 zJP:=by
 have gok:∀ f s,look? f [(131,zJX),(132,zJR)]=some s->PSound Tryz.prog f s:=zAo (by
  simp only[List.forall_mem_cons]
  exact⟨zNw,zNs,by simp⟩)
 refine zAr tokW Tryz.call96 Tryz.func96 rfl (fun xs r h=>by obtain⟨n,_,_,_,rfl,_⟩:=h; show 1<=27; decide) 27 rfl ?_;rintro xs r w0 G0 ⟨n,s1,y0,h,rfl,rfl⟩ _;rw[zDH]at h;refine zYV ?_;refine zYV ?_;obtain⟨⟨y2,y3,y4⟩,hy2,h⟩:=zAc h;refine⟨_,⟨_,_,_,_,_,hy2,rfl,rfl⟩,?_⟩
 refine zAa ?_;obtain⟨x5,hj,h⟩:=zAc h;refine zAm ⟨ofL [(2,.s (.bool x5))],fun _=>none,0⟩ ?_ (fun σ' hle=>?_)
 ·replace h:=hj;refine zAb [] [15,19,22] rfl ?_;intro b hb;cases b with
  | true =>
   replace h:=zAu hb.symm h;obtain⟨y6,hy6,h⟩:=zAc h;refine⟨_,⟨_,_,_,hy6,rfl,rfl⟩,?_⟩
   intro b hb;cases b with
   | true =>
    replace h:=zAu hb.symm h;intro b hb;cases b with
    | true =>
     replace h:=zAu hb.symm h;cases h;exact(Le.forget _ ⟨rfl,trivial⟩)
    | false =>
     replace h:=zAt hb.symm h;obtain⟨y7,hy7,h⟩:=zAc h;refine⟨_,⟨_,_,_,hy7,rfl,rfl⟩,?_⟩
     cases h;exact(Le.forget _ ⟨rfl,trivial⟩)
   | false =>
    replace h:=zAt hb.symm h;cases h;exact(Le.forget _ ⟨rfl,trivial⟩)
  | false =>
   replace h:=zAt hb.symm h;intro b hb;subst hb;cases h;exact(Le.forget _ ⟨rfl,trivial⟩)
 ·refine zAh hle ?_;refine zAe ?_;have hy:=osi h;subst hy;exact fin0 rfl rfl
def zQa (n:Nat) (xs:List AV) (r:Ret):Prop:=∃ (a0:List UInt8) (y0:Bool),zFg n a0=some y0/\xs=[.s (.str a0)]/\r = .val (.s (.bool y0))
def zKV:zAq:=zAs fun xs r=>∃ n,zQa n xs r
theorem zPt:PSound Tryz.prog 97 zKV:=by
 have gok:=@gok0 Tryz.prog;refine zAr tokW Tryz.call97 Tryz.func97 rfl (fun xs r h=>by obtain⟨n,_,_,_,rfl,_⟩:=h; show 1<=23; decide) 23 rfl ?_;rintro xs r w0 G0 ⟨n,s1,y0,h,rfl,rfl⟩ _;rw[zFg]at h;refine zYV ?_;refine zAa ?_;refine zYV ?_;show Tri ..;obtain⟨fl,hl,ho1⟩:=zAc h;refine zBA (fl:=fl) (fun z=>match z with | _=>⟨ofL [(0,.s (.str s1))],fun _=>none,0⟩) ?_ (fun z σ' hz hle=>?_)
 ·refine zAl (zAy (X:=Nat×Int) (fun y=>match y with | (k,i2)=>⟨ofL [(0,.s (.str s1)),(3,.s (.int .i64 i2))],fun _=>none,0⟩) (fun y=>zBJ s1 y.1 y.2=some fl) (fun y=>y.1) (n,0) hl ?_ ?_)
  ·exact(Le.forget _ ⟨rfl,rfl,trivial⟩)
  ·rintro⟨k,i2⟩ h;cases k with
   | zero=>cases h
   | succ k =>
    replace h:zBJ s1 (k+1) i2=some fl:=h;rw[zBJ]at h;refine zAa ?_;refine zYV ?_;refine zAg rfl h (fun hb h=>?_) (fun hb h=>?_)
    ·refine zAf ?_;refine zAa ?_;refine zAl ?_;refine zAa ?_;obtain⟨x3,hj,h⟩:=zAc h;refine zAm ⟨ofL [(0,.s (.str s1)),(3,.s (.int .i64 i2)),(19,.s (.bool x3))],fun _=>none,0⟩ ?_ (fun σ' hle=>?_)
     ·replace h:=hj;refine zAb [] [12,14,17] rfl ?_;obtain⟨c4,hc4,h⟩:=zAc h;refine And.intro (zB7 hc4).1 ?_;intro v5 hv5;obtain rfl:(c4.toNat:Int)=v5:=(hv5.trans (zB7 hc4).2).symm;intro b hb;cases b with
      | true =>
       replace h:=zAu hb.symm h;cases h;exact(Le.forget _ ⟨rfl,rfl,rfl,trivial⟩)
      | false =>
       replace h:=zAt hb.symm h;obtain⟨c6,hc6,h⟩:=zAc h;refine And.intro (zB7 hc6).1 ?_;intro v7 hv7;obtain rfl:(c6.toNat:Int)=v7:=(hv7.trans (zB7 hc6).2).symm;cases h;exact(Le.forget _ ⟨rfl,rfl,rfl,trivial⟩)
     ·refine zAh hle ?_;refine zAg rfl h (fun hb h=>?_) (fun hb h=>?_)
      ·refine zYV ?_;refine zAe ?_;cases h;replace h:some _=some _:=ho1;have hy:=osi h;subst hy;exact fin0 rfl rfl
      ·refine zAf ?_;refine zYU ?_;refine⟨(k,IntKind.i64.wrap (i2+1)),h,(Le.forget _ ⟨rfl,rfl,trivial⟩),Nat.lt_succ_self k⟩
    ·refine zAC ?_;cases h;exact⟨_,rfl,(Le.forget _ ⟨rfl,trivial⟩)⟩
 ·subst hz;obtain _:=z;replace h:=ho1;refine zAh hle ?_;refine zYV ?_;refine zAe ?_;have hy:=osi h;subst hy;exact fin0 rfl rfl
def zP8 (xs:List AV) (r:Ret):Prop:=∃ (a0:List UInt8) (y0:Bool),zFf a0=some y0/\xs=[.s (.str a0)]/\r = .val (.s (.bool y0))
def zKT:zAq:=zAs fun xs r=>zP8 xs r
theorem zPr:PSound Tryz.prog 99 zKT:=by
 have gok:∀ f s,look? f [(133,zF5)]=some s->PSound Tryz.prog f s:=zAo (by
  simp only[List.forall_mem_cons]
  exact⟨zIT,by simp⟩)
 refine zAr tokW Tryz.call99 Tryz.func99 rfl (fun xs r h=>by obtain⟨_,_,_,rfl,_⟩:=h; show 1<=18; decide) 18 rfl ?_;rintro xs r w0 G0 ⟨s1,y0,h,rfl,rfl⟩ _;rw[zFf]at h;refine zYV ?_;refine zAa ?_;obtain⟨x2,hj,h⟩:=zAc h;refine zAm ⟨ofL [(2,.s (.bool x2))],fun _=>none,0⟩ ?_ (fun σ' hle=>?_)
 ·replace h:=hj;refine zAb [] [6,8,12,14] rfl ?_;intro b hb;cases b with
  | true =>
   replace h:=zAu hb.symm h;obtain⟨c3,hc3,h⟩:=zAc h;refine And.intro (zB7 hc3).1 ?_;intro v4 hv4;obtain rfl:(c3.toNat:Int)=v4:=(hv4.trans (zB7 hc3).2).symm;obtain⟨y5,hy5,h⟩:=zAc h;refine⟨_,⟨_,_,_,hy5,rfl,rfl⟩,?_⟩
   intro b hb;cases b with
   | true =>
    replace h:=zAu hb.symm h;obtain⟨c6,hc6,h⟩:=zAc h;refine And.intro (zB7 hc6).1 ?_;intro v7 hv7;obtain rfl:(c6.toNat:Int)=v7:=(hv7.trans (zB7 hc6).2).symm;obtain⟨y8,hy8,h⟩:=zAc h;refine⟨_,⟨_,_,_,hy8,rfl,rfl⟩,?_⟩
    cases h;exact(Le.forget _ ⟨rfl,trivial⟩)
   | false =>
    replace h:=zAt hb.symm h;cases h;exact(Le.forget _ ⟨rfl,trivial⟩)
  | false =>
   replace h:=zAt hb.symm h;intro b hb;subst hb;cases h;exact(Le.forget _ ⟨rfl,trivial⟩)
 ·refine zAh hle ?_;refine zAe ?_;have hy:=osi h;subst hy;exact fin0 rfl rfl
def zA4 (p:Unit):List S:=[.str [],.int .i64 0,.nf,.str [114,111,119],.int .i64 0,.fn 94,.str [115,121,109],.int .i64 0,.fn 95,.str [110,117,109],.int .i64 0,.fn 96,.str [116,101,120,116],.int .i64 0,.fn 97,.str [102,114,97,99],.int .i64 2,.fn 94,.str [114,111,111,116],.int .i64 2,.fn 94,.str [115,117,98],.int .i64 2,.fn 94,.str [115,117,112],.int .i64 2,.fn 94,.str [98,111,116,104],.int .i64 3,.fn 94,.str [97,99,99,101,110,116],.int .i64 1,.fn 98,.str [102,101,110,99,101],.int .i64 1,.fn 99,.str [109,97,116,114,105,120],.int .i64 0,.fn 94]
def zP9 (xs:List AV) (r:Ret):Prop:=∃ (y0:Unit),zGy=some y0/\xs=[]/\r = .val (.agg ((zA4 y0).map .s))
def zKU:zAq:=zAs fun xs r=>zP9 xs r
theorem zPs:PSound Tryz.prog 64 zKU:=by
 have gok:=@gok0 Tryz.prog;refine zAr tokW Tryz.call64 Tryz.func64 rfl (fun xs r h=>by obtain⟨_,_,rfl,_⟩:=h; show 0<=14; decide) 14 rfl ?_;rintro xs r w0 G0 ⟨y0,h,rfl,rfl⟩ _;rw[zGy]at h;refine zYf [0] [] rfl ?_;refine zYV ?_;refine zAe ?_;have hy:=osi h;subst hy;exact fin0 rfl rfl
def zAK (p:(Unit×Int)):List S:=[.str [],.int .i64 0,.nf,.str [114,111,119],.int .i64 0,.fn 94,.str [115,121,109],.int .i64 0,.fn 95,.str [110,117,109],.int .i64 0,.fn 96,.str [116,101,120,116],.int .i64 0,.fn 97,.str [102,114,97,99],.int .i64 2,.fn 94,.str [114,111,111,116],.int .i64 2,.fn 94,.str [115,117,98],.int .i64 2,.fn 94,.str [115,117,112],.int .i64 2,.fn 94,.str [98,111,116,104],.int .i64 3,.fn 94,.str [97,99,99,101,110,116],.int .i64 1,.fn 98,.str [102,101,110,99,101],.int .i64 1,.fn 99,.str [109,97,116,114,105,120],.int .i64 0,.fn 94,.int .i64 p.2]
def zJL (n:Nat) (xs:List AV) (os:List Ob) (x:AV) (os':List (Option Ob)):Prop:=∃ (a0:(Unit×Int)) (a1:Nd) (y0:Bool) (z0:(Unit×Int)),zCp n a0 a1=some (y0,z0)/\xs=[.op 0 0,.s (.pt (Nd.enc a1))]/\os=[.box 113 ((zAK a0).map .s)]/\x = .s (.bool y0)/\os'=[some (.box 113 ((zAK z0).map .s))]
def zGw:zAq:=zD5 (fun xs os x os'=>∃ n,zJL n xs os x os')
theorem zJz:PSound Tryz.prog 100 zGw:=by
 have gok:∀ f s,look? f [(94,zKS),(95,zJQ),(96,zJP),(97,zKV),(98,zHm),(99,zKT)]=some s->PSound Tryz.prog f s:=zAo (by
  simp only[List.forall_mem_cons]
  exact⟨zPq,zNr,zNq,zPt,zI9,zPr,by simp⟩)
 refine PSound.withNil (zGB tokW Tryz.call100 Tryz.func100 rfl (fun xs os x os' h=>by obtain⟨n,_,_,_,_,_,rfl,rfl,_,rfl⟩:=h; exact⟨by show 2<=120; decide,by show 1<=1; decide⟩) 120 rfl ?_) _;rintro xs os x os' w0 G0 B0 ⟨n,⟨_,o1R⟩,⟨a2A,a2C,a2D,a2B⟩,y0,z0,h,rfl,rfl,rfl,rfl⟩ _;rw[zCp]at h;refine zYV ?_;refine zAa ?_;refine zAa ?_;obtain⟨x3,hj,h⟩:=zAc h
 refine zAm ⟨ofL [(0,.op 0 0),(1,.s (.pt [.int .i64 a2A,.str a2C,.int .i64 a2D,.sl 4 (Nd.encs a2B)])),(34,.s (.bool x3))],ofH [(0,.box 113 [.s (.str []),.s (.int .i64 0),.s (.nf),.s (.str [114,111,119]),.s (.int .i64 0),.s (.fn 94),.s (.str [115,121,109]),.s (.int .i64 0),.s (.fn 95),.s (.str [110,117,109]),.s (.int .i64 0),.s (.fn 96),.s (.str [116,101,120,116]),.s (.int .i64 0),.s (.fn 97),.s (.str [102,114,97,99]),.s (.int .i64 2),.s (.fn 94),.s (.str [114,111,111,116]),.s (.int .i64 2),.s (.fn 94),.s (.str [115,117,98]),.s (.int .i64 2),.s (.fn 94),.s (.str [115,117,112]),.s (.int .i64 2),.s (.fn 94),.s (.str [98,111,116,104]),.s (.int .i64 3),.s (.fn 94),.s (.str [97,99,99,101,110,116]),.s (.int .i64 1),.s (.fn 98),.s (.str [102,101,110,99,101]),.s (.int .i64 1),.s (.fn 99),.s (.str [109,97,116,114,105,120]),.s (.int .i64 0),.s (.fn 94),.s (.int .i64 o1R)])],1⟩ ?_ (fun σ' hle=>?_)
 ·replace h:=hj;refine zAA [] [10,17,22] [22] rfl (by decide +kernel) ?_;intro b hb;cases b with
  | true =>
   replace h:=zAu hb.symm h;intro b hb;subst hb;cases h;exact(Le.rnm [(0,0)] _ _ _ ⟨rfl,rfl,rfl,trivial⟩ ⟨rfl,⟨_,rfl,rfl⟩,trivial⟩)
  | false =>
   replace h:=zAt hb.symm h;intro b hb;cases b with
   | true =>
    replace h:=zAu hb.symm h;cases h;exact(Le.rnm [(0,0)] _ _ _ ⟨rfl,rfl,rfl,trivial⟩ ⟨rfl,⟨_,rfl,rfl⟩,trivial⟩)
   | false =>
    replace h:=zAt hb.symm h;intro vsp hvsp;cases hc:(a2A == 1) with
    | true =>
     replace h:=zAu hc h;obtain rfl:(1:Int)=vsp:=(hvsp.trans (eq_of_beq hc)).symm;refine And.intro (by decide) ?_;obtain⟨y4,hy4,h⟩:=zAc h;refine⟨_,⟨_,_,hy4,rfl,rfl⟩,?_⟩
     cases h;exact(Le.rnm [(0,0)] _ _ _ ⟨rfl,rfl,rfl,trivial⟩ ⟨rfl,⟨_,rfl,rfl⟩,trivial⟩)
    | false =>
     replace h:=zAt hc h;cases hc:(a2A == 2) with
     | true =>
      replace h:=zAu hc h;obtain rfl:(2:Int)=vsp:=(hvsp.trans (eq_of_beq hc)).symm;refine And.intro (by decide) ?_;obtain⟨y5,hy5,h⟩:=zAc h;refine⟨_,⟨_,_,_,hy5,rfl,rfl⟩,?_⟩
      cases h;exact(Le.rnm [(0,0)] _ _ _ ⟨rfl,rfl,rfl,trivial⟩ ⟨rfl,⟨_,rfl,rfl⟩,trivial⟩)
     | false =>
      replace h:=zAt hc h;cases hc:(a2A == 3) with
      | true =>
       replace h:=zAu hc h;obtain rfl:(3:Int)=vsp:=(hvsp.trans (eq_of_beq hc)).symm;refine And.intro (by decide) ?_;obtain⟨y6,hy6,h⟩:=zAc h;refine⟨_,⟨_,_,_,hy6,rfl,rfl⟩,?_⟩
       cases h;exact(Le.rnm [(0,0)] _ _ _ ⟨rfl,rfl,rfl,trivial⟩ ⟨rfl,⟨_,rfl,rfl⟩,trivial⟩)
      | false =>
       replace h:=zAt hc h;cases hc:(a2A == 4) with
       | true =>
        replace h:=zAu hc h;obtain rfl:(4:Int)=vsp:=(hvsp.trans (eq_of_beq hc)).symm;refine And.intro (by decide) ?_;obtain⟨y7,hy7,h⟩:=zAc h;refine⟨_,⟨_,_,_,hy7,rfl,rfl⟩,?_⟩
        cases h;exact(Le.rnm [(0,0)] _ _ _ ⟨rfl,rfl,rfl,trivial⟩ ⟨rfl,⟨_,rfl,rfl⟩,trivial⟩)
       | false =>
        replace h:=zAt hc h;cases hc:(a2A == 5) with
        | true =>
         replace h:=zAu hc h;obtain rfl:(5:Int)=vsp:=(hvsp.trans (eq_of_beq hc)).symm;refine And.intro (by decide) ?_;obtain⟨y8,hy8,h⟩:=zAc h;refine⟨_,⟨_,_,hy8,rfl,rfl⟩,?_⟩
         cases h;exact(Le.rnm [(0,0)] _ _ _ ⟨rfl,rfl,rfl,trivial⟩ ⟨rfl,⟨_,rfl,rfl⟩,trivial⟩)
        | false =>
         replace h:=zAt hc h;cases hc:(a2A == 6) with
         | true =>
          replace h:=zAu hc h;obtain rfl:(6:Int)=vsp:=(hvsp.trans (eq_of_beq hc)).symm;refine And.intro (by decide) ?_;obtain⟨y9,hy9,h⟩:=zAc h;refine⟨_,⟨_,_,hy9,rfl,rfl⟩,?_⟩
          cases h;exact(Le.rnm [(0,0)] _ _ _ ⟨rfl,rfl,rfl,trivial⟩ ⟨rfl,⟨_,rfl,rfl⟩,trivial⟩)
         | false =>
          replace h:=zAt hc h;cases hc:(a2A == 7) with
          | true =>
           replace h:=zAu hc h;obtain rfl:(7:Int)=vsp:=(hvsp.trans (eq_of_beq hc)).symm;refine And.intro (by decide) ?_;obtain⟨y10,hy10,h⟩:=zAc h;refine⟨_,⟨_,_,hy10,rfl,rfl⟩,?_⟩
           cases h;exact(Le.rnm [(0,0)] _ _ _ ⟨rfl,rfl,rfl,trivial⟩ ⟨rfl,⟨_,rfl,rfl⟩,trivial⟩)
          | false =>
           replace h:=zAt hc h;cases hc:(a2A == 8) with
           | true =>
            replace h:=zAu hc h;obtain rfl:(8:Int)=vsp:=(hvsp.trans (eq_of_beq hc)).symm;refine And.intro (by decide) ?_;obtain⟨y11,hy11,h⟩:=zAc h;refine⟨_,⟨_,_,hy11,rfl,rfl⟩,?_⟩
            cases h;exact(Le.rnm [(0,0)] _ _ _ ⟨rfl,rfl,rfl,trivial⟩ ⟨rfl,⟨_,rfl,rfl⟩,trivial⟩)
           | false =>
            replace h:=zAt hc h;cases hc:(a2A == 9) with
            | true =>
             replace h:=zAu hc h;obtain rfl:(9:Int)=vsp:=(hvsp.trans (eq_of_beq hc)).symm;refine And.intro (by decide) ?_;obtain⟨y12,hy12,h⟩:=zAc h;refine⟨_,⟨_,_,hy12,rfl,rfl⟩,?_⟩
             cases h;exact(Le.rnm [(0,0)] _ _ _ ⟨rfl,rfl,rfl,trivial⟩ ⟨rfl,⟨_,rfl,rfl⟩,trivial⟩)
            | false =>
             replace h:=zAt hc h;cases hc:(a2A == 10) with
             | true =>
              replace h:=zAu hc h;obtain rfl:(10:Int)=vsp:=(hvsp.trans (eq_of_beq hc)).symm;refine And.intro (by decide) ?_;obtain⟨y13,hy13,h⟩:=zAc h;refine⟨_,⟨_,_,hy13,rfl,rfl⟩,?_⟩
              cases h;exact(Le.rnm [(0,0)] _ _ _ ⟨rfl,rfl,rfl,trivial⟩ ⟨rfl,⟨_,rfl,rfl⟩,trivial⟩)
             | false =>
              replace h:=zAt hc h;cases hc:(a2A == 11) with
              | true =>
               replace h:=zAu hc h;obtain rfl:(11:Int)=vsp:=(hvsp.trans (eq_of_beq hc)).symm;refine And.intro (by decide) ?_;obtain⟨y14,hy14,h⟩:=zAc h;refine⟨_,⟨_,_,hy14,rfl,rfl⟩,?_⟩
               cases h;exact(Le.rnm [(0,0)] _ _ _ ⟨rfl,rfl,rfl,trivial⟩ ⟨rfl,⟨_,rfl,rfl⟩,trivial⟩)
              | false =>
               replace h:=zAt hc h;cases hc:(a2A == 12) with
               | true =>
                replace h:=zAu hc h;obtain rfl:(12:Int)=vsp:=(hvsp.trans (eq_of_beq hc)).symm;refine And.intro (by decide) ?_;obtain⟨y15,hy15,h⟩:=zAc h;refine⟨_,⟨_,_,hy15,rfl,rfl⟩,?_⟩
                cases h;exact(Le.rnm [(0,0)] _ _ _ ⟨rfl,rfl,rfl,trivial⟩ ⟨rfl,⟨_,rfl,rfl⟩,trivial⟩)
               | false =>
                replace h:=zAt hc h;cases h
 ·refine zAh hle ?_;refine zAg rfl h (fun hb h=>?_) (fun hb h=>?_)
  ·refine zYV ?_;refine zAe ?_;obtain⟨hj1,hk1⟩:=pij h;subst hj1 hk1;unfold zBN
   exact⟨_,(Le.rnm [(0,0)] [(4,.s (.bool false))] [(0,.box 113 [.s (.str []),.s (.int .i64 0),.s (.nf),.s (.str [114,111,119]),.s (.int .i64 0),.s (.fn 94),.s (.str [115,121,109]),.s (.int .i64 0),.s (.fn 95),.s (.str [110,117,109]),.s (.int .i64 0),.s (.fn 96),.s (.str [116,101,120,116]),.s (.int .i64 0),.s (.fn 97),.s (.str [102,114,97,99]),.s (.int .i64 2),.s (.fn 94),.s (.str [114,111,111,116]),.s (.int .i64 2),.s (.fn 94),.s (.str [115,117,98]),.s (.int .i64 2),.s (.fn 94),.s (.str [115,117,112]),.s (.int .i64 2),.s (.fn 94),.s (.str [98,111,116,104]),.s (.int .i64 3),.s (.fn 94),.s (.str [97,99,99,101,110,116]),.s (.int .i64 1),.s (.fn 98),.s (.str [102,101,110,99,101]),.s (.int .i64 1),.s (.fn 99),.s (.str [109,97,116,114,105,120]),.s (.int .i64 0),.s (.fn 94),.s (.int .i64 o1R)])] 1 ⟨rfl,trivial⟩ ⟨rfl,⟨_,rfl,rfl⟩,trivial⟩),rfl,rfl,rfl,rfl,trivial⟩
  ·refine zAf ?_;refine zAa ?_;refine zYV ?_;refine zAl ?_;refine zYV ?_;refine zAg rfl h (fun hb h=>?_) (fun hb h=>?_)
   ·refine zAa ?_;obtain⟨x16,hj,h⟩:=zAc h
    refine zAm ⟨ofL [(4,.s (.bool x16))],ofH [(0,.box 113 [.s (.str []),.s (.int .i64 0),.s (.nf),.s (.str [114,111,119]),.s (.int .i64 0),.s (.fn 94),.s (.str [115,121,109]),.s (.int .i64 0),.s (.fn 95),.s (.str [110,117,109]),.s (.int .i64 0),.s (.fn 96),.s (.str [116,101,120,116]),.s (.int .i64 0),.s (.fn 97),.s (.str [102,114,97,99]),.s (.int .i64 2),.s (.fn 94),.s (.str [114,111,111,116]),.s (.int .i64 2),.s (.fn 94),.s (.str [115,117,98]),.s (.int .i64 2),.s (.fn 94),.s (.str [115,117,112]),.s (.int .i64 2),.s (.fn 94),.s (.str [98,111,116,104]),.s (.int .i64 3),.s (.fn 94),.s (.str [97,99,99,101,110,116]),.s (.int .i64 1),.s (.fn 98),.s (.str [102,101,110,99,101]),.s (.int .i64 1),.s (.fn 99),.s (.str [109,97,116,114,105,120]),.s (.int .i64 0),.s (.fn 94),.s (.int .i64 o1R)])],1⟩ ?_ (fun σ' hle=>?_)
    ·replace h:=hj;refine zAb [] [46,51] rfl ?_;intro b hb;cases b with
     | true =>
      replace h:=zAu hb.symm h;intro n17 hn17;obtain rfl:(a2B.length:Int)=n17:=(hn17.trans (congrArg (fun m:Nat=>(m:Int)) (rlen Nd.encs_eq a2B))).symm;cases h;exact(Le.rnm [(0,0)] _ _ _ ⟨rfl,trivial⟩ ⟨rfl,⟨_,rfl,rfl⟩,trivial⟩)
     | false =>
      replace h:=zAt hb.symm h;cases h;exact(Le.rnm [(0,0)] _ _ _ ⟨rfl,trivial⟩ ⟨rfl,⟨_,rfl,rfl⟩,trivial⟩)
    ·refine zAh hle ?_;refine zAe ?_;obtain⟨hj1,hk1⟩:=pij h;subst hj1 hk1;unfold zBN
     exact⟨_,(Le.rnm [(0,0)] [(4,.s (.bool x16))] [(0,.box 113 [.s (.str []),.s (.int .i64 0),.s (.nf),.s (.str [114,111,119]),.s (.int .i64 0),.s (.fn 94),.s (.str [115,121,109]),.s (.int .i64 0),.s (.fn 95),.s (.str [110,117,109]),.s (.int .i64 0),.s (.fn 96),.s (.str [116,101,120,116]),.s (.int .i64 0),.s (.fn 97),.s (.str [102,114,97,99]),.s (.int .i64 2),.s (.fn 94),.s (.str [114,111,111,116]),.s (.int .i64 2),.s (.fn 94),.s (.str [115,117,98]),.s (.int .i64 2),.s (.fn 94),.s (.str [115,117,112]),.s (.int .i64 2),.s (.fn 94),.s (.str [98,111,116,104]),.s (.int .i64 3),.s (.fn 94),.s (.str [97,99,99,101,110,116]),.s (.int .i64 1),.s (.fn 98),.s (.str [102,101,110,99,101]),.s (.int .i64 1),.s (.fn 99),.s (.str [109,97,116,114,105,120]),.s (.int .i64 0),.s (.fn 94),.s (.int .i64 o1R)])] 1 ⟨rfl,trivial⟩ ⟨rfl,⟨_,rfl,rfl⟩,trivial⟩),rfl,rfl,rfl,rfl,trivial⟩
   ·refine zYV ?_;refine zAg rfl h (fun hb h=>?_) (fun hb h=>?_)
    ·refine zAa ?_;obtain⟨x18,hj,h⟩:=zAc h
     refine zAm ⟨ofL [(4,.s (.bool x18))],ofH [(0,.box 113 [.s (.str []),.s (.int .i64 0),.s (.nf),.s (.str [114,111,119]),.s (.int .i64 0),.s (.fn 94),.s (.str [115,121,109]),.s (.int .i64 0),.s (.fn 95),.s (.str [110,117,109]),.s (.int .i64 0),.s (.fn 96),.s (.str [116,101,120,116]),.s (.int .i64 0),.s (.fn 97),.s (.str [102,114,97,99]),.s (.int .i64 2),.s (.fn 94),.s (.str [114,111,111,116]),.s (.int .i64 2),.s (.fn 94),.s (.str [115,117,98]),.s (.int .i64 2),.s (.fn 94),.s (.str [115,117,112]),.s (.int .i64 2),.s (.fn 94),.s (.str [98,111,116,104]),.s (.int .i64 3),.s (.fn 94),.s (.str [97,99,99,101,110,116]),.s (.int .i64 1),.s (.fn 98),.s (.str [102,101,110,99,101]),.s (.int .i64 1),.s (.fn 99),.s (.str [109,97,116,114,105,120]),.s (.int .i64 0),.s (.fn 94),.s (.int .i64 o1R)])],1⟩ ?_ (fun σ' hle=>?_)
     ·replace h:=hj;refine zAA [] [61,68,73,76,81,84,89] [] rfl (by decide +kernel) ?_;intro b hb;cases b with
      | true =>
       replace h:=zAu hb.symm h;intro b hb;cases b with
       | true =>
        replace h:=zAu hb.symm h;intro n19 hn19;obtain rfl:(a2B.length:Int)=n19:=(hn19.trans (congrArg (fun m:Nat=>(m:Int)) (rlen Nd.encs_eq a2B))).symm;intro b hb;cases b with
        | true =>
         replace h:=zAu hb.symm h;intro n20 hn20;obtain rfl:(a2B.length:Int)=n20:=(hn20.trans (congrArg (fun m:Nat=>(m:Int)) (rlen Nd.encs_eq a2B))).symm;intro b hb;cases b with
         | true =>
          replace h:=zAu hb.symm h;intro n21 hn21;obtain rfl:(a2B.length:Int)=n21:=(hn21.trans (congrArg (fun m:Nat=>(m:Int)) (rlen Nd.encs_eq a2B))).symm;obtain⟨hq,h⟩:=zAw h;refine And.intro hq ?_;cases h;exact(Le.rnm [(0,0)] _ _ _ ⟨rfl,trivial⟩ ⟨rfl,⟨_,rfl,rfl⟩,trivial⟩)
         | false =>
          replace h:=zAt hb.symm h;cases h;exact(Le.rnm [(0,0)] _ _ _ ⟨rfl,trivial⟩ ⟨rfl,⟨_,rfl,rfl⟩,trivial⟩)
        | false =>
         replace h:=zAt hb.symm h;intro b hb;subst hb;cases h;exact(Le.rnm [(0,0)] _ _ _ ⟨rfl,trivial⟩ ⟨rfl,⟨_,rfl,rfl⟩,trivial⟩)
       | false =>
        replace h:=zAt hb.symm h;intro b hb;subst hb;intro b hb;subst hb;cases h;exact(Le.rnm [(0,0)] _ _ _ ⟨rfl,trivial⟩ ⟨rfl,⟨_,rfl,rfl⟩,trivial⟩)
      | false =>
       replace h:=zAt hb.symm h;intro b hb;subst hb;intro b hb;subst hb;intro b hb;subst hb;cases h;exact(Le.rnm [(0,0)] _ _ _ ⟨rfl,trivial⟩ ⟨rfl,⟨_,rfl,rfl⟩,trivial⟩)
     ·refine zAh hle ?_;refine zAe ?_;obtain⟨hj1,hk1⟩:=pij h;subst hj1 hk1;unfold zBN
      exact⟨_,(Le.rnm [(0,0)] [(4,.s (.bool x18))] [(0,.box 113 [.s (.str []),.s (.int .i64 0),.s (.nf),.s (.str [114,111,119]),.s (.int .i64 0),.s (.fn 94),.s (.str [115,121,109]),.s (.int .i64 0),.s (.fn 95),.s (.str [110,117,109]),.s (.int .i64 0),.s (.fn 96),.s (.str [116,101,120,116]),.s (.int .i64 0),.s (.fn 97),.s (.str [102,114,97,99]),.s (.int .i64 2),.s (.fn 94),.s (.str [114,111,111,116]),.s (.int .i64 2),.s (.fn 94),.s (.str [115,117,98]),.s (.int .i64 2),.s (.fn 94),.s (.str [115,117,112]),.s (.int .i64 2),.s (.fn 94),.s (.str [98,111,116,104]),.s (.int .i64 3),.s (.fn 94),.s (.str [97,99,99,101,110,116]),.s (.int .i64 1),.s (.fn 98),.s (.str [102,101,110,99,101]),.s (.int .i64 1),.s (.fn 99),.s (.str [109,97,116,114,105,120]),.s (.int .i64 0),.s (.fn 94),.s (.int .i64 o1R)])] 1 ⟨rfl,trivial⟩ ⟨rfl,⟨_,rfl,rfl⟩,trivial⟩),rfl,rfl,rfl,rfl,trivial⟩
    ·refine zAf ?_;refine zAa ?_;obtain⟨x22,hj,h⟩:=zAc h
     refine zAm ⟨ofL [(4,.s (.bool x22))],ofH [(0,.box 113 [.s (.str []),.s (.int .i64 0),.s (.nf),.s (.str [114,111,119]),.s (.int .i64 0),.s (.fn 94),.s (.str [115,121,109]),.s (.int .i64 0),.s (.fn 95),.s (.str [110,117,109]),.s (.int .i64 0),.s (.fn 96),.s (.str [116,101,120,116]),.s (.int .i64 0),.s (.fn 97),.s (.str [102,114,97,99]),.s (.int .i64 2),.s (.fn 94),.s (.str [114,111,111,116]),.s (.int .i64 2),.s (.fn 94),.s (.str [115,117,98]),.s (.int .i64 2),.s (.fn 94),.s (.str [115,117,112]),.s (.int .i64 2),.s (.fn 94),.s (.str [98,111,116,104]),.s (.int .i64 3),.s (.fn 94),.s (.str [97,99,99,101,110,116]),.s (.int .i64 1),.s (.fn 98),.s (.str [102,101,110,99,101]),.s (.int .i64 1),.s (.fn 99),.s (.str [109,97,116,114,105,120]),.s (.int .i64 0),.s (.fn 94),.s (.int .i64 o1R)])],1⟩ ?_ (fun σ' hle=>?_)
     ·replace h:=hj;refine zAA [] [102,107,112] [20] rfl (by decide +kernel) ?_;intro b hb;cases b with
      | true =>
       replace h:=zAu hb.symm h;intro n23 hn23;obtain rfl:(a2B.length:Int)=n23:=(hn23.trans (congrArg (fun m:Nat=>(m:Int)) (rlen Nd.encs_eq a2B))).symm;intro vsp hvsp;cases hc:(a2A == 1) with
       | true =>
        replace h:=zAu hc h;obtain rfl:(1:Int)=vsp:=(hvsp.trans (eq_of_beq hc)).symm;refine And.intro (by decide) ?_;cases h;exact(Le.rnm [(0,0)] _ _ _ ⟨rfl,trivial⟩ ⟨rfl,⟨_,rfl,rfl⟩,trivial⟩)
       | false =>
        replace h:=zAt hc h;cases hc:(a2A == 2) with
        | true =>
         replace h:=zAu hc h;obtain rfl:(2:Int)=vsp:=(hvsp.trans (eq_of_beq hc)).symm;refine And.intro (by decide) ?_;cases h;exact(Le.rnm [(0,0)] _ _ _ ⟨rfl,trivial⟩ ⟨rfl,⟨_,rfl,rfl⟩,trivial⟩)
        | false =>
         replace h:=zAt hc h;cases hc:(a2A == 3) with
         | true =>
          replace h:=zAu hc h;obtain rfl:(3:Int)=vsp:=(hvsp.trans (eq_of_beq hc)).symm;refine And.intro (by decide) ?_;cases h;exact(Le.rnm [(0,0)] _ _ _ ⟨rfl,trivial⟩ ⟨rfl,⟨_,rfl,rfl⟩,trivial⟩)
         | false =>
          replace h:=zAt hc h;cases hc:(a2A == 4) with
          | true =>
           replace h:=zAu hc h;obtain rfl:(4:Int)=vsp:=(hvsp.trans (eq_of_beq hc)).symm;refine And.intro (by decide) ?_;cases h;exact(Le.rnm [(0,0)] _ _ _ ⟨rfl,trivial⟩ ⟨rfl,⟨_,rfl,rfl⟩,trivial⟩)
          | false =>
           replace h:=zAt hc h;cases hc:(a2A == 5) with
           | true =>
            replace h:=zAu hc h;obtain rfl:(5:Int)=vsp:=(hvsp.trans (eq_of_beq hc)).symm;refine And.intro (by decide) ?_;cases h;exact(Le.rnm [(0,0)] _ _ _ ⟨rfl,trivial⟩ ⟨rfl,⟨_,rfl,rfl⟩,trivial⟩)
           | false =>
            replace h:=zAt hc h;cases hc:(a2A == 6) with
            | true =>
             replace h:=zAu hc h;obtain rfl:(6:Int)=vsp:=(hvsp.trans (eq_of_beq hc)).symm;refine And.intro (by decide) ?_;cases h;exact(Le.rnm [(0,0)] _ _ _ ⟨rfl,trivial⟩ ⟨rfl,⟨_,rfl,rfl⟩,trivial⟩)
            | false =>
             replace h:=zAt hc h;cases hc:(a2A == 7) with
             | true =>
              replace h:=zAu hc h;obtain rfl:(7:Int)=vsp:=(hvsp.trans (eq_of_beq hc)).symm;refine And.intro (by decide) ?_;cases h;exact(Le.rnm [(0,0)] _ _ _ ⟨rfl,trivial⟩ ⟨rfl,⟨_,rfl,rfl⟩,trivial⟩)
             | false =>
              replace h:=zAt hc h;cases hc:(a2A == 8) with
              | true =>
               replace h:=zAu hc h;obtain rfl:(8:Int)=vsp:=(hvsp.trans (eq_of_beq hc)).symm;refine And.intro (by decide) ?_;cases h;exact(Le.rnm [(0,0)] _ _ _ ⟨rfl,trivial⟩ ⟨rfl,⟨_,rfl,rfl⟩,trivial⟩)
              | false =>
               replace h:=zAt hc h;cases hc:(a2A == 9) with
               | true =>
                replace h:=zAu hc h;obtain rfl:(9:Int)=vsp:=(hvsp.trans (eq_of_beq hc)).symm;refine And.intro (by decide) ?_;cases h;exact(Le.rnm [(0,0)] _ _ _ ⟨rfl,trivial⟩ ⟨rfl,⟨_,rfl,rfl⟩,trivial⟩)
               | false =>
                replace h:=zAt hc h;cases hc:(a2A == 10) with
                | true =>
                 replace h:=zAu hc h;obtain rfl:(10:Int)=vsp:=(hvsp.trans (eq_of_beq hc)).symm;refine And.intro (by decide) ?_;cases h;exact(Le.rnm [(0,0)] _ _ _ ⟨rfl,trivial⟩ ⟨rfl,⟨_,rfl,rfl⟩,trivial⟩)
                | false =>
                 replace h:=zAt hc h;cases hc:(a2A == 11) with
                 | true =>
                  replace h:=zAu hc h;obtain rfl:(11:Int)=vsp:=(hvsp.trans (eq_of_beq hc)).symm;refine And.intro (by decide) ?_;cases h;exact(Le.rnm [(0,0)] _ _ _ ⟨rfl,trivial⟩ ⟨rfl,⟨_,rfl,rfl⟩,trivial⟩)
                 | false =>
                  replace h:=zAt hc h;cases hc:(a2A == 12) with
                  | true =>
                   replace h:=zAu hc h;obtain rfl:(12:Int)=vsp:=(hvsp.trans (eq_of_beq hc)).symm;refine And.intro (by decide) ?_;cases h;exact(Le.rnm [(0,0)] _ _ _ ⟨rfl,trivial⟩ ⟨rfl,⟨_,rfl,rfl⟩,trivial⟩)
                  | false =>
                   replace h:=zAt hc h;cases h
      | false =>
       replace h:=zAt hb.symm h;cases h;exact(Le.rnm [(0,0)] _ _ _ ⟨rfl,trivial⟩ ⟨rfl,⟨_,rfl,rfl⟩,trivial⟩)
     ·refine zAh hle ?_;refine zAe ?_;obtain⟨hj1,hk1⟩:=pij h;subst hj1 hk1;unfold zBN
      exact⟨_,(Le.rnm [(0,0)] [(4,.s (.bool x22))] [(0,.box 113 [.s (.str []),.s (.int .i64 0),.s (.nf),.s (.str [114,111,119]),.s (.int .i64 0),.s (.fn 94),.s (.str [115,121,109]),.s (.int .i64 0),.s (.fn 95),.s (.str [110,117,109]),.s (.int .i64 0),.s (.fn 96),.s (.str [116,101,120,116]),.s (.int .i64 0),.s (.fn 97),.s (.str [102,114,97,99]),.s (.int .i64 2),.s (.fn 94),.s (.str [114,111,111,116]),.s (.int .i64 2),.s (.fn 94),.s (.str [115,117,98]),.s (.int .i64 2),.s (.fn 94),.s (.str [115,117,112]),.s (.int .i64 2),.s (.fn 94),.s (.str [98,111,116,104]),.s (.int .i64 3),.s (.fn 94),.s (.str [97,99,99,101,110,116]),.s (.int .i64 1),.s (.fn 98),.s (.str [102,101,110,99,101]),.s (.int .i64 1),.s (.fn 99),.s (.str [109,97,116,114,105,120]),.s (.int .i64 0),.s (.fn 94),.s (.int .i64 o1R)])] 1 ⟨rfl,trivial⟩ ⟨rfl,⟨_,rfl,rfl⟩,trivial⟩),rfl,rfl,rfl,rfl,trivial⟩
def zCa (n:Nat) (xs:List AV) (os:List Ob) (x:AV) (os':List (Option Ob)):Prop:=∃ (a0:(Unit×Int)) (a1:Nd) (a2:Int) (y0:Bool) (z0:(Unit×Int)),zA2 n a0 a1 a2=some (y0,z0)/\xs=[.op 0 0,.s (.pt (Nd.enc a1)),.s (.int .i64 a2)]/\os=[.box 113 ((zAK a0).map .s)]/\x = .s (.bool y0)/\os'=[some (.box 113 ((zAK z0).map .s))]
theorem zHO (n:Nat) (ih:PSound Tryz.prog 65 (zD5 (zCa n))):PSound Tryz.prog 65 (zD5 (zCa (n+1))):=by
 have gok:∀ f s,look? f [(100,zGw),(65,zD5 (zCa n))]=some s->PSound Tryz.prog f s:=zAo (by
  simp only[List.forall_mem_cons]
  exact⟨zJz,ih,by simp⟩)
 refine PSound.withNil (zGB tokW Tryz.call65 Tryz.func65 rfl (fun xs os x os' h=>by obtain⟨_,_,_,_,_,_,rfl,rfl,_,rfl⟩:=h; exact⟨by show 3<=67; decide,by show 1<=1; decide⟩) 67 rfl ?_) _;rintro xs os x os' w0 G0 B0 ⟨⟨_,o1R⟩,⟨a2A,a2C,a2D,a2B⟩,a3,y0,z0,h,rfl,rfl,rfl,rfl⟩ _;rw[zA2]at h;refine zYV ?_;refine zYV ?_;refine zAa ?_;refine zAa ?_;obtain⟨⟨x4,x5⟩,hj,h⟩:=zAc h
 refine zAm ⟨ofL [(0,.op 0 0),(1,.s (.pt [.int .i64 a2A,.str a2C,.int .i64 a2D,.sl 4 (Nd.encs a2B)])),(2,.s (.int .i64 a3)),(29,.s (.bool x4))],ofH [(0,.box 113 [.s (.str []),.s (.int .i64 0),.s (.nf),.s (.str [114,111,119]),.s (.int .i64 0),.s (.fn 94),.s (.str [115,121,109]),.s (.int .i64 0),.s (.fn 95),.s (.str [110,117,109]),.s (.int .i64 0),.s (.fn 96),.s (.str [116,101,120,116]),.s (.int .i64 0),.s (.fn 97),.s (.str [102,114,97,99]),.s (.int .i64 2),.s (.fn 94),.s (.str [114,111,111,116]),.s (.int .i64 2),.s (.fn 94),.s (.str [115,117,98]),.s (.int .i64 2),.s (.fn 94),.s (.str [115,117,112]),.s (.int .i64 2),.s (.fn 94),.s (.str [98,111,116,104]),.s (.int .i64 3),.s (.fn 94),.s (.str [97,99,99,101,110,116]),.s (.int .i64 1),.s (.fn 98),.s (.str [102,101,110,99,101]),.s (.int .i64 1),.s (.fn 99),.s (.str [109,97,116,114,105,120]),.s (.int .i64 0),.s (.fn 94),.s (.int .i64 x5)])],1⟩ ?_ (fun σ' hle=>?_)
 ·replace h:=hj;refine zAb [] [20,24] rfl ?_;intro b hb;cases b with
  | true =>
   replace h:=zAu hb.symm h;intro b hb;subst hb;cases h;exact(Le.rnm [(0,0)] _ _ _ ⟨rfl,rfl,rfl,rfl,trivial⟩ ⟨rfl,⟨_,rfl,rfl⟩,trivial⟩)
  | false =>
   replace h:=zAt hb.symm h;intro b hb;cases b with
   | true =>
    replace h:=zAu hb.symm h;cases h;exact(Le.rnm [(0,0)] _ _ _ ⟨rfl,rfl,rfl,rfl,trivial⟩ ⟨rfl,⟨_,rfl,rfl⟩,trivial⟩)
   | false =>
    replace h:=zAt hb.symm h;obtain⟨⟨y6,⟨_,w7R⟩⟩,hy6,h⟩:=zAc h;refine⟨_,_,⟨_,_,_,_,_,hy6,rfl,rfl,rfl,rfl⟩,?_⟩
    cases h;exact(Le.rnm [(0,0)] _ _ _ ⟨rfl,rfl,rfl,rfl,trivial⟩ ⟨rfl,⟨_,rfl,rfl⟩,trivial⟩)
 ·refine zAh hle ?_;refine zAg rfl h (fun hb h=>?_) (fun hb h=>?_)
  ·refine zYV ?_;refine zAe ?_;obtain⟨hj1,hk1⟩:=pij h;subst hj1 hk1;unfold zBN
   exact⟨_,(Le.rnm [(0,0)] [(6,.s (.bool false))] [(0,.box 113 [.s (.str []),.s (.int .i64 0),.s (.nf),.s (.str [114,111,119]),.s (.int .i64 0),.s (.fn 94),.s (.str [115,121,109]),.s (.int .i64 0),.s (.fn 95),.s (.str [110,117,109]),.s (.int .i64 0),.s (.fn 96),.s (.str [116,101,120,116]),.s (.int .i64 0),.s (.fn 97),.s (.str [102,114,97,99]),.s (.int .i64 2),.s (.fn 94),.s (.str [114,111,111,116]),.s (.int .i64 2),.s (.fn 94),.s (.str [115,117,98]),.s (.int .i64 2),.s (.fn 94),.s (.str [115,117,112]),.s (.int .i64 2),.s (.fn 94),.s (.str [98,111,116,104]),.s (.int .i64 3),.s (.fn 94),.s (.str [97,99,99,101,110,116]),.s (.int .i64 1),.s (.fn 98),.s (.str [102,101,110,99,101]),.s (.int .i64 1),.s (.fn 99),.s (.str [109,97,116,114,105,120]),.s (.int .i64 0),.s (.fn 94),.s (.int .i64 x5)])] 1 ⟨rfl,trivial⟩ ⟨rfl,⟨_,rfl,rfl⟩,trivial⟩),rfl,rfl,rfl,rfl,trivial⟩
  ·refine zAf ?_;refine zAa ?_;refine zYf [] [34] rfl ?_;intro n8 hn8;obtain rfl:(a2B.length:Int)=n8:=(hn8.trans (congrArg (fun m:Nat=>(m:Int)) (rlen Nd.encs_eq a2B))).symm;show Tri ..;obtain⟨fl,hl,ho1⟩:=zAc h
   refine zBA (fl:=fl) (fun z=>match z with | x11=>⟨ofL [],ofH [(0,.box 113 [.s (.str []),.s (.int .i64 0),.s (.nf),.s (.str [114,111,119]),.s (.int .i64 0),.s (.fn 94),.s (.str [115,121,109]),.s (.int .i64 0),.s (.fn 95),.s (.str [110,117,109]),.s (.int .i64 0),.s (.fn 96),.s (.str [116,101,120,116]),.s (.int .i64 0),.s (.fn 97),.s (.str [102,114,97,99]),.s (.int .i64 2),.s (.fn 94),.s (.str [114,111,111,116]),.s (.int .i64 2),.s (.fn 94),.s (.str [115,117,98]),.s (.int .i64 2),.s (.fn 94),.s (.str [115,117,112]),.s (.int .i64 2),.s (.fn 94),.s (.str [98,111,116,104]),.s (.int .i64 3),.s (.fn 94),.s (.str [97,99,99,101,110,116]),.s (.int .i64 1),.s (.fn 98),.s (.str [102,101,110,99,101]),.s (.int .i64 1),.s (.fn 99),.s (.str [109,97,116,114,105,120]),.s (.int .i64 0),.s (.fn 94),.s (.int .i64 x11)])],1⟩) ?_ (fun x11 σ' hz hle=>?_)
   ·refine zAl (zAy (X:=Nat×Int×Int) (fun y=>match y with | (k,x9,x10)=>⟨ofL [(0,.op 0 0),(1,.s (.pt [.int .i64 a2A,.str a2C,.int .i64 a2D,.sl 4 (Nd.encs a2B)])),(2,.s (.int .i64 a3)),(34,.s (.int .i64 (a2B.length:Int))),(35,.s (.int .i64 x10))],ofH [(0,.box 113 [.s (.str []),.s (.int .i64 0),.s (.nf),.s (.str [114,111,119]),.s (.int .i64 0),.s (.fn 94),.s (.str [115,121,109]),.s (.int .i64 0),.s (.fn 95),.s (.str [110,117,109]),.s (.int .i64 0),.s (.fn 96),.s (.str [116,101,120,116]),.s (.int .i64 0),.s (.fn 97),.s (.str [102,114,97,99]),.s (.int .i64 2),.s (.fn 94),.s (.str [114,111,111,116]),.s (.int .i64 2),.s (.fn 94),.s (.str [115,117,98]),.s (.int .i64 2),.s (.fn 94),.s (.str [115,117,112]),.s (.int .i64 2),.s (.fn 94),.s (.str [98,111,116,104]),.s (.int .i64 3),.s (.fn 94),.s (.str [97,99,99,101,110,116]),.s (.int .i64 1),.s (.fn 98),.s (.str [102,101,110,99,101]),.s (.int .i64 1),.s (.fn 99),.s (.str [109,97,116,114,105,120]),.s (.int .i64 0),.s (.fn 94),.s (.int .i64 x9)])],1⟩) (fun y=>zAT (zA2 n) a2A a2B a3 y.1 y.2.1 y.2.2=some fl) (fun y=>y.1) (n,x5,0) hl ?_ ?_)
    ·exact(Le.rnm [(0,0)] _ _ _ ⟨rfl,rfl,rfl,rfl,rfl,trivial⟩ ⟨rfl,⟨_,rfl,rfl⟩,trivial⟩)
    ·rintro⟨k,x9,x10⟩ h;cases k with
     | zero=>cases h
     | succ k =>
      replace h:zAT (zA2 n) a2A a2B a3 (k+1) x9 x10=some fl:=h;rw[zAT]at h;refine zYV ?_;refine zAa ?_;refine zAg rfl h (fun hb h=>?_) (fun hb h=>?_)
      ·refine zAf ?_;refine zAa ?_;refine zAl ?_;refine zYV ?_;refine zAa ?_;obtain⟨⟨x12,x13⟩,hj,h⟩:=zAc h
       refine zAm ⟨ofL [(0,.op 0 0),(1,.s (.pt [.int .i64 a2A,.str a2C,.int .i64 a2D,.sl 4 (Nd.encs a2B)])),(2,.s (.int .i64 a3)),(34,.s (.int .i64 (a2B.length:Int))),(35,.s (.int .i64 x10)),(65,.s (.bool x12))],ofH [(0,.box 113 [.s (.str []),.s (.int .i64 0),.s (.nf),.s (.str [114,111,119]),.s (.int .i64 0),.s (.fn 94),.s (.str [115,121,109]),.s (.int .i64 0),.s (.fn 95),.s (.str [110,117,109]),.s (.int .i64 0),.s (.fn 96),.s (.str [116,101,120,116]),.s (.int .i64 0),.s (.fn 97),.s (.str [102,114,97,99]),.s (.int .i64 2),.s (.fn 94),.s (.str [114,111,111,116]),.s (.int .i64 2),.s (.fn 94),.s (.str [115,117,98]),.s (.int .i64 2),.s (.fn 94),.s (.str [115,117,112]),.s (.int .i64 2),.s (.fn 94),.s (.str [98,111,116,104]),.s (.int .i64 3),.s (.fn 94),.s (.str [97,99,99,101,110,116]),.s (.int .i64 1),.s (.fn 98),.s (.str [102,101,110,99,101]),.s (.int .i64 1),.s (.fn 99),.s (.str [109,97,116,114,105,120]),.s (.int .i64 0),.s (.fn 94),.s (.int .i64 x13)])],1⟩ ?_ (fun σ' hle=>?_)
       ·replace h:=hj;refine zAA [] [48,53,60] [25] rfl (by decide +kernel) ?_;obtain⟨⟨e14A,e14C,e14D,e14B⟩,he14,h⟩:=zAc h;refine And.intro (zAp Nd.encs_eq he14).1 ?_;intro r15 hr15;obtain rfl:[.int .i64 e14A,.str e14C,.int .i64 e14D,.sl 4 (Nd.encs e14B)]=r15:=(hr15.trans (zAp Nd.encs_eq he14).2.1).symm;intro b hb;cases b with
        | true =>
         replace h:=zAu hb.symm h;cases h;exact(Le.rnm [(0,0)] _ _ _ ⟨rfl,rfl,rfl,rfl,rfl,rfl,trivial⟩ ⟨rfl,⟨_,rfl,rfl⟩,trivial⟩)
        | false =>
         replace h:=zAt hb.symm h;obtain⟨⟨e16A,e16C,e16D,e16B⟩,he16,h⟩:=zAc h;refine And.intro (zAp Nd.encs_eq he16).1 ?_;intro r17 hr17;obtain rfl:[.int .i64 e16A,.str e16C,.int .i64 e16D,.sl 4 (Nd.encs e16B)]=r17:=(hr17.trans (zAp Nd.encs_eq he16).2.1).symm;obtain⟨⟨y18,⟨_,w19R⟩⟩,hy18,h⟩:=zAc h;refine⟨_,_,⟨_,_,_,_,_,hy18,rfl,rfl,rfl,rfl⟩,?_⟩
         cases h;exact(Le.rnm [(0,0)] _ _ _ ⟨rfl,rfl,rfl,rfl,rfl,rfl,trivial⟩ ⟨rfl,⟨_,rfl,rfl⟩,trivial⟩)
       ·refine zAh hle ?_;refine zAg rfl h (fun hb h=>?_) (fun hb h=>?_)
        ·refine zYV ?_;refine zAe ?_;cases h;replace h:some _=some _:=ho1;obtain⟨hj1,hk1⟩:=pij h;subst hj1 hk1;unfold zBN
         exact⟨_,(Le.rnm [(0,0)] [(6,.s (.bool false))] [(0,.box 113 [.s (.str []),.s (.int .i64 0),.s (.nf),.s (.str [114,111,119]),.s (.int .i64 0),.s (.fn 94),.s (.str [115,121,109]),.s (.int .i64 0),.s (.fn 95),.s (.str [110,117,109]),.s (.int .i64 0),.s (.fn 96),.s (.str [116,101,120,116]),.s (.int .i64 0),.s (.fn 97),.s (.str [102,114,97,99]),.s (.int .i64 2),.s (.fn 94),.s (.str [114,111,111,116]),.s (.int .i64 2),.s (.fn 94),.s (.str [115,117,98]),.s (.int .i64 2),.s (.fn 94),.s (.str [115,117,112]),.s (.int .i64 2),.s (.fn 94),.s (.str [98,111,116,104]),.s (.int .i64 3),.s (.fn 94),.s (.str [97,99,99,101,110,116]),.s (.int .i64 1),.s (.fn 98),.s (.str [102,101,110,99,101]),.s (.int .i64 1),.s (.fn 99),.s (.str [109,97,116,114,105,120]),.s (.int .i64 0),.s (.fn 94),.s (.int .i64 x13)])] 1 ⟨rfl,trivial⟩ ⟨rfl,⟨_,rfl,rfl⟩,trivial⟩),rfl,rfl,rfl,rfl,trivial⟩
        ·refine zAf ?_;refine zYU ?_;refine⟨(k,x13,IntKind.i64.wrap (x10+1)),h,(Le.rnm [(0,0)] _ _ _ ⟨rfl,rfl,rfl,rfl,rfl,trivial⟩ ⟨rfl,⟨_,rfl,rfl⟩,trivial⟩),Nat.lt_succ_self k⟩
      ·refine zAC ?_;cases h;exact⟨_,rfl,(Le.rnm [(0,0)] _ _ _ trivial ⟨rfl,⟨_,rfl,rfl⟩,trivial⟩)⟩
   ·subst hz;replace h:=ho1;refine zAh hle ?_;refine zYV ?_;refine zAe ?_;obtain⟨hj1,hk1⟩:=pij h;subst hj1 hk1;unfold zBN
    exact⟨_,(Le.rnm [(0,0)] [(6,.s (.bool true))] [(0,.box 113 [.s (.str []),.s (.int .i64 0),.s (.nf),.s (.str [114,111,119]),.s (.int .i64 0),.s (.fn 94),.s (.str [115,121,109]),.s (.int .i64 0),.s (.fn 95),.s (.str [110,117,109]),.s (.int .i64 0),.s (.fn 96),.s (.str [116,101,120,116]),.s (.int .i64 0),.s (.fn 97),.s (.str [102,114,97,99]),.s (.int .i64 2),.s (.fn 94),.s (.str [114,111,111,116]),.s (.int .i64 2),.s (.fn 94),.s (.str [115,117,98]),.s (.int .i64 2),.s (.fn 94),.s (.str [115,117,112]),.s (.int .i64 2),.s (.fn 94),.s (.str [98,111,116,104]),.s (.int .i64 3),.s (.fn 94),.s (.str [97,99,99,101,110,116]),.s (.int .i64 1),.s (.fn 98),.s (.str [102,101,110,99,101]),.s (.int .i64 1),.s (.fn 99),.s (.str [109,97,116,114,105,120]),.s (.int .i64 0),.s (.fn 94),.s (.int .i64 x11)])] 1 ⟨rfl,trivial⟩ ⟨rfl,⟨_,rfl,rfl⟩,trivial⟩),rfl,rfl,rfl,rfl,trivial⟩
theorem zHY:∀ n,PSound Tryz.prog 65 (zD5 (zCa n)):=by
 intro n
 induction n with
 | zero=>exact zSI Tryz.call65 (fun xs os x os' h=>by obtain⟨_,_,_,_,_,h,_⟩:=h; cases h) _
 | succ n ih=>exact zHO n ih
def zF1:zAq:=zD5 (fun xs os x os'=>∃ n,zCa n xs os x os')
theorem zIQ:PSound Tryz.prog 65 zF1:=zUB zHY _
def zP6 (n:Nat) (xs:List AV) (r:Ret):Prop:=∃ (a0:Nd) (y0:Bool),zA8 n a0=some y0/\xs=[.agg ((Nd.enc a0).map .s)]/\r = .val (.s (.bool y0))
def zDj:zAq:=zAs fun xs r=>∃ n,zP6 n xs r
theorem zDR:PSound Tryz.prog 38 zDj:=by
 have gok:∀ f s,look? f [(64,zKU),(65,zF1)]=some s->PSound Tryz.prog f s:=zAo (by
  simp only[List.forall_mem_cons]
  exact⟨zPs,zIQ,by simp⟩)
 refine zAr tokW Tryz.call38 Tryz.func38 rfl (fun xs r h=>by obtain⟨n,_,_,_,rfl,_⟩:=h; show 1<=14; decide) 14 rfl ?_;rintro xs r w0 G0 ⟨n,⟨n1A,n1C,n1D,n1B⟩,y0,h,rfl,rfl⟩ _;rw[zA8]at h;refine zYV ?_;refine zYf [6] [] rfl ?_;obtain⟨_,hy2,h⟩:=zAc h;refine⟨_,⟨_,hy2,rfl,rfl⟩,?_⟩
 refine zAa ?_;obtain⟨x3,hj,h⟩:=zAc h;refine zAm ⟨ofL [(2,.s (.bool x3))],fun _=>none,0⟩ ?_ (fun σ' hle=>?_)
 ·replace h:=hj;refine zAb [] [10] rfl ?_;intro b hb;cases b with
  | true =>
   replace h:=zAu hb.symm h;obtain⟨⟨y4,⟨_,w5R⟩⟩,hy4,h⟩:=zAc h;refine⟨_,_,⟨_,_,_,_,_,_,hy4,rfl,rfl,rfl,rfl⟩,?_⟩
   cases h;exact(Le.rnm [] _ [] 0 ⟨rfl,trivial⟩ trivial)
  | false =>
   replace h:=zAt hb.symm h;cases h;exact(Le.rnm [] _ [] 0 ⟨rfl,trivial⟩ trivial)
 ·refine zAh hle ?_;refine zAe ?_;have hy:=osi h;subst hy;exact fin0 rfl rfl
def zKt (n:Nat) (xs:List AV) (r:Ret):Prop:=∃ (a0:List Nd) (y0:Bool),zB9 n a0=some y0/\xs=[.s (.sl 4 (Nd.encs a0))]/\r = .val (.s (.bool y0))
def zEK:zAq:=zAs fun xs r=>∃ n,zKt n xs r
theorem zGA:PSound Tryz.prog 118 zEK:=by
 have gok:∀ f s,look? f [(38,zDj)]=some s->PSound Tryz.prog f s:=zAo (by
  simp only[List.forall_mem_cons]
  exact⟨zDR,by simp⟩)
 refine zAr tokW Tryz.call118 Tryz.func118 rfl (fun xs r h=>by obtain⟨n,_,_,_,rfl,_⟩:=h; show 1<=6; decide) 6 rfl ?_;rintro xs r w0 G0 ⟨n,l1,y0,h,rfl,rfl⟩ _;rw[zB9]at h;refine zYV ?_;refine zYV ?_;obtain⟨y2,hy2,h⟩:=zAc h;refine⟨_,⟨_,_,_,hy2,rfl,rfl⟩,?_⟩
 refine zAe ?_;have hy:=osi h;subst hy;exact fin0 rfl rfl
def zP5 (xs:List AV) (r:Ret):Prop:=∃ (a0:Nd) (y0:Int),zDp a0=some y0/\xs=[.agg ((Nd.enc a0).map .s)]/\r = .val (.s (.int .i64 y0))
def zGv:zAq:=zAs fun xs r=>zP5 xs r
theorem zHx:PSound Tryz.prog 142 zGv:=by
 have gok:=@gok0 Tryz.prog;refine zAr tokW Tryz.call142 Tryz.func142 rfl (fun xs r h=>by obtain⟨_,_,_,rfl,_⟩:=h; show 1<=9; decide) 9 rfl ?_;rintro xs r w0 G0 ⟨⟨n1A,n1C,n1D,n1B⟩,y0,h,rfl,rfl⟩ _;rw[zDp]at h;refine zYV ?_;refine zAa ?_;refine zYV ?_;refine zAg rfl h (fun hb h=>?_) (fun hb h=>?_)
 ·refine zYV ?_;refine zAe ?_;have hy:=osi h;subst hy;exact fin0 rfl rfl
 ·refine zAf ?_;refine zYf [] [8] rfl ?_;intro n2 hn2;obtain rfl:(n1B.length:Int)=n2:=(hn2.trans (congrArg (fun m:Nat=>(m:Int)) (rlen Nd.encs_eq n1B))).symm;refine zAe ?_;have hy:=osi h;subst hy;exact fin0 rfl rfl
def zQb (xs:List AV) (r:Ret):Prop:=∃ (a0:Int) (y0:Bool),zEn a0=some y0/\xs=[.s (.int .u8 a0)]/\r = .val (.s (.bool y0))
def zHT:zAq:=zAs fun xs r=>zQb xs r
theorem zKc:PSound Tryz.prog 135 zHT:=by
 have gok:=@gok0 Tryz.prog;refine zAr tokW Tryz.call135 Tryz.func135 rfl (fun xs r h=>by obtain⟨_,_,_,rfl,_⟩:=h; show 1<=17; decide) 17 rfl ?_;rintro xs r w0 G0 ⟨c1,y0,h,rfl,rfl⟩ _;rw[zEn]at h;refine zYV ?_;refine zAa ?_;obtain⟨x2,hj,h⟩:=zAc h;refine zAm ⟨ofL [(2,.s (.bool x2))],fun _=>none,0⟩ ?_ (fun σ' hle=>?_)
 ·replace h:=hj;refine zAb [] [5,9,12] rfl ?_;intro b hb;cases b with
  | true =>
   replace h:=zAu hb.symm h;intro b hb;cases b with
   | true =>
    replace h:=zAu hb.symm h;cases h;exact(Le.forget _ ⟨rfl,trivial⟩)
   | false =>
    replace h:=zAt hb.symm h;intro b hb;cases b with
    | true =>
     replace h:=zAu hb.symm h;cases h;exact(Le.forget _ ⟨rfl,trivial⟩)
    | false =>
     replace h:=zAt hb.symm h;cases h;exact(Le.forget _ ⟨rfl,trivial⟩)
  | false =>
   replace h:=zAt hb.symm h;intro b hb;subst hb;intro b hb;cases b with
   | true =>
    replace h:=zAu hb.symm h;cases h;exact(Le.forget _ ⟨rfl,trivial⟩)
   | false =>
    replace h:=zAt hb.symm h;cases h;exact(Le.forget _ ⟨rfl,trivial⟩)
 ·refine zAh hle ?_;refine zAe ?_;have hy:=osi h;subst hy;exact fin0 rfl rfl
def zUW (n:Nat) (xs:List AV) (r:Ret):Prop:=∃ (a0:List UInt8) (a1:Int) (y0:Bool),zDs n a0 a1=some y0/\xs=[.s (.str a0),.s (.int .u8 a1)]/\r = .val (.s (.bool y0))
def zL3:zAq:=zAs fun xs r=>∃ n,zUW n xs r
theorem zOk:PSound Tryz.prog 107 zL3:=by
 have gok:=@gok0 Tryz.prog;refine zAr tokW Tryz.call107 Tryz.func107 rfl (fun xs r h=>by obtain⟨n,_,_,_,_,rfl,_⟩:=h; show 2<=17; decide) 17 rfl ?_;rintro xs r w0 G0 ⟨n,s1,c2,y0,h,rfl,rfl⟩ _;rw[zDs]at h;refine zYV ?_;refine zAa ?_;refine zYV ?_;show Tri ..;obtain⟨fl,hl,ho1⟩:=zAc h;refine zBA (fl:=fl) (fun z=>match z with | _=>⟨ofL [],fun _=>none,0⟩) ?_ (fun z σ' hz hle=>?_)
 ·refine zAl (zAy (X:=Nat×Int) (fun y=>match y with | (k,i3)=>⟨ofL [(0,.s (.str s1)),(1,.s (.int .u8 c2)),(5,.s (.int .i64 i3))],fun _=>none,0⟩) (fun y=>zCL s1 c2 y.1 y.2=some fl) (fun y=>y.1) (n,0) hl ?_ ?_)
  ·exact(Le.forget _ ⟨rfl,rfl,rfl,trivial⟩)
  ·rintro⟨k,i3⟩ h;cases k with
   | zero=>cases h
   | succ k =>
    replace h:zCL s1 c2 (k+1) i3=some fl:=h;rw[zCL]at h;refine zAa ?_;refine zYV ?_;refine zAg rfl h (fun hb h=>?_) (fun hb h=>?_)
    ·refine zAf ?_;refine zAa ?_;refine zAl ?_;refine zYf [] [14] rfl ?_;obtain⟨c4,hc4,h⟩:=zAc h;refine And.intro (zB7 hc4).1 ?_;intro v5 hv5;obtain rfl:(c4.toNat:Int)=v5:=(hv5.trans (zB7 hc4).2).symm;refine zAg rfl h (fun hb h=>?_) (fun hb h=>?_)
     ·refine zYV ?_;refine zAe ?_;cases h;replace h:some _=some _:=ho1;have hy:=osi h;subst hy;exact fin0 rfl rfl
     ·refine zAf ?_;refine zYU ?_;refine⟨(k,IntKind.i64.wrap (i3+1)),h,(Le.forget _ ⟨rfl,rfl,rfl,trivial⟩),Nat.lt_succ_self k⟩
    ·refine zAC ?_;cases h;exact⟨_,rfl,(Le.forget _ trivial)⟩
 ·subst hz;obtain _:=z;replace h:=ho1;refine zAh hle ?_;refine zYV ?_;refine zAe ?_;have hy:=osi h;subst hy;exact fin0 rfl rfl
def zLU (n:Nat) (xs:List AV) (r:Ret):Prop:=∃ (a0:Int) (y0:Bool),zEA n a0=some y0/\xs=[.s (.int .u8 a0)]/\r = .val (.s (.bool y0))
def zHS:zAq:=zAs fun xs r=>∃ n,zLU n xs r
theorem zLC:PSound Tryz.prog 134 zHS:=by
 have gok:∀ f s,look? f [(135,zHT),(107,zL3)]=some s->PSound Tryz.prog f s:=zAo (by
  simp only[List.forall_mem_cons]
  exact⟨zKc,zOk,by simp⟩)
 refine zAr tokW Tryz.call134 Tryz.func134 rfl (fun xs r h=>by obtain⟨n,_,_,_,rfl,_⟩:=h; show 1<=9; decide) 9 rfl ?_;rintro xs r w0 G0 ⟨n,c1,y0,h,rfl,rfl⟩ _;rw[zEA]at h;refine zYV ?_;refine zAa ?_;obtain⟨x2,hj,h⟩:=zAc h;refine zAm ⟨ofL [(2,.s (.bool x2))],fun _=>none,0⟩ ?_ (fun σ' hle=>?_)
 ·replace h:=hj;refine zAb [] [5] rfl ?_;obtain⟨y3,hy3,h⟩:=zAc h;refine⟨_,⟨_,_,hy3,rfl,rfl⟩,?_⟩
  intro b hb;cases b with
  | true =>
   replace h:=zAu hb.symm h;cases h;exact(Le.forget _ ⟨rfl,trivial⟩)
  | false =>
   replace h:=zAt hb.symm h;obtain⟨y4,hy4,h⟩:=zAc h;refine⟨_,⟨_,_,_,_,hy4,rfl,rfl⟩,?_⟩
   cases h;exact(Le.forget _ ⟨rfl,trivial⟩)
 ·refine zAh hle ?_;refine zAe ?_;have hy:=osi h;subst hy;exact fin0 rfl rfl
def zBy (p:List UInt8):List S:=[.str p]
def zNe (xs:List AV) (r:Ret):Prop:=∃ (y0:List (List UInt8)),zE4=some y0/\xs=[]/\r = .val (.s (.sl 1 ((List.map zBy) y0)))
def zI0:zAq:=zAs fun xs r=>zNe xs r
theorem zYE {α:Type}{a b:α} (h:a=b:=by simp[List.map_append,List.map_take,List.map_drop,irow,brow,zEw,List.map_cons,List.map_nil,zD1,Nd.encs_eq,Nd.enc,zA4,zAK,zBy]):a=b :=
 h
theorem zMG:PSound Tryz.prog 136 zI0:=by
 have gok:=@gok0 Tryz.prog;refine zAr tokW Tryz.call136 Tryz.func136 rfl (fun xs r h=>by obtain⟨_,_,rfl,_⟩:=h; show 0<=2; decide) 2 rfl ?_;rintro xs r w0 G0 ⟨y0,h,rfl,rfl⟩ _;rw[zE4]at h;refine zYV ?_;refine zYf [] [1] rfl ?_;intro r1 hr1;obtain rfl:(List.map zBy) [[102,114,97,99],[114,111,111,116],[109,97,116,114,105,120],[102,101,110,99,101]]=r1:=(hr1.trans zYE).symm
 refine zAe ?_;have hy:=osi h;subst hy;exact fin0 rfl rfl
def zWm (n:Nat) (xs:List AV) (r:Ret):Prop:=∃ (a0:List (List UInt8)) (a1:List UInt8) (y0:Bool),zE3 n a0 a1=some y0/\xs=[.s (.sl 1 ((List.map zBy) a0)),.s (.str a1)]/\r = .val (.s (.bool y0))
def zOZ:zAq:=zAs fun xs r=>∃ n,zWm n xs r
theorem zRk:PSound Tryz.prog 105 zOZ:=by
 have gok:=@gok0 Tryz.prog;refine zAr tokW Tryz.call105 Tryz.func105 rfl (fun xs r h=>by obtain⟨n,_,_,_,_,rfl,_⟩:=h; show 2<=18; decide) 18 rfl ?_;rintro xs r w0 G0 ⟨n,l1,s2,y0,h,rfl,rfl⟩ _;rw[zE3]at h;refine zYV ?_;refine zAa ?_;refine zYV ?_;show Tri ..;obtain⟨fl,hl,ho1⟩:=zAc h;refine zBA (fl:=fl) (fun z=>match z with | _=>⟨ofL [],fun _=>none,0⟩) ?_ (fun z σ' hz hle=>?_)
 ·refine zAl (zAy (X:=Nat×Int) (fun y=>match y with | (k,i3)=>⟨ofL [(0,.s (.sl 1 ((List.map zBy) l1))),(1,.s (.str s2)),(5,.s (.int .i64 i3))],fun _=>none,0⟩) (fun y=>zDq l1 s2 y.1 y.2=some fl) (fun y=>y.1) (n,0) hl ?_ ?_)
  ·exact(Le.forget _ ⟨rfl,rfl,rfl,trivial⟩)
  ·rintro⟨k,i3⟩ h;cases k with
   | zero=>cases h
   | succ k =>
    replace h:zDq l1 s2 (k+1) i3=some fl:=h;rw[zDq]at h;refine zAa ?_;refine zYf [] [8] rfl ?_;intro n4 hn4;obtain rfl:(l1.length:Int)=n4:=(hn4.trans (congrArg (fun m:Nat=>(m:Int)) (rlen (fun _=>rfl) l1))).symm;refine zAg rfl h (fun hb h=>?_) (fun hb h=>?_)
    ·refine zAf ?_;refine zAa ?_;refine zAl ?_;refine zYf [] [14] rfl ?_;obtain⟨e5,he5,h⟩:=zAc h;refine And.intro (zAp (fun _=>rfl) he5).1 ?_;intro r6 hr6;obtain rfl:[.str e5]=r6:=(hr6.trans (zAp (fun _=>rfl) he5).2.1).symm;refine zAg rfl h (fun hb h=>?_) (fun hb h=>?_)
     ·refine zYV ?_;refine zAe ?_;cases h;replace h:some _=some _:=ho1;have hy:=osi h;subst hy;exact fin0 rfl rfl
     ·refine zAf ?_;refine zYU ?_;refine⟨(k,IntKind.i64.wrap (i3+1)),h,(Le.forget _ ⟨rfl,rfl,rfl,trivial⟩),Nat.lt_succ_self k⟩
    ·refine zAC ?_;cases h;exact⟨_,rfl,(Le.forget _ trivial)⟩
 ·subst hz;obtain _:=z;replace h:=ho1;refine zAh hle ?_;refine zYV ?_;refine zAe ?_;have hy:=osi h;subst hy;exact fin0 rfl rfl
def zOT (xs:List AV) (r:Ret):Prop:=∃ (y0:List (List UInt8)),zDK=some y0/\xs=[]/\r = .val (.s (.sl 1 ((List.map zBy) y0)))
def zHn:zAq:=zAs fun xs r=>zOT xs r
theorem zJa:PSound Tryz.prog 106 zHn:=by
 have gok:=@gok0 Tryz.prog;refine zAr tokW Tryz.call106 Tryz.func106 rfl (fun xs r h=>by obtain⟨_,_,rfl,_⟩:=h; show 0<=2; decide) 2 rfl ?_;rintro xs r w0 G0 ⟨y0,h,rfl,rfl⟩ _;rw[zDK]at h;refine zYV ?_;refine zYf [] [1] rfl ?_;intro r1 hr1
 obtain rfl:(List.map zBy) [[104,97,116],[98,97,114],[118,101,99],[100,111,116],[116,105,108,100,101],[99,104,101,99,107]]=r1:=(hr1.trans zYE).symm;refine zAe ?_;have hy:=osi h;subst hy;exact fin0 rfl rfl
def zQd (n:Nat) (xs:List AV) (r:Ret):Prop:=∃ (a0:List UInt8) (y0:Bool),zFj n a0=some y0/\xs=[.s (.str a0)]/\r = .val (.s (.bool y0))
def zKX:zAq:=zAs fun xs r=>∃ n,zQd n xs r
theorem zPv:PSound Tryz.prog 102 zKX:=by
 have gok:∀ f s,look? f [(134,zHS),(135,zHT),(136,zI0),(105,zOZ),(106,zHn)]=some s->PSound Tryz.prog f s:=zAo (by
  simp only[List.forall_mem_cons]
  exact⟨zLC,zKc,zMG,zRk,zJa,by simp⟩)
 refine zAr tokW Tryz.call102 Tryz.func102 rfl (fun xs r h=>by obtain⟨n,_,_,_,rfl,_⟩:=h; show 1<=41; decide) 41 rfl ?_;rintro xs r w0 G0 ⟨n,s1,y0,h,rfl,rfl⟩ _;rw[zFj]at h;refine zYV ?_;refine zAa ?_;refine zYV ?_;refine zAg rfl h (fun hb h=>?_) (fun hb h=>?_)
 ·refine zYf [] [8] rfl ?_;obtain⟨c2,hc2,h⟩:=zAc h;refine And.intro (zB7 hc2).1 ?_;intro v3 hv3;obtain rfl:(c2.toNat:Int)=v3:=(hv3.trans (zB7 hc2).2).symm;obtain⟨y4,hy4,h⟩:=zAc h;refine⟨_,⟨_,_,_,hy4,rfl,rfl⟩,?_⟩
  refine zAe ?_;have hy:=osi h;subst hy;exact fin0 rfl rfl
 ·refine zAf ?_;refine zAa ?_;refine zYV ?_;show Tri ..;obtain⟨fl,hl,ho1⟩:=zAc h;refine zBA (fl:=fl) (fun z=>match z with | _=>⟨ofL [(0,.s (.str s1))],fun _=>none,0⟩) ?_ (fun z σ' hz hle=>?_)
  ·refine zAl (zAy (X:=Nat×Int) (fun y=>match y with | (k,i5)=>⟨ofL [(0,.s (.str s1)),(3,.s (.int .i64 i5))],fun _=>none,0⟩) (fun y=>zBx s1 y.1 y.2=some fl) (fun y=>y.1) (n,0) hl ?_ ?_)
   ·exact(Le.forget _ ⟨rfl,rfl,trivial⟩)
   ·rintro⟨k,i5⟩ h;cases k with
    | zero=>cases h
    | succ k =>
     replace h:zBx s1 (k+1) i5=some fl:=h;rw[zBx]at h;refine zAa ?_;refine zYV ?_;refine zAg rfl h (fun hb h=>?_) (fun hb h=>?_)
     ·refine zAf ?_;refine zAa ?_;refine zAl ?_;refine zYf [] [18] rfl ?_;obtain⟨c6,hc6,h⟩:=zAc h;refine And.intro (zB7 hc6).1 ?_;intro v7 hv7;obtain rfl:(c6.toNat:Int)=v7:=(hv7.trans (zB7 hc6).2).symm;obtain⟨y8,hy8,h⟩:=zAc h;refine⟨_,⟨_,_,hy8,rfl,rfl⟩,?_⟩
      refine zAg rfl h (fun hb h=>?_) (fun hb h=>?_)
      ·refine zYV ?_;refine zAe ?_;cases h;replace h:some _=some _:=ho1;have hy:=osi h;subst hy;exact fin0 rfl rfl
      ·refine zAf ?_;refine zYU ?_;refine⟨(k,IntKind.i64.wrap (i5+1)),h,(Le.forget _ ⟨rfl,rfl,trivial⟩),Nat.lt_succ_self k⟩
     ·refine zAC ?_;cases h;exact⟨_,rfl,(Le.forget _ ⟨rfl,trivial⟩)⟩
  ·subst hz;obtain _:=z;replace h:=ho1;refine zAh hle ?_;refine zAa ?_;obtain⟨x9,hj,h⟩:=zAc h;refine zAm ⟨ofL [(2,.s (.bool x9))],fun _=>none,0⟩ ?_ (fun σ' hle=>?_)
   ·replace h:=hj;refine zAb [] [24,29,35] rfl ?_;intro b hb;cases b with
    | true =>
     replace h:=zAu hb.symm h;intro b hb;cases b with
     | true =>
      replace h:=zAu hb.symm h;obtain⟨y10,hy10,h⟩:=zAc h;refine⟨_,⟨_,hy10,rfl,rfl⟩,?_⟩
      obtain⟨y11,hy11,h⟩:=zAc h;refine⟨_,⟨_,_,_,_,hy11,rfl,rfl⟩,?_⟩
      intro b hb;cases b with
      | true =>
       replace h:=zAu hb.symm h;obtain⟨y12,hy12,h⟩:=zAc h;refine⟨_,⟨_,hy12,rfl,rfl⟩,?_⟩
       obtain⟨y13,hy13,h⟩:=zAc h;refine⟨_,⟨_,_,_,_,hy13,rfl,rfl⟩,?_⟩
       cases h;exact(Le.forget _ ⟨rfl,trivial⟩)
      | false =>
       replace h:=zAt hb.symm h;cases h;exact(Le.forget _ ⟨rfl,trivial⟩)
     | false =>
      replace h:=zAt hb.symm h;intro b hb;subst hb;cases h;exact(Le.forget _ ⟨rfl,trivial⟩)
    | false =>
     replace h:=zAt hb.symm h;intro b hb;subst hb;intro b hb;subst hb;cases h;exact(Le.forget _ ⟨rfl,trivial⟩)
   ·refine zAh hle ?_;refine zAe ?_;have hy:=osi h;subst hy;exact fin0 rfl rfl
def zRV (xs:List AV) (r:Ret):Prop:=∃ (a0:Int) (y0:Bool),zGc a0=some y0/\xs=[.s (.int .u8 a0)]/\r = .val (.s (.bool y0))
def zL2:zAq:=zAs fun xs r=>zRV xs r
theorem zRj:PSound Tryz.prog 137 zL2:=by
 have gok:=@gok0 Tryz.prog;refine zAr tokW Tryz.call137 Tryz.func137 rfl (fun xs r h=>by obtain⟨_,_,_,rfl,_⟩:=h; show 1<=9; decide) 9 rfl ?_;rintro xs r w0 G0 ⟨c1,y0,h,rfl,rfl⟩ _;rw[zGc]at h;refine zYV ?_;refine zAa ?_;obtain⟨x2,hj,h⟩:=zAc h;refine zAm ⟨ofL [(2,.s (.bool x2))],fun _=>none,0⟩ ?_ (fun σ' hle=>?_)
 ·replace h:=hj;refine zAb [] [5] rfl ?_;intro b hb;cases b with
  | true =>
   replace h:=zAu hb.symm h;cases h;exact(Le.forget _ ⟨rfl,trivial⟩)
  | false =>
   replace h:=zAt hb.symm h;cases h;exact(Le.forget _ ⟨rfl,trivial⟩)
 ·refine zAh hle ?_;refine zAe ?_;have hy:=osi h;subst hy;exact fin0 rfl rfl
def zQc (n:Nat) (xs:List AV) (r:Ret):Prop:=∃ (a0:List UInt8) (y0:Bool),zFh n a0=some y0/\xs=[.s (.str a0)]/\r = .val (.s (.bool y0))
def zKW:zAq:=zAs fun xs r=>∃ n,zQc n xs r
theorem zPu:PSound Tryz.prog 103 zKW:=by
 have gok:∀ f s,look? f [(137,zL2)]=some s->PSound Tryz.prog f s:=zAo (by
  simp only[List.forall_mem_cons]
  exact⟨zRj,by simp⟩)
 refine zAr tokW Tryz.call103 Tryz.func103 rfl (fun xs r h=>by obtain⟨n,_,_,_,rfl,_⟩:=h; show 1<=45; decide) 45 rfl ?_;rintro xs r w0 G0 ⟨n,s1,y0,h,rfl,rfl⟩ _;rw[zFh]at h;refine zYV ?_;refine zYV ?_;refine zAa ?_;refine zYV ?_;show Tri ..;obtain⟨fl,hl,ho1⟩:=zAc h;refine zBA (fl:=fl) (fun z=>match z with | points4=>⟨ofL [(0,.s (.str s1)),(3,.s (.int .i64 points4))],fun _=>none,0⟩) ?_ (fun points4 σ' hz hle=>?_)
 ·refine zAl (zAy (X:=Nat×Int×Int) (fun y=>match y with | (k,points2,i3)=>⟨ofL [(0,.s (.str s1)),(3,.s (.int .i64 points2)),(4,.s (.int .i64 i3))],fun _=>none,0⟩) (fun y=>zCc s1 y.1 y.2.1 y.2.2=some fl) (fun y=>y.1) (n,0,0) hl ?_ ?_)
  ·exact(Le.forget _ ⟨rfl,rfl,rfl,trivial⟩)
  ·rintro⟨k,points2,i3⟩ h;cases k with
   | zero=>cases h
   | succ k =>
    replace h:zCc s1 (k+1) points2 i3=some fl:=h;rw[zCc]at h;refine zAa ?_;refine zYV ?_;refine zAg rfl h (fun hb h=>?_) (fun hb h=>?_)
    ·refine zAf ?_;refine zAa ?_;obtain⟨fl,hj,ho2⟩:=zAc h;refine zBA (fl:=fl) (fun z=>match z with | points5=>⟨ofL [(0,.s (.str s1)),(3,.s (.int .i64 points5)),(4,.s (.int .i64 i3))],fun _=>none,0⟩) ?_ (fun points5 σ' hz hle=>?_)
     ·replace h:=hj;refine zAl ?_;refine zAa ?_;obtain⟨x6,hj,h⟩:=zAc h;refine zAm ⟨ofL [(0,.s (.str s1)),(3,.s (.int .i64 points2)),(4,.s (.int .i64 i3)),(25,.s (.bool x6))],fun _=>none,0⟩ ?_ (fun σ' hle=>?_)
      ·replace h:=hj;refine zAb [] [13,15,19] rfl ?_;obtain⟨c7,hc7,h⟩:=zAc h;refine And.intro (zB7 hc7).1 ?_;intro v8 hv8;obtain rfl:(c7.toNat:Int)=v8:=(hv8.trans (zB7 hc7).2).symm;intro b hb;cases b with
       | true =>
        replace h:=zAu hb.symm h;intro b hb;cases b with
        | true =>
         replace h:=zAu hb.symm h;cases h;exact(Le.forget _ ⟨rfl,rfl,rfl,rfl,trivial⟩)
        | false =>
         replace h:=zAt hb.symm h;cases h;exact(Le.forget _ ⟨rfl,rfl,rfl,rfl,trivial⟩)
       | false =>
        replace h:=zAt hb.symm h;intro b hb;subst hb;cases h;exact(Le.forget _ ⟨rfl,rfl,rfl,rfl,trivial⟩)
      ·refine zAh hle ?_;refine zAg rfl h (fun hb h=>?_) (fun hb h=>?_)
       ·refine zYU ?_;cases h;exact⟨_,rfl,(Le.forget _ ⟨rfl,rfl,rfl,trivial⟩)⟩
       ·refine zYf [] [30] rfl ?_;obtain⟨c9,hc9,h⟩:=zAc h;refine And.intro (zB7 hc9).1 ?_;intro v10 hv10;obtain rfl:(c9.toNat:Int)=v10:=(hv10.trans (zB7 hc9).2).symm;obtain⟨y11,hy11,h⟩:=zAc h;refine⟨_,⟨_,_,hy11,rfl,rfl⟩,?_⟩
        refine zAg rfl h (fun hb h=>?_) (fun hb h=>?_)
        ·refine zYV ?_;refine zAe ?_;cases h;replace h:some _=some _:=ho2;cases h;replace h:some _=some _:=ho1;have hy:=osi h;subst hy;exact fin0 rfl rfl
        ·refine zAf ?_;cases h;exact⟨_,rfl,(Le.forget _ ⟨rfl,rfl,rfl,trivial⟩)⟩
     ·subst hz;replace h:=ho2;refine zAh hle ?_;refine zYU ?_;refine⟨(k,points5,IntKind.i64.wrap (i3+1)),h,(Le.forget _ ⟨rfl,rfl,rfl,trivial⟩),Nat.lt_succ_self k⟩
    ·refine zAC ?_;cases h;exact⟨_,rfl,(Le.forget _ ⟨rfl,rfl,trivial⟩)⟩
 ·subst hz;replace h:=ho1;refine zAh hle ?_;refine zAa ?_;obtain⟨x12,hj,h⟩:=zAc h;refine zAm ⟨ofL [(2,.s (.bool x12))],fun _=>none,0⟩ ?_ (fun σ' hle=>?_)
  ·replace h:=hj;refine zAb [] [36,41] rfl ?_;intro b hb;cases b with
   | true =>
    replace h:=zAu hb.symm h;intro b hb;cases b with
    | true =>
     replace h:=zAu hb.symm h;cases h;exact(Le.forget _ ⟨rfl,trivial⟩)
    | false =>
     replace h:=zAt hb.symm h;cases h;exact(Le.forget _ ⟨rfl,trivial⟩)
   | false =>
    replace h:=zAt hb.symm h;intro b hb;subst hb;cases h;exact(Le.forget _ ⟨rfl,trivial⟩)
  ·refine zAh hle ?_;refine zAe ?_;have hy:=osi h;subst hy;exact fin0 rfl rfl
def zLV (n:Nat) (xs:List AV) (r:Ret):Prop:=∃ (a0:List UInt8) (y0:Bool),zDr n a0=some y0/\xs=[.s (.str a0)]/\r = .val (.s (.bool y0))
def zHU:zAq:=zAs fun xs r=>∃ n,zLV n xs r
theorem zLD:PSound Tryz.prog 104 zHU:=by
 have gok:=@gok0 Tryz.prog;refine zAr tokW Tryz.call104 Tryz.func104 rfl (fun xs r h=>by obtain⟨n,_,_,_,rfl,_⟩:=h; show 1<=20; decide) 20 rfl ?_;rintro xs r w0 G0 ⟨n,s1,y0,h,rfl,rfl⟩ _;rw[zDr]at h;refine zYV ?_;refine zAa ?_;refine zYV ?_;show Tri ..;obtain⟨fl,hl,ho1⟩:=zAc h;refine zBA (fl:=fl) (fun z=>match z with | _=>⟨ofL [],fun _=>none,0⟩) ?_ (fun z σ' hz hle=>?_)
 ·refine zAl (zAy (X:=Nat×Int) (fun y=>match y with | (k,i2)=>⟨ofL [(0,.s (.str s1)),(3,.s (.int .i64 i2))],fun _=>none,0⟩) (fun y=>zBk s1 y.1 y.2=some fl) (fun y=>y.1) (n,0) hl ?_ ?_)
  ·exact(Le.forget _ ⟨rfl,rfl,trivial⟩)
  ·rintro⟨k,i2⟩ h;cases k with
   | zero=>cases h
   | succ k =>
    replace h:zBk s1 (k+1) i2=some fl:=h;rw[zBk]at h;refine zAa ?_;refine zYV ?_;refine zAg rfl h (fun hb h=>?_) (fun hb h=>?_)
    ·refine zAf ?_;refine zAa ?_;refine zAl ?_;refine zAa ?_;obtain⟨x3,hj,h⟩:=zAc h;refine zAm ⟨ofL [(0,.s (.str s1)),(3,.s (.int .i64 i2)),(19,.s (.bool x3))],fun _=>none,0⟩ ?_ (fun σ' hle=>?_)
     ·replace h:=hj;refine zAb [] [12,14,17] rfl ?_;obtain⟨c4,hc4,h⟩:=zAc h;refine And.intro (zB7 hc4).1 ?_;intro v5 hv5;obtain rfl:(c4.toNat:Int)=v5:=(hv5.trans (zB7 hc4).2).symm;intro b hb;cases b with
      | true =>
       replace h:=zAu hb.symm h;cases h;exact(Le.forget _ ⟨rfl,rfl,rfl,trivial⟩)
      | false =>
       replace h:=zAt hb.symm h;obtain⟨c6,hc6,h⟩:=zAc h;refine And.intro (zB7 hc6).1 ?_;intro v7 hv7;obtain rfl:(c6.toNat:Int)=v7:=(hv7.trans (zB7 hc6).2).symm;cases h;exact(Le.forget _ ⟨rfl,rfl,rfl,trivial⟩)
     ·refine zAh hle ?_;refine zAg rfl h (fun hb h=>?_) (fun hb h=>?_)
      ·refine zYV ?_;refine zAe ?_;cases h;replace h:some _=some _:=ho1;have hy:=osi h;subst hy;exact fin0 rfl rfl
      ·refine zAf ?_;refine zYU ?_;refine⟨(k,IntKind.i64.wrap (i2+1)),h,(Le.forget _ ⟨rfl,rfl,trivial⟩),Nat.lt_succ_self k⟩
    ·refine zAC ?_;cases h;exact⟨_,rfl,(Le.forget _ trivial)⟩
 ·subst hz;obtain _:=z;replace h:=ho1;refine zAh hle ?_;refine zYV ?_;refine zAe ?_;have hy:=osi h;subst hy;exact fin0 rfl rfl
def zTR (n:Nat) (xs:List AV) (r:Ret):Prop:=∃ (a0:Nd) (y0:Bool),zG7 n a0=some y0/\xs=[.agg ((Nd.enc a0).map .s)]/\r = .val (.s (.bool y0))
def zNO:zAq:=zAs fun xs r=>∃ n,zTR n xs r
theorem zSw:PSound Tryz.prog 68 zNO:=by
 have gok:∀ f s,look? f [(102,zKX),(103,zKW),(104,zHU),(106,zHn),(105,zOZ),(107,zL3)]=some s->PSound Tryz.prog f s:=zAo (by
  simp only[List.forall_mem_cons]
  exact⟨zPv,zPu,zLD,zJa,zRk,zOk,by simp⟩)
 refine zAr tokW Tryz.call68 Tryz.func68 rfl (fun xs r h=>by obtain⟨n,_,_,_,rfl,_⟩:=h; show 1<=53; decide) 53 rfl ?_;rintro xs r w0 G0 ⟨n,⟨n1A,n1C,n1D,n1B⟩,y0,h,rfl,rfl⟩ _;rw[zG7]at h;refine zYV ?_;refine zAa ?_;refine zYV ?_;refine zAl ?_;refine zYV ?_;refine zAg rfl h (fun hb h=>?_) (fun hb h=>?_)
 ·refine zYV ?_;obtain⟨y2,hy2,h⟩:=zAc h;refine⟨_,⟨_,_,_,hy2,rfl,rfl⟩,?_⟩
  refine zAe ?_;have hy:=osi h;subst hy;exact fin0 rfl rfl
 ·refine zYV ?_;refine zAg rfl h (fun hb h=>?_) (fun hb h=>?_)
  ·refine zYV ?_;obtain⟨y3,hy3,h⟩:=zAc h;refine⟨_,⟨_,_,_,hy3,rfl,rfl⟩,?_⟩
   refine zAe ?_;have hy:=osi h;subst hy;exact fin0 rfl rfl
  ·refine zYV ?_;refine zAg rfl h (fun hb h=>?_) (fun hb h=>?_)
   ·refine zAa ?_;obtain⟨x4,hj,h⟩:=zAc h;refine zAm ⟨ofL [(2,.s (.bool x4))],fun _=>none,0⟩ ?_ (fun σ' hle=>?_)
    ·replace h:=hj;refine zAb [] [21] rfl ?_;intro b hb;cases b with
     | true =>
      replace h:=zAu hb.symm h;obtain⟨y5,hy5,h⟩:=zAc h;refine⟨_,⟨_,_,_,hy5,rfl,rfl⟩,?_⟩
      cases h;exact(Le.forget _ ⟨rfl,trivial⟩)
     | false =>
      replace h:=zAt hb.symm h;cases h;exact(Le.forget _ ⟨rfl,trivial⟩)
    ·refine zAh hle ?_;refine zAe ?_;have hy:=osi h;subst hy;exact fin0 rfl rfl
   ·refine zYV ?_;refine zAg rfl h (fun hb h=>?_) (fun hb h=>?_)
    ·refine zAa ?_;refine zAA [] [] [] rfl (by decide +kernel) ?_;obtain⟨y6,hy6,h⟩:=zAc h;refine⟨_,⟨_,hy6,rfl,rfl⟩,?_⟩
     obtain⟨y7,hy7,h⟩:=zAc h;refine⟨_,⟨_,_,_,_,hy7,rfl,rfl⟩,?_⟩
     refine zAe ?_;have hy:=osi h;subst hy;exact fin0 rfl rfl
    ·refine zYV ?_;refine zAg rfl h (fun hb h=>?_) (fun hb h=>?_)
     ·refine zAa ?_;obtain⟨x8,hj,h⟩:=zAc h;refine zAm ⟨ofL [(2,.s (.bool x8))],fun _=>none,0⟩ ?_ (fun σ' hle=>?_)
      ·replace h:=hj;refine zAb [] [38,41,44,47] rfl ?_;intro b hb;cases b with
       | true =>
        replace h:=zAu hb.symm h;obtain⟨c9,hc9,h⟩:=zAc h;refine And.intro (zB7 hc9).1 ?_;intro v10 hv10;obtain rfl:(c9.toNat:Int)=v10:=(hv10.trans (zB7 hc9).2).symm;obtain⟨y11,hy11,h⟩:=zAc h;refine⟨_,⟨_,_,_,_,hy11,rfl,rfl⟩,?_⟩
        intro b hb;cases b with
        | true =>
         replace h:=zAu hb.symm h;obtain⟨c12,hc12,h⟩:=zAc h;refine And.intro (zB7 hc12).1 ?_;intro v13 hv13;obtain rfl:(c12.toNat:Int)=v13:=(hv13.trans (zB7 hc12).2).symm;obtain⟨y14,hy14,h⟩:=zAc h;refine⟨_,⟨_,_,_,_,hy14,rfl,rfl⟩,?_⟩
         cases h;exact(Le.forget _ ⟨rfl,trivial⟩)
        | false =>
         replace h:=zAt hb.symm h;cases h;exact(Le.forget _ ⟨rfl,trivial⟩)
       | false =>
        replace h:=zAt hb.symm h;intro b hb;subst hb;cases h;exact(Le.forget _ ⟨rfl,trivial⟩)
      ·refine zAh hle ?_;refine zAe ?_;have hy:=osi h;subst hy;exact fin0 rfl rfl
     ·refine zAf ?_;refine zYV ?_;refine zAe ?_;have hy:=osi h;subst hy;exact fin0 rfl rfl
def zTQ (xs:List AV) (r:Ret):Prop:=∃ (a0:Nd) (y0:Bool),zG6 a0=some y0/\xs=[.agg ((Nd.enc a0).map .s)]/\r = .val (.s (.bool y0))
def zNM:zAq:=zAs fun xs r=>zTQ xs r
theorem zSu:PSound Tryz.prog 69 zNM:=by
 have gok:=@gok0 Tryz.prog;refine zAr tokW Tryz.call69 Tryz.func69 rfl (fun xs r h=>by obtain⟨_,_,_,rfl,_⟩:=h; show 1<=64; decide) 64 rfl ?_;rintro xs r w0 G0 ⟨⟨n1A,n1C,n1D,n1B⟩,y0,h,rfl,rfl⟩ _;rw[zG6]at h;refine zYV ?_;refine zYf [] [6] rfl ?_;intro n2 hn2;obtain rfl:(n1B.length:Int)=n2:=(hn2.trans (congrArg (fun m:Nat=>(m:Int)) (rlen Nd.encs_eq n1B))).symm;refine zAa ?_;refine zYV ?_;refine zAg rfl h (fun hb h=>?_) (fun hb h=>?_)
 ·refine zAa ?_;obtain⟨x3,hj,h⟩:=zAc h;refine zAm ⟨ofL [(2,.s (.bool x3))],fun _=>none,0⟩ ?_ (fun σ' hle=>?_)
  ·replace h:=hj;refine zAb [] [13,18,22,26] rfl ?_;intro b hb;cases b with
   | true =>
    replace h:=zAu hb.symm h;intro b hb;cases b with
    | true =>
     replace h:=zAu hb.symm h;intro b hb;cases b with
     | true =>
      replace h:=zAu hb.symm h;intro b hb;cases b with
      | true =>
       replace h:=zAu hb.symm h;obtain⟨hq,h⟩:=zAw h;refine And.intro hq ?_;cases h;exact(Le.forget _ ⟨rfl,trivial⟩)
      | false =>
       replace h:=zAt hb.symm h;cases h;exact(Le.forget _ ⟨rfl,trivial⟩)
     | false =>
      replace h:=zAt hb.symm h;intro b hb;subst hb;cases h;exact(Le.forget _ ⟨rfl,trivial⟩)
    | false =>
     replace h:=zAt hb.symm h;intro b hb;subst hb;intro b hb;subst hb;cases h;exact(Le.forget _ ⟨rfl,trivial⟩)
   | false =>
    replace h:=zAt hb.symm h;intro b hb;subst hb;intro b hb;subst hb;intro b hb;subst hb;cases h;exact(Le.forget _ ⟨rfl,trivial⟩)
  ·refine zAh hle ?_;refine zAe ?_;have hy:=osi h;subst hy;exact fin0 rfl rfl
 ·refine zAf ?_;refine zAa ?_;refine zYV ?_;refine zAg rfl h (fun hb h=>?_) (fun hb h=>?_)
  ·refine zYV ?_;refine zAe ?_;have hy:=osi h;subst hy;exact fin0 rfl rfl
  ·refine zAf ?_;refine zAa ?_;refine zYV ?_;show Tri ..;obtain⟨fl,hj,ho1⟩:=zAc h;refine zBA (fl:=fl) (fun z=>match z with | _=>⟨ofL [],fun _=>none,0⟩) ?_ (fun z σ' hz hle=>?_)
   ·replace h:=hj;refine zAl ?_;refine zYV ?_;refine zAg rfl h (fun hb h=>?_) (fun hb h=>?_)
    ·refine zYV ?_;refine zAe ?_;cases h;replace h:some _=some _:=ho1;have hy:=osi h;subst hy;exact fin0 rfl rfl
    ·refine zAa ?_;refine zYV ?_;show Tri ..;obtain⟨x4,hj,h⟩:=zAc h;refine zAm ⟨ofL [(3,.s (.int .i64 (n1B.length:Int))),(37,.s (.int .i64 n1A)),(42,.s (.bool x4))],fun _=>none,0⟩ ?_ (fun σ' hle=>?_)
     ·replace h:=hj;refine zAg rfl h (fun hb h=>?_) (fun hb h=>?_)
      ·refine zAf ?_;cases h;exact(Le.forget _ ⟨rfl,rfl,rfl,trivial⟩)
      ·refine zYV ?_;refine zAg rfl h (fun hb h=>?_) (fun hb h=>?_)
       ·refine zAf ?_;cases h;exact(Le.forget _ ⟨rfl,rfl,rfl,trivial⟩)
       ·refine zYU ?_;cases h;exact(Le.forget _ ⟨rfl,rfl,rfl,trivial⟩)
     ·refine zAh hle ?_;refine zAg rfl h (fun hb h=>?_) (fun hb h=>?_)
      ·refine zYV ?_;refine zAe ?_;cases h;replace h:some _=some _:=ho1;have hy:=osi h;subst hy;exact fin0 rfl rfl
      ·refine zAa ?_;refine zYV ?_;show Tri ..;obtain⟨x5,hj,h⟩:=zAc h;refine zAm ⟨ofL [(3,.s (.int .i64 (n1B.length:Int))),(37,.s (.int .i64 n1A)),(48,.s (.bool x5))],fun _=>none,0⟩ ?_ (fun σ' hle=>?_)
       ·replace h:=hj;refine zAg rfl h (fun hb h=>?_) (fun hb h=>?_)
        ·refine zAf ?_;cases h;exact(Le.forget _ ⟨rfl,rfl,rfl,trivial⟩)
        ·refine zYV ?_;refine zAg rfl h (fun hb h=>?_) (fun hb h=>?_)
         ·refine zAf ?_;cases h;exact(Le.forget _ ⟨rfl,rfl,rfl,trivial⟩)
         ·refine zYV ?_;refine zAg rfl h (fun hb h=>?_) (fun hb h=>?_)
          ·refine zAf ?_;cases h;exact(Le.forget _ ⟨rfl,rfl,rfl,trivial⟩)
          ·refine zYU ?_;cases h;exact(Le.forget _ ⟨rfl,rfl,rfl,trivial⟩)
       ·refine zAh hle ?_;refine zAg rfl h (fun hb h=>?_) (fun hb h=>?_)
        ·refine zYV ?_;refine zAe ?_;cases h;replace h:some _=some _:=ho1;have hy:=osi h;subst hy;exact fin0 rfl rfl
        ·refine zYV ?_;refine zAg rfl h (fun hb h=>?_) (fun hb h=>?_)
         ·refine zYV ?_;refine zAe ?_;cases h;replace h:some _=some _:=ho1;have hy:=osi h;subst hy;exact fin0 rfl rfl
         ·refine zAa ?_;refine zYV ?_;show Tri ..;obtain⟨x6,hj,h⟩:=zAc h;refine zAm ⟨ofL [(3,.s (.int .i64 (n1B.length:Int))),(59,.s (.bool x6))],fun _=>none,0⟩ ?_ (fun σ' hle=>?_)
          ·replace h:=hj;refine zAg rfl h (fun hb h=>?_) (fun hb h=>?_)
           ·refine zAf ?_;cases h;exact(Le.forget _ ⟨rfl,rfl,trivial⟩)
           ·refine zYU ?_;cases h;exact(Le.forget _ ⟨rfl,rfl,trivial⟩)
          ·refine zAh hle ?_;refine zAg rfl h (fun hb h=>?_) (fun hb h=>?_)
           ·refine zYV ?_;refine zAe ?_;cases h;replace h:some _=some _:=ho1;have hy:=osi h;subst hy;exact fin0 rfl rfl
           ·refine zAf ?_;cases h;exact⟨_,rfl,(Le.forget _ trivial)⟩
   ·subst hz;obtain _:=z;replace h:=ho1;refine zAh hle ?_;refine zYV ?_;refine zAe ?_;have hy:=osi h;subst hy;exact fin0 rfl rfl
def zGU (n:Nat) (xs:List AV) (r:Ret):Prop:=∃ (a0:Nd) (y0:Bool),zDL n a0=some y0/\xs=[.agg ((Nd.enc a0).map .s)]/\r = .val (.s (.bool y0))
theorem zPS (n:Nat) (ih:PSound Tryz.prog 45 (zAs (zGU n))):PSound Tryz.prog 45 (zAs (zGU (n+1))):=by
 have gok:∀ f s,look? f [(68,zNO),(69,zNM),(45,zAs (zGU n))]=some s->PSound Tryz.prog f s:=zAo (by
  simp only[List.forall_mem_cons]
  exact⟨zSw,zSu,ih,by simp⟩)
 refine zAr tokW Tryz.call45 Tryz.func45 rfl (fun xs r h=>by obtain⟨_,_,_,rfl,_⟩:=h; show 1<=39; decide) 39 rfl ?_;rintro xs r w0 G0 ⟨⟨n1A,n1C,n1D,n1B⟩,y0,h,rfl,rfl⟩ _;rw[zDL]at h;refine zYV ?_;refine zAa ?_;refine zAa ?_;obtain⟨x2,hj,h⟩:=zAc h;refine zAm ⟨ofL [(1,.s (.pt [.int .i64 n1A,.str n1C,.int .i64 n1D,.sl 4 (Nd.encs n1B)])),(11,.s (.bool x2))],fun _=>none,0⟩ ?_ (fun σ' hle=>?_)
 ·replace h:=hj;refine zAb [] [7] rfl ?_;obtain⟨y3,hy3,h⟩:=zAc h;refine⟨_,⟨_,_,_,hy3,rfl,rfl⟩,?_⟩
  intro b hb;cases b with
  | true =>
   replace h:=zAu hb.symm h;cases h;exact(Le.forget _ ⟨rfl,rfl,trivial⟩)
  | false =>
   replace h:=zAt hb.symm h;obtain⟨y4,hy4,h⟩:=zAc h;refine⟨_,⟨_,_,hy4,rfl,rfl⟩,?_⟩
   cases h;exact(Le.forget _ ⟨rfl,rfl,trivial⟩)
 ·refine zAh hle ?_;refine zAg rfl h (fun hb h=>?_) (fun hb h=>?_)
  ·refine zYV ?_;refine zAe ?_;have hy:=osi h;subst hy;exact fin0 rfl rfl
  ·refine zAf ?_;refine zAa ?_;refine zYV ?_;show Tri ..;obtain⟨fl,hl,ho1⟩:=zAc h;refine zBA (fl:=fl) (fun z=>match z with | _=>⟨ofL [],fun _=>none,0⟩) ?_ (fun z σ' hz hle=>?_)
   ·refine zAl (zAy (X:=Nat×Int) (fun y=>match y with | (k,i5)=>⟨ofL [(1,.s (.pt [.int .i64 n1A,.str n1C,.int .i64 n1D,.sl 4 (Nd.encs n1B)])),(3,.s (.int .i64 i5))],fun _=>none,0⟩) (fun y=>zCW (zDL n) n1A n1B y.1 y.2=some fl) (fun y=>y.1) (n,0) hl ?_ ?_)
    ·exact(Le.forget _ ⟨rfl,rfl,trivial⟩)
    ·rintro⟨k,i5⟩ h;cases k with
     | zero=>cases h
     | succ k =>
      replace h:zCW (zDL n) n1A n1B (k+1) i5=some fl:=h;rw[zCW]at h;refine zAa ?_;refine zYf [] [15] rfl ?_;intro n6 hn6;obtain rfl:(n1B.length:Int)=n6:=(hn6.trans (congrArg (fun m:Nat=>(m:Int)) (rlen Nd.encs_eq n1B))).symm;refine zAg rfl h (fun hb h=>?_) (fun hb h=>?_)
      ·refine zAf ?_;refine zAa ?_;refine zAl ?_;refine zAa ?_;obtain⟨x7,hj,h⟩:=zAc h;refine zAm ⟨ofL [(1,.s (.pt [.int .i64 n1A,.str n1C,.int .i64 n1D,.sl 4 (Nd.encs n1B)])),(3,.s (.int .i64 i5)),(38,.s (.bool x7))],fun _=>none,0⟩ ?_ (fun σ' hle=>?_)
       ·replace h:=hj;refine zAA [] [22,30,34] [] rfl (by decide +kernel) ?_;obtain⟨⟨e8A,e8C,e8D,e8B⟩,he8,h⟩:=zAc h;refine And.intro (zAp Nd.encs_eq he8).1 ?_;intro r9 hr9;obtain rfl:[.int .i64 e8A,.str e8C,.int .i64 e8D,.sl 4 (Nd.encs e8B)]=r9:=(hr9.trans (zAp Nd.encs_eq he8).2.1).symm;intro b hb;cases b with
        | true =>
         replace h:=zAu hb.symm h;cases h;exact(Le.forget _ ⟨rfl,rfl,rfl,trivial⟩)
        | false =>
         replace h:=zAt hb.symm h;obtain⟨⟨e10A,e10C,e10D,e10B⟩,he10,h⟩:=zAc h;refine And.intro (zAp Nd.encs_eq he10).1 ?_;intro r11 hr11;obtain rfl:[.int .i64 e10A,.str e10C,.int .i64 e10D,.sl 4 (Nd.encs e10B)]=r11:=(hr11.trans (zAp Nd.encs_eq he10).2.1).symm;obtain⟨y12,hy12,h⟩:=zAc h;refine⟨_,⟨_,_,hy12,rfl,rfl⟩,?_⟩
         cases h;exact(Le.forget _ ⟨rfl,rfl,rfl,trivial⟩)
       ·refine zAh hle ?_;refine zAg rfl h (fun hb h=>?_) (fun hb h=>?_)
        ·refine zYV ?_;refine zAe ?_;cases h;replace h:some _=some _:=ho1;have hy:=osi h;subst hy;exact fin0 rfl rfl
        ·refine zAf ?_;refine zYU ?_;refine⟨(k,IntKind.i64.wrap (i5+1)),h,(Le.forget _ ⟨rfl,rfl,trivial⟩),Nat.lt_succ_self k⟩
      ·refine zAC ?_;cases h;exact⟨_,rfl,(Le.forget _ trivial)⟩
   ·subst hz;obtain _:=z;replace h:=ho1;refine zAh hle ?_;refine zYV ?_;refine zAe ?_;have hy:=osi h;subst hy;exact fin0 rfl rfl
theorem zQD:∀ n,PSound Tryz.prog 45 (zAs (zGU n)):=by
 intro n
 induction n with
 | zero=>exact zCC Tryz.call45 (fun xs r h=>by obtain⟨_,_,h,_⟩:=h; cases h)
 | succ n ih=>exact zPS n ih
def zNL:zAq:=zAs fun xs r=>∃ n,zGU n xs r
theorem zSt:PSound Tryz.prog 45 zNL:=zC9 zQD
def zFX (n:Nat) (xs:List AV) (r:Ret):Prop:=∃ (a0:Nd) (y0:Int),zCU n a0=some y0/\xs=[.agg ((Nd.enc a0).map .s)]/\r = .val (.s (.int .i64 y0))
theorem zNC (n:Nat) (ih:PSound Tryz.prog 46 (zAs (zFX n))):PSound Tryz.prog 46 (zAs (zFX (n+1))):=by
 have gok:∀ f s,look? f [(46,zAs (zFX n))]=some s->PSound Tryz.prog f s:=zAo (by
  simp only[List.forall_mem_cons]
  exact⟨ih,by simp⟩)
 refine zAr tokW Tryz.call46 Tryz.func46 rfl (fun xs r h=>by obtain⟨_,_,_,rfl,_⟩:=h; show 1<=21; decide) 21 rfl ?_;rintro xs r w0 G0 ⟨⟨n1A,n1C,n1D,n1B⟩,y0,h,rfl,rfl⟩ _;rw[zCU]at h;refine zYV ?_;refine zYV ?_;refine zAa ?_;refine zYV ?_;show Tri ..;obtain⟨out4,hl,h⟩:=zAc h;refine zAm ⟨ofL [(3,.s (.int .i64 out4))],fun _=>none,0⟩ ?_ (fun σ' hle=>?_)
 ·refine zAl (zAy (X:=Nat×Int×Int) (fun y=>match y with | (k,out2,i3)=>⟨ofL [(1,.s (.pt [.int .i64 n1A,.str n1C,.int .i64 n1D,.sl 4 (Nd.encs n1B)])),(3,.s (.int .i64 out2)),(4,.s (.int .i64 i3))],fun _=>none,0⟩) (fun y=>zCz (zCU n) n1B y.1 y.2.1 y.2.2=some out4) (fun y=>y.1) (n,1,0) hl ?_ ?_)
  ·exact(Le.forget _ ⟨rfl,rfl,rfl,trivial⟩)
  ·rintro⟨k,out2,i3⟩ h;cases k with
   | zero=>cases h
   | succ k =>
    replace h:zCz (zCU n) n1B (k+1) out2 i3=some out4:=h;rw[zCz]at h;refine zAa ?_;refine zYf [] [8] rfl ?_;intro n5 hn5;obtain rfl:(n1B.length:Int)=n5:=(hn5.trans (congrArg (fun m:Nat=>(m:Int)) (rlen Nd.encs_eq n1B))).symm;refine zAg rfl h (fun hb h=>?_) (fun hb h=>?_)
    ·refine zAf ?_;refine zAa ?_;refine zAl ?_;refine zAb [] [16] rfl ?_;obtain⟨⟨e6A,e6C,e6D,e6B⟩,he6,h⟩:=zAc h;refine And.intro (zAp Nd.encs_eq he6).1 ?_;intro r7 hr7;obtain rfl:[.int .i64 e6A,.str e6C,.int .i64 e6D,.sl 4 (Nd.encs e6B)]=r7:=(hr7.trans (zAp Nd.encs_eq he6).2.1).symm;obtain⟨y8,hy8,h⟩:=zAc h;refine⟨_,⟨_,_,hy8,rfl,rfl⟩,?_⟩
     refine zYU ?_;refine⟨(k,IntKind.i64.wrap (out2+y8),IntKind.i64.wrap (i3+1)),h,(Le.forget _ ⟨rfl,rfl,rfl,trivial⟩),Nat.lt_succ_self k⟩
    ·refine zAC ?_;cases h;exact(Le.forget _ ⟨rfl,trivial⟩)
 ·refine zAh hle ?_;refine zYV ?_;refine zAe ?_;have hy:=osi h;subst hy;exact fin0 rfl rfl
theorem zO1:∀ n,PSound Tryz.prog 46 (zAs (zFX n)):=by
 intro n
 induction n with
 | zero=>exact zCC Tryz.call46 (fun xs r h=>by obtain⟨_,_,h,_⟩:=h; cases h)
 | succ n ih=>exact zNC n ih
def zL0:zAq:=zAs fun xs r=>∃ n,zFX n xs r
theorem zRh:PSound Tryz.prog 46 zL0:=zC9 zO1
def zFY (n:Nat) (xs:List AV) (r:Ret):Prop:=∃ (a0:Nd) (y0:Int),zCV n a0=some y0/\xs=[.agg ((Nd.enc a0).map .s)]/\r = .val (.s (.int .i64 y0))
theorem zND (n:Nat) (ih:PSound Tryz.prog 47 (zAs (zFY n))):PSound Tryz.prog 47 (zAs (zFY (n+1))):=by
 have gok:∀ f s,look? f [(47,zAs (zFY n))]=some s->PSound Tryz.prog f s:=zAo (by
  simp only[List.forall_mem_cons]
  exact⟨ih,by simp⟩)
 refine zAr tokW Tryz.call47 Tryz.func47 rfl (fun xs r h=>by obtain⟨_,_,_,rfl,_⟩:=h; show 1<=22; decide) 22 rfl ?_;rintro xs r w0 G0 ⟨⟨n1A,n1C,n1D,n1B⟩,y0,h,rfl,rfl⟩ _;rw[zCV]at h;refine zYV ?_;refine zYV ?_;refine zAa ?_;refine zYV ?_;show Tri ..;obtain⟨out4,hl,h⟩:=zAc h;refine zAm ⟨ofL [(3,.s (.int .i64 out4))],fun _=>none,0⟩ ?_ (fun σ' hle=>?_)
 ·refine zAl (zAy (X:=Nat×Int×Int) (fun y=>match y with | (k,out2,i3)=>⟨ofL [(1,.s (.pt [.int .i64 n1A,.str n1C,.int .i64 n1D,.sl 4 (Nd.encs n1B)])),(3,.s (.int .i64 out2)),(4,.s (.int .i64 i3))],fun _=>none,0⟩) (fun y=>zCA (zCV n) n1B y.1 y.2.1 y.2.2=some out4) (fun y=>y.1) (n,0,0) hl ?_ ?_)
  ·exact(Le.forget _ ⟨rfl,rfl,rfl,trivial⟩)
  ·rintro⟨k,out2,i3⟩ h;cases k with
   | zero=>cases h
   | succ k =>
    replace h:zCA (zCV n) n1B (k+1) out2 i3=some out4:=h;rw[zCA]at h;refine zAa ?_;refine zYf [] [8] rfl ?_;intro n5 hn5;obtain rfl:(n1B.length:Int)=n5:=(hn5.trans (congrArg (fun m:Nat=>(m:Int)) (rlen Nd.encs_eq n1B))).symm;refine zAg rfl h (fun hb h=>?_) (fun hb h=>?_)
    ·refine zAf ?_;refine zAa ?_;refine zAl ?_;refine zAb [] [16] rfl ?_;obtain⟨⟨e6A,e6C,e6D,e6B⟩,he6,h⟩:=zAc h;refine And.intro (zAp Nd.encs_eq he6).1 ?_;intro r7 hr7;obtain rfl:[.int .i64 e6A,.str e6C,.int .i64 e6D,.sl 4 (Nd.encs e6B)]=r7:=(hr7.trans (zAp Nd.encs_eq he6).2.1).symm;obtain⟨y8,hy8,h⟩:=zAc h;refine⟨_,⟨_,_,hy8,rfl,rfl⟩,?_⟩
     refine zYU ?_;refine⟨(k,(if out2<y8 then y8 else out2),IntKind.i64.wrap (i3+1)),h,(Le.forget _ ⟨rfl,rfl,rfl,trivial⟩),Nat.lt_succ_self k⟩
    ·refine zAC ?_;cases h;exact(Le.forget _ ⟨rfl,trivial⟩)
 ·refine zAh hle ?_;refine zYV ?_;refine zAe ?_;have hy:=osi h;subst hy;exact fin0 rfl rfl
theorem zO2:∀ n,PSound Tryz.prog 47 (zAs (zFY n)):=by
 intro n
 induction n with
 | zero=>exact zCC Tryz.call47 (fun xs r h=>by obtain⟨_,_,h,_⟩:=h; cases h)
 | succ n ih=>exact zND n ih
def zL1:zAq:=zAs fun xs r=>∃ n,zFY n xs r
theorem zRi:PSound Tryz.prog 47 zL1:=zC9 zO2
def zRX (n:Nat) (xs:List AV) (r:Ret):Prop:=∃ (a0:Nd) (y0:Bool),zAQ n a0=some y0/\xs=[.agg ((Nd.enc a0).map .s)]/\r = .val (.s (.bool y0))
def zCy:zAq:=zAs fun xs r=>∃ n,zRX n xs r
theorem zCv:PSound Tryz.prog 25 zCy:=by
 have gok:∀ f s,look? f [(45,zNL),(46,zL0),(47,zL1)]=some s->PSound Tryz.prog f s:=zAo (by
  simp only[List.forall_mem_cons]
  exact⟨zSt,zRh,zRi,by simp⟩)
 refine zAr tokW Tryz.call25 Tryz.func25 rfl (fun xs r h=>by obtain⟨n,_,_,_,rfl,_⟩:=h; show 1<=20; decide) 20 rfl ?_;rintro xs r w0 G0 ⟨n,⟨n1A,n1C,n1D,n1B⟩,y0,h,rfl,rfl⟩ _;rw[zAQ]at h;refine zYV ?_;refine zAa ?_;obtain⟨x2,hj,h⟩:=zAc h;refine zAm ⟨ofL [(2,.s (.bool x2))],fun _=>none,0⟩ ?_ (fun σ' hle=>?_)
 ·replace h:=hj;refine zAb [] [6,10,15] rfl ?_;intro b hb;cases b with
  | true =>
   replace h:=zAu hb.symm h;obtain⟨y3,hy3,h⟩:=zAc h;refine⟨_,⟨_,_,_,hy3,rfl,rfl⟩,?_⟩
   intro b hb;cases b with
   | true =>
    replace h:=zAu hb.symm h;obtain⟨y4,hy4,h⟩:=zAc h;refine⟨_,⟨_,_,_,hy4,rfl,rfl⟩,?_⟩
    intro b hb;cases b with
    | true =>
     replace h:=zAu hb.symm h;obtain⟨y5,hy5,h⟩:=zAc h;refine⟨_,⟨_,_,_,hy5,rfl,rfl⟩,?_⟩
     cases h;exact(Le.forget _ ⟨rfl,trivial⟩)
    | false =>
     replace h:=zAt hb.symm h;cases h;exact(Le.forget _ ⟨rfl,trivial⟩)
   | false =>
    replace h:=zAt hb.symm h;intro b hb;subst hb;cases h;exact(Le.forget _ ⟨rfl,trivial⟩)
  | false =>
   replace h:=zAt hb.symm h;intro b hb;subst hb;intro b hb;subst hb;cases h;exact(Le.forget _ ⟨rfl,trivial⟩)
 ·refine zAh hle ?_;refine zAe ?_;have hy:=osi h;subst hy;exact fin0 rfl rfl
def zEJ (n:Nat) (xs:List AV) (r:Ret):Prop:=∃ (a0:Nd) (a1:Nd) (y0:Bool),zBv n a0 a1=some y0/\xs=[.agg ((Nd.enc a0).map .s),.agg ((Nd.enc a1).map .s)]/\r = .val (.s (.bool y0))
def zCH (n:Nat) (xs:List AV) (r:Ret):Prop:=∃ (a0:List Nd) (a1:List Nd) (y0:Bool),zBK n a0 a1=some y0/\xs=[.s (.sl 4 (Nd.encs a0)),.s (.sl 4 (Nd.encs a1))]/\r = .val (.s (.bool y0))
theorem zNE (n:Nat) (ih_r09_Equal:PSound Tryz.prog 13 (zAs (zEJ n))) (ih_r09_SameItems:PSound Tryz.prog 33 (zAs (zCH n))):PSound Tryz.prog 13 (zAs (zEJ (n+1))):=by
 have gok:∀ f s,look? f [(33,zAs (zCH n))]=some s->PSound Tryz.prog f s:=zAo (by
  simp only[List.forall_mem_cons]
  exact⟨ih_r09_SameItems,by simp⟩)
 refine zAr tokW Tryz.call13 Tryz.func13 rfl (fun xs r h=>by obtain⟨_,_,_,_,rfl,_⟩:=h; show 2<=31; decide) 31 rfl ?_;rintro xs r w0 G0 ⟨⟨a1A,a1C,a1D,a1B⟩,⟨b2A,b2C,b2D,b2B⟩,y0,h,rfl,rfl⟩ _;rw[zBv]at h;refine zYV ?_;refine zAa ?_;obtain⟨x3,hj,h⟩:=zAc h;refine zAm ⟨ofL [(4,.s (.bool x3))],fun _=>none,0⟩ ?_ (fun σ' hle=>?_)
 ·replace h:=hj;refine zAb [] [10,17,24] rfl ?_;intro b hb;cases b with
  | true =>
   replace h:=zAu hb.symm h;intro b hb;cases b with
   | true =>
    replace h:=zAu hb.symm h;intro b hb;cases b with
    | true =>
     replace h:=zAu hb.symm h;obtain⟨y4,hy4,h⟩:=zAc h;refine⟨_,⟨_,_,_,hy4,rfl,rfl⟩,?_⟩
     cases h;exact(Le.forget _ ⟨rfl,trivial⟩)
    | false =>
     replace h:=zAt hb.symm h;cases h;exact(Le.forget _ ⟨rfl,trivial⟩)
   | false =>
    replace h:=zAt hb.symm h;intro b hb;subst hb;cases h;exact(Le.forget _ ⟨rfl,trivial⟩)
  | false =>
   replace h:=zAt hb.symm h;intro b hb;subst hb;intro b hb;subst hb;cases h;exact(Le.forget _ ⟨rfl,trivial⟩)
 ·refine zAh hle ?_;refine zAe ?_;have hy:=osi h;subst hy;exact fin0 rfl rfl
theorem zKm (n:Nat) (ih_r09_Equal:PSound Tryz.prog 13 (zAs (zEJ n))) (ih_r09_SameItems:PSound Tryz.prog 33 (zAs (zCH n))):PSound Tryz.prog 33 (zAs (zCH (n+1))):=by
 have gok:∀ f s,look? f [(13,zAs (zEJ n))]=some s->PSound Tryz.prog f s:=zAo (by
  simp only[List.forall_mem_cons]
  exact⟨ih_r09_Equal,by simp⟩)
 refine zAr tokW Tryz.call33 Tryz.func33 rfl (fun xs r h=>by obtain⟨_,_,_,_,rfl,_⟩:=h; show 2<=27; decide) 27 rfl ?_;rintro xs r w0 G0 ⟨a1,b2,y0,h,rfl,rfl⟩ _;rw[zBK]at h;refine zYV ?_;refine zAa ?_;refine zYf [] [7,9] rfl ?_;intro n3 hn3;obtain rfl:(a1.length:Int)=n3:=(hn3.trans (congrArg (fun m:Nat=>(m:Int)) (rlen Nd.encs_eq a1))).symm;intro n4 hn4;obtain rfl:(b2.length:Int)=n4:=(hn4.trans (congrArg (fun m:Nat=>(m:Int)) (rlen Nd.encs_eq b2))).symm;refine zAg rfl h (fun hb h=>?_) (fun hb h=>?_)
 ·refine zYV ?_;refine zAe ?_;have hy:=osi h;subst hy;exact fin0 rfl rfl
 ·refine zAf ?_;refine zAa ?_;refine zYV ?_;show Tri ..;obtain⟨fl,hl,ho1⟩:=zAc h;refine zBA (fl:=fl) (fun z=>match z with | _=>⟨ofL [],fun _=>none,0⟩) ?_ (fun z σ' hz hle=>?_)
  ·refine zAl (zAy (X:=Nat×Int) (fun y=>match y with | (k,i5)=>⟨ofL [(0,.s (.sl 4 (Nd.encs a1))),(1,.s (.sl 4 (Nd.encs b2))),(5,.s (.int .i64 i5))],fun _=>none,0⟩) (fun y=>zBw (zBv n) a1 b2 y.1 y.2=some fl) (fun y=>y.1) (n,0) hl ?_ ?_)
   ·exact(Le.forget _ ⟨rfl,rfl,rfl,trivial⟩)
   ·rintro⟨k,i5⟩ h;cases k with
    | zero=>cases h
    | succ k =>
     replace h:zBw (zBv n) a1 b2 (k+1) i5=some fl:=h;rw[zBw]at h;refine zAa ?_;refine zYf [] [13] rfl ?_;intro n6 hn6;obtain rfl:(a1.length:Int)=n6:=(hn6.trans (congrArg (fun m:Nat=>(m:Int)) (rlen Nd.encs_eq a1))).symm;refine zAg rfl h (fun hb h=>?_) (fun hb h=>?_)
     ·refine zAf ?_;refine zAa ?_;refine zAl ?_;refine zAa ?_;refine zAA [] [19,23] [] rfl (by decide +kernel) ?_;obtain⟨⟨e7A,e7C,e7D,e7B⟩,he7,h⟩:=zAc h;refine And.intro (zAp Nd.encs_eq he7).1 ?_;intro r8 hr8;obtain rfl:[.int .i64 e7A,.str e7C,.int .i64 e7D,.sl 4 (Nd.encs e7B)]=r8:=(hr8.trans (zAp Nd.encs_eq he7).2.1).symm;obtain⟨⟨e9A,e9C,e9D,e9B⟩,he9,h⟩:=zAc h;refine And.intro (zAp Nd.encs_eq he9).1 ?_;intro r10 hr10
      obtain rfl:[.int .i64 e9A,.str e9C,.int .i64 e9D,.sl 4 (Nd.encs e9B)]=r10:=(hr10.trans (zAp Nd.encs_eq he9).2.1).symm;obtain⟨y11,hy11,h⟩:=zAc h;refine⟨_,⟨_,_,_,hy11,rfl,rfl⟩,?_⟩
      refine zAg rfl h (fun hb h=>?_) (fun hb h=>?_)
      ·refine zYV ?_;refine zAe ?_;cases h;replace h:some _=some _:=ho1;have hy:=osi h;subst hy;exact fin0 rfl rfl
      ·refine zAf ?_;refine zYU ?_;refine⟨(k,IntKind.i64.wrap (i5+1)),h,(Le.forget _ ⟨rfl,rfl,rfl,trivial⟩),Nat.lt_succ_self k⟩
     ·refine zAC ?_;cases h;exact⟨_,rfl,(Le.forget _ trivial)⟩
  ·subst hz;obtain _:=z;replace h:=ho1;refine zAh hle ?_;refine zYV ?_;refine zAe ?_;have hy:=osi h;subst hy;exact fin0 rfl rfl
theorem zI2:∀ n,PSound Tryz.prog 13 (zAs (zEJ n))/\PSound Tryz.prog 33 (zAs (zCH n)):=by
 intro n
 induction n with
 | zero =>
  refine⟨?_,?_⟩
  ·exact zCC Tryz.call13 (fun xs r h=>by obtain⟨_,_,_,h,_⟩:=h; rw[zBv]at h; cases h)
  ·exact zCC Tryz.call33 (fun xs r h=>by obtain⟨_,_,_,h,_⟩:=h; rw[zBK]at h; cases h)
 | succ n ih =>
  obtain⟨ih_r09_Equal,ih_r09_SameItems⟩:=ih;exact⟨zNE n ih_r09_Equal ih_r09_SameItems,zKm n ih_r09_Equal ih_r09_SameItems⟩
def zJm:zAq:=zAs fun xs r=>∃ n,zEJ n xs r
theorem zLg:PSound Tryz.prog 13 zJm:=zC9 (fun n=>(zI2 n).1)
def zF2:zAq:=zAs fun xs r=>∃ n,zCH n xs r
theorem zHD:PSound Tryz.prog 33 zF2:=zC9 (fun n=>(zI2 n).2)
def zTN (n:Nat) (xs:List AV) (r:Ret):Prop:=∃ (a0:Nd) (a1:List Int) (y0:Nd) (y1:Int),zG4 n a0 a1=some (y0,y1)/\xs=[.agg ((Nd.enc a0).map .s),.s (.sl 1 (a1.map (irow .i64)))]/\r = .val (.tup [.agg ((Nd.enc y0).map .s),.s (.int .i64 y1)])
def zNJ:zAq:=zAs fun xs r=>∃ n,zTN n xs r
theorem zSr:PSound Tryz.prog 88 zNJ:=by
 have gok:∀ f s,look? f [(38,zDj),(120,zLZ),(29,zDi)]=some s->PSound Tryz.prog f s:=zAo (by
  simp only[List.forall_mem_cons]
  exact⟨zDR,zRg,zDy,by simp⟩)
 refine zAr tokW Tryz.call88 Tryz.func88 rfl (fun xs r h=>by obtain⟨n,_,_,_,_,_,rfl,_⟩:=h; show 2<=_; decide) _ rfl ?_;rintro xs r w0 G0 ⟨f,⟨k,t,c,ks⟩,p,y0,y1,h,rfl,rfl⟩ _;rw[zG4]at h;obtain⟨b,hb,h⟩:=zAc h;refine zYf [4] [] rfl ?_;refine zAa ?_;refine zYV ?_;refine⟨_,⟨f,_,_,hb,rfl,rfl⟩,?_⟩
 show Tri ..;cases b with
 | false =>
  refine zAE rfl (fun _=>?_) (fun h=>by cases h)
  refine zYV ?_;refine zAe ?_;obtain⟨rfl,rfl⟩:=Prod.mk.inj (Option.some.inj h)
  unfold zBC;exact⟨_,Le.refl _ _,rfl,rfl⟩
 | true =>
  refine zAE rfl (fun h=>by cases h) (fun _=>?_)
  refine zAf ?_;show Tri ..;replace h:(match zBt (.mk k t c ks) p with | some r=>(zAX r).bind fun r=>some (r,0) | none=>some (zCw,8))=some (y0,y1):=h;refine zYV ?_;cases hf:zBt (.mk k t c ks) p with
  | none =>
   rw[hf]at h;refine⟨.val (.tup [.junk,.s (.bool false)]),⟨.mk k t c ks,p,rfl,by rw[hf]; rfl⟩,?_⟩
   refine zAa ?_;refine zYV ?_;refine zAE rfl (fun _=>?_) (fun h=>by cases h)
   refine zYV ?_;refine zAe ?_;obtain⟨rfl,rfl⟩:=Prod.mk.inj (Option.some.inj h)
   unfold zBC;exact⟨_,Le.refl _ _,rfl,rfl⟩
  | some z =>
   obtain⟨k2,t2,c2,ks2⟩:=z;rw[hf]at h;refine⟨.val (.tup [.s (.pt (Nd.enc (.mk k2 t2 c2 ks2))),.s (.bool true)]),⟨.mk k t c ks,p,rfl,by rw[hf]; rfl⟩,?_⟩
   refine zAa ?_;refine zYV ?_;refine zAE rfl (fun h=>by cases h) (fun _=>?_)
   refine zAf ?_;show Tri ..;obtain⟨⟨k3,t3,c3,ks3⟩,hd,h⟩:=zAc h;obtain⟨rfl,rfl⟩:=Prod.mk.inj (Option.some.inj h)
   refine zYV ?_;refine⟨_,⟨_,_,hd,rfl,rfl⟩,?_⟩
   refine zAe ?_;unfold zBC;exact⟨_,Le.refl _ _,rfl,rfl⟩
theorem zV6 {T:Nat->Option TI}{own:Bool}{o:Oper}{σ:St}{e t e0:Nat}{args:Array Operand}{ts:Array Nat}{y:Operand}{v:AV}{ks:List Nd}{keys:List Nat} (hv:VAt σ.hp e v ks keys) (ho:o.op = .call { callee:=.builtin .len,args:=args,argTypes:=ts }) (ha:args.toList=[y]) (hts:ts.toList=[t]) (ht:tk T t = .slice e0)
  (hy:opd T σ.env t y=v):step1 T own o σ=some (none,.s (.int .i64 (ks.length:Int)),σ):=by
 rcases hv with ⟨rfl,rfl,_⟩ | ⟨q,rows,keys',w,rfl,hq,hlen,_,_⟩
 ·have e1:zCE T own o σ.env=some (none,.s (.int .i64 0)) :=(by simp only[zCE,ho,ha,hts,pLen,ht,hy]; rfl);simp only[step1,e1]; rfl
 ·rw[zMZ ho ha hts ht hy hq,hlen]
theorem zVS {k c:Int}{tx:List UInt8}{ks:List Nd}{k2 c2:Int}{tx2:List UInt8}{ks2:List Nd}{z r:Nd}{i s:Int}{p:List Int} (hx:ks[i.toNat]? = some (.mk k2 tx2 c2 ks2)) (hz:ks2[s.toNat]? = some z) :
  putL (.mk k tx c ks) (i::s::p) r = .mk k tx c (ks.set i.toNat (.mk k2 tx2 c2 (ks2.set s.toNat (putL z p r)))):=by
 rw[putL,hx]
 simp only[hz]
theorem Hole.here {hp:Nat->Option Ob}{e:Nat}{p p1:AV}{y:Nd}{keys:List Nat}{F:Nd->Nd} (hn:(zBp p::keys).Nodup) (h:Hole hp e p keys p1 y F):∃ keys0 w0,At hp e p1 y keys0 [] w0/\isL 4 p1/\(zBp p1::keys0).Nodup:=by
 obtain⟨keys0,rest,w0,a1,a2,a3,a4,_⟩:=h;obtain⟨hb,hnk⟩:=List.nodup_cons.1 hn;obtain⟨n0,n1,n01⟩:=List.nodup_append.1 (a1.nodup_iff.1 hnk)
 refine⟨keys0,w0,a2,a3,List.nodup_cons.2 ⟨fun hm=>?_,n0⟩⟩
 rcases a4 with rfl | a4
 ·exact hb (a1.mem_iff.2 (List.mem_append_left _ hm))
 ·exact n01 _ hm _ a4 rfl
theorem Hole.step {hp:Nat->Option Ob}{e q i:Nat}{p p1:AV}{k c:Int}{tx:List UInt8}{ks:List Nd}{x:Nd}{keys:List Nat}{F:Nd->Nd} (hn:(zBp p::keys).Nodup) (h:Hole hp e p keys p1 (.mk k tx c ks) F) (hx:ks[i]? = some x) (hc:zAR hp p1=some (zBi k tx c (.orow q))) :
  Hole hp e p keys (.rp q 4 i 0) x (fun r=>F (.mk k tx c (ks.set i r))) :=
 Hole.trans hn h fun keys0 w0 ha hl hn0=>by
  obtain⟨b,rows,h1,_,_,h4⟩:=Hole.kid ha hl hn0 hx;rw[hc]at h1;have:q=b :=(by simpa [zBi] using h1);rw[this]; exact h4
theorem zW0 {t r:Nd}:putL t [] r=r:=by cases t; rfl
def zP1 (xs:List AV) (hp:Nat->Option Ob) (n:Nat) (Φ:AV->(Nat->Option Ob)->Nat->Prop):Prop :=
 ∃ (p:AV) (t:Nd) (path:List Int) (keys:List Nat) (w:Nat),xs=[p,.s (.sl 1 (path.map (irow .i64)))]/\isL 4 p/\At hp 24 p t keys [] w/\(zBp p::keys).Nodup /\
  (zBt t path=none->Φ (.tup [.junk,.s (.bool false)]) hp n)/\∀ p1 y F,zBt t path=some y->Hole hp 24 p keys p1 y F->(∀ r,putL t path r=F r)->Φ (.tup [p1,.s (.bool true)]) hp n
def zLR:zAq:=zQY zP1
set_option maxHeartbeats 600000 in
theorem zPb:PSound Tryz.prog 120 zLR:=by
 have gok:=@gok0 Tryz.prog;refine zN9 tokW Tryz.call120 Tryz.func120 rfl (fun xs hp n Φ h=>by obtain⟨_,_,_,_,_,rfl,_⟩:=h; show 2<=_; decide) _ rfl ?_;rintro xs hp n Φ w0 G0 B0 ⟨p0,t0,path0,keys,w,rfl,hl0,hat,hnd,hΦ1,hΦ2⟩ _ hhp;refine zYV ?_;refine zAa ?_;refine zAl (zAy (X:=AV×Nd×List Int×(Nd->Nd)) (fun x=>match x with | (p,y,q,F)=>⟨ofL [(0,p),(1,.s (.sl 1 (q.map (irow .i64)))),(4,.s .np),(5,.s (.bool false))],hp,n⟩)
  (fun x=>match x with | (p,y,q,F)=>zBt t0 path0=zBt y q/\Hole hp 24 p0 keys p y F/\∀ r,putL t0 path0 r=F (putL y q r)) (fun x=>match x with | (p,y,q,F)=>q.length) (p0,t0,path0,id) ⟨rfl,Hole.refl hat hl0,fun _=>rfl⟩ (Le.forget [(0,p0),(1,.s (.sl 1 (path0.map (irow .i64)))),(4,.s .np),(5,.s (.bool false))] ⟨rfl,rfl,rfl,rfl,trivial⟩) ?_)
 rintro⟨p,⟨k,t,c,ks⟩,q,F⟩ hI;have hI:zBt t0 path0=zBt (.mk k t c ks) q/\Hole hp 24 p0 keys p (.mk k t c ks) F/\∀ r,putL t0 path0 r=F (putL (.mk k t c ks) q r):=hI
 obtain⟨hI1,hI2,hI3⟩:=hI;have hlp:isL 4 p :=(by obtain⟨_,_,_,_,_,h,_⟩:=hI2; exact h);refine zAa ?_;refine zYV ?_;refine zAE rfl (fun hb=>?_) (fun hb=>?_)
 ·refine zAf ?_;show Tri ..
  match q,hI1,hI3,hb with
  | [],_,_,hb=>cases hb
  | [_],_,_,hb=>cases hb
  | i::s::q,hI1,hI3,hb =>
   refine zAh (Le.forgetH [(0,p),(1,.s (.sl 1 ((i::s::q).map (irow .i64)))),(4,.s .np),(5,.s (.bool false))] hp n ⟨rfl,rfl,rfl,rfl,trivial⟩ (fun _=>rfl) rfl) ?_;refine zAa ?_;refine zAl ?_;refine zAa ?_;refine zKn (by exact tokW) (by exact gok) (by exact mixed) [] [] [1,2,4,5] rfl (by decide +kernel) ?_;refine And.intro (show(0:Int)<=0/\(0:Int)<((((i::s::q).map (irow .i64)).length:Nat):Int) by simp only[List.map_cons,List.length_cons]; omega) ?_;refine And.intro (show(0:Int)<=1/\(1:Int)<((((i::s::q).map (irow .i64)).length:Nat):Int) by simp only[List.map_cons,List.length_cons]; omega) ?_;show Tri ..
   refine zAh (Le.forgetH [(0,p),(1,.s (.sl 1 ((i::s::q).map (irow .i64)))),(4,.s .np),(5,.s (.bool false)),(6,.s (.int .i64 i)),(7,.s (.int .i64 s))] hp n ⟨rfl,rfl,rfl,rfl,rfl,rfl,trivial⟩ (fun _=>rfl) rfl) ?_;refine zAa ?_;refine zAa ?_
   by_cases hi:i<0
   ·refine zAb [] [21] rfl ?_;intro b hb;obtain rfl:true=b:=(hb.trans (decide_eq_true hi)).symm;refine zAE rfl (fun _=>?_) (fun h=>by cases h)
    refine zYV ?_;refine zAe ?_;unfold zIV;exact⟨_,Le.forget [(5,.s (.bool false))] ⟨rfl,trivial⟩,_,rfl,hΦ1 (hI1.trans (zHr (fun h=>by omega)))⟩
   obtain⟨keys1,w1,hat1,_,hnd1⟩:=hI2.here hnd;obtain⟨v,hcv,hv⟩:=hat1.full;refine zYU ?_;refine zAi rfl rfl rfl rfl rfl rfl trivial ?_;refine zAi rfl rfl rfl rfl rfl rfl trivial ?_;rw[show decide (i<0)=false from decide_eq_false hi]
   refine zAi rfl rfl rfl rfl rfl rfl trivial ?_;refine zDf (g:=22) rfl rfl rfl ?_;refine zAi rfl rfl rfl rfl rfl rfl trivial ?_;refine zDf (g:=22) rfl rfl rfl ?_;refine zAi rfl rfl rfl rfl rfl (zDe hlp (.inr rfl) rfl rfl) trivial ?_;refine zDf (g:=22) rfl rfl rfl ?_;refine zAi rfl rfl rfl rfl rfl (zEZ hlp rfl rfl) trivial ?_;refine zDf (g:=22) rfl rfl rfl ?_;refine zAi rfl rfl rfl rfl rfl (zFu hlp rfl rfl rfl rfl rfl rfl rfl) trivial ?_;refine zDf (g:=22) rfl rfl rfl ?_;refine zD2 (off:=3) (sz:=4) rfl rfl rfl rfl rfl rfl rfl hlp rfl hcv rfl ?_;refine zDf (g:=22) rfl rfl rfl ?_
   refine zAi rfl rfl rfl rfl rfl (zV6 hv rfl rfl rfl rfl rfl) trivial ?_;refine zDf (g:=22) rfl rfl rfl ?_;refine zAi rfl rfl rfl rfl rfl rfl trivial ?_
   by_cases hi2:(ks.length:Int)<=i
   ·rw[show decide ((ks.length:Int)<=i)=true from decide_eq_true hi2]
    refine zAi rfl rfl rfl rfl rfl rfl trivial ?_;refine zAE rfl (fun _=>?_) (fun h=>by cases h)
    refine zYV ?_;refine zAe ?_;unfold zIV;exact⟨_,Le.forget [(5,.s (.bool false))] ⟨rfl,trivial⟩,_,rfl,hΦ1 (hI1.trans (zHr (n:=.mk k t c ks) (fun h=>by have:i<(ks.length:Int):=h.2; omega)))⟩
   rw[show decide ((ks.length:Int)<=i)=false from decide_eq_false hi2]
   refine zAi rfl rfl rfl rfl rfl rfl trivial ?_;refine zAE rfl (fun h=>by cases h) (fun _=>?_)
   refine zAf ?_;show Tri ..;have hi0:i.toNat<ks.length :=(by omega);obtain⟨⟨k2,t2,c2,ks2⟩,hx⟩:∃ x,ks[i.toNat]? = some x:=⟨_,List.getElem?_eq_getElem hi0⟩
   obtain⟨b1,rows1,hc1,hr1,hlen1,hole1⟩:=Hole.kid hat1 hlp hnd1 hx;refine zAh (Le.forgetH [(0,p),(1,.s (.sl 1 ((i::s::q).map (irow .i64)))),(4,.s .np),(5,.s (.bool false)),(6,.s (.int .i64 i)),(7,.s (.int .i64 s))] hp n ⟨rfl,rfl,rfl,rfl,rfl,rfl,trivial⟩ (fun _=>rfl) rfl) ?_;refine zYV ?_;refine zAi rfl rfl rfl rfl rfl (zDe hlp (.inr rfl) rfl rfl) trivial ?_;refine zAi rfl rfl rfl rfl rfl (zEZ hlp rfl rfl) trivial ?_;refine zAi rfl rfl rfl rfl rfl (zFu hlp rfl rfl rfl rfl rfl rfl rfl) trivial ?_;refine zD2 (off:=3) (sz:=4) rfl rfl rfl rfl rfl rfl rfl hlp rfl hc1 rfl ?_
   refine zAi rfl rfl rfl rfl rfl rfl trivial ?_;refine zAi rfl rfl rfl rfl rfl (zPO rfl rfl rfl rfl rfl rfl hr1 rfl) ⟨by omega,by rw[hlen1]; omega⟩ ?_;refine zAi rfl rfl rfl rfl rfl rfl trivial ?_;refine zAh (Le.forgetH [(0,p),(1,.s (.sl 1 ((i::s::q).map (irow .i64)))),(4,.s .np),(5,.s (.bool false)),(6,.s (.int .i64 i)),(7,.s (.int .i64 s)),(8,.rp b1 4 i.toNat 0)] hp n ⟨rfl,rfl,rfl,rfl,rfl,rfl,rfl,trivial⟩ (fun _=>rfl) rfl) ?_;refine zAa ?_;refine zAa ?_
   by_cases hs:s<0
   ·refine zAb [] [38] rfl ?_;intro b hb;obtain rfl:true=b:=(hb.trans (decide_eq_true hs)).symm;refine zAE rfl (fun _=>?_) (fun h=>by cases h)
    refine zYV ?_;refine zAe ?_;unfold zIV;exact⟨_,Le.forget [(5,.s (.bool false))] ⟨rfl,trivial⟩,_,rfl,hΦ1 (hI1.trans (zHs (n:=.mk k t c ks) (by omega) hx (fun h=>by omega)))⟩
   have hl2:isL 4 (.rp b1 4 i.toNat 0):=.inl ⟨b1,i.toNat,rfl⟩
   have hI4:=Hole.step hnd hI2 hx hc1;obtain⟨keys2,w2,hat2,_,hnd2⟩:=hI4.here hnd;obtain⟨v2,hcv2,hv2⟩:=hat2.full;refine zYU ?_;refine zAi rfl rfl rfl rfl rfl rfl trivial ?_;refine zAi rfl rfl rfl rfl rfl rfl trivial ?_;rw[show decide (s<0)=false from decide_eq_false hs]
   refine zAi rfl rfl rfl rfl rfl rfl trivial ?_;refine zDf (g:=39) rfl rfl rfl ?_;refine zAi rfl rfl rfl rfl rfl rfl trivial ?_;refine zDf (g:=39) rfl rfl rfl ?_;refine zAi rfl rfl rfl rfl rfl (zDe hl2 (.inr rfl) rfl rfl) trivial ?_;refine zDf (g:=39) rfl rfl rfl ?_;refine zAi rfl rfl rfl rfl rfl (zEZ hl2 rfl rfl) trivial ?_;refine zDf (g:=39) rfl rfl rfl ?_;refine zAi rfl rfl rfl rfl rfl (zFu hl2 rfl rfl rfl rfl rfl rfl rfl) trivial ?_;refine zDf (g:=39) rfl rfl rfl ?_;refine zD2 (off:=3) (sz:=4) rfl rfl rfl rfl rfl rfl rfl hl2 rfl hcv2 rfl ?_;refine zDf (g:=39) rfl rfl rfl ?_
   refine zAi rfl rfl rfl rfl rfl (zV6 hv2 rfl rfl rfl rfl rfl) trivial ?_;refine zDf (g:=39) rfl rfl rfl ?_;refine zAi rfl rfl rfl rfl rfl rfl trivial ?_
   by_cases hs2:(ks2.length:Int)<=s
   ·rw[show decide ((ks2.length:Int)<=s)=true from decide_eq_true hs2]
    refine zAi rfl rfl rfl rfl rfl rfl trivial ?_;refine zAE rfl (fun _=>?_) (fun h=>by cases h)
    refine zYV ?_;refine zAe ?_;unfold zIV;exact⟨_,Le.forget [(5,.s (.bool false))] ⟨rfl,trivial⟩,_,rfl,hΦ1 (hI1.trans (zHs (n:=.mk k t c ks) (by omega) hx (fun h=>by have:s<(ks2.length:Int):=h.2; omega)))⟩
   rw[show decide ((ks2.length:Int)<=s)=false from decide_eq_false hs2]
   refine zAi rfl rfl rfl rfl rfl rfl trivial ?_;refine zAE rfl (fun h=>by cases h) (fun _=>?_)
   refine zAf ?_;show Tri ..;have hs0:s.toNat<ks2.length :=(by omega);obtain⟨z,hz⟩:∃ z,ks2[s.toNat]? = some z:=⟨_,List.getElem?_eq_getElem hs0⟩
   obtain⟨b2,rows2,hc2,hr2,hlen2,hole2⟩:=Hole.kid hat2 hl2 hnd2 hz;refine zAh (Le.forgetH [(0,p),(1,.s (.sl 1 ((i::s::q).map (irow .i64)))),(4,.s .np),(5,.s (.bool false)),(6,.s (.int .i64 i)),(7,.s (.int .i64 s)),(8,.rp b1 4 i.toNat 0)] hp n ⟨rfl,rfl,rfl,rfl,rfl,rfl,rfl,trivial⟩ (fun _=>rfl) rfl) ?_;refine zYU ?_;refine zAi rfl rfl rfl rfl rfl (zDe hl2 (.inr rfl) rfl rfl) trivial ?_;refine zAi rfl rfl rfl rfl rfl (zEZ hl2 rfl rfl) trivial ?_;refine zAi rfl rfl rfl rfl rfl (zFu hl2 rfl rfl rfl rfl rfl rfl rfl) trivial ?_;refine zD2 (off:=3) (sz:=4) rfl rfl rfl rfl rfl rfl rfl hl2 rfl hc2 rfl ?_
   refine zAi rfl rfl rfl rfl rfl rfl trivial ?_;refine zAi rfl rfl rfl rfl rfl (zPO rfl rfl rfl rfl rfl rfl hr2 rfl) ⟨by omega,by rw[hlen2]; omega⟩ ?_;refine zAi rfl rfl rfl rfl rfl rfl trivial ?_;refine zAh (Le.forgetH [(0,.rp b2 4 s.toNat 0),(1,.s (.sl 1 ((i::s::q).map (irow .i64)))),(4,.s .np),(5,.s (.bool false))] hp n ⟨rfl,rfl,rfl,rfl,trivial⟩ (fun _=>rfl) rfl) ?_;refine zYU ?_;have h2l:(2:Int)<=((((i::s::q).map (irow .i64)).length:Nat):Int) :=(by simp only[List.map_cons,List.length_cons]; omega);refine zAi rfl rfl rfl rfl rfl rfl trivial ?_
   refine zAi rfl rfl rfl rfl rfl rfl ⟨by decide,h2l,Int.le_refl _⟩ ?_;refine zAi rfl rfl rfl rfl rfl rfl trivial ?_;have hI5:=Hole.step hnd hI4 hz hc2;refine⟨(.rp b2 4 s.toNat 0,z,q,fun r=>F (.mk k t c (ks.set i.toNat (.mk k2 t2 c2 (ks2.set s.toNat r))))),⟨?_,hI5,?_⟩,Le.forgetH [(0,.rp b2 4 s.toNat 0),(1,.s (.sl 1 (q.map (irow .i64)))),(4,.s .np),(5,.s (.bool false))] hp n ⟨rfl,congrArg (fun z=>AV.s (.sl 1 z)) ?_,rfl,rfl,trivial⟩ (fun _=>rfl) rfl,?_⟩
   ·exact hI1.trans (zN6 (n:=.mk k t c ks) (by omega) hx (by omega) hz)
   ·intro r;exact(hI3 r).trans (congrArg F (zVS hx hz))
   ·show List.drop 2 (List.take ((((i::s::q).map (irow .i64)).length:Nat):Int).toNat ((i::s::q).map (irow .i64)))=_;rw[Int.toNat_natCast,List.take_length]; rfl
   ·show q.length<q.length+1+1
    omega
 ·refine zAC ?_;refine zAh (Le.forgetH [(0,p),(1,.s (.sl 1 (q.map (irow .i64)))),(4,.s .np),(5,.s (.bool false))] hp n ⟨rfl,rfl,rfl,rfl,trivial⟩ (fun _=>rfl) rfl) ?_;refine zYV ?_;refine zAi rfl rfl rfl rfl rfl (zDe hlp (.inr rfl) rfl rfl) trivial ?_
  match q,hI1,hI3,hb with
  | [],hI1,hI3,_ =>
   refine zAi rfl rfl rfl rfl rfl rfl trivial ?_;refine zAi rfl rfl rfl rfl rfl rfl trivial ?_;refine zAi rfl rfl rfl rfl rfl rfl trivial ?_;refine zAi rfl rfl rfl rfl rfl (zDe hlp (.inl rfl) rfl rfl) trivial ?_;refine zAi rfl rfl rfl rfl rfl rfl trivial ?_;refine zAe ?_;have hd:AV.deep p=p:=by rcases hlp with ⟨_,_,rfl⟩ | ⟨_,rfl⟩ <;> rfl
   unfold zIV;refine⟨_,Le.forget [(4,p),(5,.s (.bool true))] ⟨rfl,rfl,trivial⟩,.tup [p,.s (.bool true)],?_,hΦ2 p (.mk k t c ks) F (hI1.trans rfl) hI2 fun r=>(hI3 r).trans (by rw[zW0])⟩
   show some (AV.tup [AV.deep p,.s (.bool true)])=_;rw[hd]
  | [i],hI1,_,_ =>
   refine zAi rfl rfl rfl rfl rfl rfl trivial ?_;refine zAi rfl rfl rfl rfl rfl rfl trivial ?_;refine zAi rfl rfl rfl rfl rfl rfl trivial ?_;refine zAi rfl rfl rfl rfl rfl (zDe hlp (.inl rfl) rfl rfl) trivial ?_;refine zAi rfl rfl rfl rfl rfl rfl trivial ?_;refine zAe ?_;unfold zIV;exact⟨_,Le.forget [(5,.s (.bool false))] ⟨rfl,trivial⟩,_,rfl,hΦ1 (hI1.trans rfl)⟩
  | i::s::p,_,_,hb=>exact absurd (of_decide_eq_false hb) (by simp only[List.map_cons,List.length_cons]; omega)
theorem zIG {T:Nat->Option TI}{σ:St}{t ty q bt u:Nat}{i:TI}{cells:List AV} (h1:σ.env t = .op q 0) (h2:σ.hp q=some (.box bt cells)) (h3:T ty=some i) (ha:i.k.agg=true) (hz:i.size=cells.length):zKJ T σ [.cell t ty,.tmp u]=some (.tup [AV.deep (.agg cells),(σ.env u).deep]):=by
 have hb:Nat.ble i.size cells.length=true :=(by rw[hz]; exact Nat.ble_eq_true_of_le (Nat.le_refl _));simp only[zKJ,zIr,zRy,h1,h2,h3,ha,hb]
 rw[hz,List.take_length]
theorem Hole.base {hp:Nat->Option Ob}{e:Nat}{p p1:AV}{y:Nd}{keys:List Nat}{F:Nd->Nd} (h:Hole hp e p keys p1 y F):zBp p1=zBp p∨zBp p1∈keys:=by
 obtain⟨keys0,rest,w0,a1,a2,a3,a4,_⟩:=h;rcases a4 with rfl | a4
 ·exact .inl rfl
 ·exact .inr (a1.mem_iff.2 (List.mem_append_right _ a4))
theorem At.ofV {hp:Nat->Option Ob}{e:Nat}{p v:AV}{k c:Int}{t:List UInt8}{ks:List Nd}{keys:List Nat} (hc:zAR hp p=some (zBi k t c v)) (h:VAt hp e v ks keys):∃ w,At hp e p (.mk k t c ks) keys [] w:=by
 rcases h with ⟨rfl,rfl,rfl⟩ | ⟨q,rows,keys',w,rfl,h1,h2,rfl,h3⟩
 ·exact⟨0,by simp only[At]; exact⟨_,hc,.inr (.inl (by simp))⟩⟩
 ·exact⟨w,by simp only[At]; exact⟨_,hc,.inr (.inr ⟨q,rows,keys',rfl,h1,h2,rfl,h3⟩)⟩⟩
def zRT (n:Nat) (xs:List AV) (r:Ret):Prop:=∃ (a0:Nd) (a1:List Int) (a2:Nd) (y0:Nd) (y1:Int),zEQ n a0 a1 a2=some (y0,y1)/\xs=[.agg ((Nd.enc a0).map .s),.s (.sl 1 (a1.map (irow .i64))),.agg ((Nd.enc a2).map .s)]/\r = .val (.tup [.agg ((Nd.enc y0).map .s),.s (.int .i64 y1)])
def zLY:zAq:=zAs fun xs r=>∃ n,zRT n xs r
set_option maxHeartbeats 600000 in
theorem zRf:PSound Tryz.prog 90 zLY:=by
 have gok:∀ f s,look? f [(38,zDj),(120,zLR),(29,zLQ)]=some s->PSound Tryz.prog f s:=zAo (by
  simp only[List.forall_mem_cons]
  exact⟨zDR,zPb,zHt,by simp⟩)
 refine zAr tokW Tryz.call90 Tryz.func90 rfl (fun xs r h=>by obtain⟨n,_,_,_,_,_,_,rfl,_⟩:=h; show 3<=_; decide) _ rfl ?_;rintro xs r w0 G0 ⟨f,⟨k,t,c,ks⟩,path,⟨rk,rt,rc,rks⟩,y0,y1,h,rfl,rfl⟩ _;rw[zEQ]at h;obtain⟨b,hb,h⟩:=zAc h;refine zYf [6] [] rfl ?_;refine zAa ?_;refine zYV ?_;refine⟨_,⟨f,_,_,hb,rfl,rfl⟩,?_⟩
 show Tri ..;cases b with
 | false =>
  refine zAE rfl (fun _=>?_) (fun h=>by cases h)
  refine zYV ?_;refine zAe ?_;obtain⟨rfl,rfl⟩:=Prod.mk.inj (Option.some.inj h)
  unfold zBC;exact⟨_,Le.refl _ _,rfl,rfl⟩
 | true =>
  refine zAE rfl (fun h=>by cases h) (fun _=>?_)
  refine zAf ?_;show Tri ..;rw[if_pos rfl]at h;obtain⟨n1,hn1,h⟩:=zAc h;obtain⟨hcnt,hn1⟩:=zAw hn1;obtain rfl:=Option.some.inj hn1;refine zYf [8] [] rfl ?_;refine⟨_,⟨k,c,t,ks,hcnt,rfl,fun v hp' n' keys h1 h2 h3 h4 h5=>?_⟩,fun _ _ _ h=>h⟩
  have hv1:v.one=true/\∀ m,n'<m->v.lt m=true:=by
   rcases h3 with ⟨_,rfl,_⟩ | ⟨q,_,_,_,rfl,_,_,hk,_⟩
   ·exact⟨rfl,fun _ _=>rfl⟩
   ·exact⟨rfl,fun m hm=>decide_eq_true (Nat.lt_trans (h5 q (by rw[hk]; exact List.mem_cons_self)).2 hm)⟩
  refine zQ3 (d:=16) ?_;refine zAi rfl rfl rfl rfl rfl rfl trivial ?_;refine zGZ (sz:=4) (cs:=[.s (.int .i64 0),.s (.str []),.s (.int .i64 0),.nl 4]) (cs':=zBi k t c v) (p:=.op n' 0) rfl rfl rfl rfl rfl (.inr ⟨n',rfl⟩) rfl (zEk (bt:=24) (by show(bif Nat.beq n' n' then _ else hp' n')=_; rw[Nat.beq_refl]; rfl)) rfl rfl rfl (by simp only[zBi,List.all_cons,List.all_nil,hv1.1]; rfl) (by have h0:v.lt (n'+1)=true:=hv1.2 _ (Nat.lt_succ_self _); show AV.ltAll (n'+1) (zBi k t c v)=true; simp only[zBi,AV.ltAll,h0]; rfl) ?_;show Tri ..
  refine zIu [(1,.s (.sl 1 (path.map (irow .i64)))),(5,.s (.pt (Nd.enc (.mk rk rt rc rks)))),(6,.op 0 0),(8,.op n' 0)] (n'+1) ⟨rfl,rfl,rfl,rfl,trivial⟩ rfl fun H hH=>?_
  have g1:H n'=some (.box 24 (zBi k t c v)):=(hH n').trans (by
   show putC (fun m=>bif Nat.beq m n' then some (Ob.box 24 [.s (.int .i64 0),.s (.str []),.s (.int .i64 0),.nl 4]) else hp' m) (.op n' 0) (zBi k t c v) n'=_;rw[zGm (bt:=24) (cs:=[.s (.int .i64 0),.s (.str []),.s (.int .i64 0),.nl 4]) (by simp only[Nat.beq_refl,cond_true])]
   simp only[Nat.beq_refl,cond_true])
  have g2:∀ m,m<n'->H m=hp' m:=fun m hm=>(hH m).trans (by
   show putC (fun m=>bif Nat.beq m n' then some (Ob.box 24 [.s (.int .i64 0),.s (.str []),.s (.int .i64 0),.nl 4]) else hp' m) (.op n' 0) (zBi k t c v) m=_;rw[zBQ (show m ≠ n' by omega),zEi (show m ≠ n' by omega)]; rfl)
  clear hH
  have g0:H 0=some (.box 24 [.s (.int .i64 0),.s (.str []),.s (.int .i64 0),.nl 4]):=(g2 0 h1).trans (h2 0 (Nat.lt_succ_self 0))
  obtain⟨w,hat⟩:=At.ofV (zEk g1) (h3.frame fun m hm=>g2 m (h5 m hm).2)
  have hnd:(zBp (.op n' 0)::keys).Nodup:=List.nodup_cons.2 ⟨fun hm=>Nat.lt_irrefl _ (h5 n' hm).2,h4⟩
  refine zYV ?_;refine⟨_,⟨.op n' 0,.mk k t c ks,path,keys,w,rfl,.inr ⟨n',rfl⟩,hat,hnd,fun hf=>?_,fun p1 y F hf hole hF=>?_⟩,fun _ _ _ h=>h⟩
  ·rw[hf]at h;refine zAa ?_;refine zYV ?_;refine zAE rfl (fun _=>?_) (fun h=>by cases h)
   obtain⟨rfl,rfl⟩:=Prod.mk.inj (Option.some.inj h)
   refine zAh (Le.forgetH [(6,.op 0 0)] H (n'+1) ⟨rfl,trivial⟩ (fun _=>rfl) rfl) ?_;refine zYV ?_;refine zAi rfl rfl rfl rfl rfl rfl trivial ?_;refine zGZ (sz:=4) (cs:=[.s (.int .i64 0),.s (.str []),.s (.int .i64 0),.nl 4]) (cs':=[.s (.int .i64 0),.s (.str []),.s (.int .i64 0),.nl 4]) (p:=.op 0 0) rfl rfl rfl rfl rfl (.inr ⟨0,rfl⟩) rfl (zEk (bt:=24) g0) rfl rfl rfl rfl rfl ?_;refine zAi rfl rfl rfl rfl rfl rfl trivial ?_;refine zAe ?_;unfold zBC
   refine⟨_,Le.refl _ _,(zIG (bt:=24) (cells:=[.s (.int .i64 0),.s (.str []),.s (.int .i64 0),.nl 4]) rfl ?_ rfl rfl rfl).trans rfl,rfl⟩
   show putC H (.op 0 0) _ 0=_;rw[zGm (bt:=24) (cs:=[.s (.int .i64 0),.s (.str []),.s (.int .i64 0),.nl 4]) g0]; rfl
  ·rw[hf]at h;obtain⟨keys1,w1,hat1,hl1,hnd1⟩:=hole.here hnd;refine zQ3 (d:=19) ?_;refine zAi rfl rfl rfl rfl rfl rfl trivial ?_;refine zAi rfl rfl rfl rfl rfl rfl trivial ?_;refine zAi rfl rfl rfl rfl rfl rfl trivial ?_;refine zAi rfl rfl rfl rfl rfl (zDe hl1 (.inl rfl) rfl rfl) trivial ?_;refine zAi rfl rfl rfl rfl rfl rfl trivial ?_;refine zAh (Le.forgetH [(5,.s (.pt (Nd.enc (.mk rk rt rc rks)))),(6,.op 0 0),(8,.op n' 0),(9,p1),(10,.s (.bool true))] H (n'+1) ⟨rfl,rfl,rfl,rfl,rfl,trivial⟩ (fun _=>rfl) rfl) ?_;refine zAa ?_;refine zYV ?_;show Tri ..
   refine zAE rfl (fun h=>by cases h) (fun _=>?_)
   refine zAf ?_;show Tri ..;obtain⟨b2,hb2,h⟩:=zAc h;refine zAa ?_;refine zYV ?_;refine⟨_,⟨f,_,_,hb2,rfl,rfl⟩,?_⟩
   show Tri ..;cases b2 with
   | false =>
    refine zAE rfl (fun _=>?_) (fun h=>by cases h)
    obtain⟨rfl,rfl⟩:=Prod.mk.inj (Option.some.inj h)
    refine zAh (Le.forgetH [(6,.op 0 0)] H (n'+1) ⟨rfl,trivial⟩ (fun _=>rfl) rfl) ?_;refine zYV ?_;refine zAi rfl rfl rfl rfl rfl rfl trivial ?_;refine zGZ (sz:=4) (cs:=[.s (.int .i64 0),.s (.str []),.s (.int .i64 0),.nl 4]) (cs':=[.s (.int .i64 0),.s (.str []),.s (.int .i64 0),.nl 4]) (p:=.op 0 0) rfl rfl rfl rfl rfl (.inr ⟨0,rfl⟩) rfl (zEk (bt:=24) g0) rfl rfl rfl rfl rfl ?_;refine zAi rfl rfl rfl rfl rfl rfl trivial ?_;refine zAe ?_;unfold zBC
    refine⟨_,Le.refl _ _,(zIG (bt:=24) (cells:=[.s (.int .i64 0),.s (.str []),.s (.int .i64 0),.nl 4]) rfl ?_ rfl rfl rfl).trans rfl,rfl⟩
    show putC H (.op 0 0) _ 0=_;rw[zGm (bt:=24) (cs:=[.s (.int .i64 0),.s (.str []),.s (.int .i64 0),.nl 4]) g0]; rfl
   | true =>
    refine zAE rfl (fun h=>by cases h) (fun _=>?_)
    refine zAf ?_;show Tri ..;rw[if_pos rfl]at h;obtain⟨n2,hn2,h⟩:=zAc h;obtain⟨hcnt2,hn2⟩:=zAw hn2;obtain rfl:=Option.some.inj hn2;refine zAh (Le.forgetH [(5,.s (.pt (Nd.enc (.mk rk rt rc rks)))),(6,.op 0 0),(8,.op n' 0),(9,p1)] H (n'+1) ⟨rfl,rfl,rfl,rfl,trivial⟩ (fun _=>rfl) rfl) ?_;refine zYV ?_;refine zAi rfl rfl rfl rfl rfl (zDe hl1 (.inr rfl) rfl rfl) trivial ?_;refine zAi rfl rfl rfl rfl rfl rfl trivial ?_;refine⟨_,⟨rk,rc,rt,rks,hcnt2,rfl,fun v2 hp2 n2 keys2 q1 q2 q3 q4 q5=>?_⟩,fun _ _ _ h=>h⟩
    refine zQ3 (d:=31) ?_;refine zAi rfl rfl rfl rfl rfl (zEZ hl1 rfl rfl) trivial ?_;have hb1:zBp p1<n'+1:=by
     rcases hole.base with h | h
     ·have:zBp p1=n':=h
      omega
     ·have:=(h5 _ h).2; omega
    obtain⟨yk,yt,yc,yks⟩:=y;obtain⟨vy,hcy,_⟩:=hat1.full;have hcy2:zAR hp2 p1=some (zBi yk yt yc vy):=(zCk hl1 (q2 _ hb1)).trans hcy;have hv2:v2.one=true/\v2.lt n2=true:=by
     rcases q3 with ⟨_,rfl,_⟩ | ⟨q,_,_,_,rfl,_,_,hk,_⟩
     ·exact⟨rfl,rfl⟩
     ·exact⟨rfl,decide_eq_true (q5 q (by rw[hk]; exact List.mem_cons_self)).2⟩
    refine zGZ (sz:=4) (cs':=zBi rk rt rc v2) rfl rfl rfl rfl rfl hl1 rfl hcy2 rfl rfl rfl (by simp only[zBi,List.all_cons,List.all_nil,hv2.1]; rfl) (by show AV.ltAll n2 (zBi rk rt rc v2)=true; simp only[zBi,AV.ltAll,hv2.2]; rfl) ?_;show Tri ..;refine zIu [(6,.op 0 0),(8,.op n' 0)] n2 ⟨rfl,rfl,trivial⟩ rfl fun H2 hH2=>?_
    have hH2:∀ m,H2 m=putC hp2 p1 (zBi rk rt rc v2) m:=hH2
    have hcp:zAR H2 p1=some (zBi rk rt rc v2):=(zCk hl1 (hH2 _)).trans (zJr hl1 hcy2)
    have hb2k:∀ m∈keys2,H2 m=hp2 m:=fun m hm=>(hH2 m).trans (zBQ (by have hm1:n'+1<=m:=(q5 m hm).1; omega))
    obtain⟨w3,hat3⟩:=At.ofV hcp (q3.frame hb2k)
    obtain⟨keys0,rest,w0',a1,a2,a3,a4,a5⟩:=hole;have hrest:∀ m,m=n'∨m∈rest->m<n'+1:=fun m hm=>by
     rcases hm with rfl | hm
     ·omega
     ·have:=(h5 m (a1.mem_iff.2 (List.mem_append_right _ hm))).2; omega
    obtain⟨keys3,w4,hperm,hfin⟩:=a5 H2 (.mk rk rt rc rks) keys2 w3 (Sim.put (c:=zBi rk rt rc v2) hl1 hcy fun m hm=>(hH2 m).trans (zIE hl1 (q2 m (hrest m hm)) (q2 _ hb1))) hat3;have hput:F (.mk rk rt rc rks)=putL (.mk k t c ks) path (.mk rk rt rc rks):=(hF _).symm;rw[hput]at hfin;have hn0:∀ m,m=n'∨m∈keys3->m ≠ 0:=fun m hm=>by
     have e1:1<=n':=h1;rcases hm with rfl | hm
     ·omega
     ·rcases List.mem_append.1 (hperm.mem_iff.1 hm) with hm | hm
      ·have e2:1<=m:=(h5 m (a1.mem_iff.2 (List.mem_append_right _ hm))).1
       omega
      ·have e2:n'+1<=m:=(q5 m hm).1
       omega
    have hatD:At (fun m=>bif Nat.beq m 0 then none else H2 m) 24 (.op n' 0) (putL (.mk k t c ks) path (.mk rk rt rc rks)) keys3 [] w4:=hfin.frame (.inr ⟨n',rfl⟩) fun m hm=>by rw[zEi (hn0 m hm)]; rfl
    obtain⟨cs,hcs,hrd⟩:=hatD.rd;rcases zCP (sz:=4) (.inr ⟨n',rfl⟩) hcs with ⟨q,i,e,rows,h1,_⟩ | ⟨q,bt,h1,hbt⟩
    ·cases h1
    cases h1;refine zAh (Le.givePart [(6,.op 0 0),(8,.s (.pt (Nd.enc (putL (.mk k t c ks) path (.mk rk rt rc rks)))))] (fun m=>bif Nat.beq m 0 then none else H2 m) (fun m=>bif Nat.beq m 0 then H2 m else none) (fun m ob hm=>by
     cases e:Nat.beq m 0 with
     | true=>rw[e]at hm; cases hm
     | false=>rw[e]at hm; exact hm) (fun m ob hm=>by
     cases e:Nat.beq m 0 with
     | true=>rw[e]at hm; exact hm
     | false=>rw[e]at hm; cases hm) (fun m ob ob' h1 h2=>by
     cases e:Nat.beq m 0 with
     | true=>rw[e]at h1; cases h1
     | false=>rw[e]at h2; cases h2) ⟨.inl rfl,.inr (Rd.box (off:=0) hbt hrd.1 hrd.2),trivial⟩) ?_
    have hb0:0 ≠ zBp p1:=by
     rcases a4 with rfl | a4
     ·exact Ne.symm (hn0 n' (.inl rfl))
     ·exact Ne.symm (hn0 _ (.inr (hperm.mem_iff.2 (List.mem_append_left _ a4))))
    have g3:H2 0=some (.box 24 [.s (.int .i64 0),.s (.str []),.s (.int .i64 0),.nl 4]):=(hH2 0).trans ((zBQ hb0).trans ((q2 0 (Nat.succ_pos n')).trans g0))
    clear hrd hcs hatD hfin hput
    generalize putL (.mk k t c ks) path (.mk rk rt rc rks)=T1 at *;obtain⟨k9,t9,c9,ks9⟩:=T1;obtain⟨b3,hb3,h⟩:=zAc h;refine zIu [(6,.op 0 0),(8,.s (.pt (Nd.enc (.mk k9 t9 c9 ks9))))] n2 ⟨rfl,rfl,trivial⟩ rfl fun H3 hH3=>?_
    have g4:H3 0=some (.box 24 [.s (.int .i64 0),.s (.str []),.s (.int .i64 0),.nl 4]):=(hH3 0).trans g3;refine zAa ?_;refine zYV ?_;refine⟨_,⟨f,_,_,hb3,rfl,rfl⟩,?_⟩
    show Tri ..;cases b3 with
    | false =>
     refine zAE rfl (fun _=>?_) (fun h=>by cases h)
     obtain⟨rfl,rfl⟩:=Prod.mk.inj (Option.some.inj h)
     refine zAh (Le.forgetH [(6,.op 0 0)] H3 n2 ⟨rfl,trivial⟩ (fun _=>rfl) rfl) ?_;refine zYV ?_;refine zAi rfl rfl rfl rfl rfl rfl trivial ?_;refine zGZ (sz:=4) (cs:=[.s (.int .i64 0),.s (.str []),.s (.int .i64 0),.nl 4]) (cs':=[.s (.int .i64 0),.s (.str []),.s (.int .i64 0),.nl 4]) (p:=.op 0 0) rfl rfl rfl rfl rfl (.inr ⟨0,rfl⟩) rfl (zEk (bt:=24) g4) rfl rfl rfl rfl rfl ?_;refine zAi rfl rfl rfl rfl rfl rfl trivial ?_;refine zAe ?_;unfold zBC
     refine⟨_,Le.refl _ _,(zIG (bt:=24) (cells:=[.s (.int .i64 0),.s (.str []),.s (.int .i64 0),.nl 4]) rfl ?_ rfl rfl rfl).trans rfl,rfl⟩
     show putC H3 (.op 0 0) _ 0=_;rw[zGm (bt:=24) (cs:=[.s (.int .i64 0),.s (.str []),.s (.int .i64 0),.nl 4]) g4]; rfl
    | true =>
     refine zAE rfl (fun h=>by cases h) (fun _=>?_)
     obtain⟨rfl,rfl⟩:=Prod.mk.inj (Option.some.inj h)
     refine zAf ?_;refine zAh (Le.forgetH [(6,.op 0 0),(8,.s (.pt (Nd.enc (.mk k9 t9 c9 ks9))))] H3 n2 ⟨rfl,rfl,trivial⟩ (fun _=>rfl) rfl) ?_;refine zYV ?_;refine zAi rfl rfl rfl rfl rfl rfl trivial ?_;refine zGZ (sz:=4) (cs:=[.s (.int .i64 0),.s (.str []),.s (.int .i64 0),.nl 4]) (cs':=zBi k9 t9 c9 (.s (.sl 4 (Nd.encs ks9)))) (p:=.op 0 0) rfl rfl rfl rfl rfl (.inr ⟨0,rfl⟩) rfl (zEk (bt:=24) g4) rfl rfl rfl rfl rfl ?_;refine zAi rfl rfl rfl rfl rfl rfl trivial ?_;refine zAe ?_;unfold zBC
     refine⟨_,Le.refl _ _,(zIG (bt:=24) (cells:=zBi k9 t9 c9 (.s (.sl 4 (Nd.encs ks9)))) rfl ?_ rfl rfl rfl).trans rfl,rfl⟩
     show putC H3 (.op 0 0) _ 0=_;rw[zGm (bt:=24) (cs:=[.s (.int .i64 0),.s (.str []),.s (.int .i64 0),.nl 4]) g4]; rfl
end Go.Proofs.YtffhjiplcfncdaaGreat
namespace Go.Abs
theorem PSound.giveTop {P:Program}{f e sz:Nat}{R:List AV->(Nat->Option Ob)->Nat->(AV->(Nat->Option Ob)->Nat->Prop)->Prop}{S:List AV->List S->List (List S)->Prop} (h:PSound P f (zQY R))
  (hS:∀ xs cs rs,S xs cs rs->R xs (fun _=>none) 0 fun x hp n=>∃ q rows hpD,x = .agg (cs.map .s++[.orow q])/\hp q=some (.arow e sz rows)/\rows.length=rs.length/\(∀ r∈rs,r.length=sz)/\(∀ k ob,hpD k=some ob->hp k=some ob/\k ≠ q) /\
   ∀ (i:Nat) x s,rows.flatten[i]? = some x->rs.flatten[i]? = some s->Rd hpD x s) :
  PSound P f (zD5 fun xs os x os'=>∃ cs rs,os=[]/\x = .agg (cs.map .s++[.orow 0])/\os'=[some (.row e sz rs)]/\S xs cs rs):=by
 refine PSound.ofOwn h.1 fun G w β xs vs os x os' hlt hgl hv hxl hob ⟨cs,rs,ho,hx,ho',hs⟩=>?_
 subst ho; subst hx; subst ho'
 refine(h.2.2.2 R rfl G w β xs vs (fun _=>none) 0 _ hlt hgl hv hxl ⟨fun k ob hk=>(by cases hk),fun k ob hk=>(by cases hk),fun k k' ob ob' hk=>(by cases hk)⟩ (hS xs cs rs hs)).mono ?_;rintro e' w' ⟨v,G',β',x,hp',n',rfl,⟨q,rows,hpD,rfl,hq,hlen,hsz,hD,hrd⟩,hn,hfr,hsub,hnew,hlt',hx,hxl,hob,hst⟩
 let c:Cx:=zFb P w β (fun _=>none) 0 G 0
 have hk:Keep G G' w w':=⟨hsub,fun b hb=>hfr.old b (hlt b hb) (by rintro⟨k,ob,h,_⟩; cases h)⟩
 have hc:Conc c G' β' ⟨fun _=>.junk,hpD,n'⟩ { tmps:=#[],defers:=[] } w':={
  defers:=rfl
  size:=rfl
  env:=fun t=>by simp only[AVal]
  envlt:=fun t=>rfl
  hp:=fun k ob hk=>hob.obs k ob (hD k ob hk).1
  hplt:=fun k ob hk=>hob.lts k ob (hD k ob hk).1
  inj:=fun k k' ob ob' hk hk'=>hob.inj k k' ob ob' (hD k ob hk).1 (hD k' ob' hk').1
  lt:=hlt'
  sub:=hsub
  new:=hnew
  fr:=hfr
  stay:=⟨hn,hst⟩
  glob:=hgl.keep hk }
 have hmine:∀ b,c.mine b->w.heap.size<=b:=fun b hb=>by
  rcases hb with ⟨k,ob,h,_⟩ | h
  ·cases h
  ·exact h
 have hk':Keep G' (allG G' β' hpD) w' w':=⟨fun _ h=>.inl h,fun _ _=>rfl⟩
 refine⟨v,allG G' β' hpD,fun _=>β' q,rfl,⟨hfr.os,hfr.tape,hfr.output,hfr.size,fun b hb _=>hfr.old b hb (by rintro⟨k,ob,h,_⟩; cases h)⟩,fun b hb=>.inl (hsub b hb),fun b hb=>?_,fun b hb=>?_,?_,?_,Nat.zero_le _,⟨fun i ob hi=>?_,fun i j ob ob' hi hj hne=>?_⟩,fun i ob hi=>absurd hi (Nat.not_lt_zero _)⟩
 ·rcases hb with hb | ⟨k,ob,h1,h2⟩
  ·exact(hnew b hb).imp id fun h=>.inr (hmine b h)
  ·exact .inr (.inr (hmine b (row_block (hc.hp k ob h1) b h2).2))
 ·rcases hb with hb | ⟨k,ob,h1,h2⟩
  ·exact hlt' b hb
  ·exact hc.blk_lt h1 h2
 ·simp only[AVal]at hx ⊢;obtain⟨us,rfl,hus⟩:=hx;refine⟨us,rfl,AVals.mk (by rw[hus.length]; simp) fun i y u hy hu=>?_⟩
  rw[List.getElem?_append]at hy
  by_cases hi:i<(cs.map AV.s).length
  ·rw[if_pos hi]at hy;obtain⟨u',hu',hr⟩:=hus.get (i:=i) (x:=y) (by rw[List.getElem?_append,if_pos hi]; exact hy)
   rw[hu]at hu'; cases hu'
   rw[List.getElem?_map]at hy;obtain⟨s,_,rfl⟩:=Option.map_eq_some_iff.1 hy;simp only[AVal]at hr ⊢;exact hr.keep hk'
  ·rw[if_neg hi]at hy;have h0:i - (cs.map AV.s).length=0 :=(by have:=(List.getElem?_eq_some_iff.1 hy).1; simpa using this);rw[h0]at hy;cases hy;obtain⟨u',hu',hr⟩:=hus.get (i:=i) (x:=.orow q) (by rw[List.getElem?_append,if_neg hi,h0]; rfl)
   rw[hu]at hu'; cases hu'
   simp only[AVal]at hr ⊢;exact hr
 ·simp only[AV.lt]
  refine zDE fun i y hy=>?_
  rw[List.getElem?_append]at hy;split at hy
  ·rw[List.getElem?_map]at hy;obtain⟨s,_,rfl⟩:=Option.map_eq_some_iff.1 hy
   rfl
  ·rename_i hi
   have h0:i - (cs.map AV.s).length=0 :=(by have:=(List.getElem?_eq_some_iff.1 hy).1; simpa using this);rw[h0]at hy;cases hy
   rfl
 ·match i,hi with
  | 0,hi =>
   cases hi;refine⟨?_,rfl⟩
   obtain⟨hl,hz,ho⟩:=hob.obs q _ hq;refine⟨hsz,hz,?_⟩
   rcases ho with ⟨h1,rfl⟩ | ⟨b,cap,cur,h1,h2,h3,h4,h5,h6,h7⟩
   ·exact .inl ⟨h1,List.length_eq_zero_iff.1 (by simpa using hlen.symm)⟩
   ·refine .inr ⟨b,cap,cur,by rw[← hlen]; exact h1,by rw[← hlen]; exact h2,h3,h4,?_,.inr (hmine b h6),fun i s hi=>?_⟩
    ·rintro(hb | ⟨k,ob,g1,g2⟩)
     ·exact h5 hb
     ·exact hob.inj k q ob _ (hD k ob g1).1 hq (hD k ob g1).2 b g2 (by rw[h1]; rfl)
    ·have hfl:=zAW hl;have hfs:=zAW hsz;have hil:i<rows.flatten.length :=(by rw[hfl,hlen,← hfs]; exact(List.getElem?_eq_some_iff.1 hi).1);obtain⟨u,hu,hr',_⟩:=h7 i _ (List.getElem?_eq_getElem hil)
     exact⟨u,hu,(hrd i _ s (List.getElem?_eq_getElem hil) hi).rep hc hr'⟩
  | i+1,hi=>simp at hi
 ·match i,j,hi,hj with
  | 0,0,_,_=>exact absurd rfl hne
  | 0,j+1,_,hj=>simp at hj
  | i+1,_,hi,_=>simp at hi
end Go.Abs
namespace Go.Proofs.YtffhjiplcfncdaaGreat
open Go.Abs
theorem VAt.rd {hp:Nat->Option Ob}{e:Nat}{v:AV}{ks:List Nd}{keys:List Nat} (h:VAt hp e v ks keys):Rd hp v (.sl 4 (Nd.encs ks)):=by
 rcases h with ⟨rfl,rfl,_⟩ | ⟨q,rows,keys',w,rfl,hq,hlen,rfl,h⟩
 ·exact .s _
 ·exact Rd.rows hq hlen fun j x hj=>(by have:=LAt.rd h j x hj; rwa [Nat.zero_add]at this)
def zT5 (xs:List AV) (cs:List S) (rs:List (List S)):Prop:=∃ (a0:Nd) (k c:Int) (t:List UInt8) (ks:List Nd),zCI a0=some (.mk k t c ks)/\xs=[.agg ((Nd.enc a0).map .s)]/\cs=[.int .i64 k,.str t,.int .i64 c]/\rs=Nd.encs ks
theorem zMC:PSound Tryz.prog 29 (zD5 fun xs os x os'=>∃ cs rs,os=[]/\x = .agg (cs.map .s++[.orow 0])/\os'=[some (.row 24 4 rs)]/\zT5 xs cs rs):=by
 refine PSound.giveTop zHt fun xs cs rs ⟨⟨k0,t0,c0,ks0⟩,k,c,t,ks,hm,hx,hcs,hrs⟩=>?_
 subst hx; subst hcs; subst hrs
 obtain⟨⟨hq,hne⟩,hm⟩:=zAw hm;cases hm;refine⟨k0,c0,t0,ks0,hq,rfl,fun v hp' n' keys _ _ hv hnd _=>?_⟩
 rcases hv with ⟨rfl,_⟩ | ⟨q,rows,keys',w,rfl,hq,hlen,rfl,hl⟩
 ·exact absurd rfl hne
 refine⟨q,rows,fun k=>if k∈keys' then hp' k else none,rfl,hq,by rw[Nd.encs_eq,List.length_map]; exact hlen,fun r hr=>?_,fun k ob hk=>?_,zST fun j r s hr hs=>?_⟩
 ·rw[Nd.encs_eq]at hr;obtain⟨x,_,rfl⟩:=List.mem_map.1 hr;cases x; rfl
 ·dsimp only at hk;split at hk
  ·rename_i hm
   exact⟨hk,fun e=>(List.nodup_cons.1 hnd).1 (by rw[← e]; exact hm)⟩
  ·cases hk
 ·rw[Nd.encs_eq,List.getElem?_map]at hs;cases hx:ks0[j]? with
  | none=>rw[hx]at hs; cases hs
  | some x =>
   rw[hx]at hs; cases hs
   obtain⟨keys0,rest,w0,hperm,hat,_⟩:=LAt.hole (i:=0) hl hnd hx;rw[Nat.zero_add]at hat;obtain⟨k2,t2,c2,ks2⟩:=x;obtain⟨v,hc,hv⟩:=hat.full;rw[zFJ hq,hr]at hc;cases hc;exact RdC.node (VAt.rd (hv.frame fun k hk=>by
    show(if k∈keys' then hp' k else none)=hp' k;rw[if_pos (hperm.mem_iff.2 (List.mem_append_left _ hk))]))
def zLS (xs:List AV) (os:List Ob) (x:AV) (os':List (Option Ob)):Prop:=∃ (a0:Nd) (y0:Nd),zCI a0=some y0/\xs=[.agg ((Nd.enc a0).map .s)]/\os=[]/\x = .agg (match y0 with | .mk k t c _=>[.s (.int .i64 k),.s (.str t),.s (.int .i64 c),.orow 0])/\os'=[some (.row 24 4 (match y0 with | .mk _ _ _ ks=>Nd.encs ks))]
def zFZ:zAq:=zD5 (fun xs os x os'=>zLS xs os x os')
theorem zHC:PSound Tryz.prog 29 zFZ :=
 PSound.ofOwn zMC.1 fun G w β xs vs os x os' h1 h2 h3 h4 h5 ⟨a0,⟨k,t,c,ks⟩,hm,hx,ho,hr,ho'⟩ =>
  zMC.2.2.1 _ rfl G w β xs vs os x os' h1 h2 h3 h4 h5 ⟨[.int .i64 k,.str t,.int .i64 c],Nd.encs ks,ho,hr,ho',a0,k,c,t,ks,hm,hx,rfl,rfl⟩
end Go.Proofs.YtffhjiplcfncdaaGreat
namespace Go.Proofs
open Go.RowKit Go.Lib
theorem Tryz.Grow_nil_sNode (w:World) :
  Calls Tryz.prog 156 #[.slice none 0 0,.int .i64 0] w fun e w'=>e = .returned (.slice none 0 0)/\w'=w:=by
 have h2:wrap64 0=0:=by unfold wrap64; omega
 go_enter Tryz.func156,Tryz.ntmps156
 go_wp2
 go_ret
 exact⟨rfl,rfl⟩
set_option maxHeartbeats 4000000 in
theorem Tryz.Grow_new_sNode (i0:TypeInfo) (z:Value) (hi0:Tryz.prog.info? 24=some i0) (hz0:i0.zero=some z) (hs0:0<i0.size)
  (n:Nat) (w:World) (hroom:0<n) (hbig:n * i0.bytes<=140737488355328) (h63:n<=4611686018427387904) :
  Calls Tryz.prog 156 #[.slice none 0 0,.int .i64 n] w fun e w' =>
   e = .returned (.slice (some ⟨w.heap.size,0,none⟩) 0 (grownCap w n 0 24)) /\
   w'=w.drew.alloc (.cells (#[]++Builtin.zeroCells z.cells n++Builtin.zeroCells z.cells (grownCap w n 0 24 - n)) 24):=by
 have h1:¬ ((n:Int)<0) :=(by omega);have h2:wrap64 0=0 :=(by unfold wrap64; omega);have h3:wrap64 (n:Int)=(n:Int) :=(by unfold wrap64; omega);have h4:(n:Int) > 0 :=(by omega);have hold:(Builtin.firstCells i0.size 0 (.slice none 0 0)).run Tryz.prog w.drew = .ok ([]:List Value).toArray w.drew:=run_firstCells_none w.drew i0.size 0 0 0;have hrz:∀ ty,(Builtin.append_ #[22,3] ty #[.slice none 0 0,.int .i64 (n:Int)]).run Tryz.prog w =
   .ok (.slice (some ⟨w.heap.size,0,none⟩) n (grownCap w n 0 24)) (w.drew.alloc (.cells (#[]++Builtin.zeroCells z.cells n++Builtin.zeroCells z.cells (grownCap w n 0 24 - n)) 24)):=fun ty=>by
  have h:=Lib.run_append_grow_zeros w 22 3 ty 24 i0 z .i64 .i64 Tryz.underlying22 Tryz.underlying3 hi0 hz0 none 0 0 [] hold n (by omega) hs0 (by omega) (by omega) (by omega)
   (by rw[Nat.zero_add]; exact growslice_fits hroom hbig)
  rw[Nat.zero_add]at h;exact h
 have hGn:n<=grownCap w n 0 24:=grownCap_ge w _ _ _;obtain⟨G,hG⟩:∃ G,G=grownCap w n 0 24:=⟨_,rfl⟩
 rw[← hG]at hrz hGn ⊢;have hG63:G<=9223372036854775807:=by
  have:=grownCap_le_maxLen w n 0 24 (by unfold maxLen; omega)
  rw[← hG]at this;unfold maxLen at this
  omega
 clear hold hG
 go_enter Tryz.func156,Tryz.ntmps156
 go_wp2_with (at_builtin; refine Lib.wpList_append_run _ rfl _ _ _ _ rfl _ _ rfl rfl _ _ (hrz _) ?_)
 all_goals (go_ret; exact⟨rfl,rfl⟩)
end Go.Proofs
namespace Go.Proofs.YtffhjiplcfncdaaGreat
open Go.Abs
theorem zYk (z:Array Value) (n:Nat):(Builtin.zeroCells z n).size=n * z.size:=by simp[Builtin.zeroCells]
def zJh (xs:List AV) (r:Ret):Prop:=∃ (a0:Int) (y0:List Nd),zEa a0=some y0/\xs=[.nl 4,.s (.int .i64 a0)]/\r = .row 24 4 (Nd.encs y0)
def zF4:zAq:=zYS fun xs r=>zJh xs r
theorem zIS:PSound Tryz.prog 156 zF4 :=
 ⟨Tryz.call156,fun G w xs vs r hl hg _ hv ⟨a0,y0,hm,hx,hr⟩=>by
  subst hx; subst hr
  obtain⟨⟨q1,q2⟩,hm⟩:=zAw hm;obtain rfl:=Option.some.inj hm;obtain⟨n,rfl⟩:=Int.eq_ofNat_of_zero_le q1;simp only[AVals,AVal,Rep]at hv;obtain⟨_,_,rfl,rfl,_,_,rfl,rfl,rfl⟩:=hv
  by_cases h0:n=0
  ·subst h0;exact(Tryz.Grow_nil_sNode w).mono fun e w' ⟨h1,h2⟩=>by
    subst h2;exact⟨_,G,h1,Ext.refl hl,fun r hr=>(by cases hr),by decide,.inl ⟨rfl,rfl⟩⟩
  obtain⟨d,info,z,b1,b2,b3,b4,b5,b6,b7,b8,b9,b10⟩:=tokW 24 _ rfl;have i1:info.size=4:=b4;have i2:info.bytes=56:=b5;have hzs:z.cells.size=4:=zKr b7 b8 b9;refine(Tryz.Grow_new_sNode info z b3 b6 (by omega) n w (by omega) (by rw[i2]; omega) (by omega)).mono fun e w' ⟨h1,h2⟩=>?_
  have hge:n<=grownCap w n 0 24 :=(by unfold grownCap Question.cut; simp);generalize grownCap w n 0 24=g at *;refine⟨_,G,h1,?_,fun r hr=>(by cases hr),by decide,.inr ⟨w.heap.size,g,#[]++Builtin.zeroCells z.cells n++Builtin.zeroCells z.cells (g - n),rfl,Nat.zero_le _,?_,by rw[h2]; exact zDD w.drew _,fun h=>Nat.lt_irrefl _ (hl _ h),Nat.le_refl _,fun i s hi=>by cases hi⟩⟩
  ·rw[h2]
   exact(Ext.drew hl).trans (Ext.own (w:=w.drew) hl _)
  ·simp only[Array.size_append,Array.size_empty,zYk,hzs]
   omega,
 fun R hR=>(by cases hR),fun R hR=>(by cases hR)⟩
def zIM (xs:List AV) (r:Ret):Prop:=∃ (a0:List Nd) (y0:List Nd),zDZ a0=some y0/\xs=[.s (.sl 4 (Nd.encs a0))]/\r = .val (.s (.sl 4 (Nd.encs y0)))
def zFz:zAq:=zAs fun xs r=>zIM xs r
theorem zIl:PSound Tryz.prog 146 zFz:=by
 have gok:=@gok0 Tryz.prog;refine zAr tokW Tryz.call146 Tryz.func146 rfl (fun xs r h=>by obtain⟨_,_,_,rfl,_⟩:=h; show 1<=_; decide) _ rfl ?_;rintro xs r w0 G0 ⟨l,y,h,rfl,rfl⟩ _;obtain⟨hq,h⟩:=zAw h;obtain rfl:=Option.some.inj h;have hlen:(Nd.encs l).length=l.length:=rlen Nd.encs_eq l;refine zYV ?_;refine zAa ?_;refine zYV ?_;intro b hb;show Tri ..;cases b with
 | true =>
  have hl:=hb rfl;refine zAE rfl (fun _=>?_) (fun h=>by cases h)
  refine zYV ?_;refine zAe ?_;unfold zBC;exact⟨_,Le.refl _ _,congrArg (fun z=>some (AV.s (.sl 4 z))) hl.symm,rfl⟩
 | false =>
  refine zAE rfl (fun h=>by cases h) (fun _=>?_)
  refine zAf ?_;refine zYf [5,7] [] rfl ?_;refine And.intro (show(([]:List (List S)).length+(Nd.encs l).length) * 56<=140737488355328/\([]:List (List S)).length+(Nd.encs l).length<=9223372036854775807 from by rw[hlen]; simp only[List.length_nil]; omega) ?_;refine zAe ?_;unfold zBC;exact⟨_,Le.giveRow 1 (e:=24) (sz:=4) (rows:=Nd.encs l) rfl,rfl,rfl⟩
def zJg (xs:List AV) (r:Ret):Prop:=∃ (a0:List Int) (y0:List Int),zBG a0=some y0/\xs=[.s (.sl 1 ((List.map (irow .i64)) a0))]/\r = .val (.s (.sl 1 ((List.map (irow .i64)) y0)))
def zF3:zAq:=zAs fun xs r=>zJg xs r
theorem zIR:PSound Tryz.prog 93 zF3:=by
 have gok:=@gok0 Tryz.prog;refine zAr tokW Tryz.call93 Tryz.func93 rfl (fun xs r h=>by obtain⟨_,_,_,rfl,_⟩:=h; show 1<=_; decide) _ rfl ?_;rintro xs r w0 G0 ⟨l,y,h,rfl,rfl⟩ _;obtain⟨hq,h⟩:=zAw h;obtain rfl:=Option.some.inj h;have hlen:((List.map (irow .i64)) l).length=l.length:=rlen (fun _=>rfl) l;refine zYV ?_;refine zAa ?_;refine zYV ?_;intro b hb;show Tri ..;cases b with
 | true =>
  have hl:=hb rfl;refine zAE rfl (fun _=>?_) (fun h=>by cases h)
  refine zYV ?_;refine zAe ?_;unfold zBC;exact⟨_,Le.refl _ _,congrArg (fun z=>some (AV.s (.sl 1 z))) hl.symm,rfl⟩
 | false =>
  refine zAE rfl (fun h=>by cases h) (fun _=>?_)
  refine zAf ?_;refine zYf [5,7] [] rfl ?_;refine And.intro (show(([]:List (List S)).length+((List.map (irow .i64)) l).length) * 8<=140737488355328/\([]:List (List S)).length+((List.map (irow .i64)) l).length<=9223372036854775807 from by rw[hlen]; simp only[List.length_nil]; omega) ?_;refine zAe ?_;unfold zBC;exact⟨_,Le.giveRow 1 (e:=3) (sz:=1) (rows:=(List.map (irow .i64)) l) rfl,rfl,rfl⟩
def zAI (p:List Nd):List S:=[.sl 4 (Nd.encs p)]
def zHR (n:Nat) (xs:List AV) (r:Ret):Prop:=∃ (a0:List (List Nd)) (y0:List Nd),zBL n a0=some y0/\xs=[.s (.sl 1 ((List.map zAI) a0))]/\r = .row 24 4 (Nd.encs y0)
def zE7:zAq:=zAs fun xs r=>∃ n,zHR n xs r
theorem zYF {α:Type}{a b:α} (h:a=b:=by simp[List.map_append,List.map_take,List.map_drop,irow,brow,zEw,List.map_cons,List.map_nil,zD1,Nd.encs_eq,Nd.enc,zA4,zAK,zBy,zAI]):a=b :=
 h
theorem zHM:PSound Tryz.prog 153 zE7:=by
 have gok:∀ f s,look? f [(156,zF4)]=some s->PSound Tryz.prog f s:=zAo (by
  simp only[List.forall_mem_cons]
  exact⟨zIS,by simp⟩)
 refine zAr tokW Tryz.call153 Tryz.func153 rfl (fun xs r h=>by obtain⟨n,_,_,_,rfl,_⟩:=h; show 1<=36; decide) 36 rfl ?_;rintro xs r w0 G0 ⟨n,slices1,y0,h,rfl,rfl⟩ _;rw[zBL]at h;refine zYf [2] [] rfl ?_;refine zAh (Le.rnm [] [(0,.s (.sl 1 ((List.map zAI) slices1)))] [] 0 ⟨rfl,trivial⟩ trivial) ?_;refine zYV ?_;refine zAa ?_;refine zYf [] [10] rfl ?_;intro n2 hn2;obtain rfl:(slices1.length:Int)=n2:=(hn2.trans (congrArg (fun m:Nat=>(m:Int)) (rlen (fun _=>rfl) slices1))).symm;show Tri ..
 obtain⟨size5,hl,h⟩:=zAc h;refine zAm ⟨ofL [(0,.s (.sl 1 ((List.map zAI) slices1))),(3,.s (.int .i64 size5))],fun _=>none,0⟩ ?_ (fun σ' hle=>?_)
 ·refine zAl (zAy (X:=Nat×Int×Int) (fun y=>match y with | (k,x3,size4)=>⟨ofL [(0,.s (.sl 1 ((List.map zAI) slices1))),(3,.s (.int .i64 size4)),(9,.s (.sl 1 ((List.map zAI) slices1))),(10,.s (.int .i64 (slices1.length:Int))),(11,.s (.int .i64 x3))],fun _=>none,0⟩) (fun y=>zAY slices1 y.1 y.2.1 y.2.2=some size5) (fun y=>y.1) (n,0,0) hl ?_ ?_)
  ·exact(Le.forget _ ⟨rfl,rfl,rfl,rfl,rfl,trivial⟩)
  ·rintro⟨k,x3,size4⟩ h;cases k with
   | zero=>cases h
   | succ k =>
    replace h:zAY slices1 (k+1) x3 size4=some size5:=h;rw[zAY]at h;refine zYV ?_;refine zAa ?_;refine zAg rfl h (fun hb h=>?_) (fun hb h=>?_)
    ·refine zAf ?_;refine zAa ?_;refine zAl ?_;refine zYf [] [13] rfl ?_;obtain⟨e6,he6,h⟩:=zAc h;refine And.intro (zAp (fun _=>rfl) he6).1 ?_;intro r7 hr7;obtain rfl:[.sl 4 (Nd.encs e6)]=r7:=(hr7.trans (zAp (fun _=>rfl) he6).2.1).symm;refine zYf [] [17] rfl ?_;intro n8 hn8;obtain rfl:(e6.length:Int)=n8:=(hn8.trans (congrArg (fun m:Nat=>(m:Int)) (rlen Nd.encs_eq e6))).symm;refine zYV ?_;refine zAg rfl h (fun hb h=>?_) (fun hb h=>?_)
     ·cases h
     ·refine zAf ?_;refine zYU ?_;refine⟨(k,IntKind.i64.wrap (x3+1),IntKind.i64.wrap (size4+(e6.length:Int))),h,(Le.forget _ ⟨rfl,rfl,rfl,rfl,rfl,trivial⟩),Nat.lt_succ_self k⟩
    ·refine zAC ?_;cases h;exact(Le.forget _ ⟨rfl,rfl,trivial⟩)
 ·refine zAh hle ?_;refine zYf [24] [] rfl ?_;obtain⟨y9,hy9,h⟩:=zAc h;refine⟨_,⟨_,_,hy9,rfl,rfl⟩,?_⟩
  refine zAa ?_;refine zYf [] [26] rfl ?_;intro n10 hn10;obtain rfl:(slices1.length:Int)=n10:=(hn10.trans (congrArg (fun m:Nat=>(m:Int)) (rlen (fun _=>rfl) slices1))).symm;show Tri ..;obtain⟨l14,hl,h⟩:=zAc h;refine zAm ⟨ofL [(6,.orow 0)],ofH [(0,.row 24 4 (Nd.encs l14))],1⟩ ?_ (fun σ' hle=>?_)
  ·refine zAl (zAy (X:=Nat×Int×(List Nd)) (fun y=>match y with | (k,x11,l13)=>⟨ofL [(6,.orow 0),(25,.s (.sl 1 ((List.map zAI) slices1))),(26,.s (.int .i64 (slices1.length:Int))),(27,.s (.int .i64 x11))],ofH [(0,.row 24 4 (Nd.encs l13))],1⟩) (fun y=>zAZ slices1 y.1 y.2.1 y.2.2=some l14) (fun y=>y.1) (n,0,y9) hl ?_ ?_)
   ·exact(Le.rnm [(0,0)] _ _ _ ⟨rfl,rfl,rfl,rfl,trivial⟩ ⟨rfl,⟨_,rfl,rfl⟩,trivial⟩)
   ·rintro⟨k,x11,l13⟩ h;cases k with
    | zero=>cases h
    | succ k =>
     replace h:zAZ slices1 (k+1) x11 l13=some l14:=h;rw[zAZ]at h;refine zYV ?_;refine zAa ?_;refine zAg rfl h (fun hb h=>?_) (fun hb h=>?_)
     ·refine zAf ?_;refine zAa ?_;refine zAl ?_;refine zYf [] [29] rfl ?_;obtain⟨e15,he15,h⟩:=zAc h;refine And.intro (zAp (fun _=>rfl) he15).1 ?_;intro r16 hr16;obtain rfl:[.sl 4 (Nd.encs e15)]=r16:=(hr16.trans (zAp (fun _=>rfl) he15).2.1).symm;refine zAb [33] [] rfl ?_;obtain⟨hq,h⟩:=zAw h;refine And.intro (show((Nd.encs l13).length+(Nd.encs e15).length) * 56<=140737488355328/\(Nd.encs l13).length+(Nd.encs e15).length<=9223372036854775807 from by simp only[List.length_append,List.length_cons,List.length_nil,List.length_map,rlen Nd.encs_eq]at hq ⊢; omega) ?_
      refine zAh (Le.rnm [(1,0)] [(6,.orow 0),(25,.s (.sl 1 ((List.map zAI) slices1))),(26,.s (.int .i64 (slices1.length:Int))),(27,.s (.int .i64 x11))] [(0,.row 24 4 (Nd.encs (l13++e15)))] 1 ⟨rfl,rfl,rfl,rfl,trivial⟩ ⟨rfl,⟨_,rfl,congrArg (Ob.row 24 4) zYF⟩,trivial⟩) ?_;refine zYU ?_
      refine⟨(k,IntKind.i64.wrap (x11+1),l13++e15),h,(Le.rnm [(0,0)] _ _ _ ⟨rfl,rfl,rfl,rfl,trivial⟩ ⟨rfl,⟨_,rfl,rfl⟩,trivial⟩),Nat.lt_succ_self k⟩
     ·refine zAC ?_;cases h;exact(Le.rnm [(0,0)] _ _ _ ⟨rfl,trivial⟩ ⟨rfl,⟨_,rfl,rfl⟩,trivial⟩)
  ·refine zAh hle ?_;refine zYV ?_;refine zAe ?_;have hy:=osi h;subst hy;unfold zBC;exact⟨_,Le.refl _ _,0,rfl,rfl⟩
def zAG (p:(zO8×List Nd)):List S:=[.int .i64 p.1.1,.sl 1 ((List.map (irow .i64)) p.1.2.1),.int .i64 p.1.2.2.1,.int .i64 p.1.2.2.2.1,.sl 4 (Nd.encs p.1.2.2.2.2.1),.int .i64 p.1.2.2.2.2.2.1,.str p.1.2.2.2.2.2.2.1,.str p.1.2.2.2.2.2.2.2,.sl 4 (Nd.encs p.2)]
def zJJ (n:Nat) (xs:List AV) (r:Ret):Prop:=∃ (a0:(zO8×List Nd)) (a1:Int) (a2:List Nd) (y0:List Nd),zA1 n a0 a1 a2=some y0/\xs=[.agg ((zAG a0).map .s),.s (.int .i64 a1),.s (.sl 4 (Nd.encs a2))]/\r = .val (.s (.sl 4 (Nd.encs y0)))
def zBO:zAq:=zAs fun xs r=>∃ n,zJJ n xs r
theorem zCf:PSound Tryz.prog 143 zBO:=by
 have gok:∀ f s,look? f [(153,zE7)]=some s->PSound Tryz.prog f s:=zAo (by
  simp only[List.forall_mem_cons]
  exact⟨zHM,by simp⟩)
 refine zAr tokW Tryz.call143 Tryz.func143 rfl (fun xs r h=>by obtain⟨n,_,_,_,_,_,rfl,_⟩:=h; show 3<=24; decide) 24 rfl ?_;rintro xs r w0 G0 ⟨n,⟨⟨c1Ap,c1Av,c1Aj,c1Aq,c1Am,c1An,c1Au,c1At⟩,c1Ai⟩,n2,nodes3,y0,h,rfl,rfl⟩ _;rw[zA1]at h;refine zYV ?_;refine zAa ?_;refine zAA [] [12,21,22] [] rfl (by decide +kernel) ?_;obtain⟨hq,h⟩:=zAw h;refine And.intro ⟨hq.1,hq.2.1,Int.le_trans hq.2.2 (Int.ofNat_le.2 (Nat.le_of_eq (rlen Nd.encs_eq _).symm))⟩ ?_;intro r4 hr4
 obtain rfl:Nd.encs ((c1Ai.take c1Aj.toNat).drop (0:Int).toNat)=r4:=(hr4.trans (rcut Nd.encs_eq _ _ _)).symm;obtain⟨hq,h⟩:=zAw h;refine And.intro ⟨hq.1,Int.le_trans hq.2.1 (Int.ofNat_le.2 (Nat.le_of_eq (rlen Nd.encs_eq _).symm)),Int.le_refl _⟩ ?_;intro r5 hr5;obtain rfl:Nd.encs ((c1Ai.take (c1Ai.length:Int).toNat).drop (IntKind.i64.wrap (c1Aj+n2)).toNat)=r5:=(hr5.trans ((congrArg (fun m:Nat=>((Nd.encs c1Ai).take m).drop (IntKind.i64.wrap (c1Aj+n2)).toNat) (rlen Nd.encs_eq _)).trans (rcut Nd.encs_eq _ _ _))).symm;intro r6 hr6
 obtain rfl:(List.map zAI) [(c1Ai.take c1Aj.toNat).drop (0:Int).toNat,nodes3,(c1Ai.take (c1Ai.length:Int).toNat).drop (IntKind.i64.wrap (c1Aj+n2)).toNat]=r6:=(hr6.trans zYF).symm;obtain⟨y7,hy7,h⟩:=zAc h;refine⟨_,⟨_,_,_,hy7,rfl,rfl⟩,?_⟩
 refine zAe ?_;have hy:=osi h;subst hy;exact fin0 rfl rfl
def zEe (n:Nat) (xs:List AV) (r:Ret):Prop:=∃ (a0:Nd) (a1:Nd) (y0:Bool),zB2 n a0 a1=some y0/\xs=[.agg ((Nd.enc a0).map .s),.agg ((Nd.enc a1).map .s)]/\r = .val (.s (.bool y0))
def zBe (n:Nat) (xs:List AV) (r:Ret):Prop:=∃ (a0:List Nd) (a1:List Nd) (y0:Bool),zA0 n a0 a1=some y0/\xs=[.s (.sl 4 (Nd.encs a0)),.s (.sl 4 (Nd.encs a1)),.s (.fn 145)]/\r = .val (.s (.bool y0))
theorem zM4 (n:Nat) (ih_node_Equal:PSound Tryz.prog 145 (zAs (zEe n))) (ih_slices_EqualFunc_sNode:PSound Tryz.prog 144 (zAs (zBe n))):PSound Tryz.prog 145 (zAs (zEe (n+1))):=by
 have gok:∀ f s,look? f [(144,zAs (zBe n))]=some s->PSound Tryz.prog f s:=zAo (by
  simp only[List.forall_mem_cons]
  exact⟨ih_slices_EqualFunc_sNode,by simp⟩)
 refine zAr tokW Tryz.call145 Tryz.func145 rfl (fun xs r h=>by obtain⟨_,_,_,_,rfl,_⟩:=h; show 2<=31; decide) 31 rfl ?_;rintro xs r w0 G0 ⟨⟨a1A,a1C,a1D,a1B⟩,⟨b2A,b2C,b2D,b2B⟩,y0,h,rfl,rfl⟩ _;rw[zB2]at h;refine zYV ?_;refine zAa ?_;obtain⟨x3,hj,h⟩:=zAc h;refine zAm ⟨ofL [(4,.s (.bool x3))],fun _=>none,0⟩ ?_ (fun σ' hle=>?_)
 ·replace h:=hj;refine zAb [] [10,17,24] rfl ?_;intro b hb;cases b with
  | true =>
   replace h:=zAu hb.symm h;intro b hb;cases b with
   | true =>
    replace h:=zAu hb.symm h;intro b hb;cases b with
    | true =>
     replace h:=zAu hb.symm h;obtain⟨y4,hy4,h⟩:=zAc h;refine⟨_,⟨_,_,_,hy4,rfl,rfl⟩,?_⟩
     cases h;exact(Le.forget _ ⟨rfl,trivial⟩)
    | false =>
     replace h:=zAt hb.symm h;cases h;exact(Le.forget _ ⟨rfl,trivial⟩)
   | false =>
    replace h:=zAt hb.symm h;intro b hb;subst hb;cases h;exact(Le.forget _ ⟨rfl,trivial⟩)
  | false =>
   replace h:=zAt hb.symm h;intro b hb;subst hb;intro b hb;subst hb;cases h;exact(Le.forget _ ⟨rfl,trivial⟩)
 ·refine zAh hle ?_;refine zAe ?_;have hy:=osi h;subst hy;exact fin0 rfl rfl
theorem zGo (n:Nat) (ih_node_Equal:PSound Tryz.prog 145 (zAs (zEe n))) (ih_slices_EqualFunc_sNode:PSound Tryz.prog 144 (zAs (zBe n))):PSound Tryz.prog 144 (zAs (zBe (n+1))):=by
 have gok:∀ f s,look? f [(145,zAs (zEe n))]=some s->PSound Tryz.prog f s:=zAo (by
  simp only[List.forall_mem_cons]
  exact⟨ih_node_Equal,by simp⟩)
 refine zAr tokW Tryz.call144 Tryz.func144 rfl (fun xs r h=>by obtain⟨_,_,_,_,rfl,_⟩:=h; show 3<=32; decide) 32 rfl ?_;rintro xs r w0 G0 ⟨s11,s22,y0,h,rfl,rfl⟩ _;rw[zA0]at h;refine zYV ?_;refine zAa ?_;refine zYf [] [11,13] rfl ?_;intro n3 hn3;obtain rfl:(s11.length:Int)=n3:=(hn3.trans (congrArg (fun m:Nat=>(m:Int)) (rlen Nd.encs_eq s11))).symm;intro n4 hn4;obtain rfl:(s22.length:Int)=n4:=(hn4.trans (congrArg (fun m:Nat=>(m:Int)) (rlen Nd.encs_eq s22))).symm;refine zAg rfl h (fun hb h=>?_) (fun hb h=>?_)
 ·refine zYV ?_;refine zAe ?_;have hy:=osi h;subst hy;exact fin0 rfl rfl
 ·refine zAf ?_;refine zAa ?_;refine zYf [] [16] rfl ?_;intro n5 hn5;obtain rfl:(s11.length:Int)=n5:=(hn5.trans (congrArg (fun m:Nat=>(m:Int)) (rlen Nd.encs_eq s11))).symm;show Tri ..;obtain⟨fl,hl,ho1⟩:=zAc h;refine zBA (fl:=fl) (fun z=>match z with | _=>⟨ofL [],fun _=>none,0⟩) ?_ (fun z σ' hz hle=>?_)
  ·refine zAl (zAy (X:=Nat×Int) (fun y=>match y with | (k,x6)=>⟨ofL [(1,.s (.sl 4 (Nd.encs s22))),(2,.s (.fn 145)),(15,.s (.sl 4 (Nd.encs s11))),(16,.s (.int .i64 (s11.length:Int))),(17,.s (.int .i64 x6))],fun _=>none,0⟩) (fun y=>zAL (zB2 n) s11 s22 y.1 y.2=some fl) (fun y=>y.1) (n,0) hl ?_ ?_)
   ·exact(Le.forget _ ⟨rfl,rfl,rfl,rfl,rfl,trivial⟩)
   ·rintro⟨k,x6⟩ h;cases k with
    | zero=>cases h
    | succ k =>
     replace h:zAL (zB2 n) s11 s22 (k+1) x6=some fl:=h;rw[zAL]at h;refine zYV ?_;refine zAa ?_;refine zAg rfl h (fun hb h=>?_) (fun hb h=>?_)
     ·refine zAf ?_;refine zAa ?_;refine zAl ?_;refine zYf [8] [20] rfl ?_;obtain⟨⟨e7A,e7C,e7D,e7B⟩,he7,h⟩:=zAc h;refine And.intro (zAp Nd.encs_eq he7).1 ?_;intro r8 hr8;obtain rfl:[.int .i64 e7A,.str e7C,.int .i64 e7D,.sl 4 (Nd.encs e7B)]=r8:=(hr8.trans (zAp Nd.encs_eq he7).2.1).symm;refine zAh (Le.giveBox 0 [.int .i64 e7A,.str e7C,.int .i64 e7D,.sl 4 (Nd.encs e7B)] rfl rfl) ?_;refine zYf [9] [24] rfl ?_;obtain⟨⟨e9A,e9C,e9D,e9B⟩,he9,h⟩:=zAc h;refine And.intro (zAp Nd.encs_eq he9).1 ?_
      intro r10 hr10;obtain rfl:[.int .i64 e9A,.str e9C,.int .i64 e9D,.sl 4 (Nd.encs e9B)]=r10:=(hr10.trans (zAp Nd.encs_eq he9).2.1).symm;refine zAh (Le.giveBox 1 [.int .i64 e9A,.str e9C,.int .i64 e9D,.sl 4 (Nd.encs e9B)] rfl rfl) ?_;refine zYV ?_;obtain⟨y11,hy11,h⟩:=zAc h;refine⟨_,⟨_,_,_,hy11,rfl,rfl⟩,?_⟩
      refine zAg rfl h (fun hb h=>?_) (fun hb h=>?_)
      ·refine zYV ?_;refine zAe ?_;cases h;replace h:some _=some _:=ho1;have hy:=osi h;subst hy;exact fin0 rfl rfl
      ·refine zAf ?_;refine zYU ?_;refine⟨(k,IntKind.i64.wrap (x6+1)),h,(Le.rnm [] _ [] 0 ⟨rfl,rfl,rfl,rfl,rfl,trivial⟩ trivial),Nat.lt_succ_self k⟩
     ·refine zAC ?_;cases h;exact⟨_,rfl,(Le.forget _ trivial)⟩
  ·subst hz;obtain _:=z;replace h:=ho1;refine zAh hle ?_;refine zYV ?_;refine zAe ?_;have hy:=osi h;subst hy;exact fin0 rfl rfl
theorem zHZ:∀ n,PSound Tryz.prog 145 (zAs (zEe n))/\PSound Tryz.prog 144 (zAs (zBe n)):=by
 intro n
 induction n with
 | zero =>
  refine⟨?_,?_⟩
  ·exact zCC Tryz.call145 (fun xs r h=>by obtain⟨_,_,_,h,_⟩:=h; rw[zB2]at h; cases h)
  ·exact zCC Tryz.call144 (fun xs r h=>by obtain⟨_,_,_,h,_⟩:=h; rw[zA0]at h; cases h)
 | succ n ih =>
  obtain⟨ih_node_Equal,ih_slices_EqualFunc_sNode⟩:=ih;exact⟨zM4 n ih_node_Equal ih_slices_EqualFunc_sNode,zGo n ih_node_Equal ih_slices_EqualFunc_sNode⟩
def zKR:zAq:=zAs fun xs r=>∃ n,zEe n xs r
theorem zPp:PSound Tryz.prog 145 zKR:=zC9 (fun n=>(zHZ n).1)
def zEh:zAq:=zAs fun xs r=>∃ n,zBe n xs r
theorem zGQ:PSound Tryz.prog 144 zEh:=zC9 (fun n=>(zHZ n).2)
def zGE (n:Nat) (xs:List AV) (r:Ret):Prop:=∃ (a0:(zO8×List Nd)) (y0:List Nd) (y1:Int),zBm n a0=some (y0,y1)/\xs=[.agg ((zAG a0).map .s)]/\r = .val (.tup [.s (.sl 4 (Nd.encs y0)),.s (.int .i64 y1)])
def zGH:zAq:=zAs fun xs r=>∃ n,zGE n xs r
theorem zGr:PSound Tryz.prog 125 zGH:=by
 have gok:∀ f s,look? f [(29,zFZ),(142,zGv),(145,zKR),(143,zBO)]=some s->PSound Tryz.prog f s:=zAo (by
  simp only[List.forall_mem_cons]
  exact⟨zHC,zHx,zPp,zCf,by simp⟩)
 refine zAr tokW Tryz.call125 Tryz.func125 rfl (fun xs r h=>by obtain⟨n,_,_,_,_,rfl,_⟩:=h; show 1<=54; decide) 54 rfl ?_;rintro xs r w0 G0 ⟨n,⟨⟨c1Ap,c1Av,c1Aj,c1Aq,c1Am,c1An,c1Au,c1At⟩,c1Ai⟩,y0,y1,h,rfl,rfl⟩ _;rw[zBm]at h;refine zYV ?_;refine zYf [4] [11] rfl ?_;obtain⟨⟨e2A,e2C,e2D,e2B⟩,he2,h⟩:=zAc h;refine And.intro (zAp Nd.encs_eq he2).1 ?_;intro r3 hr3
 obtain rfl:[.int .i64 e2A,.str e2C,.int .i64 e2D,.sl 4 (Nd.encs e2B)]=r3:=(hr3.trans (zAp Nd.encs_eq he2).2.1).symm;obtain⟨⟨y4A,y4C,y4D,y4B⟩,hy4,h⟩:=zAc h;refine⟨_,_,⟨_,_,hy4,rfl,rfl,rfl,rfl⟩,?_⟩
 refine zAa ?_;refine zAa ?_;refine zAA [] [] [3,4] rfl (by decide +kernel) ?_;obtain⟨y5,hy5,h⟩:=zAc h;refine⟨_,⟨_,_,hy5,rfl,rfl⟩,?_⟩
 refine zAg rfl h (fun hb h=>?_) (fun hb h=>?_)
 ·refine zYV ?_;refine zAe ?_;obtain⟨hj1,hk1⟩:=pij h;subst hj1 hk1;exact fin0 rfl rfl
 ·refine zAf ?_;refine zYV ?_;obtain⟨⟨e6A,e6C,e6D,e6B⟩,he6,h⟩:=zAc h;refine And.intro (zAp Nd.encs_eq he6).1 ?_;refine And.intro (zAp Nd.encs_eq he6).2.2 ?_;refine⟨_,(zAp Nd.encs_eq he6).2.1,?_⟩
  refine zYV ?_;obtain⟨⟨e7A,e7C,e7D,e7B⟩,he7,h⟩:=zAc h;refine And.intro (zAp Nd.encs_eq he7).1 ?_;have hset8:=(rset (R:=Nd.encs) (f:=Nd.enc) Nd.encs_eq he7 (Nd.mk e7A e7C e7D []) 3 4 [.sl 4 (Nd.encs [])] rfl)
  have hat8:=at_set he7 (Nd.mk e7A e7C e7D [])
  refine And.intro (zAp Nd.encs_eq he7).2.2 ?_;refine zAh (Le.rnm [(1,0),(0,1)] [(1,.s (.pt [.int .i64 c1Ap,.sl 1 ((List.map (irow .i64)) c1Av),.int .i64 c1Aj,.int .i64 c1Aq,.sl 4 (Nd.encs c1Am),.int .i64 c1An,.str c1Au,.str c1At,.sl 4 (Nd.encs c1Ai)])),(4,.op 0 0),(5,.s (.sl 4 (Nd.encs e6B)))] [(0,.box 24 [.s (.int .i64 y4A),.s (.str y4C),.s (.int .i64 y4D),.orow 1]),(1,.row 24 4 (Nd.encs (y4B.set c1An.toNat (Nd.mk e7A e7C e7D []))))] 2 ⟨rfl,rfl,rfl,trivial⟩ ⟨rfl,⟨_,rfl,rfl⟩,rfl,⟨_,rfl,congrArg (Ob.row 24 4) hset8⟩,trivial⟩) ?_;refine zAa ?_
  refine zAa ?_;obtain⟨x9,hj,h⟩:=zAc h;refine zAm ⟨ofL [(1,.s (.pt [.int .i64 c1Ap,.sl 1 ((List.map (irow .i64)) c1Av),.int .i64 c1Aj,.int .i64 c1Aq,.sl 4 (Nd.encs c1Am),.int .i64 c1An,.str c1Au,.str c1At,.sl 4 (Nd.encs c1Ai)])),(5,.s (.sl 4 (Nd.encs e6B))),(50,.s (.bool x9))],fun _=>none,0⟩ ?_ (fun σ' hle=>?_)
  ·replace h:=hj;refine zAA [] [36,41,46] [7,13] rfl (by decide +kernel) ?_;intro n10 hn10;obtain rfl:(e6B.length:Int)=n10:=(hn10.trans (congrArg (fun m:Nat=>(m:Int)) (rlen Nd.encs_eq e6B))).symm;intro b hb;cases b with
   | true =>
    replace h:=zAu hb.symm h;cases h;exact(Le.rnm [] _ [] 0 ⟨rfl,rfl,rfl,trivial⟩ trivial)
   | false =>
    replace h:=zAt hb.symm h;obtain⟨⟨e11A,e11C,e11D,e11B⟩,he11,h⟩:=zAc h;refine And.intro (zAp Nd.encs_eq he11).1 ?_;intro r12 hr12;obtain rfl:[.int .i64 e11A,.str e11C,.int .i64 e11D,.sl 4 (Nd.encs e11B)]=r12:=(hr12.trans (zAp Nd.encs_eq he11).2.1).symm;obtain⟨y13,hy13,h⟩:=zAc h;refine⟨_,⟨_,_,_,_,hy13,rfl,rfl⟩,?_⟩
    cases h;exact(Le.rnm [] _ [] 0 ⟨rfl,rfl,rfl,trivial⟩ trivial)
  ·refine zAh hle ?_;refine zAg rfl h (fun hb h=>?_) (fun hb h=>?_)
   ·refine zYV ?_;refine zAe ?_;obtain⟨hj1,hk1⟩:=pij h;subst hj1 hk1;exact fin0 rfl rfl
   ·refine zAf ?_;refine zYV ?_;obtain⟨y14,hy14,h⟩:=zAc h;refine⟨_,⟨_,_,_,_,_,hy14,rfl,rfl⟩,?_⟩
    refine zAe ?_;obtain⟨hj1,hk1⟩:=pij h;subst hj1 hk1;exact fin0 rfl rfl
def zGF (xs:List AV) (r:Ret):Prop:=∃ (a0:(zO8×List Nd)) (y0:List Nd) (y1:Int),zBn a0=some (y0,y1)/\xs=[.agg ((zAG a0).map .s)]/\r = .val (.tup [.s (.sl 4 (Nd.encs y0)),.s (.int .i64 y1)])
def zGI:zAq:=zAs fun xs r=>zGF xs r
theorem zGs:PSound Tryz.prog 125 zGI:=by
 have gok:∀ f s,look? f [(29,zDi),(142,zGv)]=some s->PSound Tryz.prog f s:=zAo (by
  simp only[List.forall_mem_cons]
  exact⟨zDy,zHx,by simp⟩)
 refine zAr tokW Tryz.call125 Tryz.func125 rfl (fun xs r h=>by obtain⟨_,_,_,_,rfl,_⟩:=h; show 1<=54; decide) 54 rfl ?_;rintro xs r w0 G0 ⟨⟨⟨c1Ap,c1Av,c1Aj,c1Aq,c1Am,c1An,c1Au,c1At⟩,c1Ai⟩,y0,y1,h,rfl,rfl⟩ _;rw[zBn]at h;refine zYV ?_;refine zYf [4] [11] rfl ?_;obtain⟨⟨e2A,e2C,e2D,e2B⟩,he2,h⟩:=zAc h;refine And.intro (zAp Nd.encs_eq he2).1 ?_;intro r3 hr3;obtain rfl:[.int .i64 e2A,.str e2C,.int .i64 e2D,.sl 4 (Nd.encs e2B)]=r3:=(hr3.trans (zAp Nd.encs_eq he2).2.1).symm
 obtain⟨⟨y4A,y4C,y4D,y4B⟩,hy4,h⟩:=zAc h;refine⟨_,⟨_,_,hy4,rfl,rfl⟩,?_⟩
 refine zAa ?_;refine zAa ?_;refine zAA [] [] [3] rfl (by decide +kernel) ?_;obtain⟨y5,hy5,h⟩:=zAc h;refine⟨_,⟨_,_,hy5,rfl,rfl⟩,?_⟩
 refine zAg rfl h (fun hb h=>?_) (fun hb h=>?_)
 ·refine zYV ?_;refine zAe ?_;obtain⟨hj1,hk1⟩:=pij h;subst hj1 hk1;exact fin0 rfl rfl
 ·refine zAf ?_;refine zAa ?_;cases h
def zJK (n:Nat) (xs:List AV) (r:Ret):Prop:=∃ (a0:(zO8×List Nd)) (y0:List Nd) (y1:Int),zDh n a0=some (y0,y1)/\xs=[.agg ((zAG a0).map .s)]/\r = .val (.tup [.s (.sl 4 (Nd.encs y0)),.s (.int .i64 y1)])
def zGu:zAq:=zAs fun xs r=>∃ n,zJK n xs r
theorem zYG {α:Type}{a b:α} (h:a=b:=by simp[List.map_append,List.map_take,List.map_drop,irow,brow,zEw,List.map_cons,List.map_nil,zD1,Nd.encs_eq,Nd.enc,zA4,zAK,zBy,zAI,zAG]):a=b :=
 h
theorem zJy:PSound Tryz.prog 124 zGu:=by
 have gok:∀ f s,look? f [(29,zFZ),(146,zFz),(143,zBO)]=some s->PSound Tryz.prog f s:=zAo (by
  simp only[List.forall_mem_cons]
  exact⟨zHC,zIl,zCf,by simp⟩)
 refine zAr tokW Tryz.call124 Tryz.func124 rfl (fun xs r h=>by obtain⟨n,_,_,_,_,rfl,_⟩:=h; show 1<=39; decide) 39 rfl ?_;rintro xs r w0 G0 ⟨n,⟨⟨c1Ap,c1Av,c1Aj,c1Aq,c1Am,c1An,c1Au,c1At⟩,c1Ai⟩,y0,y1,h,rfl,rfl⟩ _;rw[zDh]at h;refine zYV ?_;refine zYf [4] [8] rfl ?_;obtain⟨⟨e2A,e2C,e2D,e2B⟩,he2,h⟩:=zAc h;refine And.intro (zAp Nd.encs_eq he2).1 ?_;intro r3 hr3;obtain rfl:[.int .i64 e2A,.str e2C,.int .i64 e2D,.sl 4 (Nd.encs e2B)]=r3:=(hr3.trans (zAp Nd.encs_eq he2).2.1).symm
 obtain⟨⟨y4A,y4C,y4D,y4B⟩,hy4,h⟩:=zAc h;refine⟨_,_,⟨_,_,hy4,rfl,rfl,rfl,rfl⟩,?_⟩
 refine zAa ?_;refine zAA [] [28] [1,19,21] rfl (by decide +kernel) ?_;obtain⟨hq,h⟩:=zAw h;refine And.intro ⟨hq.1,hq.2.1,Int.le_trans hq.2.2 (Int.ofNat_le.2 (Nat.le_of_eq (rlen Nd.encs_eq _).symm))⟩ ?_;intro r5 hr5;obtain rfl:Nd.encs ((c1Ai.take (IntKind.i64.wrap (c1Aj+c1Aq)).toNat).drop c1Aj.toNat)=r5:=(hr5.trans (rcut Nd.encs_eq _ _ _)).symm;obtain⟨y6,hy6,h⟩:=zAc h;refine⟨_,⟨_,_,hy6,rfl,rfl⟩,?_⟩
 obtain⟨⟨e7A,e7C,e7D,e7B⟩,he7,h⟩:=zAc h;refine And.intro (zAp Nd.encs_eq he7).1 ?_;have hset8:=(rset (R:=Nd.encs) (f:=Nd.enc) Nd.encs_eq he7 (Nd.mk e7A e7C e7D y6) 3 4 [.sl 4 (Nd.encs y6)] rfl)
 have hat8:=at_set he7 (Nd.mk e7A e7C e7D y6)
 refine And.intro (zAp Nd.encs_eq he7).2.2 ?_;show Tri ..
 refine zAh (Le.trans (Le.trans (Le.trans (Le.rnm [(1,0),(0,1)] [(1,.s (.pt [.int .i64 c1Ap,.sl 1 ((List.map (irow .i64)) c1Av),.int .i64 c1Aj,.int .i64 c1Aq,.sl 4 (Nd.encs c1Am),.int .i64 c1An,.str c1Au,.str c1At,.sl 4 (Nd.encs c1Ai)])),(4,.op 0 0)] [(0,.box 24 [.s (.int .i64 y4A),.s (.str y4C),.s (.int .i64 y4D),.orow 1]),(1,.row 24 4 (Nd.encs (y4B.set c1An.toNat (Nd.mk e7A e7C e7D y6))))] 2 ⟨rfl,rfl,trivial⟩ ⟨rfl,⟨_,rfl,rfl⟩,rfl,⟨_,rfl,congrArg (Ob.row 24 4) hset8⟩,trivial⟩) (Le.giveRow 1 rfl)) (Le.rnm [(0,0)] [(1,.s (.pt [.int .i64 c1Ap,.sl 1 ((List.map (irow .i64)) c1Av),.int .i64 c1Aj,.int .i64 c1Aq,.sl 4 (Nd.encs c1Am),.int .i64 c1An,.str c1Au,.str c1At,.sl 4 (Nd.encs c1Ai)])),(4,.op 0 0)] [(0,.box 24 [.s (.int .i64 y4A),.s (.str y4C),.s (.int .i64 y4D),.s (.sl 4 (Nd.encs (y4B.set c1An.toNat (Nd.mk e7A e7C e7D y6))))])] 1 ⟨rfl,rfl,trivial⟩ ⟨rfl,⟨_,rfl,rfl⟩,trivial⟩)) (Le.giveBox 0 [.int .i64 y4A,.str y4C,.int .i64 y4D,.sl 4 (Nd.encs (y4B.set c1An.toNat (Nd.mk e7A e7C e7D y6)))] rfl rfl)) ?_
 refine zYf [] [37] rfl ?_;intro r9 hr9;obtain rfl:Nd.encs [Nd.mk y4A y4C y4D (y4B.set c1An.toNat (Nd.mk e7A e7C e7D y6))]=r9:=(hr9.trans zYG).symm;obtain⟨y10,hy10,h⟩:=zAc h;refine⟨_,⟨_,_,_,_,_,hy10,rfl,rfl⟩,?_⟩
 refine zAe ?_;obtain⟨hj1,hk1⟩:=pij h;subst hj1 hk1;exact fin0 rfl rfl
def zII (n:Nat) (xs:List AV) (r:Ret):Prop:=∃ (a0:(zO8×List Nd)) (y0:List Nd) (y1:Int),zCF n a0=some (y0,y1)/\xs=[.agg ((zAG a0).map .s)]/\r = .val (.tup [.s (.sl 4 (Nd.encs y0)),.s (.int .i64 y1)])
def zFw:zAq:=zAs fun xs r=>∃ n,zII n xs r
theorem zIh:PSound Tryz.prog 122 zFw:=by
 have gok:∀ f s,look? f [(143,zBO)]=some s->PSound Tryz.prog f s:=zAo (by
  simp only[List.forall_mem_cons]
  exact⟨zCf,by simp⟩)
 refine zAr tokW Tryz.call122 Tryz.func122 rfl (fun xs r h=>by obtain⟨n,_,_,_,_,rfl,_⟩:=h; show 1<=9; decide) 9 rfl ?_;rintro xs r w0 G0 ⟨n,⟨⟨c1Ap,c1Av,c1Aj,c1Aq,c1Am,c1An,c1Au,c1At⟩,c1Ai⟩,y0,y1,h,rfl,rfl⟩ _;rw[zCF]at h;refine zYV ?_;refine zYV ?_;obtain⟨y2,hy2,h⟩:=zAc h;refine⟨_,⟨_,_,_,_,_,hy2,rfl,rfl⟩,?_⟩
 refine zAe ?_;obtain⟨hj1,hk1⟩:=pij h;subst hj1 hk1;exact fin0 rfl rfl
def zIJ (n:Nat) (xs:List AV) (r:Ret):Prop:=∃ (a0:(zO8×List Nd)) (y0:List Nd) (y1:Int),zCG n a0=some (y0,y1)/\xs=[.agg ((zAG a0).map .s)]/\r = .val (.tup [.s (.sl 4 (Nd.encs y0)),.s (.int .i64 y1)])
def zFx:zAq:=zAs fun xs r=>∃ n,zIJ n xs r
theorem zIi:PSound Tryz.prog 123 zFx:=by
 have gok:∀ f s,look? f [(144,zEh),(143,zBO)]=some s->PSound Tryz.prog f s:=zAo (by
  simp only[List.forall_mem_cons]
  exact⟨zGQ,zCf,by simp⟩)
 refine zAr tokW Tryz.call123 Tryz.func123 rfl (fun xs r h=>by obtain⟨n,_,_,_,_,rfl,_⟩:=h; show 1<=28; decide) 28 rfl ?_;rintro xs r w0 G0 ⟨n,⟨⟨c1Ap,c1Av,c1Aj,c1Aq,c1Am,c1An,c1Au,c1At⟩,c1Ai⟩,y0,y1,h,rfl,rfl⟩ _;rw[zCG]at h;refine zYV ?_;refine zYf [] [8] rfl ?_;intro n2 hn2;obtain rfl:(c1Am.length:Int)=n2:=(hn2.trans (congrArg (fun m:Nat=>(m:Int)) (rlen Nd.encs_eq c1Am))).symm;refine zAa ?_;refine zAa ?_;refine zAA [] [19] [] rfl (by decide +kernel) ?_
 obtain⟨hq,h⟩:=zAw h;refine And.intro ⟨hq.1,hq.2.1,Int.le_trans hq.2.2 (Int.ofNat_le.2 (Nat.le_of_eq (rlen Nd.encs_eq _).symm))⟩ ?_;intro r3 hr3;obtain rfl:Nd.encs ((c1Ai.take (IntKind.i64.wrap (c1Aj+(c1Am.length:Int))).toNat).drop c1Aj.toNat)=r3:=(hr3.trans (rcut Nd.encs_eq _ _ _)).symm;obtain⟨y4,hy4,h⟩:=zAc h;refine⟨_,⟨_,_,_,_,hy4,rfl,rfl⟩,?_⟩
 refine zAg rfl h (fun hb h=>?_) (fun hb h=>?_)
 ·refine zYV ?_;refine zAe ?_;obtain⟨hj1,hk1⟩:=pij h;subst hj1 hk1;exact fin0 rfl rfl
 ·refine zAf ?_;refine zYV ?_;obtain⟨y5,hy5,h⟩:=zAc h;refine⟨_,⟨_,_,_,_,_,hy5,rfl,rfl⟩,?_⟩
  refine zAe ?_;obtain⟨hj1,hk1⟩:=pij h;subst hj1 hk1;exact fin0 rfl rfl
def zKs (n:Nat) (xs:List AV) (r:Ret):Prop:=∃ (a0:(zO8×List Nd)) (y0:List Nd) (y1:Int),zDF n a0=some (y0,y1)/\xs=[.agg ((zAG a0).map .s)]/\r = .val (.tup [.s (.sl 4 (Nd.encs y0)),.s (.int .i64 y1)])
def zGW:zAq:=zAs fun xs r=>∃ n,zKs n xs r
theorem zKb:PSound Tryz.prog 126 zGW:=by
 have gok:∀ f s,look? f [(143,zBO)]=some s->PSound Tryz.prog f s:=zAo (by
  simp only[List.forall_mem_cons]
  exact⟨zCf,by simp⟩)
 refine zAr tokW Tryz.call126 Tryz.func126 rfl (fun xs r h=>by obtain⟨n,_,_,_,_,rfl,_⟩:=h; show 1<=34; decide) 34 rfl ?_;rintro xs r w0 G0 ⟨n,⟨⟨c1Ap,c1Av,c1Aj,c1Aq,c1Am,c1An,c1Au,c1At⟩,c1Ai⟩,y0,y1,h,rfl,rfl⟩ _;rw[zDF]at h;refine zYV ?_;refine zYf [4] [10] rfl ?_;obtain⟨⟨e2A,e2C,e2D,e2B⟩,he2,h⟩:=zAc h;refine And.intro (zAp Nd.encs_eq he2).1 ?_;intro r3 hr3;obtain rfl:[.int .i64 e2A,.str e2C,.int .i64 e2D,.sl 4 (Nd.encs e2B)]=r3:=(hr3.trans (zAp Nd.encs_eq he2).2.1).symm
 refine zAa ?_;refine zYV ?_;show Tri ..;obtain⟨fl,hj,ho1⟩:=zAc h;refine zBA (fl:=fl) (fun z=>match z with | _=>⟨ofL [(1,.s (.pt [.int .i64 c1Ap,.sl 1 ((List.map (irow .i64)) c1Av),.int .i64 c1Aj,.int .i64 c1Aq,.sl 4 (Nd.encs c1Am),.int .i64 c1An,.str c1Au,.str c1At,.sl 4 (Nd.encs c1Ai)])),(4,.op 0 0)],ofH [(0,.box 24 [.s (.int .i64 e2A),.s (.str e2C),.s (.int .i64 e2D),.s (.sl 4 (Nd.encs e2B))])],1⟩) ?_ (fun z σ' hz hle=>?_)
 ·replace h:=hj;refine zAl ?_;refine zAa ?_;refine zYV ?_;show Tri ..;obtain⟨x4,hj,h⟩:=zAc h;refine zAm ⟨ofL [(1,.s (.pt [.int .i64 c1Ap,.sl 1 ((List.map (irow .i64)) c1Av),.int .i64 c1Aj,.int .i64 c1Aq,.sl 4 (Nd.encs c1Am),.int .i64 c1An,.str c1Au,.str c1At,.sl 4 (Nd.encs c1Ai)])),(4,.op 0 0),(14,.s (.bool x4))],ofH [(0,.box 24 [.s (.int .i64 e2A),.s (.str e2C),.s (.int .i64 e2D),.s (.sl 4 (Nd.encs e2B))])],1⟩ ?_ (fun σ' hle=>?_)
  ·replace h:=hj;refine zAg rfl h (fun hb h=>?_) (fun hb h=>?_)
   ·refine zAf ?_;cases h;exact(Le.rnm [(0,0)] _ _ _ ⟨rfl,rfl,rfl,trivial⟩ ⟨rfl,⟨_,rfl,rfl⟩,trivial⟩)
   ·refine zYV ?_;refine zAg rfl h (fun hb h=>?_) (fun hb h=>?_)
    ·refine zAf ?_;cases h;exact(Le.rnm [(0,0)] _ _ _ ⟨rfl,rfl,rfl,trivial⟩ ⟨rfl,⟨_,rfl,rfl⟩,trivial⟩)
    ·refine zYV ?_;refine zAg rfl h (fun hb h=>?_) (fun hb h=>?_)
     ·refine zAf ?_;cases h;exact(Le.rnm [(0,0)] _ _ _ ⟨rfl,rfl,rfl,trivial⟩ ⟨rfl,⟨_,rfl,rfl⟩,trivial⟩)
     ·refine zYV ?_;refine zAg rfl h (fun hb h=>?_) (fun hb h=>?_)
      ·refine zAf ?_;cases h;exact(Le.rnm [(0,0)] _ _ _ ⟨rfl,rfl,rfl,trivial⟩ ⟨rfl,⟨_,rfl,rfl⟩,trivial⟩)
      ·refine zYU ?_;cases h;exact(Le.rnm [(0,0)] _ _ _ ⟨rfl,rfl,rfl,trivial⟩ ⟨rfl,⟨_,rfl,rfl⟩,trivial⟩)
  ·refine zAh hle ?_;refine zAg rfl h (fun hb h=>?_) (fun hb h=>?_)
   ·refine zAf ?_;cases h;exact⟨_,rfl,(Le.rnm [(0,0)] _ _ _ ⟨rfl,rfl,trivial⟩ ⟨rfl,⟨_,rfl,rfl⟩,trivial⟩)⟩
   ·refine zYV ?_;refine zAe ?_;cases h;replace h:some _=some _:=ho1;obtain⟨hj1,hk1⟩:=pij h;subst hj1 hk1;exact fin0 rfl rfl
 ·subst hz;obtain _:=z;replace h:=ho1;refine zAh hle ?_;refine zAa ?_;refine zYV ?_;refine zAg rfl h (fun hb h=>?_) (fun hb h=>?_)
  ·refine zYV ?_;refine zAe ?_;obtain⟨hj1,hk1⟩:=pij h;subst hj1 hk1;exact fin0 rfl rfl
  ·refine zAf ?_;refine zYV ?_;refine zYf [] [32] rfl ?_;intro r5 hr5;obtain rfl:Nd.encs [Nd.mk e2A c1At e2D e2B]=r5:=(hr5.trans zYG).symm;obtain⟨y6,hy6,h⟩:=zAc h;refine⟨_,⟨_,_,_,_,_,hy6,rfl,rfl⟩,?_⟩
   refine zAe ?_;obtain⟨hj1,hk1⟩:=pij h;subst hj1 hk1;exact fin0 rfl rfl
def zIH (xs:List AV) (r:Ret):Prop:=∃ (a0:(zO8×List Nd)) (y0:Int),zBX a0=some y0/\xs=[.agg ((zAG a0).map .s)]/\r = .val (.s (.int .i64 y0))
def zFv:zAq:=zAs fun xs r=>zIH xs r
theorem zIg:PSound Tryz.prog 121 zFv:=by
 have gok:=@gok0 Tryz.prog;refine zAr tokW Tryz.call121 Tryz.func121 rfl (fun xs r h=>by obtain⟨_,_,_,rfl,_⟩:=h; show 1<=44; decide) 44 rfl ?_;rintro xs r w0 G0 ⟨⟨⟨c1Ap,c1Av,c1Aj,c1Aq,c1Am,c1An,c1Au,c1At⟩,c1Ai⟩,y0,h,rfl,rfl⟩ _;rw[zBX]at h;refine zYV ?_;refine zYV ?_;refine zAa ?_;refine zYV ?_;show Tri ..;obtain⟨need2,hj,h⟩:=zAc h
 refine zAm ⟨ofL [(1,.s (.pt [.int .i64 c1Ap,.sl 1 ((List.map (irow .i64)) c1Av),.int .i64 c1Aj,.int .i64 c1Aq,.sl 4 (Nd.encs c1Am),.int .i64 c1An,.str c1Au,.str c1At,.sl 4 (Nd.encs c1Ai)])),(3,.s (.int .i64 need2))],fun _=>none,0⟩ ?_ (fun σ' hle=>?_)
 ·replace h:=hj;refine zAl ?_;refine zYV ?_;refine zAg rfl h (fun hb h=>?_) (fun hb h=>?_)
  ·refine zYU ?_;cases h;exact(Le.forget _ ⟨rfl,rfl,trivial⟩)
  ·refine zYV ?_;refine zAg rfl h (fun hb h=>?_) (fun hb h=>?_)
   ·refine zAb [] [14] rfl ?_;intro n3 hn3;obtain rfl:(c1Am.length:Int)=n3:=(hn3.trans (congrArg (fun m:Nat=>(m:Int)) (rlen Nd.encs_eq c1Am))).symm;cases h;exact(Le.forget _ ⟨rfl,rfl,trivial⟩)
   ·refine zYV ?_;refine zAg rfl h (fun hb h=>?_) (fun hb h=>?_)
    ·refine zYU ?_;cases h;exact(Le.forget _ ⟨rfl,rfl,trivial⟩)
    ·refine zAf ?_;cases h;exact(Le.forget _ ⟨rfl,rfl,trivial⟩)
 ·refine zAh hle ?_;refine zAa ?_;refine zAa ?_;obtain⟨x4,hj,h⟩:=zAc h;refine zAm ⟨ofL [(43,.s (.bool x4))],fun _=>none,0⟩ ?_ (fun σ' hle=>?_)
  ·replace h:=hj;refine zAb [] [24,30,33,37] rfl ?_;intro b hb;cases b with
   | true =>
    replace h:=zAu hb.symm h;intro b hb;subst hb;cases h;exact(Le.forget _ ⟨rfl,trivial⟩)
   | false =>
    replace h:=zAt hb.symm h;intro n5 hn5;obtain rfl:(c1Ai.length:Int)=n5:=(hn5.trans (congrArg (fun m:Nat=>(m:Int)) (rlen Nd.encs_eq c1Ai))).symm;intro b hb;cases b with
    | true =>
     replace h:=zAu hb.symm h;cases h;exact(Le.forget _ ⟨rfl,trivial⟩)
    | false =>
     replace h:=zAt hb.symm h;intro n6 hn6;obtain rfl:(c1Ai.length:Int)=n6:=(hn6.trans (congrArg (fun m:Nat=>(m:Int)) (rlen Nd.encs_eq c1Ai))).symm;cases h;exact(Le.forget _ ⟨rfl,trivial⟩)
  ·refine zAh hle ?_;refine zAg rfl h (fun hb h=>?_) (fun hb h=>?_)
   ·refine zYV ?_;refine zAe ?_;have hy:=osi h;subst hy;exact fin0 rfl rfl
   ·refine zAf ?_;refine zYV ?_;refine zAe ?_;have hy:=osi h;subst hy;exact fin0 rfl rfl
def zLx (n:Nat) (xs:List AV) (r:Ret):Prop:=∃ (a0:List Nd) (a1:Int) (y0:Bool),zC5 n a0 a1=some y0/\xs=[.s (.sl 4 (Nd.encs a0)),.s (.int .i64 a1)]/\r = .val (.s (.bool y0))
def zHB:zAq:=zAs fun xs r=>∃ n,zLx n xs r
theorem zKC:PSound Tryz.prog 119 zHB:=by
 have gok:∀ f s,look? f [(118,zEK),(142,zGv)]=some s->PSound Tryz.prog f s:=zAo (by
  simp only[List.forall_mem_cons]
  exact⟨zGA,zHx,by simp⟩)
 refine zAr tokW Tryz.call119 Tryz.func119 rfl (fun xs r h=>by obtain⟨n,_,_,_,_,rfl,_⟩:=h; show 2<=35; decide) 35 rfl ?_;rintro xs r w0 G0 ⟨n,l1,slot2,y0,h,rfl,rfl⟩ _;rw[zC5]at h;refine zYV ?_;refine zAa ?_;refine zAa ?_;obtain⟨x3,hj,h⟩:=zAc h;refine zAm ⟨ofL [(0,.s (.sl 4 (Nd.encs l1))),(1,.s (.int .i64 slot2)),(24,.s (.bool x3))],fun _=>none,0⟩ ?_ (fun σ' hle=>?_)
 ·replace h:=hj;refine zAb [] [6,8,13,17,20] rfl ?_;intro n4 hn4;obtain rfl:(l1.length:Int)=n4:=(hn4.trans (congrArg (fun m:Nat=>(m:Int)) (rlen Nd.encs_eq l1))).symm;intro b hb;cases b with
  | true =>
   replace h:=zAu hb.symm h;intro b hb;subst hb;intro b hb;subst hb;cases h;exact(Le.forget _ ⟨rfl,rfl,rfl,trivial⟩)
  | false =>
   replace h:=zAt hb.symm h;obtain⟨y5,hy5,h⟩:=zAc h;refine⟨_,⟨_,_,_,hy5,rfl,rfl⟩,?_⟩
   intro b hb;cases b with
   | true =>
    replace h:=zAu hb.symm h;intro b hb;subst hb;cases h;exact(Le.forget _ ⟨rfl,rfl,rfl,trivial⟩)
   | false =>
    replace h:=zAt hb.symm h;intro b hb;cases b with
    | true =>
     replace h:=zAu hb.symm h;cases h;exact(Le.forget _ ⟨rfl,rfl,rfl,trivial⟩)
    | false =>
     replace h:=zAt hb.symm h;obtain⟨⟨e6A,e6C,e6D,e6B⟩,he6,h⟩:=zAc h;refine And.intro (zAp Nd.encs_eq he6).1 ?_;intro r7 hr7;obtain rfl:[.int .i64 e6A,.str e6C,.int .i64 e6D,.sl 4 (Nd.encs e6B)]=r7:=(hr7.trans (zAp Nd.encs_eq he6).2.1).symm;obtain⟨y8,hy8,h⟩:=zAc h;refine⟨_,⟨_,_,hy8,rfl,rfl⟩,?_⟩
     cases h;exact(Le.forget _ ⟨rfl,rfl,rfl,trivial⟩)
 ·refine zAh hle ?_;refine zAg rfl h (fun hb h=>?_) (fun hb h=>?_)
  ·refine zYV ?_;refine zAe ?_;have hy:=osi h;subst hy;exact fin0 rfl rfl
  ·refine zAf ?_;refine zYf [] [26,30,33] rfl ?_;obtain⟨⟨e9A,e9C,e9D,e9B⟩,he9,h⟩:=zAc h;refine And.intro (zAp Nd.encs_eq he9).1 ?_;intro r10 hr10;obtain rfl:[.int .i64 e9A,.str e9C,.int .i64 e9D,.sl 4 (Nd.encs e9B)]=r10:=(hr10.trans (zAp Nd.encs_eq he9).2.1).symm;obtain⟨⟨e11A,e11C,e11D,e11B⟩,he11,h⟩:=zAc h;refine And.intro (zAp Nd.encs_eq he11).1 ?_;intro r12 hr12;obtain rfl:[.int .i64 e11A,.str e11C,.int .i64 e11D,.sl 4 (Nd.encs e11B)]=r12:=(hr12.trans (zAp Nd.encs_eq he11).2.1).symm;intro n13 hn13
   obtain rfl:(e11B.length:Int)=n13:=(hn13.trans (congrArg (fun m:Nat=>(m:Int)) (rlen Nd.encs_eq e11B))).symm;refine zAe ?_;have hy:=osi h;subst hy;exact fin0 rfl rfl
def zAk (p:zO8):List S:=[.int .i64 p.1,.sl 1 ((List.map (irow .i64)) p.2.1),.int .i64 p.2.2.1,.int .i64 p.2.2.2.1,.sl 4 (Nd.encs p.2.2.2.2.1),.int .i64 p.2.2.2.2.2.1,.str p.2.2.2.2.2.2.1,.str p.2.2.2.2.2.2.2]
def zOM (n:Nat) (xs:List AV) (r:Ret):Prop:=∃ (a0:zO8) (y0:Bool),zEy n a0=some y0/\xs=[.agg ((zAk a0).map .s)]/\r = .val (.s (.bool y0))
def zJN:zAq:=zAs fun xs r=>∃ n,zOM n xs r
theorem zNo:PSound Tryz.prog 87 zJN:=by
 have gok:∀ f s,look? f [(118,zEK),(119,zHB)]=some s->PSound Tryz.prog f s:=zAo (by
  simp only[List.forall_mem_cons]
  exact⟨zGA,zKC,by simp⟩)
 refine zAr tokW Tryz.call87 Tryz.func87 rfl (fun xs r h=>by obtain⟨n,_,_,_,rfl,_⟩:=h; show 1<=80; decide) 80 rfl ?_;rintro xs r w0 G0 ⟨n,⟨a1A,a1G,a1L,a1S,a1R,a1V,a1Ac,a1C⟩,y0,h,rfl,rfl⟩ _;rw[zEy]at h;refine zYV ?_;refine zAa ?_;obtain⟨x2,hj,h⟩:=zAc h;refine zAm ⟨ofL [(1,.s (.pt [.int .i64 a1A,.sl 1 ((List.map (irow .i64)) a1G),.int .i64 a1L,.int .i64 a1S,.sl 4 (Nd.encs a1R),.int .i64 a1V,.str a1Ac,.str a1C])),(3,.s (.bool x2))],fun _=>none,0⟩ ?_ (fun σ' hle=>?_)
 ·replace h:=hj;refine zAb [] [7] rfl ?_;intro b hb;cases b with
  | true =>
   replace h:=zAu hb.symm h;cases h;exact(Le.forget _ ⟨rfl,rfl,trivial⟩)
  | false =>
   replace h:=zAt hb.symm h;cases h;exact(Le.forget _ ⟨rfl,rfl,trivial⟩)
 ·refine zAh hle ?_;refine zAa ?_;refine zYV ?_;show Tri ..;obtain⟨fl,hj,ho1⟩:=zAc h;refine zBA (fl:=fl) (fun z=>match z with | _=>⟨ofL [],fun _=>none,0⟩) ?_ (fun z σ' hz hle=>?_)
  ·replace h:=hj;refine zAl ?_;refine zAa ?_;refine zYV ?_;show Tri ..;obtain⟨x3,hj,h⟩:=zAc h;refine zAm ⟨ofL [(1,.s (.pt [.int .i64 a1A,.sl 1 ((List.map (irow .i64)) a1G),.int .i64 a1L,.int .i64 a1S,.sl 4 (Nd.encs a1R),.int .i64 a1V,.str a1Ac,.str a1C])),(3,.s (.bool x2)),(13,.s (.int .i64 a1A)),(14,.s (.bool x3))],fun _=>none,0⟩ ?_ (fun σ' hle=>?_)
   ·replace h:=hj;refine zAg rfl h (fun hb h=>?_) (fun hb h=>?_)
    ·refine zAf ?_;cases h;exact(Le.forget _ ⟨rfl,rfl,rfl,rfl,trivial⟩)
    ·refine zYU ?_;cases h;exact(Le.forget _ ⟨rfl,rfl,rfl,rfl,trivial⟩)
   ·refine zAh hle ?_;refine zAg rfl h (fun hb h=>?_) (fun hb h=>?_)
    ·refine zAa ?_;obtain⟨x4,hj,h⟩:=zAc h;refine zAm ⟨ofL [(2,.s (.bool x4))],fun _=>none,0⟩ ?_ (fun σ' hle=>?_)
     ·replace h:=hj;refine zAb [] [20,25,29,32,35] rfl ?_;intro b hb;cases b with
      | true =>
       replace h:=zAu hb.symm h;intro b hb;cases b with
       | true =>
        replace h:=zAu hb.symm h;intro b hb;cases b with
        | true =>
         replace h:=zAu hb.symm h;intro n5 hn5;obtain rfl:(a1R.length:Int)=n5:=(hn5.trans (congrArg (fun m:Nat=>(m:Int)) (rlen Nd.encs_eq a1R))).symm;intro b hb;cases b with
         | true =>
          replace h:=zAu hb.symm h;obtain⟨y6,hy6,h⟩:=zAc h;refine⟨_,⟨_,_,_,hy6,rfl,rfl⟩,?_⟩
          cases h;exact(Le.forget _ ⟨rfl,trivial⟩)
         | false =>
          replace h:=zAt hb.symm h;cases h;exact(Le.forget _ ⟨rfl,trivial⟩)
        | false =>
         replace h:=zAt hb.symm h;intro b hb;subst hb;cases h;exact(Le.forget _ ⟨rfl,trivial⟩)
       | false =>
        replace h:=zAt hb.symm h;intro b hb;subst hb;intro b hb;subst hb;cases h;exact(Le.forget _ ⟨rfl,trivial⟩)
      | false =>
       replace h:=zAt hb.symm h;intro b hb;subst hb;intro b hb;subst hb;intro b hb;subst hb;cases h;exact(Le.forget _ ⟨rfl,trivial⟩)
     ·refine zAh hle ?_;refine zAe ?_;cases h;replace h:some _=some _:=ho1;have hy:=osi h;subst hy;exact fin0 rfl rfl
    ·refine zAa ?_;refine zYV ?_;show Tri ..;obtain⟨x7,hj,h⟩:=zAc h;refine zAm ⟨ofL [(1,.s (.pt [.int .i64 a1A,.sl 1 ((List.map (irow .i64)) a1G),.int .i64 a1L,.int .i64 a1S,.sl 4 (Nd.encs a1R),.int .i64 a1V,.str a1Ac,.str a1C])),(3,.s (.bool x2)),(13,.s (.int .i64 a1A)),(40,.s (.bool x7))],fun _=>none,0⟩ ?_ (fun σ' hle=>?_)
     ·replace h:=hj;refine zAg rfl h (fun hb h=>?_) (fun hb h=>?_)
      ·refine zAf ?_;cases h;exact(Le.forget _ ⟨rfl,rfl,rfl,rfl,trivial⟩)
      ·refine zYU ?_;cases h;exact(Le.forget _ ⟨rfl,rfl,rfl,rfl,trivial⟩)
     ·refine zAh hle ?_;refine zAg rfl h (fun hb h=>?_) (fun hb h=>?_)
      ·refine zAa ?_;obtain⟨x8,hj,h⟩:=zAc h;refine zAm ⟨ofL [(2,.s (.bool x8))],fun _=>none,0⟩ ?_ (fun σ' hle=>?_)
       ·replace h:=hj;refine zAb [] [46,50] rfl ?_;intro b hb;cases b with
        | true =>
         replace h:=zAu hb.symm h;intro b hb;cases b with
         | true =>
          replace h:=zAu hb.symm h;obtain⟨y9,hy9,h⟩:=zAc h;refine⟨_,⟨_,_,_,_,hy9,rfl,rfl⟩,?_⟩
          cases h;exact(Le.forget _ ⟨rfl,trivial⟩)
         | false =>
          replace h:=zAt hb.symm h;cases h;exact(Le.forget _ ⟨rfl,trivial⟩)
        | false =>
         replace h:=zAt hb.symm h;intro b hb;subst hb;cases h;exact(Le.forget _ ⟨rfl,trivial⟩)
       ·refine zAh hle ?_;refine zAe ?_;cases h;replace h:some _=some _:=ho1;have hy:=osi h;subst hy;exact fin0 rfl rfl
      ·refine zYV ?_;refine zAg rfl h (fun hb h=>?_) (fun hb h=>?_)
       ·refine zAa ?_;obtain⟨x10,hj,h⟩:=zAc h;refine zAm ⟨ofL [(2,.s (.bool x10))],fun _=>none,0⟩ ?_ (fun σ' hle=>?_)
        ·replace h:=hj;refine zAb [] [62,67,70,73] rfl ?_;intro b hb;cases b with
         | true =>
          replace h:=zAu hb.symm h;intro b hb;cases b with
          | true =>
           replace h:=zAu hb.symm h;intro n11 hn11;obtain rfl:(a1R.length:Int)=n11:=(hn11.trans (congrArg (fun m:Nat=>(m:Int)) (rlen Nd.encs_eq a1R))).symm;intro b hb;cases b with
           | true =>
            replace h:=zAu hb.symm h;cases h;exact(Le.forget _ ⟨rfl,trivial⟩)
           | false =>
            replace h:=zAt hb.symm h;cases h;exact(Le.forget _ ⟨rfl,trivial⟩)
          | false =>
           replace h:=zAt hb.symm h;intro b hb;subst hb;cases h;exact(Le.forget _ ⟨rfl,trivial⟩)
         | false =>
          replace h:=zAt hb.symm h;intro b hb;subst hb;intro b hb;subst hb;cases h;exact(Le.forget _ ⟨rfl,trivial⟩)
        ·refine zAh hle ?_;refine zAe ?_;cases h;replace h:some _=some _:=ho1;have hy:=osi h;subst hy;exact fin0 rfl rfl
       ·refine zAf ?_;cases h;exact⟨_,rfl,(Le.forget _ trivial)⟩
  ·subst hz;obtain _:=z;replace h:=ho1;refine zAh hle ?_;refine zYV ?_;refine zAe ?_;have hy:=osi h;subst hy;exact fin0 rfl rfl
def zRQ (xs:List AV) (r:Ret):Prop:=∃ (a0:List Int) (y0:List Int),zDn a0=some y0/\xs=[.s (.sl 1 ((List.map (irow .i64)) a0))]/\r = .val (.s (.sl 1 ((List.map (irow .i64)) y0)))
def zJk:zAq:=zAs fun xs r=>zRQ xs r
theorem zLf:PSound Tryz.prog 62 zJk:=by
 have gok:∀ f s,look? f [(93,zF3)]=some s->PSound Tryz.prog f s:=zAo (by
  simp only[List.forall_mem_cons]
  exact⟨zIR,by simp⟩)
 refine zAr tokW Tryz.call62 Tryz.func62 rfl (fun xs r h=>by obtain⟨_,_,_,rfl,_⟩:=h; show 1<=5; decide) 5 rfl ?_;rintro xs r w0 G0 ⟨l1,y0,h,rfl,rfl⟩ _;rw[zDn]at h;refine zYV ?_;refine zYV ?_;obtain⟨y2,hy2,h⟩:=zAc h;refine⟨_,⟨_,_,hy2,rfl,rfl⟩,?_⟩
 refine zAe ?_;have hy:=osi h;subst hy;exact fin0 rfl rfl
def zP2 (n:Nat) (xs:List AV) (r:Ret):Prop:=∃ (a0:List Nd) (y0:List Nd),zFc n a0=some y0/\xs=[.s (.sl 4 (Nd.encs a0))]/\r = .row 24 4 (Nd.encs y0)
def zKO:zAq:=zAs fun xs r=>∃ n,zP2 n xs r
theorem zX6 {α:Type}{a b:α} (h:a=b:=by simp[List.map_append,List.map_take,List.map_drop,irow,brow,zEw,List.map_cons,List.map_nil,zD1,Nd.encs_eq,Nd.enc,zA4,zAK,zBy,zAI,zAG,zAk]):a=b :=
 h
theorem zPm:PSound Tryz.prog 127 zKO:=by
 have gok:∀ f s,look? f [(29,zDi)]=some s->PSound Tryz.prog f s:=zAo (by
  simp only[List.forall_mem_cons]
  exact⟨zDy,by simp⟩)
 refine zAr tokW Tryz.call127 Tryz.func127 rfl (fun xs r h=>by obtain⟨n,_,_,_,rfl,_⟩:=h; show 1<=20; decide) 20 rfl ?_;rintro xs r w0 G0 ⟨n,l1,y0,h,rfl,rfl⟩ _;rw[zFc]at h;refine zYf [2] [] rfl ?_;refine zAh (Le.rnm [] [(0,.s (.sl 4 (Nd.encs l1)))] [] 0 ⟨rfl,trivial⟩ trivial) ?_;refine zYf [3] [] rfl ?_;show Tri ..
 refine zAh (Le.rnm [(0,0)] [(0,.s (.sl 4 (Nd.encs l1))),(3,.orow 0)] [(0,.row 24 4 (Nd.encs []))] 1 ⟨rfl,rfl,trivial⟩ ⟨rfl,⟨_,rfl,congrArg (Ob.row 24 4) zX6⟩,trivial⟩) ?_;refine zAa ?_;refine zYf [] [6] rfl ?_;intro n2 hn2;obtain rfl:(l1.length:Int)=n2:=(hn2.trans (congrArg (fun m:Nat=>(m:Int)) (rlen Nd.encs_eq l1))).symm;show Tri ..;obtain⟨l6,hl,h⟩:=zAc h
 refine zAm ⟨ofL [(3,.orow 0)],ofH [(0,.row 24 4 (Nd.encs l6))],1⟩ ?_ (fun σ' hle=>?_)
 ·refine zAl (zAy (X:=Nat×Int×(List Nd)) (fun y=>match y with | (k,x4,l5)=>⟨ofL [(0,.s (.sl 4 (Nd.encs l1))),(3,.orow 0),(6,.s (.int .i64 (l1.length:Int))),(7,.s (.int .i64 x4))],ofH [(0,.row 24 4 (Nd.encs l5))],1⟩) (fun y=>zBu l1 y.1 y.2.1 y.2.2=some l6) (fun y=>y.1) (n,0,[]) hl ?_ ?_)
  ·exact(Le.rnm [(0,0)] _ _ _ ⟨rfl,rfl,rfl,rfl,trivial⟩ ⟨rfl,⟨_,rfl,rfl⟩,trivial⟩)
  ·rintro⟨k,x4,l5⟩ h;cases k with
   | zero=>cases h
   | succ k =>
    replace h:zBu l1 (k+1) x4 l5=some l6:=h;rw[zBu]at h;refine zYV ?_;refine zAa ?_;refine zAg rfl h (fun hb h=>?_) (fun hb h=>?_)
    ·refine zAf ?_;refine zAa ?_;refine zAl ?_;refine zYV ?_;refine zAb [17] [13,16] rfl ?_;obtain⟨⟨e7A,e7C,e7D,e7B⟩,he7,h⟩:=zAc h;refine And.intro (zAp Nd.encs_eq he7).1 ?_;intro r8 hr8;obtain rfl:[.int .i64 e7A,.str e7C,.int .i64 e7D,.sl 4 (Nd.encs e7B)]=r8:=(hr8.trans (zAp Nd.encs_eq he7).2.1).symm;obtain⟨⟨y9A,y9C,y9D,y9B⟩,hy9,h⟩:=zAc h;refine⟨_,⟨_,_,hy9,rfl,rfl⟩,?_⟩
     intro r10 hr10;obtain rfl:Nd.encs [Nd.mk y9A y9C y9D y9B]=r10:=(hr10.trans zX6).symm;obtain⟨hq,h⟩:=zAw h
     refine And.intro (show((Nd.encs l5).length+(Nd.encs [Nd.mk y9A y9C y9D y9B]).length) * 56<=140737488355328/\(Nd.encs l5).length+(Nd.encs [Nd.mk y9A y9C y9D y9B]).length<=9223372036854775807 from by simp only[List.length_append,List.length_cons,List.length_nil,List.length_map,rlen Nd.encs_eq]at hq ⊢; omega) ?_;show Tri ..
     refine zAh (Le.rnm [(1,0)] [(0,.s (.sl 4 (Nd.encs l1))),(3,.orow 0),(6,.s (.int .i64 (l1.length:Int))),(7,.s (.int .i64 x4))] [(0,.row 24 4 (Nd.encs (l5++[Nd.mk y9A y9C y9D y9B])))] 1 ⟨rfl,rfl,rfl,rfl,trivial⟩ ⟨rfl,⟨_,rfl,congrArg (Ob.row 24 4) zX6⟩,trivial⟩) ?_;refine zYU ?_
     refine⟨(k,IntKind.i64.wrap (x4+1),l5++[Nd.mk y9A y9C y9D y9B]),h,(Le.rnm [(0,0)] _ _ _ ⟨rfl,rfl,rfl,rfl,trivial⟩ ⟨rfl,⟨_,rfl,rfl⟩,trivial⟩),Nat.lt_succ_self k⟩
    ·refine zAC ?_;cases h;exact(Le.rnm [(0,0)] _ _ _ ⟨rfl,trivial⟩ ⟨rfl,⟨_,rfl,rfl⟩,trivial⟩)
 ·refine zAh hle ?_;refine zYV ?_;refine zAe ?_;have hy:=osi h;subst hy;unfold zBC;exact⟨_,Le.refl _ _,0,rfl,rfl⟩
def zUS (n:Nat) (xs:List AV) (r:Ret):Prop:=∃ (a0:zO8) (y0:zO8),zFd n a0=some y0/\xs=[.agg ((zAk a0).map .s)]/\r = .val (.agg ((zAk y0).map .s))
def zLW:zAq:=zAs fun xs r=>∃ n,zUS n xs r
theorem zOj:PSound Tryz.prog 91 zLW:=by
 have gok:∀ f s,look? f [(62,zJk),(127,zKO)]=some s->PSound Tryz.prog f s:=zAo (by
  simp only[List.forall_mem_cons]
  exact⟨zLf,zPm,by simp⟩)
 refine zAr tokW Tryz.call91 Tryz.func91 rfl (fun xs r h=>by obtain⟨n,_,_,_,rfl,_⟩:=h; show 1<=12; decide) 12 rfl ?_;rintro xs r w0 G0 ⟨n,⟨op1A,op1G,op1L,op1S,op1R,op1V,op1Ac,op1C⟩,y0,h,rfl,rfl⟩ _;rw[zFd]at h;refine zYf [1,2] [] rfl ?_;refine zYV ?_;obtain⟨y2,hy2,h⟩:=zAc h;refine⟨_,⟨_,_,hy2,rfl,rfl⟩,?_⟩
 refine zYV ?_;obtain⟨y3,hy3,h⟩:=zAc h;refine⟨_,⟨_,_,_,hy3,rfl,rfl⟩,?_⟩
 refine zYV ?_;refine zAe ?_;have hy:=osi h;subst hy;exact fin0 rfl rfl
theorem zVQ {P:Program}{f:Nat}{A B:List AV->Ret->Prop} (hA:PSound P f (zAs A)) (hB:PSound P f (zAs B)):PSound P f (zAs fun xs r=>A xs r∨B xs r) :=
 ⟨hA.1,fun G w xs vs r hl hg hp hv hs=>hs.elim (hA.2.1 G w xs vs r hl hg hp hv) (hB.2.1 G w xs vs r hl hg hp hv),fun R hR=>(by cases hR),fun R hR=>(by cases hR)⟩
theorem zSK {P:Program}{f:Nat}{A B:List AV->Ret->Prop} (hA:PSound P f (zAs A)) (h:∀ xs r,B xs r->A xs r):PSound P f (zAs B) :=
 ⟨hA.1,fun G w xs vs r hl hg hp hv hs=>hA.2.1 G w xs vs r hl hg hp hv (h xs r hs),fun R hR=>(by cases hR),fun R hR=>(by cases hR)⟩
def zIK (n:Nat) (xs:List AV) (r:Ret):Prop:=∃ (a0:(zO8×List Nd)) (y0:List Nd) (y1:Int),zBj n a0=some (y0,y1)/\xs=[.agg ((zAG a0).map .s)]/\r = .val (.tup [.s (.sl 4 (Nd.encs y0)),.s (.int .i64 y1)])
def zFy:zAq:=zAs fun xs r=>∃ n,zIK n xs r
theorem zIj:PSound Tryz.prog 125 zFy :=
 zSK (zVQ zGs zGr) fun xs r ⟨n,a,y,z,hm,hx,hr⟩=>by
  unfold zBj at hm;split at hm
  ·rename_i q hq
   obtain rfl:=Option.some.inj hm;exact .inl ⟨a,y,z,hq,hx,hr⟩
  ·exact .inr ⟨n,a,y,z,hm,hx,hr⟩
def zJe (n:Nat) (xs:List AV) (r:Ret):Prop:=∃ (a0:(zO8×List Nd)) (y0:List Nd) (y1:Int),zCb n a0=some (y0,y1)/\xs=[.agg ((zAG a0).map .s)]/\r = .val (.tup [.s (.sl 4 (Nd.encs y0)),.s (.int .i64 y1)])
def zF0:zAq:=zAs fun xs r=>∃ n,zJe n xs r
theorem zIO:PSound Tryz.prog 89 zF0:=by
 have gok:∀ f s,look? f [(121,zFv),(122,zFw),(123,zFx),(124,zGu),(125,zFy),(126,zGW)]=some s->PSound Tryz.prog f s:=zAo (by
  simp only[List.forall_mem_cons]
  exact⟨zIg,zIh,zIi,zJy,zIj,zKb,by simp⟩)
 refine zAr tokW Tryz.call89 Tryz.func89 rfl (fun xs r h=>by obtain⟨n,_,_,_,_,rfl,_⟩:=h; show 1<=41; decide) 41 rfl ?_;rintro xs r w0 G0 ⟨n,⟨⟨c1Ap,c1Av,c1Aj,c1Aq,c1Am,c1An,c1Au,c1At⟩,c1Ai⟩,y0,y1,h,rfl,rfl⟩ _;rw[zCb]at h;refine zYV ?_;refine zAa ?_;refine zYV ?_;obtain⟨y2,hy2,h⟩:=zAc h;refine⟨_,⟨_,_,hy2,rfl,rfl⟩,?_⟩
 refine zYV ?_;refine zAg rfl h (fun hb h=>?_) (fun hb h=>?_)
 ·refine zYV ?_;refine zAe ?_;obtain⟨hj1,hk1⟩:=pij h;subst hj1 hk1;exact fin0 rfl rfl
 ·refine zAf ?_;refine zAa ?_;refine zYV ?_;refine zAl ?_;refine zYV ?_;refine zAg rfl h (fun hb h=>?_) (fun hb h=>?_)
  ·refine zYV ?_;obtain⟨⟨y3,y4⟩,hy3,h⟩:=zAc h;refine⟨_,⟨_,_,_,_,hy3,rfl,rfl⟩,?_⟩
   refine zAe ?_;obtain⟨hj1,hk1⟩:=pij h;subst hj1 hk1;exact fin0 rfl rfl
  ·refine zYV ?_;refine zAg rfl h (fun hb h=>?_) (fun hb h=>?_)
   ·refine zYV ?_;obtain⟨⟨y5,y6⟩,hy5,h⟩:=zAc h;refine⟨_,⟨_,_,_,_,hy5,rfl,rfl⟩,?_⟩
    refine zAe ?_;obtain⟨hj1,hk1⟩:=pij h;subst hj1 hk1;exact fin0 rfl rfl
   ·refine zYV ?_;refine zAg rfl h (fun hb h=>?_) (fun hb h=>?_)
    ·refine zYV ?_;obtain⟨⟨y7,y8⟩,hy7,h⟩:=zAc h;refine⟨_,⟨_,_,_,_,hy7,rfl,rfl⟩,?_⟩
     refine zAe ?_;obtain⟨hj1,hk1⟩:=pij h;subst hj1 hk1;exact fin0 rfl rfl
    ·refine zYV ?_;refine zAg rfl h (fun hb h=>?_) (fun hb h=>?_)
     ·refine zYV ?_;obtain⟨⟨y9,y10⟩,hy9,h⟩:=zAc h;refine⟨_,⟨_,_,_,_,hy9,rfl,rfl⟩,?_⟩
      refine zAe ?_;obtain⟨hj1,hk1⟩:=pij h;subst hj1 hk1;exact fin0 rfl rfl
     ·refine zAf ?_;refine zYV ?_;obtain⟨⟨y11,y12⟩,hy11,h⟩:=zAc h;refine⟨_,⟨_,_,_,_,hy11,rfl,rfl⟩,?_⟩
      refine zAe ?_;obtain⟨hj1,hk1⟩:=pij h;subst hj1 hk1;exact fin0 rfl rfl
def zP3 (n:Nat) (xs:List AV) (r:Ret):Prop:=∃ (a0:Nd) (a1:zO8) (y0:Nd) (y1:Int),zEm n a0 a1=some (y0,y1)/\xs=[.agg ((Nd.enc a0).map .s),.agg ((zAk a1).map .s)]/\r = .val (.tup [.agg ((Nd.enc y0).map .s),.s (.int .i64 y1)])
def zKP:zAq:=zAs fun xs r=>∃ n,zP3 n xs r
theorem zPn:PSound Tryz.prog 58 zKP:=by
 have gok:∀ f s,look? f [(38,zDj),(87,zJN),(88,zNJ),(89,zF0),(90,zLY)]=some s->PSound Tryz.prog f s:=zAo (by
  simp only[List.forall_mem_cons]
  exact⟨zDR,zNo,zSr,zIO,zRf,by simp⟩)
 refine zAr tokW Tryz.call58 Tryz.func58 rfl (fun xs r h=>by obtain⟨n,_,_,_,_,_,rfl,_⟩:=h; show 2<=53; decide) 53 rfl ?_;rintro xs r w0 G0 ⟨n,⟨n1A,n1C,n1D,n1B⟩,⟨op2A,op2G,op2L,op2S,op2R,op2V,op2Ac,op2C⟩,y0,y1,h,rfl,rfl⟩ _;rw[zEm]at h;refine zYf [4] [] rfl ?_;refine zAa ?_;refine zYV ?_;obtain⟨y3,hy3,h⟩:=zAc h;refine⟨_,⟨_,_,_,hy3,rfl,rfl⟩,?_⟩
 refine zAg rfl h (fun hb h=>?_) (fun hb h=>?_)
 ·refine zYV ?_;refine zAe ?_;obtain⟨hj1,hk1⟩:=pij h;subst hj1 hk1;exact fin0 rfl rfl
 ·refine zAf ?_;refine zAa ?_;refine zYV ?_;obtain⟨y4,hy4,h⟩:=zAc h;refine⟨_,⟨_,_,_,hy4,rfl,rfl⟩,?_⟩
  refine zAg rfl h (fun hb h=>?_) (fun hb h=>?_)
  ·refine zYV ?_;refine zAe ?_;obtain⟨hj1,hk1⟩:=pij h;subst hj1 hk1;exact fin0 rfl rfl
  ·refine zAf ?_;refine zYf [6] [] rfl ?_;obtain⟨⟨⟨y5A,y5C,y5D,y5B⟩,y6⟩,hy5,h⟩:=zAc h;refine⟨_,⟨_,_,_,_,_,hy5,rfl,rfl⟩,?_⟩
   refine zAa ?_;refine zYV ?_;refine zAg rfl h (fun hb h=>?_) (fun hb h=>?_)
   ·refine zYV ?_;refine zAe ?_;obtain⟨hj1,hk1⟩:=pij h;subst hj1 hk1;exact fin0 rfl rfl
   ·refine zAf ?_;refine zYV ?_;obtain⟨⟨y7,y8⟩,hy7,h⟩:=zAc h;refine⟨_,⟨_,_,_,_,hy7,rfl,rfl⟩,?_⟩
    refine zAa ?_;refine zYV ?_;refine zAg rfl h (fun hb h=>?_) (fun hb h=>?_)
    ·refine zYV ?_;refine zAe ?_;obtain⟨hj1,hk1⟩:=pij h;subst hj1 hk1;exact fin0 rfl rfl
    ·refine zAf ?_;refine zYf [8] [] rfl ?_;obtain⟨⟨⟨y9A,y9C,y9D,y9B⟩,y10⟩,hy9,h⟩:=zAc h;refine⟨_,⟨_,_,_,_,_,_,hy9,rfl,rfl⟩,?_⟩
     refine zAh (Le.giveBox 2 [.int .i64 y9A,.str y9C,.int .i64 y9D,.sl 4 (Nd.encs y9B)] rfl rfl) ?_;refine zAa ?_;refine zYV ?_;refine zAg rfl h (fun hb h=>?_) (fun hb h=>?_)
     ·refine zYV ?_;refine zAe ?_;obtain⟨hj1,hk1⟩:=pij h;subst hj1 hk1;exact fin0 rfl rfl
     ·refine zAf ?_;refine zYV ?_;refine zAe ?_;obtain⟨hj1,hk1⟩:=pij h;subst hj1 hk1;exact fin0 rfl rfl
def zLT (n:Nat) (xs:List AV) (r:Ret):Prop:=∃ (a0:Nd) (a1:List zO8) (y0:Nd) (y1:Int) (y2:Int),zBh n a0 a1=some (y0,y1,y2)/\xs=[.agg ((Nd.enc a0).map .s),.s (.sl 8 ((List.map zAk) a1))]/\r = .val (.tup [.agg ((Nd.enc y0).map .s),.s (.int .i64 y1),.s (.int .i64 y2)])
def zEu:zAq:=zAs fun xs r=>∃ n,zLT n xs r
theorem zFt:PSound Tryz.prog 31 zEu:=by
 have gok:∀ f s,look? f [(38,zDj),(29,zDi),(58,zKP)]=some s->PSound Tryz.prog f s:=zAo (by
  simp only[List.forall_mem_cons]
  exact⟨zDR,zDy,zPn,by simp⟩)
 refine zAr tokW Tryz.call31 Tryz.func31 rfl (fun xs r h=>by obtain⟨n,_,_,_,_,_,_,rfl,_⟩:=h; show 2<=39; decide) 39 rfl ?_;rintro xs r w0 G0 ⟨n,⟨n1A,n1C,n1D,n1B⟩,ops2,y0,y1,y2,h,rfl,rfl⟩ _;rw[zBh]at h;refine zYf [4] [] rfl ?_;refine zAa ?_;refine zYV ?_;obtain⟨y3,hy3,h⟩:=zAc h;refine⟨_,⟨_,_,_,hy3,rfl,rfl⟩,?_⟩
 refine zAg rfl h (fun hb h=>?_) (fun hb h=>?_)
 ·refine zYV ?_;refine zAe ?_;obtain⟨hj1,hk1⟩:=pij h;subst hj1;obtain⟨hj2,hk2⟩:=Prod.mk.inj hk1;subst hj2;subst hk2;exact fin0 rfl rfl
 ·refine zAf ?_;refine zYf [7] [] rfl ?_;obtain⟨⟨y4A,y4C,y4D,y4B⟩,hy4,h⟩:=zAc h;refine⟨_,⟨_,_,hy4,rfl,rfl⟩,?_⟩
  refine zAa ?_;refine zYf [] [19] rfl ?_;intro n5 hn5;obtain rfl:(ops2.length:Int)=n5:=(hn5.trans (congrArg (fun m:Nat=>(m:Int)) (rlen (fun _=>rfl) ops2))).symm;show Tri ..;obtain⟨fl,hl,ho1⟩:=zAc h;refine zBA (fl:=fl) (fun z=>match z with | ⟨x12,x13,x14,x15⟩=>⟨ofL [(4,.op 0 0),(7,.op 1 0)],ofH [(0,.box 24 [.s (.int .i64 0),.s (.str []),.s (.int .i64 0),.nl 4]),(1,.box 24 [.s (.int .i64 x12),.s (.str x13),.s (.int .i64 x14),.s (.sl 4 (Nd.encs x15))])],2⟩) ?_ (fun z σ' hz hle=>?_)
  ·refine zAl (zAy (X:=Nat×Int×(List UInt8)×Int×(List Nd)×Int) (fun y=>match y with | (k,x7,x8,x9,x10,x11)=>⟨ofL [(4,.op 0 0),(7,.op 1 0),(18,.s (.sl 8 ((List.map zAk) ops2))),(19,.s (.int .i64 (ops2.length:Int))),(20,.s (.int .i64 x11))],ofH [(0,.box 24 [.s (.int .i64 0),.s (.str []),.s (.int .i64 0),.nl 4]),(1,.box 24 [.s (.int .i64 x7),.s (.str x8),.s (.int .i64 x9),.s (.sl 4 (Nd.encs x10))])],2⟩) (fun y=>zBc n ops2 y.1 y.2.1 y.2.2.1 y.2.2.2.1 y.2.2.2.2.1 y.2.2.2.2.2=some fl) (fun y=>y.1) (n,y4A,y4C,y4D,y4B,0) hl ?_ ?_)
   ·exact(Le.rnm [(0,0),(1,1)] _ _ _ ⟨rfl,rfl,rfl,rfl,rfl,trivial⟩ ⟨rfl,⟨_,rfl,rfl⟩,rfl,⟨_,rfl,rfl⟩,trivial⟩)
   ·rintro⟨k,x7,x8,x9,x10,x11⟩ h;cases k with
    | zero=>cases h
    | succ k =>
     replace h:zBc n ops2 (k+1) x7 x8 x9 x10 x11=some fl:=h;rw[zBc]at h;refine zYV ?_;refine zAa ?_;refine zAg rfl h (fun hb h=>?_) (fun hb h=>?_)
     ·refine zAf ?_;refine zAa ?_;refine zAl ?_;refine zYf [9] [23] rfl ?_;obtain⟨⟨e16A,e16G,e16L,e16S,e16R,e16V,e16Ac,e16C⟩,he16,h⟩:=zAc h;refine And.intro (zAp (fun _=>rfl) he16).1 ?_;intro r17 hr17;obtain rfl:[.int .i64 e16A,.sl 1 ((List.map (irow .i64)) e16G),.int .i64 e16L,.int .i64 e16S,.sl 4 (Nd.encs e16R),.int .i64 e16V,.str e16Ac,.str e16C]=r17:=(hr17.trans (zAp (fun _=>rfl) he16).2.1).symm;show Tri ..
      refine zAh (Le.giveBox 2 [.int .i64 e16A,.sl 1 ((List.map (irow .i64)) e16G),.int .i64 e16L,.int .i64 e16S,.sl 4 (Nd.encs e16R),.int .i64 e16V,.str e16Ac,.str e16C] rfl rfl) ?_;refine zYf [10] [] rfl ?_;obtain⟨⟨⟨y18A,y18C,y18D,y18B⟩,y19⟩,hy18,h⟩:=zAc h;refine⟨_,⟨_,_,_,_,_,hy18,rfl,rfl⟩,?_⟩
      refine zAh (Le.giveBox 3 [.int .i64 y18A,.str y18C,.int .i64 y18D,.sl 4 (Nd.encs y18B)] rfl rfl) ?_;refine zAa ?_;refine zYV ?_;refine zAg rfl h (fun hb h=>?_) (fun hb h=>?_)
      ·refine zYV ?_;refine zAe ?_;cases h;replace h:some _=some _:=ho1;obtain⟨hj1,hk1⟩:=pij h;subst hj1;obtain⟨hj2,hk2⟩:=Prod.mk.inj hk1;subst hj2;subst hk2;exact fin0 rfl rfl
      ·refine zAf ?_;refine zYU ?_;refine zYU ?_;refine⟨(k,y18A,y18C,y18D,y18B,IntKind.i64.wrap (x11+1)),h,(Le.rnm [(0,0),(1,1)] _ _ _ ⟨rfl,rfl,rfl,rfl,rfl,trivial⟩ ⟨rfl,⟨_,rfl,rfl⟩,rfl,⟨_,rfl,rfl⟩,trivial⟩),Nat.lt_succ_self k⟩
     ·refine zAC ?_;cases h;exact⟨_,rfl,(Le.rnm [(0,0),(1,1)] _ _ _ ⟨rfl,rfl,trivial⟩ ⟨rfl,⟨_,rfl,rfl⟩,rfl,⟨_,rfl,rfl⟩,trivial⟩)⟩
  ·subst hz;obtain⟨x12,x13,x14,x15⟩:=z;replace h:=ho1;refine zAh hle ?_;refine zYV ?_;refine zAe ?_;obtain⟨hj1,hk1⟩:=pij h;subst hj1;obtain⟨hj2,hk2⟩:=Prod.mk.inj hk1;subst hj2;subst hk2;exact fin0 rfl rfl
def zON (n:Nat) (xs:List AV) (r:Ret):Prop:=∃ (a0:zO8) (y0:zO8),zB0 n a0=some y0/\xs=[.agg ((zAk a0).map .s)]/\r = .val (.agg ((zAk y0).map .s))
def zJO:zAq:=zAs fun xs r=>∃ n,zON n xs r
theorem zNp:PSound Tryz.prog 61 zJO:=by
 have gok:∀ f s,look? f [(91,zLW)]=some s->PSound Tryz.prog f s:=zAo (by
  simp only[List.forall_mem_cons]
  exact⟨zOj,by simp⟩)
 refine zAr tokW Tryz.call61 Tryz.func61 rfl (fun xs r h=>by obtain⟨n,_,_,_,rfl,_⟩:=h; show 1<=29; decide) 29 rfl ?_;rintro xs r w0 G0 ⟨n,⟨op1A,op1G,op1L,op1S,op1R,op1V,op1Ac,op1C⟩,y0,h,rfl,rfl⟩ _;rw[zB0]at h;refine zYf [2] [] rfl ?_;refine zYf [3] [] rfl ?_;obtain⟨⟨y2A,y2G,y2L,y2S,y2R,y2V,y2Ac,y2C⟩,hy2,h⟩:=zAc h;refine⟨_,⟨_,_,_,hy2,rfl,rfl⟩,?_⟩
 refine zAa ?_;refine zYV ?_;show Tri ..;obtain⟨⟨x3,x4,x5⟩,hj,h⟩:=zAc h;refine zAm ⟨ofL [(2,.op 0 0),(3,.op 1 0)],ofH [(0,.box 65 [.s (.int .i64 0),.nl 1,.s (.int .i64 0),.s (.int .i64 0),.nl 4,.s (.int .i64 0),.s (.str []),.s (.str [])]),(1,.box 65 [.s (.int .i64 x3),.s (.sl 1 ((List.map (irow .i64)) y2G)),.s (.int .i64 y2L),.s (.int .i64 y2S),.s (.sl 4 (Nd.encs y2R)),.s (.int .i64 y2V),.s (.str x4),.s (.str x5)])],2⟩ ?_ (fun σ' hle=>?_)
 ·replace h:=hj;refine zAl ?_;refine zYV ?_;refine zAg rfl h (fun hb h=>?_) (fun hb h=>?_)
  ·refine zYU ?_;cases h;exact(Le.rnm [(0,0),(1,1)] _ _ _ ⟨rfl,rfl,trivial⟩ ⟨rfl,⟨_,rfl,rfl⟩,rfl,⟨_,rfl,rfl⟩,trivial⟩)
  ·refine zYV ?_;refine zAg rfl h (fun hb h=>?_) (fun hb h=>?_)
   ·refine zYU ?_;cases h;exact(Le.rnm [(0,0),(1,1)] _ _ _ ⟨rfl,rfl,trivial⟩ ⟨rfl,⟨_,rfl,rfl⟩,rfl,⟨_,rfl,rfl⟩,trivial⟩)
   ·refine zYV ?_;refine zAg rfl h (fun hb h=>?_) (fun hb h=>?_)
    ·refine zYU ?_;cases h;exact(Le.rnm [(0,0),(1,1)] _ _ _ ⟨rfl,rfl,trivial⟩ ⟨rfl,⟨_,rfl,rfl⟩,rfl,⟨_,rfl,rfl⟩,trivial⟩)
    ·refine zYV ?_;refine zAg rfl h (fun hb h=>?_) (fun hb h=>?_)
     ·refine zYU ?_;cases h;exact(Le.rnm [(0,0),(1,1)] _ _ _ ⟨rfl,rfl,trivial⟩ ⟨rfl,⟨_,rfl,rfl⟩,rfl,⟨_,rfl,rfl⟩,trivial⟩)
     ·refine zYV ?_;refine zAg rfl h (fun hb h=>?_) (fun hb h=>?_)
      ·refine zAA [] [] [5,7] rfl (by decide +kernel) ?_;cases h;exact(Le.rnm [(0,0),(1,1)] _ _ _ ⟨rfl,rfl,trivial⟩ ⟨rfl,⟨_,rfl,rfl⟩,rfl,⟨_,rfl,rfl⟩,trivial⟩)
      ·refine zAf ?_;cases h;exact(Le.rnm [(0,0),(1,1)] _ _ _ ⟨rfl,rfl,trivial⟩ ⟨rfl,⟨_,rfl,rfl⟩,rfl,⟨_,rfl,rfl⟩,trivial⟩)
 ·refine zAh hle ?_;refine zYV ?_;refine zAe ?_;have hy:=osi h;subst hy;exact fin0 rfl rfl
end Go.Proofs.YtffhjiplcfncdaaGreat
namespace Go.Abs
def ownB (β:Nat->Value) (hp:Nat->Option Ob):Nat->Prop:=fun b=>∃ k ob,hp k=some ob/\blk (β k)=some b
def rcx (P:Program) (N m l:Nat) (w:World) (X G:Nat->Prop) (B:Nat->Value):Cx:={ P:=P,w0:=w,X:=X,G0:=G,N:=N,n0:=m,B0:=B,ro:=some l }
def lcx (P:Program) (N m:Nat) (w:World) (X G:Nat->Prop) (B:Nat->Value) (D:Nat):Cx:={ P:=P,w0:=w,X:=X,G0:=G,N:=N,n0:=m,B0:=B,ds:=[{ target:=.collected D,args:=#[] }] }
theorem ObAt.turn {c1 c2:Cx}{G:Nat->Prop}{w w2:World}{β:Nat->Value}{v:Value}{o:Ob} (hk:Keep G G w w2) (hb:∀ b,blk v=some b->w2.heap[b]? = w.heap[b]?) (hm:∀ b,blk v=some b->c2.mine b) (h:ObAt c1 G w β v o):ObAt c2 G w2 β v o:=by
 cases o with
 | box xs =>
  obtain⟨b,e,cur,q1,q2,q3,q4,q5,q6⟩:=h;exact⟨b,e,cur,q1,(hb b (by rw[q1]; rfl)).trans q2,q3,hm b (by rw[q1]; rfl),q5.keep hk,q6⟩
 | row e sz rows =>
  obtain⟨q1,q2,q3⟩:=h;refine⟨q1,q2,q3.imp id ?_⟩
  rintro⟨b,cap,cur,g1,g2,g3,g4,g5,g6,g7⟩
  exact⟨b,cap,cur,g1,g2,g3,(hb b (by rw[g1]; rfl)).trans g4,g5,hm b (by rw[g1]; rfl),fun i s hi=>let ⟨u,hu,hr⟩:=g7 i s hi; ⟨u,hu,hr.keep hk⟩⟩
 | arow e sz rows =>
  obtain⟨q1,q2,q3⟩:=h;refine⟨q1,q2,q3.imp id ?_⟩
  rintro⟨b,cap,cur,g1,g2,g3,g4,g5,g6,g7⟩
  exact⟨b,cap,cur,g1,g2,g3,(hb b (by rw[g1]; rfl)).trans g4,g5,hm b (by rw[g1]; rfl),fun i s hi=>let ⟨u,hu,hr,h1⟩:=g7 i s hi; ⟨u,hu,hr.keep hk,h1⟩⟩
theorem ObAt.cells {c:Cx}{G:Nat->Prop}{w:World}{β:Nat->Value}{v:Value}{o:Ob} (h:ObAt c G w β v o):∀ b,blk v=some b->∃ cur e f,w.heap[b]? = some (.cells cur e f):=fun b hb=>by
 cases o with
 | box xs =>
  obtain⟨b',e,cur,rfl,q2,_⟩:=h;cases hb; exact⟨_,_,_,q2⟩
 | row e sz rows =>
  obtain⟨_,_,h | ⟨b',cap,cur,rfl,_,_,q2,_⟩⟩:=h
  ·rw[h.1]at hb; cases hb
  ·cases hb; exact⟨_,_,_,q2⟩
 | arow e sz rows =>
  obtain⟨_,_,h | ⟨b',cap,cur,rfl,_,_,q2,_⟩⟩:=h
  ·rw[h.1]at hb; cases hb
  ·cases hb; exact⟨_,_,_,q2⟩
section
variable {c:Cx} {G:Nat->Prop} {β:Nat->Value} {σ:St} {a:Act} {w:World}
theorem Conc.not_own (hc:Conc c G β σ a w){l:Nat}{o:Obj} (hl:w.heap[l]? = some o) (ho:o.isCells=false):¬ ownB β σ.hp l:=fun⟨k,ob,h1,h2⟩=>by
 obtain⟨cur,e,f,h3⟩:=(hc.hp k ob h1).cells l h2;rw[hl]at h3;cases h3;cases ho
theorem Conc.re (hc:Conc c G β σ a w){c2:Cx}{w2:World}{a2:Act}{env2:Nat->AV} (hk:∀ b,G b->w2.heap[b]? = w.heap[b]?) (ho:∀ b,ownB β σ.hp b->w2.heap[b]? = w.heap[b]?) (hs:w.heap.size<=w2.heap.size)
  (hd:a2.defers=c2.ds) (hN:a2.tmps.size=c2.N) (he:∀ t,AVal G w β (env2 t) (a2.tmps.getD t undef)) (hel:∀ t,(env2 t).lt σ.nx=true) (hm:∀ b,ownB β σ.hp b->c2.mine b)
  (hsub:∀ b,c2.G0 b->G b) (hnew:∀ b,G b->c2.G0 b∨c2.mine b) (hfr:Fr c2.X c2.w0 w2) (hst:c2.n0<=σ.nx/\∀ k,k<c2.n0->β k=c2.B0 k):Conc c2 G β ⟨env2,σ.hp,σ.nx⟩ a2 w2:=by
 have hkp:Keep G G w w2:=⟨fun _ h=>h,hk⟩
 exact {
  defers:=hd
  size:=hN
  env:=fun t=>(he t).keep hkp
  envlt:=hel
  hp:=fun k ob h=>(hc.hp k ob h).turn hkp (fun b hb=>ho b ⟨k,ob,h,hb⟩) (fun b hb=>hm b ⟨k,ob,h,hb⟩)
  hplt:=hc.hplt
  inj:=hc.inj
  lt:=fun b hb=>Nat.lt_of_lt_of_le (hc.lt b hb) hs
  sub:=hsub
  new:=hnew
  fr:=hfr
  stay:=hst
  glob:=hc.glob.keep hkp }
theorem Ext.alloc0 (h:∀ b,G b->b<w.heap.size) (o:Obj):Ext G G w (w.alloc o) :=
 ⟨rfl,rfl,rfl,by rw[World.size_alloc]; omega,fun b hb=>zBZ w o hb,fun _ h=>h,fun _ h=>.inl h,fun b hb=>by rw[World.size_alloc]; have:=h b hb; omega⟩
end
structure Grown (A B:World):Prop where
 os:B.os=A.os
 tape:B.tape=A.tape
 output:B.output=A.output
 size:A.heap.size<=B.heap.size
 old:∀ b,b<A.heap.size->B.heap[b]? = A.heap[b]?
theorem Grown.ext {A B:World}{G:Nat->Prop} (h:Grown A B) (hl:∀ b,G b->b<A.heap.size):Ext G G A B:=⟨h.os,h.tape,h.output,h.size,h.old,fun _ h=>h,fun _ h=>.inl h,fun b hb=>Nat.lt_of_lt_of_le (hl b hb) h.size⟩
def zOJ (P:Program) (fid sz:Nat):Prop :=
 ∀ (G:Nat->Prop) (w0:World) (v:Value) (rows:List (List S)),(∀ b,G b->b<w0.heap.size)->GlobOk G w0->Rep G w0 (.pt [.sl sz rows]) v->(∀ r∈rows,r.length=sz)->rows.length<=4611686018427387904 ->
  ∀ (l:Nat) (J:Nat->World->Prop) (W:World),w0.heap.size<=W.heap.size->(∀ b,G b->W.heap[b]? = w0.heap[b]?)->(∀ i A B,J i A->Grown A B->J i B) ->
   (∀ i j row u W1,i+j+1=rows.length->rows[j]? = some row->J i W1->w0.heap.size<=W1.heap.size->(∀ b,G b->W1.heap[b]? = w0.heap[b]?)->(∀ β,AVal G W1 β (.agg (row.map .s)) u) ->
    YieldAt Fence.wide 0 P l #[.int .i64 (j:Int),u] W1 fun e W2=>e = .returned (.bool true)/\J (i+1) W2/\w0.heap.size<=W2.heap.size/\∀ b,G b->W2.heap[b]? = w0.heap[b]?) ->
   J 0 W->CallsIn Fence.wide 1 P fid #[.func (.yield l) #[] #[],v] W fun e W'=>(∃ u,e = .returned u)/\J rows.length W'
structure Sw (c c2:Cx) (D:Nat):Prop where
 fr:Fr c.X c.w0 c2.w0
 mine:∀ b,c2.X b->c.mine b
 sub:∀ b,c.G0 b->c2.G0 b
 new:∀ b,c2.G0 b->c.G0 b∨c.mine b
 blk:c2.w0.heap[D]? = some (.deferred (some []))
 nX:¬ c2.X D
 nG:¬ c2.G0 D
 ge:c.w0.heap.size<=D
def zSU (σ:St) (p1 p2:Nat) (j:Nat) (row:List S) (e:(Nat->Option Ob)×Nat):St :=
 ⟨fun t=>bif Nat.beq t p2 then .agg (row.map .s) else bif Nat.beq t p1 then .s (.int .i64 (j:Int)) else σ.env t,e.1,e.2⟩
def Rl (w:World) (X:Nat->Prop) (l:Nat):Prop:=(∃ r,w.heap[l]? = some (.loop r))/\¬ X l
theorem zLI {tm:Array Value}{p t:Nat}{v:Value} (hp:p<tm.size):(tm.setIfInBounds p v).getD t undef=if t=p then v else tm.getD t undef:=by
 rw[Array.getD_eq_getD_getElem?,Array.getD_eq_getD_getElem?]
 by_cases h:t=p
 ·subst h;rw[if_pos rfl,Array.getElem?_setIfInBounds_self_of_lt hp]
  rfl
 ·rw[if_neg h,Array.getElem?_setIfInBounds_ne (Ne.symm h)]
theorem zip2 {α β:Type} (a b:α) (x y:β) : #[a,b].zip #[x,y] = #[(a,x),(b,y)]:=by
 apply Array.ext'
 simp[Array.toList_zip]
theorem nbeq {a b:Nat} (h:a ≠ b):Nat.beq a b=false:=by
 cases e:Nat.beq a b with
 | false=>rfl
 | true=>exact absurd (Nat.eq_of_beq_eq_true e) h
theorem zSj {n:Nat}:∀ (row:List S),AV.ltAll n (row.map .s)=true
 | []=>rfl
 | s::r=>by simp only[List.map_cons,AV.ltAll,Bool.and_eq_true]; exact⟨rfl,zSj r⟩
theorem zXq {c:Cx}{G:Nat->Prop}{β:Nat->Value}{σ:St}{a:Act}{w:World} (hc:Conc c G β σ a w) (hro:c.ro=none) (hds:c.ds=[]){tg p1 p2 fid sz:Nat}{rows:List (List S)}{assign body:Code}
  (hit:zOJ c.P fid sz) (hcall:∀ args w,(callFunc fid args).run c.P w = .ok (.enter fid args) w) (he:σ.env tg = .clo fid [.s (.pt [.sl sz rows])]) (hrl:∀ r∈rows,r.length=sz) (hlen:rows.length<=4611686018427387904)
  (E:Nat->(Nat->Option Ob)×Nat) (hE:E 0=(σ.hp,σ.nx)) (m:Nat) (hm:∀ t,(σ.env t).lt m=true) (hm0:c.n0<=m) (hmE:∀ i,m<=(E i).2) (hp1:p1<c.N) (hp2:p2<c.N)
  (hround:∀ i j row,i+j+1=rows.length->rows[j]? = some row->∀ l w X G B,Rl w X l->Tri (rcx c.P c.N m l w X G B) assign (zSU σ p1 p2 j row (E i)) (fun e σ1=>e = .normal/\∀ w X G B,Rl w X l ->
   Tri (rcx c.P c.N m l w X G B) body σ1 (fun e σ2=>e = .normal/\∃ σ3,Le (rcx c.P c.N m l w X G B) σ2 σ3/\σ3.hp=(E (i+1)).1/\σ3.nx=(E (i+1)).2)))
  (hfid:Nat.ble 1048576 fid=false) {Φ:Exit->Act->World->Prop} (hdone:∀ D w2 X G2 G' β' a2,Sw c (lcx c.P c.N c.n0 w2 X G2 c.B0 D) D->Conc (lcx c.P c.N c.n0 w2 X G2 c.B0 D) G' β' ⟨σ.env,(E rows.length).1,(E rows.length).2⟩ a2 w2->Φ .normal a2 w2) :
  (Code.rangeFunc (.tmp tg) #[p1,p2] assign body).wpIn (rF none) 2 c.P Φ a w:=by
 have hg:=hc.env tg;rw[he]at hg;simp only[AVal,AVals]at hg;obtain⟨vs,hg,v,vs',rfl,hv,rfl⟩:=hg;have hg:a.eval (.tmp tg) = .func (.func fid) #[] #[v] :=(by rw[zVh hfid]at hg; exact hg);have hiter:=hit G w v rows hc.lt hc.glob hv hrl hlen;refine wpIn_rangeFunc fun fn _=>?_
 obtain⟨rec,hrec⟩:∃ rec:LoopState->Loop,rec=fun st=>{ state:=st,pending:=none,fn:=fn,tmps:=a.tmps,params:=#[p1,p2],assign:=assign,body:=body,defers:=w.heap.size }:=⟨_,rfl⟩
 obtain⟨l,hl0⟩:∃ l,l=w.heap.size+1:=⟨_,rfl⟩
 obtain⟨D,hD0⟩:∃ D,D=w.heap.size:=⟨_,rfl⟩
 obtain⟨W1,hW1⟩:∃ W1,(w.alloc (.deferred (some []))).alloc (.loop (rec .ready))=W1:=⟨_,rfl⟩
 have hL1:W1.heap[l]? = some (.loop (rec .ready)):=by
  have:=World.alloc_heap_new (w.alloc (.deferred (some []))) (.loop (rec .ready))
  rw[World.size_alloc]at this;rw[← hW1,hl0]; exact this
 have hDD:W1.heap[D]? = some (.deferred (some [])):=by
  have:=zBZ (w.alloc (.deferred (some []))) (.loop (rec .ready)) (b:=w.heap.size) (by rw[World.size_alloc]; omega)
  rw[← hW1,hD0,this]
  exact World.alloc_heap_new w _
 have hc1:Conc c G β σ a W1:=by
  rw[← hW1]
  have h1:=hc.ext (Ext.alloc0 hc.lt (.deferred (some [])))
  exact h1.ext (Ext.alloc0 h1.lt (.loop (rec .ready)))
 have hlD:l ≠ D :=(by omega);have hcl:c.w0.heap.size<=D :=(by rw[hD0]; exact hc.fr.size);refine⟨l,[{ target:=.collected D,args:=#[] }],W1,{ target:=.fn (.func fid) #[v],args:=#[.func (.yield l) #[] #[]] },W1,fid,#[.func (.yield l) #[] #[]]++#[v],W1,?_,?_,?_,?_,fun h=>(by cases h),?_⟩
 ·rw[← hW1,hrec,hl0,hD0]; exact run_enterLoop_outer _ _ _ _ _
 ·simp only[resolve,hg]
  simp[go_sem]
 ·intro f' hf'; trivial
 ·simp[invoke,go_sem,hcall]
 have key:=hiter l (fun i W=>W.heap[l]? = some (.loop (rec .ready))/\W.heap[D]? = some (.deferred (some []))/\∃ G' β',Conc c G' β' ⟨σ.env,(E i).1,(E i).2⟩ a W/\(∀ b,G b->G' b)/\¬ G' l/\¬ G' D) W1 (by rw[← hW1,World.size_alloc,World.size_alloc]; omega)
  (fun b hb=>by
   have hb':=hc.lt b hb;rw[← hW1,zBZ _ _ (by rw[World.size_alloc]; omega),zBZ _ _ hb'])
  (fun i A B ⟨h1,h2,G',β',h3,h4⟩ hg=>⟨(hg.old l (Array.getElem?_eq_some_iff.1 h1).1).trans h1,(hg.old D (Array.getElem?_eq_some_iff.1 h2).1).trans h2,G',β',h3.ext (hg.ext h3.lt),h4⟩)
  ?_ ⟨hL1,hDD,G,β,by rw[hE]; exact hc1,fun _ h=>h,fun h=>by have:=hc.lt _ h; omega,fun h=>by have:=hc.lt _ h; omega⟩
 ·refine key.mono ?_;rintro e W3 ⟨⟨u,rfl⟩,h1,h2,G3,β3,hc3,hG3,hnl,hnD⟩
  have hend:=run_endLoop (P:=c.P) h1 (by rw[hrec]; simp)
  rw[hrec]at hend;refine⟨none,_,hend,?_⟩
  dsimp only;have hnol:¬ ownB β3 (E rows.length).1 l:=hc3.not_own h1 rfl;have hnoD:¬ ownB β3 (E rows.length).1 D:=hc3.not_own h2 rfl;have hl3:l<W3.heap.size:=(Array.getElem?_eq_some_iff.1 h1).1;generalize hW4:W3.putObj l _=W4;have hoth:∀ b,b ≠ l->W4.heap[b]? = W3.heap[b]?:=fun b hb=>by rw[← hW4]; exact World.putObj_heap_other hb
  have hsz:W4.heap.size=W3.heap.size :=(by rw[← hW4]; exact World.putObj_size);have hfr4:Fr c.X c.w0 W4:=⟨by rw[← hW4]; exact hc3.fr.os,by rw[← hW4]; exact hc3.fr.tape,by rw[← hW4]; exact hc3.fr.output,by rw[hsz]; exact hc3.fr.size,fun b hb hx=>(hoth b (by omega)).trans (hc3.fr.old b hb hx)⟩
  refine hdone D W4 (ownB β3 (E rows.length).1) G3 G3 β3 _ ⟨hfr4,fun b ⟨k,ob,q1,q2⟩=>(row_block (hc3.hp k ob q1) b q2).2,hc3.sub,hc3.new,(hoth D (Ne.symm hlD)).trans h2,hnoD,hnD,hcl⟩ ?_;exact hc3.re (c2:=lcx c.P c.N c.n0 W4 (ownB β3 (E rows.length).1) G3 c.B0 D) (fun b hb=>hoth b fun h=>hnl (h ▸ hb)) (fun b hb=>hoth b fun h=>hnol (h ▸ hb)) (by rw[hsz]; exact Nat.le_refl _)
   (by show _::a.defers=_; rw[hc.defers,hds]; rfl) hc.size hc3.env hc3.envlt (fun b hb=>.inl hb) (fun b hb=>hb) (fun b hb=>.inl hb) (Fr.refl _ _) hc3.stay
 ·rintro i j row u W hiN hrow ⟨h1,h2,G',β',hcW,hGG,hnl,hnD⟩ hszW hGk hval;have hy:=run_yield (P:=c.P) (args:=#[.int .i64 (j:Int),u]) h1 (by rw[hrec]; rfl)
  rw[hrec]at hy;have hnol:¬ ownB β' (E i).1 l:=hcW.not_own h1 rfl;have hnoD:¬ ownB β' (E i).1 D:=hcW.not_own h2 rfl;have hlW:l<W.heap.size:=(Array.getElem?_eq_some_iff.1 h1).1;have hDW:D<W.heap.size:=(Array.getElem?_eq_some_iff.1 h2).1;have hkW:Keep G G' w W:=⟨hGG,fun b hb=>(hGk b hb)⟩
  have htm:((#[p1,p2].zip #[Value.int .i64 (j:Int),u]).foldl (fun tmps (x:Nat×Value)=>tmps.setIfInBounds x.1 x.2) a.tmps)=(a.tmps.setIfInBounds p1 (.int .i64 (j:Int))).setIfInBounds p2 (u) :=(by rw[zip2]; rfl);have hy:(Instr.yield l #[.int .i64 (j:Int),u]).run c.P W = .ok (.round l fn ((a.tmps.setIfInBounds p1 (.int .i64 (j:Int))).setIfInBounds p2 (u)) assign body) W :=(by rw[← htm]; exact hy);refine⟨fn,_,assign,body,hy,roundIn_of_wpIn trivial ?_⟩
  have hs1:p1<a.tmps.size :=(by rw[hcW.size]; exact hp1);have hs2:p2<(a.tmps.setIfInBounds p1 (.int .i64 (j:Int))).size :=(by rw[Array.size_setIfInBounds,hcW.size]; exact hp2);have hA:Conc (rcx c.P c.N m l W (ownB β' (E i).1) G' β') G' β' (zSU σ p1 p2 j row (E i)) { tmps:=(a.tmps.setIfInBounds p1 (.int .i64 (j:Int))).setIfInBounds p2 (u),defers:=[] } W:=by
   refine hcW.re (c2:=rcx c.P c.N m l W (ownB β' (E i).1) G' β') (fun _ _=>rfl) (fun _ _=>rfl) (Nat.le_refl _) rfl (by show _=c.N; rw[Array.size_setIfInBounds,Array.size_setIfInBounds]; exact hcW.size) (fun t=>?_) (fun t=>?_) (fun b hb=>.inl hb) (fun _ h=>h) (fun _ h=>.inl h) (Fr.refl _ _) ⟨hmE i,fun _ _=>rfl⟩
   ·dsimp only;rw[zLI hs2,zLI hs1]
    by_cases e2:t=p2
    ·subst e2;rw[if_pos rfl,Nat.beq_refl,cond_true]
     exact(hval β').keep ⟨hGG,fun _ _=>rfl⟩
    ·rw[if_neg e2,nbeq e2,cond_false]
     by_cases e1:t=p1
     ·subst e1;rw[if_pos rfl,Nat.beq_refl,cond_true]
      simp[AVal,Rep]
     ·rw[if_neg e1,nbeq e1,cond_false]
      exact hcW.env t
   ·dsimp only
    by_cases e2:t=p2
    ·subst e2; rw[Nat.beq_refl,cond_true]; simp only[AV.lt]; exact zSj row
    ·rw[nbeq e2,cond_false]
     by_cases e1:t=p1
     ·subst e1; rw[Nat.beq_refl,cond_true]; rfl
     ·rw[nbeq e1,cond_false]; exact hcW.envlt t
  have hTri:=hround i j row hiN hrow l W (ownB β' (E i).1) G' β' ⟨⟨_,h1⟩,hnol⟩
  unfold Tri at hTri;refine wpIn_mono (zXE (m:=0) (hTri _ _ _ _ hA)) ?_;rintro e a1 Wb ⟨e',G2,β2,σ1,rfl,⟨rfl,hbody⟩,hB⟩
  have bl:Wb.heap[l]? = W.heap[l]?:=hB.fr.old l hlW hnol;have bD:Wb.heap[D]? = W.heap[D]?:=hB.fr.old D hDW hnoD;have hlb:l<Wb.heap.size:=Nat.lt_of_lt_of_le hlW hB.fr.size;have hn2l:¬ G2 l:=fun h=>(hB.new l h).elim hnl (fun h=>h.elim hnol (fun h=>by have:W.heap.size<=l:=h; omega))
  have hn2D:¬ G2 D:=fun h=>(hB.new D h).elim hnD (fun h=>h.elim hnoD (fun h=>by have:W.heap.size<=D:=h; omega))
  refine⟨_,run_beginRound (bl.trans h1) (by rw[hrec]),?_⟩
  generalize hW2:Wb.putObj l _=W2;have oth2:∀ b,b ≠ l->W2.heap[b]? = Wb.heap[b]?:=fun b hb=>by rw[← hW2]; exact World.putObj_heap_other hb
  have sz2:W2.heap.size=Wb.heap.size :=(by rw[← hW2]; exact World.putObj_size);have l2:W2.heap[l]? = some (.loop { rec .ready with state:=.busy }) :=(by rw[← hW2]; exact World.putObj_heap_same hlb);have hno1l:¬ ownB β2 σ1.hp l:=hB.not_own (bl.trans h1) rfl;have hno1D:¬ ownB β2 σ1.hp D:=hB.not_own (bD.trans h2) rfl;have hB2:Conc (rcx c.P c.N m l W2 (ownB β2 σ1.hp) G2 β') G2 β2 σ1 a1 W2 :=
   hB.re (c2:=rcx c.P c.N m l W2 (ownB β2 σ1.hp) G2 β') (fun b hb=>oth2 b fun h=>hn2l (h ▸ hb)) (fun b hb=>oth2 b fun h=>hno1l (h ▸ hb)) (by rw[sz2]; exact Nat.le_refl _) hB.defers hB.size hB.env hB.envlt (fun b hb=>.inl hb) (fun _ h=>h) (fun _ h=>.inl h) (Fr.refl _ _) hB.stay
  have hTri2:=hbody W2 (ownB β2 σ1.hp) G2 β' ⟨⟨_,l2⟩,hno1l⟩
  unfold Tri at hTri2;refine wpIn_mono (zXE (m:=0) (hTri2 _ _ _ _ hB2)) ?_;rintro e a2 Wc ⟨e',G3,β3,σ2,rfl,⟨rfl,σ3,hle,hhp,hnx⟩,hC0⟩
  unfold Le at hle;obtain⟨G4,β4,hC⟩:=hle _ _ _ _ hC0;have hl2:l<W2.heap.size :=(by omega);have hD2:D<W2.heap.size :=(by have:=hB.fr.size; simp only[rcx]at this; omega);have cl:Wc.heap[l]? = W2.heap[l]?:=hC.fr.old l hl2 hno1l;have cD:Wc.heap[D]? = W2.heap[D]?:=hC.fr.old D hD2 hno1D;have hlc:l<Wc.heap.size:=Nat.lt_of_lt_of_le hl2 hC.fr.size;have hend:=run_endRound (P:=c.P) none (cl.trans l2)
  refine⟨_,_,hend,rfl,?_⟩
  generalize hW5:Wc.putObj l _=W5;have oth5:∀ b,b ≠ l->W5.heap[b]? = Wc.heap[b]?:=fun b hb=>by rw[← hW5]; exact World.putObj_heap_other hb
  have sz5:W5.heap.size=Wc.heap.size :=(by rw[← hW5]; exact World.putObj_size);have l5:W5.heap[l]? = some (.loop (rec .ready)) :=(by rw[← hW5,World.putObj_heap_same hlc,hrec]; rfl);have hnol3:¬ ownB β4 σ3.hp l:=hC.not_own (cl.trans l2) rfl;have hn4l:¬ G4 l:=fun h=>(hC.new l h).elim hn2l (fun h=>h.elim hno1l (fun h=>by have:W2.heap.size<=l:=h; omega))
  have hn4D:¬ G4 D:=fun h=>(hC.new D h).elim hn2D (fun h=>h.elim hno1D (fun h=>by have:W2.heap.size<=D:=h; omega))
  have hsub4:∀ b,G' b->G4 b:=fun b h=>hC.sub b (hB.sub b h)
  have hgl:∀ b,G' b->b ≠ l:=fun b h e=>hnl (e ▸ h)
  have hkeep:∀ b,G' b->Wc.heap[b]? = W.heap[b]?:=fun b h=>by
   have hno:¬ ownB β' (E i).1 b:=fun⟨k,ob,q1,q2⟩=>(row_block (hcW.hp k ob q1) b q2).1 h
   have hno2:¬ ownB β2 σ1.hp b:=fun⟨k,ob,q1,q2⟩=>(row_block (hB.hp k ob q1) b q2).1 (hB.sub b h)
   have hb1:=hcW.lt b h;have hb2:b<W2.heap.size :=(by have:=hB.lt b (hB.sub b h); omega);exact(hC.fr.old b hb2 hno2).trans ((oth2 b (hgl b h)).trans (hB.fr.old b hb1 hno))
  have hbeta:∀ k,k<m->β4 k=β' k:=fun k hk=>hC.stay.2 k hk
  have hnxle:m<=σ3.nx:=hC.stay.1;have hmine1:∀ b,ownB β2 σ1.hp b->c.mine b:=fun b ⟨k,ob,q1,q2⟩=>by
   rcases(row_block (hB.hp k ob q1) b q2).2 with ⟨k',ob',r1,r2⟩ | h
   ·exact(row_block (hcW.hp k' ob' r1) b r2).2
   ·exact .inr (Nat.le_trans hcW.fr.size h)
  have hmine3:∀ b,ownB β4 σ3.hp b->c.mine b:=fun b ⟨k,ob,q1,q2⟩=>by
   rcases(row_block (hC.hp k ob q1) b q2).2 with h | h
   ·exact hmine1 b h
   ·have h:W2.heap.size<=b:=h;have:=hB.fr.size;simp only[rcx]at this;exact .inr (by have:=hcW.fr.size; omega)
  have hfr5:Fr c.X c.w0 W5:=by
   refine⟨?_,?_,?_,?_,fun b hb hx=>?_⟩
   ·rw[← hW5]; show Wc.os=_; rw[hC.fr.os]; show W2.os=_; rw[← hW2]; show Wb.os=_; rw[hB.fr.os]; exact hcW.fr.os
   ·rw[← hW5]; show Wc.tape=_; rw[hC.fr.tape]; show W2.tape=_; rw[← hW2]; show Wb.tape=_; rw[hB.fr.tape]; exact hcW.fr.tape
   ·rw[← hW5]; show Wc.output=_; rw[hC.fr.output]; show W2.output=_; rw[← hW2]; show Wb.output=_; rw[hB.fr.output]; exact hcW.fr.output
   ·have h1:=hC.fr.size;have h2:=hB.fr.size;have h3:=hcW.fr.size;simp only[rcx]at h1 h2
    omega
   ·have hno:¬ ownB β' (E i).1 b:=fun⟨k,ob,q1,q2⟩=>(row_block (hcW.hp k ob q1) b q2).2.elim hx (fun h=>by omega)
    have hno2:¬ ownB β2 σ1.hp b:=fun h=>(hmine1 b h).elim hx (fun h=>by omega)
    have hb1:b<W.heap.size :=(by have:=hcW.fr.size; omega);have hb2:b<W2.heap.size :=(by have:=hB.fr.size; simp only[rcx]at this; omega);have hbl:b ≠ l :=(by omega);exact(oth5 b hbl).trans ((hC.fr.old b hb2 hno2).trans ((oth2 b hbl).trans ((hB.fr.old b hb1 hno).trans (hcW.fr.old b hb hx))))
  refine⟨⟨l5,(oth5 D (Ne.symm hlD)).trans (cD.trans ((oth2 D (Ne.symm hlD)).trans (bD.trans h2))),G4,β4,?_,fun b h=>hsub4 b (hGG b h),hn4l,hn4D⟩,by have h1:=hC.fr.size; have h2:=hB.fr.size; simp only[rcx]at h1 h2; omega,fun b hb=>(oth5 b (hgl b (hGG b hb))).trans ((hkeep b (hGG b hb)).trans (hGk b hb))⟩
  rw[← hhp,← hnx]
  refine hC.re (c2:=c) (fun b hb=>oth5 b fun h=>hn4l (h ▸ hb)) (fun b hb=>oth5 b fun h=>hnol3 (h ▸ hb)) (by rw[sz5]; exact Nat.le_refl _) hc.defers hc.size (fun t=>((hcW.env t).keep ⟨hsub4,hkeep⟩).beta hbeta (hm t)) (fun t=>AV.lt_mono hnxle (hm t)) hmine3
   (fun b hb=>hsub4 b (hcW.sub b hb)) (fun b hb=>?_) hfr5 ⟨Nat.le_trans hm0 hnxle,fun k hk=>(hbeta k (Nat.lt_of_lt_of_le hk hm0)).trans (hcW.stay.2 k hk)⟩
  rcases hC.new b hb with h | h
  ·rcases hB.new b h with h | h
   ·exact hcW.new b h
   ·rcases h with ⟨k',ob',r1,r2⟩ | h
    ·exact .inr (row_block (hcW.hp k' ob' r1) b r2).2
    ·exact .inr (.inr (Nat.le_trans hcW.fr.size h))
  ·rcases h with h | h
   ·exact .inr (hmine1 b h)
   ·have h:W2.heap.size<=b:=h;have h2:=hB.fr.size;have h3:=hcW.fr.size;simp only[rcx]at h2;exact .inr (.inr (by omega))
def TriX (c:Cx) (code:Code) (σ:St) (Φ:Exit->Act->World->Prop):Prop:=∀ G β a w,Conc c G β σ a w->code.wpIn (rF none) 2 c.P Φ a w
section
variable {c:Cx} {σ:St} {Φ:Exit->Act->World->Prop}
theorem zXm {x y:Code} (h:TriX c x σ (Exit.then (y.wpIn (rF none) 2 c.P Φ) Φ)):TriX c (.seq x y) σ Φ:=fun G β a w hc=>wpIn_seq (h G β a w hc)
theorem zUI {x:Code}{id:Nat} (h:TriX c x σ (Exit.inBlock id Φ)):TriX c (.block id x) σ Φ:=fun G β a w hc=>wpIn_block (h G β a w hc)
theorem zPV {x y:Code} (hro:c.ro=none) (h:Tri c x σ (fun e σ'=>e = .normal/\TriX c y σ' Φ)):TriX c (.seq x y) σ Φ:=fun G β a w hc=>by
 unfold Tri at h;rw[hro]at h;refine wpIn_seq (wpIn_mono (h G β a w hc) ?_)
 rintro e a' w' ⟨e',G',β',σ',rfl,⟨rfl,hq⟩,hc'⟩
 exact hq G' β' a' w' hc'
theorem zUJ (hro:c.ro=none) (hds:c.ds=[]){tg p1 p2 fid sz:Nat}{rows:List (List S)}{assign body:Code}
  (hit:zOJ c.P fid sz) (hcall:∀ args w,(callFunc fid args).run c.P w = .ok (.enter fid args) w) (he:σ.env tg = .clo fid [.s (.pt [.sl sz rows])]) (hrl:∀ r∈rows,r.length=sz) (hlen:rows.length<=4611686018427387904)
  (E:Nat->(Nat->Option Ob)×Nat) (hE:E 0=(σ.hp,σ.nx)) (m:Nat) (hm:∀ t,(σ.env t).lt m=true) (hm0:c.n0<=m) (hmE:∀ i,m<=(E i).2) (hp1:p1<c.N) (hp2:p2<c.N)
  (hround:∀ i j row,i+j+1=rows.length->rows[j]? = some row->∀ l w X G B,Rl w X l->Tri (rcx c.P c.N m l w X G B) assign (zSU σ p1 p2 j row (E i)) (fun e σ1=>e = .normal/\∀ w X G B,Rl w X l ->
   Tri (rcx c.P c.N m l w X G B) body σ1 (fun e σ2=>e = .normal/\∃ σ3,Le (rcx c.P c.N m l w X G B) σ2 σ3/\σ3.hp=(E (i+1)).1/\σ3.nx=(E (i+1)).2)))
  (hdone:∀ D w2 X G2 G' β' a2,Sw c (lcx c.P c.N c.n0 w2 X G2 c.B0 D) D->Conc (lcx c.P c.N c.n0 w2 X G2 c.B0 D) G' β' ⟨σ.env,(E rows.length).1,(E rows.length).2⟩ a2 w2->Φ .normal a2 w2) (hfid:Nat.ble 1048576 fid=false:=by rfl) :
  TriX c (.rangeFunc (.tmp tg) #[p1,p2] assign body) σ Φ:=fun G β a w hc=>zXq hc hro hds hit hcall he hrl hlen E hE m hm hm0 hmE hp1 hp2 hround hfid hdone
end
theorem zVu {c c2:Cx}{D:Nat}{T:Nat->Option TI} (hT:TOk c2.P T){fn:Func}{r:Ret}{code:Code}{σ:St} (hsw:Sw c c2 D) (hX:∀ b,¬ c.X b) (hro:c2.ro=none) (hds:c2.ds=[{ target:=.collected D,args:=#[] }])
  (h:Tri c2 code σ (fun e σ'=>match e with | .exit _=>False | _=>zBC c2 T fn.results.toList r σ')) :
  TriX c2 code σ (bodyPostM (rF none) 2 c2.P fn fun e W'=>∃ v G',e = .returned v/\Ext c.G0 G' c.w0 W'/\RetAt G' c.w0 W' r v):=fun G β a w hc=>by
 unfold Tri at h;rw[hro]at h;refine wpIn_mono (h G β a w hc) ?_;rintro e a' w' ⟨e',G',β',σ',rfl,hq,hc'⟩
 have fin:zBC c2 T fn.results.toList r σ'->LeavesInM (rF none) 2 c2.P fn a'.tmps (fun e W'=>∃ v G',e = .returned v/\Ext c.G0 G' c.w0 W'/\RetAt G' c.w0 W' r v) a'.defers .returning w':=fun hq=>by
  unfold zBC at hq;obtain⟨σ2,hle,hr⟩:=hq;unfold Le at hle;obtain⟨G2,β2,hc2⟩:=hle G' β' a' w' hc';have hDl:D<c2.w0.heap.size:=(Array.getElem?_eq_some_iff.1 hsw.blk).1;have hD:w'.heap[D]? = some (.deferred (some [])):=(hc2.fr.old D hDl hsw.nX).trans hsw.blk;have hnG:¬ G2 D:=fun h=>(hc2.new D h).elim hsw.nG (fun h=>h.elim hsw.nX (fun h=>by omega))
  have hnO:¬ ownB β2 σ2.hp D:=hc2.not_own hD rfl;rw[hc'.defers,hds]
  refine⟨by simp,.inl ⟨_,_,rfl,run_takeDeferred hD,?_⟩⟩
  generalize hW:w'.putObj D (.deferred none)=W;have oth:∀ b,b ≠ D->W.heap[b]? = w'.heap[b]?:=fun b hb=>by rw[← hW]; exact World.putObj_heap_other hb
  have sz:W.heap.size=w'.heap.size :=(by rw[← hW]; exact World.putObj_size);have hge:=hsw.ge;have hmine:∀ b,c2.mine b->c.w0.heap.size<=b:=fun b hb=>by
   rcases hb with hb | hb
   ·exact(hsw.mine b hb).elim (fun h=>absurd h (hX b)) id
   ·exact Nat.le_trans hsw.fr.size hb
  have hc3:Conc { P:=c2.P,w0:=W,X:=fun b=>c.w0.heap.size<=b,G0:=G2,N:=c2.N } G2 β2 ⟨σ2.env,σ2.hp,σ2.nx⟩ { a' with defers:=[] } W :=
   hc2.re (c2:={ P:=c2.P,w0:=W,X:=fun b=>c.w0.heap.size<=b,G0:=G2,N:=c2.N }) (fun b hb=>oth b fun h=>hnG (h ▸ hb)) (fun b hb=>oth b fun h=>hnO (h ▸ hb)) (by rw[sz]; exact Nat.le_refl _) rfl hc2.size hc2.env hc2.envlt
    (fun b ⟨k,ob,q1,q2⟩=>.inl (hmine b (row_block (hc2.hp k ob q1) b q2).2)) (fun b h=>h) (fun b h=>.inl h) (Fr.refl _ _) ⟨Nat.zero_le _,fun k hk=>by cases hk⟩
  have hext:Ext c.G0 G2 c.w0 W:=by
   refine⟨?_,?_,?_,?_,fun b hb=>?_,fun b hb=>hc2.sub b (hsw.sub b hb),fun b hb=>?_,fun b hb=>by rw[sz]; exact hc2.lt b hb⟩
   ·rw[← hW]; show w'.os=_; rw[hc2.fr.os]; exact hsw.fr.os
   ·rw[← hW]; show w'.tape=_; rw[hc2.fr.tape]; exact hsw.fr.tape
   ·rw[← hW]; show w'.output=_; rw[hc2.fr.output]; exact hsw.fr.output
   ·have h1:=hc2.fr.size; have h2:=hsw.fr.size; omega
   ·have h2:=hsw.fr.size;exact(oth b (by omega)).trans ((hc2.fr.old b (by omega) (fun h=>(hsw.mine b h).elim (hX b) (fun h=>by omega))).trans (hsw.fr.old b hb (hX b)))
   ·rcases hc2.new b hb with h | h
    ·exact(hsw.new b h).imp id (fun h=>h.elim (fun h=>absurd h (hX b)) id)
    ·exact .inr (hmine b h)
  unfold RetAt;split at hr
  ·rename_i x
   obtain⟨v,h1,h2⟩:=zHh (c:={ P:=c2.P,w0:=W,X:=fun b=>c.w0.heap.size<=b,G0:=G2,N:=c2.N }) hT hc3 hr.1;exact⟨v,h1,v,G2,rfl,hext,hr.2,AVal.pers hr.2 h2⟩
  ·rename_i e sz' rows
   obtain⟨k,hk1,hk2⟩:=hr;obtain⟨v,h1,h2⟩:=zHh (c:={ P:=c2.P,w0:=W,X:=fun b=>c.w0.heap.size<=b,G0:=G2,N:=c2.N }) hT hc3 hk1;refine⟨v,h1,v,G2,rfl,hext,?_⟩
   simp only[AVal]at h2;obtain⟨rfl,_⟩:=h2;obtain⟨q1,q2,q3⟩:=hc3.hp k _ hk2;refine⟨q1,q2,q3.imp id ?_⟩
   rintro⟨b,cap,cur,g1,g2,g3,g4,g5,g6,g7⟩
   refine⟨b,cap,cur,g1,g2,g3,g4,g5,g6.elim id (fun h=>?_),g7⟩
   have h:W.heap.size<=b:=h;have:=(Array.getElem?_eq_some_iff.1 g4).1
   omega
 cases e' with
 | normal=>exact fin hq
 | ret=>exact fin hq
 | exit id=>exact hq.elim
theorem zX3 {P:Program}{f:Nat}{fn:Func}{code:Code}{s:zAq} (hcall:∀ args w,(callFunc f args).run P w = .ok (.enter f args) w)
  (hf:P.funcs[f]? = some fn) (hb:fn.body=some code) (hn:∀ xs r,s.spec xs r->xs.length<=fn.ntmps)
  (N:Nat) (hN:fn.ntmps=N)
  (h:∀ xs r w0 G0,s.spec xs r->AV.persAll xs=true->TriX (zFp P w0 G0 N) code (start xs) (bodyPostM (rF none) 2 P fn fun e W'=>∃ v G',e = .returned v/\Ext G0 G' w0 W'/\RetAt G' w0 W' r v)) (hown:s.own=none:=by rfl) (hheap:s.heap=none:=by rfl):PSound P f s:=by
 subst hN;refine⟨hcall,fun G w xs vs r hlt hgl hp hv hpre=>?_,fun R hR=>(by rw[hown]at hR; cases hR),fun R hR=>(by rw[hheap]at hR; cases hR)⟩
 have hlen:=hv.length;have hxn:=hn xs r hpre;have hc:Conc (zFp P w G fn.ntmps) G (fun _=>.tuple #[]) (start xs) { tmps:=vs.toArray++Array.replicate (fn.ntmps - vs.toArray.size) undef,defers:=[] } w:={
  defers:=rfl
  size:=by simp only[Array.size_append,List.size_toArray,Array.size_replicate]; show _=fn.ntmps; omega
  env:=fun t=>by
   simp only[start]
   by_cases ht:t<xs.length
   ·obtain⟨v,h1,h2⟩:=hv.get (i:=t) (x:=xs[t]) (List.getElem?_eq_getElem ht)
    have e1:xs.getD t .junk=xs[t] :=(by simp[List.getElem?_eq_getElem ht]);have e2:(vs.toArray++Array.replicate (fn.ntmps - vs.toArray.size) undef).getD t undef=v:=by
     rw[Array.getD_eq_getD_getElem?,Array.getElem?_append_left (by simpa [hlen] using ht)]
     simp[h1]
    rw[e1,e2]; exact h2
   ·have:xs.getD t .junk = .junk :=(by simp[List.getElem?_eq_none (by omega:xs.length<=t)]);rw[this]; simp only[AVal]
  envlt:=fun t=>by
   simp only[start]
   by_cases ht:t<xs.length
   ·have e1:xs.getD t .junk=xs[t] :=(by simp[List.getElem?_eq_getElem ht]);rw[e1]; exact zBl (AV.persAll_lt hp) (List.getElem?_eq_getElem ht)
   ·have:xs.getD t .junk = .junk :=(by simp[List.getElem?_eq_none (by omega:xs.length<=t)]);rw[this]; rfl
  hp:=fun k ob hk=>by simp[start]at hk
  hplt:=fun k ob hk=>by simp[start]at hk
  inj:=fun k k' ob ob' hk=>by simp[start]at hk
  lt:=hlt
  sub:=fun b hb=>hb
  new:=fun b hb=>.inl hb
  fr:=Fr.refl _ _
  stay:=⟨Nat.le_refl _,fun k hk=>by cases hk⟩
  glob:=hgl }
 exact callsIn_wide.1 (callsIn_of_wp_marks hf hb trivial (h xs r w G hpre hp G _ _ w hc))
theorem zMM {a:Act}{d:Option Nat}{v:Value}{t:Nat} (h:d ≠ some t):(a.put d v).tmps.getD t undef=a.tmps.getD t undef:=by
 cases d with
 | none=>rfl
 | some d =>
  have hdt:d ≠ t:=fun e=>h (by rw[e])
  simp only[Act.put,Array.getD_eq_getD_getElem?]
  rw[Array.getElem?_setIfInBounds_ne hdt]
theorem zYP {P:Program}{W:World}{G:Nat->Prop}{β:Nat->Value}{N:Nat}{a:Act}{env:Nat->AV} (hd:a.defers=[]) (hs:a.tmps.size=N) (hl:∀ b,G b->b<W.heap.size) (hg:GlobOk G W) (he:∀ t,AVal G W β (env t) (a.tmps.getD t undef)) (hlt:∀ t,(env t).lt 0=true) :
  Conc (zFp P W G N) G β ⟨env,fun _=>none,0⟩ a W:={
 defers:=hd
 size:=hs
 env:=he
 envlt:=hlt
 hp:=fun k ob hk=>by cases hk
 hplt:=fun k ob hk=>by cases hk
 inj:=fun k k' ob ob' hk=>by cases hk
 lt:=hl
 sub:=fun b hb=>hb
 new:=fun b hb=>.inl hb
 fr:=Fr.refl _ _
 stay:=⟨Nat.le_refl _,fun k hk=>by cases hk⟩
 glob:=hg }
def evP (T:Nat->Option TI) (N:Nat) (ts:List Nat):List Oper->St->(St->Prop)->Prop
 | [],σ,K=>K σ
 | o::os,σ,K =>
  match o.dst,o.guard,zPh o&&zPi o with
  | some d,none,true=>match Nat.blt d N&&zRb d ts with
   | true=>match zCE T false o σ.env with
    | some (φ,x)=>andO φ (evP T N ts os (σ.put (some d) x) K)
    | none=>False
   | false=>False
  | _,_,_=>False
theorem zMp {P:Program}{W0:World}{G0:Nat->Prop}{T:Nat->Option TI} (hT:TOk P T){N n:Nat}{ops rest:List Oper}{K:St->Prop}{Q:Exit->Act->World->Prop}{ts:List Nat}{v0:Nat->Value}
  (hr:∀ σ G β a w,K σ->Conc (zFp P W0 G0 N) G β σ a w->w.heap.size=W0.heap.size->(∀ t∈ts,a.tmps.getD t undef=v0 t)->wpListIn Fence.wide n P ops.toArray Q rest a w) :
  ∀ (l:List Oper) (σ:St) (G:Nat->Prop) (β:Nat->Value) (a:Act) (w:World),evP T N ts l σ K->Conc (zFp P W0 G0 N) G β σ a w->w.heap.size=W0.heap.size->(∀ t∈ts,a.tmps.getD t undef=v0 t)->wpListIn Fence.wide n P ops.toArray Q (l++rest) a w
 | [],σ,G,β,a,w,h,hc,hs,ht=>hr σ G β a w h hc hs ht
 | o::os,σ,G,β,a,w,h,hc,hs,ht=>by
  unfold evP at h;split at h
  ·rename_i d hd hg hnn
   simp only[Bool.and_eq_true]at hnn;split at h
   ·rename_i hdN
    simp only[Bool.and_eq_true]at hdN;have hdN1:d<N:=Nat.le_of_ble_eq_true hdN.1;have hdts:=zGi hdN.2;split at h
    ·rename_i φ x hp
     obtain⟨hφ,h⟩:=zLH h;rw[List.cons_append]
     unfold wpListIn;rw[if_pos (by simp[Region.wanted,hg])]
     refine zWR (ro:=none) (K:=fun a' w'=>wpListIn Fence.wide n P ops.toArray Q (os++rest) a' w') (fun c e=>?_) (fun _ _ h=>h) ?_
     ·have:=hnn.2;unfold zPi at this;rw[e]at this;cases this
     ·refine zVO (c:=zFp P W0 G0 N) hT hc hp hφ fun G' w' v he hna hv=>?_
      have hww:=hna hnn.1;subst hww;rw[hd]
      have hput:=(hc.ext he).put (d:=some d) (fun t e=>by cases e; exact hdN1) hv (zTC hc.envlt hp)
      refine zMp hT hr os _ G' β _ _ h hput hs fun t htt=>?_
      rw[zMM (fun e=>hdts (by cases e; exact htt))]
      exact ht t htt
    ·exact h.elim
   ·exact h.elim
  ·exact h.elim
theorem zTg {P:Program}{W0:World}{G0:Nat->Prop}{T:Nat->Option TI} (hT:TOk P T){N n:Nat}{ops l:List Oper} (m:Nat){K:St->Prop}{Q:Exit->Act->World->Prop} (ts:List Nat){σ:St}{G:Nat->Prop}{β:Nat->Value}{a:Act}{w:World}
  (h:evP T N ts (l.take m) σ K) (hc:Conc (zFp P W0 G0 N) G β σ a w) (hs:w.heap.size=W0.heap.size)
  (hr:∀ σ G β a' w,K σ->Conc (zFp P W0 G0 N) G β σ a' w->w.heap.size=W0.heap.size->(∀ t∈ts,a'.tmps.getD t undef=a.tmps.getD t undef)->wpListIn Fence.wide n P ops.toArray Q (l.drop m) a' w):wpListIn Fence.wide n P ops.toArray Q l a w:=by
 have:=zMp (v0:=fun t=>a.tmps.getD t undef) hT hr (l.take m) σ G β a w h hc hs (fun _ _=>rfl)
 rwa [List.take_append_drop]at this
theorem zO9 {P:Program}{W0:World}{G0:Nat->Prop}{T:Nat->Option TI} (hT:TOk P T){N n:Nat}{ops l:List Oper}{K:St->Prop}{Q:Exit->Act->World->Prop} (ts:List Nat){σ:St}{G:Nat->Prop}{β:Nat->Value}{a:Act}{w:World}
  (h:evP T N ts l σ K) (hc:Conc (zFp P W0 G0 N) G β σ a w) (hs:w.heap.size=W0.heap.size)
  (hr:∀ σ G β a' w,K σ->Conc (zFp P W0 G0 N) G β σ a' w->w.heap.size=W0.heap.size->(∀ t∈ts,a'.tmps.getD t undef=a.tmps.getD t undef)->Q .normal a' w):wpListIn Fence.wide n P ops.toArray Q l a w:=by
 have:=zMp (rest:=[]) (v0:=fun t=>a.tmps.getD t undef) (ops:=ops) (n:=n) (Q:=Q) hT hr l σ G β a w h hc hs (fun _ _=>rfl)
 rwa [List.append_nil]at this
theorem zVG {G:Nat->Prop}{w:World}{β:Nat->Value}{a:Act}:∀ {L:List (Nat×AV)},(∀ p∈L,AVal G w β p.2 (a.tmps.getD p.1 undef))->∀ t,AVal G w β (ofL L t) (a.tmps.getD t undef)
 | [],_,t=>by simp only[ofL,AVal]
 | (s,x)::r,h,t=>by
  simp only[ofL]
  cases e:Nat.beq t s with
  | true=>obtain rfl:=Nat.eq_of_beq_eq_true e; exact h _ List.mem_cons_self
  | false=>exact zVG (fun p hp=>h p (List.mem_cons_of_mem _ hp)) t
theorem zUe {P:Program}{W:World}{G:Nat->Prop}{N:Nat}{a:Act} (L:List (Nat×AV)) (hd:a.defers=[]) (hs:a.tmps.size=N) (hl:∀ b,G b->b<W.heap.size) (hg:GlobOk G W) (hL:ltL 0 L=true) (he:∀ p∈L,AVal G W (fun _=>.tuple #[]) p.2 (a.tmps.getD p.1 undef)) :
  Conc (zFp P W G N) G (fun _=>.tuple #[]) ⟨ofL L,fun _=>none,0⟩ a W:=zYP hd hs hl hg (zVG he) (zLK hL)
theorem zLt {n:Nat}{P:Program}{ops:Array Oper}{Q:Exit->Act->World->Prop}{o:Oper}{rest:List Oper}{a:Act}{w:World} (hg:o.guard=none) (h:o.wpIn Fence.wide n P a w (wpListIn Fence.wide n P ops Q rest) Q):wpListIn Fence.wide n P ops Q (o::rest) a w:=by
 unfold wpListIn;rw[if_pos (by simp[Region.wanted,hg])]
 exact h
theorem zXr {P:Program}{o:Oper}{f x y:Operand}{ts:Array TypeId}{l:Nat}{a:Act}{w:World}{K:Act->World->Prop}{Q:Exit->Act->World->Prop}{R:Ending->World->Prop}{u:Value} (ho:o.op = .call { callee:=.value f,args:=#[x,y],argTypes:=ts })
  (hf:a.eval f = .func (.yield l) #[] #[]) (hY:YieldAt Fence.wide 0 P l #[a.eval x,a.eval y] w R) (hR:∀ e w',R e w'->e = .returned u/\K (a.put o.dst u) w'):o.wpIn Fence.wide 1 P a w K Q:=by
 obtain⟨fn,tmps,assign,body,hy,hr⟩:=hY;refine⟨fun _ _=>trivial,?_⟩
 rw[Oper.semAt_eq _ _ _ (by rw[ho]; intro c e; cases e)]
 have:(execOp a.eval o).run P w = .ok (.round l fn tmps assign body) w:=by
  simp[execOp,ho,resolve,hf,Deferred.ofValue,invoke,hy]
 rw[this]
 refine⟨fun h=>(by cases h),hr.mono fun e w' he=>?_⟩
 obtain⟨rfl,h⟩:=hR e w' he;exact h
theorem Conc.back {P:Program}{W:World}{G G':Nat->Prop}{N:Nat}{β:Nat->Value}{σ:St}{a:Act}{w:World} (hc:Conc (zFp P W G N) G' β σ a w) (hs:w.heap.size=W.heap.size):(∀ b,G' b->G b)/\∀ b,b<W.heap.size->w.heap[b]? = W.heap[b]? :=
 ⟨fun b hb=>(hc.new b hb).elim id (fun h=>h.elim False.elim (fun h=>by have:=hc.lt b hb; have h:W.heap.size<=b:=h; omega)),fun b hb=>hc.fr.old b hb (fun h=>h)⟩
end Go.Abs
