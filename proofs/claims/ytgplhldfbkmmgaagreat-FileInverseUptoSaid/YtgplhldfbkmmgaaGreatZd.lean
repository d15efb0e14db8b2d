/-
  Joined out of: FzVA, FzVB, LibG, LibH, LibW, AbsY, LibO, LibR, FzE, LibE, FzF, LibL, FzCA.
-/
import Derived.WalkKit
import Derived.Lib.Walk
import Derived.Lib.SliceRun
import Derived.Lib.AppendZerosOnto
import Derived.Shelf.RegionOpenPlain
import Derived.Test.YtgplhldfbkmmgaaGreatZc
set_option linter.unusedVariables false
set_option linter.unusedSimpArgs false
set_option maxHeartbeats 2000000
set_option maxRecDepth 100000
namespace Go.Proofs.YtgplhldfbkmmgaaGreat
open Go.Abs
def zRX (xs:List AV) (r:Ret):Prop:=∃ (a0:List UInt8) (y0:Bool),zCC a0=some y0/\xs=[.s (.str a0)]/\r = .val (.s (.bool y0))
def zM6:zAq:=zAw fun xs r=>zRX xs r
theorem zRn:PSound Tryz.prog 138 zM6:=by
 have gok:=@gok0 Tryz.prog;refine zAC tokW Tryz.call138 Tryz.func138 rfl (fun xs r h=>by obtain⟨_,_,_,rfl,_⟩:=h; show 1<=5; decide) 5 rfl ?_;rintro xs r w0 G0 ⟨s1,y0,h,rfl,rfl⟩ _;rw[zCC]at h;refine zZO ?_;refine zZO ?_;refine zAe ?_;have hy:=osi h;subst hy;exact fin0 rfl rfl
def zPx (n:Nat) (xs:List AV) (r:Ret):Prop:=∃ (a0:List UInt8) (y0:Bool),zDV n a0=some y0/\xs=[.s (.str a0)]/\r = .val (.s (.bool y0))
def zKA:zAq:=zAw fun xs r=>∃ n,zPx n xs r
theorem zOP:PSound Tryz.prog 170 zKA:=by
 have gok:=@gok0 Tryz.prog;refine zAC tokW Tryz.call170 Tryz.func170 rfl (fun xs r h=>by obtain⟨n,_,_,_,rfl,_⟩:=h; show 1<=21; decide) 21 rfl ?_;rintro xs r w0 G0 ⟨n,s1,y0,h,rfl,rfl⟩ _;rw[zDV]at h;refine zZO ?_;refine zAa ?_;refine zZO ?_;show Tri ..;obtain⟨fl,hl,ho1⟩:=zAc h;refine zDe (fl:=fl) (fun z=>match z with | _=>⟨ofL [],fun _=>none,0⟩) ?_ (fun z σ' hz hle=>?_)
 ·refine zAk (zAD (X:=Nat×Int) (fun y=>match y with | (k,i2)=>⟨ofL [(0,.s (.str s1)),(3,.s (.int .i64 i2))],fun _=>none,0⟩) (fun y=>zBI s1 y.1 y.2=some fl) (fun y=>y.1) (n,0) hl ?_ ?_)
  ·exact(Le.forget _ ⟨rfl,rfl,trivial⟩)
  ·rintro⟨k,i2⟩ h;cases k with
   | zero=>cases h
   | succ k =>
    replace h:zBI s1 (k+1) i2=some fl:=h;rw[zBI]at h;refine zAa ?_;refine zZO ?_;refine zAh rfl h (fun hb h=>?_) (fun hb h=>?_)
    ·refine zAf ?_;refine zAa ?_;refine zAk ?_;refine zYZ [] [13] rfl ?_;obtain⟨c3,hc3,h⟩:=zAc h;refine And.intro (zFv hc3).1 ?_;intro v4 hv4;obtain rfl:(c3.toNat:Int)=v4:=(hv4.trans (zFv hc3).2).symm;refine zAa ?_;obtain⟨x5,hj,h⟩:=zAc h;refine zAo ⟨ofL [(0,.s (.str s1)),(3,.s (.int .i64 i2)),(20,.s (.bool x5))],fun _=>none,0⟩ ?_ (fun σ' hle=>?_)
     ·replace h:=hj;refine zAb [] [17] rfl ?_;intro b hb;cases b with
      | true =>
       replace h:=zAF hb.symm h;cases h;exact(Le.forget _ ⟨rfl,rfl,rfl,trivial⟩)
      | false =>
       replace h:=zAE hb.symm h;cases h;exact(Le.forget _ ⟨rfl,rfl,rfl,trivial⟩)
     ·refine zAj hle ?_;refine zAh rfl h (fun hb h=>?_) (fun hb h=>?_)
      ·refine zZO ?_;refine zAe ?_;cases h;replace h:some _=some _:=ho1;have hy:=osi h;subst hy;exact fin0 rfl rfl
      ·refine zAf ?_;refine zZN ?_;refine⟨(k,IntKind.i64.wrap (i2+1)),h,(Le.forget _ ⟨rfl,rfl,trivial⟩),Nat.lt_succ_self k⟩
    ·refine zAJ ?_;cases h;exact⟨_,rfl,(Le.forget _ trivial)⟩
 ·subst hz;obtain _:=z;replace h:=ho1;refine zAj hle ?_;refine zZO ?_;refine zAe ?_;have hy:=osi h;subst hy;exact fin0 rfl rfl
def zPw (xs:List AV) (r:Ret):Prop:=∃ (a0:List UInt8) (y0:Bool),zEI a0=some y0/\xs=[.s (.str a0)]/\r = .val (.s (.bool y0))
def zKz:zAq:=zAw fun xs r=>zPw xs r
theorem zOO:PSound Tryz.prog 172 zKz:=by
 have gok:=@gok0 Tryz.prog;refine zAC tokW Tryz.call172 Tryz.func172 rfl (fun xs r h=>by obtain⟨_,_,_,rfl,_⟩:=h; show 1<=9; decide) 9 rfl ?_;rintro xs r w0 G0 ⟨s1,y0,h,rfl,rfl⟩ _;rw[zEI]at h;refine zZO ?_;refine zAa ?_;refine zZO ?_;show Tri ..;obtain⟨fl,hj,ho1⟩:=zAc h;refine zDe (fl:=fl) (fun z=>match z with | _=>⟨ofL [],fun _=>none,0⟩) ?_ (fun z σ' hz hle=>?_)
 ·replace h:=hj;refine zAk ?_;refine zAa ?_;refine zZO ?_;show Tri ..;obtain⟨x2,hj,h⟩:=zAc h;refine zAo ⟨ofL [(4,.s (.bool x2))],fun _=>none,0⟩ ?_ (fun σ' hle=>?_)
  ·replace h:=hj;refine zAh rfl h (fun hb h=>?_) (fun hb h=>?_)
   ·refine zAf ?_;cases h;exact(Le.forget _ ⟨rfl,trivial⟩)
   ·refine zZO ?_;refine zAh rfl h (fun hb h=>?_) (fun hb h=>?_)
    ·refine zAf ?_;cases h;exact(Le.forget _ ⟨rfl,trivial⟩)
    ·refine zZO ?_;refine zAh rfl h (fun hb h=>?_) (fun hb h=>?_)
     ·refine zAf ?_;cases h;exact(Le.forget _ ⟨rfl,trivial⟩)
     ·refine zZN ?_;cases h;exact(Le.forget _ ⟨rfl,trivial⟩)
  ·refine zAj hle ?_;refine zAh rfl h (fun hb h=>?_) (fun hb h=>?_)
   ·refine zZO ?_;refine zAe ?_;cases h;replace h:some _=some _:=ho1;have hy:=osi h;subst hy;exact fin0 rfl rfl
   ·refine zAf ?_;cases h;exact⟨_,rfl,(Le.forget _ trivial)⟩
 ·subst hz;obtain _:=z;replace h:=ho1;refine zAj hle ?_;refine zZO ?_;refine zAe ?_;have hy:=osi h;subst hy;exact fin0 rfl rfl
def zQQ (xs:List AV) (r:Ret):Prop:=∃ (a0:List UInt8) (y0:Bool),zEn a0=some y0/\xs=[.s (.str a0)]/\r = .val (.s (.bool y0))
def zIq:zAq:=zAw fun xs r=>zQQ xs r
theorem zKJ:PSound Tryz.prog 142 zIq:=by
 have gok:=@gok0 Tryz.prog;refine zAC tokW Tryz.call142 Tryz.func142 rfl (fun xs r h=>by obtain⟨_,_,_,rfl,_⟩:=h; show 1<=11; decide) 11 rfl ?_;rintro xs r w0 G0 ⟨s1,y0,h,rfl,rfl⟩ _;rw[zEn]at h;refine zZO ?_;refine zAa ?_;refine zZO ?_;show Tri ..;obtain⟨fl,hj,ho1⟩:=zAc h;refine zDe (fl:=fl) (fun z=>match z with | _=>⟨ofL [],fun _=>none,0⟩) ?_ (fun z σ' hz hle=>?_)
 ·replace h:=hj;refine zAk ?_;refine zAa ?_;refine zZO ?_;show Tri ..;obtain⟨x2,hj,h⟩:=zAc h;refine zAo ⟨ofL [(4,.s (.bool x2))],fun _=>none,0⟩ ?_ (fun σ' hle=>?_)
  ·replace h:=hj;refine zAh rfl h (fun hb h=>?_) (fun hb h=>?_)
   ·refine zAf ?_;cases h;exact(Le.forget _ ⟨rfl,trivial⟩)
   ·refine zZO ?_;refine zAh rfl h (fun hb h=>?_) (fun hb h=>?_)
    ·refine zAf ?_;cases h;exact(Le.forget _ ⟨rfl,trivial⟩)
    ·refine zZO ?_;refine zAh rfl h (fun hb h=>?_) (fun hb h=>?_)
     ·refine zAf ?_;cases h;exact(Le.forget _ ⟨rfl,trivial⟩)
     ·refine zZO ?_;refine zAh rfl h (fun hb h=>?_) (fun hb h=>?_)
      ·refine zAf ?_;cases h;exact(Le.forget _ ⟨rfl,trivial⟩)
      ·refine zZO ?_;refine zAh rfl h (fun hb h=>?_) (fun hb h=>?_)
       ·refine zAf ?_;cases h;exact(Le.forget _ ⟨rfl,trivial⟩)
       ·refine zZN ?_;cases h;exact(Le.forget _ ⟨rfl,trivial⟩)
  ·refine zAj hle ?_;refine zAh rfl h (fun hb h=>?_) (fun hb h=>?_)
   ·refine zZO ?_;refine zAe ?_;cases h;replace h:some _=some _:=ho1;have hy:=osi h;subst hy;exact fin0 rfl rfl
   ·refine zAf ?_;cases h;exact⟨_,rfl,(Le.forget _ trivial)⟩
 ·subst hz;obtain _:=z;replace h:=ho1;refine zAj hle ?_;refine zZO ?_;refine zAe ?_;have hy:=osi h;subst hy;exact fin0 rfl rfl
def zQP (n:Nat) (xs:List AV) (r:Ret):Prop:=∃ (a0:List UInt8) (y0:Bool),zFe n a0=some y0/\xs=[.s (.str a0)]/\r = .val (.s (.bool y0))
def zLK:zAq:=zAw fun xs r=>∃ n,zQP n xs r
theorem zPL:PSound Tryz.prog 139 zLK:=by
 have gok:∀ f s,look? f [(170,zKA),(171,zHu),(172,zKz),(142,zIq)]=some s->PSound Tryz.prog f s:=zAl (by
  simp only[List.forall_mem_cons]
  exact⟨zOP,zLh,zOO,zKJ,by simp⟩)
 refine zAC tokW Tryz.call139 Tryz.func139 rfl (fun xs r h=>by obtain⟨n,_,_,_,rfl,_⟩:=h; show 1<=34; decide) 34 rfl ?_;rintro xs r w0 G0 ⟨n,s1,y0,h,rfl,rfl⟩ _;rw[zFe]at h;refine zZO ?_;refine zAa ?_;refine zZO ?_;refine zAh rfl h (fun hb h=>?_) (fun hb h=>?_)
 ·refine zAa ?_;obtain⟨x2,hj,h⟩:=zAc h;refine zAo ⟨ofL [(2,.s (.bool x2))],fun _=>none,0⟩ ?_ (fun σ' hle=>?_)
  ·replace h:=hj;refine zAb [] [8] rfl ?_;obtain⟨y3,hy3,h⟩:=zAc h;refine⟨_,⟨_,_,_,hy3,rfl,rfl⟩,?_⟩
   intro b hb;cases b with
   | true =>
    replace h:=zAF hb.symm h;cases h;exact(Le.forget _ ⟨rfl,trivial⟩)
   | false =>
    replace h:=zAE hb.symm h;obtain⟨y4,hy4,h⟩:=zAc h;refine⟨_,⟨_,_,_,hy4,rfl,rfl⟩,?_⟩
    cases h;exact(Le.forget _ ⟨rfl,trivial⟩)
  ·refine zAj hle ?_;refine zAe ?_;have hy:=osi h;subst hy;exact fin0 rfl rfl
 ·refine zAf ?_;refine zAa ?_;obtain⟨x5,hj,h⟩:=zAc h;refine zAo ⟨ofL [(2,.s (.bool x5))],fun _=>none,0⟩ ?_ (fun σ' hle=>?_)
  ·replace h:=hj;refine zAb [] [15,20,24,29] rfl ?_;intro b hb;cases b with
   | true =>
    replace h:=zAF hb.symm h;intro b hb;cases b with
    | true =>
     replace h:=zAF hb.symm h;obtain⟨y6,hy6,h⟩:=zAc h;refine⟨_,⟨_,_,_,hy6,rfl,rfl⟩,?_⟩
     intro b hb;cases b with
     | true =>
      replace h:=zAF hb.symm h;obtain⟨y7,hy7,h⟩:=zAc h;refine⟨_,⟨_,_,hy7,rfl,rfl⟩,?_⟩
      intro b hb;cases b with
      | true =>
       replace h:=zAF hb.symm h;obtain⟨y8,hy8,h⟩:=zAc h;refine⟨_,⟨_,_,hy8,rfl,rfl⟩,?_⟩
       cases h;exact(Le.forget _ ⟨rfl,trivial⟩)
      | false =>
       replace h:=zAE hb.symm h;cases h;exact(Le.forget _ ⟨rfl,trivial⟩)
     | false =>
      replace h:=zAE hb.symm h;intro b hb;subst hb;cases h;exact(Le.forget _ ⟨rfl,trivial⟩)
    | false =>
     replace h:=zAE hb.symm h;intro b hb;subst hb;intro b hb;subst hb;cases h;exact(Le.forget _ ⟨rfl,trivial⟩)
   | false =>
    replace h:=zAE hb.symm h;intro b hb;subst hb;intro b hb;subst hb;intro b hb;subst hb;cases h;exact(Le.forget _ ⟨rfl,trivial⟩)
  ·refine zAj hle ?_;refine zAe ?_;have hy:=osi h;subst hy;exact fin0 rfl rfl
def zMt (xs:List AV) (r:Ret):Prop:=∃ (a0:List UInt8) (a1:List UInt8) (y0:List UInt8) (y1:List UInt8) (y2:Bool),zDv a0 a1=some (y0,y1,y2)/\xs=[.s (.str a0),.s (.str a1)]/\r = .val (.tup [.s (.str y0),.s (.str y1),.s (.bool y2)])
def zH0:zAq:=zAw fun xs r=>zMt xs r
theorem zL7:PSound Tryz.prog 193 zH0:=by
 have gok:∀ f s,look? f [(200,zGT)]=some s->PSound Tryz.prog f s:=zAl (by
  simp only[List.forall_mem_cons]
  exact⟨zKo,by simp⟩)
 refine zAC tokW Tryz.call193 Tryz.func193 rfl (fun xs r h=>by obtain⟨_,_,_,_,_,_,rfl,_⟩:=h; show 2<=23; decide) 23 rfl ?_;rintro xs r w0 G0 ⟨s1,sep2,y0,y1,y2,h,rfl,rfl⟩ _;rw[zDv]at h;refine zZO ?_;refine zAa ?_;refine zZO ?_;obtain⟨y3,hy3,h⟩:=zAc h;refine⟨_,⟨_,_,_,hy3,rfl,rfl⟩,?_⟩
 refine zZO ?_;refine zAh rfl h (fun hb h=>?_) (fun hb h=>?_)
 ·refine zAa ?_;refine zBw [] [] [] rfl (by decide +kernel) ?_;obtain⟨hq,h⟩:=zAI h;refine And.intro hq ?_;obtain⟨hq,h⟩:=zAI h;refine And.intro hq ?_;refine zAe ?_;obtain⟨hj1,hk1⟩:=pij h;subst hj1;obtain⟨hj2,hk2⟩:=Prod.mk.inj hk1;subst hj2;subst hk2;exact fin0 rfl rfl
 ·refine zAf ?_;refine zZO ?_;refine zAe ?_;obtain⟨hj1,hk1⟩:=pij h;subst hj1;obtain⟨hj2,hk2⟩:=Prod.mk.inj hk1;subst hj2;subst hk2;exact fin0 rfl rfl
def zQV (xs:List AV) (r:Ret):Prop:=∃ (a0:List UInt8) (a1:List UInt8) (y0:List UInt8) (y1:List UInt8) (y2:Bool),zFn a0 a1=some (y0,y1,y2)/\xs=[.s (.str a0),.s (.str a1)]/\r = .val (.tup [.s (.str y0),.s (.str y1),.s (.bool y2)])
def zLP:zAq:=zAw fun xs r=>zQV xs r
theorem zPQ:PSound Tryz.prog 173 zLP:=by
 have gok:∀ f s,look? f [(193,zH0)]=some s->PSound Tryz.prog f s:=zAl (by
  simp only[List.forall_mem_cons]
  exact⟨zL7,by simp⟩)
 refine zAC tokW Tryz.call173 Tryz.func173 rfl (fun xs r h=>by obtain⟨_,_,_,_,_,_,rfl,_⟩:=h; show 2<=13; decide) 13 rfl ?_;rintro xs r w0 G0 ⟨s1,sep2,y0,y1,y2,h,rfl,rfl⟩ _;rw[zFn]at h;refine zZO ?_;refine zZO ?_;obtain⟨⟨y3,y4,y5⟩,hy3,h⟩:=zAc h;refine⟨_,⟨_,_,_,_,_,hy3,rfl,rfl⟩,?_⟩
 refine zAe ?_;obtain⟨hj1,hk1⟩:=pij h;subst hj1;obtain⟨hj2,hk2⟩:=Prod.mk.inj hk1;subst hj2;subst hk2;exact fin0 rfl rfl
def zQR (n:Nat) (xs:List AV) (r:Ret):Prop:=∃ (a0:List UInt8) (y0:Bool),zEo n a0=some y0/\xs=[.s (.str a0)]/\r = .val (.s (.bool y0))
def zLL:zAq:=zAw fun xs r=>∃ n,zQR n xs r
theorem zPM:PSound Tryz.prog 174 zLL:=by
 have gok:=@gok0 Tryz.prog;refine zAC tokW Tryz.call174 Tryz.func174 rfl (fun xs r h=>by obtain⟨n,_,_,_,rfl,_⟩:=h; show 1<=22; decide) 22 rfl ?_;rintro xs r w0 G0 ⟨n,s1,y0,h,rfl,rfl⟩ _;rw[zEo]at h;refine zZO ?_;refine zAa ?_;refine zZO ?_;show Tri ..;obtain⟨fl,hl,ho1⟩:=zAc h;refine zDe (fl:=fl) (fun z=>match z with | _=>⟨ofL [(0,.s (.str s1))],fun _=>none,0⟩) ?_ (fun z σ' hz hle=>?_)
 ·refine zAk (zAD (X:=Nat×Int) (fun y=>match y with | (k,i2)=>⟨ofL [(0,.s (.str s1)),(3,.s (.int .i64 i2))],fun _=>none,0⟩) (fun y=>zBV s1 y.1 y.2=some fl) (fun y=>y.1) (n,0) hl ?_ ?_)
  ·exact(Le.forget _ ⟨rfl,rfl,trivial⟩)
  ·rintro⟨k,i2⟩ h;cases k with
   | zero=>cases h
   | succ k =>
    replace h:zBV s1 (k+1) i2=some fl:=h;rw[zBV]at h;refine zAa ?_;refine zZO ?_;refine zAh rfl h (fun hb h=>?_) (fun hb h=>?_)
    ·refine zAf ?_;refine zAa ?_;refine zAk ?_;refine zAa ?_;obtain⟨x3,hj,h⟩:=zAc h;refine zAo ⟨ofL [(0,.s (.str s1)),(3,.s (.int .i64 i2)),(19,.s (.bool x3))],fun _=>none,0⟩ ?_ (fun σ' hle=>?_)
     ·replace h:=hj;refine zAb [] [12,14,17] rfl ?_;obtain⟨c4,hc4,h⟩:=zAc h;refine And.intro (zFv hc4).1 ?_;intro v5 hv5;obtain rfl:(c4.toNat:Int)=v5:=(hv5.trans (zFv hc4).2).symm;intro b hb;cases b with
      | true =>
       replace h:=zAF hb.symm h;cases h;exact(Le.forget _ ⟨rfl,rfl,rfl,trivial⟩)
      | false =>
       replace h:=zAE hb.symm h;obtain⟨c6,hc6,h⟩:=zAc h;refine And.intro (zFv hc6).1 ?_;intro v7 hv7;obtain rfl:(c6.toNat:Int)=v7:=(hv7.trans (zFv hc6).2).symm;cases h;exact(Le.forget _ ⟨rfl,rfl,rfl,trivial⟩)
     ·refine zAj hle ?_;refine zAh rfl h (fun hb h=>?_) (fun hb h=>?_)
      ·refine zZO ?_;refine zAe ?_;cases h;replace h:some _=some _:=ho1;have hy:=osi h;subst hy;exact fin0 rfl rfl
      ·refine zAf ?_;refine zZN ?_;refine⟨(k,IntKind.i64.wrap (i2+1)),h,(Le.forget _ ⟨rfl,rfl,trivial⟩),Nat.lt_succ_self k⟩
    ·refine zAJ ?_;cases h;exact⟨_,rfl,(Le.forget _ ⟨rfl,trivial⟩)⟩
 ·subst hz;obtain _:=z;replace h:=ho1;refine zAj hle ?_;refine zZO ?_;refine zAe ?_;have hy:=osi h;subst hy;exact fin0 rfl rfl
def zQO (n:Nat) (xs:List AV) (r:Ret):Prop:=∃ (a0:List UInt8) (y0:Bool),zEm n a0=some y0/\xs=[.s (.str a0)]/\r = .val (.s (.bool y0))
def zLJ:zAq:=zAw fun xs r=>∃ n,zQO n xs r
theorem zPK:PSound Tryz.prog 140 zLJ:=by
 have gok:∀ f s,look? f [(173,zLP),(174,zLL)]=some s->PSound Tryz.prog f s:=zAl (by
  simp only[List.forall_mem_cons]
  exact⟨zPQ,zPM,by simp⟩)
 refine zAC tokW Tryz.call140 Tryz.func140 rfl (fun xs r h=>by obtain⟨n,_,_,_,rfl,_⟩:=h; show 1<=27; decide) 27 rfl ?_;rintro xs r w0 G0 ⟨n,s1,y0,h,rfl,rfl⟩ _;rw[zEm]at h;refine zZO ?_;refine zZO ?_;obtain⟨⟨y2,y3,y4⟩,hy2,h⟩:=zAc h;refine⟨_,⟨_,_,_,_,_,hy2,rfl,rfl⟩,?_⟩
 refine zAa ?_;obtain⟨x5,hj,h⟩:=zAc h;refine zAo ⟨ofL [(2,.s (.bool x5))],fun _=>none,0⟩ ?_ (fun σ' hle=>?_)
 ·replace h:=hj;refine zAb [] [15,19,22] rfl ?_;intro b hb;cases b with
  | true =>
   replace h:=zAF hb.symm h;obtain⟨y6,hy6,h⟩:=zAc h;refine⟨_,⟨_,_,_,hy6,rfl,rfl⟩,?_⟩
   intro b hb;cases b with
   | true =>
    replace h:=zAF hb.symm h;intro b hb;cases b with
    | true =>
     replace h:=zAF hb.symm h;cases h;exact(Le.forget _ ⟨rfl,trivial⟩)
    | false =>
     replace h:=zAE hb.symm h;obtain⟨y7,hy7,h⟩:=zAc h;refine⟨_,⟨_,_,_,hy7,rfl,rfl⟩,?_⟩
     cases h;exact(Le.forget _ ⟨rfl,trivial⟩)
   | false =>
    replace h:=zAE hb.symm h;cases h;exact(Le.forget _ ⟨rfl,trivial⟩)
  | false =>
   replace h:=zAE hb.symm h;intro b hb;subst hb;cases h;exact(Le.forget _ ⟨rfl,trivial⟩)
 ·refine zAj hle ?_;refine zAe ?_;have hy:=osi h;subst hy;exact fin0 rfl rfl
def zR0 (n:Nat) (xs:List AV) (r:Ret):Prop:=∃ (a0:List UInt8) (y0:Bool),zF1 n a0=some y0/\xs=[.s (.str a0)]/\r = .val (.s (.bool y0))
def zM9:zAq:=zAw fun xs r=>∃ n,zR0 n xs r
theorem zRq:PSound Tryz.prog 141 zM9:=by
 have gok:=@gok0 Tryz.prog;refine zAC tokW Tryz.call141 Tryz.func141 rfl (fun xs r h=>by obtain⟨n,_,_,_,rfl,_⟩:=h; show 1<=23; decide) 23 rfl ?_;rintro xs r w0 G0 ⟨n,s1,y0,h,rfl,rfl⟩ _;rw[zF1]at h;refine zZO ?_;refine zAa ?_;refine zZO ?_;show Tri ..;obtain⟨fl,hl,ho1⟩:=zAc h;refine zDe (fl:=fl) (fun z=>match z with | _=>⟨ofL [(0,.s (.str s1))],fun _=>none,0⟩) ?_ (fun z σ' hz hle=>?_)
 ·refine zAk (zAD (X:=Nat×Int) (fun y=>match y with | (k,i2)=>⟨ofL [(0,.s (.str s1)),(3,.s (.int .i64 i2))],fun _=>none,0⟩) (fun y=>zCd s1 y.1 y.2=some fl) (fun y=>y.1) (n,0) hl ?_ ?_)
  ·exact(Le.forget _ ⟨rfl,rfl,trivial⟩)
  ·rintro⟨k,i2⟩ h;cases k with
   | zero=>cases h
   | succ k =>
    replace h:zCd s1 (k+1) i2=some fl:=h;rw[zCd]at h;refine zAa ?_;refine zZO ?_;refine zAh rfl h (fun hb h=>?_) (fun hb h=>?_)
    ·refine zAf ?_;refine zAa ?_;refine zAk ?_;refine zAa ?_;obtain⟨x3,hj,h⟩:=zAc h;refine zAo ⟨ofL [(0,.s (.str s1)),(3,.s (.int .i64 i2)),(19,.s (.bool x3))],fun _=>none,0⟩ ?_ (fun σ' hle=>?_)
     ·replace h:=hj;refine zAb [] [12,14,17] rfl ?_;obtain⟨c4,hc4,h⟩:=zAc h;refine And.intro (zFv hc4).1 ?_;intro v5 hv5;obtain rfl:(c4.toNat:Int)=v5:=(hv5.trans (zFv hc4).2).symm;intro b hb;cases b with
      | true =>
       replace h:=zAF hb.symm h;cases h;exact(Le.forget _ ⟨rfl,rfl,rfl,trivial⟩)
      | false =>
       replace h:=zAE hb.symm h;obtain⟨c6,hc6,h⟩:=zAc h;refine And.intro (zFv hc6).1 ?_;intro v7 hv7;obtain rfl:(c6.toNat:Int)=v7:=(hv7.trans (zFv hc6).2).symm;cases h;exact(Le.forget _ ⟨rfl,rfl,rfl,trivial⟩)
     ·refine zAj hle ?_;refine zAh rfl h (fun hb h=>?_) (fun hb h=>?_)
      ·refine zZO ?_;refine zAe ?_;cases h;replace h:some _=some _:=ho1;have hy:=osi h;subst hy;exact fin0 rfl rfl
      ·refine zAf ?_;refine zZN ?_;refine⟨(k,IntKind.i64.wrap (i2+1)),h,(Le.forget _ ⟨rfl,rfl,trivial⟩),Nat.lt_succ_self k⟩
    ·refine zAJ ?_;cases h;exact⟨_,rfl,(Le.forget _ ⟨rfl,trivial⟩)⟩
 ·subst hz;obtain _:=z;replace h:=ho1;refine zAj hle ?_;refine zZO ?_;refine zAe ?_;have hy:=osi h;subst hy;exact fin0 rfl rfl
def zRY (xs:List AV) (r:Ret):Prop:=∃ (a0:List UInt8) (y0:Bool),zF0 a0=some y0/\xs=[.s (.str a0)]/\r = .val (.s (.bool y0))
def zM7:zAq:=zAw fun xs r=>zRY xs r
theorem zRo:PSound Tryz.prog 143 zM7:=by
 have gok:∀ f s,look? f [(175,zGS)]=some s->PSound Tryz.prog f s:=zAl (by
  simp only[List.forall_mem_cons]
  exact⟨zKn,by simp⟩)
 refine zAC tokW Tryz.call143 Tryz.func143 rfl (fun xs r h=>by obtain⟨_,_,_,rfl,_⟩:=h; show 1<=18; decide) 18 rfl ?_;rintro xs r w0 G0 ⟨s1,y0,h,rfl,rfl⟩ _;rw[zF0]at h;refine zZO ?_;refine zAa ?_;obtain⟨x2,hj,h⟩:=zAc h;refine zAo ⟨ofL [(2,.s (.bool x2))],fun _=>none,0⟩ ?_ (fun σ' hle=>?_)
 ·replace h:=hj;refine zAb [] [6,8,12,14] rfl ?_;intro b hb;cases b with
  | true =>
   replace h:=zAF hb.symm h;obtain⟨c3,hc3,h⟩:=zAc h;refine And.intro (zFv hc3).1 ?_;intro v4 hv4;obtain rfl:(c3.toNat:Int)=v4:=(hv4.trans (zFv hc3).2).symm;obtain⟨y5,hy5,h⟩:=zAc h;refine⟨_,⟨_,_,_,hy5,rfl,rfl⟩,?_⟩
   intro b hb;cases b with
   | true =>
    replace h:=zAF hb.symm h;obtain⟨c6,hc6,h⟩:=zAc h;refine And.intro (zFv hc6).1 ?_;intro v7 hv7;obtain rfl:(c6.toNat:Int)=v7:=(hv7.trans (zFv hc6).2).symm;obtain⟨y8,hy8,h⟩:=zAc h;refine⟨_,⟨_,_,_,hy8,rfl,rfl⟩,?_⟩
    cases h;exact(Le.forget _ ⟨rfl,trivial⟩)
   | false =>
    replace h:=zAE hb.symm h;cases h;exact(Le.forget _ ⟨rfl,trivial⟩)
  | false =>
   replace h:=zAE hb.symm h;intro b hb;subst hb;cases h;exact(Le.forget _ ⟨rfl,trivial⟩)
 ·refine zAj hle ?_;refine zAe ?_;have hy:=osi h;subst hy;exact fin0 rfl rfl
def zCn (p:Unit):List S:=[.str [],.int .i64 0,.nf,.str [114,111,119],.int .i64 0,.fn 138,.str [115,121,109],.int .i64 0,.fn 139,.str [110,117,109],.int .i64 0,.fn 140,.str [116,101,120,116],.int .i64 0,.fn 141,.str [102,114,97,99],.int .i64 2,.fn 138,.str [114,111,111,116],.int .i64 2,.fn 138,.str [115,117,98],.int .i64 2,.fn 138,.str [115,117,112],.int .i64 2,.fn 138,.str [98,111,116,104],.int .i64 3,.fn 138,.str [97,99,99,101,110,116],.int .i64 1,.fn 142,.str [102,101,110,99,101],.int .i64 1,.fn 143,.str [109,97,116,114,105,120],.int .i64 0,.fn 138]
def zRZ (xs:List AV) (r:Ret):Prop:=∃ (y0:Unit),zHz=some y0/\xs=[]/\r = .val (.agg ((zCn y0).map .s))
def zM8:zAq:=zAw fun xs r=>zRZ xs r
theorem zRp:PSound Tryz.prog 109 zM8:=by
 have gok:=@gok0 Tryz.prog;refine zAC tokW Tryz.call109 Tryz.func109 rfl (fun xs r h=>by obtain⟨_,_,rfl,_⟩:=h; show 0<=14; decide) 14 rfl ?_;rintro xs r w0 G0 ⟨y0,h,rfl,rfl⟩ _;rw[zHz]at h;refine zYZ [0] [] rfl ?_;refine zZO ?_;refine zAe ?_;have hy:=osi h;subst hy;exact fin0 rfl rfl
def zBp (p:(Unit×Int)):List S:=[.str [],.int .i64 0,.nf,.str [114,111,119],.int .i64 0,.fn 138,.str [115,121,109],.int .i64 0,.fn 139,.str [110,117,109],.int .i64 0,.fn 140,.str [116,101,120,116],.int .i64 0,.fn 141,.str [102,114,97,99],.int .i64 2,.fn 138,.str [114,111,111,116],.int .i64 2,.fn 138,.str [115,117,98],.int .i64 2,.fn 138,.str [115,117,112],.int .i64 2,.fn 138,.str [98,111,116,104],.int .i64 3,.fn 138,.str [97,99,99,101,110,116],.int .i64 1,.fn 142,.str [102,101,110,99,101],.int .i64 1,.fn 143,.str [109,97,116,114,105,120],.int .i64 0,.fn 138,.int .i64 p.2]
def zLD (n:Nat) (xs:List AV) (os:List Ob) (x:AV) (os':List (Option Ob)):Prop:=∃ (a0:(Unit×Int)) (a1:Nd) (y0:Bool) (z0:(Unit×Int)),zC5 n a0 a1=some (y0,z0)/\xs=[.op 0 0,.s (.pt (Nd.enc a1))]/\os=[.box 167 ((zBp a0).map .s)]/\x = .s (.bool y0)/\os'=[some (.box 167 ((zBp z0).map .s))]
def zHt:zAq:=zBK (fun xs os x os'=>∃ n,zLD n xs os x os')
theorem zLg:PSound Tryz.prog 144 zHt:=by
 have gok:∀ f s,look? f [(138,zM6),(139,zLK),(140,zLJ),(141,zM9),(142,zIq),(143,zM7)]=some s->PSound Tryz.prog f s:=zAl (by
  simp only[List.forall_mem_cons]
  exact⟨zRn,zPL,zPK,zRq,zKJ,zRo,by simp⟩)
 refine PSound.withNil (zDQ tokW Tryz.call144 Tryz.func144 rfl (fun xs os x os' h=>by obtain⟨n,_,_,_,_,_,rfl,rfl,_,rfl⟩:=h; exact⟨by show 2<=120; decide,by show 1<=1; decide⟩) 120 rfl ?_) _;rintro xs os x os' w0 G0 B0 ⟨n,⟨_,o1G⟩,⟨a2A,a2B,a2F,a2E⟩,y0,z0,h,rfl,rfl,rfl,rfl⟩ _;rw[zC5]at h;refine zZO ?_;refine zAa ?_;refine zAa ?_;obtain⟨x3,hj,h⟩:=zAc h
 refine zAo ⟨ofL [(0,.op 0 0),(1,.s (.pt [.int .i64 a2A,.str a2B,.int .i64 a2F,.sl 4 (Nd.encs a2E)])),(34,.s (.bool x3))],ofH [(0,.box 167 [.s (.str []),.s (.int .i64 0),.s (.nf),.s (.str [114,111,119]),.s (.int .i64 0),.s (.fn 138),.s (.str [115,121,109]),.s (.int .i64 0),.s (.fn 139),.s (.str [110,117,109]),.s (.int .i64 0),.s (.fn 140),.s (.str [116,101,120,116]),.s (.int .i64 0),.s (.fn 141),.s (.str [102,114,97,99]),.s (.int .i64 2),.s (.fn 138),.s (.str [114,111,111,116]),.s (.int .i64 2),.s (.fn 138),.s (.str [115,117,98]),.s (.int .i64 2),.s (.fn 138),.s (.str [115,117,112]),.s (.int .i64 2),.s (.fn 138),.s (.str [98,111,116,104]),.s (.int .i64 3),.s (.fn 138),.s (.str [97,99,99,101,110,116]),.s (.int .i64 1),.s (.fn 142),.s (.str [102,101,110,99,101]),.s (.int .i64 1),.s (.fn 143),.s (.str [109,97,116,114,105,120]),.s (.int .i64 0),.s (.fn 138),.s (.int .i64 o1G)])],1⟩ ?_ (fun σ' hle=>?_)
 ·replace h:=hj;refine zBw [] [10,17,22] [22] rfl (by decide +kernel) ?_;intro b hb;cases b with
  | true =>
   replace h:=zAF hb.symm h;intro b hb;subst hb;cases h;exact(Le.rnm [(0,0)] _ _ _ ⟨rfl,rfl,rfl,trivial⟩ ⟨rfl,⟨_,rfl,rfl⟩,trivial⟩)
  | false =>
   replace h:=zAE hb.symm h;intro b hb;cases b with
   | true =>
    replace h:=zAF hb.symm h;cases h;exact(Le.rnm [(0,0)] _ _ _ ⟨rfl,rfl,rfl,trivial⟩ ⟨rfl,⟨_,rfl,rfl⟩,trivial⟩)
   | false =>
    replace h:=zAE hb.symm h;intro vsp hvsp;cases hc:(a2A == 1) with
    | true =>
     replace h:=zAF hc h;obtain rfl:(1:Int)=vsp:=(hvsp.trans (eq_of_beq hc)).symm;refine And.intro (by decide) ?_;obtain⟨y4,hy4,h⟩:=zAc h;refine⟨_,⟨_,_,hy4,rfl,rfl⟩,?_⟩
     cases h;exact(Le.rnm [(0,0)] _ _ _ ⟨rfl,rfl,rfl,trivial⟩ ⟨rfl,⟨_,rfl,rfl⟩,trivial⟩)
    | false =>
     replace h:=zAE hc h;cases hc:(a2A == 2) with
     | true =>
      replace h:=zAF hc h;obtain rfl:(2:Int)=vsp:=(hvsp.trans (eq_of_beq hc)).symm;refine And.intro (by decide) ?_;obtain⟨y5,hy5,h⟩:=zAc h;refine⟨_,⟨_,_,_,hy5,rfl,rfl⟩,?_⟩
      cases h;exact(Le.rnm [(0,0)] _ _ _ ⟨rfl,rfl,rfl,trivial⟩ ⟨rfl,⟨_,rfl,rfl⟩,trivial⟩)
     | false =>
      replace h:=zAE hc h;cases hc:(a2A == 3) with
      | true =>
       replace h:=zAF hc h;obtain rfl:(3:Int)=vsp:=(hvsp.trans (eq_of_beq hc)).symm;refine And.intro (by decide) ?_;obtain⟨y6,hy6,h⟩:=zAc h;refine⟨_,⟨_,_,_,hy6,rfl,rfl⟩,?_⟩
       cases h;exact(Le.rnm [(0,0)] _ _ _ ⟨rfl,rfl,rfl,trivial⟩ ⟨rfl,⟨_,rfl,rfl⟩,trivial⟩)
      | false =>
       replace h:=zAE hc h;cases hc:(a2A == 4) with
       | true =>
        replace h:=zAF hc h;obtain rfl:(4:Int)=vsp:=(hvsp.trans (eq_of_beq hc)).symm;refine And.intro (by decide) ?_;obtain⟨y7,hy7,h⟩:=zAc h;refine⟨_,⟨_,_,_,hy7,rfl,rfl⟩,?_⟩
        cases h;exact(Le.rnm [(0,0)] _ _ _ ⟨rfl,rfl,rfl,trivial⟩ ⟨rfl,⟨_,rfl,rfl⟩,trivial⟩)
       | false =>
        replace h:=zAE hc h;cases hc:(a2A == 5) with
        | true =>
         replace h:=zAF hc h;obtain rfl:(5:Int)=vsp:=(hvsp.trans (eq_of_beq hc)).symm;refine And.intro (by decide) ?_;obtain⟨y8,hy8,h⟩:=zAc h;refine⟨_,⟨_,_,hy8,rfl,rfl⟩,?_⟩
         cases h;exact(Le.rnm [(0,0)] _ _ _ ⟨rfl,rfl,rfl,trivial⟩ ⟨rfl,⟨_,rfl,rfl⟩,trivial⟩)
        | false =>
         replace h:=zAE hc h;cases hc:(a2A == 6) with
         | true =>
          replace h:=zAF hc h;obtain rfl:(6:Int)=vsp:=(hvsp.trans (eq_of_beq hc)).symm;refine And.intro (by decide) ?_;obtain⟨y9,hy9,h⟩:=zAc h;refine⟨_,⟨_,_,hy9,rfl,rfl⟩,?_⟩
          cases h;exact(Le.rnm [(0,0)] _ _ _ ⟨rfl,rfl,rfl,trivial⟩ ⟨rfl,⟨_,rfl,rfl⟩,trivial⟩)
         | false =>
          replace h:=zAE hc h;cases hc:(a2A == 7) with
          | true =>
           replace h:=zAF hc h;obtain rfl:(7:Int)=vsp:=(hvsp.trans (eq_of_beq hc)).symm;refine And.intro (by decide) ?_;obtain⟨y10,hy10,h⟩:=zAc h;refine⟨_,⟨_,_,hy10,rfl,rfl⟩,?_⟩
           cases h;exact(Le.rnm [(0,0)] _ _ _ ⟨rfl,rfl,rfl,trivial⟩ ⟨rfl,⟨_,rfl,rfl⟩,trivial⟩)
          | false =>
           replace h:=zAE hc h;cases hc:(a2A == 8) with
           | true =>
            replace h:=zAF hc h;obtain rfl:(8:Int)=vsp:=(hvsp.trans (eq_of_beq hc)).symm;refine And.intro (by decide) ?_;obtain⟨y11,hy11,h⟩:=zAc h;refine⟨_,⟨_,_,hy11,rfl,rfl⟩,?_⟩
            cases h;exact(Le.rnm [(0,0)] _ _ _ ⟨rfl,rfl,rfl,trivial⟩ ⟨rfl,⟨_,rfl,rfl⟩,trivial⟩)
           | false =>
            replace h:=zAE hc h;cases hc:(a2A == 9) with
            | true =>
             replace h:=zAF hc h;obtain rfl:(9:Int)=vsp:=(hvsp.trans (eq_of_beq hc)).symm;refine And.intro (by decide) ?_;obtain⟨y12,hy12,h⟩:=zAc h;refine⟨_,⟨_,_,hy12,rfl,rfl⟩,?_⟩
             cases h;exact(Le.rnm [(0,0)] _ _ _ ⟨rfl,rfl,rfl,trivial⟩ ⟨rfl,⟨_,rfl,rfl⟩,trivial⟩)
            | false =>
             replace h:=zAE hc h;cases hc:(a2A == 10) with
             | true =>
              replace h:=zAF hc h;obtain rfl:(10:Int)=vsp:=(hvsp.trans (eq_of_beq hc)).symm;refine And.intro (by decide) ?_;obtain⟨y13,hy13,h⟩:=zAc h;refine⟨_,⟨_,_,hy13,rfl,rfl⟩,?_⟩
              cases h;exact(Le.rnm [(0,0)] _ _ _ ⟨rfl,rfl,rfl,trivial⟩ ⟨rfl,⟨_,rfl,rfl⟩,trivial⟩)
             | false =>
              replace h:=zAE hc h;cases hc:(a2A == 11) with
              | true =>
               replace h:=zAF hc h;obtain rfl:(11:Int)=vsp:=(hvsp.trans (eq_of_beq hc)).symm;refine And.intro (by decide) ?_;obtain⟨y14,hy14,h⟩:=zAc h;refine⟨_,⟨_,_,hy14,rfl,rfl⟩,?_⟩
               cases h;exact(Le.rnm [(0,0)] _ _ _ ⟨rfl,rfl,rfl,trivial⟩ ⟨rfl,⟨_,rfl,rfl⟩,trivial⟩)
              | false =>
               replace h:=zAE hc h;cases hc:(a2A == 12) with
               | true =>
                replace h:=zAF hc h;obtain rfl:(12:Int)=vsp:=(hvsp.trans (eq_of_beq hc)).symm;refine And.intro (by decide) ?_;obtain⟨y15,hy15,h⟩:=zAc h;refine⟨_,⟨_,_,hy15,rfl,rfl⟩,?_⟩
                cases h;exact(Le.rnm [(0,0)] _ _ _ ⟨rfl,rfl,rfl,trivial⟩ ⟨rfl,⟨_,rfl,rfl⟩,trivial⟩)
               | false =>
                replace h:=zAE hc h;cases h
 ·refine zAj hle ?_;refine zAh rfl h (fun hb h=>?_) (fun hb h=>?_)
  ·refine zZO ?_;refine zAe ?_;obtain⟨hj1,hk1⟩:=pij h;subst hj1 hk1;unfold zA8
   exact⟨_,(Le.rnm [(0,0)] [(4,.s (.bool false))] [(0,.box 167 [.s (.str []),.s (.int .i64 0),.s (.nf),.s (.str [114,111,119]),.s (.int .i64 0),.s (.fn 138),.s (.str [115,121,109]),.s (.int .i64 0),.s (.fn 139),.s (.str [110,117,109]),.s (.int .i64 0),.s (.fn 140),.s (.str [116,101,120,116]),.s (.int .i64 0),.s (.fn 141),.s (.str [102,114,97,99]),.s (.int .i64 2),.s (.fn 138),.s (.str [114,111,111,116]),.s (.int .i64 2),.s (.fn 138),.s (.str [115,117,98]),.s (.int .i64 2),.s (.fn 138),.s (.str [115,117,112]),.s (.int .i64 2),.s (.fn 138),.s (.str [98,111,116,104]),.s (.int .i64 3),.s (.fn 138),.s (.str [97,99,99,101,110,116]),.s (.int .i64 1),.s (.fn 142),.s (.str [102,101,110,99,101]),.s (.int .i64 1),.s (.fn 143),.s (.str [109,97,116,114,105,120]),.s (.int .i64 0),.s (.fn 138),.s (.int .i64 o1G)])] 1 ⟨rfl,trivial⟩ ⟨rfl,⟨_,rfl,rfl⟩,trivial⟩),rfl,rfl,rfl,rfl,trivial⟩
  ·refine zAf ?_;refine zAa ?_;refine zZO ?_;refine zAk ?_;refine zZO ?_;refine zAh rfl h (fun hb h=>?_) (fun hb h=>?_)
   ·refine zAa ?_;obtain⟨x16,hj,h⟩:=zAc h
    refine zAo ⟨ofL [(4,.s (.bool x16))],ofH [(0,.box 167 [.s (.str []),.s (.int .i64 0),.s (.nf),.s (.str [114,111,119]),.s (.int .i64 0),.s (.fn 138),.s (.str [115,121,109]),.s (.int .i64 0),.s (.fn 139),.s (.str [110,117,109]),.s (.int .i64 0),.s (.fn 140),.s (.str [116,101,120,116]),.s (.int .i64 0),.s (.fn 141),.s (.str [102,114,97,99]),.s (.int .i64 2),.s (.fn 138),.s (.str [114,111,111,116]),.s (.int .i64 2),.s (.fn 138),.s (.str [115,117,98]),.s (.int .i64 2),.s (.fn 138),.s (.str [115,117,112]),.s (.int .i64 2),.s (.fn 138),.s (.str [98,111,116,104]),.s (.int .i64 3),.s (.fn 138),.s (.str [97,99,99,101,110,116]),.s (.int .i64 1),.s (.fn 142),.s (.str [102,101,110,99,101]),.s (.int .i64 1),.s (.fn 143),.s (.str [109,97,116,114,105,120]),.s (.int .i64 0),.s (.fn 138),.s (.int .i64 o1G)])],1⟩ ?_ (fun σ' hle=>?_)
    ·replace h:=hj;refine zAb [] [46,51] rfl ?_;intro b hb;cases b with
     | true =>
      replace h:=zAF hb.symm h;intro n17 hn17;obtain rfl:(a2E.length:Int)=n17:=(hn17.trans (congrArg (fun m:Nat=>(m:Int)) (rlen Nd.encs_eq a2E))).symm;cases h;exact(Le.rnm [(0,0)] _ _ _ ⟨rfl,trivial⟩ ⟨rfl,⟨_,rfl,rfl⟩,trivial⟩)
     | false =>
      replace h:=zAE hb.symm h;cases h;exact(Le.rnm [(0,0)] _ _ _ ⟨rfl,trivial⟩ ⟨rfl,⟨_,rfl,rfl⟩,trivial⟩)
    ·refine zAj hle ?_;refine zAe ?_;obtain⟨hj1,hk1⟩:=pij h;subst hj1 hk1;unfold zA8
     exact⟨_,(Le.rnm [(0,0)] [(4,.s (.bool x16))] [(0,.box 167 [.s (.str []),.s (.int .i64 0),.s (.nf),.s (.str [114,111,119]),.s (.int .i64 0),.s (.fn 138),.s (.str [115,121,109]),.s (.int .i64 0),.s (.fn 139),.s (.str [110,117,109]),.s (.int .i64 0),.s (.fn 140),.s (.str [116,101,120,116]),.s (.int .i64 0),.s (.fn 141),.s (.str [102,114,97,99]),.s (.int .i64 2),.s (.fn 138),.s (.str [114,111,111,116]),.s (.int .i64 2),.s (.fn 138),.s (.str [115,117,98]),.s (.int .i64 2),.s (.fn 138),.s (.str [115,117,112]),.s (.int .i64 2),.s (.fn 138),.s (.str [98,111,116,104]),.s (.int .i64 3),.s (.fn 138),.s (.str [97,99,99,101,110,116]),.s (.int .i64 1),.s (.fn 142),.s (.str [102,101,110,99,101]),.s (.int .i64 1),.s (.fn 143),.s (.str [109,97,116,114,105,120]),.s (.int .i64 0),.s (.fn 138),.s (.int .i64 o1G)])] 1 ⟨rfl,trivial⟩ ⟨rfl,⟨_,rfl,rfl⟩,trivial⟩),rfl,rfl,rfl,rfl,trivial⟩
   ·refine zZO ?_;refine zAh rfl h (fun hb h=>?_) (fun hb h=>?_)
    ·refine zAa ?_;obtain⟨x18,hj,h⟩:=zAc h
     refine zAo ⟨ofL [(4,.s (.bool x18))],ofH [(0,.box 167 [.s (.str []),.s (.int .i64 0),.s (.nf),.s (.str [114,111,119]),.s (.int .i64 0),.s (.fn 138),.s (.str [115,121,109]),.s (.int .i64 0),.s (.fn 139),.s (.str [110,117,109]),.s (.int .i64 0),.s (.fn 140),.s (.str [116,101,120,116]),.s (.int .i64 0),.s (.fn 141),.s (.str [102,114,97,99]),.s (.int .i64 2),.s (.fn 138),.s (.str [114,111,111,116]),.s (.int .i64 2),.s (.fn 138),.s (.str [115,117,98]),.s (.int .i64 2),.s (.fn 138),.s (.str [115,117,112]),.s (.int .i64 2),.s (.fn 138),.s (.str [98,111,116,104]),.s (.int .i64 3),.s (.fn 138),.s (.str [97,99,99,101,110,116]),.s (.int .i64 1),.s (.fn 142),.s (.str [102,101,110,99,101]),.s (.int .i64 1),.s (.fn 143),.s (.str [109,97,116,114,105,120]),.s (.int .i64 0),.s (.fn 138),.s (.int .i64 o1G)])],1⟩ ?_ (fun σ' hle=>?_)
     ·replace h:=hj;refine zBw [] [61,68,73,76,81,84,89] [] rfl (by decide +kernel) ?_;intro b hb;cases b with
      | true =>
       replace h:=zAF hb.symm h;intro b hb;cases b with
       | true =>
        replace h:=zAF hb.symm h;intro n19 hn19;obtain rfl:(a2E.length:Int)=n19:=(hn19.trans (congrArg (fun m:Nat=>(m:Int)) (rlen Nd.encs_eq a2E))).symm;intro b hb;cases b with
        | true =>
         replace h:=zAF hb.symm h;intro n20 hn20;obtain rfl:(a2E.length:Int)=n20:=(hn20.trans (congrArg (fun m:Nat=>(m:Int)) (rlen Nd.encs_eq a2E))).symm;intro b hb;cases b with
         | true =>
          replace h:=zAF hb.symm h;intro n21 hn21;obtain rfl:(a2E.length:Int)=n21:=(hn21.trans (congrArg (fun m:Nat=>(m:Int)) (rlen Nd.encs_eq a2E))).symm;obtain⟨hq,h⟩:=zAI h;refine And.intro hq ?_;cases h;exact(Le.rnm [(0,0)] _ _ _ ⟨rfl,trivial⟩ ⟨rfl,⟨_,rfl,rfl⟩,trivial⟩)
         | false =>
          replace h:=zAE hb.symm h;cases h;exact(Le.rnm [(0,0)] _ _ _ ⟨rfl,trivial⟩ ⟨rfl,⟨_,rfl,rfl⟩,trivial⟩)
        | false =>
         replace h:=zAE hb.symm h;intro b hb;subst hb;cases h;exact(Le.rnm [(0,0)] _ _ _ ⟨rfl,trivial⟩ ⟨rfl,⟨_,rfl,rfl⟩,trivial⟩)
       | false =>
        replace h:=zAE hb.symm h;intro b hb;subst hb;intro b hb;subst hb;cases h;exact(Le.rnm [(0,0)] _ _ _ ⟨rfl,trivial⟩ ⟨rfl,⟨_,rfl,rfl⟩,trivial⟩)
      | false =>
       replace h:=zAE hb.symm h;intro b hb;subst hb;intro b hb;subst hb;intro b hb;subst hb;cases h;exact(Le.rnm [(0,0)] _ _ _ ⟨rfl,trivial⟩ ⟨rfl,⟨_,rfl,rfl⟩,trivial⟩)
     ·refine zAj hle ?_;refine zAe ?_;obtain⟨hj1,hk1⟩:=pij h;subst hj1 hk1;unfold zA8
      exact⟨_,(Le.rnm [(0,0)] [(4,.s (.bool x18))] [(0,.box 167 [.s (.str []),.s (.int .i64 0),.s (.nf),.s (.str [114,111,119]),.s (.int .i64 0),.s (.fn 138),.s (.str [115,121,109]),.s (.int .i64 0),.s (.fn 139),.s (.str [110,117,109]),.s (.int .i64 0),.s (.fn 140),.s (.str [116,101,120,116]),.s (.int .i64 0),.s (.fn 141),.s (.str [102,114,97,99]),.s (.int .i64 2),.s (.fn 138),.s (.str [114,111,111,116]),.s (.int .i64 2),.s (.fn 138),.s (.str [115,117,98]),.s (.int .i64 2),.s (.fn 138),.s (.str [115,117,112]),.s (.int .i64 2),.s (.fn 138),.s (.str [98,111,116,104]),.s (.int .i64 3),.s (.fn 138),.s (.str [97,99,99,101,110,116]),.s (.int .i64 1),.s (.fn 142),.s (.str [102,101,110,99,101]),.s (.int .i64 1),.s (.fn 143),.s (.str [109,97,116,114,105,120]),.s (.int .i64 0),.s (.fn 138),.s (.int .i64 o1G)])] 1 ⟨rfl,trivial⟩ ⟨rfl,⟨_,rfl,rfl⟩,trivial⟩),rfl,rfl,rfl,rfl,trivial⟩
    ·refine zAf ?_;refine zAa ?_;obtain⟨x22,hj,h⟩:=zAc h
     refine zAo ⟨ofL [(4,.s (.bool x22))],ofH [(0,.box 167 [.s (.str []),.s (.int .i64 0),.s (.nf),.s (.str [114,111,119]),.s (.int .i64 0),.s (.fn 138),.s (.str [115,121,109]),.s (.int .i64 0),.s (.fn 139),.s (.str [110,117,109]),.s (.int .i64 0),.s (.fn 140),.s (.str [116,101,120,116]),.s (.int .i64 0),.s (.fn 141),.s (.str [102,114,97,99]),.s (.int .i64 2),.s (.fn 138),.s (.str [114,111,111,116]),.s (.int .i64 2),.s (.fn 138),.s (.str [115,117,98]),.s (.int .i64 2),.s (.fn 138),.s (.str [115,117,112]),.s (.int .i64 2),.s (.fn 138),.s (.str [98,111,116,104]),.s (.int .i64 3),.s (.fn 138),.s (.str [97,99,99,101,110,116]),.s (.int .i64 1),.s (.fn 142),.s (.str [102,101,110,99,101]),.s (.int .i64 1),.s (.fn 143),.s (.str [109,97,116,114,105,120]),.s (.int .i64 0),.s (.fn 138),.s (.int .i64 o1G)])],1⟩ ?_ (fun σ' hle=>?_)
     ·replace h:=hj;refine zBw [] [102,107,112] [20] rfl (by decide +kernel) ?_;intro b hb;cases b with
      | true =>
       replace h:=zAF hb.symm h;intro n23 hn23;obtain rfl:(a2E.length:Int)=n23:=(hn23.trans (congrArg (fun m:Nat=>(m:Int)) (rlen Nd.encs_eq a2E))).symm;intro vsp hvsp;cases hc:(a2A == 1) with
       | true =>
        replace h:=zAF hc h;obtain rfl:(1:Int)=vsp:=(hvsp.trans (eq_of_beq hc)).symm;refine And.intro (by decide) ?_;cases h;exact(Le.rnm [(0,0)] _ _ _ ⟨rfl,trivial⟩ ⟨rfl,⟨_,rfl,rfl⟩,trivial⟩)
       | false =>
        replace h:=zAE hc h;cases hc:(a2A == 2) with
        | true =>
         replace h:=zAF hc h;obtain rfl:(2:Int)=vsp:=(hvsp.trans (eq_of_beq hc)).symm;refine And.intro (by decide) ?_;cases h;exact(Le.rnm [(0,0)] _ _ _ ⟨rfl,trivial⟩ ⟨rfl,⟨_,rfl,rfl⟩,trivial⟩)
        | false =>
         replace h:=zAE hc h;cases hc:(a2A == 3) with
         | true =>
          replace h:=zAF hc h;obtain rfl:(3:Int)=vsp:=(hvsp.trans (eq_of_beq hc)).symm;refine And.intro (by decide) ?_;cases h;exact(Le.rnm [(0,0)] _ _ _ ⟨rfl,trivial⟩ ⟨rfl,⟨_,rfl,rfl⟩,trivial⟩)
         | false =>
          replace h:=zAE hc h;cases hc:(a2A == 4) with
          | true =>
           replace h:=zAF hc h;obtain rfl:(4:Int)=vsp:=(hvsp.trans (eq_of_beq hc)).symm;refine And.intro (by decide) ?_;cases h;exact(Le.rnm [(0,0)] _ _ _ ⟨rfl,trivial⟩ ⟨rfl,⟨_,rfl,rfl⟩,trivial⟩)
          | false =>
           replace h:=zAE hc h;cases hc:(a2A == 5) with
           | true =>
            replace h:=zAF hc h;obtain rfl:(5:Int)=vsp:=(hvsp.trans (eq_of_beq hc)).symm;refine And.intro (by decide) ?_;cases h;exact(Le.rnm [(0,0)] _ _ _ ⟨rfl,trivial⟩ ⟨rfl,⟨_,rfl,rfl⟩,trivial⟩)
           | false =>
            replace h:=zAE hc h;cases hc:(a2A == 6) with
            | true =>
             replace h:=zAF hc h;obtain rfl:(6:Int)=vsp:=(hvsp.trans (eq_of_beq hc)).symm;refine And.intro (by decide) ?_;cases h;exact(Le.rnm [(0,0)] _ _ _ ⟨rfl,trivial⟩ ⟨rfl,⟨_,rfl,rfl⟩,trivial⟩)
            | false =>
             replace h:=zAE hc h;cases hc:(a2A == 7) with
             | true =>
              replace h:=zAF hc h;obtain rfl:(7:Int)=vsp:=(hvsp.trans (eq_of_beq hc)).symm;refine And.intro (by decide) ?_;cases h;exact(Le.rnm [(0,0)] _ _ _ ⟨rfl,trivial⟩ ⟨rfl,⟨_,rfl,rfl⟩,trivial⟩)
             | false =>
              replace h:=zAE hc h;cases hc:(a2A == 8) with
              | true =>
               replace h:=zAF hc h;obtain rfl:(8:Int)=vsp:=(hvsp.trans (eq_of_beq hc)).symm;refine And.intro (by decide) ?_;cases h;exact(Le.rnm [(0,0)] _ _ _ ⟨rfl,trivial⟩ ⟨rfl,⟨_,rfl,rfl⟩,trivial⟩)
              | false =>
               replace h:=zAE hc h;cases hc:(a2A == 9) with
               | true =>
                replace h:=zAF hc h;obtain rfl:(9:Int)=vsp:=(hvsp.trans (eq_of_beq hc)).symm;refine And.intro (by decide) ?_;cases h;exact(Le.rnm [(0,0)] _ _ _ ⟨rfl,trivial⟩ ⟨rfl,⟨_,rfl,rfl⟩,trivial⟩)
               | false =>
                replace h:=zAE hc h;cases hc:(a2A == 10) with
                | true =>
                 replace h:=zAF hc h;obtain rfl:(10:Int)=vsp:=(hvsp.trans (eq_of_beq hc)).symm;refine And.intro (by decide) ?_;cases h;exact(Le.rnm [(0,0)] _ _ _ ⟨rfl,trivial⟩ ⟨rfl,⟨_,rfl,rfl⟩,trivial⟩)
                | false =>
                 replace h:=zAE hc h;cases hc:(a2A == 11) with
                 | true =>
                  replace h:=zAF hc h;obtain rfl:(11:Int)=vsp:=(hvsp.trans (eq_of_beq hc)).symm;refine And.intro (by decide) ?_;cases h;exact(Le.rnm [(0,0)] _ _ _ ⟨rfl,trivial⟩ ⟨rfl,⟨_,rfl,rfl⟩,trivial⟩)
                 | false =>
                  replace h:=zAE hc h;cases hc:(a2A == 12) with
                  | true =>
                   replace h:=zAF hc h;obtain rfl:(12:Int)=vsp:=(hvsp.trans (eq_of_beq hc)).symm;refine And.intro (by decide) ?_;cases h;exact(Le.rnm [(0,0)] _ _ _ ⟨rfl,trivial⟩ ⟨rfl,⟨_,rfl,rfl⟩,trivial⟩)
                  | false =>
                   replace h:=zAE hc h;cases h
      | false =>
       replace h:=zAE hb.symm h;cases h;exact(Le.rnm [(0,0)] _ _ _ ⟨rfl,trivial⟩ ⟨rfl,⟨_,rfl,rfl⟩,trivial⟩)
     ·refine zAj hle ?_;refine zAe ?_;obtain⟨hj1,hk1⟩:=pij h;subst hj1 hk1;unfold zA8
      exact⟨_,(Le.rnm [(0,0)] [(4,.s (.bool x22))] [(0,.box 167 [.s (.str []),.s (.int .i64 0),.s (.nf),.s (.str [114,111,119]),.s (.int .i64 0),.s (.fn 138),.s (.str [115,121,109]),.s (.int .i64 0),.s (.fn 139),.s (.str [110,117,109]),.s (.int .i64 0),.s (.fn 140),.s (.str [116,101,120,116]),.s (.int .i64 0),.s (.fn 141),.s (.str [102,114,97,99]),.s (.int .i64 2),.s (.fn 138),.s (.str [114,111,111,116]),.s (.int .i64 2),.s (.fn 138),.s (.str [115,117,98]),.s (.int .i64 2),.s (.fn 138),.s (.str [115,117,112]),.s (.int .i64 2),.s (.fn 138),.s (.str [98,111,116,104]),.s (.int .i64 3),.s (.fn 138),.s (.str [97,99,99,101,110,116]),.s (.int .i64 1),.s (.fn 142),.s (.str [102,101,110,99,101]),.s (.int .i64 1),.s (.fn 143),.s (.str [109,97,116,114,105,120]),.s (.int .i64 0),.s (.fn 138),.s (.int .i64 o1G)])] 1 ⟨rfl,trivial⟩ ⟨rfl,⟨_,rfl,rfl⟩,trivial⟩),rfl,rfl,rfl,rfl,trivial⟩
def zCI (n:Nat) (xs:List AV) (os:List Ob) (x:AV) (os':List (Option Ob)):Prop:=∃ (a0:(Unit×Int)) (a1:Nd) (a2:Int) (y0:Bool) (z0:(Unit×Int)),zBc n a0 a1 a2=some (y0,z0)/\xs=[.op 0 0,.s (.pt (Nd.enc a1)),.s (.int .i64 a2)]/\os=[.box 167 ((zBp a0).map .s)]/\x = .s (.bool y0)/\os'=[some (.box 167 ((zBp z0).map .s))]
theorem zIZ (n:Nat) (ih:PSound Tryz.prog 110 (zBK (zCI n))):PSound Tryz.prog 110 (zBK (zCI (n+1))):=by
 have gok:∀ f s,look? f [(144,zHt),(110,zBK (zCI n))]=some s->PSound Tryz.prog f s:=zAl (by
  simp only[List.forall_mem_cons]
  exact⟨zLg,ih,by simp⟩)
 refine PSound.withNil (zDQ tokW Tryz.call110 Tryz.func110 rfl (fun xs os x os' h=>by obtain⟨_,_,_,_,_,_,rfl,rfl,_,rfl⟩:=h; exact⟨by show 3<=67; decide,by show 1<=1; decide⟩) 67 rfl ?_) _;rintro xs os x os' w0 G0 B0 ⟨⟨_,o1G⟩,⟨a2A,a2B,a2F,a2E⟩,a3,y0,z0,h,rfl,rfl,rfl,rfl⟩ _;rw[zBc]at h;refine zZO ?_;refine zZO ?_;refine zAa ?_;refine zAa ?_;obtain⟨⟨x4,x5⟩,hj,h⟩:=zAc h
 refine zAo ⟨ofL [(0,.op 0 0),(1,.s (.pt [.int .i64 a2A,.str a2B,.int .i64 a2F,.sl 4 (Nd.encs a2E)])),(2,.s (.int .i64 a3)),(29,.s (.bool x4))],ofH [(0,.box 167 [.s (.str []),.s (.int .i64 0),.s (.nf),.s (.str [114,111,119]),.s (.int .i64 0),.s (.fn 138),.s (.str [115,121,109]),.s (.int .i64 0),.s (.fn 139),.s (.str [110,117,109]),.s (.int .i64 0),.s (.fn 140),.s (.str [116,101,120,116]),.s (.int .i64 0),.s (.fn 141),.s (.str [102,114,97,99]),.s (.int .i64 2),.s (.fn 138),.s (.str [114,111,111,116]),.s (.int .i64 2),.s (.fn 138),.s (.str [115,117,98]),.s (.int .i64 2),.s (.fn 138),.s (.str [115,117,112]),.s (.int .i64 2),.s (.fn 138),.s (.str [98,111,116,104]),.s (.int .i64 3),.s (.fn 138),.s (.str [97,99,99,101,110,116]),.s (.int .i64 1),.s (.fn 142),.s (.str [102,101,110,99,101]),.s (.int .i64 1),.s (.fn 143),.s (.str [109,97,116,114,105,120]),.s (.int .i64 0),.s (.fn 138),.s (.int .i64 x5)])],1⟩ ?_ (fun σ' hle=>?_)
 ·replace h:=hj;refine zAb [] [20,24] rfl ?_;intro b hb;cases b with
  | true =>
   replace h:=zAF hb.symm h;intro b hb;subst hb;cases h;exact(Le.rnm [(0,0)] _ _ _ ⟨rfl,rfl,rfl,rfl,trivial⟩ ⟨rfl,⟨_,rfl,rfl⟩,trivial⟩)
  | false =>
   replace h:=zAE hb.symm h;intro b hb;cases b with
   | true =>
    replace h:=zAF hb.symm h;cases h;exact(Le.rnm [(0,0)] _ _ _ ⟨rfl,rfl,rfl,rfl,trivial⟩ ⟨rfl,⟨_,rfl,rfl⟩,trivial⟩)
   | false =>
    replace h:=zAE hb.symm h;obtain⟨⟨y6,⟨_,w7G⟩⟩,hy6,h⟩:=zAc h;refine⟨_,_,⟨_,_,_,_,_,hy6,rfl,rfl,rfl,rfl⟩,?_⟩
    cases h;exact(Le.rnm [(0,0)] _ _ _ ⟨rfl,rfl,rfl,rfl,trivial⟩ ⟨rfl,⟨_,rfl,rfl⟩,trivial⟩)
 ·refine zAj hle ?_;refine zAh rfl h (fun hb h=>?_) (fun hb h=>?_)
  ·refine zZO ?_;refine zAe ?_;obtain⟨hj1,hk1⟩:=pij h;subst hj1 hk1;unfold zA8
   exact⟨_,(Le.rnm [(0,0)] [(6,.s (.bool false))] [(0,.box 167 [.s (.str []),.s (.int .i64 0),.s (.nf),.s (.str [114,111,119]),.s (.int .i64 0),.s (.fn 138),.s (.str [115,121,109]),.s (.int .i64 0),.s (.fn 139),.s (.str [110,117,109]),.s (.int .i64 0),.s (.fn 140),.s (.str [116,101,120,116]),.s (.int .i64 0),.s (.fn 141),.s (.str [102,114,97,99]),.s (.int .i64 2),.s (.fn 138),.s (.str [114,111,111,116]),.s (.int .i64 2),.s (.fn 138),.s (.str [115,117,98]),.s (.int .i64 2),.s (.fn 138),.s (.str [115,117,112]),.s (.int .i64 2),.s (.fn 138),.s (.str [98,111,116,104]),.s (.int .i64 3),.s (.fn 138),.s (.str [97,99,99,101,110,116]),.s (.int .i64 1),.s (.fn 142),.s (.str [102,101,110,99,101]),.s (.int .i64 1),.s (.fn 143),.s (.str [109,97,116,114,105,120]),.s (.int .i64 0),.s (.fn 138),.s (.int .i64 x5)])] 1 ⟨rfl,trivial⟩ ⟨rfl,⟨_,rfl,rfl⟩,trivial⟩),rfl,rfl,rfl,rfl,trivial⟩
  ·refine zAf ?_;refine zAa ?_;refine zYZ [] [34] rfl ?_;intro n8 hn8;obtain rfl:(a2E.length:Int)=n8:=(hn8.trans (congrArg (fun m:Nat=>(m:Int)) (rlen Nd.encs_eq a2E))).symm;show Tri ..;obtain⟨fl,hl,ho1⟩:=zAc h
   refine zDe (fl:=fl) (fun z=>match z with | x11=>⟨ofL [],ofH [(0,.box 167 [.s (.str []),.s (.int .i64 0),.s (.nf),.s (.str [114,111,119]),.s (.int .i64 0),.s (.fn 138),.s (.str [115,121,109]),.s (.int .i64 0),.s (.fn 139),.s (.str [110,117,109]),.s (.int .i64 0),.s (.fn 140),.s (.str [116,101,120,116]),.s (.int .i64 0),.s (.fn 141),.s (.str [102,114,97,99]),.s (.int .i64 2),.s (.fn 138),.s (.str [114,111,111,116]),.s (.int .i64 2),.s (.fn 138),.s (.str [115,117,98]),.s (.int .i64 2),.s (.fn 138),.s (.str [115,117,112]),.s (.int .i64 2),.s (.fn 138),.s (.str [98,111,116,104]),.s (.int .i64 3),.s (.fn 138),.s (.str [97,99,99,101,110,116]),.s (.int .i64 1),.s (.fn 142),.s (.str [102,101,110,99,101]),.s (.int .i64 1),.s (.fn 143),.s (.str [109,97,116,114,105,120]),.s (.int .i64 0),.s (.fn 138),.s (.int .i64 x11)])],1⟩) ?_ (fun x11 σ' hz hle=>?_)
   ·refine zAk (zAD (X:=Nat×Int×Int) (fun y=>match y with | (k,x9,x10)=>⟨ofL [(0,.op 0 0),(1,.s (.pt [.int .i64 a2A,.str a2B,.int .i64 a2F,.sl 4 (Nd.encs a2E)])),(2,.s (.int .i64 a3)),(34,.s (.int .i64 (a2E.length:Int))),(35,.s (.int .i64 x10))],ofH [(0,.box 167 [.s (.str []),.s (.int .i64 0),.s (.nf),.s (.str [114,111,119]),.s (.int .i64 0),.s (.fn 138),.s (.str [115,121,109]),.s (.int .i64 0),.s (.fn 139),.s (.str [110,117,109]),.s (.int .i64 0),.s (.fn 140),.s (.str [116,101,120,116]),.s (.int .i64 0),.s (.fn 141),.s (.str [102,114,97,99]),.s (.int .i64 2),.s (.fn 138),.s (.str [114,111,111,116]),.s (.int .i64 2),.s (.fn 138),.s (.str [115,117,98]),.s (.int .i64 2),.s (.fn 138),.s (.str [115,117,112]),.s (.int .i64 2),.s (.fn 138),.s (.str [98,111,116,104]),.s (.int .i64 3),.s (.fn 138),.s (.str [97,99,99,101,110,116]),.s (.int .i64 1),.s (.fn 142),.s (.str [102,101,110,99,101]),.s (.int .i64 1),.s (.fn 143),.s (.str [109,97,116,114,105,120]),.s (.int .i64 0),.s (.fn 138),.s (.int .i64 x9)])],1⟩) (fun y=>zAY (zBc n) a2A a2E a3 y.1 y.2.1 y.2.2=some fl) (fun y=>y.1) (n,x5,0) hl ?_ ?_)
    ·exact(Le.rnm [(0,0)] _ _ _ ⟨rfl,rfl,rfl,rfl,rfl,trivial⟩ ⟨rfl,⟨_,rfl,rfl⟩,trivial⟩)
    ·rintro⟨k,x9,x10⟩ h;cases k with
     | zero=>cases h
     | succ k =>
      replace h:zAY (zBc n) a2A a2E a3 (k+1) x9 x10=some fl:=h;rw[zAY]at h;refine zZO ?_;refine zAa ?_;refine zAh rfl h (fun hb h=>?_) (fun hb h=>?_)
      ·refine zAf ?_;refine zAa ?_;refine zAk ?_;refine zZO ?_;refine zAa ?_;obtain⟨⟨x12,x13⟩,hj,h⟩:=zAc h
       refine zAo ⟨ofL [(0,.op 0 0),(1,.s (.pt [.int .i64 a2A,.str a2B,.int .i64 a2F,.sl 4 (Nd.encs a2E)])),(2,.s (.int .i64 a3)),(34,.s (.int .i64 (a2E.length:Int))),(35,.s (.int .i64 x10)),(65,.s (.bool x12))],ofH [(0,.box 167 [.s (.str []),.s (.int .i64 0),.s (.nf),.s (.str [114,111,119]),.s (.int .i64 0),.s (.fn 138),.s (.str [115,121,109]),.s (.int .i64 0),.s (.fn 139),.s (.str [110,117,109]),.s (.int .i64 0),.s (.fn 140),.s (.str [116,101,120,116]),.s (.int .i64 0),.s (.fn 141),.s (.str [102,114,97,99]),.s (.int .i64 2),.s (.fn 138),.s (.str [114,111,111,116]),.s (.int .i64 2),.s (.fn 138),.s (.str [115,117,98]),.s (.int .i64 2),.s (.fn 138),.s (.str [115,117,112]),.s (.int .i64 2),.s (.fn 138),.s (.str [98,111,116,104]),.s (.int .i64 3),.s (.fn 138),.s (.str [97,99,99,101,110,116]),.s (.int .i64 1),.s (.fn 142),.s (.str [102,101,110,99,101]),.s (.int .i64 1),.s (.fn 143),.s (.str [109,97,116,114,105,120]),.s (.int .i64 0),.s (.fn 138),.s (.int .i64 x13)])],1⟩ ?_ (fun σ' hle=>?_)
       ·replace h:=hj;refine zBw [] [48,53,60] [25] rfl (by decide +kernel) ?_;obtain⟨⟨e14A,e14B,e14F,e14E⟩,he14,h⟩:=zAc h;refine And.intro (zAt Nd.encs_eq he14).1 ?_;intro r15 hr15;obtain rfl:[.int .i64 e14A,.str e14B,.int .i64 e14F,.sl 4 (Nd.encs e14E)]=r15:=(hr15.trans (zAt Nd.encs_eq he14).2.1).symm;intro b hb;cases b with
        | true =>
         replace h:=zAF hb.symm h;cases h;exact(Le.rnm [(0,0)] _ _ _ ⟨rfl,rfl,rfl,rfl,rfl,rfl,trivial⟩ ⟨rfl,⟨_,rfl,rfl⟩,trivial⟩)
        | false =>
         replace h:=zAE hb.symm h;obtain⟨⟨e16A,e16B,e16F,e16E⟩,he16,h⟩:=zAc h;refine And.intro (zAt Nd.encs_eq he16).1 ?_;intro r17 hr17;obtain rfl:[.int .i64 e16A,.str e16B,.int .i64 e16F,.sl 4 (Nd.encs e16E)]=r17:=(hr17.trans (zAt Nd.encs_eq he16).2.1).symm;obtain⟨⟨y18,⟨_,w19G⟩⟩,hy18,h⟩:=zAc h;refine⟨_,_,⟨_,_,_,_,_,hy18,rfl,rfl,rfl,rfl⟩,?_⟩
         cases h;exact(Le.rnm [(0,0)] _ _ _ ⟨rfl,rfl,rfl,rfl,rfl,rfl,trivial⟩ ⟨rfl,⟨_,rfl,rfl⟩,trivial⟩)
       ·refine zAj hle ?_;refine zAh rfl h (fun hb h=>?_) (fun hb h=>?_)
        ·refine zZO ?_;refine zAe ?_;cases h;replace h:some _=some _:=ho1;obtain⟨hj1,hk1⟩:=pij h;subst hj1 hk1;unfold zA8
         exact⟨_,(Le.rnm [(0,0)] [(6,.s (.bool false))] [(0,.box 167 [.s (.str []),.s (.int .i64 0),.s (.nf),.s (.str [114,111,119]),.s (.int .i64 0),.s (.fn 138),.s (.str [115,121,109]),.s (.int .i64 0),.s (.fn 139),.s (.str [110,117,109]),.s (.int .i64 0),.s (.fn 140),.s (.str [116,101,120,116]),.s (.int .i64 0),.s (.fn 141),.s (.str [102,114,97,99]),.s (.int .i64 2),.s (.fn 138),.s (.str [114,111,111,116]),.s (.int .i64 2),.s (.fn 138),.s (.str [115,117,98]),.s (.int .i64 2),.s (.fn 138),.s (.str [115,117,112]),.s (.int .i64 2),.s (.fn 138),.s (.str [98,111,116,104]),.s (.int .i64 3),.s (.fn 138),.s (.str [97,99,99,101,110,116]),.s (.int .i64 1),.s (.fn 142),.s (.str [102,101,110,99,101]),.s (.int .i64 1),.s (.fn 143),.s (.str [109,97,116,114,105,120]),.s (.int .i64 0),.s (.fn 138),.s (.int .i64 x13)])] 1 ⟨rfl,trivial⟩ ⟨rfl,⟨_,rfl,rfl⟩,trivial⟩),rfl,rfl,rfl,rfl,trivial⟩
        ·refine zAf ?_;refine zZN ?_;refine⟨(k,x13,IntKind.i64.wrap (x10+1)),h,(Le.rnm [(0,0)] _ _ _ ⟨rfl,rfl,rfl,rfl,rfl,trivial⟩ ⟨rfl,⟨_,rfl,rfl⟩,trivial⟩),Nat.lt_succ_self k⟩
      ·refine zAJ ?_;cases h;exact⟨_,rfl,(Le.rnm [(0,0)] _ _ _ trivial ⟨rfl,⟨_,rfl,rfl⟩,trivial⟩)⟩
   ·subst hz;replace h:=ho1;refine zAj hle ?_;refine zZO ?_;refine zAe ?_;obtain⟨hj1,hk1⟩:=pij h;subst hj1 hk1;unfold zA8
    exact⟨_,(Le.rnm [(0,0)] [(6,.s (.bool true))] [(0,.box 167 [.s (.str []),.s (.int .i64 0),.s (.nf),.s (.str [114,111,119]),.s (.int .i64 0),.s (.fn 138),.s (.str [115,121,109]),.s (.int .i64 0),.s (.fn 139),.s (.str [110,117,109]),.s (.int .i64 0),.s (.fn 140),.s (.str [116,101,120,116]),.s (.int .i64 0),.s (.fn 141),.s (.str [102,114,97,99]),.s (.int .i64 2),.s (.fn 138),.s (.str [114,111,111,116]),.s (.int .i64 2),.s (.fn 138),.s (.str [115,117,98]),.s (.int .i64 2),.s (.fn 138),.s (.str [115,117,112]),.s (.int .i64 2),.s (.fn 138),.s (.str [98,111,116,104]),.s (.int .i64 3),.s (.fn 138),.s (.str [97,99,99,101,110,116]),.s (.int .i64 1),.s (.fn 142),.s (.str [102,101,110,99,101]),.s (.int .i64 1),.s (.fn 143),.s (.str [109,97,116,114,105,120]),.s (.int .i64 0),.s (.fn 138),.s (.int .i64 x11)])] 1 ⟨rfl,trivial⟩ ⟨rfl,⟨_,rfl,rfl⟩,trivial⟩),rfl,rfl,rfl,rfl,trivial⟩
theorem zI9:∀ n,PSound Tryz.prog 110 (zBK (zCI n)):=by
 intro n
 induction n with
 | zero=>exact zHb Tryz.call110 (fun xs os x os' h=>by obtain⟨_,_,_,_,_,h,_⟩:=h; cases h) _
 | succ n ih=>exact zIZ n ih
def zGP:zAq:=zBK (fun xs os x os'=>∃ n,zCI n xs os x os')
theorem zKk:PSound Tryz.prog 110 zGP:=zIl zI9 _
def zRW (n:Nat) (xs:List AV) (r:Ret):Prop:=∃ (a0:Nd) (y0:Bool),zBb n a0=some y0/\xs=[.agg ((Nd.enc a0).map .s)]/\r = .val (.s (.bool y0))
def zDw:zAq:=zAw fun xs r=>∃ n,zRW n xs r
theorem zDH:PSound Tryz.prog 73 zDw:=by
 have gok:∀ f s,look? f [(109,zM8),(110,zGP)]=some s->PSound Tryz.prog f s:=zAl (by
  simp only[List.forall_mem_cons]
  exact⟨zRp,zKk,by simp⟩)
 refine zAC tokW Tryz.call73 Tryz.func73 rfl (fun xs r h=>by obtain⟨n,_,_,_,rfl,_⟩:=h; show 1<=14; decide) 14 rfl ?_;rintro xs r w0 G0 ⟨n,⟨n1A,n1B,n1F,n1E⟩,y0,h,rfl,rfl⟩ _;rw[zBb]at h;refine zZO ?_;refine zYZ [6] [] rfl ?_;obtain⟨_,hy2,h⟩:=zAc h;refine⟨_,⟨_,hy2,rfl,rfl⟩,?_⟩
 refine zAa ?_;obtain⟨x3,hj,h⟩:=zAc h;refine zAo ⟨ofL [(2,.s (.bool x3))],fun _=>none,0⟩ ?_ (fun σ' hle=>?_)
 ·replace h:=hj;refine zAb [] [10] rfl ?_;intro b hb;cases b with
  | true =>
   replace h:=zAF hb.symm h;obtain⟨⟨y4,⟨_,w5G⟩⟩,hy4,h⟩:=zAc h;refine⟨_,_,⟨_,_,_,_,_,_,hy4,rfl,rfl,rfl,rfl⟩,?_⟩
   cases h;exact(Le.rnm [] _ [] 0 ⟨rfl,trivial⟩ trivial)
  | false =>
   replace h:=zAE hb.symm h;cases h;exact(Le.rnm [] _ [] 0 ⟨rfl,trivial⟩ trivial)
 ·refine zAj hle ?_;refine zAe ?_;have hy:=osi h;subst hy;exact fin0 rfl rfl
def zMr (n:Nat) (xs:List AV) (r:Ret):Prop:=∃ (a0:List Nd) (y0:Bool),zCF n a0=some y0/\xs=[.s (.sl 4 (Nd.encs a0))]/\r = .val (.s (.bool y0))
def zFy:zAq:=zAw fun xs r=>∃ n,zMr n xs r
theorem zHG:PSound Tryz.prog 176 zFy:=by
 have gok:∀ f s,look? f [(73,zDw)]=some s->PSound Tryz.prog f s:=zAl (by
  simp only[List.forall_mem_cons]
  exact⟨zDH,by simp⟩)
 refine zAC tokW Tryz.call176 Tryz.func176 rfl (fun xs r h=>by obtain⟨n,_,_,_,rfl,_⟩:=h; show 1<=6; decide) 6 rfl ?_;rintro xs r w0 G0 ⟨n,l1,y0,h,rfl,rfl⟩ _;rw[zCF]at h;refine zZO ?_;refine zZO ?_;obtain⟨y2,hy2,h⟩:=zAc h;refine⟨_,⟨_,_,_,hy2,rfl,rfl⟩,?_⟩
 refine zAe ?_;have hy:=osi h;subst hy;exact fin0 rfl rfl
def zRV (xs:List AV) (r:Ret):Prop:=∃ (a0:Nd) (y0:Int),zEd a0=some y0/\xs=[.agg ((Nd.enc a0).map .s)]/\r = .val (.s (.int .i64 y0))
def zHs:zAq:=zAw fun xs r=>zRV xs r
theorem zIH:PSound Tryz.prog 195 zHs:=by
 have gok:=@gok0 Tryz.prog;refine zAC tokW Tryz.call195 Tryz.func195 rfl (fun xs r h=>by obtain⟨_,_,_,rfl,_⟩:=h; show 1<=9; decide) 9 rfl ?_;rintro xs r w0 G0 ⟨⟨n1A,n1B,n1F,n1E⟩,y0,h,rfl,rfl⟩ _;rw[zEd]at h;refine zZO ?_;refine zAa ?_;refine zZO ?_;refine zAh rfl h (fun hb h=>?_) (fun hb h=>?_)
 ·refine zZO ?_;refine zAe ?_;have hy:=osi h;subst hy;exact fin0 rfl rfl
 ·refine zAf ?_;refine zYZ [] [8] rfl ?_;intro n2 hn2;obtain rfl:(n1E.length:Int)=n2:=(hn2.trans (congrArg (fun m:Nat=>(m:Int)) (rlen Nd.encs_eq n1E))).symm;refine zAe ?_;have hy:=osi h;subst hy;exact fin0 rfl rfl
def zGA (p:List UInt8):List S:=[.str p]
def zFw (n:Nat) (xs:List AV) (r:Ret):Prop:=∃ (a0:Nd) (a1:Nd) (y0:Bool),zBO n a0 a1=some y0/\xs=[.agg ((Nd.enc a0).map .s),.agg ((Nd.enc a1).map .s)]/\r = .val (.s (.bool y0))
def zDo (n:Nat) (xs:List AV) (r:Ret):Prop:=∃ (a0:List Nd) (a1:List Nd) (y0:Bool),zCe n a0 a1=some y0/\xs=[.s (.sl 4 (Nd.encs a0)),.s (.sl 4 (Nd.encs a1))]/\r = .val (.s (.bool y0))
theorem zPW (n:Nat) (ih_r09_Equal:PSound Tryz.prog 16 (zAw (zFw n))) (ih_r09_SameItems:PSound Tryz.prog 38 (zAw (zDo n))):PSound Tryz.prog 16 (zAw (zFw (n+1))):=by
 have gok:∀ f s,look? f [(38,zAw (zDo n))]=some s->PSound Tryz.prog f s:=zAl (by
  simp only[List.forall_mem_cons]
  exact⟨ih_r09_SameItems,by simp⟩)
 refine zAC tokW Tryz.call16 Tryz.func16 rfl (fun xs r h=>by obtain⟨_,_,_,_,rfl,_⟩:=h; show 2<=31; decide) 31 rfl ?_;rintro xs r w0 G0 ⟨⟨a1A,a1B,a1F,a1E⟩,⟨b2A,b2B,b2F,b2E⟩,y0,h,rfl,rfl⟩ _;rw[zBO]at h;refine zZO ?_;refine zAa ?_;obtain⟨x3,hj,h⟩:=zAc h;refine zAo ⟨ofL [(4,.s (.bool x3))],fun _=>none,0⟩ ?_ (fun σ' hle=>?_)
 ·replace h:=hj;refine zAb [] [10,17,24] rfl ?_;intro b hb;cases b with
  | true =>
   replace h:=zAF hb.symm h;intro b hb;cases b with
   | true =>
    replace h:=zAF hb.symm h;intro b hb;cases b with
    | true =>
     replace h:=zAF hb.symm h;obtain⟨y4,hy4,h⟩:=zAc h;refine⟨_,⟨_,_,_,hy4,rfl,rfl⟩,?_⟩
     cases h;exact(Le.forget _ ⟨rfl,trivial⟩)
    | false =>
     replace h:=zAE hb.symm h;cases h;exact(Le.forget _ ⟨rfl,trivial⟩)
   | false =>
    replace h:=zAE hb.symm h;intro b hb;subst hb;cases h;exact(Le.forget _ ⟨rfl,trivial⟩)
  | false =>
   replace h:=zAE hb.symm h;intro b hb;subst hb;intro b hb;subst hb;cases h;exact(Le.forget _ ⟨rfl,trivial⟩)
 ·refine zAj hle ?_;refine zAe ?_;have hy:=osi h;subst hy;exact fin0 rfl rfl
theorem zMi (n:Nat) (ih_r09_Equal:PSound Tryz.prog 16 (zAw (zFw n))) (ih_r09_SameItems:PSound Tryz.prog 38 (zAw (zDo n))):PSound Tryz.prog 38 (zAw (zDo (n+1))):=by
 have gok:∀ f s,look? f [(16,zAw (zFw n))]=some s->PSound Tryz.prog f s:=zAl (by
  simp only[List.forall_mem_cons]
  exact⟨ih_r09_Equal,by simp⟩)
 refine zAC tokW Tryz.call38 Tryz.func38 rfl (fun xs r h=>by obtain⟨_,_,_,_,rfl,_⟩:=h; show 2<=27; decide) 27 rfl ?_;rintro xs r w0 G0 ⟨a1,b2,y0,h,rfl,rfl⟩ _;rw[zCe]at h;refine zZO ?_;refine zAa ?_;refine zYZ [] [7,9] rfl ?_;intro n3 hn3;obtain rfl:(a1.length:Int)=n3:=(hn3.trans (congrArg (fun m:Nat=>(m:Int)) (rlen Nd.encs_eq a1))).symm;intro n4 hn4;obtain rfl:(b2.length:Int)=n4:=(hn4.trans (congrArg (fun m:Nat=>(m:Int)) (rlen Nd.encs_eq b2))).symm;refine zAh rfl h (fun hb h=>?_) (fun hb h=>?_)
 ·refine zZO ?_;refine zAe ?_;have hy:=osi h;subst hy;exact fin0 rfl rfl
 ·refine zAf ?_;refine zAa ?_;refine zZO ?_;show Tri ..;obtain⟨fl,hl,ho1⟩:=zAc h;refine zDe (fl:=fl) (fun z=>match z with | _=>⟨ofL [],fun _=>none,0⟩) ?_ (fun z σ' hz hle=>?_)
  ·refine zAk (zAD (X:=Nat×Int) (fun y=>match y with | (k,i5)=>⟨ofL [(0,.s (.sl 4 (Nd.encs a1))),(1,.s (.sl 4 (Nd.encs b2))),(5,.s (.int .i64 i5))],fun _=>none,0⟩) (fun y=>zBP (zBO n) a1 b2 y.1 y.2=some fl) (fun y=>y.1) (n,0) hl ?_ ?_)
   ·exact(Le.forget _ ⟨rfl,rfl,rfl,trivial⟩)
   ·rintro⟨k,i5⟩ h;cases k with
    | zero=>cases h
    | succ k =>
     replace h:zBP (zBO n) a1 b2 (k+1) i5=some fl:=h;rw[zBP]at h;refine zAa ?_;refine zYZ [] [13] rfl ?_;intro n6 hn6;obtain rfl:(a1.length:Int)=n6:=(hn6.trans (congrArg (fun m:Nat=>(m:Int)) (rlen Nd.encs_eq a1))).symm;refine zAh rfl h (fun hb h=>?_) (fun hb h=>?_)
     ·refine zAf ?_;refine zAa ?_;refine zAk ?_;refine zAa ?_;refine zBw [] [19,23] [] rfl (by decide +kernel) ?_;obtain⟨⟨e7A,e7B,e7F,e7E⟩,he7,h⟩:=zAc h;refine And.intro (zAt Nd.encs_eq he7).1 ?_;intro r8 hr8;obtain rfl:[.int .i64 e7A,.str e7B,.int .i64 e7F,.sl 4 (Nd.encs e7E)]=r8:=(hr8.trans (zAt Nd.encs_eq he7).2.1).symm;obtain⟨⟨e9A,e9B,e9F,e9E⟩,he9,h⟩:=zAc h;refine And.intro (zAt Nd.encs_eq he9).1 ?_;intro r10 hr10
      obtain rfl:[.int .i64 e9A,.str e9B,.int .i64 e9F,.sl 4 (Nd.encs e9E)]=r10:=(hr10.trans (zAt Nd.encs_eq he9).2.1).symm;obtain⟨y11,hy11,h⟩:=zAc h;refine⟨_,⟨_,_,_,hy11,rfl,rfl⟩,?_⟩
      refine zAh rfl h (fun hb h=>?_) (fun hb h=>?_)
      ·refine zZO ?_;refine zAe ?_;cases h;replace h:some _=some _:=ho1;have hy:=osi h;subst hy;exact fin0 rfl rfl
      ·refine zAf ?_;refine zZN ?_;refine⟨(k,IntKind.i64.wrap (i5+1)),h,(Le.forget _ ⟨rfl,rfl,rfl,trivial⟩),Nat.lt_succ_self k⟩
     ·refine zAJ ?_;cases h;exact⟨_,rfl,(Le.forget _ trivial)⟩
  ·subst hz;obtain _:=z;replace h:=ho1;refine zAj hle ?_;refine zZO ?_;refine zAe ?_;have hy:=osi h;subst hy;exact fin0 rfl rfl
theorem zKB:∀ n,PSound Tryz.prog 16 (zAw (zFw n))/\PSound Tryz.prog 38 (zAw (zDo n)):=by
 intro n
 induction n with
 | zero =>
  refine⟨?_,?_⟩
  ·exact zEh Tryz.call16 (fun xs r h=>by obtain⟨_,_,_,h,_⟩:=h; rw[zBO]at h; cases h)
  ·exact zEh Tryz.call38 (fun xs r h=>by obtain⟨_,_,_,h,_⟩:=h; rw[zCe]at h; cases h)
 | succ n ih =>
  obtain⟨ih_r09_Equal,ih_r09_SameItems⟩:=ih;exact⟨zPW n ih_r09_Equal ih_r09_SameItems,zMi n ih_r09_Equal ih_r09_SameItems⟩
def zN7:zAq:=zAw fun xs r=>∃ n,zFw n xs r
theorem zSP:PSound Tryz.prog 16 zN7:=zE2 (fun n=>(zKB n).1)
def zI8:zAq:=zAw fun xs r=>∃ n,zDo n xs r
theorem zNF:PSound Tryz.prog 38 zI8:=zE2 (fun n=>(zKB n).2)
def zUV (n:Nat) (xs:List AV) (r:Ret):Prop:=∃ (a0:Nd) (a1:List Int) (y0:Nd) (y1:Int),zIe n a0 a1=some (y0,y1)/\xs=[.agg ((Nd.enc a0).map .s),.s (.sl 1 (a1.map (irow .i64)))]/\r = .val (.tup [.agg ((Nd.enc y0).map .s),.s (.int .i64 y1)])
def zPX:zAq:=zAw fun xs r=>∃ n,zUV n xs r
theorem zTL:PSound Tryz.prog 146 zPX:=by
 have gok:∀ f s,look? f [(73,zDw),(178,zN6),(53,zGL)]=some s->PSound Tryz.prog f s:=zAl (by
  simp only[List.forall_mem_cons]
  exact⟨zDH,zSO,zHF,by simp⟩)
 refine zAC tokW Tryz.call146 Tryz.func146 rfl (fun xs r h=>by obtain⟨n,_,_,_,_,_,rfl,_⟩:=h; show 2<=_; decide) _ rfl ?_;rintro xs r w0 G0 ⟨f,⟨k,t,c,ks⟩,p,y0,y1,h,rfl,rfl⟩ _;rw[zIe]at h;obtain⟨b,hb,h⟩:=zAc h;refine zYZ [4] [] rfl ?_;refine zAa ?_;refine zZO ?_;refine⟨_,⟨f,_,_,hb,rfl,rfl⟩,?_⟩
 show Tri ..;cases b with
 | false =>
  refine zA0 rfl (fun _=>?_) (fun h=>by cases h)
  refine zZO ?_;refine zAe ?_;obtain⟨rfl,rfl⟩:=Prod.mk.inj (Option.some.inj h)
  unfold zE4;exact⟨_,Le.refl _ _,rfl,rfl⟩
 | true =>
  refine zA0 rfl (fun h=>by cases h) (fun _=>?_)
  refine zAf ?_;show Tri ..;replace h:(match zB1 (.mk k t c ks) p with | some r=>(zB2 r).bind fun r=>some (r,0) | none=>some (zD6,8))=some (y0,y1):=h;refine zZO ?_;cases hf:zB1 (.mk k t c ks) p with
  | none =>
   rw[hf]at h;refine⟨.val (.tup [.junk,.s (.bool false)]),⟨.mk k t c ks,p,rfl,by rw[hf]; rfl⟩,?_⟩
   refine zAa ?_;refine zZO ?_;refine zA0 rfl (fun _=>?_) (fun h=>by cases h)
   refine zZO ?_;refine zAe ?_;obtain⟨rfl,rfl⟩:=Prod.mk.inj (Option.some.inj h)
   unfold zE4;exact⟨_,Le.refl _ _,rfl,rfl⟩
  | some z =>
   obtain⟨k2,t2,c2,ks2⟩:=z;rw[hf]at h;refine⟨.val (.tup [.s (.pt (Nd.enc (.mk k2 t2 c2 ks2))),.s (.bool true)]),⟨.mk k t c ks,p,rfl,by rw[hf]; rfl⟩,?_⟩
   refine zAa ?_;refine zZO ?_;refine zA0 rfl (fun h=>by cases h) (fun _=>?_)
   refine zAf ?_;show Tri ..;obtain⟨⟨k3,t3,c3,ks3⟩,hd,h⟩:=zAc h;obtain⟨rfl,rfl⟩:=Prod.mk.inj (Option.some.inj h)
   refine zZO ?_;refine⟨_,⟨_,_,hd,rfl,rfl⟩,?_⟩
   refine zAe ?_;unfold zE4;exact⟨_,Le.refl _ _,rfl,rfl⟩
theorem zWQ {T:Nat->Option TI}{own:Bool}{o:Oper}{σ:St}{e t e0:Nat}{args:Array Operand}{ts:Array Nat}{y:Operand}{v:AV}{ks:List Nd}{keys:List Nat} (hv:VAt σ.hp e v ks keys) (ho:o.op = .call { callee:=.builtin .len,args:=args,argTypes:=ts }) (ha:args.toList=[y]) (hts:ts.toList=[t]) (ht:tk T t = .slice e0)
  (hy:opd T σ.env t y=v):step1 T own o σ=some (none,.s (.int .i64 (ks.length:Int)),σ):=by
 rcases hv with ⟨rfl,rfl,_⟩ | ⟨q,rows,keys',w,rfl,hq,hlen,_,_⟩
 ·have e1:zDd T own o σ.env=some (none,.s (.int .i64 0)) :=(by simp only[zDd,ho,ha,hts,pLen,ht,hy]; rfl);simp only[step1,e1]; rfl
 ·rw[zO6 ho ha hts ht hy hq,hlen]
theorem zWA {k c:Int}{tx:List UInt8}{ks:List Nd}{k2 c2:Int}{tx2:List UInt8}{ks2:List Nd}{z r:Nd}{i s:Int}{p:List Int} (hx:ks[i.toNat]? = some (.mk k2 tx2 c2 ks2)) (hz:ks2[s.toNat]? = some z) :
  putL (.mk k tx c ks) (i::s::p) r = .mk k tx c (ks.set i.toNat (.mk k2 tx2 c2 (ks2.set s.toNat (putL z p r)))):=by
 rw[putL,hx]
 simp only[hz]
theorem Hole.here {hp:Nat->Option Ob}{e:Nat}{p p1:AV}{y:Nd}{keys:List Nat}{F:Nd->Nd} (hn:(zBE p::keys).Nodup) (h:Hole hp e p keys p1 y F):∃ keys0 w0,At hp e p1 y keys0 [] w0/\isL 4 p1/\(zBE p1::keys0).Nodup:=by
 obtain⟨keys0,rest,w0,a1,a2,a3,a4,_⟩:=h;obtain⟨hb,hnk⟩:=List.nodup_cons.1 hn;obtain⟨n0,n1,n01⟩:=List.nodup_append.1 (a1.nodup_iff.1 hnk)
 refine⟨keys0,w0,a2,a3,List.nodup_cons.2 ⟨fun hm=>?_,n0⟩⟩
 rcases a4 with rfl | a4
 ·exact hb (a1.mem_iff.2 (List.mem_append_left _ hm))
 ·exact n01 _ hm _ a4 rfl
theorem Hole.step {hp:Nat->Option Ob}{e q i:Nat}{p p1:AV}{k c:Int}{tx:List UInt8}{ks:List Nd}{x:Nd}{keys:List Nat}{F:Nd->Nd} (hn:(zBE p::keys).Nodup) (h:Hole hp e p keys p1 (.mk k tx c ks) F) (hx:ks[i]? = some x) (hc:zAX hp p1=some (zBs k tx c (.orow q))) :
  Hole hp e p keys (.rp q 4 i 0) x (fun r=>F (.mk k tx c (ks.set i r))) :=
 Hole.trans hn h fun keys0 w0 ha hl hn0=>by
  obtain⟨b,rows,h1,_,_,h4⟩:=Hole.kid ha hl hn0 hx;rw[hc]at h1;have:q=b :=(by simpa [zBs] using h1);rw[this]; exact h4
theorem zXz {t r:Nd}:putL t [] r=r:=by cases t; rfl
def zRQ (xs:List AV) (hp:Nat->Option Ob) (n:Nat) (Φ:AV->(Nat->Option Ob)->Nat->Prop):Prop :=
 ∃ (p:AV) (t:Nd) (path:List Int) (keys:List Nat) (w:Nat),xs=[p,.s (.sl 1 (path.map (irow .i64)))]/\isL 4 p/\At hp 24 p t keys [] w/\(zBE p::keys).Nodup /\
  (zB1 t path=none->Φ (.tup [.junk,.s (.bool false)]) hp n)/\∀ p1 y F,zB1 t path=some y->Hole hp 24 p keys p1 y F->(∀ r,putL t path r=F r)->Φ (.tup [p1,.s (.bool true)]) hp n
def zNW:zAq:=zSv zRQ
set_option maxHeartbeats 600000 in
theorem zQ5:PSound Tryz.prog 178 zNW:=by
 have gok:=@gok0 Tryz.prog;refine zQg tokW Tryz.call178 Tryz.func178 rfl (fun xs hp n Φ h=>by obtain⟨_,_,_,_,_,rfl,_⟩:=h; show 2<=_; decide) _ rfl ?_;rintro xs hp n Φ w0 G0 B0 ⟨p0,t0,path0,keys,w,rfl,hl0,hat,hnd,hΦ1,hΦ2⟩ _ hhp;refine zZO ?_;refine zAa ?_;refine zAk (zAD (X:=AV×Nd×List Int×(Nd->Nd)) (fun x=>match x with | (p,y,q,F)=>⟨ofL [(0,p),(1,.s (.sl 1 (q.map (irow .i64)))),(4,.s .np),(5,.s (.bool false))],hp,n⟩)
  (fun x=>match x with | (p,y,q,F)=>zB1 t0 path0=zB1 y q/\Hole hp 24 p0 keys p y F/\∀ r,putL t0 path0 r=F (putL y q r)) (fun x=>match x with | (p,y,q,F)=>q.length) (p0,t0,path0,id) ⟨rfl,Hole.refl hat hl0,fun _=>rfl⟩ (Le.forget [(0,p0),(1,.s (.sl 1 (path0.map (irow .i64)))),(4,.s .np),(5,.s (.bool false))] ⟨rfl,rfl,rfl,rfl,trivial⟩) ?_)
 rintro⟨p,⟨k,t,c,ks⟩,q,F⟩ hI;have hI:zB1 t0 path0=zB1 (.mk k t c ks) q/\Hole hp 24 p0 keys p (.mk k t c ks) F/\∀ r,putL t0 path0 r=F (putL (.mk k t c ks) q r):=hI
 obtain⟨hI1,hI2,hI3⟩:=hI;have hlp:isL 4 p :=(by obtain⟨_,_,_,_,_,h,_⟩:=hI2; exact h);refine zAa ?_;refine zZO ?_;refine zA0 rfl (fun hb=>?_) (fun hb=>?_)
 ·refine zAf ?_;show Tri ..
  match q,hI1,hI3,hb with
  | [],_,_,hb=>cases hb
  | [_],_,_,hb=>cases hb
  | i::s::q,hI1,hI3,hb =>
   refine zAj (Le.forgetH [(0,p),(1,.s (.sl 1 ((i::s::q).map (irow .i64)))),(4,.s .np),(5,.s (.bool false))] hp n ⟨rfl,rfl,rfl,rfl,trivial⟩ (fun _=>rfl) rfl) ?_;refine zAa ?_;refine zAk ?_;refine zAa ?_;refine zPh (by exact tokW) (by exact gok) (by exact mixed) [] [] [1,2,4,5] rfl (by decide +kernel) ?_;refine And.intro (show(0:Int)<=0/\(0:Int)<((((i::s::q).map (irow .i64)).length:Nat):Int) by simp only[List.map_cons,List.length_cons]; omega) ?_;refine And.intro (show(0:Int)<=1/\(1:Int)<((((i::s::q).map (irow .i64)).length:Nat):Int) by simp only[List.map_cons,List.length_cons]; omega) ?_;show Tri ..
   refine zAj (Le.forgetH [(0,p),(1,.s (.sl 1 ((i::s::q).map (irow .i64)))),(4,.s .np),(5,.s (.bool false)),(6,.s (.int .i64 i)),(7,.s (.int .i64 s))] hp n ⟨rfl,rfl,rfl,rfl,rfl,rfl,trivial⟩ (fun _=>rfl) rfl) ?_;refine zAa ?_;refine zAa ?_
   by_cases hi:i<0
   ·refine zAb [] [21] rfl ?_;intro b hb;obtain rfl:true=b:=(hb.trans (decide_eq_true hi)).symm;refine zA0 rfl (fun _=>?_) (fun h=>by cases h)
    refine zZO ?_;refine zAe ?_;unfold zKq;exact⟨_,Le.forget [(5,.s (.bool false))] ⟨rfl,trivial⟩,_,rfl,hΦ1 (hI1.trans (zIu (fun h=>by omega)))⟩
   obtain⟨keys1,w1,hat1,_,hnd1⟩:=hI2.here hnd;obtain⟨v,hcv,hv⟩:=hat1.full;refine zZN ?_;refine zAd rfl rfl rfl rfl rfl rfl trivial ?_;refine zAd rfl rfl rfl rfl rfl rfl trivial ?_;rw[show decide (i<0)=false from decide_eq_false hi]
   refine zAd rfl rfl rfl rfl rfl rfl trivial ?_;refine zD2 (g:=22) rfl rfl rfl ?_;refine zAd rfl rfl rfl rfl rfl rfl trivial ?_;refine zD2 (g:=22) rfl rfl rfl ?_;refine zAd rfl rfl rfl rfl rfl (zDZ hlp (.inr rfl) rfl rfl) trivial ?_;refine zD2 (g:=22) rfl rfl rfl ?_;refine zAd rfl rfl rfl rfl rfl (zFK hlp rfl rfl) trivial ?_;refine zD2 (g:=22) rfl rfl rfl ?_;refine zAd rfl rfl rfl rfl rfl (zGa hlp rfl rfl rfl rfl rfl rfl rfl) trivial ?_;refine zD2 (g:=22) rfl rfl rfl ?_;refine zED (off:=3) (sz:=4) rfl rfl rfl rfl rfl rfl rfl hlp rfl hcv rfl ?_;refine zD2 (g:=22) rfl rfl rfl ?_
   refine zAd rfl rfl rfl rfl rfl (zWQ hv rfl rfl rfl rfl rfl) trivial ?_;refine zD2 (g:=22) rfl rfl rfl ?_;refine zAd rfl rfl rfl rfl rfl rfl trivial ?_
   by_cases hi2:(ks.length:Int)<=i
   ·rw[show decide ((ks.length:Int)<=i)=true from decide_eq_true hi2]
    refine zAd rfl rfl rfl rfl rfl rfl trivial ?_;refine zA0 rfl (fun _=>?_) (fun h=>by cases h)
    refine zZO ?_;refine zAe ?_;unfold zKq;exact⟨_,Le.forget [(5,.s (.bool false))] ⟨rfl,trivial⟩,_,rfl,hΦ1 (hI1.trans (zIu (n:=.mk k t c ks) (fun h=>by have:i<(ks.length:Int):=h.2; omega)))⟩
   rw[show decide ((ks.length:Int)<=i)=false from decide_eq_false hi2]
   refine zAd rfl rfl rfl rfl rfl rfl trivial ?_;refine zA0 rfl (fun h=>by cases h) (fun _=>?_)
   refine zAf ?_;show Tri ..;have hi0:i.toNat<ks.length :=(by omega);obtain⟨⟨k2,t2,c2,ks2⟩,hx⟩:∃ x,ks[i.toNat]? = some x:=⟨_,List.getElem?_eq_getElem hi0⟩
   obtain⟨b1,rows1,hc1,hr1,hlen1,hole1⟩:=Hole.kid hat1 hlp hnd1 hx;refine zAj (Le.forgetH [(0,p),(1,.s (.sl 1 ((i::s::q).map (irow .i64)))),(4,.s .np),(5,.s (.bool false)),(6,.s (.int .i64 i)),(7,.s (.int .i64 s))] hp n ⟨rfl,rfl,rfl,rfl,rfl,rfl,trivial⟩ (fun _=>rfl) rfl) ?_;refine zZO ?_;refine zAd rfl rfl rfl rfl rfl (zDZ hlp (.inr rfl) rfl rfl) trivial ?_;refine zAd rfl rfl rfl rfl rfl (zFK hlp rfl rfl) trivial ?_;refine zAd rfl rfl rfl rfl rfl (zGa hlp rfl rfl rfl rfl rfl rfl rfl) trivial ?_;refine zED (off:=3) (sz:=4) rfl rfl rfl rfl rfl rfl rfl hlp rfl hc1 rfl ?_
   refine zAd rfl rfl rfl rfl rfl rfl trivial ?_;refine zAd rfl rfl rfl rfl rfl (zRG rfl rfl rfl rfl rfl rfl hr1 rfl) ⟨by omega,by rw[hlen1]; omega⟩ ?_;refine zAd rfl rfl rfl rfl rfl rfl trivial ?_;refine zAj (Le.forgetH [(0,p),(1,.s (.sl 1 ((i::s::q).map (irow .i64)))),(4,.s .np),(5,.s (.bool false)),(6,.s (.int .i64 i)),(7,.s (.int .i64 s)),(8,.rp b1 4 i.toNat 0)] hp n ⟨rfl,rfl,rfl,rfl,rfl,rfl,rfl,trivial⟩ (fun _=>rfl) rfl) ?_;refine zAa ?_;refine zAa ?_
   by_cases hs:s<0
   ·refine zAb [] [38] rfl ?_;intro b hb;obtain rfl:true=b:=(hb.trans (decide_eq_true hs)).symm;refine zA0 rfl (fun _=>?_) (fun h=>by cases h)
    refine zZO ?_;refine zAe ?_;unfold zKq;exact⟨_,Le.forget [(5,.s (.bool false))] ⟨rfl,trivial⟩,_,rfl,hΦ1 (hI1.trans (zIv (n:=.mk k t c ks) (by omega) hx (fun h=>by omega)))⟩
   have hl2:isL 4 (.rp b1 4 i.toNat 0):=.inl ⟨b1,i.toNat,rfl⟩
   have hI4:=Hole.step hnd hI2 hx hc1;obtain⟨keys2,w2,hat2,_,hnd2⟩:=hI4.here hnd;obtain⟨v2,hcv2,hv2⟩:=hat2.full;refine zZN ?_;refine zAd rfl rfl rfl rfl rfl rfl trivial ?_;refine zAd rfl rfl rfl rfl rfl rfl trivial ?_;rw[show decide (s<0)=false from decide_eq_false hs]
   refine zAd rfl rfl rfl rfl rfl rfl trivial ?_;refine zD2 (g:=39) rfl rfl rfl ?_;refine zAd rfl rfl rfl rfl rfl rfl trivial ?_;refine zD2 (g:=39) rfl rfl rfl ?_;refine zAd rfl rfl rfl rfl rfl (zDZ hl2 (.inr rfl) rfl rfl) trivial ?_;refine zD2 (g:=39) rfl rfl rfl ?_;refine zAd rfl rfl rfl rfl rfl (zFK hl2 rfl rfl) trivial ?_;refine zD2 (g:=39) rfl rfl rfl ?_;refine zAd rfl rfl rfl rfl rfl (zGa hl2 rfl rfl rfl rfl rfl rfl rfl) trivial ?_;refine zD2 (g:=39) rfl rfl rfl ?_;refine zED (off:=3) (sz:=4) rfl rfl rfl rfl rfl rfl rfl hl2 rfl hcv2 rfl ?_;refine zD2 (g:=39) rfl rfl rfl ?_
   refine zAd rfl rfl rfl rfl rfl (zWQ hv2 rfl rfl rfl rfl rfl) trivial ?_;refine zD2 (g:=39) rfl rfl rfl ?_;refine zAd rfl rfl rfl rfl rfl rfl trivial ?_
   by_cases hs2:(ks2.length:Int)<=s
   ·rw[show decide ((ks2.length:Int)<=s)=true from decide_eq_true hs2]
    refine zAd rfl rfl rfl rfl rfl rfl trivial ?_;refine zA0 rfl (fun _=>?_) (fun h=>by cases h)
    refine zZO ?_;refine zAe ?_;unfold zKq;exact⟨_,Le.forget [(5,.s (.bool false))] ⟨rfl,trivial⟩,_,rfl,hΦ1 (hI1.trans (zIv (n:=.mk k t c ks) (by omega) hx (fun h=>by have:s<(ks2.length:Int):=h.2; omega)))⟩
   rw[show decide ((ks2.length:Int)<=s)=false from decide_eq_false hs2]
   refine zAd rfl rfl rfl rfl rfl rfl trivial ?_;refine zA0 rfl (fun h=>by cases h) (fun _=>?_)
   refine zAf ?_;show Tri ..;have hs0:s.toNat<ks2.length :=(by omega);obtain⟨z,hz⟩:∃ z,ks2[s.toNat]? = some z:=⟨_,List.getElem?_eq_getElem hs0⟩
   obtain⟨b2,rows2,hc2,hr2,hlen2,hole2⟩:=Hole.kid hat2 hl2 hnd2 hz;refine zAj (Le.forgetH [(0,p),(1,.s (.sl 1 ((i::s::q).map (irow .i64)))),(4,.s .np),(5,.s (.bool false)),(6,.s (.int .i64 i)),(7,.s (.int .i64 s)),(8,.rp b1 4 i.toNat 0)] hp n ⟨rfl,rfl,rfl,rfl,rfl,rfl,rfl,trivial⟩ (fun _=>rfl) rfl) ?_;refine zZN ?_;refine zAd rfl rfl rfl rfl rfl (zDZ hl2 (.inr rfl) rfl rfl) trivial ?_;refine zAd rfl rfl rfl rfl rfl (zFK hl2 rfl rfl) trivial ?_;refine zAd rfl rfl rfl rfl rfl (zGa hl2 rfl rfl rfl rfl rfl rfl rfl) trivial ?_;refine zED (off:=3) (sz:=4) rfl rfl rfl rfl rfl rfl rfl hl2 rfl hc2 rfl ?_
   refine zAd rfl rfl rfl rfl rfl rfl trivial ?_;refine zAd rfl rfl rfl rfl rfl (zRG rfl rfl rfl rfl rfl rfl hr2 rfl) ⟨by omega,by rw[hlen2]; omega⟩ ?_;refine zAd rfl rfl rfl rfl rfl rfl trivial ?_;refine zAj (Le.forgetH [(0,.rp b2 4 s.toNat 0),(1,.s (.sl 1 ((i::s::q).map (irow .i64)))),(4,.s .np),(5,.s (.bool false))] hp n ⟨rfl,rfl,rfl,rfl,trivial⟩ (fun _=>rfl) rfl) ?_;refine zZN ?_;have h2l:(2:Int)<=((((i::s::q).map (irow .i64)).length:Nat):Int) :=(by simp only[List.map_cons,List.length_cons]; omega);refine zAd rfl rfl rfl rfl rfl rfl trivial ?_
   refine zAd rfl rfl rfl rfl rfl rfl ⟨by decide,h2l,Int.le_refl _⟩ ?_;refine zAd rfl rfl rfl rfl rfl rfl trivial ?_;have hI5:=Hole.step hnd hI4 hz hc2;refine⟨(.rp b2 4 s.toNat 0,z,q,fun r=>F (.mk k t c (ks.set i.toNat (.mk k2 t2 c2 (ks2.set s.toNat r))))),⟨?_,hI5,?_⟩,Le.forgetH [(0,.rp b2 4 s.toNat 0),(1,.s (.sl 1 (q.map (irow .i64)))),(4,.s .np),(5,.s (.bool false))] hp n ⟨rfl,congrArg (fun z=>AV.s (.sl 1 z)) ?_,rfl,rfl,trivial⟩ (fun _=>rfl) rfl,?_⟩
   ·exact hI1.trans (zQd (n:=.mk k t c ks) (by omega) hx (by omega) hz)
   ·intro r;exact(hI3 r).trans (congrArg F (zWA hx hz))
   ·show List.drop 2 (List.take ((((i::s::q).map (irow .i64)).length:Nat):Int).toNat ((i::s::q).map (irow .i64)))=_;rw[Int.toNat_natCast,List.take_length]; rfl
   ·show q.length<q.length+1+1
    omega
 ·refine zAJ ?_;refine zAj (Le.forgetH [(0,p),(1,.s (.sl 1 (q.map (irow .i64)))),(4,.s .np),(5,.s (.bool false))] hp n ⟨rfl,rfl,rfl,rfl,trivial⟩ (fun _=>rfl) rfl) ?_;refine zZO ?_;refine zAd rfl rfl rfl rfl rfl (zDZ hlp (.inr rfl) rfl rfl) trivial ?_
  match q,hI1,hI3,hb with
  | [],hI1,hI3,_ =>
   refine zAd rfl rfl rfl rfl rfl rfl trivial ?_;refine zAd rfl rfl rfl rfl rfl rfl trivial ?_;refine zAd rfl rfl rfl rfl rfl rfl trivial ?_;refine zAd rfl rfl rfl rfl rfl (zDZ hlp (.inl rfl) rfl rfl) trivial ?_;refine zAd rfl rfl rfl rfl rfl rfl trivial ?_;refine zAe ?_;have hd:AV.deep p=p:=by rcases hlp with ⟨_,_,rfl⟩ | ⟨_,rfl⟩ <;> rfl
   unfold zKq;refine⟨_,Le.forget [(4,p),(5,.s (.bool true))] ⟨rfl,rfl,trivial⟩,.tup [p,.s (.bool true)],?_,hΦ2 p (.mk k t c ks) F (hI1.trans rfl) hI2 fun r=>(hI3 r).trans (by rw[zXz])⟩
   show some (AV.tup [AV.deep p,.s (.bool true)])=_;rw[hd]
  | [i],hI1,_,_ =>
   refine zAd rfl rfl rfl rfl rfl rfl trivial ?_;refine zAd rfl rfl rfl rfl rfl rfl trivial ?_;refine zAd rfl rfl rfl rfl rfl rfl trivial ?_;refine zAd rfl rfl rfl rfl rfl (zDZ hlp (.inl rfl) rfl rfl) trivial ?_;refine zAd rfl rfl rfl rfl rfl rfl trivial ?_;refine zAe ?_;unfold zKq;exact⟨_,Le.forget [(5,.s (.bool false))] ⟨rfl,trivial⟩,_,rfl,hΦ1 (hI1.trans rfl)⟩
  | i::s::p,_,_,hb=>exact absurd (of_decide_eq_false hb) (by simp only[List.map_cons,List.length_cons]; omega)
theorem zJ5 {T:Nat->Option TI}{σ:St}{t ty q bt u:Nat}{i:TI}{cells:List AV} (h1:σ.env t = .op q 0) (h2:σ.hp q=some (.box bt cells)) (h3:T ty=some i) (ha:i.k.agg=true) (hz:i.size=cells.length):zMU T σ [.cell t ty,.tmp u]=some (.tup [AV.deep (.agg cells),(σ.env u).deep]):=by
 have hb:Nat.ble i.size cells.length=true :=(by rw[hz]; exact Nat.ble_eq_true_of_le (Nat.le_refl _));simp only[zMU,zJP,zS4,h1,h2,h3,ha,hb]
 rw[hz,List.take_length]
theorem Hole.base {hp:Nat->Option Ob}{e:Nat}{p p1:AV}{y:Nd}{keys:List Nat}{F:Nd->Nd} (h:Hole hp e p keys p1 y F):zBE p1=zBE p∨zBE p1∈keys:=by
 obtain⟨keys0,rest,w0,a1,a2,a3,a4,_⟩:=h;rcases a4 with rfl | a4
 ·exact .inl rfl
 ·exact .inr (a1.mem_iff.2 (List.mem_append_right _ a4))
theorem At.ofV {hp:Nat->Option Ob}{e:Nat}{p v:AV}{k c:Int}{t:List UInt8}{ks:List Nd}{keys:List Nat} (hc:zAX hp p=some (zBs k t c v)) (h:VAt hp e v ks keys):∃ w,At hp e p (.mk k t c ks) keys [] w:=by
 rcases h with ⟨rfl,rfl,rfl⟩ | ⟨q,rows,keys',w,rfl,h1,h2,rfl,h3⟩
 ·exact⟨0,by simp only[At]; exact⟨_,hc,.inr (.inl (by simp))⟩⟩
 ·exact⟨w,by simp only[At]; exact⟨_,hc,.inr (.inr ⟨q,rows,keys',rfl,h1,h2,rfl,h3⟩)⟩⟩
def zTo (n:Nat) (xs:List AV) (r:Ret):Prop:=∃ (a0:Nd) (a1:List Int) (a2:Nd) (y0:Nd) (y1:Int),zFD n a0 a1 a2=some (y0,y1)/\xs=[.agg ((Nd.enc a0).map .s),.s (.sl 1 (a1.map (irow .i64))),.agg ((Nd.enc a2).map .s)]/\r = .val (.tup [.agg ((Nd.enc y0).map .s),.s (.int .i64 y1)])
def zN5:zAq:=zAw fun xs r=>∃ n,zTo n xs r
set_option maxHeartbeats 600000 in
theorem zSN:PSound Tryz.prog 148 zN5:=by
 have gok:∀ f s,look? f [(73,zDw),(178,zNW),(53,zNV)]=some s->PSound Tryz.prog f s:=zAl (by
  simp only[List.forall_mem_cons]
  exact⟨zDH,zQ5,zIw,by simp⟩)
 refine zAC tokW Tryz.call148 Tryz.func148 rfl (fun xs r h=>by obtain⟨n,_,_,_,_,_,_,rfl,_⟩:=h; show 3<=_; decide) _ rfl ?_;rintro xs r w0 G0 ⟨f,⟨k,t,c,ks⟩,path,⟨rk,rt,rc,rks⟩,y0,y1,h,rfl,rfl⟩ _;rw[zFD]at h;obtain⟨b,hb,h⟩:=zAc h;refine zYZ [6] [] rfl ?_;refine zAa ?_;refine zZO ?_;refine⟨_,⟨f,_,_,hb,rfl,rfl⟩,?_⟩
 show Tri ..;cases b with
 | false =>
  refine zA0 rfl (fun _=>?_) (fun h=>by cases h)
  refine zZO ?_;refine zAe ?_;obtain⟨rfl,rfl⟩:=Prod.mk.inj (Option.some.inj h)
  unfold zE4;exact⟨_,Le.refl _ _,rfl,rfl⟩
 | true =>
  refine zA0 rfl (fun h=>by cases h) (fun _=>?_)
  refine zAf ?_;show Tri ..;rw[if_pos rfl]at h;obtain⟨n1,hn1,h⟩:=zAc h;obtain⟨hcnt,hn1⟩:=zAI hn1;obtain rfl:=Option.some.inj hn1;refine zYZ [8] [] rfl ?_;refine⟨_,⟨k,c,t,ks,hcnt,rfl,fun v hp' n' keys h1 h2 h3 h4 h5=>?_⟩,fun _ _ _ h=>h⟩
  have hv1:v.one=true/\∀ m,n'<m->v.lt m=true:=by
   rcases h3 with ⟨_,rfl,_⟩ | ⟨q,_,_,_,rfl,_,_,hk,_⟩
   ·exact⟨rfl,fun _ _=>rfl⟩
   ·exact⟨rfl,fun m hm=>decide_eq_true (Nat.lt_trans (h5 q (by rw[hk]; exact List.mem_cons_self)).2 hm)⟩
  refine zSz (d:=16) ?_;refine zAd rfl rfl rfl rfl rfl rfl trivial ?_;refine zH8 (sz:=4) (cs:=[.s (.int .i64 0),.s (.str []),.s (.int .i64 0),.nl 4]) (cs':=zBs k t c v) (p:=.op n' 0) rfl rfl rfl rfl rfl (.inr ⟨n',rfl⟩) rfl (zEY (bt:=24) (by show(bif Nat.beq n' n' then _ else hp' n')=_; rw[Nat.beq_refl]; rfl)) rfl rfl rfl (by simp only[zBs,List.all_cons,List.all_nil,hv1.1]; rfl) (by have h0:v.lt (n'+1)=true:=hv1.2 _ (Nat.lt_succ_self _); show AV.ltAll (n'+1) (zBs k t c v)=true; simp only[zBs,AV.ltAll,h0]; rfl) ?_;show Tri ..
  refine zJW [(1,.s (.sl 1 (path.map (irow .i64)))),(5,.s (.pt (Nd.enc (.mk rk rt rc rks)))),(6,.op 0 0),(8,.op n' 0)] (n'+1) ⟨rfl,rfl,rfl,rfl,trivial⟩ rfl fun H hH=>?_
  have g1:H n'=some (.box 24 (zBs k t c v)):=(hH n').trans (by
   show putC (fun m=>bif Nat.beq m n' then some (Ob.box 24 [.s (.int .i64 0),.s (.str []),.s (.int .i64 0),.nl 4]) else hp' m) (.op n' 0) (zBs k t c v) n'=_;rw[zHd (bt:=24) (cs:=[.s (.int .i64 0),.s (.str []),.s (.int .i64 0),.nl 4]) (by simp only[Nat.beq_refl,cond_true])]
   simp only[Nat.beq_refl,cond_true])
  have g2:∀ m,m<n'->H m=hp' m:=fun m hm=>(hH m).trans (by
   show putC (fun m=>bif Nat.beq m n' then some (Ob.box 24 [.s (.int .i64 0),.s (.str []),.s (.int .i64 0),.nl 4]) else hp' m) (.op n' 0) (zBs k t c v) m=_;rw[zCm (show m ≠ n' by omega),zEX (show m ≠ n' by omega)]; rfl)
  clear hH
  have g0:H 0=some (.box 24 [.s (.int .i64 0),.s (.str []),.s (.int .i64 0),.nl 4]):=(g2 0 h1).trans (h2 0 (Nat.lt_succ_self 0))
  obtain⟨w,hat⟩:=At.ofV (zEY g1) (h3.frame fun m hm=>g2 m (h5 m hm).2)
  have hnd:(zBE (.op n' 0)::keys).Nodup:=List.nodup_cons.2 ⟨fun hm=>Nat.lt_irrefl _ (h5 n' hm).2,h4⟩
  refine zZO ?_;refine⟨_,⟨.op n' 0,.mk k t c ks,path,keys,w,rfl,.inr ⟨n',rfl⟩,hat,hnd,fun hf=>?_,fun p1 y F hf hole hF=>?_⟩,fun _ _ _ h=>h⟩
  ·rw[hf]at h;refine zAa ?_;refine zZO ?_;refine zA0 rfl (fun _=>?_) (fun h=>by cases h)
   obtain⟨rfl,rfl⟩:=Prod.mk.inj (Option.some.inj h)
   refine zAj (Le.forgetH [(6,.op 0 0)] H (n'+1) ⟨rfl,trivial⟩ (fun _=>rfl) rfl) ?_;refine zZO ?_;refine zAd rfl rfl rfl rfl rfl rfl trivial ?_;refine zH8 (sz:=4) (cs:=[.s (.int .i64 0),.s (.str []),.s (.int .i64 0),.nl 4]) (cs':=[.s (.int .i64 0),.s (.str []),.s (.int .i64 0),.nl 4]) (p:=.op 0 0) rfl rfl rfl rfl rfl (.inr ⟨0,rfl⟩) rfl (zEY (bt:=24) g0) rfl rfl rfl rfl rfl ?_;refine zAd rfl rfl rfl rfl rfl rfl trivial ?_;refine zAe ?_;unfold zE4
   refine⟨_,Le.refl _ _,(zJ5 (bt:=24) (cells:=[.s (.int .i64 0),.s (.str []),.s (.int .i64 0),.nl 4]) rfl ?_ rfl rfl rfl).trans rfl,rfl⟩
   show putC H (.op 0 0) _ 0=_;rw[zHd (bt:=24) (cs:=[.s (.int .i64 0),.s (.str []),.s (.int .i64 0),.nl 4]) g0]; rfl
  ·rw[hf]at h;obtain⟨keys1,w1,hat1,hl1,hnd1⟩:=hole.here hnd;refine zSz (d:=19) ?_;refine zAd rfl rfl rfl rfl rfl rfl trivial ?_;refine zAd rfl rfl rfl rfl rfl rfl trivial ?_;refine zAd rfl rfl rfl rfl rfl rfl trivial ?_;refine zAd rfl rfl rfl rfl rfl (zDZ hl1 (.inl rfl) rfl rfl) trivial ?_;refine zAd rfl rfl rfl rfl rfl rfl trivial ?_;refine zAj (Le.forgetH [(5,.s (.pt (Nd.enc (.mk rk rt rc rks)))),(6,.op 0 0),(8,.op n' 0),(9,p1),(10,.s (.bool true))] H (n'+1) ⟨rfl,rfl,rfl,rfl,rfl,trivial⟩ (fun _=>rfl) rfl) ?_;refine zAa ?_;refine zZO ?_;show Tri ..
   refine zA0 rfl (fun h=>by cases h) (fun _=>?_)
   refine zAf ?_;show Tri ..;obtain⟨b2,hb2,h⟩:=zAc h;refine zAa ?_;refine zZO ?_;refine⟨_,⟨f,_,_,hb2,rfl,rfl⟩,?_⟩
   show Tri ..;cases b2 with
   | false =>
    refine zA0 rfl (fun _=>?_) (fun h=>by cases h)
    obtain⟨rfl,rfl⟩:=Prod.mk.inj (Option.some.inj h)
    refine zAj (Le.forgetH [(6,.op 0 0)] H (n'+1) ⟨rfl,trivial⟩ (fun _=>rfl) rfl) ?_;refine zZO ?_;refine zAd rfl rfl rfl rfl rfl rfl trivial ?_;refine zH8 (sz:=4) (cs:=[.s (.int .i64 0),.s (.str []),.s (.int .i64 0),.nl 4]) (cs':=[.s (.int .i64 0),.s (.str []),.s (.int .i64 0),.nl 4]) (p:=.op 0 0) rfl rfl rfl rfl rfl (.inr ⟨0,rfl⟩) rfl (zEY (bt:=24) g0) rfl rfl rfl rfl rfl ?_;refine zAd rfl rfl rfl rfl rfl rfl trivial ?_;refine zAe ?_;unfold zE4
    refine⟨_,Le.refl _ _,(zJ5 (bt:=24) (cells:=[.s (.int .i64 0),.s (.str []),.s (.int .i64 0),.nl 4]) rfl ?_ rfl rfl rfl).trans rfl,rfl⟩
    show putC H (.op 0 0) _ 0=_;rw[zHd (bt:=24) (cs:=[.s (.int .i64 0),.s (.str []),.s (.int .i64 0),.nl 4]) g0]; rfl
   | true =>
    refine zA0 rfl (fun h=>by cases h) (fun _=>?_)
    refine zAf ?_;show Tri ..;rw[if_pos rfl]at h;obtain⟨n2,hn2,h⟩:=zAc h;obtain⟨hcnt2,hn2⟩:=zAI hn2;obtain rfl:=Option.some.inj hn2;refine zAj (Le.forgetH [(5,.s (.pt (Nd.enc (.mk rk rt rc rks)))),(6,.op 0 0),(8,.op n' 0),(9,p1)] H (n'+1) ⟨rfl,rfl,rfl,rfl,trivial⟩ (fun _=>rfl) rfl) ?_;refine zZO ?_;refine zAd rfl rfl rfl rfl rfl (zDZ hl1 (.inr rfl) rfl rfl) trivial ?_;refine zAd rfl rfl rfl rfl rfl rfl trivial ?_;refine⟨_,⟨rk,rc,rt,rks,hcnt2,rfl,fun v2 hp2 n2 keys2 q1 q2 q3 q4 q5=>?_⟩,fun _ _ _ h=>h⟩
    refine zSz (d:=31) ?_;refine zAd rfl rfl rfl rfl rfl (zFK hl1 rfl rfl) trivial ?_;have hb1:zBE p1<n'+1:=by
     rcases hole.base with h | h
     ·have:zBE p1=n':=h
      omega
     ·have:=(h5 _ h).2; omega
    obtain⟨yk,yt,yc,yks⟩:=y;obtain⟨vy,hcy,_⟩:=hat1.full;have hcy2:zAX hp2 p1=some (zBs yk yt yc vy):=(zCX hl1 (q2 _ hb1)).trans hcy;have hv2:v2.one=true/\v2.lt n2=true:=by
     rcases q3 with ⟨_,rfl,_⟩ | ⟨q,_,_,_,rfl,_,_,hk,_⟩
     ·exact⟨rfl,rfl⟩
     ·exact⟨rfl,decide_eq_true (q5 q (by rw[hk]; exact List.mem_cons_self)).2⟩
    refine zH8 (sz:=4) (cs':=zBs rk rt rc v2) rfl rfl rfl rfl rfl hl1 rfl hcy2 rfl rfl rfl (by simp only[zBs,List.all_cons,List.all_nil,hv2.1]; rfl) (by show AV.ltAll n2 (zBs rk rt rc v2)=true; simp only[zBs,AV.ltAll,hv2.2]; rfl) ?_;show Tri ..;refine zJW [(6,.op 0 0),(8,.op n' 0)] n2 ⟨rfl,rfl,trivial⟩ rfl fun H2 hH2=>?_
    have hH2:∀ m,H2 m=putC hp2 p1 (zBs rk rt rc v2) m:=hH2
    have hcp:zAX H2 p1=some (zBs rk rt rc v2):=(zCX hl1 (hH2 _)).trans (zKZ hl1 hcy2)
    have hb2k:∀ m∈keys2,H2 m=hp2 m:=fun m hm=>(hH2 m).trans (zCm (by have hm1:n'+1<=m:=(q5 m hm).1; omega))
    obtain⟨w3,hat3⟩:=At.ofV hcp (q3.frame hb2k)
    obtain⟨keys0,rest,w0',a1,a2,a3,a4,a5⟩:=hole;have hrest:∀ m,m=n'∨m∈rest->m<n'+1:=fun m hm=>by
     rcases hm with rfl | hm
     ·omega
     ·have:=(h5 m (a1.mem_iff.2 (List.mem_append_right _ hm))).2; omega
    obtain⟨keys3,w4,hperm,hfin⟩:=a5 H2 (.mk rk rt rc rks) keys2 w3 (Sim.put (c:=zBs rk rt rc v2) hl1 hcy fun m hm=>(hH2 m).trans (zJ4 hl1 (q2 m (hrest m hm)) (q2 _ hb1))) hat3;have hput:F (.mk rk rt rc rks)=putL (.mk k t c ks) path (.mk rk rt rc rks):=(hF _).symm;rw[hput]at hfin;have hn0:∀ m,m=n'∨m∈keys3->m ≠ 0:=fun m hm=>by
     have e1:1<=n':=h1;rcases hm with rfl | hm
     ·omega
     ·rcases List.mem_append.1 (hperm.mem_iff.1 hm) with hm | hm
      ·have e2:1<=m:=(h5 m (a1.mem_iff.2 (List.mem_append_right _ hm))).1
       omega
      ·have e2:n'+1<=m:=(q5 m hm).1
       omega
    have hatD:At (fun m=>bif Nat.beq m 0 then none else H2 m) 24 (.op n' 0) (putL (.mk k t c ks) path (.mk rk rt rc rks)) keys3 [] w4:=hfin.frame (.inr ⟨n',rfl⟩) fun m hm=>by rw[zEX (hn0 m hm)]; rfl
    obtain⟨cs,hcs,hrd⟩:=hatD.rd;rcases zDA (sz:=4) (.inr ⟨n',rfl⟩) hcs with ⟨q,i,e,rows,h1,_⟩ | ⟨q,bt,h1,hbt⟩
    ·cases h1
    cases h1;refine zAj (Le.givePart [(6,.op 0 0),(8,.s (.pt (Nd.enc (putL (.mk k t c ks) path (.mk rk rt rc rks)))))] (fun m=>bif Nat.beq m 0 then none else H2 m) (fun m=>bif Nat.beq m 0 then H2 m else none) (fun m ob hm=>by
     cases e:Nat.beq m 0 with
     | true=>rw[e]at hm; cases hm
     | false=>rw[e]at hm; exact hm) (fun m ob hm=>by
     cases e:Nat.beq m 0 with
     | true=>rw[e]at hm; exact hm
     | false=>rw[e]at hm; cases hm) (fun m ob ob' h1 h2=>by
     cases e:Nat.beq m 0 with
     | true=>rw[e]at h1; cases h1
     | false=>rw[e]at h2; cases h2) ⟨.inl rfl,.inr (Rd.box (off:=0) hbt hrd.1 hrd.2),trivial⟩) ?_
    have hb0:0 ≠ zBE p1:=by
     rcases a4 with rfl | a4
     ·exact Ne.symm (hn0 n' (.inl rfl))
     ·exact Ne.symm (hn0 _ (.inr (hperm.mem_iff.2 (List.mem_append_left _ a4))))
    have g3:H2 0=some (.box 24 [.s (.int .i64 0),.s (.str []),.s (.int .i64 0),.nl 4]):=(hH2 0).trans ((zCm hb0).trans ((q2 0 (Nat.succ_pos n')).trans g0))
    clear hrd hcs hatD hfin hput
    generalize putL (.mk k t c ks) path (.mk rk rt rc rks)=T1 at *;obtain⟨k9,t9,c9,ks9⟩:=T1;obtain⟨b3,hb3,h⟩:=zAc h;refine zJW [(6,.op 0 0),(8,.s (.pt (Nd.enc (.mk k9 t9 c9 ks9))))] n2 ⟨rfl,rfl,trivial⟩ rfl fun H3 hH3=>?_
    have g4:H3 0=some (.box 24 [.s (.int .i64 0),.s (.str []),.s (.int .i64 0),.nl 4]):=(hH3 0).trans g3;refine zAa ?_;refine zZO ?_;refine⟨_,⟨f,_,_,hb3,rfl,rfl⟩,?_⟩
    show Tri ..;cases b3 with
    | false =>
     refine zA0 rfl (fun _=>?_) (fun h=>by cases h)
     obtain⟨rfl,rfl⟩:=Prod.mk.inj (Option.some.inj h)
     refine zAj (Le.forgetH [(6,.op 0 0)] H3 n2 ⟨rfl,trivial⟩ (fun _=>rfl) rfl) ?_;refine zZO ?_;refine zAd rfl rfl rfl rfl rfl rfl trivial ?_;refine zH8 (sz:=4) (cs:=[.s (.int .i64 0),.s (.str []),.s (.int .i64 0),.nl 4]) (cs':=[.s (.int .i64 0),.s (.str []),.s (.int .i64 0),.nl 4]) (p:=.op 0 0) rfl rfl rfl rfl rfl (.inr ⟨0,rfl⟩) rfl (zEY (bt:=24) g4) rfl rfl rfl rfl rfl ?_;refine zAd rfl rfl rfl rfl rfl rfl trivial ?_;refine zAe ?_;unfold zE4
     refine⟨_,Le.refl _ _,(zJ5 (bt:=24) (cells:=[.s (.int .i64 0),.s (.str []),.s (.int .i64 0),.nl 4]) rfl ?_ rfl rfl rfl).trans rfl,rfl⟩
     show putC H3 (.op 0 0) _ 0=_;rw[zHd (bt:=24) (cs:=[.s (.int .i64 0),.s (.str []),.s (.int .i64 0),.nl 4]) g4]; rfl
    | true =>
     refine zA0 rfl (fun h=>by cases h) (fun _=>?_)
     obtain⟨rfl,rfl⟩:=Prod.mk.inj (Option.some.inj h)
     refine zAf ?_;refine zAj (Le.forgetH [(6,.op 0 0),(8,.s (.pt (Nd.enc (.mk k9 t9 c9 ks9))))] H3 n2 ⟨rfl,rfl,trivial⟩ (fun _=>rfl) rfl) ?_;refine zZO ?_;refine zAd rfl rfl rfl rfl rfl rfl trivial ?_;refine zH8 (sz:=4) (cs:=[.s (.int .i64 0),.s (.str []),.s (.int .i64 0),.nl 4]) (cs':=zBs k9 t9 c9 (.s (.sl 4 (Nd.encs ks9)))) (p:=.op 0 0) rfl rfl rfl rfl rfl (.inr ⟨0,rfl⟩) rfl (zEY (bt:=24) g4) rfl rfl rfl rfl rfl ?_;refine zAd rfl rfl rfl rfl rfl rfl trivial ?_;refine zAe ?_;unfold zE4
     refine⟨_,Le.refl _ _,(zJ5 (bt:=24) (cells:=zBs k9 t9 c9 (.s (.sl 4 (Nd.encs ks9)))) rfl ?_ rfl rfl rfl).trans rfl,rfl⟩
     show putC H3 (.op 0 0) _ 0=_;rw[zHd (bt:=24) (cs:=[.s (.int .i64 0),.s (.str []),.s (.int .i64 0),.nl 4]) g4]; rfl
end Go.Proofs.YtgplhldfbkmmgaaGreat
namespace Go.Abs
theorem PSound.giveTop {P:Program}{f e sz:Nat}{R:List AV->(Nat->Option Ob)->Nat->(AV->(Nat->Option Ob)->Nat->Prop)->Prop}{S:List AV->List S->List (List S)->Prop} (h:PSound P f (zSv R))
  (hS:∀ xs cs rs,S xs cs rs->R xs (fun _=>none) 0 fun x hp n=>∃ q rows hpD,x = .agg (cs.map .s++[.orow q])/\hp q=some (.arow e sz rows)/\rows.length=rs.length/\(∀ r∈rs,r.length=sz)/\(∀ k ob,hpD k=some ob->hp k=some ob/\k ≠ q) /\
   ∀ (i:Nat) x s,rows.flatten[i]? = some x->rs.flatten[i]? = some s->Rd hpD x s) :
  PSound P f (zBK fun xs os x os'=>∃ cs rs,os=[]/\x = .agg (cs.map .s++[.orow 0])/\os'=[some (.row e sz rs)]/\S xs cs rs):=by
 refine PSound.ofOwn h.1 fun G w β xs vs os x os' hlt hgl hv hxl hob ⟨cs,rs,ho,hx,ho',hs⟩=>?_
 subst ho; subst hx; subst ho'
 refine(h.2.2.2 R rfl G w β xs vs (fun _=>none) 0 _ hlt hgl hv hxl ⟨fun k ob hk=>(by cases hk),fun k ob hk=>(by cases hk),fun k k' ob ob' hk=>(by cases hk)⟩ (hS xs cs rs hs)).mono ?_;rintro e' w' ⟨v,G',β',x,hp',n',rfl,⟨q,rows,hpD,rfl,hq,hlen,hsz,hD,hrd⟩,hn,hfr,hsub,hnew,hlt',hx,hxl,hob,hst⟩
 let c:Cx:=zFY P w β (fun _=>none) 0 G 0
 have hk:Keep G G' w w':=⟨hsub,fun b hb=>hfr.old b (hlt b hb) (by rintro⟨k,ob,h,_⟩; cases h)⟩
 have hc:Conc c G' β' ⟨fun _=>.junk,hpD,n'⟩ { tmps:=#[],defers:=[] } w':={
  defers:=rfl
  size:=rfl
  env:=fun t=>by simp only[AVal]
  envlt:=fun t=>rfl
  hp:=fun k ob hk=>hob.obs k ob (hD k ob hk).1
  hplt:=fun k ob hk=>hob.lts k ob (hD k ob hk).1
  inj:=fun k k' ob ob' hk hk'=>hob.inj k k' ob ob' (hD k ob hk).1 (hD k' ob' hk').1
  lt:=hlt'
  sub:=hsub
  new:=hnew
  fr:=hfr
  stay:=⟨hn,hst⟩
  glob:=hgl.keep hk }
 have hmine:∀ b,c.mine b->w.heap.size<=b:=fun b hb=>by
  rcases hb with ⟨k,ob,h,_⟩ | h
  ·cases h
  ·exact h
 have hk':Keep G' (allG G' β' hpD) w' w':=⟨fun _ h=>.inl h,fun _ _=>rfl⟩
 refine⟨v,allG G' β' hpD,fun _=>β' q,rfl,⟨hfr.os,hfr.tape,hfr.output,hfr.size,fun b hb _=>hfr.old b hb (by rintro⟨k,ob,h,_⟩; cases h)⟩,fun b hb=>.inl (hsub b hb),fun b hb=>?_,fun b hb=>?_,?_,?_,Nat.zero_le _,⟨fun i ob hi=>?_,fun i j ob ob' hi hj hne=>?_⟩,fun i ob hi=>absurd hi (Nat.not_lt_zero _)⟩
 ·rcases hb with hb | ⟨k,ob,h1,h2⟩
  ·exact(hnew b hb).imp id fun h=>.inr (hmine b h)
  ·exact .inr (.inr (hmine b (row_block (hc.hp k ob h1) b h2).2))
 ·rcases hb with hb | ⟨k,ob,h1,h2⟩
  ·exact hlt' b hb
  ·exact hc.blk_lt h1 h2
 ·simp only[AVal]at hx ⊢;obtain⟨us,rfl,hus⟩:=hx;refine⟨us,rfl,AVals.mk (by rw[hus.length]; simp) fun i y u hy hu=>?_⟩
  rw[List.getElem?_append]at hy
  by_cases hi:i<(cs.map AV.s).length
  ·rw[if_pos hi]at hy;obtain⟨u',hu',hr⟩:=hus.get (i:=i) (x:=y) (by rw[List.getElem?_append,if_pos hi]; exact hy)
   rw[hu]at hu'; cases hu'
   rw[List.getElem?_map]at hy;obtain⟨s,_,rfl⟩:=Option.map_eq_some_iff.1 hy;simp only[AVal]at hr ⊢;exact hr.keep hk'
  ·rw[if_neg hi]at hy;have h0:i - (cs.map AV.s).length=0 :=(by have:=(List.getElem?_eq_some_iff.1 hy).1; simpa using this);rw[h0]at hy;cases hy;obtain⟨u',hu',hr⟩:=hus.get (i:=i) (x:=.orow q) (by rw[List.getElem?_append,if_neg hi,h0]; rfl)
   rw[hu]at hu'; cases hu'
   simp only[AVal]at hr ⊢;exact hr
 ·simp only[AV.lt]
  refine zEL fun i y hy=>?_
  rw[List.getElem?_append]at hy;split at hy
  ·rw[List.getElem?_map]at hy;obtain⟨s,_,rfl⟩:=Option.map_eq_some_iff.1 hy
   rfl
  ·rename_i hi
   have h0:i - (cs.map AV.s).length=0 :=(by have:=(List.getElem?_eq_some_iff.1 hy).1; simpa using this);rw[h0]at hy;cases hy
   rfl
 ·match i,hi with
  | 0,hi =>
   cases hi;refine⟨?_,rfl⟩
   obtain⟨hl,hz,ho⟩:=hob.obs q _ hq;refine⟨hsz,hz,?_⟩
   rcases ho with ⟨h1,rfl⟩ | ⟨b,cap,cur,h1,h2,h3,h4,h5,h6,h7⟩
   ·exact .inl ⟨h1,List.length_eq_zero_iff.1 (by simpa using hlen.symm)⟩
   ·refine .inr ⟨b,cap,cur,by rw[← hlen]; exact h1,by rw[← hlen]; exact h2,h3,h4,?_,.inr (hmine b h6),fun i s hi=>?_⟩
    ·rintro(hb | ⟨k,ob,g1,g2⟩)
     ·exact h5 hb
     ·exact hob.inj k q ob _ (hD k ob g1).1 hq (hD k ob g1).2 b g2 (by rw[h1]; rfl)
    ·have hfl:=zA1 hl;have hfs:=zA1 hsz;have hil:i<rows.flatten.length :=(by rw[hfl,hlen,← hfs]; exact(List.getElem?_eq_some_iff.1 hi).1);obtain⟨u,hu,hr',_⟩:=h7 i _ (List.getElem?_eq_getElem hil)
     exact⟨u,hu,(hrd i _ s (List.getElem?_eq_getElem hil) hi).rep hc hr'⟩
  | i+1,hi=>simp at hi
 ·match i,j,hi,hj with
  | 0,0,_,_=>exact absurd rfl hne
  | 0,j+1,_,hj=>simp at hj
  | i+1,_,hi,_=>simp at hi
end Go.Abs
namespace Go.Proofs.YtgplhldfbkmmgaaGreat
open Go.Abs
theorem VAt.rd {hp:Nat->Option Ob}{e:Nat}{v:AV}{ks:List Nd}{keys:List Nat} (h:VAt hp e v ks keys):Rd hp v (.sl 4 (Nd.encs ks)):=by
 rcases h with ⟨rfl,rfl,_⟩ | ⟨q,rows,keys',w,rfl,hq,hlen,rfl,h⟩
 ·exact .s _
 ·exact Rd.rows hq hlen fun j x hj=>(by have:=LAt.rd h j x hj; rwa [Nat.zero_add]at this)
def zU0 (xs:List AV) (cs:List S) (rs:List (List S)):Prop:=∃ (a0:Nd) (k c:Int) (t:List UInt8) (ks:List Nd),zDr a0=some (.mk k t c ks)/\xs=[.agg ((Nd.enc a0).map .s)]/\cs=[.int .i64 k,.str t,.int .i64 c]/\rs=Nd.encs ks
theorem zOJ:PSound Tryz.prog 53 (zBK fun xs os x os'=>∃ cs rs,os=[]/\x = .agg (cs.map .s++[.orow 0])/\os'=[some (.row 24 4 rs)]/\zU0 xs cs rs):=by
 refine PSound.giveTop zIw fun xs cs rs ⟨⟨k0,t0,c0,ks0⟩,k,c,t,ks,hm,hx,hcs,hrs⟩=>?_
 subst hx; subst hcs; subst hrs
 obtain⟨⟨hq,hne⟩,hm⟩:=zAI hm;cases hm;refine⟨k0,c0,t0,ks0,hq,rfl,fun v hp' n' keys _ _ hv hnd _=>?_⟩
 rcases hv with ⟨rfl,_⟩ | ⟨q,rows,keys',w,rfl,hq,hlen,rfl,hl⟩
 ·exact absurd rfl hne
 refine⟨q,rows,fun k=>if k∈keys' then hp' k else none,rfl,hq,by rw[Nd.encs_eq,List.length_map]; exact hlen,fun r hr=>?_,fun k ob hk=>?_,zTZ fun j r s hr hs=>?_⟩
 ·rw[Nd.encs_eq]at hr;obtain⟨x,_,rfl⟩:=List.mem_map.1 hr;cases x; rfl
 ·dsimp only at hk;split at hk
  ·rename_i hm
   exact⟨hk,fun e=>(List.nodup_cons.1 hnd).1 (by rw[← e]; exact hm)⟩
  ·cases hk
 ·rw[Nd.encs_eq,List.getElem?_map]at hs;cases hx:ks0[j]? with
  | none=>rw[hx]at hs; cases hs
  | some x =>
   rw[hx]at hs; cases hs
   obtain⟨keys0,rest,w0,hperm,hat,_⟩:=LAt.hole (i:=0) hl hnd hx;rw[Nat.zero_add]at hat;obtain⟨k2,t2,c2,ks2⟩:=x;obtain⟨v,hc,hv⟩:=hat.full;rw[zGz hq,hr]at hc;cases hc;exact RdC.node (VAt.rd (hv.frame fun k hk=>by
    show(if k∈keys' then hp' k else none)=hp' k;rw[if_pos (hperm.mem_iff.2 (List.mem_append_left _ hk))]))
def zNY (xs:List AV) (os:List Ob) (x:AV) (os':List (Option Ob)):Prop:=∃ (a0:Nd) (y0:Nd),zDr a0=some y0/\xs=[.agg ((Nd.enc a0).map .s)]/\os=[]/\x = .agg (match y0 with | .mk k t c _=>[.s (.int .i64 k),.s (.str t),.s (.int .i64 c),.orow 0])/\os'=[some (.row 24 4 (match y0 with | .mk _ _ _ ks=>Nd.encs ks))]
def zGM:zAq:=zBK (fun xs os x os'=>zNY xs os x os')
theorem zIS:PSound Tryz.prog 53 zGM :=
 PSound.ofOwn zOJ.1 fun G w β xs vs os x os' h1 h2 h3 h4 h5 ⟨a0,⟨k,t,c,ks⟩,hm,hx,ho,hr,ho'⟩ =>
  zOJ.2.2.1 _ rfl G w β xs vs os x os' h1 h2 h3 h4 h5 ⟨[.int .i64 k,.str t,.int .i64 c],Nd.encs ks,ho,hr,ho',a0,k,c,t,ks,hm,hx,rfl,rfl⟩
end Go.Proofs.YtgplhldfbkmmgaaGreat
namespace Go.Proofs
open Go.RowKit Go.Lib
theorem Tryz.Grow_nil_sNode (w:World) :
  Calls Tryz.prog 206 #[.slice none 0 0,.int .i64 0] w fun e w'=>e = .returned (.slice none 0 0)/\w'=w:=by
 have h2:wrap64 0=0:=by unfold wrap64; omega
 go_enter Tryz.func206,Tryz.ntmps206
 go_wp2
 go_ret
 exact⟨rfl,rfl⟩
set_option maxHeartbeats 4000000 in
theorem Tryz.Grow_new_sNode (i0:TypeInfo) (z:Value) (hi0:Tryz.prog.info? 24=some i0) (hz0:i0.zero=some z) (hs0:0<i0.size)
  (n:Nat) (w:World) (hroom:0<n) (hbig:n * i0.bytes<=140737488355328) (h63:n<=4611686018427387904) :
  Calls Tryz.prog 206 #[.slice none 0 0,.int .i64 n] w fun e w' =>
   e = .returned (.slice (some ⟨w.heap.size,0,none⟩) 0 (grownCap w n 0 24)) /\
   w'=w.drew.alloc (.cells (#[]++Builtin.zeroCells z.cells n++Builtin.zeroCells z.cells (grownCap w n 0 24 - n)) 24):=by
 have h1:¬ ((n:Int)<0) :=(by omega);have h2:wrap64 0=0 :=(by unfold wrap64; omega);have h3:wrap64 (n:Int)=(n:Int) :=(by unfold wrap64; omega);have h4:(n:Int) > 0 :=(by omega);have hold:(Builtin.firstCells i0.size 0 (.slice none 0 0)).run Tryz.prog w.drew = .ok ([]:List Value).toArray w.drew:=run_firstCells_none w.drew i0.size 0 0 0;have hrz:∀ ty,(Builtin.append_ #[22,3] ty #[.slice none 0 0,.int .i64 (n:Int)]).run Tryz.prog w =
   .ok (.slice (some ⟨w.heap.size,0,none⟩) n (grownCap w n 0 24)) (w.drew.alloc (.cells (#[]++Builtin.zeroCells z.cells n++Builtin.zeroCells z.cells (grownCap w n 0 24 - n)) 24)):=fun ty=>by
  have h:=Lib.run_append_grow_zeros w 22 3 ty 24 i0 z .i64 .i64 Tryz.underlying22 Tryz.underlying3 hi0 hz0 none 0 0 [] hold n (by omega) hs0 (by omega) (by omega) (by omega)
   (by rw[Nat.zero_add]; exact growslice_fits hroom hbig)
  rw[Nat.zero_add]at h;exact h
 have hGn:n<=grownCap w n 0 24:=grownCap_ge w _ _ _;obtain⟨G,hG⟩:∃ G,G=grownCap w n 0 24:=⟨_,rfl⟩
 rw[← hG]at hrz hGn ⊢;have hG63:G<=9223372036854775807:=by
  have:=grownCap_le_maxLen w n 0 24 (by unfold maxLen; omega)
  rw[← hG]at this;unfold maxLen at this
  omega
 clear hold hG
 go_enter Tryz.func206,Tryz.ntmps206
 go_wp2_with (at_builtin; refine Lib.wpList_append_run _ rfl _ _ _ _ rfl _ _ rfl rfl _ _ (hrz _) ?_)
 all_goals (go_ret; exact⟨rfl,rfl⟩)
end Go.Proofs
namespace Go.Proofs.YtgplhldfbkmmgaaGreat
open Go.Abs
theorem zY6 (z:Array Value) (n:Nat):(Builtin.zeroCells z n).size=n * z.size:=by simp[Builtin.zeroCells]
def zKR (xs:List AV) (r:Ret):Prop:=∃ (a0:Int) (y0:List Nd),zER a0=some y0/\xs=[.nl 4,.s (.int .i64 a0)]/\r = .row 24 4 (Nd.encs y0)
def zGQ:zAq:=zZK fun xs r=>zKR xs r
theorem zKl:PSound Tryz.prog 206 zGQ :=
 ⟨Tryz.call206,fun G w xs vs r hl hg _ hv ⟨a0,y0,hm,hx,hr⟩=>by
  subst hx; subst hr
  obtain⟨⟨q1,q2⟩,hm⟩:=zAI hm;obtain rfl:=Option.some.inj hm;obtain⟨n,rfl⟩:=Int.eq_ofNat_of_zero_le q1;simp only[AVals,AVal,Rep]at hv;obtain⟨_,_,rfl,rfl,_,_,rfl,rfl,rfl⟩:=hv
  by_cases h0:n=0
  ·subst h0;exact(Tryz.Grow_nil_sNode w).mono fun e w' ⟨h1,h2⟩=>by
    subst h2;exact⟨_,G,h1,Ext.refl hl,fun r hr=>(by cases hr),by decide,.inl ⟨rfl,rfl⟩⟩
  obtain⟨d,info,z,b1,b2,b3,b4,b5,b6,b7,b8,b9,b10⟩:=tokW 24 _ rfl;have i1:info.size=4:=b4;have i2:info.bytes=56:=b5;have hzs:z.cells.size=4:=zMo b7 b8 b9;refine(Tryz.Grow_new_sNode info z b3 b6 (by omega) n w (by omega) (by rw[i2]; omega) (by omega)).mono fun e w' ⟨h1,h2⟩=>?_
  have hge:n<=grownCap w n 0 24 :=(by unfold grownCap Question.cut; simp);generalize grownCap w n 0 24=g at *;refine⟨_,G,h1,?_,fun r hr=>(by cases hr),by decide,.inr ⟨w.heap.size,g,#[]++Builtin.zeroCells z.cells n++Builtin.zeroCells z.cells (g - n),rfl,Nat.zero_le _,?_,by rw[h2]; exact RowBlk.laid (zEk w.drew _),fun h=>Nat.lt_irrefl _ (hl _ h),Nat.le_refl _,fun i s hi=>by cases hi⟩⟩
  ·rw[h2]
   exact(Ext.drew hl).trans (Ext.own (w:=w.drew) hl _)
  ·simp only[Array.size_append,Array.size_empty,zY6,hzs]
   omega,
 fun R hR=>(by cases hR),fun R hR=>(by cases hR)⟩
def zKf (xs:List AV) (r:Ret):Prop:=∃ (a0:List Nd) (y0:List Nd),zEz a0=some y0/\xs=[.s (.sl 4 (Nd.encs a0))]/\r = .val (.s (.sl 4 (Nd.encs y0)))
def zGk:zAq:=zAw fun xs r=>zKf xs r
theorem zJI:PSound Tryz.prog 199 zGk:=by
 have gok:=@gok0 Tryz.prog;refine zAC tokW Tryz.call199 Tryz.func199 rfl (fun xs r h=>by obtain⟨_,_,_,rfl,_⟩:=h; show 1<=_; decide) _ rfl ?_;rintro xs r w0 G0 ⟨l,y,h,rfl,rfl⟩ _;obtain⟨hq,h⟩:=zAI h;obtain rfl:=Option.some.inj h;have hlen:(Nd.encs l).length=l.length:=rlen Nd.encs_eq l;refine zZO ?_;refine zAa ?_;refine zZO ?_;intro b hb;show Tri ..;cases b with
 | true =>
  have hl:=hb rfl;refine zA0 rfl (fun _=>?_) (fun h=>by cases h)
  refine zZO ?_;refine zAe ?_;unfold zE4;exact⟨_,Le.refl _ _,congrArg (fun z=>some (AV.s (.sl 4 z))) hl.symm,rfl⟩
 | false =>
  refine zA0 rfl (fun h=>by cases h) (fun _=>?_)
  refine zAf ?_;refine zYZ [5,7] [] rfl ?_;refine And.intro (show(([]:List (List S)).length+(Nd.encs l).length) * 56<=140737488355328/\([]:List (List S)).length+(Nd.encs l).length<=9223372036854775807 from by rw[hlen]; simp only[List.length_nil]; omega) ?_;refine zAe ?_;unfold zE4;exact⟨_,Le.giveRow 1 (e:=24) (sz:=4) (rows:=Nd.encs l) rfl,rfl,rfl⟩
def zA6 (p:List Nd):List S:=[.sl 4 (Nd.encs p)]
def zI3 (n:Nat) (xs:List AV) (r:Ret):Prop:=∃ (a0:List (List Nd)) (y0:List Nd),zCf n a0=some y0/\xs=[.s (.sl 1 ((List.map zA6) a0))]/\r = .row 24 4 (Nd.encs y0)
def zFU:zAq:=zAw fun xs r=>∃ n,zI3 n xs r
theorem zZv {α:Type}{a b:α} (h:a=b:=by simp[List.map_append,List.map_take,List.map_drop,irow,brow,zGp,List.map_cons,List.map_nil,zFV,Nd.encs_eq,Nd.enc,CV.encs_eq,CV.enc,zCn,zBp,zGA,zA6]):a=b :=
 h
theorem zIY:PSound Tryz.prog 202 zFU:=by
 have gok:∀ f s,look? f [(206,zGQ)]=some s->PSound Tryz.prog f s:=zAl (by
  simp only[List.forall_mem_cons]
  exact⟨zKl,by simp⟩)
 refine zAC tokW Tryz.call202 Tryz.func202 rfl (fun xs r h=>by obtain⟨n,_,_,_,rfl,_⟩:=h; show 1<=36; decide) 36 rfl ?_;rintro xs r w0 G0 ⟨n,slices1,y0,h,rfl,rfl⟩ _;rw[zCf]at h;refine zYZ [2] [] rfl ?_;refine zAj (Le.rnm [] [(0,.s (.sl 1 ((List.map zA6) slices1)))] [] 0 ⟨rfl,trivial⟩ trivial) ?_;refine zZO ?_;refine zAa ?_;refine zYZ [] [10] rfl ?_;intro n2 hn2;obtain rfl:(slices1.length:Int)=n2:=(hn2.trans (congrArg (fun m:Nat=>(m:Int)) (rlen (fun _=>rfl) slices1))).symm;show Tri ..
 obtain⟨size5,hl,h⟩:=zAc h;refine zAo ⟨ofL [(0,.s (.sl 1 ((List.map zA6) slices1))),(3,.s (.int .i64 size5))],fun _=>none,0⟩ ?_ (fun σ' hle=>?_)
 ·refine zAk (zAD (X:=Nat×Int×Int) (fun y=>match y with | (k,x3,size4)=>⟨ofL [(0,.s (.sl 1 ((List.map zA6) slices1))),(3,.s (.int .i64 size4)),(9,.s (.sl 1 ((List.map zA6) slices1))),(10,.s (.int .i64 (slices1.length:Int))),(11,.s (.int .i64 x3))],fun _=>none,0⟩) (fun y=>zA2 slices1 y.1 y.2.1 y.2.2=some size5) (fun y=>y.1) (n,0,0) hl ?_ ?_)
  ·exact(Le.forget _ ⟨rfl,rfl,rfl,rfl,rfl,trivial⟩)
  ·rintro⟨k,x3,size4⟩ h;cases k with
   | zero=>cases h
   | succ k =>
    replace h:zA2 slices1 (k+1) x3 size4=some size5:=h;rw[zA2]at h;refine zZO ?_;refine zAa ?_;refine zAh rfl h (fun hb h=>?_) (fun hb h=>?_)
    ·refine zAf ?_;refine zAa ?_;refine zAk ?_;refine zYZ [] [13] rfl ?_;obtain⟨e6,he6,h⟩:=zAc h;refine And.intro (zAt (fun _=>rfl) he6).1 ?_;intro r7 hr7;obtain rfl:[.sl 4 (Nd.encs e6)]=r7:=(hr7.trans (zAt (fun _=>rfl) he6).2.1).symm;refine zYZ [] [17] rfl ?_;intro n8 hn8;obtain rfl:(e6.length:Int)=n8:=(hn8.trans (congrArg (fun m:Nat=>(m:Int)) (rlen Nd.encs_eq e6))).symm;refine zZO ?_;refine zAh rfl h (fun hb h=>?_) (fun hb h=>?_)
     ·cases h
     ·refine zAf ?_;refine zZN ?_;refine⟨(k,IntKind.i64.wrap (x3+1),IntKind.i64.wrap (size4+(e6.length:Int))),h,(Le.forget _ ⟨rfl,rfl,rfl,rfl,rfl,trivial⟩),Nat.lt_succ_self k⟩
    ·refine zAJ ?_;cases h;exact(Le.forget _ ⟨rfl,rfl,trivial⟩)
 ·refine zAj hle ?_;refine zYZ [24] [] rfl ?_;obtain⟨y9,hy9,h⟩:=zAc h;refine⟨_,⟨_,_,hy9,rfl,rfl⟩,?_⟩
  refine zAa ?_;refine zYZ [] [26] rfl ?_;intro n10 hn10;obtain rfl:(slices1.length:Int)=n10:=(hn10.trans (congrArg (fun m:Nat=>(m:Int)) (rlen (fun _=>rfl) slices1))).symm;show Tri ..;obtain⟨l14,hl,h⟩:=zAc h;refine zAo ⟨ofL [(6,.orow 0)],ofH [(0,.row 24 4 (Nd.encs l14))],1⟩ ?_ (fun σ' hle=>?_)
  ·refine zAk (zAD (X:=Nat×Int×(List Nd)) (fun y=>match y with | (k,x11,l13)=>⟨ofL [(6,.orow 0),(25,.s (.sl 1 ((List.map zA6) slices1))),(26,.s (.int .i64 (slices1.length:Int))),(27,.s (.int .i64 x11))],ofH [(0,.row 24 4 (Nd.encs l13))],1⟩) (fun y=>zA3 slices1 y.1 y.2.1 y.2.2=some l14) (fun y=>y.1) (n,0,y9) hl ?_ ?_)
   ·exact(Le.rnm [(0,0)] _ _ _ ⟨rfl,rfl,rfl,rfl,trivial⟩ ⟨rfl,⟨_,rfl,rfl⟩,trivial⟩)
   ·rintro⟨k,x11,l13⟩ h;cases k with
    | zero=>cases h
    | succ k =>
     replace h:zA3 slices1 (k+1) x11 l13=some l14:=h;rw[zA3]at h;refine zZO ?_;refine zAa ?_;refine zAh rfl h (fun hb h=>?_) (fun hb h=>?_)
     ·refine zAf ?_;refine zAa ?_;refine zAk ?_;refine zYZ [] [29] rfl ?_;obtain⟨e15,he15,h⟩:=zAc h;refine And.intro (zAt (fun _=>rfl) he15).1 ?_;intro r16 hr16;obtain rfl:[.sl 4 (Nd.encs e15)]=r16:=(hr16.trans (zAt (fun _=>rfl) he15).2.1).symm;refine zAb [33] [] rfl ?_;obtain⟨hq,h⟩:=zAI h;refine And.intro (show((Nd.encs l13).length+(Nd.encs e15).length) * 56<=140737488355328/\(Nd.encs l13).length+(Nd.encs e15).length<=9223372036854775807 from by simp only[List.length_append,List.length_cons,List.length_nil,List.length_map,rlen Nd.encs_eq]at hq ⊢; omega) ?_
      refine zAj (Le.rnm [(1,0)] [(6,.orow 0),(25,.s (.sl 1 ((List.map zA6) slices1))),(26,.s (.int .i64 (slices1.length:Int))),(27,.s (.int .i64 x11))] [(0,.row 24 4 (Nd.encs (l13++e15)))] 1 ⟨rfl,rfl,rfl,rfl,trivial⟩ ⟨rfl,⟨_,rfl,congrArg (Ob.row 24 4) zZv⟩,trivial⟩) ?_;refine zZN ?_
      refine⟨(k,IntKind.i64.wrap (x11+1),l13++e15),h,(Le.rnm [(0,0)] _ _ _ ⟨rfl,rfl,rfl,rfl,trivial⟩ ⟨rfl,⟨_,rfl,rfl⟩,trivial⟩),Nat.lt_succ_self k⟩
     ·refine zAJ ?_;cases h;exact(Le.rnm [(0,0)] _ _ _ ⟨rfl,trivial⟩ ⟨rfl,⟨_,rfl,rfl⟩,trivial⟩)
  ·refine zAj hle ?_;refine zZO ?_;refine zAe ?_;have hy:=osi h;subst hy;unfold zE4;exact⟨_,Le.refl _ _,0,rfl,rfl⟩
def zAN (p:(zO8×List Nd)):List S:=[.int .i64 p.1.1,.sl 1 ((List.map (irow .i64)) p.1.2.1),.int .i64 p.1.2.2.1,.int .i64 p.1.2.2.2.1,.sl 4 (Nd.encs p.1.2.2.2.2.1),.int .i64 p.1.2.2.2.2.2.1,.str p.1.2.2.2.2.2.2.1,.str p.1.2.2.2.2.2.2.2,.sl 4 (Nd.encs p.2)]
def zLu (n:Nat) (xs:List AV) (r:Ret):Prop:=∃ (a0:(zO8×List Nd)) (a1:Int) (a2:List Nd) (y0:List Nd),zA7 n a0 a1 a2=some y0/\xs=[.agg ((zAN a0).map .s),.s (.int .i64 a1),.s (.sl 4 (Nd.encs a2))]/\r = .val (.s (.sl 4 (Nd.encs y0)))
def zCi:zAq:=zAw fun xs r=>∃ n,zLu n xs r
theorem zCO:PSound Tryz.prog 196 zCi:=by
 have gok:∀ f s,look? f [(202,zFU)]=some s->PSound Tryz.prog f s:=zAl (by
  simp only[List.forall_mem_cons]
  exact⟨zIY,by simp⟩)
 refine zAC tokW Tryz.call196 Tryz.func196 rfl (fun xs r h=>by obtain⟨n,_,_,_,_,_,rfl,_⟩:=h; show 3<=24; decide) 24 rfl ?_;rintro xs r w0 G0 ⟨n,⟨⟨c1Ac,c1Ag,c1N,c1Ad,c1Aa,c1Ab,c1Af,c1Ae⟩,c1O⟩,n2,nodes3,y0,h,rfl,rfl⟩ _;rw[zA7]at h;refine zZO ?_;refine zAa ?_;refine zBw [] [12,21,22] [] rfl (by decide +kernel) ?_;obtain⟨hq,h⟩:=zAI h;refine And.intro ⟨hq.1,hq.2.1,Int.le_trans hq.2.2 (Int.ofNat_le.2 (Nat.le_of_eq (rlen Nd.encs_eq _).symm))⟩ ?_;intro r4 hr4
 obtain rfl:Nd.encs ((c1O.take c1N.toNat).drop (0:Int).toNat)=r4:=(hr4.trans (rcut Nd.encs_eq _ _ _)).symm;obtain⟨hq,h⟩:=zAI h;refine And.intro ⟨hq.1,Int.le_trans hq.2.1 (Int.ofNat_le.2 (Nat.le_of_eq (rlen Nd.encs_eq _).symm)),Int.le_refl _⟩ ?_;intro r5 hr5;obtain rfl:Nd.encs ((c1O.take (c1O.length:Int).toNat).drop (IntKind.i64.wrap (c1N+n2)).toNat)=r5:=(hr5.trans ((congrArg (fun m:Nat=>((Nd.encs c1O).take m).drop (IntKind.i64.wrap (c1N+n2)).toNat) (rlen Nd.encs_eq _)).trans (rcut Nd.encs_eq _ _ _))).symm;intro r6 hr6
 obtain rfl:(List.map zA6) [(c1O.take c1N.toNat).drop (0:Int).toNat,nodes3,(c1O.take (c1O.length:Int).toNat).drop (IntKind.i64.wrap (c1N+n2)).toNat]=r6:=(hr6.trans zZv).symm;obtain⟨y7,hy7,h⟩:=zAc h;refine⟨_,⟨_,_,_,hy7,rfl,rfl⟩,?_⟩
 refine zAe ?_;have hy:=osi h;subst hy;exact fin0 rfl rfl
def zEV (n:Nat) (xs:List AV) (r:Ret):Prop:=∃ (a0:Nd) (a1:Nd) (y0:Bool),zCB n a0 a1=some y0/\xs=[.agg ((Nd.enc a0).map .s),.agg ((Nd.enc a1).map .s)]/\r = .val (.s (.bool y0))
def zBl (n:Nat) (xs:List AV) (r:Ret):Prop:=∃ (a0:List Nd) (a1:List Nd) (y0:Bool),zA4 n a0 a1=some y0/\xs=[.s (.sl 4 (Nd.encs a0)),.s (.sl 4 (Nd.encs a1)),.s (.fn 198)]/\r = .val (.s (.bool y0))
theorem zPd (n:Nat) (ih_node_Equal:PSound Tryz.prog 198 (zAw (zEV n))) (ih_slices_EqualFunc_sNode:PSound Tryz.prog 197 (zAw (zBl n))):PSound Tryz.prog 198 (zAw (zEV (n+1))):=by
 have gok:∀ f s,look? f [(197,zAw (zBl n))]=some s->PSound Tryz.prog f s:=zAl (by
  simp only[List.forall_mem_cons]
  exact⟨ih_slices_EqualFunc_sNode,by simp⟩)
 refine zAC tokW Tryz.call198 Tryz.func198 rfl (fun xs r h=>by obtain⟨_,_,_,_,rfl,_⟩:=h; show 2<=31; decide) 31 rfl ?_;rintro xs r w0 G0 ⟨⟨a1A,a1B,a1F,a1E⟩,⟨b2A,b2B,b2F,b2E⟩,y0,h,rfl,rfl⟩ _;rw[zCB]at h;refine zZO ?_;refine zAa ?_;obtain⟨x3,hj,h⟩:=zAc h;refine zAo ⟨ofL [(4,.s (.bool x3))],fun _=>none,0⟩ ?_ (fun σ' hle=>?_)
 ·replace h:=hj;refine zAb [] [10,17,24] rfl ?_;intro b hb;cases b with
  | true =>
   replace h:=zAF hb.symm h;intro b hb;cases b with
   | true =>
    replace h:=zAF hb.symm h;intro b hb;cases b with
    | true =>
     replace h:=zAF hb.symm h;obtain⟨y4,hy4,h⟩:=zAc h;refine⟨_,⟨_,_,_,hy4,rfl,rfl⟩,?_⟩
     cases h;exact(Le.forget _ ⟨rfl,trivial⟩)
    | false =>
     replace h:=zAE hb.symm h;cases h;exact(Le.forget _ ⟨rfl,trivial⟩)
   | false =>
    replace h:=zAE hb.symm h;intro b hb;subst hb;cases h;exact(Le.forget _ ⟨rfl,trivial⟩)
  | false =>
   replace h:=zAE hb.symm h;intro b hb;subst hb;intro b hb;subst hb;cases h;exact(Le.forget _ ⟨rfl,trivial⟩)
 ·refine zAj hle ?_;refine zAe ?_;have hy:=osi h;subst hy;exact fin0 rfl rfl
theorem zHg (n:Nat) (ih_node_Equal:PSound Tryz.prog 198 (zAw (zEV n))) (ih_slices_EqualFunc_sNode:PSound Tryz.prog 197 (zAw (zBl n))):PSound Tryz.prog 197 (zAw (zBl (n+1))):=by
 have gok:∀ f s,look? f [(198,zAw (zEV n))]=some s->PSound Tryz.prog f s:=zAl (by
  simp only[List.forall_mem_cons]
  exact⟨ih_node_Equal,by simp⟩)
 refine zAC tokW Tryz.call197 Tryz.func197 rfl (fun xs r h=>by obtain⟨_,_,_,_,rfl,_⟩:=h; show 3<=32; decide) 32 rfl ?_;rintro xs r w0 G0 ⟨s11,s22,y0,h,rfl,rfl⟩ _;rw[zA4]at h;refine zZO ?_;refine zAa ?_;refine zYZ [] [11,13] rfl ?_;intro n3 hn3;obtain rfl:(s11.length:Int)=n3:=(hn3.trans (congrArg (fun m:Nat=>(m:Int)) (rlen Nd.encs_eq s11))).symm;intro n4 hn4;obtain rfl:(s22.length:Int)=n4:=(hn4.trans (congrArg (fun m:Nat=>(m:Int)) (rlen Nd.encs_eq s22))).symm;refine zAh rfl h (fun hb h=>?_) (fun hb h=>?_)
 ·refine zZO ?_;refine zAe ?_;have hy:=osi h;subst hy;exact fin0 rfl rfl
 ·refine zAf ?_;refine zAa ?_;refine zYZ [] [16] rfl ?_;intro n5 hn5;obtain rfl:(s11.length:Int)=n5:=(hn5.trans (congrArg (fun m:Nat=>(m:Int)) (rlen Nd.encs_eq s11))).symm;show Tri ..;obtain⟨fl,hl,ho1⟩:=zAc h;refine zDe (fl:=fl) (fun z=>match z with | _=>⟨ofL [],fun _=>none,0⟩) ?_ (fun z σ' hz hle=>?_)
  ·refine zAk (zAD (X:=Nat×Int) (fun y=>match y with | (k,x6)=>⟨ofL [(1,.s (.sl 4 (Nd.encs s22))),(2,.s (.fn 198)),(15,.s (.sl 4 (Nd.encs s11))),(16,.s (.int .i64 (s11.length:Int))),(17,.s (.int .i64 x6))],fun _=>none,0⟩) (fun y=>zAO (zCB n) s11 s22 y.1 y.2=some fl) (fun y=>y.1) (n,0) hl ?_ ?_)
   ·exact(Le.forget _ ⟨rfl,rfl,rfl,rfl,rfl,trivial⟩)
   ·rintro⟨k,x6⟩ h;cases k with
    | zero=>cases h
    | succ k =>
     replace h:zAO (zCB n) s11 s22 (k+1) x6=some fl:=h;rw[zAO]at h;refine zZO ?_;refine zAa ?_;refine zAh rfl h (fun hb h=>?_) (fun hb h=>?_)
     ·refine zAf ?_;refine zAa ?_;refine zAk ?_;refine zYZ [8] [20] rfl ?_;obtain⟨⟨e7A,e7B,e7F,e7E⟩,he7,h⟩:=zAc h;refine And.intro (zAt Nd.encs_eq he7).1 ?_;intro r8 hr8;obtain rfl:[.int .i64 e7A,.str e7B,.int .i64 e7F,.sl 4 (Nd.encs e7E)]=r8:=(hr8.trans (zAt Nd.encs_eq he7).2.1).symm;refine zAj (Le.giveBox 0 [.int .i64 e7A,.str e7B,.int .i64 e7F,.sl 4 (Nd.encs e7E)] rfl rfl) ?_;refine zYZ [9] [24] rfl ?_;obtain⟨⟨e9A,e9B,e9F,e9E⟩,he9,h⟩:=zAc h;refine And.intro (zAt Nd.encs_eq he9).1 ?_
      intro r10 hr10;obtain rfl:[.int .i64 e9A,.str e9B,.int .i64 e9F,.sl 4 (Nd.encs e9E)]=r10:=(hr10.trans (zAt Nd.encs_eq he9).2.1).symm;refine zAj (Le.giveBox 1 [.int .i64 e9A,.str e9B,.int .i64 e9F,.sl 4 (Nd.encs e9E)] rfl rfl) ?_;refine zZO ?_;obtain⟨y11,hy11,h⟩:=zAc h;refine⟨_,⟨_,_,_,hy11,rfl,rfl⟩,?_⟩
      refine zAh rfl h (fun hb h=>?_) (fun hb h=>?_)
      ·refine zZO ?_;refine zAe ?_;cases h;replace h:some _=some _:=ho1;have hy:=osi h;subst hy;exact fin0 rfl rfl
      ·refine zAf ?_;refine zZN ?_;refine⟨(k,IntKind.i64.wrap (x6+1)),h,(Le.rnm [] _ [] 0 ⟨rfl,rfl,rfl,rfl,rfl,trivial⟩ trivial),Nat.lt_succ_self k⟩
     ·refine zAJ ?_;cases h;exact⟨_,rfl,(Le.forget _ trivial)⟩
  ·subst hz;obtain _:=z;replace h:=ho1;refine zAj hle ?_;refine zZO ?_;refine zAe ?_;have hy:=osi h;subst hy;exact fin0 rfl rfl
theorem zJa:∀ n,PSound Tryz.prog 198 (zAw (zEV n))/\PSound Tryz.prog 197 (zAw (zBl n)):=by
 intro n
 induction n with
 | zero =>
  refine⟨?_,?_⟩
  ·exact zEh Tryz.call198 (fun xs r h=>by obtain⟨_,_,_,h,_⟩:=h; rw[zCB]at h; cases h)
  ·exact zEh Tryz.call197 (fun xs r h=>by obtain⟨_,_,_,h,_⟩:=h; rw[zA4]at h; cases h)
 | succ n ih =>
  obtain⟨ih_node_Equal,ih_slices_EqualFunc_sNode⟩:=ih;exact⟨zPd n ih_node_Equal ih_slices_EqualFunc_sNode,zHg n ih_node_Equal ih_slices_EqualFunc_sNode⟩
def zM5:zAq:=zAw fun xs r=>∃ n,zEV n xs r
theorem zRm:PSound Tryz.prog 198 zM5:=zE2 (fun n=>(zJa n).1)
def zEW:zAq:=zAw fun xs r=>∃ n,zBl n xs r
theorem zHT:PSound Tryz.prog 197 zEW:=zE2 (fun n=>(zJa n).2)
def zHJ (n:Nat) (xs:List AV) (r:Ret):Prop:=∃ (a0:(zO8×List Nd)) (y0:List Nd) (y1:Int),zBB n a0=some (y0,y1)/\xs=[.agg ((zAN a0).map .s)]/\r = .val (.tup [.s (.sl 4 (Nd.encs y0)),.s (.int .i64 y1)])
def zHM:zAq:=zAw fun xs r=>∃ n,zHJ n xs r
theorem zHk:PSound Tryz.prog 183 zHM:=by
 have gok:∀ f s,look? f [(53,zGM),(195,zHs),(198,zM5),(196,zCi)]=some s->PSound Tryz.prog f s:=zAl (by
  simp only[List.forall_mem_cons]
  exact⟨zIS,zIH,zRm,zCO,by simp⟩)
 refine zAC tokW Tryz.call183 Tryz.func183 rfl (fun xs r h=>by obtain⟨n,_,_,_,_,rfl,_⟩:=h; show 1<=54; decide) 54 rfl ?_;rintro xs r w0 G0 ⟨n,⟨⟨c1Ac,c1Ag,c1N,c1Ad,c1Aa,c1Ab,c1Af,c1Ae⟩,c1O⟩,y0,y1,h,rfl,rfl⟩ _;rw[zBB]at h;refine zZO ?_;refine zYZ [4] [11] rfl ?_;obtain⟨⟨e2A,e2B,e2F,e2E⟩,he2,h⟩:=zAc h;refine And.intro (zAt Nd.encs_eq he2).1 ?_;intro r3 hr3
 obtain rfl:[.int .i64 e2A,.str e2B,.int .i64 e2F,.sl 4 (Nd.encs e2E)]=r3:=(hr3.trans (zAt Nd.encs_eq he2).2.1).symm;obtain⟨⟨y4A,y4B,y4F,y4E⟩,hy4,h⟩:=zAc h;refine⟨_,_,⟨_,_,hy4,rfl,rfl,rfl,rfl⟩,?_⟩
 refine zAa ?_;refine zAa ?_;refine zBw [] [] [3,4] rfl (by decide +kernel) ?_;obtain⟨y5,hy5,h⟩:=zAc h;refine⟨_,⟨_,_,hy5,rfl,rfl⟩,?_⟩
 refine zAh rfl h (fun hb h=>?_) (fun hb h=>?_)
 ·refine zZO ?_;refine zAe ?_;obtain⟨hj1,hk1⟩:=pij h;subst hj1 hk1;exact fin0 rfl rfl
 ·refine zAf ?_;refine zZO ?_;obtain⟨⟨e6A,e6B,e6F,e6E⟩,he6,h⟩:=zAc h;refine And.intro (zAt Nd.encs_eq he6).1 ?_;refine And.intro (zAt Nd.encs_eq he6).2.2 ?_;refine⟨_,(zAt Nd.encs_eq he6).2.1,?_⟩
  refine zZO ?_;obtain⟨⟨e7A,e7B,e7F,e7E⟩,he7,h⟩:=zAc h;refine And.intro (zAt Nd.encs_eq he7).1 ?_;have hset8:=(rset (R:=Nd.encs) (f:=Nd.enc) Nd.encs_eq he7 (Nd.mk e7A e7B e7F []) 3 4 [.sl 4 (Nd.encs [])] rfl)
  have hat8:=at_set he7 (Nd.mk e7A e7B e7F [])
  refine And.intro (zAt Nd.encs_eq he7).2.2 ?_;refine zAj (Le.rnm [(1,0),(0,1)] [(1,.s (.pt [.int .i64 c1Ac,.sl 1 ((List.map (irow .i64)) c1Ag),.int .i64 c1N,.int .i64 c1Ad,.sl 4 (Nd.encs c1Aa),.int .i64 c1Ab,.str c1Af,.str c1Ae,.sl 4 (Nd.encs c1O)])),(4,.op 0 0),(5,.s (.sl 4 (Nd.encs e6E)))] [(0,.box 24 [.s (.int .i64 y4A),.s (.str y4B),.s (.int .i64 y4F),.orow 1]),(1,.row 24 4 (Nd.encs (y4E.set c1Ab.toNat (Nd.mk e7A e7B e7F []))))] 2 ⟨rfl,rfl,rfl,trivial⟩ ⟨rfl,⟨_,rfl,rfl⟩,rfl,⟨_,rfl,congrArg (Ob.row 24 4) hset8⟩,trivial⟩) ?_;refine zAa ?_
  refine zAa ?_;obtain⟨x9,hj,h⟩:=zAc h;refine zAo ⟨ofL [(1,.s (.pt [.int .i64 c1Ac,.sl 1 ((List.map (irow .i64)) c1Ag),.int .i64 c1N,.int .i64 c1Ad,.sl 4 (Nd.encs c1Aa),.int .i64 c1Ab,.str c1Af,.str c1Ae,.sl 4 (Nd.encs c1O)])),(5,.s (.sl 4 (Nd.encs e6E))),(50,.s (.bool x9))],fun _=>none,0⟩ ?_ (fun σ' hle=>?_)
  ·replace h:=hj;refine zBw [] [36,41,46] [7,13] rfl (by decide +kernel) ?_;intro n10 hn10;obtain rfl:(e6E.length:Int)=n10:=(hn10.trans (congrArg (fun m:Nat=>(m:Int)) (rlen Nd.encs_eq e6E))).symm;intro b hb;cases b with
   | true =>
    replace h:=zAF hb.symm h;cases h;exact(Le.rnm [] _ [] 0 ⟨rfl,rfl,rfl,trivial⟩ trivial)
   | false =>
    replace h:=zAE hb.symm h;obtain⟨⟨e11A,e11B,e11F,e11E⟩,he11,h⟩:=zAc h;refine And.intro (zAt Nd.encs_eq he11).1 ?_;intro r12 hr12;obtain rfl:[.int .i64 e11A,.str e11B,.int .i64 e11F,.sl 4 (Nd.encs e11E)]=r12:=(hr12.trans (zAt Nd.encs_eq he11).2.1).symm;obtain⟨y13,hy13,h⟩:=zAc h;refine⟨_,⟨_,_,_,_,hy13,rfl,rfl⟩,?_⟩
    cases h;exact(Le.rnm [] _ [] 0 ⟨rfl,rfl,rfl,trivial⟩ trivial)
  ·refine zAj hle ?_;refine zAh rfl h (fun hb h=>?_) (fun hb h=>?_)
   ·refine zZO ?_;refine zAe ?_;obtain⟨hj1,hk1⟩:=pij h;subst hj1 hk1;exact fin0 rfl rfl
   ·refine zAf ?_;refine zZO ?_;obtain⟨y14,hy14,h⟩:=zAc h;refine⟨_,⟨_,_,_,_,_,hy14,rfl,rfl⟩,?_⟩
    refine zAe ?_;obtain⟨hj1,hk1⟩:=pij h;subst hj1 hk1;exact fin0 rfl rfl
def zHK (xs:List AV) (r:Ret):Prop:=∃ (a0:(zO8×List Nd)) (y0:List Nd) (y1:Int),zBC a0=some (y0,y1)/\xs=[.agg ((zAN a0).map .s)]/\r = .val (.tup [.s (.sl 4 (Nd.encs y0)),.s (.int .i64 y1)])
def zHN:zAq:=zAw fun xs r=>zHK xs r
theorem zHl:PSound Tryz.prog 183 zHN:=by
 have gok:∀ f s,look? f [(53,zGL),(195,zHs)]=some s->PSound Tryz.prog f s:=zAl (by
  simp only[List.forall_mem_cons]
  exact⟨zHF,zIH,by simp⟩)
 refine zAC tokW Tryz.call183 Tryz.func183 rfl (fun xs r h=>by obtain⟨_,_,_,_,rfl,_⟩:=h; show 1<=54; decide) 54 rfl ?_;rintro xs r w0 G0 ⟨⟨⟨c1Ac,c1Ag,c1N,c1Ad,c1Aa,c1Ab,c1Af,c1Ae⟩,c1O⟩,y0,y1,h,rfl,rfl⟩ _;rw[zBC]at h;refine zZO ?_;refine zYZ [4] [11] rfl ?_;obtain⟨⟨e2A,e2B,e2F,e2E⟩,he2,h⟩:=zAc h;refine And.intro (zAt Nd.encs_eq he2).1 ?_;intro r3 hr3;obtain rfl:[.int .i64 e2A,.str e2B,.int .i64 e2F,.sl 4 (Nd.encs e2E)]=r3:=(hr3.trans (zAt Nd.encs_eq he2).2.1).symm
 obtain⟨⟨y4A,y4B,y4F,y4E⟩,hy4,h⟩:=zAc h;refine⟨_,⟨_,_,hy4,rfl,rfl⟩,?_⟩
 refine zAa ?_;refine zAa ?_;refine zBw [] [] [3] rfl (by decide +kernel) ?_;obtain⟨y5,hy5,h⟩:=zAc h;refine⟨_,⟨_,_,hy5,rfl,rfl⟩,?_⟩
 refine zAh rfl h (fun hb h=>?_) (fun hb h=>?_)
 ·refine zZO ?_;refine zAe ?_;obtain⟨hj1,hk1⟩:=pij h;subst hj1 hk1;exact fin0 rfl rfl
 ·refine zAf ?_;refine zAa ?_;cases h
def zLv (n:Nat) (xs:List AV) (r:Ret):Prop:=∃ (a0:(zO8×List Nd)) (y0:List Nd) (y1:Int),zD3 n a0=some (y0,y1)/\xs=[.agg ((zAN a0).map .s)]/\r = .val (.tup [.s (.sl 4 (Nd.encs y0)),.s (.int .i64 y1)])
def zHm:zAq:=zAw fun xs r=>∃ n,zLv n xs r
theorem zZw {α:Type}{a b:α} (h:a=b:=by simp[List.map_append,List.map_take,List.map_drop,irow,brow,zGp,List.map_cons,List.map_nil,zFV,Nd.encs_eq,Nd.enc,CV.encs_eq,CV.enc,zCn,zBp,zGA,zA6,zAN]):a=b :=
 h
theorem zLa:PSound Tryz.prog 182 zHm:=by
 have gok:∀ f s,look? f [(53,zGM),(199,zGk),(196,zCi)]=some s->PSound Tryz.prog f s:=zAl (by
  simp only[List.forall_mem_cons]
  exact⟨zIS,zJI,zCO,by simp⟩)
 refine zAC tokW Tryz.call182 Tryz.func182 rfl (fun xs r h=>by obtain⟨n,_,_,_,_,rfl,_⟩:=h; show 1<=39; decide) 39 rfl ?_;rintro xs r w0 G0 ⟨n,⟨⟨c1Ac,c1Ag,c1N,c1Ad,c1Aa,c1Ab,c1Af,c1Ae⟩,c1O⟩,y0,y1,h,rfl,rfl⟩ _;rw[zD3]at h;refine zZO ?_;refine zYZ [4] [8] rfl ?_;obtain⟨⟨e2A,e2B,e2F,e2E⟩,he2,h⟩:=zAc h;refine And.intro (zAt Nd.encs_eq he2).1 ?_;intro r3 hr3;obtain rfl:[.int .i64 e2A,.str e2B,.int .i64 e2F,.sl 4 (Nd.encs e2E)]=r3:=(hr3.trans (zAt Nd.encs_eq he2).2.1).symm
 obtain⟨⟨y4A,y4B,y4F,y4E⟩,hy4,h⟩:=zAc h;refine⟨_,_,⟨_,_,hy4,rfl,rfl,rfl,rfl⟩,?_⟩
 refine zAa ?_;refine zBw [] [28] [1,19,21] rfl (by decide +kernel) ?_;obtain⟨hq,h⟩:=zAI h;refine And.intro ⟨hq.1,hq.2.1,Int.le_trans hq.2.2 (Int.ofNat_le.2 (Nat.le_of_eq (rlen Nd.encs_eq _).symm))⟩ ?_;intro r5 hr5;obtain rfl:Nd.encs ((c1O.take (IntKind.i64.wrap (c1N+c1Ad)).toNat).drop c1N.toNat)=r5:=(hr5.trans (rcut Nd.encs_eq _ _ _)).symm;obtain⟨y6,hy6,h⟩:=zAc h;refine⟨_,⟨_,_,hy6,rfl,rfl⟩,?_⟩
 obtain⟨⟨e7A,e7B,e7F,e7E⟩,he7,h⟩:=zAc h;refine And.intro (zAt Nd.encs_eq he7).1 ?_;have hset8:=(rset (R:=Nd.encs) (f:=Nd.enc) Nd.encs_eq he7 (Nd.mk e7A e7B e7F y6) 3 4 [.sl 4 (Nd.encs y6)] rfl)
 have hat8:=at_set he7 (Nd.mk e7A e7B e7F y6)
 refine And.intro (zAt Nd.encs_eq he7).2.2 ?_;show Tri ..
 refine zAj (Le.trans (Le.trans (Le.trans (Le.rnm [(1,0),(0,1)] [(1,.s (.pt [.int .i64 c1Ac,.sl 1 ((List.map (irow .i64)) c1Ag),.int .i64 c1N,.int .i64 c1Ad,.sl 4 (Nd.encs c1Aa),.int .i64 c1Ab,.str c1Af,.str c1Ae,.sl 4 (Nd.encs c1O)])),(4,.op 0 0)] [(0,.box 24 [.s (.int .i64 y4A),.s (.str y4B),.s (.int .i64 y4F),.orow 1]),(1,.row 24 4 (Nd.encs (y4E.set c1Ab.toNat (Nd.mk e7A e7B e7F y6))))] 2 ⟨rfl,rfl,trivial⟩ ⟨rfl,⟨_,rfl,rfl⟩,rfl,⟨_,rfl,congrArg (Ob.row 24 4) hset8⟩,trivial⟩) (Le.giveRow 1 rfl)) (Le.rnm [(0,0)] [(1,.s (.pt [.int .i64 c1Ac,.sl 1 ((List.map (irow .i64)) c1Ag),.int .i64 c1N,.int .i64 c1Ad,.sl 4 (Nd.encs c1Aa),.int .i64 c1Ab,.str c1Af,.str c1Ae,.sl 4 (Nd.encs c1O)])),(4,.op 0 0)] [(0,.box 24 [.s (.int .i64 y4A),.s (.str y4B),.s (.int .i64 y4F),.s (.sl 4 (Nd.encs (y4E.set c1Ab.toNat (Nd.mk e7A e7B e7F y6))))])] 1 ⟨rfl,rfl,trivial⟩ ⟨rfl,⟨_,rfl,rfl⟩,trivial⟩)) (Le.giveBox 0 [.int .i64 y4A,.str y4B,.int .i64 y4F,.sl 4 (Nd.encs (y4E.set c1Ab.toNat (Nd.mk e7A e7B e7F y6)))] rfl rfl)) ?_
 refine zYZ [] [37] rfl ?_;intro r9 hr9;obtain rfl:Nd.encs [Nd.mk y4A y4B y4F (y4E.set c1Ab.toNat (Nd.mk e7A e7B e7F y6))]=r9:=(hr9.trans zZw).symm;obtain⟨y10,hy10,h⟩:=zAc h;refine⟨_,⟨_,_,_,_,_,hy10,rfl,rfl⟩,?_⟩
 refine zAe ?_;obtain⟨hj1,hk1⟩:=pij h;subst hj1 hk1;exact fin0 rfl rfl
def zJ8 (n:Nat) (xs:List AV) (r:Ret):Prop:=∃ (a0:(zO8×List Nd)) (y0:List Nd) (y1:Int),zDm n a0=some (y0,y1)/\xs=[.agg ((zAN a0).map .s)]/\r = .val (.tup [.s (.sl 4 (Nd.encs y0)),.s (.int .i64 y1)])
def zGd:zAq:=zAw fun xs r=>∃ n,zJ8 n xs r
theorem zJz:PSound Tryz.prog 180 zGd:=by
 have gok:∀ f s,look? f [(196,zCi)]=some s->PSound Tryz.prog f s:=zAl (by
  simp only[List.forall_mem_cons]
  exact⟨zCO,by simp⟩)
 refine zAC tokW Tryz.call180 Tryz.func180 rfl (fun xs r h=>by obtain⟨n,_,_,_,_,rfl,_⟩:=h; show 1<=9; decide) 9 rfl ?_;rintro xs r w0 G0 ⟨n,⟨⟨c1Ac,c1Ag,c1N,c1Ad,c1Aa,c1Ab,c1Af,c1Ae⟩,c1O⟩,y0,y1,h,rfl,rfl⟩ _;rw[zDm]at h;refine zZO ?_;refine zZO ?_;obtain⟨y2,hy2,h⟩:=zAc h;refine⟨_,⟨_,_,_,_,_,hy2,rfl,rfl⟩,?_⟩
 refine zAe ?_;obtain⟨hj1,hk1⟩:=pij h;subst hj1 hk1;exact fin0 rfl rfl
def zJ9 (n:Nat) (xs:List AV) (r:Ret):Prop:=∃ (a0:(zO8×List Nd)) (y0:List Nd) (y1:Int),zDn n a0=some (y0,y1)/\xs=[.agg ((zAN a0).map .s)]/\r = .val (.tup [.s (.sl 4 (Nd.encs y0)),.s (.int .i64 y1)])
def zGe:zAq:=zAw fun xs r=>∃ n,zJ9 n xs r
theorem zJA:PSound Tryz.prog 181 zGe:=by
 have gok:∀ f s,look? f [(197,zEW),(196,zCi)]=some s->PSound Tryz.prog f s:=zAl (by
  simp only[List.forall_mem_cons]
  exact⟨zHT,zCO,by simp⟩)
 refine zAC tokW Tryz.call181 Tryz.func181 rfl (fun xs r h=>by obtain⟨n,_,_,_,_,rfl,_⟩:=h; show 1<=28; decide) 28 rfl ?_;rintro xs r w0 G0 ⟨n,⟨⟨c1Ac,c1Ag,c1N,c1Ad,c1Aa,c1Ab,c1Af,c1Ae⟩,c1O⟩,y0,y1,h,rfl,rfl⟩ _;rw[zDn]at h;refine zZO ?_;refine zYZ [] [8] rfl ?_;intro n2 hn2;obtain rfl:(c1Aa.length:Int)=n2:=(hn2.trans (congrArg (fun m:Nat=>(m:Int)) (rlen Nd.encs_eq c1Aa))).symm;refine zAa ?_;refine zAa ?_;refine zBw [] [19] [] rfl (by decide +kernel) ?_
 obtain⟨hq,h⟩:=zAI h;refine And.intro ⟨hq.1,hq.2.1,Int.le_trans hq.2.2 (Int.ofNat_le.2 (Nat.le_of_eq (rlen Nd.encs_eq _).symm))⟩ ?_;intro r3 hr3;obtain rfl:Nd.encs ((c1O.take (IntKind.i64.wrap (c1N+(c1Aa.length:Int))).toNat).drop c1N.toNat)=r3:=(hr3.trans (rcut Nd.encs_eq _ _ _)).symm;obtain⟨y4,hy4,h⟩:=zAc h;refine⟨_,⟨_,_,_,_,hy4,rfl,rfl⟩,?_⟩
 refine zAh rfl h (fun hb h=>?_) (fun hb h=>?_)
 ·refine zZO ?_;refine zAe ?_;obtain⟨hj1,hk1⟩:=pij h;subst hj1 hk1;exact fin0 rfl rfl
 ·refine zAf ?_;refine zZO ?_;obtain⟨y5,hy5,h⟩:=zAc h;refine⟨_,⟨_,_,_,_,_,hy5,rfl,rfl⟩,?_⟩
  refine zAe ?_;obtain⟨hj1,hk1⟩:=pij h;subst hj1 hk1;exact fin0 rfl rfl
def zMp (n:Nat) (xs:List AV) (r:Ret):Prop:=∃ (a0:(zO8×List Nd)) (y0:List Nd) (y1:Int),zEl n a0=some (y0,y1)/\xs=[.agg ((zAN a0).map .s)]/\r = .val (.tup [.s (.sl 4 (Nd.encs y0)),.s (.int .i64 y1)])
def zHY:zAq:=zAw fun xs r=>∃ n,zMp n xs r
theorem zL3:PSound Tryz.prog 184 zHY:=by
 have gok:∀ f s,look? f [(196,zCi)]=some s->PSound Tryz.prog f s:=zAl (by
  simp only[List.forall_mem_cons]
  exact⟨zCO,by simp⟩)
 refine zAC tokW Tryz.call184 Tryz.func184 rfl (fun xs r h=>by obtain⟨n,_,_,_,_,rfl,_⟩:=h; show 1<=34; decide) 34 rfl ?_;rintro xs r w0 G0 ⟨n,⟨⟨c1Ac,c1Ag,c1N,c1Ad,c1Aa,c1Ab,c1Af,c1Ae⟩,c1O⟩,y0,y1,h,rfl,rfl⟩ _;rw[zEl]at h;refine zZO ?_;refine zYZ [4] [10] rfl ?_;obtain⟨⟨e2A,e2B,e2F,e2E⟩,he2,h⟩:=zAc h;refine And.intro (zAt Nd.encs_eq he2).1 ?_;intro r3 hr3;obtain rfl:[.int .i64 e2A,.str e2B,.int .i64 e2F,.sl 4 (Nd.encs e2E)]=r3:=(hr3.trans (zAt Nd.encs_eq he2).2.1).symm
 refine zAa ?_;refine zZO ?_;show Tri ..;obtain⟨fl,hj,ho1⟩:=zAc h;refine zDe (fl:=fl) (fun z=>match z with | _=>⟨ofL [(1,.s (.pt [.int .i64 c1Ac,.sl 1 ((List.map (irow .i64)) c1Ag),.int .i64 c1N,.int .i64 c1Ad,.sl 4 (Nd.encs c1Aa),.int .i64 c1Ab,.str c1Af,.str c1Ae,.sl 4 (Nd.encs c1O)])),(4,.op 0 0)],ofH [(0,.box 24 [.s (.int .i64 e2A),.s (.str e2B),.s (.int .i64 e2F),.s (.sl 4 (Nd.encs e2E))])],1⟩) ?_ (fun z σ' hz hle=>?_)
 ·replace h:=hj;refine zAk ?_;refine zAa ?_;refine zZO ?_;show Tri ..;obtain⟨x4,hj,h⟩:=zAc h;refine zAo ⟨ofL [(1,.s (.pt [.int .i64 c1Ac,.sl 1 ((List.map (irow .i64)) c1Ag),.int .i64 c1N,.int .i64 c1Ad,.sl 4 (Nd.encs c1Aa),.int .i64 c1Ab,.str c1Af,.str c1Ae,.sl 4 (Nd.encs c1O)])),(4,.op 0 0),(14,.s (.bool x4))],ofH [(0,.box 24 [.s (.int .i64 e2A),.s (.str e2B),.s (.int .i64 e2F),.s (.sl 4 (Nd.encs e2E))])],1⟩ ?_ (fun σ' hle=>?_)
  ·replace h:=hj;refine zAh rfl h (fun hb h=>?_) (fun hb h=>?_)
   ·refine zAf ?_;cases h;exact(Le.rnm [(0,0)] _ _ _ ⟨rfl,rfl,rfl,trivial⟩ ⟨rfl,⟨_,rfl,rfl⟩,trivial⟩)
   ·refine zZO ?_;refine zAh rfl h (fun hb h=>?_) (fun hb h=>?_)
    ·refine zAf ?_;cases h;exact(Le.rnm [(0,0)] _ _ _ ⟨rfl,rfl,rfl,trivial⟩ ⟨rfl,⟨_,rfl,rfl⟩,trivial⟩)
    ·refine zZO ?_;refine zAh rfl h (fun hb h=>?_) (fun hb h=>?_)
     ·refine zAf ?_;cases h;exact(Le.rnm [(0,0)] _ _ _ ⟨rfl,rfl,rfl,trivial⟩ ⟨rfl,⟨_,rfl,rfl⟩,trivial⟩)
     ·refine zZO ?_;refine zAh rfl h (fun hb h=>?_) (fun hb h=>?_)
      ·refine zAf ?_;cases h;exact(Le.rnm [(0,0)] _ _ _ ⟨rfl,rfl,rfl,trivial⟩ ⟨rfl,⟨_,rfl,rfl⟩,trivial⟩)
      ·refine zZN ?_;cases h;exact(Le.rnm [(0,0)] _ _ _ ⟨rfl,rfl,rfl,trivial⟩ ⟨rfl,⟨_,rfl,rfl⟩,trivial⟩)
  ·refine zAj hle ?_;refine zAh rfl h (fun hb h=>?_) (fun hb h=>?_)
   ·refine zAf ?_;cases h;exact⟨_,rfl,(Le.rnm [(0,0)] _ _ _ ⟨rfl,rfl,trivial⟩ ⟨rfl,⟨_,rfl,rfl⟩,trivial⟩)⟩
   ·refine zZO ?_;refine zAe ?_;cases h;replace h:some _=some _:=ho1;obtain⟨hj1,hk1⟩:=pij h;subst hj1 hk1;exact fin0 rfl rfl
 ·subst hz;obtain _:=z;replace h:=ho1;refine zAj hle ?_;refine zAa ?_;refine zZO ?_;refine zAh rfl h (fun hb h=>?_) (fun hb h=>?_)
  ·refine zZO ?_;refine zAe ?_;obtain⟨hj1,hk1⟩:=pij h;subst hj1 hk1;exact fin0 rfl rfl
  ·refine zAf ?_;refine zZO ?_;refine zYZ [] [32] rfl ?_;intro r5 hr5;obtain rfl:Nd.encs [Nd.mk e2A c1Ae e2F e2E]=r5:=(hr5.trans zZw).symm;obtain⟨y6,hy6,h⟩:=zAc h;refine⟨_,⟨_,_,_,_,_,hy6,rfl,rfl⟩,?_⟩
   refine zAe ?_;obtain⟨hj1,hk1⟩:=pij h;subst hj1 hk1;exact fin0 rfl rfl
def zJ7 (xs:List AV) (r:Ret):Prop:=∃ (a0:(zO8×List Nd)) (y0:Int),zCw a0=some y0/\xs=[.agg ((zAN a0).map .s)]/\r = .val (.s (.int .i64 y0))
def zGc:zAq:=zAw fun xs r=>zJ7 xs r
theorem zJy:PSound Tryz.prog 179 zGc:=by
 have gok:=@gok0 Tryz.prog;refine zAC tokW Tryz.call179 Tryz.func179 rfl (fun xs r h=>by obtain⟨_,_,_,rfl,_⟩:=h; show 1<=44; decide) 44 rfl ?_;rintro xs r w0 G0 ⟨⟨⟨c1Ac,c1Ag,c1N,c1Ad,c1Aa,c1Ab,c1Af,c1Ae⟩,c1O⟩,y0,h,rfl,rfl⟩ _;rw[zCw]at h;refine zZO ?_;refine zZO ?_;refine zAa ?_;refine zZO ?_;show Tri ..;obtain⟨need2,hj,h⟩:=zAc h
 refine zAo ⟨ofL [(1,.s (.pt [.int .i64 c1Ac,.sl 1 ((List.map (irow .i64)) c1Ag),.int .i64 c1N,.int .i64 c1Ad,.sl 4 (Nd.encs c1Aa),.int .i64 c1Ab,.str c1Af,.str c1Ae,.sl 4 (Nd.encs c1O)])),(3,.s (.int .i64 need2))],fun _=>none,0⟩ ?_ (fun σ' hle=>?_)
 ·replace h:=hj;refine zAk ?_;refine zZO ?_;refine zAh rfl h (fun hb h=>?_) (fun hb h=>?_)
  ·refine zZN ?_;cases h;exact(Le.forget _ ⟨rfl,rfl,trivial⟩)
  ·refine zZO ?_;refine zAh rfl h (fun hb h=>?_) (fun hb h=>?_)
   ·refine zAb [] [14] rfl ?_;intro n3 hn3;obtain rfl:(c1Aa.length:Int)=n3:=(hn3.trans (congrArg (fun m:Nat=>(m:Int)) (rlen Nd.encs_eq c1Aa))).symm;cases h;exact(Le.forget _ ⟨rfl,rfl,trivial⟩)
   ·refine zZO ?_;refine zAh rfl h (fun hb h=>?_) (fun hb h=>?_)
    ·refine zZN ?_;cases h;exact(Le.forget _ ⟨rfl,rfl,trivial⟩)
    ·refine zAf ?_;cases h;exact(Le.forget _ ⟨rfl,rfl,trivial⟩)
 ·refine zAj hle ?_;refine zAa ?_;refine zAa ?_;obtain⟨x4,hj,h⟩:=zAc h;refine zAo ⟨ofL [(43,.s (.bool x4))],fun _=>none,0⟩ ?_ (fun σ' hle=>?_)
  ·replace h:=hj;refine zAb [] [24,30,33,37] rfl ?_;intro b hb;cases b with
   | true =>
    replace h:=zAF hb.symm h;intro b hb;subst hb;cases h;exact(Le.forget _ ⟨rfl,trivial⟩)
   | false =>
    replace h:=zAE hb.symm h;intro n5 hn5;obtain rfl:(c1O.length:Int)=n5:=(hn5.trans (congrArg (fun m:Nat=>(m:Int)) (rlen Nd.encs_eq c1O))).symm;intro b hb;cases b with
    | true =>
     replace h:=zAF hb.symm h;cases h;exact(Le.forget _ ⟨rfl,trivial⟩)
    | false =>
     replace h:=zAE hb.symm h;intro n6 hn6;obtain rfl:(c1O.length:Int)=n6:=(hn6.trans (congrArg (fun m:Nat=>(m:Int)) (rlen Nd.encs_eq c1O))).symm;cases h;exact(Le.forget _ ⟨rfl,trivial⟩)
  ·refine zAj hle ?_;refine zAh rfl h (fun hb h=>?_) (fun hb h=>?_)
   ·refine zZO ?_;refine zAe ?_;have hy:=osi h;subst hy;exact fin0 rfl rfl
   ·refine zAf ?_;refine zZO ?_;refine zAe ?_;have hy:=osi h;subst hy;exact fin0 rfl rfl
def zNt (n:Nat) (xs:List AV) (r:Ret):Prop:=∃ (a0:List Nd) (a1:Int) (y0:Bool),zDN n a0 a1=some y0/\xs=[.s (.sl 4 (Nd.encs a0)),.s (.int .i64 a1)]/\r = .val (.s (.bool y0))
def zIL:zAq:=zAw fun xs r=>∃ n,zNt n xs r
theorem zMH:PSound Tryz.prog 177 zIL:=by
 have gok:∀ f s,look? f [(176,zFy),(195,zHs)]=some s->PSound Tryz.prog f s:=zAl (by
  simp only[List.forall_mem_cons]
  exact⟨zHG,zIH,by simp⟩)
 refine zAC tokW Tryz.call177 Tryz.func177 rfl (fun xs r h=>by obtain⟨n,_,_,_,_,rfl,_⟩:=h; show 2<=35; decide) 35 rfl ?_;rintro xs r w0 G0 ⟨n,l1,slot2,y0,h,rfl,rfl⟩ _;rw[zDN]at h;refine zZO ?_;refine zAa ?_;refine zAa ?_;obtain⟨x3,hj,h⟩:=zAc h;refine zAo ⟨ofL [(0,.s (.sl 4 (Nd.encs l1))),(1,.s (.int .i64 slot2)),(24,.s (.bool x3))],fun _=>none,0⟩ ?_ (fun σ' hle=>?_)
 ·replace h:=hj;refine zAb [] [6,8,13,17,20] rfl ?_;intro n4 hn4;obtain rfl:(l1.length:Int)=n4:=(hn4.trans (congrArg (fun m:Nat=>(m:Int)) (rlen Nd.encs_eq l1))).symm;intro b hb;cases b with
  | true =>
   replace h:=zAF hb.symm h;intro b hb;subst hb;intro b hb;subst hb;cases h;exact(Le.forget _ ⟨rfl,rfl,rfl,trivial⟩)
  | false =>
   replace h:=zAE hb.symm h;obtain⟨y5,hy5,h⟩:=zAc h;refine⟨_,⟨_,_,_,hy5,rfl,rfl⟩,?_⟩
   intro b hb;cases b with
   | true =>
    replace h:=zAF hb.symm h;intro b hb;subst hb;cases h;exact(Le.forget _ ⟨rfl,rfl,rfl,trivial⟩)
   | false =>
    replace h:=zAE hb.symm h;intro b hb;cases b with
    | true =>
     replace h:=zAF hb.symm h;cases h;exact(Le.forget _ ⟨rfl,rfl,rfl,trivial⟩)
    | false =>
     replace h:=zAE hb.symm h;obtain⟨⟨e6A,e6B,e6F,e6E⟩,he6,h⟩:=zAc h;refine And.intro (zAt Nd.encs_eq he6).1 ?_;intro r7 hr7;obtain rfl:[.int .i64 e6A,.str e6B,.int .i64 e6F,.sl 4 (Nd.encs e6E)]=r7:=(hr7.trans (zAt Nd.encs_eq he6).2.1).symm;obtain⟨y8,hy8,h⟩:=zAc h;refine⟨_,⟨_,_,hy8,rfl,rfl⟩,?_⟩
     cases h;exact(Le.forget _ ⟨rfl,rfl,rfl,trivial⟩)
 ·refine zAj hle ?_;refine zAh rfl h (fun hb h=>?_) (fun hb h=>?_)
  ·refine zZO ?_;refine zAe ?_;have hy:=osi h;subst hy;exact fin0 rfl rfl
  ·refine zAf ?_;refine zYZ [] [26,30,33] rfl ?_;obtain⟨⟨e9A,e9B,e9F,e9E⟩,he9,h⟩:=zAc h;refine And.intro (zAt Nd.encs_eq he9).1 ?_;intro r10 hr10;obtain rfl:[.int .i64 e9A,.str e9B,.int .i64 e9F,.sl 4 (Nd.encs e9E)]=r10:=(hr10.trans (zAt Nd.encs_eq he9).2.1).symm;obtain⟨⟨e11A,e11B,e11F,e11E⟩,he11,h⟩:=zAc h;refine And.intro (zAt Nd.encs_eq he11).1 ?_;intro r12 hr12;obtain rfl:[.int .i64 e11A,.str e11B,.int .i64 e11F,.sl 4 (Nd.encs e11E)]=r12:=(hr12.trans (zAt Nd.encs_eq he11).2.1).symm;intro n13 hn13
   obtain rfl:(e11E.length:Int)=n13:=(hn13.trans (congrArg (fun m:Nat=>(m:Int)) (rlen Nd.encs_eq e11E))).symm;refine zAe ?_;have hy:=osi h;subst hy;exact fin0 rfl rfl
def zAn (p:zO8):List S:=[.int .i64 p.1,.sl 1 ((List.map (irow .i64)) p.2.1),.int .i64 p.2.2.1,.int .i64 p.2.2.2.1,.sl 4 (Nd.encs p.2.2.2.2.1),.int .i64 p.2.2.2.2.2.1,.str p.2.2.2.2.2.2.1,.str p.2.2.2.2.2.2.2]
def zQL (n:Nat) (xs:List AV) (r:Ret):Prop:=∃ (a0:zO8) (y0:Bool),zFc n a0=some y0/\xs=[.agg ((zAn a0).map .s)]/\r = .val (.s (.bool y0))
def zLH:zAq:=zAw fun xs r=>∃ n,zQL n xs r
theorem zPI:PSound Tryz.prog 145 zLH:=by
 have gok:∀ f s,look? f [(176,zFy),(177,zIL)]=some s->PSound Tryz.prog f s:=zAl (by
  simp only[List.forall_mem_cons]
  exact⟨zHG,zMH,by simp⟩)
 refine zAC tokW Tryz.call145 Tryz.func145 rfl (fun xs r h=>by obtain⟨n,_,_,_,rfl,_⟩:=h; show 1<=80; decide) 80 rfl ?_;rintro xs r w0 G0 ⟨n,⟨a1A,a1I,a1J,a1L,a1G,a1K,a1M,a1B⟩,y0,h,rfl,rfl⟩ _;rw[zFc]at h;refine zZO ?_;refine zAa ?_;obtain⟨x2,hj,h⟩:=zAc h;refine zAo ⟨ofL [(1,.s (.pt [.int .i64 a1A,.sl 1 ((List.map (irow .i64)) a1I),.int .i64 a1J,.int .i64 a1L,.sl 4 (Nd.encs a1G),.int .i64 a1K,.str a1M,.str a1B])),(3,.s (.bool x2))],fun _=>none,0⟩ ?_ (fun σ' hle=>?_)
 ·replace h:=hj;refine zAb [] [7] rfl ?_;intro b hb;cases b with
  | true =>
   replace h:=zAF hb.symm h;cases h;exact(Le.forget _ ⟨rfl,rfl,trivial⟩)
  | false =>
   replace h:=zAE hb.symm h;cases h;exact(Le.forget _ ⟨rfl,rfl,trivial⟩)
 ·refine zAj hle ?_;refine zAa ?_;refine zZO ?_;show Tri ..;obtain⟨fl,hj,ho1⟩:=zAc h;refine zDe (fl:=fl) (fun z=>match z with | _=>⟨ofL [],fun _=>none,0⟩) ?_ (fun z σ' hz hle=>?_)
  ·replace h:=hj;refine zAk ?_;refine zAa ?_;refine zZO ?_;show Tri ..;obtain⟨x3,hj,h⟩:=zAc h;refine zAo ⟨ofL [(1,.s (.pt [.int .i64 a1A,.sl 1 ((List.map (irow .i64)) a1I),.int .i64 a1J,.int .i64 a1L,.sl 4 (Nd.encs a1G),.int .i64 a1K,.str a1M,.str a1B])),(3,.s (.bool x2)),(13,.s (.int .i64 a1A)),(14,.s (.bool x3))],fun _=>none,0⟩ ?_ (fun σ' hle=>?_)
   ·replace h:=hj;refine zAh rfl h (fun hb h=>?_) (fun hb h=>?_)
    ·refine zAf ?_;cases h;exact(Le.forget _ ⟨rfl,rfl,rfl,rfl,trivial⟩)
    ·refine zZN ?_;cases h;exact(Le.forget _ ⟨rfl,rfl,rfl,rfl,trivial⟩)
   ·refine zAj hle ?_;refine zAh rfl h (fun hb h=>?_) (fun hb h=>?_)
    ·refine zAa ?_;obtain⟨x4,hj,h⟩:=zAc h;refine zAo ⟨ofL [(2,.s (.bool x4))],fun _=>none,0⟩ ?_ (fun σ' hle=>?_)
     ·replace h:=hj;refine zAb [] [20,25,29,32,35] rfl ?_;intro b hb;cases b with
      | true =>
       replace h:=zAF hb.symm h;intro b hb;cases b with
       | true =>
        replace h:=zAF hb.symm h;intro b hb;cases b with
        | true =>
         replace h:=zAF hb.symm h;intro n5 hn5;obtain rfl:(a1G.length:Int)=n5:=(hn5.trans (congrArg (fun m:Nat=>(m:Int)) (rlen Nd.encs_eq a1G))).symm;intro b hb;cases b with
         | true =>
          replace h:=zAF hb.symm h;obtain⟨y6,hy6,h⟩:=zAc h;refine⟨_,⟨_,_,_,hy6,rfl,rfl⟩,?_⟩
          cases h;exact(Le.forget _ ⟨rfl,trivial⟩)
         | false =>
          replace h:=zAE hb.symm h;cases h;exact(Le.forget _ ⟨rfl,trivial⟩)
        | false =>
         replace h:=zAE hb.symm h;intro b hb;subst hb;cases h;exact(Le.forget _ ⟨rfl,trivial⟩)
       | false =>
        replace h:=zAE hb.symm h;intro b hb;subst hb;intro b hb;subst hb;cases h;exact(Le.forget _ ⟨rfl,trivial⟩)
      | false =>
       replace h:=zAE hb.symm h;intro b hb;subst hb;intro b hb;subst hb;intro b hb;subst hb;cases h;exact(Le.forget _ ⟨rfl,trivial⟩)
     ·refine zAj hle ?_;refine zAe ?_;cases h;replace h:some _=some _:=ho1;have hy:=osi h;subst hy;exact fin0 rfl rfl
    ·refine zAa ?_;refine zZO ?_;show Tri ..;obtain⟨x7,hj,h⟩:=zAc h;refine zAo ⟨ofL [(1,.s (.pt [.int .i64 a1A,.sl 1 ((List.map (irow .i64)) a1I),.int .i64 a1J,.int .i64 a1L,.sl 4 (Nd.encs a1G),.int .i64 a1K,.str a1M,.str a1B])),(3,.s (.bool x2)),(13,.s (.int .i64 a1A)),(40,.s (.bool x7))],fun _=>none,0⟩ ?_ (fun σ' hle=>?_)
     ·replace h:=hj;refine zAh rfl h (fun hb h=>?_) (fun hb h=>?_)
      ·refine zAf ?_;cases h;exact(Le.forget _ ⟨rfl,rfl,rfl,rfl,trivial⟩)
      ·refine zZN ?_;cases h;exact(Le.forget _ ⟨rfl,rfl,rfl,rfl,trivial⟩)
     ·refine zAj hle ?_;refine zAh rfl h (fun hb h=>?_) (fun hb h=>?_)
      ·refine zAa ?_;obtain⟨x8,hj,h⟩:=zAc h;refine zAo ⟨ofL [(2,.s (.bool x8))],fun _=>none,0⟩ ?_ (fun σ' hle=>?_)
       ·replace h:=hj;refine zAb [] [46,50] rfl ?_;intro b hb;cases b with
        | true =>
         replace h:=zAF hb.symm h;intro b hb;cases b with
         | true =>
          replace h:=zAF hb.symm h;obtain⟨y9,hy9,h⟩:=zAc h;refine⟨_,⟨_,_,_,_,hy9,rfl,rfl⟩,?_⟩
          cases h;exact(Le.forget _ ⟨rfl,trivial⟩)
         | false =>
          replace h:=zAE hb.symm h;cases h;exact(Le.forget _ ⟨rfl,trivial⟩)
        | false =>
         replace h:=zAE hb.symm h;intro b hb;subst hb;cases h;exact(Le.forget _ ⟨rfl,trivial⟩)
       ·refine zAj hle ?_;refine zAe ?_;cases h;replace h:some _=some _:=ho1;have hy:=osi h;subst hy;exact fin0 rfl rfl
      ·refine zZO ?_;refine zAh rfl h (fun hb h=>?_) (fun hb h=>?_)
       ·refine zAa ?_;obtain⟨x10,hj,h⟩:=zAc h;refine zAo ⟨ofL [(2,.s (.bool x10))],fun _=>none,0⟩ ?_ (fun σ' hle=>?_)
        ·replace h:=hj;refine zAb [] [62,67,70,73] rfl ?_;intro b hb;cases b with
         | true =>
          replace h:=zAF hb.symm h;intro b hb;cases b with
          | true =>
           replace h:=zAF hb.symm h;intro n11 hn11;obtain rfl:(a1G.length:Int)=n11:=(hn11.trans (congrArg (fun m:Nat=>(m:Int)) (rlen Nd.encs_eq a1G))).symm;intro b hb;cases b with
           | true =>
            replace h:=zAF hb.symm h;cases h;exact(Le.forget _ ⟨rfl,trivial⟩)
           | false =>
            replace h:=zAE hb.symm h;cases h;exact(Le.forget _ ⟨rfl,trivial⟩)
          | false =>
           replace h:=zAE hb.symm h;intro b hb;subst hb;cases h;exact(Le.forget _ ⟨rfl,trivial⟩)
         | false =>
          replace h:=zAE hb.symm h;intro b hb;subst hb;intro b hb;subst hb;cases h;exact(Le.forget _ ⟨rfl,trivial⟩)
        ·refine zAj hle ?_;refine zAe ?_;cases h;replace h:some _=some _:=ho1;have hy:=osi h;subst hy;exact fin0 rfl rfl
       ·refine zAf ?_;cases h;exact⟨_,rfl,(Le.forget _ trivial)⟩
  ·subst hz;obtain _:=z;replace h:=ho1;refine zAj hle ?_;refine zZO ?_;refine zAe ?_;have hy:=osi h;subst hy;exact fin0 rfl rfl
theorem zWy {P:Program}{f:Nat}{A B:List AV->Ret->Prop} (hA:PSound P f (zAw A)) (hB:PSound P f (zAw B)):PSound P f (zAw fun xs r=>A xs r∨B xs r) :=
 ⟨hA.1,fun G w xs vs r hl hg hp hv hs=>hs.elim (hA.2.1 G w xs vs r hl hg hp hv) (hB.2.1 G w xs vs r hl hg hp hv),fun R hR=>(by cases hR),fun R hR=>(by cases hR)⟩
theorem zTT {P:Program}{f:Nat}{A B:List AV->Ret->Prop} (hA:PSound P f (zAw A)) (h:∀ xs r,B xs r->A xs r):PSound P f (zAw B) :=
 ⟨hA.1,fun G w xs vs r hl hg hp hv hs=>hA.2.1 G w xs vs r hl hg hp hv (h xs r hs),fun R hR=>(by cases hR),fun R hR=>(by cases hR)⟩
def zKa (n:Nat) (xs:List AV) (r:Ret):Prop:=∃ (a0:(zO8×List Nd)) (y0:List Nd) (y1:Int),zBu n a0=some (y0,y1)/\xs=[.agg ((zAN a0).map .s)]/\r = .val (.tup [.s (.sl 4 (Nd.encs y0)),.s (.int .i64 y1)])
def zGf:zAq:=zAw fun xs r=>∃ n,zKa n xs r
theorem zJB:PSound Tryz.prog 183 zGf :=
 zTT (zWy zHl zHk) fun xs r ⟨n,a,y,z,hm,hx,hr⟩=>by
  unfold zBu at hm;split at hm
  ·rename_i q hq
   obtain rfl:=Option.some.inj hm;exact .inl ⟨a,y,z,hq,hx,hr⟩
  ·exact .inr ⟨n,a,y,z,hm,hx,hr⟩
def zKO (n:Nat) (xs:List AV) (r:Ret):Prop:=∃ (a0:(zO8×List Nd)) (y0:List Nd) (y1:Int),zCK n a0=some (y0,y1)/\xs=[.agg ((zAN a0).map .s)]/\r = .val (.tup [.s (.sl 4 (Nd.encs y0)),.s (.int .i64 y1)])
def zGN:zAq:=zAw fun xs r=>∃ n,zKO n xs r
theorem zKi:PSound Tryz.prog 147 zGN:=by
 have gok:∀ f s,look? f [(179,zGc),(180,zGd),(181,zGe),(182,zHm),(183,zGf),(184,zHY)]=some s->PSound Tryz.prog f s:=zAl (by
  simp only[List.forall_mem_cons]
  exact⟨zJy,zJz,zJA,zLa,zJB,zL3,by simp⟩)
 refine zAC tokW Tryz.call147 Tryz.func147 rfl (fun xs r h=>by obtain⟨n,_,_,_,_,rfl,_⟩:=h; show 1<=41; decide) 41 rfl ?_;rintro xs r w0 G0 ⟨n,⟨⟨c1Ac,c1Ag,c1N,c1Ad,c1Aa,c1Ab,c1Af,c1Ae⟩,c1O⟩,y0,y1,h,rfl,rfl⟩ _;rw[zCK]at h;refine zZO ?_;refine zAa ?_;refine zZO ?_;obtain⟨y2,hy2,h⟩:=zAc h;refine⟨_,⟨_,_,hy2,rfl,rfl⟩,?_⟩
 refine zZO ?_;refine zAh rfl h (fun hb h=>?_) (fun hb h=>?_)
 ·refine zZO ?_;refine zAe ?_;obtain⟨hj1,hk1⟩:=pij h;subst hj1 hk1;exact fin0 rfl rfl
 ·refine zAf ?_;refine zAa ?_;refine zZO ?_;refine zAk ?_;refine zZO ?_;refine zAh rfl h (fun hb h=>?_) (fun hb h=>?_)
  ·refine zZO ?_;obtain⟨⟨y3,y4⟩,hy3,h⟩:=zAc h;refine⟨_,⟨_,_,_,_,hy3,rfl,rfl⟩,?_⟩
   refine zAe ?_;obtain⟨hj1,hk1⟩:=pij h;subst hj1 hk1;exact fin0 rfl rfl
  ·refine zZO ?_;refine zAh rfl h (fun hb h=>?_) (fun hb h=>?_)
   ·refine zZO ?_;obtain⟨⟨y5,y6⟩,hy5,h⟩:=zAc h;refine⟨_,⟨_,_,_,_,hy5,rfl,rfl⟩,?_⟩
    refine zAe ?_;obtain⟨hj1,hk1⟩:=pij h;subst hj1 hk1;exact fin0 rfl rfl
   ·refine zZO ?_;refine zAh rfl h (fun hb h=>?_) (fun hb h=>?_)
    ·refine zZO ?_;obtain⟨⟨y7,y8⟩,hy7,h⟩:=zAc h;refine⟨_,⟨_,_,_,_,hy7,rfl,rfl⟩,?_⟩
     refine zAe ?_;obtain⟨hj1,hk1⟩:=pij h;subst hj1 hk1;exact fin0 rfl rfl
    ·refine zZO ?_;refine zAh rfl h (fun hb h=>?_) (fun hb h=>?_)
     ·refine zZO ?_;obtain⟨⟨y9,y10⟩,hy9,h⟩:=zAc h;refine⟨_,⟨_,_,_,_,hy9,rfl,rfl⟩,?_⟩
      refine zAe ?_;obtain⟨hj1,hk1⟩:=pij h;subst hj1 hk1;exact fin0 rfl rfl
     ·refine zAf ?_;refine zZO ?_;obtain⟨⟨y11,y12⟩,hy11,h⟩:=zAc h;refine⟨_,⟨_,_,_,_,hy11,rfl,rfl⟩,?_⟩
      refine zAe ?_;obtain⟨hj1,hk1⟩:=pij h;subst hj1 hk1;exact fin0 rfl rfl
def zRT (n:Nat) (xs:List AV) (r:Ret):Prop:=∃ (a0:Nd) (a1:zO8) (y0:Nd) (y1:Int),zE0 n a0 a1=some (y0,y1)/\xs=[.agg ((Nd.enc a0).map .s),.agg ((zAn a1).map .s)]/\r = .val (.tup [.agg ((Nd.enc y0).map .s),.s (.int .i64 y1)])
def zM4:zAq:=zAw fun xs r=>∃ n,zRT n xs r
theorem zRl:PSound Tryz.prog 111 zM4:=by
 have gok:∀ f s,look? f [(73,zDw),(145,zLH),(146,zPX),(147,zGN),(148,zN5)]=some s->PSound Tryz.prog f s:=zAl (by
  simp only[List.forall_mem_cons]
  exact⟨zDH,zPI,zTL,zKi,zSN,by simp⟩)
 refine zAC tokW Tryz.call111 Tryz.func111 rfl (fun xs r h=>by obtain⟨n,_,_,_,_,_,rfl,_⟩:=h; show 2<=53; decide) 53 rfl ?_;rintro xs r w0 G0 ⟨n,⟨n1A,n1B,n1F,n1E⟩,⟨op2A,op2I,op2J,op2L,op2G,op2K,op2M,op2B⟩,y0,y1,h,rfl,rfl⟩ _;rw[zE0]at h;refine zYZ [4] [] rfl ?_;refine zAa ?_;refine zZO ?_;obtain⟨y3,hy3,h⟩:=zAc h;refine⟨_,⟨_,_,_,hy3,rfl,rfl⟩,?_⟩
 refine zAh rfl h (fun hb h=>?_) (fun hb h=>?_)
 ·refine zZO ?_;refine zAe ?_;obtain⟨hj1,hk1⟩:=pij h;subst hj1 hk1;exact fin0 rfl rfl
 ·refine zAf ?_;refine zAa ?_;refine zZO ?_;obtain⟨y4,hy4,h⟩:=zAc h;refine⟨_,⟨_,_,_,hy4,rfl,rfl⟩,?_⟩
  refine zAh rfl h (fun hb h=>?_) (fun hb h=>?_)
  ·refine zZO ?_;refine zAe ?_;obtain⟨hj1,hk1⟩:=pij h;subst hj1 hk1;exact fin0 rfl rfl
  ·refine zAf ?_;refine zYZ [6] [] rfl ?_;obtain⟨⟨⟨y5A,y5B,y5F,y5E⟩,y6⟩,hy5,h⟩:=zAc h;refine⟨_,⟨_,_,_,_,_,hy5,rfl,rfl⟩,?_⟩
   refine zAa ?_;refine zZO ?_;refine zAh rfl h (fun hb h=>?_) (fun hb h=>?_)
   ·refine zZO ?_;refine zAe ?_;obtain⟨hj1,hk1⟩:=pij h;subst hj1 hk1;exact fin0 rfl rfl
   ·refine zAf ?_;refine zZO ?_;obtain⟨⟨y7,y8⟩,hy7,h⟩:=zAc h;refine⟨_,⟨_,_,_,_,hy7,rfl,rfl⟩,?_⟩
    refine zAa ?_;refine zZO ?_;refine zAh rfl h (fun hb h=>?_) (fun hb h=>?_)
    ·refine zZO ?_;refine zAe ?_;obtain⟨hj1,hk1⟩:=pij h;subst hj1 hk1;exact fin0 rfl rfl
    ·refine zAf ?_;refine zYZ [8] [] rfl ?_;obtain⟨⟨⟨y9A,y9B,y9F,y9E⟩,y10⟩,hy9,h⟩:=zAc h;refine⟨_,⟨_,_,_,_,_,_,hy9,rfl,rfl⟩,?_⟩
     refine zAj (Le.giveBox 2 [.int .i64 y9A,.str y9B,.int .i64 y9F,.sl 4 (Nd.encs y9E)] rfl rfl) ?_;refine zAa ?_;refine zZO ?_;refine zAh rfl h (fun hb h=>?_) (fun hb h=>?_)
     ·refine zZO ?_;refine zAe ?_;obtain⟨hj1,hk1⟩:=pij h;subst hj1 hk1;exact fin0 rfl rfl
     ·refine zAf ?_;refine zZO ?_;refine zAe ?_;obtain⟨hj1,hk1⟩:=pij h;subst hj1 hk1;exact fin0 rfl rfl
def zN0 (n:Nat) (xs:List AV) (r:Ret):Prop:=∃ (a0:Nd) (a1:List zO8) (y0:Nd) (y1:Int) (y2:Int),zCc n a0 a1=some (y0,y1,y2)/\xs=[.agg ((Nd.enc a0).map .s),.s (.sl 8 ((List.map zAn) a1))]/\r = .val (.tup [.agg ((Nd.enc y0).map .s),.s (.int .i64 y1),.s (.int .i64 y2)])
def zI5:zAq:=zAw fun xs r=>∃ n,zN0 n xs r
theorem zND:PSound Tryz.prog 74 zI5:=by
 have gok:∀ f s,look? f [(73,zDw),(53,zGL),(111,zM4)]=some s->PSound Tryz.prog f s:=zAl (by
  simp only[List.forall_mem_cons]
  exact⟨zDH,zHF,zRl,by simp⟩)
 refine zAC tokW Tryz.call74 Tryz.func74 rfl (fun xs r h=>by obtain⟨n,_,_,_,_,_,_,rfl,_⟩:=h; show 2<=39; decide) 39 rfl ?_;rintro xs r w0 G0 ⟨n,⟨n1A,n1B,n1F,n1E⟩,ops2,y0,y1,y2,h,rfl,rfl⟩ _;rw[zCc]at h;refine zYZ [4] [] rfl ?_;refine zAa ?_;refine zZO ?_;obtain⟨y3,hy3,h⟩:=zAc h;refine⟨_,⟨_,_,_,hy3,rfl,rfl⟩,?_⟩
 refine zAh rfl h (fun hb h=>?_) (fun hb h=>?_)
 ·refine zZO ?_;refine zAe ?_;obtain⟨hj1,hk1⟩:=pij h;subst hj1;obtain⟨hj2,hk2⟩:=Prod.mk.inj hk1;subst hj2;subst hk2;exact fin0 rfl rfl
 ·refine zAf ?_;refine zYZ [7] [] rfl ?_;obtain⟨⟨y4A,y4B,y4F,y4E⟩,hy4,h⟩:=zAc h;refine⟨_,⟨_,_,hy4,rfl,rfl⟩,?_⟩
  refine zAa ?_;refine zYZ [] [19] rfl ?_;intro n5 hn5;obtain rfl:(ops2.length:Int)=n5:=(hn5.trans (congrArg (fun m:Nat=>(m:Int)) (rlen (fun _=>rfl) ops2))).symm;show Tri ..;obtain⟨fl,hl,ho1⟩:=zAc h;refine zDe (fl:=fl) (fun z=>match z with | ⟨x12,x13,x14,x15⟩=>⟨ofL [(4,.op 0 0),(7,.op 1 0)],ofH [(0,.box 24 [.s (.int .i64 0),.s (.str []),.s (.int .i64 0),.nl 4]),(1,.box 24 [.s (.int .i64 x12),.s (.str x13),.s (.int .i64 x14),.s (.sl 4 (Nd.encs x15))])],2⟩) ?_ (fun z σ' hz hle=>?_)
  ·refine zAk (zAD (X:=Nat×Int×(List UInt8)×Int×(List Nd)×Int) (fun y=>match y with | (k,x7,x8,x9,x10,x11)=>⟨ofL [(4,.op 0 0),(7,.op 1 0),(18,.s (.sl 8 ((List.map zAn) ops2))),(19,.s (.int .i64 (ops2.length:Int))),(20,.s (.int .i64 x11))],ofH [(0,.box 24 [.s (.int .i64 0),.s (.str []),.s (.int .i64 0),.nl 4]),(1,.box 24 [.s (.int .i64 x7),.s (.str x8),.s (.int .i64 x9),.s (.sl 4 (Nd.encs x10))])],2⟩) (fun y=>zBf n ops2 y.1 y.2.1 y.2.2.1 y.2.2.2.1 y.2.2.2.2.1 y.2.2.2.2.2=some fl) (fun y=>y.1) (n,y4A,y4B,y4F,y4E,0) hl ?_ ?_)
   ·exact(Le.rnm [(0,0),(1,1)] _ _ _ ⟨rfl,rfl,rfl,rfl,rfl,trivial⟩ ⟨rfl,⟨_,rfl,rfl⟩,rfl,⟨_,rfl,rfl⟩,trivial⟩)
   ·rintro⟨k,x7,x8,x9,x10,x11⟩ h;cases k with
    | zero=>cases h
    | succ k =>
     replace h:zBf n ops2 (k+1) x7 x8 x9 x10 x11=some fl:=h;rw[zBf]at h;refine zZO ?_;refine zAa ?_;refine zAh rfl h (fun hb h=>?_) (fun hb h=>?_)
     ·refine zAf ?_;refine zAa ?_;refine zAk ?_;refine zYZ [9] [23] rfl ?_;obtain⟨⟨e16A,e16I,e16J,e16L,e16G,e16K,e16M,e16B⟩,he16,h⟩:=zAc h;refine And.intro (zAt (fun _=>rfl) he16).1 ?_;intro r17 hr17;obtain rfl:[.int .i64 e16A,.sl 1 ((List.map (irow .i64)) e16I),.int .i64 e16J,.int .i64 e16L,.sl 4 (Nd.encs e16G),.int .i64 e16K,.str e16M,.str e16B]=r17:=(hr17.trans (zAt (fun _=>rfl) he16).2.1).symm;show Tri ..
      refine zAj (Le.giveBox 2 [.int .i64 e16A,.sl 1 ((List.map (irow .i64)) e16I),.int .i64 e16J,.int .i64 e16L,.sl 4 (Nd.encs e16G),.int .i64 e16K,.str e16M,.str e16B] rfl rfl) ?_;refine zYZ [10] [] rfl ?_;obtain⟨⟨⟨y18A,y18B,y18F,y18E⟩,y19⟩,hy18,h⟩:=zAc h;refine⟨_,⟨_,_,_,_,_,hy18,rfl,rfl⟩,?_⟩
      refine zAj (Le.giveBox 3 [.int .i64 y18A,.str y18B,.int .i64 y18F,.sl 4 (Nd.encs y18E)] rfl rfl) ?_;refine zAa ?_;refine zZO ?_;refine zAh rfl h (fun hb h=>?_) (fun hb h=>?_)
      ·refine zZO ?_;refine zAe ?_;cases h;replace h:some _=some _:=ho1;obtain⟨hj1,hk1⟩:=pij h;subst hj1;obtain⟨hj2,hk2⟩:=Prod.mk.inj hk1;subst hj2;subst hk2;exact fin0 rfl rfl
      ·refine zAf ?_;refine zZN ?_;refine zZN ?_;refine⟨(k,y18A,y18B,y18F,y18E,IntKind.i64.wrap (x11+1)),h,(Le.rnm [(0,0),(1,1)] _ _ _ ⟨rfl,rfl,rfl,rfl,rfl,trivial⟩ ⟨rfl,⟨_,rfl,rfl⟩,rfl,⟨_,rfl,rfl⟩,trivial⟩),Nat.lt_succ_self k⟩
     ·refine zAJ ?_;cases h;exact⟨_,rfl,(Le.rnm [(0,0),(1,1)] _ _ _ ⟨rfl,rfl,trivial⟩ ⟨rfl,⟨_,rfl,rfl⟩,rfl,⟨_,rfl,rfl⟩,trivial⟩)⟩
  ·subst hz;obtain⟨x12,x13,x14,x15⟩:=z;replace h:=ho1;refine zAj hle ?_;refine zZO ?_;refine zAe ?_;obtain⟨hj1,hk1⟩:=pij h;subst hj1;obtain⟨hj2,hk2⟩:=Prod.mk.inj hk1;subst hj2;subst hk2;exact fin0 rfl rfl
def zN2 (xs:List AV) (os:List Ob) (x:AV) (os':List (Option Ob)):Prop:=∃ (y0:CV),zBD=some y0/\xs=[.orow 0]/\os=[.row 68 4 []]/\x = .agg (match y0 with | .mk k i t _=>[.s (.int .i64 k),.s (.int .i64 i),.s (.str t),.orow 1])/\os'=[none,some (.row 68 4 (match y0 with | .mk _ _ _ l=>CV.encs l))]
def zD9:zAq:=zBK (fun xs os x os'=>zN2 xs os x os') (some 0)
theorem zEN:PSound Tryz.prog 58 zD9:=by
 have gok:=@gok0 Tryz.prog;refine PSound.withNil (zDQ tokW Tryz.call58 Tryz.func58 rfl (fun xs os x os' h=>by obtain⟨_,_,rfl,rfl,_,rfl⟩:=h; exact⟨by show 1<=5; decide,by show 1<=2; decide⟩) 5 rfl ?_) _;rintro xs os x os' w0 G0 B0 ⟨y0,h,rfl,rfl,rfl,rfl⟩ _;rw[zBD]at h;cases h;refine zYZ [2] [] rfl ?_;refine zZO ?_;refine zAe ?_;unfold zA8
 exact⟨_,(Le.rnm [(0,1),(1,2)] [(2,.op 2 0)] [(1,.row 68 4 []),(2,.box 68 [.s (.int .i64 3),.s (.int .i64 0),.s (.str []),.orow 1])] 3 ⟨rfl,trivial⟩ ⟨rfl,⟨_,rfl,rfl⟩,rfl,⟨_,rfl,rfl⟩,trivial⟩),rfl,rfl,rfl,rfl,trivial⟩
def zE5 (n:Nat) (xs:List AV) (r:Ret):Prop:=∃ (a0:CV) (a1:Int) (y0:Bool),zCy n a0 a1=some y0/\xs=[.s (.pt (CV.enc a0)),.s (.int .i64 a1)]/\r = .val (.s (.bool y0))
theorem zNI (n:Nat) (ih:PSound Tryz.prog 99 (zAw (zE5 n))):PSound Tryz.prog 99 (zAw (zE5 (n+1))):=by
 have gok:∀ f s,look? f [(99,zAw (zE5 n))]=some s->PSound Tryz.prog f s:=zAl (by
  simp only[List.forall_mem_cons]
  exact⟨ih,by simp⟩)
 refine zAC tokW Tryz.call99 Tryz.func99 rfl (fun xs r h=>by obtain⟨_,_,_,_,rfl,_⟩:=h; show 2<=75; decide) 75 rfl ?_;rintro xs r w0 G0 ⟨⟨a1A,a1D,a1B,a1C⟩,a2,y0,h,rfl,rfl⟩ _;rw[zCy]at h;refine zZO ?_;refine zAa ?_;refine zZO ?_;refine zAh rfl h (fun hb h=>?_) (fun hb h=>?_)
 ·refine zZO ?_;refine zAe ?_;have hy:=osi h;subst hy;exact fin0 rfl rfl
 ·refine zAf ?_;refine zAa ?_;refine zZO ?_;refine zAk ?_;refine zZO ?_;refine zAh rfl h (fun hb h=>?_) (fun hb h=>?_)
  ·refine zAa ?_;obtain⟨x3,hj,h⟩:=zAc h;refine zAo ⟨ofL [(4,.s (.bool x3))],fun _=>none,0⟩ ?_ (fun σ' hle=>?_)
   ·replace h:=hj;refine zAb [] [19,24] rfl ?_;intro b hb;cases b with
    | true =>
     replace h:=zAF hb.symm h;intro n4 hn4;obtain rfl:(a1C.length:Int)=n4:=(hn4.trans (congrArg (fun m:Nat=>(m:Int)) (rlen CV.encs_eq a1C))).symm;cases h;exact(Le.forget _ ⟨rfl,trivial⟩)
    | false =>
     replace h:=zAE hb.symm h;cases h;exact(Le.forget _ ⟨rfl,trivial⟩)
   ·refine zAj hle ?_;refine zAe ?_;have hy:=osi h;subst hy;exact fin0 rfl rfl
  ·refine zZO ?_;refine zAh rfl h (fun hb h=>?_) (fun hb h=>?_)
   ·refine zAa ?_;obtain⟨x5,hj,h⟩:=zAc h;refine zAo ⟨ofL [(4,.s (.bool x5))],fun _=>none,0⟩ ?_ (fun σ' hle=>?_)
    ·replace h:=hj;refine zAb [] [34,39] rfl ?_;intro b hb;cases b with
     | true =>
      replace h:=zAF hb.symm h;intro n6 hn6;obtain rfl:(a1C.length:Int)=n6:=(hn6.trans (congrArg (fun m:Nat=>(m:Int)) (rlen CV.encs_eq a1C))).symm;cases h;exact(Le.forget _ ⟨rfl,trivial⟩)
     | false =>
      replace h:=zAE hb.symm h;cases h;exact(Le.forget _ ⟨rfl,trivial⟩)
    ·refine zAj hle ?_;refine zAe ?_;have hy:=osi h;subst hy;exact fin0 rfl rfl
   ·refine zZO ?_;refine zAh rfl h (fun hb h=>?_) (fun hb h=>?_)
    ·refine zAa ?_;refine zAa ?_;obtain⟨x7,hj,h⟩:=zAc h;refine zAo ⟨ofL [(0,.s (.pt [.int .i64 a1A,.int .i64 a1D,.str a1B,.sl 4 (CV.encs a1C)])),(1,.s (.int .i64 a2)),(55,.s (.bool x7))],fun _=>none,0⟩ ?_ (fun σ' hle=>?_)
     ·replace h:=hj;refine zAb [] [49] rfl ?_;intro b hb;cases b with
      | true =>
       replace h:=zAF hb.symm h;cases h;exact(Le.forget _ ⟨rfl,rfl,rfl,trivial⟩)
      | false =>
       replace h:=zAE hb.symm h;cases h;exact(Le.forget _ ⟨rfl,rfl,rfl,trivial⟩)
     ·refine zAj hle ?_;refine zAh rfl h (fun hb h=>?_) (fun hb h=>?_)
      ·refine zZO ?_;refine zAe ?_;have hy:=osi h;subst hy;exact fin0 rfl rfl
      ·refine zAf ?_;refine zAa ?_;refine zYZ [] [60] rfl ?_;intro n8 hn8;obtain rfl:(a1C.length:Int)=n8:=(hn8.trans (congrArg (fun m:Nat=>(m:Int)) (rlen CV.encs_eq a1C))).symm;show Tri ..;obtain⟨fl,hl,ho1⟩:=zAc h;refine zDe (fl:=fl) (fun z=>match z with | _=>⟨ofL [],fun _=>none,0⟩) ?_ (fun z σ' hz hle=>?_)
       ·refine zAk (zAD (X:=Nat×Int) (fun y=>match y with | (k,x9)=>⟨ofL [(0,.s (.pt [.int .i64 a1A,.int .i64 a1D,.str a1B,.sl 4 (CV.encs a1C)])),(1,.s (.int .i64 a2)),(60,.s (.int .i64 (a1C.length:Int))),(61,.s (.int .i64 x9))],fun _=>none,0⟩) (fun y=>zBF (zCy n) a1C a2 y.1 y.2=some fl) (fun y=>y.1) (n,0) hl ?_ ?_)
        ·exact(Le.forget _ ⟨rfl,rfl,rfl,rfl,trivial⟩)
        ·rintro⟨k,x9⟩ h;cases k with
         | zero=>cases h
         | succ k =>
          replace h:zBF (zCy n) a1C a2 (k+1) x9=some fl:=h;rw[zBF]at h;refine zZO ?_;refine zAa ?_;refine zAh rfl h (fun hb h=>?_) (fun hb h=>?_)
          ·refine zAf ?_;refine zAa ?_;refine zAk ?_;refine zZO ?_;refine zYZ [] [69] rfl ?_;obtain⟨⟨e10A,e10D,e10B,e10C⟩,he10,h⟩:=zAc h;refine And.intro (zAt CV.encs_eq he10).1 ?_;intro r11 hr11;obtain rfl:[.int .i64 e10A,.int .i64 e10D,.str e10B,.sl 4 (CV.encs e10C)]=r11:=(hr11.trans (zAt CV.encs_eq he10).2.1).symm;obtain⟨y12,hy12,h⟩:=zAc h;refine⟨_,⟨_,_,_,hy12,rfl,rfl⟩,?_⟩
           refine zAh rfl h (fun hb h=>?_) (fun hb h=>?_)
           ·refine zZO ?_;refine zAe ?_;cases h;replace h:some _=some _:=ho1;have hy:=osi h;subst hy;exact fin0 rfl rfl
           ·refine zAf ?_;refine zZN ?_;refine⟨(k,IntKind.i64.wrap (x9+1)),h,(Le.forget _ ⟨rfl,rfl,rfl,rfl,trivial⟩),Nat.lt_succ_self k⟩
          ·refine zAJ ?_;cases h;exact⟨_,rfl,(Le.forget _ trivial)⟩
       ·subst hz;obtain _:=z;replace h:=ho1;refine zAj hle ?_;refine zZO ?_;refine zAe ?_;have hy:=osi h;subst hy;exact fin0 rfl rfl
    ·refine zAf ?_;refine zZO ?_;refine zAe ?_;have hy:=osi h;subst hy;exact fin0 rfl rfl
theorem zOb:∀ n,PSound Tryz.prog 99 (zAw (zE5 n)):=by
 intro n
 induction n with
 | zero=>exact zEh Tryz.call99 (fun xs r h=>by obtain⟨_,_,_,h,_⟩:=h; cases h)
 | succ n ih=>exact zNI n ih
def zLG:zAq:=zAw fun xs r=>∃ n,zE5 n xs r
theorem zPH:PSound Tryz.prog 99 zLG:=zE2 zOb
def zQK (n:Nat) (xs:List AV) (r:Ret):Prop:=∃ (a0:CV) (y0:Bool),zFb n a0=some y0/\xs=[.agg ((CV.enc a0).map .s)]/\r = .val (.s (.bool y0))
def zLF:zAq:=zAw fun xs r=>∃ n,zQK n xs r
theorem zPG:PSound Tryz.prog 56 zLF:=by
 have gok:∀ f s,look? f [(99,zLG)]=some s->PSound Tryz.prog f s:=zAl (by
  simp only[List.forall_mem_cons]
  exact⟨zPH,by simp⟩)
 refine zAC tokW Tryz.call56 Tryz.func56 rfl (fun xs r h=>by obtain⟨n,_,_,_,rfl,_⟩:=h; show 1<=4; decide) 4 rfl ?_;rintro xs r w0 G0 ⟨n,⟨v1A,v1D,v1B,v1C⟩,y0,h,rfl,rfl⟩ _;rw[zFb]at h;refine zZO ?_;refine zZO ?_;obtain⟨y2,hy2,h⟩:=zAc h;refine⟨_,⟨_,_,_,_,hy2,rfl,rfl⟩,?_⟩
 refine zAe ?_;have hy:=osi h;subst hy;exact fin0 rfl rfl
def zPp (xs:List AV) (r:Ret):Prop:=∃ (a0:CV) (y0:Int),zEF a0=some y0/\xs=[.s (.pt (CV.enc a0))]/\r = .val (.s (.int .u64 y0))
def zKu:zAq:=zAw fun xs r=>zPp xs r
theorem zOI:PSound Tryz.prog 135 zKu:=by
 have gok:=@gok0 Tryz.prog;refine zAC tokW Tryz.call135 Tryz.func135 rfl (fun xs r h=>by obtain⟨_,_,_,rfl,_⟩:=h; show 1<=48; decide) 48 rfl ?_;rintro xs r w0 G0 ⟨⟨v1A,v1D,v1B,v1C⟩,y0,h,rfl,rfl⟩ _;rw[zEF]at h;refine zZO ?_;refine zAa ?_;refine zAk ?_;refine zZO ?_;refine zAh rfl h (fun hb h=>?_) (fun hb h=>?_)
 ·refine zZO ?_;refine zAe ?_;have hy:=osi h;subst hy;exact fin0 rfl rfl
 ·refine zZO ?_;refine zAh rfl h (fun hb h=>?_) (fun hb h=>?_)
  ·refine zYZ [] [25] rfl ?_;intro n2 hn2;obtain rfl:(v1C.length:Int)=n2:=(hn2.trans (congrArg (fun m:Nat=>(m:Int)) (rlen CV.encs_eq v1C))).symm;refine zAe ?_;have hy:=osi h;subst hy;exact fin0 rfl rfl
  ·refine zZO ?_;refine zAh rfl h (fun hb h=>?_) (fun hb h=>?_)
   ·refine zZO ?_;refine zAe ?_;have hy:=osi h;subst hy;exact fin0 rfl rfl
   ·refine zAf ?_;refine zZO ?_;refine zAe ?_;have hy:=osi h;subst hy;exact fin0 rfl rfl
def zNX (n:Nat) (xs:List AV) (r:Ret):Prop:=∃ (a0:Int) (y0:Int),zDq n a0=some y0/\xs=[.s (.int .u64 a0)]/\r = .val (.s (.int .i64 y0))
def zGI:zAq:=zAw fun xs r=>∃ n,zNX n xs r
theorem zIR:PSound Tryz.prog 136 zGI:=by
 have gok:=@gok0 Tryz.prog;refine zAC tokW Tryz.call136 Tryz.func136 rfl (fun xs r h=>by obtain⟨n,_,_,_,rfl,_⟩:=h; show 1<=13; decide) 13 rfl ?_;rintro xs r w0 G0 ⟨n,n1,y0,h,rfl,rfl⟩ _;rw[zDq]at h;refine zZO ?_;refine zZO ?_;refine zAa ?_;refine zZO ?_;refine And.intro (by decide) ?_;show Tri ..;obtain⟨k4,hl,h⟩:=zAc h;refine zAo ⟨ofL [(3,.s (.int .i64 k4))],fun _=>none,0⟩ ?_ (fun σ' hle=>?_)
 ·refine zAk (zAD (X:=Nat×Int×Int) (fun y=>match y with | (k,n2,k3)=>⟨ofL [(0,.s (.int .u64 n2)),(3,.s (.int .i64 k3))],fun _=>none,0⟩) (fun y=>zBe  y.1 y.2.1 y.2.2=some k4) (fun y=>y.1) (n,n1.fdiv (2 ^ (min (8:Int).toNat IntKind.u64.bits)),1) hl ?_ ?_)
  ·exact(Le.forget _ ⟨rfl,rfl,trivial⟩)
  ·rintro⟨k,n2,k3⟩ h;cases k with
   | zero=>cases h
   | succ k =>
    replace h:zBe  (k+1) n2 k3=some k4:=h;rw[zBe]at h;refine zAa ?_;refine zZO ?_;refine zAh rfl h (fun hb h=>?_) (fun hb h=>?_)
    ·refine zAf ?_;refine zAa ?_;refine zAk ?_;refine zZN ?_;refine zZN ?_;refine And.intro (by decide) ?_;refine⟨(k,n2.fdiv (2 ^ (min (8:Int).toNat IntKind.u64.bits)),IntKind.i64.wrap (k3+1)),h,(Le.forget _ ⟨rfl,rfl,trivial⟩),Nat.lt_succ_self k⟩
    ·refine zAJ ?_;cases h;exact(Le.forget _ ⟨rfl,trivial⟩)
 ·refine zAj hle ?_;refine zZO ?_;refine zAe ?_;have hy:=osi h;subst hy;exact fin0 rfl rfl
def zRS (n:Nat) (xs:List AV) (os:List Ob) (x:AV) (os':List (Option Ob)):Prop:=∃ (a0:List UInt8) (a1:CV) (y0:List UInt8),zFZ n a0 a1=some y0/\xs=[.orow 0,.s (.pt (CV.enc a1))]/\os=[.row 5 1 ((List.map brow) a0)]/\x = .orow 1/\os'=[none,some (.row 5 1 ((List.map brow) y0))]
def zM3:zAq:=zBK (fun xs os x os'=>∃ n,zRS n xs os x os') (some 0)
theorem zS2 {α:Type}{a b:α} (h:a=b:=by simp[List.map_append,List.map_take,List.map_drop,irow,brow,zGp,List.map_cons,List.map_nil,zFV,Nd.encs_eq,Nd.enc,CV.encs_eq,CV.enc]):a=b :=
 h
theorem zRk:PSound Tryz.prog 100 zM3:=by
 have gok:∀ f s,look? f [(135,zKu),(136,zGI)]=some s->PSound Tryz.prog f s:=zAl (by
  simp only[List.forall_mem_cons]
  exact⟨zOI,zIR,by simp⟩)
 refine PSound.withNil (zDQ tokW Tryz.call100 Tryz.func100 rfl (fun xs os x os' h=>by obtain⟨n,_,_,_,_,rfl,rfl,_,rfl⟩:=h; exact⟨by show 2<=54; decide,by show 1<=2; decide⟩) 54 rfl ?_) _;rintro xs os x os' w0 G0 B0 ⟨n,b1,⟨v2A,v2D,v2B,v2C⟩,y0,h,rfl,rfl,rfl,rfl⟩ _;rw[zFZ]at h;refine zYZ [4] [] rfl ?_;refine zAj (Le.rnm [(0,0)] [(0,.orow 0),(1,.s (.pt [.int .i64 v2A,.int .i64 v2D,.str v2B,.sl 4 (CV.encs v2C)]))] [(0,.row 5 1 ((List.map brow) b1))] 1 ⟨rfl,rfl,trivial⟩ ⟨rfl,⟨_,rfl,rfl⟩,trivial⟩) ?_;refine zZO ?_
 obtain⟨y3,hy3,h⟩:=zAc h;refine⟨_,⟨_,_,hy3,rfl,rfl⟩,?_⟩
 refine zAa ?_;refine zZO ?_;refine zAh rfl h (fun hb h=>?_) (fun hb h=>?_)
 ·refine zYZ [23] [22] rfl ?_;intro r4 hr4;obtain rfl:(List.map brow) [b8of (IntKind.u8.wrap ((IntKind.u8.wrap (IntKind.i64.wrap (64 * v2A)))+(IntKind.u8.wrap y3)))]=r4:=(hr4.trans zS2).symm;obtain⟨hq,h⟩:=zAI h
  refine And.intro (show(((List.map brow) b1).length+((List.map brow) [b8of (IntKind.u8.wrap ((IntKind.u8.wrap (IntKind.i64.wrap (64 * v2A)))+(IntKind.u8.wrap y3)))]).length) * 1<=140737488355328/\((List.map brow) b1).length+((List.map brow) [b8of (IntKind.u8.wrap ((IntKind.u8.wrap (IntKind.i64.wrap (64 * v2A)))+(IntKind.u8.wrap y3)))]).length<=9223372036854775807 from by simp only[List.length_append,List.length_cons,List.length_nil,List.length_map,rlen (fun _=>rfl)]at hq ⊢; omega) ?_;show Tri ..
  refine zAj (Le.rnm [(1,1)] [(4,.orow 1)] [(1,.row 5 1 ((List.map brow) (b1++[b8of (IntKind.u8.wrap ((IntKind.u8.wrap (IntKind.i64.wrap (64 * v2A)))+(IntKind.u8.wrap y3)))])))] 2 ⟨rfl,trivial⟩ ⟨rfl,⟨_,rfl,congrArg (Ob.row 5 1) zS2⟩,trivial⟩) ?_;refine zAe ?_;have hy:=osi h;subst hy;unfold zA8
  exact⟨_,(Le.rnm [(1,1)] [(4,.orow 1)] [(1,.row 5 1 ((List.map brow) (b1++[b8of (IntKind.u8.wrap ((IntKind.u8.wrap (IntKind.i64.wrap (64 * v2A)))+(IntKind.u8.wrap y3)))])))] 2 ⟨rfl,trivial⟩ ⟨rfl,⟨_,rfl,rfl⟩,trivial⟩),rfl,rfl,rfl,rfl,trivial⟩
 ·refine zAf ?_;refine zZO ?_;obtain⟨y5,hy5,h⟩:=zAc h;refine⟨_,⟨_,_,_,hy5,rfl,rfl⟩,?_⟩
  refine zYZ [38] [37] rfl ?_;intro r6 hr6;obtain rfl:(List.map brow) [b8of (IntKind.u8.wrap (IntKind.i64.wrap ((IntKind.i64.wrap ((IntKind.i64.wrap ((IntKind.i64.wrap (64 * v2A))+56)) - 1))+y5)))]=r6:=(hr6.trans zS2).symm;obtain⟨hq,h⟩:=zAI h
  refine And.intro (show(((List.map brow) b1).length+((List.map brow) [b8of (IntKind.u8.wrap (IntKind.i64.wrap ((IntKind.i64.wrap ((IntKind.i64.wrap ((IntKind.i64.wrap (64 * v2A))+56)) - 1))+y5)))]).length) * 1<=140737488355328/\((List.map brow) b1).length+((List.map brow) [b8of (IntKind.u8.wrap (IntKind.i64.wrap ((IntKind.i64.wrap ((IntKind.i64.wrap ((IntKind.i64.wrap (64 * v2A))+56)) - 1))+y5)))]).length<=9223372036854775807 from by simp only[List.length_append,List.length_cons,List.length_nil,List.length_map,rlen (fun _=>rfl)]at hq ⊢; omega) ?_;show Tri ..
  refine zAj (Le.rnm [(1,1)] [(0,.orow 1),(5,.s (.int .u64 y3)),(6,.s (.int .i64 y5))] [(1,.row 5 1 ((List.map brow) (b1++[b8of (IntKind.u8.wrap (IntKind.i64.wrap ((IntKind.i64.wrap ((IntKind.i64.wrap ((IntKind.i64.wrap (64 * v2A))+56)) - 1))+y5)))])))] 2 ⟨rfl,rfl,rfl,trivial⟩ ⟨rfl,⟨_,rfl,congrArg (Ob.row 5 1) zS2⟩,trivial⟩) ?_;refine zAa ?_;refine zZO ?_;show Tri ..;obtain⟨l10,hl,h⟩:=zAc h
  refine zAo ⟨ofL [(0,.orow 1)],ofH [(1,.row 5 1 ((List.map brow) l10))],2⟩ ?_ (fun σ' hle=>?_)
  ·refine zAk (zAD (X:=Nat×Int×(List UInt8)) (fun y=>match y with | (k,i8,l9)=>⟨ofL [(0,.orow 1),(5,.s (.int .u64 y3)),(7,.s (.int .i64 i8))],ofH [(1,.row 5 1 ((List.map brow) l9))],2⟩) (fun y=>zCa y3 y.1 y.2.1 y.2.2=some l10) (fun y=>y.1) (n,IntKind.i64.wrap (y5 - 1),b1++[b8of (IntKind.u8.wrap (IntKind.i64.wrap ((IntKind.i64.wrap ((IntKind.i64.wrap ((IntKind.i64.wrap (64 * v2A))+56)) - 1))+y5)))]) hl ?_ ?_)
   ·exact(Le.rnm [(1,1)] _ _ _ ⟨rfl,rfl,rfl,trivial⟩ ⟨rfl,⟨_,rfl,rfl⟩,trivial⟩)
   ·rintro⟨k,i8,l9⟩ h;cases k with
    | zero=>cases h
    | succ k =>
     replace h:zCa y3 (k+1) i8 l9=some l10:=h;rw[zCa]at h;refine zAa ?_;refine zZO ?_;refine zAh rfl h (fun hb h=>?_) (fun hb h=>?_)
     ·refine zAf ?_;refine zAa ?_;refine zAk ?_;refine zAb [52] [51] rfl ?_;obtain⟨hq,h⟩:=zAI h;refine And.intro hq ?_;intro r11 hr11;obtain rfl:(List.map brow) [b8of (IntKind.u8.wrap (y3.fdiv (2 ^ (min (IntKind.i64.wrap (8 * i8)).toNat IntKind.u64.bits))))]=r11:=(hr11.trans zS2).symm;obtain⟨hq,h⟩:=zAI h
      refine And.intro (show(((List.map brow) l9).length+((List.map brow) [b8of (IntKind.u8.wrap (y3.fdiv (2 ^ (min (IntKind.i64.wrap (8 * i8)).toNat IntKind.u64.bits))))]).length) * 1<=140737488355328/\((List.map brow) l9).length+((List.map brow) [b8of (IntKind.u8.wrap (y3.fdiv (2 ^ (min (IntKind.i64.wrap (8 * i8)).toNat IntKind.u64.bits))))]).length<=9223372036854775807 from by simp only[List.length_append,List.length_cons,List.length_nil,List.length_map,rlen (fun _=>rfl)]at hq ⊢; omega) ?_;show Tri ..
      refine zAj (Le.rnm [(2,1)] [(0,.orow 1),(5,.s (.int .u64 y3)),(7,.s (.int .i64 i8))] [(1,.row 5 1 ((List.map brow) (l9++[b8of (IntKind.u8.wrap (y3.fdiv (2 ^ (min (IntKind.i64.wrap (8 * i8)).toNat IntKind.u64.bits))))])))] 2 ⟨rfl,rfl,rfl,trivial⟩ ⟨rfl,⟨_,rfl,congrArg (Ob.row 5 1) zS2⟩,trivial⟩) ?_;refine zZN ?_
      refine⟨(k,IntKind.i64.wrap (i8 - 1),l9++[b8of (IntKind.u8.wrap (y3.fdiv (2 ^ (min (IntKind.i64.wrap (8 * i8)).toNat IntKind.u64.bits))))]),h,(Le.rnm [(1,1)] _ _ _ ⟨rfl,rfl,rfl,trivial⟩ ⟨rfl,⟨_,rfl,rfl⟩,trivial⟩),Nat.lt_succ_self k⟩
     ·refine zAJ ?_;cases h;exact(Le.rnm [(1,1)] _ _ _ ⟨rfl,trivial⟩ ⟨rfl,⟨_,rfl,rfl⟩,trivial⟩)
  ·refine zAj hle ?_;refine zZO ?_;refine zAe ?_;have hy:=osi h;subst hy;unfold zA8;exact⟨_,(Le.rnm [(1,1)] [(4,.orow 1)] [(1,.row 5 1 ((List.map brow) l10))] 2 ⟨rfl,trivial⟩ ⟨rfl,⟨_,rfl,rfl⟩,trivial⟩),rfl,rfl,rfl,rfl,trivial⟩
def zEA (n:Nat) (xs:List AV) (os:List Ob) (x:AV) (os':List (Option Ob)):Prop:=∃ (a0:List UInt8) (a1:CV) (y0:List UInt8),zBz n a0 a1=some y0/\xs=[.orow 0,.s (.pt (CV.enc a1))]/\os=[.row 5 1 ((List.map brow) a0)]/\x = .orow 1/\os'=[none,some (.row 5 1 ((List.map brow) y0))]
theorem zMX (n:Nat) (ih:PSound Tryz.prog 57 (zBK (zEA n) (some 0))):PSound Tryz.prog 57 (zBK (zEA (n+1)) (some 0)):=by
 have gok:∀ f s,look? f [(100,zM3),(57,zBK (zEA n) (some 0))]=some s->PSound Tryz.prog f s:=zAl (by
  simp only[List.forall_mem_cons]
  exact⟨zRk,ih,by simp⟩)
 refine PSound.withNil (zDQ tokW Tryz.call57 Tryz.func57 rfl (fun xs os x os' h=>by obtain⟨_,_,_,_,rfl,rfl,_,rfl⟩:=h; exact⟨by show 2<=50; decide,by show 1<=2; decide⟩) 50 rfl ?_) _;rintro xs os x os' w0 G0 B0 ⟨b1,⟨v2A,v2D,v2B,v2C⟩,y0,h,rfl,rfl,rfl,rfl⟩ _;rw[zBz]at h;refine zYZ [4] [] rfl ?_;refine zAj (Le.rnm [(0,0)] [(0,.orow 0),(1,.s (.pt [.int .i64 v2A,.int .i64 v2D,.str v2B,.sl 4 (CV.encs v2C)]))] [(0,.row 5 1 ((List.map brow) b1))] 1 ⟨rfl,rfl,trivial⟩ ⟨rfl,⟨_,rfl,rfl⟩,trivial⟩) ?_;refine zYZ [8] [] rfl ?_
 obtain⟨y3,hy3,h⟩:=zAc h;refine⟨_,_,⟨_,_,_,_,hy3,rfl,rfl,rfl,rfl⟩,?_⟩
 refine zAa ?_;refine zZO ?_;refine zAh rfl h (fun hb h=>?_) (fun hb h=>?_)
 ·refine zYZ [21] [] rfl ?_;obtain⟨hq,h⟩:=zAI h;refine And.intro hq ?_;obtain⟨hq,h⟩:=zAI h;refine And.intro (show(((List.map brow) y3).length+(List.map brow ((v2B.take (1048577:Int).toNat).drop (0:Int).toNat)).length) * 1<=140737488355328/\((List.map brow) y3).length+(List.map brow ((v2B.take (1048577:Int).toNat).drop (0:Int).toNat)).length<=9223372036854775807 from by simp only[List.length_append,List.length_cons,List.length_nil,List.length_map,rlen (fun _=>rfl)]at hq ⊢; omega) ?_;show Tri ..
  refine zAj (Le.rnm [(2,1)] [(4,.orow 1)] [(1,.row 5 1 ((List.map brow) (y3++((v2B.take (1048577:Int).toNat).drop (0:Int).toNat))))] 2 ⟨rfl,trivial⟩ ⟨rfl,⟨_,rfl,congrArg (Ob.row 5 1) zS2⟩,trivial⟩) ?_;refine zAe ?_;have hy:=osi h;subst hy;unfold zA8;exact⟨_,(Le.rnm [(1,1)] [(4,.orow 1)] [(1,.row 5 1 ((List.map brow) (y3++((v2B.take (1048577:Int).toNat).drop (0:Int).toNat))))] 2 ⟨rfl,trivial⟩ ⟨rfl,⟨_,rfl,rfl⟩,trivial⟩),rfl,rfl,rfl,rfl,trivial⟩
 ·refine zAf ?_;refine zYZ [27] [] rfl ?_;obtain⟨hq,h⟩:=zAI h;refine And.intro (show(((List.map brow) y3).length+(List.map brow v2B).length) * 1<=140737488355328/\((List.map brow) y3).length+(List.map brow v2B).length<=9223372036854775807 from by simp only[List.length_append,List.length_cons,List.length_nil,List.length_map,rlen (fun _=>rfl)]at hq ⊢; omega) ?_;show Tri ..
  refine zAj (Le.rnm [(2,1)] [(0,.orow 1),(1,.s (.pt [.int .i64 v2A,.int .i64 v2D,.str v2B,.sl 4 (CV.encs v2C)]))] [(1,.row 5 1 ((List.map brow) (y3++v2B)))] 2 ⟨rfl,rfl,trivial⟩ ⟨rfl,⟨_,rfl,congrArg (Ob.row 5 1) zS2⟩,trivial⟩) ?_;refine zAa ?_;refine zYZ [] [32] rfl ?_;intro n4 hn4;obtain rfl:(v2C.length:Int)=n4:=(hn4.trans (congrArg (fun m:Nat=>(m:Int)) (rlen CV.encs_eq v2C))).symm;show Tri ..;obtain⟨fl,hl,ho1⟩:=zAc h
  refine zDe (fl:=fl) (fun z=>match z with | l8=>⟨ofL [(0,.orow 1)],ofH [(1,.row 5 1 ((List.map brow) l8))],2⟩) ?_ (fun l8 σ' hz hle=>?_)
  ·refine zAk (zAD (X:=Nat×Int×(List UInt8)) (fun y=>match y with | (k,x6,l7)=>⟨ofL [(0,.orow 1),(1,.s (.pt [.int .i64 v2A,.int .i64 v2D,.str v2B,.sl 4 (CV.encs v2C)])),(32,.s (.int .i64 (v2C.length:Int))),(33,.s (.int .i64 x6))],ofH [(1,.row 5 1 ((List.map brow) l7))],2⟩) (fun y=>zBr (zBz n) v2C y.1 y.2.1 y.2.2=some fl) (fun y=>y.1) (n,0,y3++v2B) hl ?_ ?_)
   ·exact(Le.rnm [(1,1)] _ _ _ ⟨rfl,rfl,rfl,rfl,trivial⟩ ⟨rfl,⟨_,rfl,rfl⟩,trivial⟩)
   ·rintro⟨k,x6,l7⟩ h;cases k with
    | zero=>cases h
    | succ k =>
     replace h:zBr (zBz n) v2C (k+1) x6 l7=some fl:=h;rw[zBr]at h;refine zZO ?_;refine zAa ?_;refine zAh rfl h (fun hb h=>?_) (fun hb h=>?_)
     ·refine zAf ?_;refine zAa ?_;refine zAk ?_;refine zZO ?_;refine zAa ?_;refine zYZ [] [37] rfl ?_;intro n9 hn9;obtain rfl:(l7.length:Int)=n9:=(hn9.trans (congrArg (fun m:Nat=>(m:Int)) (rlen (fun _=>rfl) l7))).symm;refine zAh rfl h (fun hb h=>?_) (fun hb h=>?_)
      ·refine zZO ?_;refine zAe ?_;cases h;replace h:some _=some _:=ho1;have hy:=osi h;subst hy;unfold zA8;exact⟨_,(Le.rnm [(1,1)] [(4,.orow 1)] [(1,.row 5 1 ((List.map brow) l7))] 2 ⟨rfl,trivial⟩ ⟨rfl,⟨_,rfl,rfl⟩,trivial⟩),rfl,rfl,rfl,rfl,trivial⟩
      ·refine zAf ?_;refine zAb [47] [46] rfl ?_;obtain⟨⟨e10A,e10D,e10B,e10C⟩,he10,h⟩:=zAc h;refine And.intro (zAt CV.encs_eq he10).1 ?_;intro r11 hr11;obtain rfl:[.int .i64 e10A,.int .i64 e10D,.str e10B,.sl 4 (CV.encs e10C)]=r11:=(hr11.trans (zAt CV.encs_eq he10).2.1).symm;obtain⟨y12,hy12,h⟩:=zAc h;refine⟨_,_,⟨_,_,_,hy12,rfl,rfl,rfl,rfl⟩,?_⟩
       refine zZN ?_;refine⟨(k,IntKind.i64.wrap (x6+1),y12),h,(Le.rnm [(2,1)] _ _ _ ⟨rfl,rfl,rfl,rfl,trivial⟩ ⟨rfl,⟨_,rfl,rfl⟩,trivial⟩),Nat.lt_succ_self k⟩
     ·refine zAJ ?_;cases h;exact⟨_,rfl,(Le.rnm [(1,1)] _ _ _ ⟨rfl,trivial⟩ ⟨rfl,⟨_,rfl,rfl⟩,trivial⟩)⟩
  ·subst hz;replace h:=ho1;refine zAj hle ?_;refine zZO ?_;refine zAe ?_;have hy:=osi h;subst hy;unfold zA8;exact⟨_,(Le.rnm [(1,1)] [(4,.orow 1)] [(1,.row 5 1 ((List.map brow) l8))] 2 ⟨rfl,trivial⟩ ⟨rfl,⟨_,rfl,rfl⟩,trivial⟩),rfl,rfl,rfl,rfl,trivial⟩
theorem zNx:∀ n,PSound Tryz.prog 57 (zBK (zEA n) (some 0)):=by
 intro n
 induction n with
 | zero=>exact zHb Tryz.call57 (fun xs os x os' h=>by obtain⟨_,_,_,h,_⟩:=h; cases h) _
 | succ n ih=>exact zMX n ih
def zKt:zAq:=zBK (fun xs os x os'=>∃ n,zEA n xs os x os') (some 0)
theorem zOH:PSound Tryz.prog 57 zKt:=zIl zNx _
def zPo (n:Nat) (xs:List AV) (r:Ret):Prop:=∃ (a0:CV) (y0:List UInt8) (y1:Int),zDU n a0=some (y0,y1)/\xs=[.agg ((CV.enc a0).map .s)]/\r = .val (.tup [.s (.sl 1 ((List.map brow) y0)),.s (.int .i64 y1)])
def zKs:zAq:=zAw fun xs r=>∃ n,zPo n xs r
theorem zOG:PSound Tryz.prog 26 zKs:=by
 have gok:∀ f s,look? f [(56,zLF),(57,zKt)]=some s->PSound Tryz.prog f s:=zAl (by
  simp only[List.forall_mem_cons]
  exact⟨zPG,zOH,by simp⟩)
 refine zAC tokW Tryz.call26 Tryz.func26 rfl (fun xs r h=>by obtain⟨n,_,_,_,_,rfl,_⟩:=h; show 1<=13; decide) 13 rfl ?_;rintro xs r w0 G0 ⟨n,⟨v1A,v1D,v1B,v1C⟩,y0,y1,h,rfl,rfl⟩ _;rw[zDU]at h;refine zZO ?_;refine zAa ?_;refine zZO ?_;obtain⟨y2,hy2,h⟩:=zAc h;refine⟨_,⟨_,_,_,hy2,rfl,rfl⟩,?_⟩
 refine zAh rfl h (fun hb h=>?_) (fun hb h=>?_)
 ·refine zZO ?_;refine zAe ?_;obtain⟨hj1,hk1⟩:=pij h;subst hj1 hk1;exact fin0 rfl rfl
 ·refine zAf ?_;refine zZO ?_;obtain⟨y3,hy3,h⟩:=zAc h;refine⟨_,_,⟨_,_,_,_,hy3,rfl,rfl,rfl,rfl⟩,?_⟩
  refine zAa ?_;refine zYZ [] [10] rfl ?_;intro n4 hn4;obtain rfl:(y3.length:Int)=n4:=(hn4.trans (congrArg (fun m:Nat=>(m:Int)) (rlen (fun _=>rfl) y3))).symm;refine zAh rfl h (fun hb h=>?_) (fun hb h=>?_)
  ·refine zZO ?_;refine zAe ?_;obtain⟨hj1,hk1⟩:=pij h;subst hj1 hk1;exact fin0 rfl rfl
  ·refine zAf ?_;refine zZO ?_;refine zAe ?_;obtain⟨hj1,hk1⟩:=pij h;subst hj1 hk1;unfold zE4;exact⟨_,(Le.trans (Le.rnm [(1,0)] [(2,.orow 0),(3,.s (.int .i64 0))] [(0,.row 5 1 ((List.map brow) y3))] 1 ⟨rfl,rfl,trivial⟩ ⟨rfl,⟨_,rfl,rfl⟩,trivial⟩) (Le.giveRow 0 rfl)),rfl,rfl⟩
def zAR (p:(List UInt8)):List S:=[.sl 1 ((List.map brow) p)]
def zKM (n:Nat) (xs:List AV) (os:List Ob) (x:AV) (os':List (Option Ob)):Prop:=∃ (a0:(List UInt8)) (y0:Int) (y1:Int) (y2:Bool) (z0:(List UInt8)),zBm n a0=some (y0,y1,y2,z0)/\xs=[.op 0 0]/\os=[.box 130 ((zAR a0).map .s)]/\x = .tup [.s (.int .i64 y0),.s (.int .u64 y1),.s (.bool y2)]/\os'=[some (.box 130 ((zAR z0).map .s))]
def zGJ:zAq:=zBK (fun xs os x os'=>∃ n,zKM n xs os x os')
theorem zKg:PSound Tryz.prog 121 zGJ:=by
 have gok:∀ f s,look? f [(136,zGI)]=some s->PSound Tryz.prog f s:=zAl (by
  simp only[List.forall_mem_cons]
  exact⟨zIR,by simp⟩)
 refine PSound.withNil (zDQ tokW Tryz.call121 Tryz.func121 rfl (fun xs os x os' h=>by obtain⟨n,_,_,_,_,_,_,rfl,rfl,_,rfl⟩:=h; exact⟨by show 1<=91; decide,by show 1<=1; decide⟩) 91 rfl ?_) _;rintro xs os x os' w0 G0 B0 ⟨n,o1,y0,y1,y2,z0,h,rfl,rfl,rfl,rfl⟩ _;rw[zBm]at h;refine zZO ?_;refine zAa ?_;refine zYZ [] [12] rfl ?_;intro n2 hn2;obtain rfl:(o1.length:Int)=n2:=(hn2.trans (congrArg (fun m:Nat=>(m:Int)) (rlen (fun _=>rfl) o1))).symm;refine zAh rfl h (fun hb h=>?_) (fun hb h=>?_)
 ·refine zZO ?_;refine zAe ?_;obtain⟨hj1,hk1⟩:=pij h;subst hj1;obtain⟨hj2,hk2⟩:=Prod.mk.inj hk1;subst hj2;obtain⟨hj3,hk3⟩:=Prod.mk.inj hk2;subst hj3;subst hk3;unfold zA8;exact⟨_,(Le.rnm [(0,0)] [(2,.s (.int .i64 0)),(3,.s (.int .u64 0)),(4,.s (.bool false))] [(0,.box 130 [.s (.sl 1 ((List.map brow) o1))])] 1 ⟨rfl,rfl,rfl,trivial⟩ ⟨rfl,⟨_,rfl,rfl⟩,trivial⟩),rfl,rfl,rfl,rfl,trivial⟩
 ·refine zAf ?_;refine zAa ?_;refine zBw [] [18,26] [3,11] rfl (by decide +kernel) ?_;obtain⟨e3,he3,h⟩:=zAc h;refine And.intro (zAt (fun _=>rfl) he3).1 ?_;intro r4 hr4;obtain rfl:[.int .u8 (e3.toNat:Int)]=r4:=(hr4.trans (zAt (fun _=>rfl) he3).2.1).symm;refine And.intro (by decide) ?_;obtain⟨e5,he5,h⟩:=zAc h;refine And.intro (zAt (fun _=>rfl) he5).1 ?_;intro r6 hr6;obtain rfl:[.int .u8 (e5.toNat:Int)]=r6:=(hr6.trans (zAt (fun _=>rfl) he5).2.1).symm;refine zYZ [] [35] rfl ?_;obtain⟨hq,h⟩:=zAI h
  refine And.intro ⟨hq.1,Int.le_trans hq.2.1 (Int.ofNat_le.2 (Nat.le_of_eq (rlen (fun _=>rfl) _).symm)),Int.le_refl _⟩ ?_;intro r7 hr7;obtain rfl:(List.map brow) ((o1.take (o1.length:Int).toNat).drop (1:Int).toNat)=r7:=(hr7.trans ((congrArg (fun m:Nat=>(((List.map brow) o1).take m).drop (1:Int).toNat) (rlen (fun _=>rfl) _)).trans (rcut (fun _=>rfl) _ _ _))).symm;refine zAa ?_;refine zZO ?_;refine zAh rfl h (fun hb h=>?_) (fun hb h=>?_)
  ·refine zZO ?_;refine zAe ?_;obtain⟨hj1,hk1⟩:=pij h;subst hj1;obtain⟨hj2,hk2⟩:=Prod.mk.inj hk1;subst hj2;obtain⟨hj3,hk3⟩:=Prod.mk.inj hk2;subst hj3;subst hk3;unfold zA8;exact⟨_,(Le.rnm [(0,0)] [(2,.s (.int .i64 0)),(3,.s (.int .u64 0)),(4,.s (.bool false))] [(0,.box 130 [.s (.sl 1 ((List.map brow) ((o1.take (o1.length:Int).toNat).drop (1:Int).toNat)))])] 1 ⟨rfl,rfl,rfl,trivial⟩ ⟨rfl,⟨_,rfl,rfl⟩,trivial⟩),rfl,rfl,rfl,rfl,trivial⟩
  ·refine zAf ?_;refine zAa ?_;refine zZO ?_;refine zAh rfl h (fun hb h=>?_) (fun hb h=>?_)
   ·refine zZO ?_;refine zAe ?_;obtain⟨hj1,hk1⟩:=pij h;subst hj1;obtain⟨hj2,hk2⟩:=Prod.mk.inj hk1;subst hj2;obtain⟨hj3,hk3⟩:=Prod.mk.inj hk2;subst hj3;subst hk3;unfold zA8;exact⟨_,(Le.rnm [(0,0)] [(2,.s (.int .i64 (IntKind.i64.wrap ((e3.toNat:Int).fdiv (2 ^ (min (6:Int).toNat IntKind.u8.bits)))))),(3,.s (.int .u64 (IntKind.u64.wrap (zCD .and .u8 (e5.toNat:Int) 63)))),(4,.s (.bool true))] [(0,.box 130 [.s (.sl 1 ((List.map brow) ((o1.take (o1.length:Int).toNat).drop (1:Int).toNat)))])] 1 ⟨rfl,rfl,rfl,trivial⟩ ⟨rfl,⟨_,rfl,rfl⟩,trivial⟩),rfl,rfl,rfl,rfl,trivial⟩
   ·refine zAf ?_;refine zZO ?_;refine zAa ?_;refine zYZ [] [52] rfl ?_;intro n8 hn8;obtain rfl:(((o1.take (o1.length:Int).toNat).drop (1:Int).toNat).length:Int)=n8:=(hn8.trans (congrArg (fun m:Nat=>(m:Int)) (rlen (fun _=>rfl) ((o1.take (o1.length:Int).toNat).drop (1:Int).toNat)))).symm;refine zAh rfl h (fun hb h=>?_) (fun hb h=>?_)
    ·refine zZO ?_;refine zAe ?_;obtain⟨hj1,hk1⟩:=pij h;subst hj1;obtain⟨hj2,hk2⟩:=Prod.mk.inj hk1;subst hj2;obtain⟨hj3,hk3⟩:=Prod.mk.inj hk2;subst hj3;subst hk3;unfold zA8;exact⟨_,(Le.rnm [(0,0)] [(2,.s (.int .i64 0)),(3,.s (.int .u64 0)),(4,.s (.bool false))] [(0,.box 130 [.s (.sl 1 ((List.map brow) ((o1.take (o1.length:Int).toNat).drop (1:Int).toNat)))])] 1 ⟨rfl,rfl,rfl,trivial⟩ ⟨rfl,⟨_,rfl,rfl⟩,trivial⟩),rfl,rfl,rfl,rfl,trivial⟩
    ·refine zAf ?_;refine zZO ?_;refine zAa ?_;refine zYZ [] [60,61] rfl ?_;obtain⟨hq,h⟩:=zAI h;refine And.intro ⟨hq.1,hq.2.1,Int.le_trans hq.2.2 (Int.ofNat_le.2 (Nat.le_of_eq (rlen (fun _=>rfl) _).symm))⟩ ?_;intro r9 hr9;obtain rfl:(List.map brow) ((((o1.take (o1.length:Int).toNat).drop (1:Int).toNat).take (IntKind.i64.wrap ((IntKind.i64.wrap ((IntKind.i64.wrap (IntKind.u64.wrap (zCD .and .u8 (e5.toNat:Int) 63))) - 56))+1)).toNat).drop (0:Int).toNat)=r9:=(hr9.trans (rcut (fun _=>rfl) _ _ _)).symm;intro n10 hn10
     obtain rfl:(((((o1.take (o1.length:Int).toNat).drop (1:Int).toNat).take (IntKind.i64.wrap ((IntKind.i64.wrap ((IntKind.i64.wrap (IntKind.u64.wrap (zCD .and .u8 (e5.toNat:Int) 63))) - 56))+1)).toNat).drop (0:Int).toNat).length:Int)=n10:=(hn10.trans (congrArg (fun m:Nat=>(m:Int)) (rlen (fun _=>rfl) ((((o1.take (o1.length:Int).toNat).drop (1:Int).toNat).take (IntKind.i64.wrap ((IntKind.i64.wrap ((IntKind.i64.wrap (IntKind.u64.wrap (zCD .and .u8 (e5.toNat:Int) 63))) - 56))+1)).toNat).drop (0:Int).toNat)))).symm;show Tri ..;obtain⟨x13,hl,h⟩:=zAc h
     refine zAo ⟨ofL [(0,.op 0 0),(2,.s (.int .i64 (IntKind.i64.wrap ((e3.toNat:Int).fdiv (2 ^ (min (6:Int).toNat IntKind.u8.bits)))))),(3,.s (.int .u64 x13)),(5,.s (.int .i64 (IntKind.i64.wrap ((IntKind.i64.wrap ((IntKind.i64.wrap (IntKind.u64.wrap (zCD .and .u8 (e5.toNat:Int) 63))) - 56))+1))))],ofH [(0,.box 130 [.s (.sl 1 ((List.map brow) ((o1.take (o1.length:Int).toNat).drop (1:Int).toNat)))])],1⟩ ?_ (fun σ' hle=>?_)
     ·refine zAk (zAD (X:=Nat×Int×Int) (fun y=>match y with | (k,x11,x12)=>⟨ofL [(0,.op 0 0),(2,.s (.int .i64 (IntKind.i64.wrap ((e3.toNat:Int).fdiv (2 ^ (min (6:Int).toNat IntKind.u8.bits)))))),(3,.s (.int .u64 x11)),(5,.s (.int .i64 (IntKind.i64.wrap ((IntKind.i64.wrap ((IntKind.i64.wrap (IntKind.u64.wrap (zCD .and .u8 (e5.toNat:Int) 63))) - 56))+1)))),(60,.s (.sl 1 ((List.map brow) ((((o1.take (o1.length:Int).toNat).drop (1:Int).toNat).take (IntKind.i64.wrap ((IntKind.i64.wrap ((IntKind.i64.wrap (IntKind.u64.wrap (zCD .and .u8 (e5.toNat:Int) 63))) - 56))+1)).toNat).drop (0:Int).toNat)))),(61,.s (.int .i64 (((((o1.take (o1.length:Int).toNat).drop (1:Int).toNat).take (IntKind.i64.wrap ((IntKind.i64.wrap ((IntKind.i64.wrap (IntKind.u64.wrap (zCD .and .u8 (e5.toNat:Int) 63))) - 56))+1)).toNat).drop (0:Int).toNat).length:Int))),(62,.s (.int .i64 x12))],ofH [(0,.box 130 [.s (.sl 1 ((List.map brow) ((o1.take (o1.length:Int).toNat).drop (1:Int).toNat)))])],1⟩) (fun y=>zAP o1 e5 y.1 y.2.1 y.2.2=some x13) (fun y=>y.1) (n,0,0) hl ?_ ?_)
      ·exact(Le.rnm [(0,0)] _ _ _ ⟨rfl,rfl,rfl,rfl,rfl,rfl,rfl,trivial⟩ ⟨rfl,⟨_,rfl,rfl⟩,trivial⟩)
      ·rintro⟨k,x11,x12⟩ h;cases k with
       | zero=>cases h
       | succ k =>
        replace h:zAP o1 e5 (k+1) x11 x12=some x13:=h;rw[zAP]at h;refine zZO ?_;refine zAa ?_;refine zAh rfl h (fun hb h=>?_) (fun hb h=>?_)
        ·refine zAf ?_;refine zAa ?_;refine zAk ?_;refine zYZ [] [64] rfl ?_;obtain⟨e14,he14,h⟩:=zAc h;refine And.intro (zAt (fun _=>rfl) he14).1 ?_;intro r15 hr15;obtain rfl:[.int .u8 (e14.toNat:Int)]=r15:=(hr15.trans (zAt (fun _=>rfl) he14).2.1).symm;refine zZN ?_;refine And.intro (by decide) ?_;refine zZN ?_
         refine⟨(k,zCD .or .u64 (IntKind.u64.wrap (x11 * 2 ^ (min (8:Int).toNat IntKind.u64.bits))) (IntKind.u64.wrap (e14.toNat:Int)),IntKind.i64.wrap (x12+1)),h,(Le.rnm [(0,0)] _ _ _ ⟨rfl,rfl,rfl,rfl,rfl,rfl,rfl,trivial⟩ ⟨rfl,⟨_,rfl,rfl⟩,trivial⟩),Nat.lt_succ_self k⟩
        ·refine zAJ ?_;cases h;exact(Le.rnm [(0,0)] _ _ _ ⟨rfl,rfl,rfl,rfl,trivial⟩ ⟨rfl,⟨_,rfl,rfl⟩,trivial⟩)
     ·refine zAj hle ?_;refine zYZ [] [78] rfl ?_;obtain⟨hq,h⟩:=zAI h;refine And.intro ⟨hq.1,Int.le_trans hq.2.1 (Int.ofNat_le.2 (Nat.le_of_eq (rlen (fun _=>rfl) _).symm)),Int.le_refl _⟩ ?_;intro r16 hr16
      obtain rfl:(List.map brow) ((((o1.take (o1.length:Int).toNat).drop (1:Int).toNat).take (((o1.take (o1.length:Int).toNat).drop (1:Int).toNat).length:Int).toNat).drop (IntKind.i64.wrap ((IntKind.i64.wrap ((IntKind.i64.wrap (IntKind.u64.wrap (zCD .and .u8 (e5.toNat:Int) 63))) - 56))+1)).toNat)=r16:=(hr16.trans ((congrArg (fun m:Nat=>(((List.map brow) ((o1.take (o1.length:Int).toNat).drop (1:Int).toNat)).take m).drop (IntKind.i64.wrap ((IntKind.i64.wrap ((IntKind.i64.wrap (IntKind.u64.wrap (zCD .and .u8 (e5.toNat:Int) 63))) - 56))+1)).toNat) (rlen (fun _=>rfl) _)).trans (rcut (fun _=>rfl) _ _ _))).symm;refine zAa ?_
      obtain⟨x17,hj,h⟩:=zAc h;refine zAo ⟨ofL [(2,.s (.int .i64 (IntKind.i64.wrap ((e3.toNat:Int).fdiv (2 ^ (min (6:Int).toNat IntKind.u8.bits)))))),(3,.s (.int .u64 x13)),(4,.s (.bool x17))],ofH [(0,.box 130 [.s (.sl 1 ((List.map brow) ((((o1.take (o1.length:Int).toNat).drop (1:Int).toNat).take (((o1.take (o1.length:Int).toNat).drop (1:Int).toNat).length:Int).toNat).drop (IntKind.i64.wrap ((IntKind.i64.wrap ((IntKind.i64.wrap (IntKind.u64.wrap (zCD .and .u8 (e5.toNat:Int) 63))) - 56))+1)).toNat)))])],1⟩ ?_ (fun σ' hle=>?_)
      ·replace h:=hj;refine zAb [] [85] rfl ?_;intro b hb;cases b with
       | true =>
        replace h:=zAF hb.symm h;obtain⟨y18,hy18,h⟩:=zAc h;refine⟨_,⟨_,_,_,hy18,rfl,rfl⟩,?_⟩
        cases h;exact(Le.rnm [(0,0)] _ _ _ ⟨rfl,rfl,rfl,trivial⟩ ⟨rfl,⟨_,rfl,rfl⟩,trivial⟩)
       | false =>
        replace h:=zAE hb.symm h;cases h;exact(Le.rnm [(0,0)] _ _ _ ⟨rfl,rfl,rfl,trivial⟩ ⟨rfl,⟨_,rfl,rfl⟩,trivial⟩)
      ·refine zAj hle ?_;refine zAe ?_;obtain⟨hj1,hk1⟩:=pij h;subst hj1;obtain⟨hj2,hk2⟩:=Prod.mk.inj hk1;subst hj2;obtain⟨hj3,hk3⟩:=Prod.mk.inj hk2;subst hj3;subst hk3;unfold zA8
       exact⟨_,(Le.rnm [(0,0)] [(2,.s (.int .i64 (IntKind.i64.wrap ((e3.toNat:Int).fdiv (2 ^ (min (6:Int).toNat IntKind.u8.bits)))))),(3,.s (.int .u64 x13)),(4,.s (.bool x17))] [(0,.box 130 [.s (.sl 1 ((List.map brow) ((((o1.take (o1.length:Int).toNat).drop (1:Int).toNat).take (((o1.take (o1.length:Int).toNat).drop (1:Int).toNat).length:Int).toNat).drop (IntKind.i64.wrap ((IntKind.i64.wrap ((IntKind.i64.wrap (IntKind.u64.wrap (zCD .and .u8 (e5.toNat:Int) 63))) - 56))+1)).toNat)))])] 1 ⟨rfl,rfl,rfl,trivial⟩ ⟨rfl,⟨_,rfl,rfl⟩,trivial⟩),rfl,rfl,rfl,rfl,trivial⟩
def zKN (xs:List AV) (os:List Ob) (x:AV) (os':List (Option Ob)):Prop:=∃ (a0:(List UInt8)) (a1:Int) (y0:List UInt8) (y1:Bool) (z0:(List UInt8)),zCJ a0 a1=some (y0,y1,z0)/\xs=[.op 0 0,.s (.int .u64 a1)]/\os=[.box 130 ((zAR a0).map .s)]/\x = .tup [.s (.str y0),.s (.bool y1)]/\os'=[some (.box 130 ((zAR z0).map .s))]
def zGK:zAq:=zBK (fun xs os x os'=>zKN xs os x os')
theorem zKh:PSound Tryz.prog 122 zGK:=by
 have gok:=@gok0 Tryz.prog;refine PSound.withNil (zDQ tokW Tryz.call122 Tryz.func122 rfl (fun xs os x os' h=>by obtain⟨_,_,_,_,_,_,rfl,rfl,_,rfl⟩:=h; exact⟨by show 2<=32; decide,by show 1<=1; decide⟩) 32 rfl ?_) _;rintro xs os x os' w0 G0 B0 ⟨r1,n2,y0,y1,z0,h,rfl,rfl,rfl,rfl⟩ _;rw[zCJ]at h;refine zZO ?_;refine zAa ?_;refine zYZ [] [12] rfl ?_;intro n3 hn3;obtain rfl:(r1.length:Int)=n3:=(hn3.trans (congrArg (fun m:Nat=>(m:Int)) (rlen (fun _=>rfl) r1))).symm;refine zAh rfl h (fun hb h=>?_) (fun hb h=>?_)
 ·refine zZO ?_;refine zAe ?_;obtain⟨hj1,hk1⟩:=pij h;subst hj1;obtain⟨hj2,hk2⟩:=Prod.mk.inj hk1;subst hj2;subst hk2;unfold zA8;exact⟨_,(Le.rnm [(0,0)] [(4,.s (.str [])),(5,.s (.bool false))] [(0,.box 130 [.s (.sl 1 ((List.map brow) r1))])] 1 ⟨rfl,rfl,trivial⟩ ⟨rfl,⟨_,rfl,rfl⟩,trivial⟩),rfl,rfl,rfl,rfl,trivial⟩
 ·refine zAf ?_;refine zYZ [] [20,21] rfl ?_;obtain⟨hq,h⟩:=zAI h;refine And.intro ⟨hq.1,hq.2.1,Int.le_trans hq.2.2 (Int.ofNat_le.2 (Nat.le_of_eq (rlen (fun _=>rfl) _).symm))⟩ ?_;intro r4 hr4;obtain rfl:(List.map brow) ((r1.take n2.toNat).drop (0:Int).toNat)=r4:=(hr4.trans (rcut (fun _=>rfl) _ _ _)).symm;refine And.intro (show List.map brow ((r1.take n2.toNat).drop (0:Int).toNat)=((List.map brow ((r1.take n2.toNat).drop (0:Int).toNat)).map zHv).map brow from by rw[zEB]) ?_;intro s5 hs5;obtain rfl:(r1.take n2.toNat).drop (0:Int).toNat=s5:=(hs5.trans (zEB _)).symm;show Tri ..
  refine zYZ [] [28] rfl ?_;obtain⟨hq,h⟩:=zAI h;refine And.intro ⟨hq.1,Int.le_trans hq.2.1 (Int.ofNat_le.2 (Nat.le_of_eq (rlen (fun _=>rfl) _).symm)),Int.le_refl _⟩ ?_;intro r6 hr6;obtain rfl:(List.map brow) ((r1.take (r1.length:Int).toNat).drop n2.toNat)=r6:=(hr6.trans ((congrArg (fun m:Nat=>(((List.map brow) r1).take m).drop n2.toNat) (rlen (fun _=>rfl) _)).trans (rcut (fun _=>rfl) _ _ _))).symm;refine zZO ?_;refine zAe ?_;obtain⟨hj1,hk1⟩:=pij h;subst hj1;obtain⟨hj2,hk2⟩:=Prod.mk.inj hk1;subst hj2;subst hk2;unfold zA8
  exact⟨_,(Le.rnm [(0,0)] [(4,.s (.str ((r1.take n2.toNat).drop (0:Int).toNat))),(5,.s (.bool true))] [(0,.box 130 [.s (.sl 1 ((List.map brow) ((r1.take (r1.length:Int).toNat).drop n2.toNat)))])] 1 ⟨rfl,rfl,trivial⟩ ⟨rfl,⟨_,rfl,rfl⟩,trivial⟩),rfl,rfl,rfl,rfl,trivial⟩
def zBX (n:Nat) (xs:List AV) (os:List Ob) (x:AV) (os':List (Option Ob)):Prop:=∃ (a0:Int) (a1:(List UInt8)) (y0:CV) (y1:Bool) (z1:(List UInt8)),zAs n a0 a1=some (y0,y1,z1)/\xs=[.s (.int .i64 a0),.op 0 0,.op 2 0]/\os=[.box 128 [.op 1 0],.box 130 ((zAR a1).map .s),.box 175 [.clo 120 [.op 0 0,.op 2 0]]]/\x = .tup [.agg ((CV.enc y0).map .s),.s (.bool y1)]/\os'=[some (.box 128 [.op 1 0]),some (.box 130 ((zAR z1).map .s)),some (.box 175 [.clo 120 [.op 0 0,.op 2 0]])]
theorem zYN {α:Type}{a b:α} (h:a=b:=by simp[List.map_append,List.map_take,List.map_drop,irow,brow,zGp,List.map_cons,List.map_nil,zFV,CV.encs_eq,CV.enc,Nd.encs_eq,Nd.enc,zAR]):a=b :=
 h
theorem zHW (n:Nat) (ih:PSound Tryz.prog 120 (zBK (zBX n))):PSound Tryz.prog 120 (zBK (zBX (n+1))):=by
 have gok:∀ f s,look? f [(121,zGJ),(122,zGK),(120,zBK (zBX n))]=some s->PSound Tryz.prog f s:=zAl (by
  simp only[List.forall_mem_cons]
  exact⟨zKg,zKh,ih,by simp⟩)
 refine PSound.withNil (zDQ tokW Tryz.call120 Tryz.func120 rfl (fun xs os x os' h=>by obtain⟨_,_,_,_,_,_,rfl,rfl,_,rfl⟩:=h; exact⟨by show 3<=83; decide,by show 3<=3; decide⟩) 83 rfl ?_) _;rintro xs os x os' w0 G0 B0 ⟨a1,o2,y0,y1,z1,h,rfl,rfl,rfl,rfl⟩ _;rw[zAs]at h;refine zYZ [4] [] rfl ?_;refine zAa ?_;refine zZO ?_;refine zAh rfl h (fun hb h=>?_) (fun hb h=>?_)
 ·refine zZO ?_;refine zAe ?_;obtain⟨hj1,hk1⟩:=pij h;subst hj1;obtain⟨hj2,hk2⟩:=Prod.mk.inj hk1;subst hj2;subst hk2;unfold zA8;exact⟨_,(Le.rnm [(0,0),(1,1),(2,2),(3,3)] [(4,.op 3 0),(5,.s (.bool false))] [(0,.box 128 [.op 1 0]),(1,.box 130 [.s (.sl 1 ((List.map brow) o2))]),(2,.box 175 [.clo 120 [.op 0 0,.op 2 0]]),(3,.box 68 [.s (.int .i64 0),.s (.int .i64 0),.s (.str []),.nl 4])] 4 ⟨rfl,rfl,trivial⟩ ⟨rfl,⟨_,rfl,rfl⟩,rfl,⟨_,rfl,rfl⟩,rfl,⟨_,rfl,rfl⟩,rfl,⟨_,rfl,rfl⟩,trivial⟩),rfl,rfl,rfl,rfl,rfl,rfl,rfl,rfl,trivial⟩
 ·refine zAf ?_;refine zZO ?_;obtain⟨⟨y3,y4,y5,w6⟩,hy3,h⟩:=zAc h;refine⟨_,_,⟨_,_,_,_,_,_,hy3,rfl,rfl,rfl,rfl⟩,?_⟩
  refine zAa ?_;refine zZO ?_;refine zAh rfl h (fun hb h=>?_) (fun hb h=>?_)
  ·refine zZO ?_;refine zAe ?_;obtain⟨hj1,hk1⟩:=pij h;subst hj1;obtain⟨hj2,hk2⟩:=Prod.mk.inj hk1;subst hj2;subst hk2;unfold zA8;exact⟨_,(Le.rnm [(0,0),(1,1),(2,2),(3,3)] [(4,.op 3 0),(5,.s (.bool false))] [(0,.box 128 [.op 1 0]),(1,.box 130 [.s (.sl 1 ((List.map brow) w6))]),(2,.box 175 [.clo 120 [.op 0 0,.op 2 0]]),(3,.box 68 [.s (.int .i64 0),.s (.int .i64 0),.s (.str []),.nl 4])] 4 ⟨rfl,rfl,trivial⟩ ⟨rfl,⟨_,rfl,rfl⟩,rfl,⟨_,rfl,rfl⟩,rfl,⟨_,rfl,rfl⟩,rfl,⟨_,rfl,rfl⟩,trivial⟩),rfl,rfl,rfl,rfl,rfl,rfl,rfl,rfl,trivial⟩
  ·refine zAf ?_;refine zYZ [9] [] rfl ?_;refine zAa ?_;refine zZO ?_;refine zAk ?_;refine zZO ?_;refine zAh rfl h (fun hb h=>?_) (fun hb h=>?_)
   ·refine zZO ?_;refine And.intro (by decide) ?_;refine zAa ?_;refine zZO ?_;show Tri ..;obtain⟨x7,hj,h⟩:=zAc h;refine zAo ⟨ofL [(4,.op 3 0),(9,.op 4 0)],ofH [(0,.box 128 [.op 1 0]),(1,.box 130 [.s (.sl 1 ((List.map brow) w6))]),(2,.box 175 [.clo 120 [.op 0 0,.op 2 0]]),(3,.box 68 [.s (.int .i64 0),.s (.int .i64 0),.s (.str []),.nl 4]),(4,.box 68 [.s (.int .i64 y3),.s (.int .i64 x7),.s (.str []),.nl 4])],5⟩ ?_ (fun σ' hle=>?_)
    ·replace h:=hj;refine zAh rfl h (fun hb h=>?_) (fun hb h=>?_)
     ·refine zZN ?_;cases h;exact(Le.rnm [(0,0),(1,1),(2,2),(3,3),(4,4)] _ _ _ ⟨rfl,rfl,trivial⟩ ⟨rfl,⟨_,rfl,rfl⟩,rfl,⟨_,rfl,rfl⟩,rfl,⟨_,rfl,rfl⟩,rfl,⟨_,rfl,rfl⟩,rfl,⟨_,rfl,rfl⟩,trivial⟩)
     ·refine zAf ?_;cases h;exact(Le.rnm [(0,0),(1,1),(2,2),(3,3),(4,4)] _ _ _ ⟨rfl,rfl,trivial⟩ ⟨rfl,⟨_,rfl,rfl⟩,rfl,⟨_,rfl,rfl⟩,rfl,⟨_,rfl,rfl⟩,rfl,⟨_,rfl,rfl⟩,rfl,⟨_,rfl,rfl⟩,trivial⟩)
    ·refine zAj hle ?_;refine zZO ?_;refine zAe ?_;obtain⟨hj1,hk1⟩:=pij h;subst hj1;obtain⟨hj2,hk2⟩:=Prod.mk.inj hk1;subst hj2;subst hk2;unfold zA8;exact⟨_,(Le.rnm [(0,0),(1,1),(2,2),(3,3)] [(4,.op 3 0),(5,.s (.bool true))] [(0,.box 128 [.op 1 0]),(1,.box 130 [.s (.sl 1 ((List.map brow) w6))]),(2,.box 175 [.clo 120 [.op 0 0,.op 2 0]]),(3,.box 68 [.s (.int .i64 y3),.s (.int .i64 x7),.s (.str []),.nl 4])] 4 ⟨rfl,rfl,trivial⟩ ⟨rfl,⟨_,rfl,rfl⟩,rfl,⟨_,rfl,rfl⟩,rfl,⟨_,rfl,rfl⟩,rfl,⟨_,rfl,rfl⟩,trivial⟩),rfl,rfl,rfl,rfl,rfl,rfl,rfl,rfl,trivial⟩
   ·refine zZO ?_;refine zAh rfl h (fun hb h=>?_) (fun hb h=>?_)
    ·refine zZO ?_;obtain⟨⟨y8,y9,w10⟩,hy8,h⟩:=zAc h;refine⟨_,_,⟨_,_,_,_,_,hy8,rfl,rfl,rfl,rfl⟩,?_⟩
     refine zZO ?_;refine zAe ?_;obtain⟨hj1,hk1⟩:=pij h;subst hj1;obtain⟨hj2,hk2⟩:=Prod.mk.inj hk1;subst hj2;subst hk2;unfold zA8;exact⟨_,(Le.rnm [(0,0),(1,1),(2,2),(3,3)] [(4,.op 3 0),(5,.s (.bool y9))] [(0,.box 128 [.op 1 0]),(1,.box 130 [.s (.sl 1 ((List.map brow) w10))]),(2,.box 175 [.clo 120 [.op 0 0,.op 2 0]]),(3,.box 68 [.s (.int .i64 y3),.s (.int .i64 0),.s (.str y8),.nl 4])] 4 ⟨rfl,rfl,trivial⟩ ⟨rfl,⟨_,rfl,rfl⟩,rfl,⟨_,rfl,rfl⟩,rfl,⟨_,rfl,rfl⟩,rfl,⟨_,rfl,rfl⟩,trivial⟩),rfl,rfl,rfl,rfl,rfl,rfl,rfl,rfl,trivial⟩
    ·refine zAf ?_;refine zAa ?_;refine zYZ [] [58] rfl ?_;intro n11 hn11;obtain rfl:(w6.length:Int)=n11:=(hn11.trans (congrArg (fun m:Nat=>(m:Int)) (rlen (fun _=>rfl) w6))).symm;refine zAh rfl h (fun hb h=>?_) (fun hb h=>?_)
     ·refine zZO ?_;refine zAe ?_;obtain⟨hj1,hk1⟩:=pij h;subst hj1;obtain⟨hj2,hk2⟩:=Prod.mk.inj hk1;subst hj2;subst hk2;unfold zA8;exact⟨_,(Le.rnm [(0,0),(1,1),(2,2),(3,3)] [(4,.op 3 0),(5,.s (.bool false))] [(0,.box 128 [.op 1 0]),(1,.box 130 [.s (.sl 1 ((List.map brow) w6))]),(2,.box 175 [.clo 120 [.op 0 0,.op 2 0]]),(3,.box 68 [.s (.int .i64 0),.s (.int .i64 0),.s (.str []),.nl 4])] 4 ⟨rfl,rfl,trivial⟩ ⟨rfl,⟨_,rfl,rfl⟩,rfl,⟨_,rfl,rfl⟩,rfl,⟨_,rfl,rfl⟩,rfl,⟨_,rfl,rfl⟩,trivial⟩),rfl,rfl,rfl,rfl,rfl,rfl,rfl,rfl,trivial⟩
     ·refine zAf ?_;refine zAa ?_;refine zZO ?_;show Tri ..;obtain⟨fl,hl,ho1⟩:=zAc h;refine zDe (fl:=fl) (fun z=>match z with | ⟨x19,l20⟩=>⟨ofL [(4,.op 3 0),(9,.op 4 0)],ofH [(0,.box 128 [.op 1 0]),(1,.box 130 [.s (.sl 1 ((List.map brow) x19))]),(2,.box 175 [.clo 120 [.op 0 0,.op 2 0]]),(3,.box 68 [.s (.int .i64 0),.s (.int .i64 0),.s (.str []),.nl 4]),(4,.box 68 [.s (.int .i64 y3),.s (.int .i64 0),.s (.str []),.orow 5]),(5,.row 68 4 (CV.encs l20))],6⟩) ?_ (fun z σ' hz hle=>?_)
      ·refine zAk (zAD (X:=Nat×(List UInt8)×Int×(List CV)) (fun y=>match y with | (k,x13,x17,l18)=>⟨ofL [(0,.s (.int .i64 a1)),(2,.op 2 0),(4,.op 3 0),(9,.op 4 0),(62,.s (.int .u64 y4)),(63,.s (.int .u64 x17))],ofH [(0,.box 128 [.op 1 0]),(1,.box 130 [.s (.sl 1 ((List.map brow) x13))]),(2,.box 175 [.clo 120 [.op 0 0,.op 2 0]]),(3,.box 68 [.s (.int .i64 0),.s (.int .i64 0),.s (.str []),.nl 4]),(4,.box 68 [.s (.int .i64 y3),.s (.int .i64 0),.s (.str []),.orow 5]),(5,.row 68 4 (CV.encs l18))],6⟩) (fun y=>zAr (zAs n) a1 y4 y.1 y.2.1 y.2.2.1 y.2.2.2=some fl) (fun y=>y.1) (n,w6,0,[]) hl ?_ ?_)
       ·exact(Le.trans (Le.trans (Le.rnm [(0,0),(1,1),(2,2),(3,3),(4,4)] [(0,.s (.int .i64 a1)),(2,.op 2 0),(4,.op 3 0),(9,.op 4 0),(62,.s (.int .u64 y4)),(63,.s (.int .u64 0))] [(0,.box 128 [.op 1 0]),(1,.box 130 [.s (.sl 1 ((List.map brow) w6))]),(2,.box 175 [.clo 120 [.op 0 0,.op 2 0]]),(3,.box 68 [.s (.int .i64 0),.s (.int .i64 0),.s (.str []),.nl 4]),(4,.box 68 [.s (.int .i64 y3),.s (.int .i64 0),.s (.str []),.nl 4])] 5 ⟨rfl,rfl,rfl,rfl,rfl,rfl,trivial⟩ ⟨rfl,⟨_,rfl,rfl⟩,rfl,⟨_,rfl,rfl⟩,rfl,⟨_,rfl,rfl⟩,rfl,⟨_,rfl,rfl⟩,rfl,⟨_,rfl,rfl⟩,trivial⟩) (Le.takeNil 4 3 68 rfl rfl (by decide))) (Le.rnm [(0,0),(1,1),(2,2),(3,3),(4,4),(5,5)] _ _ _ ⟨rfl,rfl,rfl,rfl,rfl,rfl,trivial⟩ ⟨rfl,⟨_,rfl,rfl⟩,rfl,⟨_,rfl,rfl⟩,rfl,⟨_,rfl,rfl⟩,rfl,⟨_,rfl,rfl⟩,rfl,⟨_,rfl,rfl⟩,rfl,⟨_,rfl,congrArg (Ob.row 68 4) zYN⟩,trivial⟩))
       ·rintro⟨k,x13,x17,l18⟩ h;cases k with
        | zero=>cases h
        | succ k =>
         replace h:zAr (zAs n) a1 y4 (k+1) x13 x17 l18=some fl:=h;rw[zAr]at h;refine zZO ?_;refine zAa ?_;refine zAh rfl h (fun hb h=>?_) (fun hb h=>?_)
         ·refine zAf ?_;refine zAa ?_;refine zAk ?_;refine zYZ [10] [] rfl ?_;obtain⟨⟨⟨y21A,y21D,y21B,y21C⟩,y22,w23⟩,hy21,h⟩:=zAc h;refine⟨_,_,⟨_,_,_,_,_,hy21,rfl,rfl,rfl,rfl⟩,?_⟩
          refine zAj (Le.giveBox 6 [.int .i64 y21A,.int .i64 y21D,.str y21B,.sl 4 (CV.encs y21C)] rfl rfl) ?_;refine zAa ?_;refine zZO ?_;refine zAh rfl h (fun hb h=>?_) (fun hb h=>?_)
          ·refine zZO ?_;refine zAe ?_;cases h;replace h:some _=some _:=ho1;obtain⟨hj1,hk1⟩:=pij h;subst hj1;obtain⟨hj2,hk2⟩:=Prod.mk.inj hk1;subst hj2;subst hk2;unfold zA8;exact⟨_,(Le.rnm [(0,0),(1,1),(2,2),(3,3)] [(4,.op 3 0),(5,.s (.bool false))] [(0,.box 128 [.op 1 0]),(1,.box 130 [.s (.sl 1 ((List.map brow) w23))]),(2,.box 175 [.clo 120 [.op 0 0,.op 2 0]]),(3,.box 68 [.s (.int .i64 0),.s (.int .i64 0),.s (.str []),.nl 4])] 4 ⟨rfl,rfl,trivial⟩ ⟨rfl,⟨_,rfl,rfl⟩,rfl,⟨_,rfl,rfl⟩,rfl,⟨_,rfl,rfl⟩,rfl,⟨_,rfl,rfl⟩,trivial⟩),rfl,rfl,rfl,rfl,rfl,rfl,rfl,rfl,trivial⟩
          ·refine zAf ?_;refine zAb [79] [78] rfl ?_;intro r24 hr24;obtain rfl:CV.encs [CV.mk y21A y21D y21B y21C]=r24:=(hr24.trans zYN).symm;obtain⟨hq,h⟩:=zAI h
           refine And.intro (show((CV.encs l18).length+(CV.encs [CV.mk y21A y21D y21B y21C]).length) * 56<=140737488355328/\(CV.encs l18).length+(CV.encs [CV.mk y21A y21D y21B y21C]).length<=9223372036854775807 from by simp only[List.length_append,List.length_cons,List.length_nil,List.length_map,rlen CV.encs_eq]at hq ⊢; omega) ?_;show Tri ..
           refine zAj (Le.rnm [(0,0),(1,1),(2,2),(3,3),(4,4),(7,5)] [(0,.s (.int .i64 a1)),(2,.op 2 0),(4,.op 3 0),(9,.op 4 0),(62,.s (.int .u64 y4)),(63,.s (.int .u64 x17))] [(0,.box 128 [.op 1 0]),(1,.box 130 [.s (.sl 1 ((List.map brow) w23))]),(2,.box 175 [.clo 120 [.op 0 0,.op 2 0]]),(3,.box 68 [.s (.int .i64 0),.s (.int .i64 0),.s (.str []),.nl 4]),(4,.box 68 [.s (.int .i64 y3),.s (.int .i64 0),.s (.str []),.orow 5]),(5,.row 68 4 (CV.encs (l18++[CV.mk y21A y21D y21B y21C])))] 6 ⟨rfl,rfl,rfl,rfl,rfl,rfl,trivial⟩ ⟨rfl,⟨_,rfl,rfl⟩,rfl,⟨_,rfl,rfl⟩,rfl,⟨_,rfl,rfl⟩,rfl,⟨_,rfl,rfl⟩,rfl,⟨_,rfl,rfl⟩,rfl,⟨_,rfl,congrArg (Ob.row 68 4) zYN⟩,trivial⟩) ?_
           refine zZN ?_;refine⟨(k,w23,IntKind.u64.wrap (x17+1),l18++[CV.mk y21A y21D y21B y21C]),h,(Le.rnm [(0,0),(1,1),(2,2),(3,3),(4,4),(5,5)] _ _ _ ⟨rfl,rfl,rfl,rfl,rfl,rfl,trivial⟩ ⟨rfl,⟨_,rfl,rfl⟩,rfl,⟨_,rfl,rfl⟩,rfl,⟨_,rfl,rfl⟩,rfl,⟨_,rfl,rfl⟩,rfl,⟨_,rfl,rfl⟩,rfl,⟨_,rfl,rfl⟩,trivial⟩),Nat.lt_succ_self k⟩
         ·refine zAJ ?_;cases h;exact⟨_,rfl,(Le.rnm [(0,0),(1,1),(2,2),(3,3),(4,4),(5,5)] _ _ _ ⟨rfl,rfl,trivial⟩ ⟨rfl,⟨_,rfl,rfl⟩,rfl,⟨_,rfl,rfl⟩,rfl,⟨_,rfl,rfl⟩,rfl,⟨_,rfl,rfl⟩,rfl,⟨_,rfl,rfl⟩,rfl,⟨_,rfl,rfl⟩,trivial⟩)⟩
      ·subst hz;obtain⟨x19,l20⟩:=z;replace h:=ho1;refine zAj hle ?_;refine zZO ?_;refine zAe ?_;obtain⟨hj1,hk1⟩:=pij h;subst hj1;obtain⟨hj2,hk2⟩:=Prod.mk.inj hk1;subst hj2;subst hk2;unfold zA8
       exact⟨_,(Le.trans (Le.rnm [(0,0),(1,1),(2,2),(3,3),(5,4)] [(4,.op 3 0),(5,.s (.bool true))] [(0,.box 128 [.op 1 0]),(1,.box 130 [.s (.sl 1 ((List.map brow) x19))]),(2,.box 175 [.clo 120 [.op 0 0,.op 2 0]]),(3,.box 68 [.s (.int .i64 y3),.s (.int .i64 0),.s (.str []),.orow 4]),(4,.row 68 4 (CV.encs l20))] 5 ⟨rfl,rfl,trivial⟩ ⟨rfl,⟨_,rfl,rfl⟩,rfl,⟨_,rfl,rfl⟩,rfl,⟨_,rfl,rfl⟩,rfl,⟨_,rfl,rfl⟩,rfl,⟨_,rfl,rfl⟩,trivial⟩) (Le.giveRow 4 rfl)),rfl,rfl,rfl,rfl,rfl,rfl,rfl,rfl,trivial⟩
theorem zH1:∀ n,PSound Tryz.prog 120 (zBK (zBX n)):=by
 intro n
 induction n with
 | zero=>exact zHb Tryz.call120 (fun xs os x os' h=>by obtain⟨_,_,_,_,_,h,_⟩:=h; cases h) _
 | succ n ih=>exact zHW n ih
def zFp:zAq:=zBK (fun xs os x os'=>∃ n,zBX n xs os x os')
theorem zIE:PSound Tryz.prog 120 zFp:=zIl zH1 _
def zJ6 (n:Nat) (xs:List AV) (os:List Ob) (x:AV) (os':List (Option Ob)):Prop:=∃ (a0:(List UInt8)) (y0:CV) (y1:Bool) (z0:(List UInt8)),zBt n a0=some (y0,y1,z0)/\xs=[.op 0 0]/\os=[.box 130 ((zAR a0).map .s)]/\x = .tup [.agg ((CV.enc y0).map .s),.s (.bool y1)]/\os'=[some (.box 130 ((zAR z0).map .s))]
def zGb:zAq:=zBK (fun xs os x os'=>∃ n,zJ6 n xs os x os')
theorem zJw:PSound Tryz.prog 82 zGb:=by
 have gok:∀ f s,look? f [(120,zFp)]=some s->PSound Tryz.prog f s:=zAl (by
  simp only[List.forall_mem_cons]
  exact⟨zIE,by simp⟩)
 refine PSound.withNil (zDQ tokW Tryz.call82 Tryz.func82 rfl (fun xs os x os' h=>by obtain⟨n,_,_,_,_,_,rfl,rfl,_,rfl⟩:=h; exact⟨by show 1<=10; decide,by show 1<=1; decide⟩) 10 rfl ?_) _;rintro xs os x os' w0 G0 B0 ⟨n,r1,y0,y1,z0,h,rfl,rfl,rfl,rfl⟩ _;rw[zBt]at h;refine zYZ [1,2] [] rfl ?_;refine zYZ [4] [] rfl ?_;refine zZO ?_;refine zZO ?_;obtain⟨⟨⟨y2A,y2D,y2B,y2C⟩,y3,w4⟩,hy2,h⟩:=zAc h;refine⟨_,_,⟨_,_,_,_,_,_,hy2,rfl,rfl,rfl,rfl⟩,?_⟩
 refine zAe ?_;obtain⟨hj1,hk1⟩:=pij h;subst hj1;obtain⟨hj2,hk2⟩:=Prod.mk.inj hk1;subst hj2;subst hk2;unfold zA8;exact⟨_,(Le.rnm [(0,0),(2,1)] [(2,.op 1 0),(3,.s (.bool y3))] [(0,.box 130 [.s (.sl 1 ((List.map brow) w4))]),(1,.box 68 [.s (.int .i64 y2A),.s (.int .i64 y2D),.s (.str y2B),.s (.sl 4 (CV.encs y2C))])] 2 ⟨rfl,rfl,trivial⟩ ⟨rfl,⟨_,rfl,rfl⟩,rfl,⟨_,rfl,rfl⟩,trivial⟩),rfl,rfl,rfl,rfl,trivial⟩
def zPn (n:Nat) (xs:List AV) (r:Ret):Prop:=∃ (a0:List UInt8) (y0:CV) (y1:Int),zEE n a0=some (y0,y1)/\xs=[.s (.sl 1 ((List.map brow) a0))]/\r = .val (.tup [.agg ((CV.enc y0).map .s),.s (.int .i64 y1)])
def zKr:zAq:=zAw fun xs r=>∃ n,zPn n xs r
theorem zOF:PSound Tryz.prog 40 zKr:=by
 have gok:∀ f s,look? f [(82,zGb)]=some s->PSound Tryz.prog f s:=zAl (by
  simp only[List.forall_mem_cons]
  exact⟨zJw,by simp⟩)
 refine zAC tokW Tryz.call40 Tryz.func40 rfl (fun xs r h=>by obtain⟨n,_,_,_,_,rfl,_⟩:=h; show 1<=31; decide) 31 rfl ?_;rintro xs r w0 G0 ⟨n,b1,y0,y1,h,rfl,rfl⟩ _;rw[zEE]at h;refine zYZ [2] [] rfl ?_;refine zAa ?_;refine zYZ [] [8] rfl ?_;intro n2 hn2;obtain rfl:(b1.length:Int)=n2:=(hn2.trans (congrArg (fun m:Nat=>(m:Int)) (rlen (fun _=>rfl) b1))).symm;refine zAh rfl h (fun hb h=>?_) (fun hb h=>?_)
 ·refine zZO ?_;refine zAe ?_;obtain⟨hj1,hk1⟩:=pij h;subst hj1 hk1;exact fin0 rfl rfl
 ·refine zAf ?_;refine zYZ [13] [] rfl ?_;refine zYZ [5] [] rfl ?_;obtain⟨⟨⟨y3A,y3D,y3B,y3C⟩,y4,w5⟩,hy3,h⟩:=zAc h;refine⟨_,_,⟨_,_,_,_,_,hy3,rfl,rfl,rfl,rfl⟩,?_⟩
  refine zAj (Le.giveBox 2 [.int .i64 y3A,.int .i64 y3D,.str y3B,.sl 4 (CV.encs y3C)] rfl rfl) ?_;refine zAa ?_;refine zAa ?_;obtain⟨x6,hj,h⟩:=zAc h;refine zAo ⟨ofL [(2,.op 0 0),(5,.s (.pt [.int .i64 y3A,.int .i64 y3D,.str y3B,.sl 4 (CV.encs y3C)])),(28,.s (.bool x6))],ofH [(0,.box 68 [.s (.int .i64 0),.s (.int .i64 0),.s (.str []),.nl 4])],1⟩ ?_ (fun σ' hle=>?_)
  ·replace h:=hj;refine zAb [] [21,26] rfl ?_;intro b hb;cases b with
   | true =>
    replace h:=zAF hb.symm h;cases h;exact(Le.rnm [(0,0)] _ _ _ ⟨rfl,rfl,rfl,trivial⟩ ⟨rfl,⟨_,rfl,rfl⟩,trivial⟩)
   | false =>
    replace h:=zAE hb.symm h;intro n7 hn7;obtain rfl:(w5.length:Int)=n7:=(hn7.trans (congrArg (fun m:Nat=>(m:Int)) (rlen (fun _=>rfl) w5))).symm;cases h;exact(Le.rnm [(0,0)] _ _ _ ⟨rfl,rfl,rfl,trivial⟩ ⟨rfl,⟨_,rfl,rfl⟩,trivial⟩)
  ·refine zAj hle ?_;refine zAh rfl h (fun hb h=>?_) (fun hb h=>?_)
   ·refine zZO ?_;refine zAe ?_;obtain⟨hj1,hk1⟩:=pij h;subst hj1 hk1;exact fin0 rfl rfl
   ·refine zAf ?_;refine zZO ?_;refine zAe ?_;obtain⟨hj1,hk1⟩:=pij h;subst hj1 hk1;exact fin0 rfl rfl
def zNZ (n:Nat) (xs:List AV) (r:Ret):Prop:=∃ (a0:Int) (a1:List UInt8) (y0:Int),zCb n a0 a1=some y0/\xs=[.s (.int .u64 a0),.s (.sl 1 ((List.map brow) a1))]/\r = .val (.s (.int .u64 y0))
def zI4:zAq:=zAw fun xs r=>∃ n,zNZ n xs r
theorem zNC:PSound Tryz.prog 64 zI4:=by
 have gok:=@gok0 Tryz.prog;refine zAC tokW Tryz.call64 Tryz.func64 rfl (fun xs r h=>by obtain⟨n,_,_,_,_,rfl,_⟩:=h; show 2<=20; decide) 20 rfl ?_;rintro xs r w0 G0 ⟨n,h1,b2,y0,h,rfl,rfl⟩ _;rw[zCb]at h;refine zZO ?_;refine zAa ?_;refine zYZ [] [8] rfl ?_;intro n3 hn3;obtain rfl:(b2.length:Int)=n3:=(hn3.trans (congrArg (fun m:Nat=>(m:Int)) (rlen (fun _=>rfl) b2))).symm;show Tri ..;obtain⟨h6,hl,h⟩:=zAc h;refine zAo ⟨ofL [(0,.s (.int .u64 h6))],fun _=>none,0⟩ ?_ (fun σ' hle=>?_)
 ·refine zAk (zAD (X:=Nat×Int×Int) (fun y=>match y with | (k,h4,x5)=>⟨ofL [(0,.s (.int .u64 h4)),(7,.s (.sl 1 ((List.map brow) b2))),(8,.s (.int .i64 (b2.length:Int))),(9,.s (.int .i64 x5))],fun _=>none,0⟩) (fun y=>zAT b2 y.1 y.2.1 y.2.2=some h6) (fun y=>y.1) (n,h1,0) hl ?_ ?_)
  ·exact(Le.forget _ ⟨rfl,rfl,rfl,rfl,trivial⟩)
  ·rintro⟨k,h4,x5⟩ h;cases k with
   | zero=>cases h
   | succ k =>
    replace h:zAT b2 (k+1) h4 x5=some h6:=h;rw[zAT]at h;refine zZO ?_;refine zAa ?_;refine zAh rfl h (fun hb h=>?_) (fun hb h=>?_)
    ·refine zAf ?_;refine zAa ?_;refine zAk ?_;refine zYZ [] [11] rfl ?_;obtain⟨e7,he7,h⟩:=zAc h;refine And.intro (zAt (fun _=>rfl) he7).1 ?_;intro r8 hr8;obtain rfl:[.int .u8 (e7.toNat:Int)]=r8:=(hr8.trans (zAt (fun _=>rfl) he7).2.1).symm;refine zZN ?_;refine zZN ?_;refine⟨(k,IntKind.u64.wrap ((zCD .xor .u64 h4 (IntKind.u64.wrap (e7.toNat:Int))) * 1099511628211),IntKind.i64.wrap (x5+1)),h,(Le.forget _ ⟨rfl,rfl,rfl,rfl,trivial⟩),Nat.lt_succ_self k⟩
    ·refine zAJ ?_;cases h;exact(Le.forget _ ⟨rfl,trivial⟩)
 ·refine zAj hle ?_;refine zZO ?_;refine zAe ?_;have hy:=osi h;subst hy;exact fin0 rfl rfl
def zPq (n:Nat) (xs:List AV) (r:Ret):Prop:=∃ (a0:List UInt8) (y0:Int),zBA n a0=some y0/\xs=[.s (.sl 1 ((List.map brow) a0))]/\r = .val (.s (.int .u64 y0))
def zHL:zAq:=zAw fun xs r=>∃ n,zPq n xs r
theorem zJx:PSound Tryz.prog 28 zHL:=by
 have gok:∀ f s,look? f [(64,zI4)]=some s->PSound Tryz.prog f s:=zAl (by
  simp only[List.forall_mem_cons]
  exact⟨zNC,by simp⟩)
 refine zAC tokW Tryz.call28 Tryz.func28 rfl (fun xs r h=>by obtain⟨n,_,_,_,rfl,_⟩:=h; show 1<=5; decide) 5 rfl ?_;rintro xs r w0 G0 ⟨n,b1,y0,h,rfl,rfl⟩ _;rw[zBA]at h;refine zZO ?_;refine zZO ?_;obtain⟨y2,hy2,h⟩:=zAc h;refine⟨_,⟨_,_,_,_,hy2,rfl,rfl⟩,?_⟩
 refine zAe ?_;have hy:=osi h;subst hy;exact fin0 rfl rfl
end Go.Proofs.YtgplhldfbkmmgaaGreat
