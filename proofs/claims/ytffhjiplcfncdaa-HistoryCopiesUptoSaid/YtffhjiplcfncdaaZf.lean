/-
  Joined out of: HcH, PTypO.
-/
import Derived.Test.YtffhjiplcfncdaaZe
set_option linter.unusedVariables false
set_option linter.unusedSimpArgs false
set_option maxHeartbeats 2000000
set_option maxRecDepth 100000
namespace Go.Proofs.Ytffhjiplcfncdaa
open Go.Abs
def zHb:zAp:=zAr fun xs r=>∃ (f:Nat) (a:Nd) (tx:List UInt8),zEB f=some true/\CopA f a/\xs=[.agg ((Nd.enc a).map .s),.s (.str tx)]/\r = .val (.s (.bool true))
set_option maxHeartbeats 4000000 in
theorem zGG:PSound Try.prog 3 zHb:=by
 have gok:∀ f s,look? f [(5,zJx),(6,zMY),(7,zJD),(8,zJr),(9,zHw),(10,zIz),(11,zFd),(12,zGP),(13,zK2),(14,zJC),(15,zFK)]=some s->PSound Try.prog f s:=zAm (by
  simp only[List.forall_mem_cons]
  exact⟨zNA,zPy,zNH,zMn,zKb,zKQ,zHq,zJa,zOq,zNF,zHW,by simp⟩)
 refine zAw tokW Try.call3 Try.func3 rfl (fun xs r h=>by obtain⟨_,_,_,_,_,rfl,_⟩:=h; show 2<=205; decide) 205 rfl ?_;rintro xs r w0 G0 ⟨f,⟨k,t,c,ks⟩,tx,haw,⟨b,hb,hB⟩,rfl,rfl⟩ _;refine zSV ?_;refine zAa ?_;refine zSg [] [19,24] rfl ?_;refine⟨_,⟨f,_,haw,rfl,rfl⟩,?_⟩
 refine⟨_,⟨f,_,_,_,hb,rfl,rfl⟩,?_⟩
 intro q hq;cases q with
 | true =>
  intro q2 hq2;obtain rfl:q2=true:=hq2.trans rfl;refine zAl rfl (fun _=>?_) (fun h=>by cases h)
  refine zSV ?_;refine⟨_,⟨f,_,haw,rfl,rfl⟩,?_⟩
  refine zAg ?_;exact fin0 rfl rfl
 | false =>
  obtain rfl:b=true:=by cases b with | true=>rfl | false=>cases hq
  obtain⟨b2,hb2,hV⟩:=hB rfl;refine⟨_,⟨f,_,_,hb2,rfl,rfl⟩,?_⟩
  intro q2 hq2;cases q2 with
  | true =>
   refine zAl rfl (fun _=>?_) (fun h=>by cases h)
   refine zSV ?_;refine⟨_,⟨f,_,haw,rfl,rfl⟩,?_⟩
   refine zAg ?_;exact fin0 rfl rfl
  | false =>
   obtain rfl:b2=true:=by cases b2 with | true=>rfl | false=>cases hq2
   refine zAl rfl (fun _=>?_) (fun hz=>?_)
   ·refine zSV ?_;refine⟨_,⟨f,_,haw,rfl,rfl⟩,?_⟩
    refine zAg ?_;exact fin0 rfl rfl
   have hne:ks ≠ []:=by
    rintro rfl;cases hz
   obtain⟨ks2,he,hF⟩:=hV rfl hne;obtain⟨e1,e2,e3,e4⟩:=Nd.mk.inj he;subst e1; subst e2; subst e3; subst e4
   have hl:(Nd.encs ks).length=ks.length:=rlen Nd.encs_eq ks;have hk:=hF.len;have hpos:0<(Nd.encs ks).length:=by
    rw[hl]; exact List.length_pos_iff.2 hne
   refine zAe ?_;refine zSg [31,34,5] [] rfl ?_;refine And.intro (capB ([]:List (List S)).length (Nd.encs ks).length (by simp) (by omega)) ?_;refine⟨_,_,⟨_,rfl,rfl,rfl,rfl⟩,?_⟩
   refine zAk (Le.rnm [(1,0),(2,1)] [(1,.s (.str tx)),(2,.s (.pt [.int .i64 1,.str [],.int .i64 0,.sl 4 (Nd.encs ks)])),(5,.op 1 0)] [(0,.row 24 4 (Nd.encs ks)),(1,.box 24 [.s (.int .i64 1),.s (.str []),.s (.int .i64 0),.orow 0])] 2 ⟨rfl,rfl,rfl,trivial⟩ ⟨rfl,⟨_,rfl,rfl⟩,rfl,⟨_,rfl,rfl⟩,trivial⟩) ?_;refine zSV ?_;refine⟨_,_,⟨f,1,0,[],ks,hF.valid,hF.deep,rfl,rfl,rfl,rfl⟩,?_⟩
   refine zAk (Le.rnm [(0,0),(1,1),(2,2)] [(1,.s (.str tx)),(2,.s (.pt [.int .i64 1,.str [],.int .i64 0,.sl 4 (Nd.encs ks)])),(5,.op 1 0),(6,.op 2 0),(7,.s (.int .i64 0))] [(0,.row 24 4 (Nd.encs ks)),(1,.box 24 [.s (.int .i64 1),.s (.str []),.s (.int .i64 0),.orow 0]),(2,.box 57 [.s (.int .i64 1),.s (.str []),.s (.int .i64 0),.s (.sl 4 (Nd.encs ks)),.s (.int .i64 1),.s (.str []),.s (.int .i64 0),.s (.sl 4 (Nd.encs ks)),.nl 5,.s (.int .i64 0)])] 3 ⟨rfl,rfl,rfl,rfl,rfl,trivial⟩ ⟨rfl,⟨_,rfl,rfl⟩,rfl,⟨_,rfl,rfl⟩,rfl,⟨_,rfl,rfl⟩,trivial⟩) ?_;refine zAa ?_;refine zSV ?_;show Tri ..
   refine zAl rfl (fun hb=>by cases hb) (fun hb=>?_)
   refine zAe ?_;refine zSg [48,50,51,8] [] rfl ?_;refine zAk (Le.nrmA 4 rfl) ?_
   refine zAk (Le.rnm [(0,0),(1,1),(2,2),(3,3),(4,4),(5,5),(6,6)] [(1,.s (.str tx)),(2,.s (.pt [.int .i64 1,.str [],.int .i64 0,.sl 4 (Nd.encs ks)])),(5,.op 1 0),(6,.op 2 0),(8,.op 6 0)] [(0,.row 24 4 (Nd.encs ks)),(1,.box 24 [.s (.int .i64 1),.s (.str []),.s (.int .i64 0),.orow 0]),(2,.box 57 [.s (.int .i64 1),.s (.str []),.s (.int .i64 0),.s (.sl 4 (Nd.encs ks)),.s (.int .i64 1),.s (.str []),.s (.int .i64 0),.s (.sl 4 (Nd.encs ks)),.nl 5,.s (.int .i64 0)]),(3,.row 24 4 [[.int .i64 3,.str [49],.int .i64 0,.sl 4 []]]),(4,.arow 35 8 [[.s (.int .i64 1),.s (.sl 1 []),.s (.int .i64 0),.s (.int .i64 0),.orow 3,.s (.int .i64 0),.s (.str []),.s (.str [])]]),(5,.row 3 1 [[.int .i64 1]]),(6,.box 40 [.orow 4,.nl 1,.nl 1,.orow 5,.nl 1])] 7 ⟨rfl,rfl,rfl,rfl,rfl,trivial⟩ ⟨rfl,⟨_,rfl,rfl⟩,rfl,⟨_,rfl,rfl⟩,rfl,⟨_,rfl,rfl⟩,rfl,⟨_,rfl,rfl⟩,rfl,⟨_,rfl,rfl⟩,rfl,⟨_,rfl,rfl⟩,rfl,⟨_,rfl,rfl⟩,trivial⟩) ?_
   refine zAa ?_;refine zSg [] [58] rfl ?_;intro q3 hq3;cases q3 with
   | true =>
    refine zAl rfl (fun _=>?_) (fun h=>by cases h)
    refine zSV ?_;refine zAg ?_;unfold zCQ;exact⟨_,Le.refl _ _,congrArg (fun z=>some (AV.s (.bool z))) hq3.symm,rfl⟩
   | false =>
    have hlt:ks.length<200:=by
     have:=of_decide_eq_false hq3.symm;rw[hl]at this; omega
    obtain⟨hfm,hrw,hwt,hdo,s,hdp⟩:=hF.more hlt;refine⟨_,_,⟨f,1,0,1,0,1,0,[],[],[],ks,ks,.mk 3 [49] 0 []::ks,1,0,[],ks,by omega,hF.valid,hfm,hrw,hwt,hF.deep,rfl,rfl,rfl,rfl⟩,?_⟩
    refine zAl rfl (fun hb=>by cases hb) (fun hb=>?_)
    refine zAe ?_;show Tri ..
    refine zAk (Le.rnm [(0,0),(1,1),(2,2),(3,3),(4,4),(5,5),(6,6),(7,7)] [(1,.s (.str tx)),(2,.s (.pt [.int .i64 1,.str [],.int .i64 0,.sl 4 (Nd.encs ks)])),(5,.op 1 0),(6,.op 2 0),(8,.op 6 0)] [(0,.row 24 4 (Nd.encs ks)),(1,.box 24 [.s (.int .i64 1),.s (.str []),.s (.int .i64 0),.orow 0]),(2,.box 57 [.s (.int .i64 1),.s (.str []),.s (.int .i64 0),.s (.sl 4 (Nd.encs ks)),.s (.int .i64 1),.s (.str []),.s (.int .i64 0),.s (.sl 4 (Nd.encs (.mk 3 [49] 0 []::ks))),.orow 7,.s (.int .i64 1)]),(3,.row 24 4 [[.int .i64 3,.str [49],.int .i64 0,.sl 4 []]]),(4,.arow 35 8 [[.s (.int .i64 1),.s (.sl 1 []),.s (.int .i64 0),.s (.int .i64 0),.orow 3,.s (.int .i64 0),.s (.str []),.s (.str [])]]),(5,.row 3 1 [[.int .i64 1]]),(6,.box 40 [.orow 4,.nl 1,.nl 1,.orow 5,.nl 1]),(7,.row 40 5 [[.sl 8 [[.int .i64 1,.sl 1 [],.int .i64 0,.int .i64 0,.sl 4 [[.int .i64 3,.str [49],.int .i64 0,.sl 4 []]],.int .i64 0,.str [],.str []]],.sl 1 [],.sl 1 [],.sl 1 [[.int .i64 1]],.sl 1 []]])] 8 ⟨rfl,rfl,rfl,rfl,rfl,trivial⟩ ⟨rfl,⟨_,rfl,rfl⟩,rfl,⟨_,rfl,rfl⟩,rfl,⟨_,rfl,rfl⟩,rfl,⟨_,rfl,rfl⟩,rfl,⟨_,rfl,rfl⟩,rfl,⟨_,rfl,rfl⟩,rfl,⟨_,rfl,rfl⟩,rfl,⟨_,rfl,rfl⟩,trivial⟩) ?_
    refine zAa ?_;refine zSV ?_;refine⟨_,_,⟨1,0,[],ks,1,0,[],.mk 3 [49] 0 []::ks,rfl,rfl,rfl,rfl⟩,?_⟩
    refine zSg [] [75] rfl ?_;refine⟨_,_,⟨1,0,[],ks,1,0,[],.mk 3 [49] 0 []::ks,hdo,rfl,rfl,rfl,rfl⟩,?_⟩
    intro q4 hq4;obtain rfl:q4=false:=hq4.trans (by simp[Nd.encs]; omega)
    refine And.intro (show(0:Int)<=0/\(0:Int)<1 by decide) ?_;refine⟨show 0<1 by decide,_,rfl,?_⟩
    refine And.intro (show(0:Int)<=0/\(0:Int)<1 by decide) ?_;refine⟨show 0<1 by decide,_,rfl,?_⟩
    refine And.intro (show(0:Int)<=0/\(0:Int)<1 by decide) ?_;refine⟨show 0<1 by decide,_,rfl,?_⟩
    refine zAl rfl (fun hb=>by cases hb) (fun hb=>?_)
    refine zAe ?_;show Tri ..
    refine zAk (Le.rnm [(0,0),(1,1),(2,2),(3,3),(4,4),(5,5),(6,6),(7,7)] [(1,.s (.str tx)),(2,.s (.pt [.int .i64 1,.str [],.int .i64 0,.sl 4 (Nd.encs ks)])),(5,.op 1 0),(6,.op 2 0),(8,.op 6 0)] [(0,.row 24 4 (Nd.encs ks)),(1,.box 24 [.s (.int .i64 1),.s (.str []),.s (.int .i64 0),.orow 0]),(2,.box 57 [.s (.int .i64 1),.s (.str []),.s (.int .i64 0),.s (.sl 4 (Nd.encs ks)),.s (.int .i64 1),.s (.str []),.s (.int .i64 0),.s (.sl 4 (Nd.encs (.mk 3 [49] 0 []::ks))),.orow 7,.s (.int .i64 1)]),(3,.row 24 4 [[.int .i64 3,.str [49],.int .i64 0,.sl 4 []]]),(4,.arow 35 8 [[.s (.int .i64 1),.s (.sl 1 []),.s (.int .i64 0),.s (.int .i64 0),.orow 3,.s (.int .i64 0),.s (.str []),.s (.str [])]]),(5,.row 3 1 [[.int .i64 1]]),(6,.box 40 [.orow 4,.nl 1,.nl 1,.orow 5,.nl 1]),(7,.row 40 5 [[.sl 8 [[.int .i64 1,.sl 1 [],.int .i64 0,.int .i64 0,.sl 4 [[.int .i64 3,.str [49],.int .i64 0,.sl 4 []]],.int .i64 0,.str [],.str []]],.sl 1 [],.sl 1 [],.sl 1 [[.int .i64 1]],.sl 1 []]])] 8 ⟨rfl,rfl,rfl,rfl,rfl,trivial⟩ ⟨rfl,⟨_,rfl,rfl⟩,rfl,⟨_,rfl,rfl⟩,rfl,⟨_,rfl,rfl⟩,rfl,⟨_,rfl,rfl⟩,rfl,⟨_,rfl,rfl⟩,rfl,⟨_,rfl,rfl⟩,rfl,⟨_,rfl,rfl⟩,rfl,⟨_,rfl,rfl⟩,trivial⟩) ?_
    refine zSV ?_;refine⟨_,_,⟨1,0,[],ks,1,0,[],.mk 3 [49] 0 []::ks,hdo,rfl,rfl,rfl,rfl⟩,?_⟩
    refine⟨_,⟨f,_,_,hdp,rfl,rfl⟩,?_⟩
    show Tri ..
    refine zAk (Le.rnm [(0,0),(1,1),(2,2),(3,3),(4,4),(5,5),(6,6),(7,7)] [(1,.s (.str tx)),(2,.s (.pt [.int .i64 1,.str [],.int .i64 0,.sl 4 (Nd.encs ks)])),(5,.op 1 0),(6,.op 2 0),(8,.op 6 0),(10,.s (.str s))] [(0,.row 24 4 (Nd.encs ks)),(1,.box 24 [.s (.int .i64 1),.s (.str []),.s (.int .i64 0),.orow 0]),(2,.box 57 [.s (.int .i64 1),.s (.str []),.s (.int .i64 0),.s (.sl 4 (Nd.encs ks)),.s (.int .i64 1),.s (.str []),.s (.int .i64 0),.s (.sl 4 (Nd.encs (.mk 3 [49] 0 []::ks))),.orow 7,.s (.int .i64 1)]),(3,.row 24 4 [[.int .i64 3,.str [49],.int .i64 0,.sl 4 []]]),(4,.arow 35 8 [[.s (.int .i64 1),.s (.sl 1 []),.s (.int .i64 0),.s (.int .i64 0),.orow 3,.s (.int .i64 0),.s (.str []),.s (.str [])]]),(5,.row 3 1 [[.int .i64 1]]),(6,.box 40 [.orow 4,.nl 1,.nl 1,.orow 5,.nl 1]),(7,.row 40 5 [[.sl 8 [[.int .i64 1,.sl 1 [],.int .i64 0,.int .i64 0,.sl 4 [[.int .i64 3,.str [49],.int .i64 0,.sl 4 []]],.int .i64 0,.str [],.str []]],.sl 1 [],.sl 1 [],.sl 1 [[.int .i64 1]],.sl 1 []]])] 8 ⟨rfl,rfl,rfl,rfl,rfl,rfl,trivial⟩ ⟨rfl,⟨_,rfl,rfl⟩,rfl,⟨_,rfl,rfl⟩,rfl,⟨_,rfl,rfl⟩,rfl,⟨_,rfl,rfl⟩,rfl,⟨_,rfl,rfl⟩,rfl,⟨_,rfl,rfl⟩,rfl,⟨_,rfl,rfl⟩,rfl,⟨_,rfl,rfl⟩,trivial⟩) ?_
    refine zSV ?_;refine And.intro (show(0:Int)<=0/\(0:Int)<((Nd.encs ks).length:Int) from⟨Int.le_refl _,Int.ofNat_lt.2 hpos⟩) ?_;refine And.intro hpos ?_;refine zSV ?_;refine And.intro (show(0:Int)<=0/\(0:Int)<1 by decide) ?_;refine⟨show 0<1 by decide,_,rfl,?_⟩
    refine And.intro (show(0:Int)<=0/\(0:Int)<1 by decide) ?_;refine And.intro (show 0<1 by decide) ?_;refine zSV ?_;refine And.intro (show(0:Int)<=0/\(0:Int)<1 by decide) ?_;refine And.intro (show 0<1 by decide) ?_;show Tri ..
    refine zAk (Le.rnm [(2,0),(7,1)] [(1,.s (.str tx)),(2,.s (.pt [.int .i64 1,.str [],.int .i64 0,.sl 4 (Nd.encs ks)])),(6,.op 0 0),(10,.s (.str s))] [(0,.box 57 [.s (.int .i64 1),.s (.str []),.s (.int .i64 0),.s (.sl 4 (Nd.encs ks)),.s (.int .i64 1),.s (.str []),.s (.int .i64 0),.s (.sl 4 (Nd.encs (.mk 3 [49] 0 []::ks))),.orow 1,.s (.int .i64 1)]),(1,.row 40 5 [[.sl 8 [[.int .i64 1,.sl 1 [],.int .i64 0,.int .i64 0,.sl 4 [[.int .i64 3,.str [49],.int .i64 0,.sl 4 []]],.int .i64 0,.str [],.str []]],.sl 1 [],.sl 1 [],.sl 1 [[.int .i64 1]],.sl 1 []]])] 2 ⟨rfl,rfl,rfl,rfl,trivial⟩ ⟨rfl,⟨_,rfl,rfl⟩,rfl,⟨_,rfl,rfl⟩,trivial⟩) ?_
    refine zSV ?_;refine⟨_,_,⟨1,0,[],ks,1,0,[],.mk 3 [49] 0 []::ks,hdo,rfl,rfl,rfl,rfl⟩,?_⟩
    refine And.intro (show(0:Int)<=0/\(0:Int)<((Nd.encs (.mk 3 [49] 0 []::ks)).length:Int) from⟨Int.le_refl _,Int.ofNat_lt.2 (Nat.succ_pos _)⟩) ?_;refine And.intro (Nat.succ_pos _) ?_;show Tri ..
    refine zAk (Le.rnm [(0,0),(1,1)] [(1,.s (.str tx)),(2,.s (.pt [.int .i64 1,.str [],.int .i64 0,.sl 4 (Nd.encs ks)])),(6,.op 0 0),(10,.s (.str s))] [(0,.box 57 [.s (.int .i64 1),.s (.str []),.s (.int .i64 0),.s (.sl 4 (Nd.encs ks)),.s (.int .i64 1),.s (.str []),.s (.int .i64 0),.s (.sl 4 (Nd.encs (.mk 3 [49] 0 []::ks))),.orow 1,.s (.int .i64 1)]),(1,.row 40 5 [[.sl 8 [[.int .i64 1,.sl 1 [],.int .i64 0,.int .i64 0,.sl 4 [[.int .i64 3,.str [49],.int .i64 0,.sl 4 []]],.int .i64 0,.str [],.str []]],.sl 1 [],.sl 1 [],.sl 1 [[.int .i64 1]],.sl 1 []]])] 2 ⟨rfl,rfl,rfl,rfl,trivial⟩ ⟨rfl,⟨_,rfl,rfl⟩,rfl,⟨_,rfl,rfl⟩,trivial⟩) ?_
    refine zSV ?_;refine⟨_,_,⟨1,0,[],ks,1,0,[],.mk 3 [49] 0 []::ks,rfl,rfl,rfl,rfl⟩,?_⟩
    refine And.intro (show(0:Int)<=0/\(0:Int)<1 by decide) ?_;refine⟨show 0<1 by decide,_,rfl,?_⟩
    refine And.intro (show(0:Int)<=0/\(0:Int)<1 by decide) ?_;refine⟨show 0<1 by decide,_,rfl,?_⟩
    refine And.intro (show(0:Int)<=0/\(0:Int)<1 by decide) ?_;refine And.intro (show 0<1 by decide) ?_;show Tri ..
    refine zAk (Le.rnm [(0,0),(1,1)] [(1,.s (.str tx)),(2,.s (.pt [.int .i64 1,.str [],.int .i64 0,.sl 4 (Nd.encs ks)])),(6,.op 0 0),(10,.s (.str s))] [(0,.box 57 [.s (.int .i64 1),.s (.str []),.s (.int .i64 0),.s (.sl 4 (Nd.encs ks)),.s (.int .i64 1),.s (.str []),.s (.int .i64 0),.s (.sl 4 (Nd.encs (.mk 3 [49] 0 []::ks))),.orow 1,.s (.int .i64 1)]),(1,.row 40 5 [[.sl 8 [[.int .i64 1,.sl 1 [],.int .i64 0,.int .i64 0,.sl 4 [[.int .i64 3,.str [49],.int .i64 0,.sl 4 []]],.int .i64 0,.str [],.str []]],.sl 1 [],.sl 1 [],.sl 1 [[.int .i64 1]],.sl 1 []]])] 2 ⟨rfl,rfl,rfl,rfl,trivial⟩ ⟨rfl,⟨_,rfl,rfl⟩,rfl,⟨_,rfl,rfl⟩,trivial⟩) ?_
    refine zSV ?_;refine⟨_,_,⟨1,0,[],ks,1,0,[],.mk 3 [49] 0 []::ks,rfl,rfl,rfl,rfl⟩,?_⟩
    show Tri ..
    refine zAk (Le.rnm [(0,0),(1,1),(2,2),(3,3),(4,4)] [(1,.s (.str tx)),(2,.s (.pt [.int .i64 1,.str [],.int .i64 0,.sl 4 (Nd.encs ks)])),(6,.op 0 0),(10,.s (.str s)),(11,.orow 2)] [(0,.box 57 [.s (.int .i64 1),.s (.str []),.s (.int .i64 0),.s (.sl 4 (Nd.encs ks)),.s (.int .i64 1),.s (.str []),.s (.int .i64 0),.s (.sl 4 (Nd.encs (.mk 3 [49] 0 []::ks))),.orow 1,.s (.int .i64 1)]),(1,.row 40 5 [[.sl 8 [[.int .i64 1,.sl 1 [],.int .i64 0,.int .i64 0,.sl 4 [[.int .i64 3,.str [49],.int .i64 0,.sl 4 []]],.int .i64 0,.str [],.str []]],.sl 1 [],.sl 1 [],.sl 1 [[.int .i64 1]],.sl 1 []]]),(2,.arow 40 5 [[.orow 3,.s (.sl 1 []),.s (.sl 1 []),.s (.sl 1 [[.int .i64 1]]),.s (.sl 1 [])]]),(3,.arow 35 8 [[.s (.int .i64 1),.s (.sl 1 []),.s (.int .i64 0),.s (.int .i64 0),.orow 4,.s (.int .i64 0),.s (.str []),.s (.str [])]]),(4,.row 24 4 [[.int .i64 3,.str [49],.int .i64 0,.sl 4 []]])] 5 ⟨rfl,rfl,rfl,rfl,rfl,trivial⟩ ⟨rfl,⟨_,rfl,rfl⟩,rfl,⟨_,rfl,rfl⟩,rfl,⟨_,rfl,rfl⟩,rfl,⟨_,rfl,rfl⟩,rfl,⟨_,rfl,rfl⟩,trivial⟩) ?_
    refine zAa ?_;refine zBx [] [143] [1,2,7,13,18,20,21,26,28,29,31,32,37,39,40,42,43,45,50,53,54,59,62,63,64] rfl (by decide +kernel) ?_;refine⟨_,_,⟨1,0,[],ks,1,0,[],.mk 3 [49] 0 []::ks,hdo,rfl,rfl,rfl,rfl⟩,?_⟩
    refine⟨_,⟨f,_,_,hdp,rfl,rfl⟩,?_⟩
    intro q5 hq5;obtain rfl:q5=true:=hq5.trans (by simp)
    refine⟨_,_,⟨1,0,[],ks,1,0,[],.mk 3 [49] 0 []::ks,hF.deep,rfl,rfl,rfl,rfl⟩,?_⟩
    refine⟨_,⟨f,_,_,_,hF.same,rfl,rfl⟩,?_⟩
    refine And.intro (show(0:Int)<=0/\(0:Int)<1 by decide) ?_;refine⟨show 0<1 by decide,_,rfl,?_⟩
    refine And.intro (show(0:Int)<=0/\(0:Int)<1 by decide) ?_;refine⟨show 0<1 by decide,_,rfl,?_⟩
    refine And.intro (show(0:Int)<=0/\(0:Int)<1 by decide) ?_;refine⟨show 0<1 by decide,_,rfl,?_⟩
    refine And.intro (show(0:Int)<=0/\(0:Int)<1 by decide) ?_;refine⟨show 0<1 by decide,_,rfl,?_⟩
    refine And.intro (show(0:Int)<=0/\(0:Int)<1 by decide) ?_;refine⟨show 0<1 by decide,_,rfl,?_⟩
    refine And.intro (show(0:Int)<=0/\(0:Int)<1 by decide) ?_;refine⟨show 0<1 by decide,_,rfl,?_⟩
    refine And.intro (show(0:Int)<=0/\(0:Int)<1 by decide) ?_;refine⟨show 0<1 by decide,_,rfl,?_⟩
    refine And.intro (show(0:Int)<=0/\(0:Int)<1 by decide) ?_;refine⟨show 0<1 by decide,_,rfl,?_⟩
    refine And.intro (show(0:Int)<=0/\(0:Int)<1 by decide) ?_;refine zAg ?_;exact fin0 rfl rfl
theorem zRz {n:Nat}{ss:List S} (h:Typed T n 24 ss):∃ t:Nd,ss=t.enc/\t.rng :=
 zPK (T:=T) (e:=24) (s:=22) (ki:=3) (st:=9) rfl rfl rfl rfl rfl rfl rfl rfl rfl n h
end Go.Proofs.Ytffhjiplcfncdaa
