/-
  Joined out of: FzHC, FzHD, PTypO, PTypR, PCnt, PByte, PText, PVal, PDist, PMet, PPut, PPos, PDump, PNode, PRow, PWith, PWt, PLeast, PLeast2, PEdit1, PEdit2, PEdit3, PEdit4, PEdit5, PDif4, PEdit6, PEdit7.
-/
import Derived.Lib.ItoaLen
import Derived.Test.YtgplhldfbkmmgaaGreatZe
set_option linter.unusedVariables false
set_option linter.unusedSimpArgs false
set_option maxHeartbeats 2000000
set_option maxRecDepth 100000
namespace Go.Proofs.YtgplhldfbkmmgaaGreat
open Go.Abs
def zIV (n:Nat) (xs:List AV) (os:List Ob) (x:AV) (os':List (Option Ob)):Prop:=∃ (a0G:Int) (a0H:List UInt8) (a0I:Int) (a0J:List Nd) (a0M:Int) (a0N:List UInt8) (a0O:Int) (a0P:List Nd) (a0E:List zRc) (a0F:Int) (a1:zRc) (y0:Int) (z0G:Int) (z0H:List UInt8) (z0I:Int) (z0J:List Nd) (z0M:Int) (z0N:List UInt8) (z0O:Int) (z0P:List Nd) (z0E:List zRc) (z0F:Int),zBf n (Nd.mk a0G a0H a0I a0J,Nd.mk a0M a0N a0O a0P,a0E,a0F) a1=some (y0,(Nd.mk z0G z0H z0I z0J,Nd.mk z0M z0N z0O z0P,z0E,z0F))/\xs=[.op 0 0,.agg ((zAd a1).map .s)]/\os=[.box 104 [.s (.int .i64 a0G),.s (.str a0H),.s (.int .i64 a0I),.s (.sl 4 (Nd.encs a0J)),.s (.int .i64 a0M),.s (.str a0N),.s (.int .i64 a0O),.s (.sl 4 (Nd.encs a0P)),.orow 1,.s (.int .i64 a0F)],.row 60 5 ((List.map zAd) a0E)]/\x = .s (.int .i64 y0)/\os'=[some (.box 104 [.s (.int .i64 z0G),.s (.str z0H),.s (.int .i64 z0I),.s (.sl 4 (Nd.encs z0J)),.s (.int .i64 z0M),.s (.str z0N),.s (.int .i64 z0O),.s (.sl 4 (Nd.encs z0P)),.orow 2,.s (.int .i64 z0F)]),none,some (.row 60 5 ((List.map zAd) z0E))]
def zFy:zAz:=zC8 (fun xs os x os'=>∃ n,zIV n xs os x os')
theorem zIy:PSound Tryz.prog 47 zFy:=by
 have gok:∀ f s,look? f [(74,zDr),(95,zHn)]=some s->PSound Tryz.prog f s:=zAt (by
  simp only[List.forall_mem_cons]
  exact⟨zEa,zJq,by simp⟩)
 refine PSound.withNil (zFn tokW Tryz.call47 Tryz.func47 rfl (fun xs os x os' h=>by obtain⟨n,_,_,_,_,_,_,_,_,_,_,_,_,_,_,_,_,_,_,_,_,_,_,_,rfl,rfl,_,rfl⟩:=h; exact⟨by show 2<=57; decide,by show 2<=3; decide⟩) 57 rfl ?_) _;rintro xs os x os' w0 G0 B0 ⟨n,o1G,o1H,o1I,o1J,o1M,o1N,o1O,o1P,o1E,o1F,⟨r2Aa,⟨r2Ab,r2Ac⟩,⟨r2Ad,r2Ae⟩⟩,y0,z0G,z0H,z0I,z0J,z0M,z0N,z0O,z0P,z0E,z0F,h,rfl,rfl,rfl,rfl⟩ _
 rw[zBf]at h;refine zYe [] [] rfl ?_;show Tri ..;refine zAa ?_;refine zYe [] [] rfl ?_;show Tri ..;refine zAL rfl (fun h=>by cases h) (fun _=>?_)
 refine zAf ?_;show Tri ..;refine zAa ?_;refine zEK [5] [] [3,11,12] [3] rfl (by decide +kernel) ?_;obtain⟨⟨⟨y3A,y3B,y3D,y3C⟩,y4,y5⟩,hy3,h⟩:=zAc h;refine⟨_,⟨_,_,_,_,_,_,hy3,rfl,rfl⟩,?_⟩
 show Tri ..;refine zAk (Le.giveBox 2 [.int .i64 y3A,.str y3B,.int .i64 y3D,.sl 4 (Nd.encs y3C)] rfl rfl) ?_;refine zAa ?_;refine zYe [] [] rfl ?_;show Tri ..;refine zAh rfl h (fun hb h=>?_) (fun hb h=>?_)
 ·refine zYe [] [] rfl ?_;show Tri ..;refine zAe ?_;have hj0:=Option.some.inj h;obtain⟨hv0,hw0⟩:=Prod.mk.inj hj0;subst hv0;obtain⟨he1Q,hr1Q⟩:=Prod.mk.inj hw0;obtain⟨he1R,hr1R⟩:=Prod.mk.inj hr1Q;obtain⟨he1V,he1W⟩:=Prod.mk.inj hr1R;obtain⟨he2Q,he2R,he2V,he2W⟩:=Nd.mk.inj he1Q;subst he2Q;subst he2R;subst he2V;subst he2W;obtain⟨he3Q,he3R,he3V,he3W⟩:=Nd.mk.inj he1R;subst he3Q;subst he3R;subst he3V;subst he3W;subst he1V;subst he1W;unfold zBp
  exact⟨_,(Le.rnm [(0,0),(1,2)] [(4,.s (.int .i64 y5))] [(0,.box 104 [.s (.int .i64 o1G),.s (.str o1H),.s (.int .i64 o1I),.s (.sl 4 (Nd.encs o1J)),.s (.int .i64 o1M),.s (.str o1N),.s (.int .i64 o1O),.s (.sl 4 (Nd.encs o1P)),.orow 2,.s (.int .i64 o1F)]),(2,.row 60 5 ((List.map zAd) o1E))] 3 ⟨rfl,trivial⟩ ⟨rfl,⟨_,rfl,rfl⟩,rfl,⟨_,rfl,rfl⟩,trivial⟩),rfl,rfl,rfl,rfl,rfl,rfl,trivial⟩
 ·refine zAf ?_;show Tri ..;refine zAa ?_;refine zYe [] [] rfl ?_;show Tri ..;refine zAh rfl h (fun hb h=>?_) (fun hb h=>?_)
  ·refine zYe [] [] rfl ?_;show Tri ..;refine zAe ?_;have hj0:=Option.some.inj h;obtain⟨hv0,hw0⟩:=Prod.mk.inj hj0;subst hv0;obtain⟨he1Q,hr1Q⟩:=Prod.mk.inj hw0;obtain⟨he1R,hr1R⟩:=Prod.mk.inj hr1Q;obtain⟨he1V,he1W⟩:=Prod.mk.inj hr1R;obtain⟨he2Q,he2R,he2V,he2W⟩:=Nd.mk.inj he1Q;subst he2Q;subst he2R;subst he2V;subst he2W;obtain⟨he3Q,he3R,he3V,he3W⟩:=Nd.mk.inj he1R;subst he3Q;subst he3R;subst he3V;subst he3W;subst he1V;subst he1W;unfold zBp
   exact⟨_,(Le.rnm [(0,0),(1,2)] [(4,.s (.int .i64 6))] [(0,.box 104 [.s (.int .i64 o1G),.s (.str o1H),.s (.int .i64 o1I),.s (.sl 4 (Nd.encs o1J)),.s (.int .i64 o1M),.s (.str o1N),.s (.int .i64 o1O),.s (.sl 4 (Nd.encs o1P)),.orow 2,.s (.int .i64 o1F)]),(2,.row 60 5 ((List.map zAd) o1E))] 3 ⟨rfl,trivial⟩ ⟨rfl,⟨_,rfl,rfl⟩,rfl,⟨_,rfl,rfl⟩,trivial⟩),rfl,rfl,rfl,rfl,rfl,rfl,trivial⟩
  ·refine zAf ?_;show Tri ..;refine zAa ?_;refine zAQ [38,42] [41] [4,8,9,13,16] rfl (by decide +kernel) ?_;obtain⟨hq,h⟩:=zAK h;refine And.intro ⟨hq.1,Int.le_trans hq.2 (Int.ofNat_le.2 (Nat.le_of_eq (rlen (fun _=>rfl) _).symm))⟩ ?_;obtain⟨⟨y6Aa,⟨y6Ab,y6Ac⟩,⟨y6Ad,y6Ae⟩⟩,hy6,h⟩:=zAc h;refine⟨_,⟨_,_,_,hy6,rfl,rfl⟩,?_⟩
   intro r7 hr7;obtain rfl:(List.map zAd) [(y6Aa,(y6Ab,y6Ac),(y6Ad,y6Ae))]=r7:=(hr7.trans (by simp[List.map_append,List.map_take,List.map_drop,irow,brow,zAG,List.map_cons,List.map_nil,zAC,Nd.encs_eq,Nd.enc,CV.encs_eq,CV.enc,zAq,zAm,zAx,zAr,zAp,zAi,zAu,zAs,zAd,zAo,zAn,zAN,zBb])).symm;obtain⟨hq,h⟩:=zAK h
   refine And.intro (show(((((List.map zAd) o1E)).take o1F.toNat).length+((List.map zAd) [(y6Aa,(y6Ab,y6Ac),(y6Ad,y6Ae))]).length) * 120<=140737488355328/\((((List.map zAd) o1E)).take o1F.toNat).length+((List.map zAd) [(y6Aa,(y6Ab,y6Ac),(y6Ad,y6Ae))]).length<=9223372036854775807 from by simp only[List.length_append,List.length_cons,List.length_nil,List.length_map,List.length_take,rlen (fun _=>rfl)]at hq ⊢; omega) ?_;show Tri ..
   refine zAk (Le.rnm [(0,0),(4,2)] [(0,.op 0 0),(5,.s (.pt [.int .i64 y3A,.str y3B,.int .i64 y3D,.sl 4 (Nd.encs y3C)]))] [(0,.box 104 [.s (.int .i64 o1G),.s (.str o1H),.s (.int .i64 o1I),.s (.sl 4 (Nd.encs o1J)),.s (.int .i64 o1M),.s (.str o1N),.s (.int .i64 o1O),.s (.sl 4 (Nd.encs o1P)),.orow 2,.s (.int .i64 o1F)]),(2,.row 60 5 ((List.map zAd) ((o1E.take o1F.toNat)++[(y6Aa,(y6Ab,y6Ac),(y6Ad,y6Ae))])))] 3 ⟨rfl,rfl,trivial⟩ ⟨rfl,⟨_,rfl,rfl⟩,rfl,⟨_,rfl,congrArg (Ob.row 60 5) (by simp[List.map_append,List.map_take,List.map_drop,irow,brow,zAG,List.map_cons,List.map_nil,zAC,Nd.encs_eq,Nd.enc,CV.encs_eq,CV.enc,zAq,zAm,zAx,zAr,zAp,zAi,zAu,zAs,zAd,zAo,zAn,zAN,zBb])⟩,trivial⟩) ?_
   refine zAa ?_;refine zAQ [] [] [6,10,13] rfl (by decide +kernel) ?_;show Tri ..;refine zYe [] [] rfl ?_;show Tri ..;refine zAe ?_;have hj0:=Option.some.inj h;obtain⟨hv0,hw0⟩:=Prod.mk.inj hj0;subst hv0;obtain⟨he1Q,hr1Q⟩:=Prod.mk.inj hw0;obtain⟨he1R,hr1R⟩:=Prod.mk.inj hr1Q;obtain⟨he1V,he1W⟩:=Prod.mk.inj hr1R;obtain⟨he2Q,he2R,he2V,he2W⟩:=Nd.mk.inj he1Q;subst he2Q;subst he2R;subst he2V;subst he2W;obtain⟨he3Q,he3R,he3V,he3W⟩:=Nd.mk.inj he1R;subst he3Q;subst he3R;subst he3V;subst he3W;subst he1V;subst he1W;unfold zBp
   exact⟨_,(Le.rnm [(0,0),(2,2)] [(4,.s (.int .i64 0))] [(0,.box 104 [.s (.int .i64 o1G),.s (.str o1H),.s (.int .i64 o1I),.s (.sl 4 (Nd.encs o1J)),.s (.int .i64 y3A),.s (.str y3B),.s (.int .i64 y3D),.s (.sl 4 (Nd.encs y3C)),.orow 2,.s (.int .i64 (IntKind.i64.wrap (o1F+1)))]),(2,.row 60 5 ((List.map zAd) ((o1E.take o1F.toNat)++[(y6Aa,(y6Ab,y6Ac),(y6Ad,y6Ae))])))] 3 ⟨rfl,trivial⟩ ⟨rfl,⟨_,rfl,rfl⟩,rfl,⟨_,rfl,rfl⟩,trivial⟩),rfl,rfl,rfl,rfl,rfl,rfl,trivial⟩
def zHV (n:Nat) (xs:List AV) (os:List Ob) (x:AV) (os':List (Option Ob)):Prop:=∃ (a0G:Int) (a0H:List UInt8) (a0I:Int) (a0J:List Nd) (a0M:Int) (a0N:List UInt8) (a0O:Int) (a0P:List Nd) (a0E:List zRc) (a0F:Int) (y0:zCu) (y1:Int) (z0G:Int) (z0H:List UInt8) (z0I:Int) (z0J:List Nd) (z0M:Int) (z0N:List UInt8) (z0O:Int) (z0P:List Nd) (z0E:List zRc) (z0F:Int),zBD n (Nd.mk a0G a0H a0I a0J,Nd.mk a0M a0N a0O a0P,a0E,a0F)=some (y0,y1,(Nd.mk z0G z0H z0I z0J,Nd.mk z0M z0N z0O z0P,z0E,z0F))/\xs=[.op 0 0]/\os=[.box 104 [.s (.int .i64 a0G),.s (.str a0H),.s (.int .i64 a0I),.s (.sl 4 (Nd.encs a0J)),.s (.int .i64 a0M),.s (.str a0N),.s (.int .i64 a0O),.s (.sl 4 (Nd.encs a0P)),.orow 1,.s (.int .i64 a0F)],.row 60 5 ((List.map zAd) a0E)]/\x = .tup [.agg ((zAs y0).map .s),.s (.int .i64 y1)]/\os'=[some (.box 104 [.s (.int .i64 z0G),.s (.str z0H),.s (.int .i64 z0I),.s (.sl 4 (Nd.encs z0J)),.s (.int .i64 z0M),.s (.str z0N),.s (.int .i64 z0O),.s (.sl 4 (Nd.encs z0P)),.orow 2,.s (.int .i64 z0F)]),none,some (.row 60 5 ((List.map zAd) z0E))]
def zEP:zAz:=zC8 (fun xs os x os'=>∃ n,zHV n xs os x os')
theorem zHD:PSound Tryz.prog 51 zEP:=by
 have gok:∀ f s,look? f [(97,zHH),(74,zDr),(98,zFA)]=some s->PSound Tryz.prog f s:=zAt (by
  simp only[List.forall_mem_cons]
  exact⟨zKZ,zEa,zGT,by simp⟩)
 refine PSound.withNil (zFn tokW Tryz.call51 Tryz.func51 rfl (fun xs os x os' h=>by obtain⟨n,_,_,_,_,_,_,_,_,_,_,_,_,_,_,_,_,_,_,_,_,_,_,_,rfl,rfl,_,rfl⟩:=h; exact⟨by show 1<=59; decide,by show 2<=3; decide⟩) 59 rfl ?_) _;rintro xs os x os' w0 G0 B0 ⟨n,o1G,o1H,o1I,o1J,o1M,o1N,o1O,o1P,o1E,o1F,y0,y1,z0G,z0H,z0I,z0J,z0M,z0N,z0O,z0P,z0E,z0F,h,rfl,rfl,rfl,rfl⟩ _;rw[zBD]at h;refine zYe [2] [] rfl ?_
 show Tri ..;refine zAa ?_;refine zYe [] [] rfl ?_;show Tri ..;refine zAL rfl (fun h=>by cases h) (fun _=>?_)
 refine zAf ?_;show Tri ..;refine zAa ?_;refine zYe [] [] rfl ?_;show Tri ..;refine zAh rfl h (fun hb h=>?_) (fun hb h=>?_)
 ·refine zYe [] [] rfl ?_;show Tri ..;refine zAe ?_;have hj0:=Option.some.inj h;obtain⟨hv0,hw0⟩:=Prod.mk.inj hj0;subst hv0;obtain⟨hv1,hw1⟩:=Prod.mk.inj hw0;subst hv1;obtain⟨he1Q,hr1Q⟩:=Prod.mk.inj hw1;obtain⟨he1R,hr1R⟩:=Prod.mk.inj hr1Q;obtain⟨he1V,he1W⟩:=Prod.mk.inj hr1R;obtain⟨he2Q,he2R,he2V,he2W⟩:=Nd.mk.inj he1Q;subst he2Q;subst he2R;subst he2V;subst he2W;obtain⟨he3Q,he3R,he3V,he3W⟩:=Nd.mk.inj he1R;subst he3Q;subst he3R;subst he3V;subst he3W;subst he1V;subst he1W;unfold zBp
  exact⟨_,(Le.rnm [(0,0),(1,2),(2,3)] [(2,.op 3 0),(3,.s (.int .i64 8))] [(0,.box 104 [.s (.int .i64 o1G),.s (.str o1H),.s (.int .i64 o1I),.s (.sl 4 (Nd.encs o1J)),.s (.int .i64 o1M),.s (.str o1N),.s (.int .i64 o1O),.s (.sl 4 (Nd.encs o1P)),.orow 2,.s (.int .i64 o1F)]),(2,.row 60 5 ((List.map zAd) o1E)),(3,.box 58 [.nl 1,.nl 1])] 4 ⟨rfl,rfl,trivial⟩ ⟨rfl,⟨_,rfl,rfl⟩,rfl,⟨_,rfl,rfl⟩,rfl,⟨_,rfl,rfl⟩,trivial⟩),rfl,rfl,rfl,rfl,rfl,rfl,trivial⟩
 ·refine zAf ?_;show Tri ..;refine zAa ?_;refine zEK [4] [] [3,7,9,10,11,12] [3,7,9,10] rfl (by decide +kernel) ?_;obtain⟨⟨e2Aa,⟨e2Ab,e2Ac⟩,⟨e2Ad,e2Ae⟩⟩,he2,h⟩:=zAc h;refine And.intro (zAB (fun _=>rfl) he2).1 ?_;refine And.intro (zAB (fun _=>rfl) he2).2.2 ?_;refine⟨_,(zAB (fun _=>rfl) he2).2.1,?_⟩
  show Tri ..;refine zAk (Le.giveBox 3 [.sl 8 ((List.map zAi) e2Aa),.sl 1 ((List.map (irow .i64)) e2Ab),.sl 1 ((List.map (irow .i64)) e2Ac),.sl 1 ((List.map (irow .i64)) e2Ad),.sl 1 ((List.map (irow .i64)) e2Ae)] rfl rfl) ?_;refine zAa ?_;refine zEK [5] [] [3,12,13] [3] rfl (by decide +kernel) ?_;obtain⟨y3,hy3,h⟩:=zAc h;refine⟨_,⟨_,_,_,hy3,rfl,rfl⟩,?_⟩
  obtain⟨⟨⟨y4A,y4B,y4D,y4C⟩,y5,y6⟩,hy4,h⟩:=zAc h;refine⟨_,⟨_,_,_,_,_,_,hy4,rfl,rfl⟩,?_⟩
  show Tri ..;refine zAk (Le.giveBox 4 [.int .i64 y4A,.str y4B,.int .i64 y4D,.sl 4 (Nd.encs y4C)] rfl rfl) ?_;refine zAa ?_;refine zYe [] [] rfl ?_;show Tri ..;refine zAh rfl h (fun hb h=>?_) (fun hb h=>?_)
  ·refine zYe [] [] rfl ?_;show Tri ..;refine zAe ?_;have hj0:=Option.some.inj h;obtain⟨hv0,hw0⟩:=Prod.mk.inj hj0;subst hv0;obtain⟨hv1,hw1⟩:=Prod.mk.inj hw0;subst hv1;obtain⟨he1Q,hr1Q⟩:=Prod.mk.inj hw1;obtain⟨he1R,hr1R⟩:=Prod.mk.inj hr1Q;obtain⟨he1V,he1W⟩:=Prod.mk.inj hr1R;obtain⟨he2Q,he2R,he2V,he2W⟩:=Nd.mk.inj he1Q;subst he2Q;subst he2R;subst he2V;subst he2W;obtain⟨he3Q,he3R,he3V,he3W⟩:=Nd.mk.inj he1R;subst he3Q;subst he3R;subst he3V;subst he3W;subst he1V;subst he1W;unfold zBp
   exact⟨_,(Le.rnm [(0,0),(1,2),(2,3)] [(2,.op 3 0),(3,.s (.int .i64 y6))] [(0,.box 104 [.s (.int .i64 o1G),.s (.str o1H),.s (.int .i64 o1I),.s (.sl 4 (Nd.encs o1J)),.s (.int .i64 o1M),.s (.str o1N),.s (.int .i64 o1O),.s (.sl 4 (Nd.encs o1P)),.orow 2,.s (.int .i64 o1F)]),(2,.row 60 5 ((List.map zAd) o1E)),(3,.box 58 [.nl 1,.nl 1])] 4 ⟨rfl,rfl,trivial⟩ ⟨rfl,⟨_,rfl,rfl⟩,rfl,⟨_,rfl,rfl⟩,rfl,⟨_,rfl,rfl⟩,trivial⟩),rfl,rfl,rfl,rfl,rfl,rfl,trivial⟩
  ·refine zAf ?_;show Tri ..;refine zAa ?_;refine zAQ [] [] [6,10,13] rfl (by decide +kernel) ?_;show Tri ..;refine zYe [] [] rfl ?_;obtain⟨⟨y7Ao,y7Ak⟩,hy7,h⟩:=zAc h;refine⟨_,⟨_,_,hy7,rfl,rfl⟩,?_⟩
   show Tri ..;refine zAe ?_;have hj0:=Option.some.inj h;obtain⟨hv0,hw0⟩:=Prod.mk.inj hj0;subst hv0;obtain⟨hv1,hw1⟩:=Prod.mk.inj hw0;subst hv1;obtain⟨he1Q,hr1Q⟩:=Prod.mk.inj hw1;obtain⟨he1R,hr1R⟩:=Prod.mk.inj hr1Q;obtain⟨he1V,he1W⟩:=Prod.mk.inj hr1R;obtain⟨he2Q,he2R,he2V,he2W⟩:=Nd.mk.inj he1Q;subst he2Q;subst he2R;subst he2V;subst he2W;obtain⟨he3Q,he3R,he3V,he3W⟩:=Nd.mk.inj he1R;subst he3Q;subst he3R;subst he3V;subst he3W;subst he1V;subst he1W;unfold zBp
   exact⟨_,(Le.rnm [(0,0),(1,2),(2,3)] [(2,.op 3 0),(3,.s (.int .i64 0))] [(0,.box 104 [.s (.int .i64 o1G),.s (.str o1H),.s (.int .i64 o1I),.s (.sl 4 (Nd.encs o1J)),.s (.int .i64 y4A),.s (.str y4B),.s (.int .i64 y4D),.s (.sl 4 (Nd.encs y4C)),.orow 2,.s (.int .i64 (IntKind.i64.wrap (o1F - 1)))]),(2,.row 60 5 ((List.map zAd) o1E)),(3,.box 58 [.s (.sl 1 ((List.map (irow .i64)) y7Ao)),.s (.sl 1 ((List.map (irow .i64)) y7Ak))])] 4 ⟨rfl,rfl,trivial⟩ ⟨rfl,⟨_,rfl,rfl⟩,rfl,⟨_,rfl,rfl⟩,rfl,⟨_,rfl,rfl⟩,trivial⟩),rfl,rfl,rfl,rfl,rfl,rfl,trivial⟩
def zHS (n:Nat) (xs:List AV) (os:List Ob) (x:AV) (os':List (Option Ob)):Prop:=∃ (a0G:Int) (a0H:List UInt8) (a0I:Int) (a0J:List Nd) (a0M:Int) (a0N:List UInt8) (a0O:Int) (a0P:List Nd) (a0E:List zRc) (a0F:Int) (y0:zCu) (y1:Int) (z0G:Int) (z0H:List UInt8) (z0I:Int) (z0J:List Nd) (z0M:Int) (z0N:List UInt8) (z0O:Int) (z0P:List Nd) (z0E:List zRc) (z0F:Int),zBB n (Nd.mk a0G a0H a0I a0J,Nd.mk a0M a0N a0O a0P,a0E,a0F)=some (y0,y1,(Nd.mk z0G z0H z0I z0J,Nd.mk z0M z0N z0O z0P,z0E,z0F))/\xs=[.op 0 0]/\os=[.box 104 [.s (.int .i64 a0G),.s (.str a0H),.s (.int .i64 a0I),.s (.sl 4 (Nd.encs a0J)),.s (.int .i64 a0M),.s (.str a0N),.s (.int .i64 a0O),.s (.sl 4 (Nd.encs a0P)),.orow 1,.s (.int .i64 a0F)],.row 60 5 ((List.map zAd) a0E)]/\x = .tup [.agg ((zAs y0).map .s),.s (.int .i64 y1)]/\os'=[some (.box 104 [.s (.int .i64 z0G),.s (.str z0H),.s (.int .i64 z0I),.s (.sl 4 (Nd.encs z0J)),.s (.int .i64 z0M),.s (.str z0N),.s (.int .i64 z0O),.s (.sl 4 (Nd.encs z0P)),.orow 2,.s (.int .i64 z0F)]),none,some (.row 60 5 ((List.map zAd) z0E))]
def zEN:zAz:=zC8 (fun xs os x os'=>∃ n,zHS n xs os x os')
theorem zHB:PSound Tryz.prog 52 zEN:=by
 have gok:∀ f s,look? f [(74,zDr),(98,zFA)]=some s->PSound Tryz.prog f s:=zAt (by
  simp only[List.forall_mem_cons]
  exact⟨zEa,zGT,by simp⟩)
 refine PSound.withNil (zFn tokW Tryz.call52 Tryz.func52 rfl (fun xs os x os' h=>by obtain⟨n,_,_,_,_,_,_,_,_,_,_,_,_,_,_,_,_,_,_,_,_,_,_,_,rfl,rfl,_,rfl⟩:=h; exact⟨by show 1<=62; decide,by show 2<=3; decide⟩) 62 rfl ?_) _;rintro xs os x os' w0 G0 B0 ⟨n,o1G,o1H,o1I,o1J,o1M,o1N,o1O,o1P,o1E,o1F,y0,y1,z0G,z0H,z0I,z0J,z0M,z0N,z0O,z0P,z0E,z0F,h,rfl,rfl,rfl,rfl⟩ _;rw[zBB]at h;refine zYe [2] [] rfl ?_
 show Tri ..;refine zAa ?_;refine zYe [] [] rfl ?_;show Tri ..;refine zAL rfl (fun h=>by cases h) (fun _=>?_)
 refine zAf ?_;show Tri ..;refine zAa ?_;refine zAa ?_;refine zAQ [] [19] [3,7,8] rfl (by decide +kernel) ?_;intro n2 hn2;obtain rfl:(o1E.length:Int)=n2:=(hn2.trans (congrArg (fun m:Nat=>(m:Int)) (rlen (fun _=>rfl) o1E))).symm;show Tri ..;refine zAh rfl h (fun hb h=>?_) (fun hb h=>?_)
 ·refine zYe [] [] rfl ?_;show Tri ..;refine zAe ?_;have hj0:=Option.some.inj h;obtain⟨hv0,hw0⟩:=Prod.mk.inj hj0;subst hv0;obtain⟨hv1,hw1⟩:=Prod.mk.inj hw0;subst hv1;obtain⟨he1Q,hr1Q⟩:=Prod.mk.inj hw1;obtain⟨he1R,hr1R⟩:=Prod.mk.inj hr1Q;obtain⟨he1V,he1W⟩:=Prod.mk.inj hr1R;obtain⟨he2Q,he2R,he2V,he2W⟩:=Nd.mk.inj he1Q;subst he2Q;subst he2R;subst he2V;subst he2W;obtain⟨he3Q,he3R,he3V,he3W⟩:=Nd.mk.inj he1R;subst he3Q;subst he3R;subst he3V;subst he3W;subst he1V;subst he1W;unfold zBp
  exact⟨_,(Le.rnm [(0,0),(1,2),(2,3)] [(2,.op 3 0),(3,.s (.int .i64 8))] [(0,.box 104 [.s (.int .i64 o1G),.s (.str o1H),.s (.int .i64 o1I),.s (.sl 4 (Nd.encs o1J)),.s (.int .i64 o1M),.s (.str o1N),.s (.int .i64 o1O),.s (.sl 4 (Nd.encs o1P)),.orow 2,.s (.int .i64 o1F)]),(2,.row 60 5 ((List.map zAd) o1E)),(3,.box 58 [.nl 1,.nl 1])] 4 ⟨rfl,rfl,trivial⟩ ⟨rfl,⟨_,rfl,rfl⟩,rfl,⟨_,rfl,rfl⟩,rfl,⟨_,rfl,rfl⟩,trivial⟩),rfl,rfl,rfl,rfl,rfl,rfl,trivial⟩
 ·refine zAf ?_;show Tri ..;refine zAa ?_;refine zEK [4] [] [3,7,8,9,10,11] [3,7,8,9] rfl (by decide +kernel) ?_;obtain⟨⟨e3Aa,⟨e3Ab,e3Ac⟩,⟨e3Ad,e3Ae⟩⟩,he3,h⟩:=zAc h;refine And.intro (zAB (fun _=>rfl) he3).1 ?_;refine And.intro (zAB (fun _=>rfl) he3).2.2 ?_;refine⟨_,(zAB (fun _=>rfl) he3).2.1,?_⟩
  show Tri ..;refine zAk (Le.giveBox 3 [.sl 8 ((List.map zAi) e3Aa),.sl 1 ((List.map (irow .i64)) e3Ab),.sl 1 ((List.map (irow .i64)) e3Ac),.sl 1 ((List.map (irow .i64)) e3Ad),.sl 1 ((List.map (irow .i64)) e3Ae)] rfl rfl) ?_;refine zAa ?_;refine zEK [5] [] [3,11,12] [3] rfl (by decide +kernel) ?_;obtain⟨⟨⟨y4A,y4B,y4D,y4C⟩,y5,y6⟩,hy4,h⟩:=zAc h;refine⟨_,⟨_,_,_,_,_,_,hy4,rfl,rfl⟩,?_⟩
  show Tri ..;refine zAk (Le.giveBox 4 [.int .i64 y4A,.str y4B,.int .i64 y4D,.sl 4 (Nd.encs y4C)] rfl rfl) ?_;refine zAa ?_;refine zYe [] [] rfl ?_;show Tri ..;refine zAh rfl h (fun hb h=>?_) (fun hb h=>?_)
  ·refine zYe [] [] rfl ?_;show Tri ..;refine zAe ?_;have hj0:=Option.some.inj h;obtain⟨hv0,hw0⟩:=Prod.mk.inj hj0;subst hv0;obtain⟨hv1,hw1⟩:=Prod.mk.inj hw0;subst hv1;obtain⟨he1Q,hr1Q⟩:=Prod.mk.inj hw1;obtain⟨he1R,hr1R⟩:=Prod.mk.inj hr1Q;obtain⟨he1V,he1W⟩:=Prod.mk.inj hr1R;obtain⟨he2Q,he2R,he2V,he2W⟩:=Nd.mk.inj he1Q;subst he2Q;subst he2R;subst he2V;subst he2W;obtain⟨he3Q,he3R,he3V,he3W⟩:=Nd.mk.inj he1R;subst he3Q;subst he3R;subst he3V;subst he3W;subst he1V;subst he1W;unfold zBp
   exact⟨_,(Le.rnm [(0,0),(1,2),(2,3)] [(2,.op 3 0),(3,.s (.int .i64 y6))] [(0,.box 104 [.s (.int .i64 o1G),.s (.str o1H),.s (.int .i64 o1I),.s (.sl 4 (Nd.encs o1J)),.s (.int .i64 o1M),.s (.str o1N),.s (.int .i64 o1O),.s (.sl 4 (Nd.encs o1P)),.orow 2,.s (.int .i64 o1F)]),(2,.row 60 5 ((List.map zAd) o1E)),(3,.box 58 [.nl 1,.nl 1])] 4 ⟨rfl,rfl,trivial⟩ ⟨rfl,⟨_,rfl,rfl⟩,rfl,⟨_,rfl,rfl⟩,rfl,⟨_,rfl,rfl⟩,trivial⟩),rfl,rfl,rfl,rfl,rfl,rfl,trivial⟩
  ·refine zAf ?_;show Tri ..;refine zAa ?_;refine zAQ [] [] [6,10,13] rfl (by decide +kernel) ?_;show Tri ..;refine zYe [] [] rfl ?_;obtain⟨⟨y7Ao,y7Ak⟩,hy7,h⟩:=zAc h;refine⟨_,⟨_,_,hy7,rfl,rfl⟩,?_⟩
   show Tri ..;refine zAe ?_;have hj0:=Option.some.inj h;obtain⟨hv0,hw0⟩:=Prod.mk.inj hj0;subst hv0;obtain⟨hv1,hw1⟩:=Prod.mk.inj hw0;subst hv1;obtain⟨he1Q,hr1Q⟩:=Prod.mk.inj hw1;obtain⟨he1R,hr1R⟩:=Prod.mk.inj hr1Q;obtain⟨he1V,he1W⟩:=Prod.mk.inj hr1R;obtain⟨he2Q,he2R,he2V,he2W⟩:=Nd.mk.inj he1Q;subst he2Q;subst he2R;subst he2V;subst he2W;obtain⟨he3Q,he3R,he3V,he3W⟩:=Nd.mk.inj he1R;subst he3Q;subst he3R;subst he3V;subst he3W;subst he1V;subst he1W;unfold zBp
   exact⟨_,(Le.rnm [(0,0),(1,2),(2,3)] [(2,.op 3 0),(3,.s (.int .i64 0))] [(0,.box 104 [.s (.int .i64 o1G),.s (.str o1H),.s (.int .i64 o1I),.s (.sl 4 (Nd.encs o1J)),.s (.int .i64 y4A),.s (.str y4B),.s (.int .i64 y4D),.s (.sl 4 (Nd.encs y4C)),.orow 2,.s (.int .i64 (IntKind.i64.wrap (o1F+1)))]),(2,.row 60 5 ((List.map zAd) o1E)),(3,.box 58 [.s (.sl 1 ((List.map (irow .i64)) y7Ao)),.s (.sl 1 ((List.map (irow .i64)) y7Ak))])] 4 ⟨rfl,rfl,trivial⟩ ⟨rfl,⟨_,rfl,rfl⟩,rfl,⟨_,rfl,rfl⟩,rfl,⟨_,rfl,rfl⟩,trivial⟩),rfl,rfl,rfl,rfl,rfl,rfl,trivial⟩
def zHT (n:Nat) (xs:List AV) (os:List Ob) (x:AV) (os':List (Option Ob)):Prop:=∃ (a0G:Int) (a0H:List UInt8) (a0I:Int) (a0J:List Nd) (a0M:Int) (a0N:List UInt8) (a0O:Int) (a0P:List Nd) (a0E:List zRc) (a0F:Int) (a1:Int) (y0:Int) (z0G:Int) (z0H:List UInt8) (z0I:Int) (z0J:List Nd) (z0M:Int) (z0N:List UInt8) (z0O:Int) (z0P:List Nd) (z0E:List zRc) (z0F:Int),zBk n (Nd.mk a0G a0H a0I a0J,Nd.mk a0M a0N a0O a0P,a0E,a0F) a1=some (y0,(Nd.mk z0G z0H z0I z0J,Nd.mk z0M z0N z0O z0P,z0E,z0F))/\xs=[.op 0 0,.s (.int .i64 a1)]/\os=[.box 104 [.s (.int .i64 a0G),.s (.str a0H),.s (.int .i64 a0I),.s (.sl 4 (Nd.encs a0J)),.s (.int .i64 a0M),.s (.str a0N),.s (.int .i64 a0O),.s (.sl 4 (Nd.encs a0P)),.orow 1,.s (.int .i64 a0F)],.row 60 5 ((List.map zAd) a0E)]/\x = .s (.int .i64 y0)/\os'=[some (.box 104 [.s (.int .i64 z0G),.s (.str z0H),.s (.int .i64 z0I),.s (.sl 4 (Nd.encs z0J)),.s (.int .i64 z0M),.s (.str z0N),.s (.int .i64 z0O),.s (.sl 4 (Nd.encs z0P)),.orow 2,.s (.int .i64 z0F)]),none,some (.row 60 5 ((List.map zAd) z0E))]
def zDk:zAz:=zC8 (fun xs os x os'=>∃ n,zHT n xs os x os')
theorem zEJ:PSound Tryz.prog 22 zDk:=by
 have gok:∀ f s,look? f [(51,zEP),(52,zEN)]=some s->PSound Tryz.prog f s:=zAt (by
  simp only[List.forall_mem_cons]
  exact⟨zHD,zHB,by simp⟩)
 refine PSound.withNil (zFn tokW Tryz.call22 Tryz.func22 rfl (fun xs os x os' h=>by obtain⟨n,_,_,_,_,_,_,_,_,_,_,_,_,_,_,_,_,_,_,_,_,_,_,_,rfl,rfl,_,rfl⟩:=h; exact⟨by show 2<=50; decide,by show 2<=3; decide⟩) 50 rfl ?_) _;rintro xs os x os' w0 G0 B0 ⟨n,o1G,o1H,o1I,o1J,o1M,o1N,o1O,o1P,o1E,o1F,done2,y0,z0G,z0H,z0I,z0J,z0M,z0N,z0O,z0P,z0E,z0F,h,rfl,rfl,rfl,rfl⟩ _;rw[zBk]at h;refine zYe [] [] rfl ?_
 show Tri ..;refine zAa ?_;refine zYe [] [] rfl ?_;show Tri ..;refine zAL rfl (fun h=>by cases h) (fun _=>?_)
 refine zAf ?_;show Tri ..;refine zAa ?_;refine zAa ?_;obtain⟨x3,hj,h⟩:=zAc h;refine zAv ⟨ofL [(0,.op 0 0),(1,.s (.int .i64 done2)),(21,.s (.bool x3))],ofH [(0,.box 104 [.s (.int .i64 o1G),.s (.str o1H),.s (.int .i64 o1I),.s (.sl 4 (Nd.encs o1J)),.s (.int .i64 o1M),.s (.str o1N),.s (.int .i64 o1O),.s (.sl 4 (Nd.encs o1P)),.orow 2,.s (.int .i64 o1F)]),(2,.row 60 5 ((List.map zAd) o1E))],3⟩ ?_ (fun σ' hle=>?_)
 ·replace h:=hj;refine zAb [] [13,19] rfl ?_;intro b hb;cases b with
  | true =>
   replace h:=zAE hb.symm h;cases h;exact(Le.rnm [(0,0),(1,2)] _ _ _ ⟨rfl,rfl,rfl,trivial⟩ ⟨rfl,⟨_,rfl,rfl⟩,rfl,⟨_,rfl,rfl⟩,trivial⟩)
  | false =>
   replace h:=zAD hb.symm h;intro n4 hn4;obtain rfl:(o1E.length:Int)=n4:=(hn4.trans (congrArg (fun m:Nat=>(m:Int)) (rlen (fun _=>rfl) o1E))).symm;cases h;exact(Le.rnm [(0,0),(1,2)] _ _ _ ⟨rfl,rfl,rfl,trivial⟩ ⟨rfl,⟨_,rfl,rfl⟩,rfl,⟨_,rfl,rfl⟩,trivial⟩)
 ·show Tri ..;refine zAk hle ?_;refine zAh rfl h (fun hb h=>?_) (fun hb h=>?_)
  ·refine zYe [] [] rfl ?_;show Tri ..;refine zAe ?_;have hj0:=Option.some.inj h;obtain⟨hv0,hw0⟩:=Prod.mk.inj hj0;subst hv0;obtain⟨he1Q,hr1Q⟩:=Prod.mk.inj hw0;obtain⟨he1R,hr1R⟩:=Prod.mk.inj hr1Q;obtain⟨he1V,he1W⟩:=Prod.mk.inj hr1R;obtain⟨he2Q,he2R,he2V,he2W⟩:=Nd.mk.inj he1Q;subst he2Q;subst he2R;subst he2V;subst he2W;obtain⟨he3Q,he3R,he3V,he3W⟩:=Nd.mk.inj he1R;subst he3Q;subst he3R;subst he3V;subst he3W;subst he1V;subst he1W;unfold zBp
   exact⟨_,(Le.rnm [(0,0),(2,2)] [(4,.s (.int .i64 2))] [(0,.box 104 [.s (.int .i64 o1G),.s (.str o1H),.s (.int .i64 o1I),.s (.sl 4 (Nd.encs o1J)),.s (.int .i64 o1M),.s (.str o1N),.s (.int .i64 o1O),.s (.sl 4 (Nd.encs o1P)),.orow 2,.s (.int .i64 o1F)]),(2,.row 60 5 ((List.map zAd) o1E))] 3 ⟨rfl,trivial⟩ ⟨rfl,⟨_,rfl,rfl⟩,rfl,⟨_,rfl,rfl⟩,trivial⟩),rfl,rfl,rfl,rfl,rfl,rfl,trivial⟩
  ·refine zAf ?_;show Tri ..;refine zAa ?_;obtain⟨fl,hl,ho1⟩:=zAc h;refine zBt (fl:=fl) (fun z=>match z with | ⟨x16,x17,x18,x19,x20,x21,x22,x23,x24,l25⟩=>⟨ofL [(0,.op 0 0),(1,.s (.int .i64 done2))],ofH [(0,.box 104 [.s (.int .i64 x16),.s (.str x17),.s (.int .i64 x18),.s (.sl 4 (Nd.encs x19)),.s (.int .i64 x20),.s (.str x21),.s (.int .i64 x22),.s (.sl 4 (Nd.encs x23)),.orow 2,.s (.int .i64 x24)]),(2,.row 60 5 ((List.map zAd) l25))],3⟩) ?_ (fun z σ' hz hle=>?_)
   ·refine zAl (zAF (X:=Nat×Int×(List UInt8)×Int×(List Nd)×Int×(List UInt8)×Int×(List Nd)×Int×(List zRc)) (fun y=>match y with | (k,x5,x6,x7,x8,x9,x10,x11,x12,x14,l15)=>⟨ofL [(0,.op 0 0),(1,.s (.int .i64 done2))],ofH [(0,.box 104 [.s (.int .i64 x5),.s (.str x6),.s (.int .i64 x7),.s (.sl 4 (Nd.encs x8)),.s (.int .i64 x9),.s (.str x10),.s (.int .i64 x11),.s (.sl 4 (Nd.encs x12)),.orow 2,.s (.int .i64 x14)]),(2,.row 60 5 ((List.map zAd) l15))],3⟩) (fun y=>zAT n done2 y.1 y.2.1 y.2.2.1 y.2.2.2.1 y.2.2.2.2.1 y.2.2.2.2.2.1 y.2.2.2.2.2.2.1 y.2.2.2.2.2.2.2.1 y.2.2.2.2.2.2.2.2.1 y.2.2.2.2.2.2.2.2.2.1 y.2.2.2.2.2.2.2.2.2.2=some fl) (fun y=>y.1) (n,o1G,o1H,o1I,o1J,o1M,o1N,o1O,o1P,o1F,o1E) hl ?_ ?_)
    ·exact(Le.rnm [(0,0),(2,2)] _ _ _ ⟨rfl,rfl,trivial⟩ ⟨rfl,⟨_,rfl,rfl⟩,rfl,⟨_,rfl,rfl⟩,trivial⟩)
    ·rintro⟨k,x5,x6,x7,x8,x9,x10,x11,x12,x14,l15⟩ h;cases k with
     | zero=>cases h
     | succ k =>
      replace h:zAT n done2 (k+1) x5 x6 x7 x8 x9 x10 x11 x12 x14 l15=some fl:=h;rw[zAT]at h;refine zAa ?_;refine zYe [] [] rfl ?_;show Tri ..;refine zAh rfl h (fun hb h=>?_) (fun hb h=>?_)
      ·refine zAf ?_;show Tri ..;refine zAl ?_;refine zYe [5] [] rfl ?_;obtain⟨⟨⟨y26Ao,y26Ak⟩,y27,⟨⟨w28G,w28H,w28I,w28J⟩,⟨w28M,w28N,w28O,w28P⟩,w28E,w28F⟩⟩,hy26,h⟩:=zAc h;refine⟨_,_,⟨_,_,_,_,_,_,_,_,_,_,_,_,_,_,_,_,_,_,_,_,_,_,_,hy26,rfl,rfl,rfl,rfl⟩,?_⟩
       show Tri ..;refine zAk (Le.giveBox 4 [.sl 1 ((List.map (irow .i64)) y26Ao),.sl 1 ((List.map (irow .i64)) y26Ak)] rfl rfl) ?_;refine zYe [] [] rfl ?_;show Tri ..;refine zAh rfl h (fun hb h=>?_) (fun hb h=>?_)
       ·refine zYe [] [] rfl ?_;show Tri ..;refine zAe ?_;cases h;replace h:some _=some _:=ho1;have hj0:=Option.some.inj h;obtain⟨hv0,hw0⟩:=Prod.mk.inj hj0;subst hv0;obtain⟨he1Q,hr1Q⟩:=Prod.mk.inj hw0;obtain⟨he1R,hr1R⟩:=Prod.mk.inj hr1Q;obtain⟨he1V,he1W⟩:=Prod.mk.inj hr1R;obtain⟨he2Q,he2R,he2V,he2W⟩:=Nd.mk.inj he1Q;subst he2Q;subst he2R;subst he2V;subst he2W;obtain⟨he3Q,he3R,he3V,he3W⟩:=Nd.mk.inj he1R;subst he3Q;subst he3R;subst he3V;subst he3W;subst he1V;subst he1W;unfold zBp
        exact⟨_,(Le.rnm [(0,0),(3,2)] [(4,.s (.int .i64 y27))] [(0,.box 104 [.s (.int .i64 w28G),.s (.str w28H),.s (.int .i64 w28I),.s (.sl 4 (Nd.encs w28J)),.s (.int .i64 w28M),.s (.str w28N),.s (.int .i64 w28O),.s (.sl 4 (Nd.encs w28P)),.orow 2,.s (.int .i64 w28F)]),(2,.row 60 5 ((List.map zAd) w28E))] 3 ⟨rfl,trivial⟩ ⟨rfl,⟨_,rfl,rfl⟩,rfl,⟨_,rfl,rfl⟩,trivial⟩),rfl,rfl,rfl,rfl,rfl,rfl,trivial⟩
       ·refine zAf ?_;refine⟨(k,w28G,w28H,w28I,w28J,w28M,w28N,w28O,w28P,w28F,w28E),h,(Le.rnm [(0,0),(3,2)] _ _ _ ⟨rfl,rfl,trivial⟩ ⟨rfl,⟨_,rfl,rfl⟩,rfl,⟨_,rfl,rfl⟩,trivial⟩),Nat.lt_succ_self k⟩
      ·refine zAI ?_;cases h;exact⟨_,rfl,(Le.rnm [(0,0),(2,2)] _ _ _ ⟨rfl,rfl,trivial⟩ ⟨rfl,⟨_,rfl,rfl⟩,rfl,⟨_,rfl,rfl⟩,trivial⟩)⟩
   ·subst hz;obtain⟨x16,x17,x18,x19,x20,x21,x22,x23,x24,l25⟩:=z;replace h:=ho1;show Tri ..;refine zAk hle ?_;refine zAa ?_;obtain⟨fl,hl,ho1⟩:=zAc h;refine zBt (fl:=fl) (fun z=>match z with | ⟨x40,x41,x42,x43,x44,x45,x46,x47,x48,l49⟩=>⟨ofL [],ofH [(0,.box 104 [.s (.int .i64 x40),.s (.str x41),.s (.int .i64 x42),.s (.sl 4 (Nd.encs x43)),.s (.int .i64 x44),.s (.str x45),.s (.int .i64 x46),.s (.sl 4 (Nd.encs x47)),.orow 2,.s (.int .i64 x48)]),(2,.row 60 5 ((List.map zAd) l49))],3⟩) ?_ (fun z σ' hz hle=>?_)
    ·refine zAl (zAF (X:=Nat×Int×(List UInt8)×Int×(List Nd)×Int×(List UInt8)×Int×(List Nd)×Int×(List zRc)) (fun y=>match y with | (k,x29,x30,x31,x32,x33,x34,x35,x36,x38,l39)=>⟨ofL [(0,.op 0 0),(1,.s (.int .i64 done2))],ofH [(0,.box 104 [.s (.int .i64 x29),.s (.str x30),.s (.int .i64 x31),.s (.sl 4 (Nd.encs x32)),.s (.int .i64 x33),.s (.str x34),.s (.int .i64 x35),.s (.sl 4 (Nd.encs x36)),.orow 2,.s (.int .i64 x38)]),(2,.row 60 5 ((List.map zAd) l39))],3⟩) (fun y=>zAU n done2 y.1 y.2.1 y.2.2.1 y.2.2.2.1 y.2.2.2.2.1 y.2.2.2.2.2.1 y.2.2.2.2.2.2.1 y.2.2.2.2.2.2.2.1 y.2.2.2.2.2.2.2.2.1 y.2.2.2.2.2.2.2.2.2.1 y.2.2.2.2.2.2.2.2.2.2=some fl) (fun y=>y.1) (n,x16,x17,x18,x19,x20,x21,x22,x23,x24,l25) hl ?_ ?_)
     ·exact(Le.rnm [(0,0),(2,2)] _ _ _ ⟨rfl,rfl,trivial⟩ ⟨rfl,⟨_,rfl,rfl⟩,rfl,⟨_,rfl,rfl⟩,trivial⟩)
     ·rintro⟨k,x29,x30,x31,x32,x33,x34,x35,x36,x38,l39⟩ h;cases k with
      | zero=>cases h
      | succ k =>
       replace h:zAU n done2 (k+1) x29 x30 x31 x32 x33 x34 x35 x36 x38 l39=some fl:=h;rw[zAU]at h;refine zAa ?_;refine zYe [] [] rfl ?_;show Tri ..;refine zAh rfl h (fun hb h=>?_) (fun hb h=>?_)
       ·refine zAf ?_;show Tri ..;refine zAl ?_;refine zYe [7] [] rfl ?_;obtain⟨⟨⟨y50Ao,y50Ak⟩,y51,⟨⟨w52G,w52H,w52I,w52J⟩,⟨w52M,w52N,w52O,w52P⟩,w52E,w52F⟩⟩,hy50,h⟩:=zAc h;refine⟨_,_,⟨_,_,_,_,_,_,_,_,_,_,_,_,_,_,_,_,_,_,_,_,_,_,_,hy50,rfl,rfl,rfl,rfl⟩,?_⟩
        show Tri ..;refine zAk (Le.giveBox 4 [.sl 1 ((List.map (irow .i64)) y50Ao),.sl 1 ((List.map (irow .i64)) y50Ak)] rfl rfl) ?_;refine zYe [] [] rfl ?_;show Tri ..;refine zAh rfl h (fun hb h=>?_) (fun hb h=>?_)
        ·refine zYe [] [] rfl ?_;show Tri ..;refine zAe ?_;cases h;replace h:some _=some _:=ho1;have hj0:=Option.some.inj h;obtain⟨hv0,hw0⟩:=Prod.mk.inj hj0;subst hv0;obtain⟨he1Q,hr1Q⟩:=Prod.mk.inj hw0;obtain⟨he1R,hr1R⟩:=Prod.mk.inj hr1Q;obtain⟨he1V,he1W⟩:=Prod.mk.inj hr1R;obtain⟨he2Q,he2R,he2V,he2W⟩:=Nd.mk.inj he1Q;subst he2Q;subst he2R;subst he2V;subst he2W;obtain⟨he3Q,he3R,he3V,he3W⟩:=Nd.mk.inj he1R;subst he3Q;subst he3R;subst he3V;subst he3W;subst he1V;subst he1W;unfold zBp
         exact⟨_,(Le.rnm [(0,0),(3,2)] [(4,.s (.int .i64 y51))] [(0,.box 104 [.s (.int .i64 w52G),.s (.str w52H),.s (.int .i64 w52I),.s (.sl 4 (Nd.encs w52J)),.s (.int .i64 w52M),.s (.str w52N),.s (.int .i64 w52O),.s (.sl 4 (Nd.encs w52P)),.orow 2,.s (.int .i64 w52F)]),(2,.row 60 5 ((List.map zAd) w52E))] 3 ⟨rfl,trivial⟩ ⟨rfl,⟨_,rfl,rfl⟩,rfl,⟨_,rfl,rfl⟩,trivial⟩),rfl,rfl,rfl,rfl,rfl,rfl,trivial⟩
        ·refine zAf ?_;refine⟨(k,w52G,w52H,w52I,w52J,w52M,w52N,w52O,w52P,w52F,w52E),h,(Le.rnm [(0,0),(3,2)] _ _ _ ⟨rfl,rfl,trivial⟩ ⟨rfl,⟨_,rfl,rfl⟩,rfl,⟨_,rfl,rfl⟩,trivial⟩),Nat.lt_succ_self k⟩
       ·refine zAI ?_;cases h;exact⟨_,rfl,(Le.rnm [(0,0),(2,2)] _ _ _ trivial ⟨rfl,⟨_,rfl,rfl⟩,rfl,⟨_,rfl,rfl⟩,trivial⟩)⟩
    ·subst hz;obtain⟨x40,x41,x42,x43,x44,x45,x46,x47,x48,l49⟩:=z;replace h:=ho1;show Tri ..;refine zAk hle ?_;refine zYe [] [] rfl ?_;show Tri ..;refine zAe ?_;have hj0:=Option.some.inj h;obtain⟨hv0,hw0⟩:=Prod.mk.inj hj0;subst hv0;obtain⟨he1Q,hr1Q⟩:=Prod.mk.inj hw0;obtain⟨he1R,hr1R⟩:=Prod.mk.inj hr1Q;obtain⟨he1V,he1W⟩:=Prod.mk.inj hr1R;obtain⟨he2Q,he2R,he2V,he2W⟩:=Nd.mk.inj he1Q;subst he2Q;subst he2R;subst he2V;subst he2W;obtain⟨he3Q,he3R,he3V,he3W⟩:=Nd.mk.inj he1R;subst he3Q;subst he3R;subst he3V;subst he3W;subst he1V;subst he1W;unfold zBp
     exact⟨_,(Le.rnm [(0,0),(2,2)] [(4,.s (.int .i64 0))] [(0,.box 104 [.s (.int .i64 x40),.s (.str x41),.s (.int .i64 x42),.s (.sl 4 (Nd.encs x43)),.s (.int .i64 x44),.s (.str x45),.s (.int .i64 x46),.s (.sl 4 (Nd.encs x47)),.orow 2,.s (.int .i64 x48)]),(2,.row 60 5 ((List.map zAd) l49))] 3 ⟨rfl,trivial⟩ ⟨rfl,⟨_,rfl,rfl⟩,rfl,⟨_,rfl,rfl⟩,trivial⟩),rfl,rfl,rfl,rfl,rfl,rfl,trivial⟩
def zSj (n:Nat) (xs:List AV) (os:List Ob) (x:AV) (os':List (Option Ob)):Prop:=∃ (a0:(List UInt8×Nd×List zRc×Int)) (y0:Option (Nd×Nd×List zRc×Int)) (y1:Int),zEd n a0=some (y0,y1)/\xs=[.agg ((zAo a0).map .s)]/\os=[]/\x = .tup [(match y0 with | none=>.s .np | some _=>.op 0 0),.s (.int .i64 y1)]/\os'=(match y0 with | none=>[] | some ⟨⟨o_origin_kind,o_origin_text,o_origin_cols,o_origin_kids⟩,⟨o_tree_kind,o_tree_text,o_tree_cols,o_tree_kids⟩,o_records,o_done⟩=>[some (.box 104 [.s (.int .i64 o_origin_kind),.s (.str o_origin_text),.s (.int .i64 o_origin_cols),.s (.sl 4 (Nd.encs o_origin_kids)),.s (.int .i64 o_tree_kind),.s (.str o_tree_text),.s (.int .i64 o_tree_cols),.s (.sl 4 (Nd.encs o_tree_kids)),.orow 1,.s (.int .i64 o_done)]),some (.row 60 5 ((List.map zAd) o_records))])
def zMm:zAz:=zC8 (fun xs os x os'=>∃ n,zSj n xs os x os')
theorem zRD:PSound Tryz.prog 20 zMm:=by
 have gok:∀ f s,look? f [(12,zGp),(46,zKd),(47,zFy),(22,zDk)]=some s->PSound Tryz.prog f s:=zAt (by
  simp only[List.forall_mem_cons]
  exact⟨zHz,zN8,zIy,zEJ,by simp⟩)
 refine PSound.withNil (zFn tokW Tryz.call20 Tryz.func20 rfl (fun xs os x os' h=>by obtain⟨n,_,_,_,_,rfl,rfl,_,rfl⟩:=h; exact⟨by show 1<=44; decide,Nat.zero_le _⟩) 44 rfl ?_) _;rintro xs os x os' w0 G0 B0 ⟨n,⟨d1Af,⟨d1G,d1H,d1I,d1J⟩,d1E,d1F⟩,y0,y1,h,rfl,rfl,rfl,rfl⟩ _;rw[zEd]at h;refine zYe [] [] rfl ?_;show Tri ..;refine zAa ?_;refine zYe [] [] rfl ?_;obtain⟨y2,hy2,h⟩:=zAc h;refine⟨_,⟨_,_,_,hy2,rfl,rfl⟩,?_⟩
 show Tri ..;refine zAh rfl h (fun hb h=>?_) (fun hb h=>?_)
 ·refine zYe [] [] rfl ?_;show Tri ..;refine zAe ?_;obtain⟨hj1,hk1⟩:=pij h;subst hj1 hk1;unfold zBp;exact⟨_,(Le.rnm [] [(2,.s (.np)),(3,.s (.int .i64 1))] [] 0 ⟨rfl,rfl,trivial⟩ trivial),rfl,rfl,trivial⟩
 ·refine zAf ?_;show Tri ..;refine zYe [] [] rfl ?_;obtain⟨⟨y3,y4⟩,hy3,h⟩:=zAc h;cases y3 with
  | none =>
   obtain⟨hq,h⟩:=zAK h;subst hq;refine⟨_,_,⟨_,_,_,_,hy3,rfl,rfl,rfl,rfl⟩,?_⟩
   show Tri ..;refine zAk (Le.rnm [] [(1,.s (.pt [.str d1Af,.int .i64 d1G,.str d1H,.int .i64 d1I,.sl 4 (Nd.encs d1J),.sl 5 ((List.map zAd) d1E),.int .i64 d1F])),(4,.s (.np)),(5,.s (.int .i64 1))] [] 0 ⟨rfl,rfl,rfl,trivial⟩ trivial) ?_;refine zAa ?_;refine zYe [] [] rfl ?_;show Tri ..;refine zAL rfl (fun _=>?_) (fun h=>by cases h)
   refine zYe [] [] rfl ?_;show Tri ..;refine zAe ?_;obtain⟨hj1,hk1⟩:=pij h;subst hj1 hk1;unfold zBp;exact⟨_,(Le.rnm [] [(2,.s (.np)),(3,.s (.int .i64 1))] [] 0 ⟨rfl,rfl,trivial⟩ trivial),rfl,rfl,trivial⟩
  | some w5 =>
   obtain⟨⟨w5G,w5H,w5I,w5J⟩,⟨w5M,w5N,w5O,w5P⟩,w5E,w5F⟩:=w5;obtain⟨hq,h⟩:=zAK h;subst hq;refine⟨_,_,⟨_,_,_,_,hy3,rfl,rfl,rfl,rfl⟩,?_⟩
   show Tri ..
   refine zAk (Le.rnm [(0,0),(1,1)] [(1,.s (.pt [.str d1Af,.int .i64 d1G,.str d1H,.int .i64 d1I,.sl 4 (Nd.encs d1J),.sl 5 ((List.map zAd) d1E),.int .i64 d1F])),(4,.op 0 0),(5,.s (.int .i64 0))] [(0,.box 104 [.s (.int .i64 w5G),.s (.str w5H),.s (.int .i64 w5I),.s (.sl 4 (Nd.encs w5J)),.s (.int .i64 w5M),.s (.str w5N),.s (.int .i64 w5O),.s (.sl 4 (Nd.encs w5P)),.orow 1,.s (.int .i64 w5F)]),(1,.row 60 5 ((List.map zAd) w5E))] 2 ⟨rfl,rfl,rfl,trivial⟩ ⟨rfl,⟨_,rfl,rfl⟩,rfl,⟨_,rfl,rfl⟩,trivial⟩) ?_
   refine zAa ?_;refine zYe [] [] rfl ?_;show Tri ..;refine zAL rfl (fun h=>by cases h) (fun _=>?_)
   refine zAf ?_;show Tri ..;refine zAa ?_;refine zYe [] [24] rfl ?_;intro n6 hn6;obtain rfl:(d1E.length:Int)=n6:=(hn6.trans (congrArg (fun m:Nat=>(m:Int)) (rlen (fun _=>rfl) d1E))).symm;show Tri ..;obtain⟨⟨x19,x20,x21,x22,x23,x24,x25,x26,x27,l28⟩,hl,h⟩:=zAc h
   refine zAv ⟨ofL [(1,.s (.pt [.str d1Af,.int .i64 d1G,.str d1H,.int .i64 d1I,.sl 4 (Nd.encs d1J),.sl 5 ((List.map zAd) d1E),.int .i64 d1F])),(4,.op 0 0)],ofH [(0,.box 104 [.s (.int .i64 x19),.s (.str x20),.s (.int .i64 x21),.s (.sl 4 (Nd.encs x22)),.s (.int .i64 x23),.s (.str x24),.s (.int .i64 x25),.s (.sl 4 (Nd.encs x26)),.orow 1,.s (.int .i64 x27)]),(1,.row 60 5 ((List.map zAd) l28))],2⟩ ?_ (fun σ' hle=>?_)
   ·refine zAl (zAF (X:=Nat×Int×(List UInt8)×Int×(List Nd)×Int×(List UInt8)×Int×(List Nd)×Int×Int×(List zRc)) (fun y=>match y with | (k,x7,x8,x9,x10,x11,x12,x13,x14,x16,x17,l18)=>⟨ofL [(1,.s (.pt [.str d1Af,.int .i64 d1G,.str d1H,.int .i64 d1I,.sl 4 (Nd.encs d1J),.sl 5 ((List.map zAd) d1E),.int .i64 d1F])),(4,.op 0 0),(23,.s (.sl 5 ((List.map zAd) d1E))),(24,.s (.int .i64 (d1E.length:Int))),(25,.s (.int .i64 x17))],ofH [(0,.box 104 [.s (.int .i64 x7),.s (.str x8),.s (.int .i64 x9),.s (.sl 4 (Nd.encs x10)),.s (.int .i64 x11),.s (.str x12),.s (.int .i64 x13),.s (.sl 4 (Nd.encs x14)),.orow 1,.s (.int .i64 x16)]),(1,.row 60 5 ((List.map zAd) l18))],2⟩) (fun y=>zCB n d1E y.1 y.2.1 y.2.2.1 y.2.2.2.1 y.2.2.2.2.1 y.2.2.2.2.2.1 y.2.2.2.2.2.2.1 y.2.2.2.2.2.2.2.1 y.2.2.2.2.2.2.2.2.1 y.2.2.2.2.2.2.2.2.2.1 y.2.2.2.2.2.2.2.2.2.2.1 y.2.2.2.2.2.2.2.2.2.2.2=some (x19,x20,x21,x22,x23,x24,x25,x26,x27,l28)) (fun y=>y.1) (n,w5G,w5H,w5I,w5J,w5M,w5N,w5O,w5P,w5F,0,w5E) hl ?_ ?_)
    ·exact(Le.rnm [(0,0),(1,1)] _ _ _ ⟨rfl,rfl,rfl,rfl,rfl,trivial⟩ ⟨rfl,⟨_,rfl,rfl⟩,rfl,⟨_,rfl,rfl⟩,trivial⟩)
    ·rintro⟨k,x7,x8,x9,x10,x11,x12,x13,x14,x16,x17,l18⟩ h;cases k with
     | zero=>cases h
     | succ k =>
      replace h:zCB n d1E (k+1) x7 x8 x9 x10 x11 x12 x13 x14 x16 x17 l18=some (x19,x20,x21,x22,x23,x24,x25,x26,x27,l28):=h;rw[zCB]at h;refine zYe [] [] rfl ?_;show Tri ..;refine zAa ?_;refine zAh rfl h (fun hb h=>?_) (fun hb h=>?_)
      ·refine zAf ?_;show Tri ..;refine zAa ?_;refine zAl ?_;refine zYe [7] [27] rfl ?_;obtain⟨⟨e29Aa,⟨e29Ab,e29Ac⟩,⟨e29Ad,e29Ae⟩⟩,he29,h⟩:=zAc h;refine And.intro (zAB (fun _=>rfl) he29).1 ?_;intro r30 hr30;obtain rfl:[.sl 8 ((List.map zAi) e29Aa),.sl 1 ((List.map (irow .i64)) e29Ab),.sl 1 ((List.map (irow .i64)) e29Ac),.sl 1 ((List.map (irow .i64)) e29Ad),.sl 1 ((List.map (irow .i64)) e29Ae)]=r30:=(hr30.trans (zAB (fun _=>rfl) he29).2.1).symm;show Tri ..
       refine zAk (Le.giveBox 2 [.sl 8 ((List.map zAi) e29Aa),.sl 1 ((List.map (irow .i64)) e29Ab),.sl 1 ((List.map (irow .i64)) e29Ac),.sl 1 ((List.map (irow .i64)) e29Ad),.sl 1 ((List.map (irow .i64)) e29Ae)] rfl rfl) ?_;refine zYe [] [] rfl ?_;obtain⟨⟨y31,⟨⟨w32G,w32H,w32I,w32J⟩,⟨w32M,w32N,w32O,w32P⟩,w32E,w32F⟩⟩,hy31,h⟩:=zAc h;refine⟨_,_,⟨_,_,_,_,_,_,_,_,_,_,_,_,_,_,_,_,_,_,_,_,_,_,_,hy31,rfl,rfl,rfl,rfl⟩,?_⟩
       show Tri ..
       refine zAk (Le.rnm [(0,0),(3,1)] [(1,.s (.pt [.str d1Af,.int .i64 d1G,.str d1H,.int .i64 d1I,.sl 4 (Nd.encs d1J),.sl 5 ((List.map zAd) d1E),.int .i64 d1F])),(4,.op 0 0),(8,.s (.int .i64 y31)),(23,.s (.sl 5 ((List.map zAd) d1E))),(24,.s (.int .i64 (d1E.length:Int))),(25,.s (.int .i64 x17))] [(0,.box 104 [.s (.int .i64 w32G),.s (.str w32H),.s (.int .i64 w32I),.s (.sl 4 (Nd.encs w32J)),.s (.int .i64 w32M),.s (.str w32N),.s (.int .i64 w32O),.s (.sl 4 (Nd.encs w32P)),.orow 1,.s (.int .i64 w32F)]),(1,.row 60 5 ((List.map zAd) w32E))] 2 ⟨rfl,rfl,rfl,rfl,rfl,rfl,trivial⟩ ⟨rfl,⟨_,rfl,rfl⟩,rfl,⟨_,rfl,rfl⟩,trivial⟩) ?_
       refine zYe [] [] rfl ?_;show Tri ..;refine zAh rfl h (fun hb h=>?_) (fun hb h=>?_)
       ·refine zAa ?_;cases h
       ·refine zAf ?_;show Tri ..;refine zAb [] [] rfl ?_;refine⟨(k,w32G,w32H,w32I,w32J,w32M,w32N,w32O,w32P,w32F,IntKind.i64.wrap (x17+1),w32E),h,(Le.rnm [(0,0),(1,1)] _ _ _ ⟨rfl,rfl,rfl,rfl,rfl,trivial⟩ ⟨rfl,⟨_,rfl,rfl⟩,rfl,⟨_,rfl,rfl⟩,trivial⟩),Nat.lt_succ_self k⟩
      ·refine zAI ?_;cases h;exact(Le.rnm [(0,0),(1,1)] _ _ _ ⟨rfl,rfl,trivial⟩ ⟨rfl,⟨_,rfl,rfl⟩,rfl,⟨_,rfl,rfl⟩,trivial⟩)
   ·show Tri ..;refine zAk hle ?_;refine zAa ?_;refine zYe [] [] rfl ?_;obtain⟨⟨y33,⟨⟨w34G,w34H,w34I,w34J⟩,⟨w34M,w34N,w34O,w34P⟩,w34E,w34F⟩⟩,hy33,h⟩:=zAc h;refine⟨_,_,⟨_,_,_,_,_,_,_,_,_,_,_,_,_,_,_,_,_,_,_,_,_,_,_,hy33,rfl,rfl,rfl,rfl⟩,?_⟩
    show Tri ..;refine zAk (Le.rnm [(0,0),(2,1)] [(4,.op 0 0),(9,.s (.int .i64 y33))] [(0,.box 104 [.s (.int .i64 w34G),.s (.str w34H),.s (.int .i64 w34I),.s (.sl 4 (Nd.encs w34J)),.s (.int .i64 w34M),.s (.str w34N),.s (.int .i64 w34O),.s (.sl 4 (Nd.encs w34P)),.orow 1,.s (.int .i64 w34F)]),(1,.row 60 5 ((List.map zAd) w34E))] 2 ⟨rfl,rfl,trivial⟩ ⟨rfl,⟨_,rfl,rfl⟩,rfl,⟨_,rfl,rfl⟩,trivial⟩) ?_;refine zYe [] [] rfl ?_;show Tri ..;refine zAh rfl h (fun hb h=>?_) (fun hb h=>?_)
    ·refine zAa ?_;cases h
    ·refine zAf ?_;show Tri ..;refine zYe [] [] rfl ?_;show Tri ..;refine zAe ?_;obtain⟨hj1,hk1⟩:=pij h;subst hj1 hk1;unfold zBp
     exact⟨_,(Le.rnm [(0,0),(1,1)] [(2,.op 0 0),(3,.s (.int .i64 0))] [(0,.box 104 [.s (.int .i64 w34G),.s (.str w34H),.s (.int .i64 w34I),.s (.sl 4 (Nd.encs w34J)),.s (.int .i64 w34M),.s (.str w34N),.s (.int .i64 w34O),.s (.sl 4 (Nd.encs w34P)),.orow 1,.s (.int .i64 w34F)]),(1,.row 60 5 ((List.map zAd) w34E))] 2 ⟨rfl,rfl,trivial⟩ ⟨rfl,⟨_,rfl,rfl⟩,rfl,⟨_,rfl,rfl⟩,trivial⟩),rfl,rfl,rfl,rfl,rfl,rfl,trivial⟩
def zGY (xs:List AV) (os:List Ob) (x:AV) (os':List (Option Ob)):Prop:=∃ (a0G:Int) (a0H:List UInt8) (a0I:Int) (a0J:List Nd) (a0M:Int) (a0N:List UInt8) (a0O:Int) (a0P:List Nd) (a0E:List zRc) (a0F:Int) (y0:Nd) (z0G:Int) (z0H:List UInt8) (z0I:Int) (z0J:List Nd) (z0M:Int) (z0N:List UInt8) (z0O:Int) (z0P:List Nd) (z0E:List zRc) (z0F:Int),zBr (Nd.mk a0G a0H a0I a0J,Nd.mk a0M a0N a0O a0P,a0E,a0F)=some (y0,(Nd.mk z0G z0H z0I z0J,Nd.mk z0M z0N z0O z0P,z0E,z0F))/\xs=[.op 0 0]/\os=[.box 104 [.s (.int .i64 a0G),.s (.str a0H),.s (.int .i64 a0I),.s (.sl 4 (Nd.encs a0J)),.s (.int .i64 a0M),.s (.str a0N),.s (.int .i64 a0O),.s (.sl 4 (Nd.encs a0P)),.orow 1,.s (.int .i64 a0F)],.row 60 5 ((List.map zAd) a0E)]/\x = .agg ((Nd.enc y0).map .s)/\os'=[some (.box 104 [.s (.int .i64 z0G),.s (.str z0H),.s (.int .i64 z0I),.s (.sl 4 (Nd.encs z0J)),.s (.int .i64 z0M),.s (.str z0N),.s (.int .i64 z0O),.s (.sl 4 (Nd.encs z0P)),.orow 2,.s (.int .i64 z0F)]),none,some (.row 60 5 ((List.map zAd) z0E))]
def zEl:zAz:=zC8 (fun xs os x os'=>zGY xs os x os')
theorem zGU:PSound Tryz.prog 48 zEl:=by
 have gok:∀ f s,look? f [(53,zCX)]=some s->PSound Tryz.prog f s:=zAt (by
  simp only[List.forall_mem_cons]
  exact⟨zCW,by simp⟩)
 refine PSound.withNil (zFn tokW Tryz.call48 Tryz.func48 rfl (fun xs os x os' h=>by obtain⟨_,_,_,_,_,_,_,_,_,_,_,_,_,_,_,_,_,_,_,_,_,_,rfl,rfl,_,rfl⟩:=h; exact⟨by show 1<=11; decide,by show 2<=3; decide⟩) 11 rfl ?_) _;rintro xs os x os' w0 G0 B0 ⟨o1G,o1H,o1I,o1J,o1M,o1N,o1O,o1P,o1E,o1F,y0,z0G,z0H,z0I,z0J,z0M,z0N,z0O,z0P,z0E,z0F,h,rfl,rfl,rfl,rfl⟩ _;rw[zBr]at h;refine zYe [2] [] rfl ?_;show Tri ..
 refine zAa ?_;refine zYe [] [] rfl ?_;show Tri ..;refine zAL rfl (fun h=>by cases h) (fun _=>?_)
 refine zAf ?_;show Tri ..;refine zYe [] [] rfl ?_;obtain⟨⟨y2A,y2B,y2D,y2C⟩,hy2,h⟩:=zAc h;refine⟨_,⟨_,_,hy2,rfl,rfl⟩,?_⟩
 show Tri ..;refine zAe ?_;have hj0:=Option.some.inj h;obtain⟨hv0,hw0⟩:=Prod.mk.inj hj0;subst hv0;obtain⟨he1Q,hr1Q⟩:=Prod.mk.inj hw0;obtain⟨he1R,hr1R⟩:=Prod.mk.inj hr1Q;obtain⟨he1V,he1W⟩:=Prod.mk.inj hr1R;obtain⟨he2Q,he2R,he2V,he2W⟩:=Nd.mk.inj he1Q;subst he2Q;subst he2R;subst he2V;subst he2W;obtain⟨he3Q,he3R,he3V,he3W⟩:=Nd.mk.inj he1R;subst he3Q;subst he3R;subst he3V;subst he3W;subst he1V;subst he1W;unfold zBp
 exact⟨_,(Le.rnm [(0,0),(1,2),(2,3)] [(2,.op 3 0)] [(0,.box 104 [.s (.int .i64 o1G),.s (.str o1H),.s (.int .i64 o1I),.s (.sl 4 (Nd.encs o1J)),.s (.int .i64 o1M),.s (.str o1N),.s (.int .i64 o1O),.s (.sl 4 (Nd.encs o1P)),.orow 2,.s (.int .i64 o1F)]),(2,.row 60 5 ((List.map zAd) o1E)),(3,.box 24 [.s (.int .i64 y2A),.s (.str y2B),.s (.int .i64 y2D),.s (.sl 4 (Nd.encs y2C))])] 4 ⟨rfl,trivial⟩ ⟨rfl,⟨_,rfl,rfl⟩,rfl,⟨_,rfl,rfl⟩,rfl,⟨_,rfl,rfl⟩,trivial⟩),rfl,rfl,rfl,rfl,rfl,rfl,trivial⟩
def zJ0 (n:Nat) (xs:List AV) (os:List Ob) (x:AV) (os':List (Option Ob)):Prop:=∃ (a0:List zRc) (y0:List zRc),zDn n a0=some y0/\xs=[.orow 0]/\os=[.row 60 5 ((List.map zAd) a0)]/\x = .orow 1/\os'=[some (.row 60 5 ((List.map zAd) a0)),some (.row 60 5 ((List.map zAd) y0))]
def zGn:zAz:=zC8 (fun xs os x os'=>∃ n,zJ0 n xs os x os')
theorem zJK:PSound Tryz.prog 96 zGn:=by
 have gok:∀ f s,look? f [(95,zHn)]=some s->PSound Tryz.prog f s:=zAt (by
  simp only[List.forall_mem_cons]
  exact⟨zJq,by simp⟩)
 refine PSound.withNil (zFn tokW Tryz.call96 Tryz.func96 rfl (fun xs os x os' h=>by obtain⟨n,_,_,_,rfl,rfl,_,rfl⟩:=h; exact⟨by show 1<=19; decide,by show 1<=2; decide⟩) 19 rfl ?_) _;rintro xs os x os' w0 G0 B0 ⟨n,o1,y0,h,rfl,rfl,rfl,rfl⟩ _;rw[zDn]at h;refine zYe [2] [] rfl ?_;show Tri ..;refine zAk (Le.rnm [(0,0)] [(0,.orow 0)] [(0,.row 60 5 ((List.map zAd) o1))] 1 ⟨rfl,trivial⟩ ⟨rfl,⟨_,rfl,rfl⟩,trivial⟩) ?_;refine zYe [3] [] rfl ?_;show Tri ..
 refine zAk (Le.rnm [(0,0),(1,1)] [(0,.orow 0),(3,.orow 1)] [(0,.row 60 5 ((List.map zAd) o1)),(1,.row 60 5 ((List.map zAd) []))] 2 ⟨rfl,rfl,trivial⟩ ⟨rfl,⟨_,rfl,rfl⟩,rfl,⟨_,rfl,congrArg (Ob.row 60 5) (by simp[List.map_append,List.map_take,List.map_drop,irow,brow,zAG,List.map_cons,List.map_nil,zAC,Nd.encs_eq,Nd.enc,CV.encs_eq,CV.enc,zAq,zAm,zAx,zAr,zAp,zAi,zAu,zAs,zAd,zAo,zAn,zAN,zBb])⟩,trivial⟩) ?_;refine zAa ?_;refine zAa ?_
 refine zAb [] [7] rfl ?_;intro n2 hn2;obtain rfl:(o1.length:Int)=n2:=(hn2.trans (congrArg (fun m:Nat=>(m:Int)) (rlen (fun _=>rfl) o1))).symm;show Tri ..;obtain⟨l6,hl,h⟩:=zAc h;refine zAv ⟨ofL [(3,.orow 1)],ofH [(0,.row 60 5 ((List.map zAd) o1)),(1,.row 60 5 ((List.map zAd) l6))],2⟩ ?_ (fun σ' hle=>?_)
 ·refine zAl (zAF (X:=Nat×Int×(List zRc)) (fun y=>match y with | (k,x4,l5)=>⟨ofL [(3,.orow 1),(6,.orow 0),(7,.s (.int .i64 (o1.length:Int))),(8,.s (.int .i64 x4))],ofH [(0,.row 60 5 ((List.map zAd) o1)),(1,.row 60 5 ((List.map zAd) l5))],2⟩) (fun y=>zBc n o1 y.1 y.2.1 y.2.2=some l6) (fun y=>y.1) (n,0,[]) hl ?_ ?_)
  ·exact(Le.rnm [(0,0),(1,1)] _ _ _ ⟨rfl,rfl,rfl,rfl,trivial⟩ ⟨rfl,⟨_,rfl,rfl⟩,rfl,⟨_,rfl,rfl⟩,trivial⟩)
  ·rintro⟨k,x4,l5⟩ h;cases k with
   | zero=>cases h
   | succ k =>
    replace h:zBc n o1 (k+1) x4 l5=some l6:=h;rw[zBc]at h;refine zYe [] [] rfl ?_;show Tri ..;refine zAa ?_;refine zAh rfl h (fun hb h=>?_) (fun hb h=>?_)
    ·refine zAf ?_;show Tri ..;refine zAa ?_;refine zAl ?_;refine zYe [5] [] rfl ?_;obtain⟨⟨e7Aa,⟨e7Ab,e7Ac⟩,⟨e7Ad,e7Ae⟩⟩,he7,h⟩:=zAc h;refine And.intro (zAB (fun _=>rfl) he7).1 ?_;refine And.intro (zAB (fun _=>rfl) he7).2.2 ?_;refine⟨_,(zAB (fun _=>rfl) he7).2.1,?_⟩
     show Tri ..;refine zAk (Le.giveBox 2 [.sl 8 ((List.map zAi) e7Aa),.sl 1 ((List.map (irow .i64)) e7Ab),.sl 1 ((List.map (irow .i64)) e7Ac),.sl 1 ((List.map (irow .i64)) e7Ad),.sl 1 ((List.map (irow .i64)) e7Ae)] rfl rfl) ?_;refine zAb [16] [15] rfl ?_;obtain⟨⟨y8Aa,⟨y8Ab,y8Ac⟩,⟨y8Ad,y8Ae⟩⟩,hy8,h⟩:=zAc h;refine⟨_,⟨_,_,_,hy8,rfl,rfl⟩,?_⟩
     intro r9 hr9;obtain rfl:(List.map zAd) [(y8Aa,(y8Ab,y8Ac),(y8Ad,y8Ae))]=r9:=(hr9.trans (by simp[List.map_append,List.map_take,List.map_drop,irow,brow,zAG,List.map_cons,List.map_nil,zAC,Nd.encs_eq,Nd.enc,CV.encs_eq,CV.enc,zAq,zAm,zAx,zAr,zAp,zAi,zAu,zAs,zAd,zAo,zAn,zAN,zBb])).symm;obtain⟨hq,h⟩:=zAK h
     refine And.intro (show(((List.map zAd) l5).length+((List.map zAd) [(y8Aa,(y8Ab,y8Ac),(y8Ad,y8Ae))]).length) * 120<=140737488355328/\((List.map zAd) l5).length+((List.map zAd) [(y8Aa,(y8Ab,y8Ac),(y8Ad,y8Ae))]).length<=9223372036854775807 from by simp only[List.length_append,List.length_cons,List.length_nil,List.length_map,rlen (fun _=>rfl)]at hq ⊢; omega) ?_;show Tri ..
     refine zAk (Le.rnm [(0,0),(3,1)] [(3,.orow 1),(6,.orow 0),(7,.s (.int .i64 (o1.length:Int))),(8,.s (.int .i64 x4))] [(0,.row 60 5 ((List.map zAd) o1)),(1,.row 60 5 ((List.map zAd) (l5++[(y8Aa,(y8Ab,y8Ac),(y8Ad,y8Ae))])))] 2 ⟨rfl,rfl,rfl,rfl,trivial⟩ ⟨rfl,⟨_,rfl,rfl⟩,rfl,⟨_,rfl,congrArg (Ob.row 60 5) (by simp[List.map_append,List.map_take,List.map_drop,irow,brow,zAG,List.map_cons,List.map_nil,zAC,Nd.encs_eq,Nd.enc,CV.encs_eq,CV.enc,zAq,zAm,zAx,zAr,zAp,zAi,zAu,zAs,zAd,zAo,zAn,zAN,zBb])⟩,trivial⟩) ?_
     refine zAb [] [] rfl ?_;refine⟨(k,IntKind.i64.wrap (x4+1),l5++[(y8Aa,(y8Ab,y8Ac),(y8Ad,y8Ae))]),h,(Le.rnm [(0,0),(1,1)] _ _ _ ⟨rfl,rfl,rfl,rfl,trivial⟩ ⟨rfl,⟨_,rfl,rfl⟩,rfl,⟨_,rfl,rfl⟩,trivial⟩),Nat.lt_succ_self k⟩
    ·refine zAI ?_;cases h;exact(Le.rnm [(0,0),(1,1)] _ _ _ ⟨rfl,trivial⟩ ⟨rfl,⟨_,rfl,rfl⟩,rfl,⟨_,rfl,rfl⟩,trivial⟩)
 ·show Tri ..;refine zAk hle ?_;refine zYe [] [] rfl ?_;show Tri ..;refine zAe ?_;have hy:=Option.some.inj h;subst hy;unfold zBp;exact⟨_,(Le.rnm [(0,0),(1,1)] [(2,.orow 1)] [(0,.row 60 5 ((List.map zAd) o1)),(1,.row 60 5 ((List.map zAd) l6))] 2 ⟨rfl,trivial⟩ ⟨rfl,⟨_,rfl,rfl⟩,rfl,⟨_,rfl,rfl⟩,trivial⟩),rfl,rfl,rfl,rfl,rfl,rfl,trivial⟩
def zGE (n:Nat) (xs:List AV) (os:List Ob) (x:AV) (os':List (Option Ob)):Prop:=∃ (a0G:Int) (a0H:List UInt8) (a0I:Int) (a0J:List Nd) (a0M:Int) (a0N:List UInt8) (a0O:Int) (a0P:List Nd) (a0E:List zRc) (a0F:Int) (y0:List zRc) (z0G:Int) (z0H:List UInt8) (z0I:Int) (z0J:List Nd) (z0M:Int) (z0N:List UInt8) (z0O:Int) (z0P:List Nd) (z0E:List zRc) (z0F:Int),zBn n (Nd.mk a0G a0H a0I a0J,Nd.mk a0M a0N a0O a0P,a0E,a0F)=some (y0,(Nd.mk z0G z0H z0I z0J,Nd.mk z0M z0N z0O z0P,z0E,z0F))/\xs=[.op 0 0]/\os=[.box 104 [.s (.int .i64 a0G),.s (.str a0H),.s (.int .i64 a0I),.s (.sl 4 (Nd.encs a0J)),.s (.int .i64 a0M),.s (.str a0N),.s (.int .i64 a0O),.s (.sl 4 (Nd.encs a0P)),.orow 1,.s (.int .i64 a0F)],.row 60 5 ((List.map zAd) a0E)]/\x = .s (.sl 5 ((List.map zAd) y0))/\os'=[some (.box 104 [.s (.int .i64 z0G),.s (.str z0H),.s (.int .i64 z0I),.s (.sl 4 (Nd.encs z0J)),.s (.int .i64 z0M),.s (.str z0N),.s (.int .i64 z0O),.s (.sl 4 (Nd.encs z0P)),.orow 2,.s (.int .i64 z0F)]),none,some (.row 60 5 ((List.map zAd) z0E))]
def zD3:zAz:=zC8 (fun xs os x os'=>∃ n,zGE n xs os x os')
theorem zGm:PSound Tryz.prog 49 zD3:=by
 have gok:∀ f s,look? f [(96,zGn)]=some s->PSound Tryz.prog f s:=zAt (by
  simp only[List.forall_mem_cons]
  exact⟨zJK,by simp⟩)
 refine PSound.withNil (zFn tokW Tryz.call49 Tryz.func49 rfl (fun xs os x os' h=>by obtain⟨n,_,_,_,_,_,_,_,_,_,_,_,_,_,_,_,_,_,_,_,_,_,_,rfl,rfl,_,rfl⟩:=h; exact⟨by show 1<=10; decide,by show 2<=3; decide⟩) 10 rfl ?_) _;rintro xs os x os' w0 G0 B0 ⟨n,o1G,o1H,o1I,o1J,o1M,o1N,o1O,o1P,o1E,o1F,y0,z0G,z0H,z0I,z0J,z0M,z0N,z0O,z0P,z0E,z0F,h,rfl,rfl,rfl,rfl⟩ _;rw[zBn]at h;refine zYe [] [] rfl ?_;show Tri ..
 refine zAa ?_;refine zYe [] [] rfl ?_;show Tri ..;refine zAL rfl (fun h=>by cases h) (fun _=>?_)
 refine zAf ?_;show Tri ..;refine zYe [] [] rfl ?_;obtain⟨y2,hy2,h⟩:=zAc h;refine⟨_,_,⟨_,_,_,hy2,rfl,rfl,rfl,rfl⟩,?_⟩
 show Tri ..;refine zAe ?_;have hj0:=Option.some.inj h;obtain⟨hv0,hw0⟩:=Prod.mk.inj hj0;subst hv0;obtain⟨he1Q,hr1Q⟩:=Prod.mk.inj hw0;obtain⟨he1R,hr1R⟩:=Prod.mk.inj hr1Q;obtain⟨he1V,he1W⟩:=Prod.mk.inj hr1R;obtain⟨he2Q,he2R,he2V,he2W⟩:=Nd.mk.inj he1Q;subst he2Q;subst he2R;subst he2V;subst he2W;obtain⟨he3Q,he3R,he3V,he3W⟩:=Nd.mk.inj he1R;subst he3Q;subst he3R;subst he3V;subst he3W;subst he1V;subst he1W;unfold zBp
 exact⟨_,(Le.trans (Le.rnm [(0,0),(1,2),(2,3)] [(2,.orow 3)] [(0,.box 104 [.s (.int .i64 o1G),.s (.str o1H),.s (.int .i64 o1I),.s (.sl 4 (Nd.encs o1J)),.s (.int .i64 o1M),.s (.str o1N),.s (.int .i64 o1O),.s (.sl 4 (Nd.encs o1P)),.orow 2,.s (.int .i64 o1F)]),(2,.row 60 5 ((List.map zAd) o1E)),(3,.row 60 5 ((List.map zAd) y2))] 4 ⟨rfl,trivial⟩ ⟨rfl,⟨_,rfl,rfl⟩,rfl,⟨_,rfl,rfl⟩,rfl,⟨_,rfl,rfl⟩,trivial⟩) (Le.giveRow 3 rfl)),rfl,rfl,rfl,rfl,rfl,rfl,trivial⟩
def zHR (xs:List AV) (os:List Ob) (x:AV) (os':List (Option Ob)):Prop:=∃ (a0G:Int) (a0H:List UInt8) (a0I:Int) (a0J:List Nd) (a0M:Int) (a0N:List UInt8) (a0O:Int) (a0P:List Nd) (a0E:List zRc) (a0F:Int) (y0:Int) (z0G:Int) (z0H:List UInt8) (z0I:Int) (z0J:List Nd) (z0M:Int) (z0N:List UInt8) (z0O:Int) (z0P:List Nd) (z0E:List zRc) (z0F:Int),zCi (Nd.mk a0G a0H a0I a0J,Nd.mk a0M a0N a0O a0P,a0E,a0F)=some (y0,(Nd.mk z0G z0H z0I z0J,Nd.mk z0M z0N z0O z0P,z0E,z0F))/\xs=[.op 0 0]/\os=[.box 104 [.s (.int .i64 a0G),.s (.str a0H),.s (.int .i64 a0I),.s (.sl 4 (Nd.encs a0J)),.s (.int .i64 a0M),.s (.str a0N),.s (.int .i64 a0O),.s (.sl 4 (Nd.encs a0P)),.orow 1,.s (.int .i64 a0F)],.row 60 5 ((List.map zAd) a0E)]/\x = .s (.int .i64 y0)/\os'=[some (.box 104 [.s (.int .i64 z0G),.s (.str z0H),.s (.int .i64 z0I),.s (.sl 4 (Nd.encs z0J)),.s (.int .i64 z0M),.s (.str z0N),.s (.int .i64 z0O),.s (.sl 4 (Nd.encs z0P)),.orow 2,.s (.int .i64 z0F)]),none,some (.row 60 5 ((List.map zAd) z0E))]
def zEM:zAz:=zC8 (fun xs os x os'=>zHR xs os x os')
theorem zHA:PSound Tryz.prog 50 zEM:=by
 have gok:=@gok0 Tryz.prog;refine PSound.withNil (zFn tokW Tryz.call50 Tryz.func50 rfl (fun xs os x os' h=>by obtain⟨_,_,_,_,_,_,_,_,_,_,_,_,_,_,_,_,_,_,_,_,_,_,rfl,rfl,_,rfl⟩:=h; exact⟨by show 1<=9; decide,by show 2<=3; decide⟩) 9 rfl ?_) _;rintro xs os x os' w0 G0 B0 ⟨o1G,o1H,o1I,o1J,o1M,o1N,o1O,o1P,o1E,o1F,y0,z0G,z0H,z0I,z0J,z0M,z0N,z0O,z0P,z0E,z0F,h,rfl,rfl,rfl,rfl⟩ _;rw[zCi]at h;refine zYe [] [] rfl ?_
 show Tri ..;refine zAa ?_;refine zYe [] [] rfl ?_;show Tri ..;refine zAL rfl (fun h=>by cases h) (fun _=>?_)
 refine zAf ?_;show Tri ..;refine zYe [] [] rfl ?_;show Tri ..;refine zAe ?_;have hj0:=Option.some.inj h;obtain⟨hv0,hw0⟩:=Prod.mk.inj hj0;subst hv0;obtain⟨he1Q,hr1Q⟩:=Prod.mk.inj hw0;obtain⟨he1R,hr1R⟩:=Prod.mk.inj hr1Q;obtain⟨he1V,he1W⟩:=Prod.mk.inj hr1R;obtain⟨he2Q,he2R,he2V,he2W⟩:=Nd.mk.inj he1Q;subst he2Q;subst he2R;subst he2V;subst he2W;obtain⟨he3Q,he3R,he3V,he3W⟩:=Nd.mk.inj he1R;subst he3Q;subst he3R;subst he3V;subst he3W;subst he1V;subst he1W;unfold zBp
 exact⟨_,(Le.rnm [(0,0),(1,2)] [(2,.s (.int .i64 o1F))] [(0,.box 104 [.s (.int .i64 o1G),.s (.str o1H),.s (.int .i64 o1I),.s (.sl 4 (Nd.encs o1J)),.s (.int .i64 o1M),.s (.str o1N),.s (.int .i64 o1O),.s (.sl 4 (Nd.encs o1P)),.orow 2,.s (.int .i64 o1F)]),(2,.row 60 5 ((List.map zAd) o1E))] 3 ⟨rfl,trivial⟩ ⟨rfl,⟨_,rfl,rfl⟩,rfl,⟨_,rfl,rfl⟩,trivial⟩),rfl,rfl,rfl,rfl,rfl,rfl,trivial⟩
def zUJ (n:Nat) (xs:List AV) (os:List Ob) (x:AV) (os':List (Option Ob)):Prop:=∃ (a0G:Int) (a0H:List UInt8) (a0I:Int) (a0J:List Nd) (a0M:Int) (a0N:List UInt8) (a0O:Int) (a0P:List Nd) (a0E:List zRc) (a0F:Int) (a1:List UInt8) (y0:(List UInt8×Nd×List zRc×Int)) (y1:Int) (z0G:Int) (z0H:List UInt8) (z0I:Int) (z0J:List Nd) (z0M:Int) (z0N:List UInt8) (z0O:Int) (z0P:List Nd) (z0E:List zRc) (z0F:Int),zIk n (Nd.mk a0G a0H a0I a0J,Nd.mk a0M a0N a0O a0P,a0E,a0F) a1=some (y0,y1,(Nd.mk z0G z0H z0I z0J,Nd.mk z0M z0N z0O z0P,z0E,z0F))/\xs=[.op 0 0,.s (.str a1)]/\os=[.box 104 [.s (.int .i64 a0G),.s (.str a0H),.s (.int .i64 a0I),.s (.sl 4 (Nd.encs a0J)),.s (.int .i64 a0M),.s (.str a0N),.s (.int .i64 a0O),.s (.sl 4 (Nd.encs a0P)),.orow 1,.s (.int .i64 a0F)],.row 60 5 ((List.map zAd) a0E)]/\x = .tup [.agg ((zAo y0).map .s),.s (.int .i64 y1)]/\os'=[some (.box 104 [.s (.int .i64 z0G),.s (.str z0H),.s (.int .i64 z0I),.s (.sl 4 (Nd.encs z0J)),.s (.int .i64 z0M),.s (.str z0N),.s (.int .i64 z0O),.s (.sl 4 (Nd.encs z0P)),.orow 2,.s (.int .i64 z0F)]),none,some (.row 60 5 ((List.map zAd) z0E))]
def zQP:zAz:=zC8 (fun xs os x os'=>∃ n,zUJ n xs os x os')
theorem zUm:PSound Tryz.prog 21 zQP:=by
 have gok:∀ f s,look? f [(48,zEl),(49,zD3),(50,zEM),(12,zGp)]=some s->PSound Tryz.prog f s:=zAt (by
  simp only[List.forall_mem_cons]
  exact⟨zGU,zGm,zHA,zHz,by simp⟩)
 refine PSound.withNil (zFn tokW Tryz.call21 Tryz.func21 rfl (fun xs os x os' h=>by obtain⟨n,_,_,_,_,_,_,_,_,_,_,_,_,_,_,_,_,_,_,_,_,_,_,_,_,rfl,rfl,_,rfl⟩:=h; exact⟨by show 2<=23; decide,by show 2<=3; decide⟩) 23 rfl ?_) _;rintro xs os x os' w0 G0 B0 ⟨n,o1G,o1H,o1I,o1J,o1M,o1N,o1O,o1P,o1E,o1F,title2,y0,y1,z0G,z0H,z0I,z0J,z0M,z0N,z0O,z0P,z0E,z0F,h,rfl,rfl,rfl,rfl⟩ _;rw[zIk]at h;refine zYe [4] [] rfl ?_
 show Tri ..;refine zAa ?_;refine zYe [] [] rfl ?_;show Tri ..;refine zAL rfl (fun h=>by cases h) (fun _=>?_)
 refine zAf ?_;show Tri ..;refine zYe [6] [] rfl ?_;obtain⟨⟨⟨y3A,y3B,y3D,y3C⟩,⟨⟨w4G,w4H,w4I,w4J⟩,⟨w4M,w4N,w4O,w4P⟩,w4E,w4F⟩⟩,hy3,h⟩:=zAc h;refine⟨_,_,⟨_,_,_,_,_,_,_,_,_,_,_,_,_,_,_,_,_,_,_,_,_,hy3,rfl,rfl,rfl,rfl⟩,?_⟩
 obtain⟨⟨y5,⟨⟨w6G,w6H,w6I,w6J⟩,⟨w6M,w6N,w6O,w6P⟩,w6E,w6F⟩⟩,hy5,h⟩:=zAc h;refine⟨_,_,⟨_,_,_,_,_,_,_,_,_,_,_,_,_,_,_,_,_,_,_,_,_,_,hy5,rfl,rfl,rfl,rfl⟩,?_⟩
 obtain⟨⟨y7,⟨⟨w8G,w8H,w8I,w8J⟩,⟨w8M,w8N,w8O,w8P⟩,w8E,w8F⟩⟩,hy7,h⟩:=zAc h;refine⟨_,_,⟨_,_,_,_,_,_,_,_,_,_,_,_,_,_,_,_,_,_,_,_,_,hy7,rfl,rfl,rfl,rfl⟩,?_⟩
 show Tri ..;refine zAk (Le.giveBox 6 [.str title2,.int .i64 y3A,.str y3B,.int .i64 y3D,.sl 4 (Nd.encs y3C),.sl 5 ((List.map zAd) y5),.int .i64 y7] rfl rfl) ?_;refine zAa ?_;refine zYe [] [] rfl ?_;obtain⟨y9,hy9,h⟩:=zAc h;refine⟨_,⟨_,_,_,hy9,rfl,rfl⟩,?_⟩
 show Tri ..;refine zAh rfl h (fun hb h=>?_) (fun hb h=>?_)
 ·refine zYe [] [] rfl ?_;show Tri ..;refine zAe ?_;have hj0:=Option.some.inj h;obtain⟨hv0,hw0⟩:=Prod.mk.inj hj0;subst hv0;obtain⟨hv1,hw1⟩:=Prod.mk.inj hw0;subst hv1;obtain⟨he1Q,hr1Q⟩:=Prod.mk.inj hw1;obtain⟨he1R,hr1R⟩:=Prod.mk.inj hr1Q;obtain⟨he1V,he1W⟩:=Prod.mk.inj hr1R;obtain⟨he2Q,he2R,he2V,he2W⟩:=Nd.mk.inj he1Q;subst he2Q;subst he2R;subst he2V;subst he2W;obtain⟨he3Q,he3R,he3V,he3W⟩:=Nd.mk.inj he1R;subst he3Q;subst he3R;subst he3V;subst he3W;subst he1V;subst he1W;unfold zBp
  exact⟨_,(Le.rnm [(0,0),(5,2),(2,3)] [(4,.op 3 0),(5,.s (.int .i64 1))] [(0,.box 104 [.s (.int .i64 w8G),.s (.str w8H),.s (.int .i64 w8I),.s (.sl 4 (Nd.encs w8J)),.s (.int .i64 w8M),.s (.str w8N),.s (.int .i64 w8O),.s (.sl 4 (Nd.encs w8P)),.orow 2,.s (.int .i64 w8F)]),(2,.row 60 5 ((List.map zAd) w8E)),(3,.box 34 [.s (.str []),.s (.int .i64 0),.s (.str []),.s (.int .i64 0),.nl 4,.nl 5,.s (.int .i64 0)])] 4 ⟨rfl,rfl,trivial⟩ ⟨rfl,⟨_,rfl,rfl⟩,rfl,⟨_,rfl,rfl⟩,rfl,⟨_,rfl,rfl⟩,trivial⟩),rfl,rfl,rfl,rfl,rfl,rfl,trivial⟩
 ·refine zAf ?_;show Tri ..;refine zYe [] [] rfl ?_;show Tri ..;refine zAe ?_;have hj0:=Option.some.inj h;obtain⟨hv0,hw0⟩:=Prod.mk.inj hj0;subst hv0;obtain⟨hv1,hw1⟩:=Prod.mk.inj hw0;subst hv1;obtain⟨he1Q,hr1Q⟩:=Prod.mk.inj hw1;obtain⟨he1R,hr1R⟩:=Prod.mk.inj hr1Q;obtain⟨he1V,he1W⟩:=Prod.mk.inj hr1R;obtain⟨he2Q,he2R,he2V,he2W⟩:=Nd.mk.inj he1Q;subst he2Q;subst he2R;subst he2V;subst he2W;obtain⟨he3Q,he3R,he3V,he3W⟩:=Nd.mk.inj he1R;subst he3Q;subst he3R;subst he3V;subst he3W;subst he1V;subst he1W;unfold zBp
  exact⟨_,(Le.rnm [(0,0),(5,2),(2,3)] [(4,.op 3 0),(5,.s (.int .i64 0))] [(0,.box 104 [.s (.int .i64 w8G),.s (.str w8H),.s (.int .i64 w8I),.s (.sl 4 (Nd.encs w8J)),.s (.int .i64 w8M),.s (.str w8N),.s (.int .i64 w8O),.s (.sl 4 (Nd.encs w8P)),.orow 2,.s (.int .i64 w8F)]),(2,.row 60 5 ((List.map zAd) w8E)),(3,.box 34 [.s (.str title2),.s (.int .i64 y3A),.s (.str y3B),.s (.int .i64 y3D),.s (.sl 4 (Nd.encs y3C)),.s (.sl 5 ((List.map zAd) y5)),.s (.int .i64 y7)])] 4 ⟨rfl,rfl,trivial⟩ ⟨rfl,⟨_,rfl,rfl⟩,rfl,⟨_,rfl,rfl⟩,rfl,⟨_,rfl,rfl⟩,trivial⟩),rfl,rfl,rfl,rfl,rfl,rfl,trivial⟩
def zTV (n:Nat) (xs:List AV) (r:Ret):Prop:=∃ (a0:zO8) (a1:zO8) (y0:Bool),zFM n a0 a1=some y0/\xs=[.agg ((zAi a0).map .s),.agg ((zAi a1).map .s)]/\r = .val (.s (.bool y0))
def zOw:zAz:=zAy fun xs r=>∃ n,zTV n xs r
theorem zSV:PSound Tryz.prog 164 zOw:=by
 have gok:∀ f s,look? f [(38,zFW)]=some s->PSound Tryz.prog f s:=zAt (by
  simp only[List.forall_mem_cons]
  exact⟨zHP,by simp⟩)
 refine zAA tokW Tryz.call164 Tryz.func164 rfl (fun xs r h=>by obtain⟨n,_,_,_,_,rfl,_⟩:=h; show 2<=78; decide) 78 rfl ?_;rintro xs r w0 G0 ⟨n,⟨a1A,a1U,a1T,a1Z,a1S,a1X,a1Y,a1B⟩,⟨a2A,a2U,a2T,a2Z,a2S,a2X,a2Y,a2B⟩,y0,h,rfl,rfl⟩ _;rw[zFM]at h;refine zYe [] [] rfl ?_;show Tri ..;refine zAa ?_;refine zAa ?_;obtain⟨x3,hj,h⟩:=zAc h
 refine zAv ⟨ofL [(2,.s (.pt [.int .i64 a1A,.sl 1 ((List.map (irow .i64)) a1U),.int .i64 a1T,.int .i64 a1Z,.sl 4 (Nd.encs a1S),.int .i64 a1X,.str a1Y,.str a1B])),(3,.s (.pt [.int .i64 a2A,.sl 1 ((List.map (irow .i64)) a2U),.int .i64 a2T,.int .i64 a2Z,.sl 4 (Nd.encs a2S),.int .i64 a2X,.str a2Y,.str a2B])),(54,.s (.bool x3))],fun _=>none,0⟩ ?_ (fun σ' hle=>?_)
 ·replace h:=hj;refine zAb [] [11,18,25,32,39,46,49,52] rfl ?_;intro b hb;cases b with
  | true =>
   replace h:=zAE hb.symm h;intro b hb;subst hb;intro b hb;subst hb;intro b hb;subst hb;intro b hb;subst hb;intro b hb;subst hb;cases h;exact(Le.forget _ ⟨rfl,rfl,rfl,trivial⟩)
  | false =>
   replace h:=zAD hb.symm h;intro b hb;cases b with
   | true =>
    replace h:=zAE hb.symm h;intro b hb;subst hb;intro b hb;subst hb;intro b hb;subst hb;intro b hb;subst hb;cases h;exact(Le.forget _ ⟨rfl,rfl,rfl,trivial⟩)
   | false =>
    replace h:=zAD hb.symm h;intro b hb;cases b with
    | true =>
     replace h:=zAE hb.symm h;intro b hb;subst hb;intro b hb;subst hb;intro b hb;subst hb;cases h;exact(Le.forget _ ⟨rfl,rfl,rfl,trivial⟩)
    | false =>
     replace h:=zAD hb.symm h;intro b hb;cases b with
     | true =>
      replace h:=zAE hb.symm h;intro b hb;subst hb;intro b hb;subst hb;cases h;exact(Le.forget _ ⟨rfl,rfl,rfl,trivial⟩)
     | false =>
      replace h:=zAD hb.symm h;intro b hb;cases b with
      | true =>
       replace h:=zAE hb.symm h;intro b hb;subst hb;cases h;exact(Le.forget _ ⟨rfl,rfl,rfl,trivial⟩)
      | false =>
       replace h:=zAD hb.symm h;intro b hb;cases b with
       | true =>
        replace h:=zAE hb.symm h;cases h;exact(Le.forget _ ⟨rfl,rfl,rfl,trivial⟩)
       | false =>
        replace h:=zAD hb.symm h;intro n4 hn4;obtain rfl:(a1U.length:Int)=n4:=(hn4.trans (congrArg (fun m:Nat=>(m:Int)) (rlen (fun _=>rfl) a1U))).symm;intro n5 hn5;obtain rfl:(a2U.length:Int)=n5:=(hn5.trans (congrArg (fun m:Nat=>(m:Int)) (rlen (fun _=>rfl) a2U))).symm;cases h;exact(Le.forget _ ⟨rfl,rfl,rfl,trivial⟩)
 ·show Tri ..;refine zAk hle ?_;refine zAh rfl h (fun hb h=>?_) (fun hb h=>?_)
  ·refine zYe [] [] rfl ?_;show Tri ..;refine zAe ?_;have hy:=Option.some.inj h;subst hy;unfold zAw;exact⟨_,Le.refl _ _,rfl,rfl⟩
  ·refine zAf ?_;show Tri ..;refine zAa ?_;refine zYe [] [] rfl ?_;show Tri ..;obtain⟨fl,hl,ho1⟩:=zAc h;refine zBt (fl:=fl) (fun z=>match z with | _=>⟨ofL [(2,.s (.pt [.int .i64 a1A,.sl 1 ((List.map (irow .i64)) a1U),.int .i64 a1T,.int .i64 a1Z,.sl 4 (Nd.encs a1S),.int .i64 a1X,.str a1Y,.str a1B])),(3,.s (.pt [.int .i64 a2A,.sl 1 ((List.map (irow .i64)) a2U),.int .i64 a2T,.int .i64 a2Z,.sl 4 (Nd.encs a2S),.int .i64 a2X,.str a2Y,.str a2B]))],fun _=>none,0⟩) ?_ (fun z σ' hz hle=>?_)
   ·refine zAl (zAF (X:=Nat×Int) (fun y=>match y with | (k,x6)=>⟨ofL [(2,.s (.pt [.int .i64 a1A,.sl 1 ((List.map (irow .i64)) a1U),.int .i64 a1T,.int .i64 a1Z,.sl 4 (Nd.encs a1S),.int .i64 a1X,.str a1Y,.str a1B])),(3,.s (.pt [.int .i64 a2A,.sl 1 ((List.map (irow .i64)) a2U),.int .i64 a2T,.int .i64 a2Z,.sl 4 (Nd.encs a2S),.int .i64 a2X,.str a2Y,.str a2B])),(5,.s (.int .i64 x6))],fun _=>none,0⟩) (fun y=>zC6 a1U a2U y.1 y.2=some fl) (fun y=>y.1) (n,0) hl ?_ ?_)
    ·exact(Le.forget _ ⟨rfl,rfl,rfl,trivial⟩)
    ·rintro⟨k,x6⟩ h;cases k with
     | zero=>cases h
     | succ k =>
      replace h:zC6 a1U a2U (k+1) x6=some fl:=h;rw[zC6]at h;refine zAa ?_;refine zYe [] [58] rfl ?_;intro n7 hn7;obtain rfl:(a1U.length:Int)=n7:=(hn7.trans (congrArg (fun m:Nat=>(m:Int)) (rlen (fun _=>rfl) a1U))).symm;show Tri ..;refine zAh rfl h (fun hb h=>?_) (fun hb h=>?_)
      ·refine zAf ?_;show Tri ..;refine zAa ?_;refine zAl ?_;refine zAa ?_;refine zAQ [] [65,70] [] rfl (by decide +kernel) ?_;obtain⟨e8,he8,h⟩:=zAc h;refine And.intro (zAB (fun _=>rfl) he8).1 ?_;intro r9 hr9;obtain rfl:[.int .i64 e8]=r9:=(hr9.trans (zAB (fun _=>rfl) he8).2.1).symm;obtain⟨e10,he10,h⟩:=zAc h;refine And.intro (zAB (fun _=>rfl) he10).1 ?_;intro r11 hr11;obtain rfl:[.int .i64 e10]=r11:=(hr11.trans (zAB (fun _=>rfl) he10).2.1).symm;show Tri ..;refine zAh rfl h (fun hb h=>?_) (fun hb h=>?_)
       ·refine zYe [] [] rfl ?_;show Tri ..;refine zAe ?_;cases h;replace h:some _=some _:=ho1;have hy:=Option.some.inj h;subst hy;unfold zAw;exact⟨_,Le.refl _ _,rfl,rfl⟩
       ·refine zAf ?_;show Tri ..;refine zAb [] [] rfl ?_;refine⟨(k,IntKind.i64.wrap (x6+1)),h,(Le.forget _ ⟨rfl,rfl,rfl,trivial⟩),Nat.lt_succ_self k⟩
      ·refine zAI ?_;cases h;exact⟨_,rfl,(Le.forget _ ⟨rfl,rfl,trivial⟩)⟩
   ·subst hz;obtain _:=z;replace h:=ho1;show Tri ..;refine zAk hle ?_;refine zYe [] [] rfl ?_;obtain⟨y12,hy12,h⟩:=zAc h;refine⟨_,⟨_,_,_,_,hy12,rfl,rfl⟩,?_⟩
    show Tri ..;refine zAe ?_;have hy:=Option.some.inj h;subst hy;unfold zAw;exact⟨_,Le.refl _ _,rfl,rfl⟩
def zPw (n:Nat) (xs:List AV) (r:Ret):Prop:=∃ (a0:List zO8) (a1:List zO8) (y0:Bool),zFD n a0 a1=some y0/\xs=[.s (.sl 8 ((List.map zAi) a0)),.s (.sl 8 ((List.map zAi) a1))]/\r = .val (.s (.bool y0))
def zKi:zAz:=zAy fun xs r=>∃ n,zPw n xs r
theorem zOd:PSound Tryz.prog 129 zKi:=by
 have gok:∀ f s,look? f [(164,zOw)]=some s->PSound Tryz.prog f s:=zAt (by
  simp only[List.forall_mem_cons]
  exact⟨zSV,by simp⟩)
 refine zAA tokW Tryz.call129 Tryz.func129 rfl (fun xs r h=>by obtain⟨n,_,_,_,_,rfl,_⟩:=h; show 2<=27; decide) 27 rfl ?_;rintro xs r w0 G0 ⟨n,a1,b2,y0,h,rfl,rfl⟩ _;rw[zFD]at h;refine zYe [] [] rfl ?_;show Tri ..;refine zAa ?_;refine zYe [] [7,9] rfl ?_;intro n3 hn3;obtain rfl:(a1.length:Int)=n3:=(hn3.trans (congrArg (fun m:Nat=>(m:Int)) (rlen (fun _=>rfl) a1))).symm;intro n4 hn4;obtain rfl:(b2.length:Int)=n4:=(hn4.trans (congrArg (fun m:Nat=>(m:Int)) (rlen (fun _=>rfl) b2))).symm;show Tri ..;refine zAh rfl h (fun hb h=>?_) (fun hb h=>?_)
 ·refine zYe [] [] rfl ?_;show Tri ..;refine zAe ?_;have hy:=Option.some.inj h;subst hy;unfold zAw;exact⟨_,Le.refl _ _,rfl,rfl⟩
 ·refine zAf ?_;show Tri ..;refine zAa ?_;refine zYe [] [] rfl ?_;show Tri ..;obtain⟨fl,hl,ho1⟩:=zAc h;refine zBt (fl:=fl) (fun z=>match z with | _=>⟨ofL [],fun _=>none,0⟩) ?_ (fun z σ' hz hle=>?_)
  ·refine zAl (zAF (X:=Nat×Int) (fun y=>match y with | (k,i5)=>⟨ofL [(0,.s (.sl 8 ((List.map zAi) a1))),(1,.s (.sl 8 ((List.map zAi) b2))),(5,.s (.int .i64 i5))],fun _=>none,0⟩) (fun y=>zBY n a1 b2 y.1 y.2=some fl) (fun y=>y.1) (n,0) hl ?_ ?_)
   ·exact(Le.forget _ ⟨rfl,rfl,rfl,trivial⟩)
   ·rintro⟨k,i5⟩ h;cases k with
    | zero=>cases h
    | succ k =>
     replace h:zBY n a1 b2 (k+1) i5=some fl:=h;rw[zBY]at h;refine zAa ?_;refine zYe [] [13] rfl ?_;intro n6 hn6;obtain rfl:(a1.length:Int)=n6:=(hn6.trans (congrArg (fun m:Nat=>(m:Int)) (rlen (fun _=>rfl) a1))).symm;show Tri ..;refine zAh rfl h (fun hb h=>?_) (fun hb h=>?_)
     ·refine zAf ?_;show Tri ..;refine zAa ?_;refine zAl ?_;refine zAa ?_;refine zAQ [] [19,23] [] rfl (by decide +kernel) ?_;obtain⟨⟨e7A,e7U,e7T,e7Z,e7S,e7X,e7Y,e7B⟩,he7,h⟩:=zAc h;refine And.intro (zAB (fun _=>rfl) he7).1 ?_;intro r8 hr8;obtain rfl:[.int .i64 e7A,.sl 1 ((List.map (irow .i64)) e7U),.int .i64 e7T,.int .i64 e7Z,.sl 4 (Nd.encs e7S),.int .i64 e7X,.str e7Y,.str e7B]=r8:=(hr8.trans (zAB (fun _=>rfl) he7).2.1).symm;obtain⟨⟨e9A,e9U,e9T,e9Z,e9S,e9X,e9Y,e9B⟩,he9,h⟩:=zAc h;refine And.intro (zAB (fun _=>rfl) he9).1 ?_
      intro r10 hr10;obtain rfl:[.int .i64 e9A,.sl 1 ((List.map (irow .i64)) e9U),.int .i64 e9T,.int .i64 e9Z,.sl 4 (Nd.encs e9S),.int .i64 e9X,.str e9Y,.str e9B]=r10:=(hr10.trans (zAB (fun _=>rfl) he9).2.1).symm;obtain⟨y11,hy11,h⟩:=zAc h;refine⟨_,⟨_,_,_,_,hy11,rfl,rfl⟩,?_⟩
      show Tri ..;refine zAh rfl h (fun hb h=>?_) (fun hb h=>?_)
      ·refine zYe [] [] rfl ?_;show Tri ..;refine zAe ?_;cases h;replace h:some _=some _:=ho1;have hy:=Option.some.inj h;subst hy;unfold zAw;exact⟨_,Le.refl _ _,rfl,rfl⟩
      ·refine zAf ?_;show Tri ..;refine zAb [] [] rfl ?_;refine⟨(k,IntKind.i64.wrap (i5+1)),h,(Le.forget _ ⟨rfl,rfl,rfl,trivial⟩),Nat.lt_succ_self k⟩
     ·refine zAI ?_;cases h;exact⟨_,rfl,(Le.forget _ trivial)⟩
  ·subst hz;obtain _:=z;replace h:=ho1;show Tri ..;refine zAk hle ?_;refine zYe [] [] rfl ?_;show Tri ..;refine zAe ?_;have hy:=Option.some.inj h;subst hy;unfold zAw;exact⟨_,Le.refl _ _,rfl,rfl⟩
def zTU (n:Nat) (xs:List AV) (r:Ret):Prop:=∃ (a0:List Int) (a1:List Int) (y0:Bool),zFL n a0 a1=some y0/\xs=[.s (.sl 1 ((List.map (irow .i64)) a0)),.s (.sl 1 ((List.map (irow .i64)) a1))]/\r = .val (.s (.bool y0))
def zOv:zAz:=zAy fun xs r=>∃ n,zTU n xs r
theorem zSU:PSound Tryz.prog 165 zOv:=by
 have gok:∀ f s,look? f [(162,zHs)]=some s->PSound Tryz.prog f s:=zAt (by
  simp only[List.forall_mem_cons]
  exact⟨zJt,by simp⟩)
 refine zAA tokW Tryz.call165 Tryz.func165 rfl (fun xs r h=>by obtain⟨n,_,_,_,_,rfl,_⟩:=h; show 2<=9; decide) 9 rfl ?_;rintro xs r w0 G0 ⟨n,a1,b2,y0,h,rfl,rfl⟩ _;rw[zFL]at h;refine zYe [] [] rfl ?_;show Tri ..;refine zYe [] [] rfl ?_;obtain⟨y3,hy3,h⟩:=zAc h;refine⟨_,⟨_,_,_,_,hy3,rfl,rfl⟩,?_⟩
 show Tri ..;refine zAe ?_;have hy:=Option.some.inj h;subst hy;unfold zAw;exact⟨_,Le.refl _ _,rfl,rfl⟩
def zLR (n:Nat) (xs:List AV) (r:Ret):Prop:=∃ (a0:zCu) (a1:zCu) (y0:Bool),zCr n a0 a1=some y0/\xs=[.agg ((zAs a0).map .s),.agg ((zAs a1).map .s)]/\r = .val (.s (.bool y0))
def zHM:zAz:=zAy fun xs r=>∃ n,zLR n xs r
theorem zK4:PSound Tryz.prog 130 zHM:=by
 have gok:∀ f s,look? f [(165,zOv)]=some s->PSound Tryz.prog f s:=zAt (by
  simp only[List.forall_mem_cons]
  exact⟨zSU,by simp⟩)
 refine zAA tokW Tryz.call130 Tryz.func130 rfl (fun xs r h=>by obtain⟨n,_,_,_,_,rfl,_⟩:=h; show 2<=17; decide) 17 rfl ?_;rintro xs r w0 G0 ⟨n,⟨a1Ao,a1Ak⟩,⟨b2Ao,b2Ak⟩,y0,h,rfl,rfl⟩ _;rw[zCr]at h;refine zYe [] [] rfl ?_;show Tri ..;refine zAa ?_;obtain⟨x3,hj,h⟩:=zAc h;refine zAv ⟨ofL [(4,.s (.bool x3))],fun _=>none,0⟩ ?_ (fun σ' hle=>?_)
 ·replace h:=hj;refine zAb [] [10] rfl ?_;obtain⟨y4,hy4,h⟩:=zAc h;refine⟨_,⟨_,_,_,_,hy4,rfl,rfl⟩,?_⟩
  intro b hb;cases b with
  | true =>
   replace h:=zAE hb.symm h;obtain⟨y5,hy5,h⟩:=zAc h;refine⟨_,⟨_,_,_,_,hy5,rfl,rfl⟩,?_⟩
   cases h;exact(Le.forget _ ⟨rfl,trivial⟩)
  | false =>
   replace h:=zAD hb.symm h;cases h;exact(Le.forget _ ⟨rfl,trivial⟩)
 ·show Tri ..;refine zAk hle ?_;refine zAe ?_;have hy:=Option.some.inj h;subst hy;unfold zAw;exact⟨_,Le.refl _ _,rfl,rfl⟩
def zTW (n:Nat) (xs:List AV) (r:Ret):Prop:=∃ (a0:zRc) (a1:zRc) (y0:Bool),zHg n a0 a1=some y0/\xs=[.agg ((zAd a0).map .s),.agg ((zAd a1).map .s)]/\r = .val (.s (.bool y0))
def zOx:zAz:=zAy fun xs r=>∃ n,zTW n xs r
theorem zSW:PSound Tryz.prog 94 zOx:=by
 have gok:∀ f s,look? f [(129,zKi),(130,zHM)]=some s->PSound Tryz.prog f s:=zAt (by
  simp only[List.forall_mem_cons]
  exact⟨zOd,zK4,by simp⟩)
 refine zAA tokW Tryz.call94 Tryz.func94 rfl (fun xs r h=>by obtain⟨n,_,_,_,_,rfl,_⟩:=h; show 2<=24; decide) 24 rfl ?_;rintro xs r w0 G0 ⟨n,⟨a1Aa,⟨a1Ab,a1Ac⟩,⟨a1Ad,a1Ae⟩⟩,⟨b2Aa,⟨b2Ab,b2Ac⟩,⟨b2Ad,b2Ae⟩⟩,y0,h,rfl,rfl⟩ _;rw[zHg]at h;refine zYe [] [] rfl ?_;show Tri ..;refine zAa ?_;obtain⟨x3,hj,h⟩:=zAc h;refine zAv ⟨ofL [(4,.s (.bool x3))],fun _=>none,0⟩ ?_ (fun σ' hle=>?_)
 ·replace h:=hj;refine zAb [] [10,17] rfl ?_;obtain⟨y4,hy4,h⟩:=zAc h;refine⟨_,⟨_,_,_,_,hy4,rfl,rfl⟩,?_⟩
  intro b hb;cases b with
  | true =>
   replace h:=zAE hb.symm h;obtain⟨y5,hy5,h⟩:=zAc h;refine⟨_,⟨_,_,_,_,hy5,rfl,rfl⟩,?_⟩
   intro b hb;cases b with
   | true =>
    replace h:=zAE hb.symm h;obtain⟨y6,hy6,h⟩:=zAc h;refine⟨_,⟨_,_,_,_,hy6,rfl,rfl⟩,?_⟩
    cases h;exact(Le.forget _ ⟨rfl,trivial⟩)
   | false =>
    replace h:=zAD hb.symm h;cases h;exact(Le.forget _ ⟨rfl,trivial⟩)
  | false =>
   replace h:=zAD hb.symm h;intro b hb;subst hb;cases h;exact(Le.forget _ ⟨rfl,trivial⟩)
 ·show Tri ..;refine zAk hle ?_;refine zAe ?_;have hy:=Option.some.inj h;subst hy;unfold zAw;exact⟨_,Le.refl _ _,rfl,rfl⟩
def zKQ (n:Nat) (xs:List AV) (r:Ret):Prop:=∃ (a0:List zRc) (a1:List zRc) (y0:Bool),zDT n a0 a1=some y0/\xs=[.s (.sl 5 ((List.map zAd) a0)),.s (.sl 5 ((List.map zAd) a1))]/\r = .val (.s (.bool y0))
def zG2:zAz:=zAy fun xs r=>∃ n,zKQ n xs r
theorem zKy:PSound Tryz.prog 45 zG2:=by
 have gok:∀ f s,look? f [(94,zOx)]=some s->PSound Tryz.prog f s:=zAt (by
  simp only[List.forall_mem_cons]
  exact⟨zSW,by simp⟩)
 refine zAA tokW Tryz.call45 Tryz.func45 rfl (fun xs r h=>by obtain⟨n,_,_,_,_,rfl,_⟩:=h; show 2<=27; decide) 27 rfl ?_;rintro xs r w0 G0 ⟨n,a1,b2,y0,h,rfl,rfl⟩ _;rw[zDT]at h;refine zYe [] [] rfl ?_;show Tri ..;refine zAa ?_;refine zYe [] [7,9] rfl ?_;intro n3 hn3;obtain rfl:(a1.length:Int)=n3:=(hn3.trans (congrArg (fun m:Nat=>(m:Int)) (rlen (fun _=>rfl) a1))).symm;intro n4 hn4;obtain rfl:(b2.length:Int)=n4:=(hn4.trans (congrArg (fun m:Nat=>(m:Int)) (rlen (fun _=>rfl) b2))).symm;show Tri ..;refine zAh rfl h (fun hb h=>?_) (fun hb h=>?_)
 ·refine zYe [] [] rfl ?_;show Tri ..;refine zAe ?_;have hy:=Option.some.inj h;subst hy;unfold zAw;exact⟨_,Le.refl _ _,rfl,rfl⟩
 ·refine zAf ?_;show Tri ..;refine zAa ?_;refine zYe [] [] rfl ?_;show Tri ..;obtain⟨fl,hl,ho1⟩:=zAc h;refine zBt (fl:=fl) (fun z=>match z with | _=>⟨ofL [],fun _=>none,0⟩) ?_ (fun z σ' hz hle=>?_)
  ·refine zAl (zAF (X:=Nat×Int) (fun y=>match y with | (k,i5)=>⟨ofL [(0,.s (.sl 5 ((List.map zAd) a1))),(1,.s (.sl 5 ((List.map zAd) b2))),(5,.s (.int .i64 i5))],fun _=>none,0⟩) (fun y=>zBi n a1 b2 y.1 y.2=some fl) (fun y=>y.1) (n,0) hl ?_ ?_)
   ·exact(Le.forget _ ⟨rfl,rfl,rfl,trivial⟩)
   ·rintro⟨k,i5⟩ h;cases k with
    | zero=>cases h
    | succ k =>
     replace h:zBi n a1 b2 (k+1) i5=some fl:=h;rw[zBi]at h;refine zAa ?_;refine zYe [] [13] rfl ?_;intro n6 hn6;obtain rfl:(a1.length:Int)=n6:=(hn6.trans (congrArg (fun m:Nat=>(m:Int)) (rlen (fun _=>rfl) a1))).symm;show Tri ..;refine zAh rfl h (fun hb h=>?_) (fun hb h=>?_)
     ·refine zAf ?_;show Tri ..;refine zAa ?_;refine zAl ?_;refine zAa ?_;refine zAQ [] [19,23] [] rfl (by decide +kernel) ?_;obtain⟨⟨e7Aa,⟨e7Ab,e7Ac⟩,⟨e7Ad,e7Ae⟩⟩,he7,h⟩:=zAc h;refine And.intro (zAB (fun _=>rfl) he7).1 ?_;intro r8 hr8;obtain rfl:[.sl 8 ((List.map zAi) e7Aa),.sl 1 ((List.map (irow .i64)) e7Ab),.sl 1 ((List.map (irow .i64)) e7Ac),.sl 1 ((List.map (irow .i64)) e7Ad),.sl 1 ((List.map (irow .i64)) e7Ae)]=r8:=(hr8.trans (zAB (fun _=>rfl) he7).2.1).symm
      obtain⟨⟨e9Aa,⟨e9Ab,e9Ac⟩,⟨e9Ad,e9Ae⟩⟩,he9,h⟩:=zAc h;refine And.intro (zAB (fun _=>rfl) he9).1 ?_;intro r10 hr10;obtain rfl:[.sl 8 ((List.map zAi) e9Aa),.sl 1 ((List.map (irow .i64)) e9Ab),.sl 1 ((List.map (irow .i64)) e9Ac),.sl 1 ((List.map (irow .i64)) e9Ad),.sl 1 ((List.map (irow .i64)) e9Ae)]=r10:=(hr10.trans (zAB (fun _=>rfl) he9).2.1).symm;obtain⟨y11,hy11,h⟩:=zAc h;refine⟨_,⟨_,_,_,_,hy11,rfl,rfl⟩,?_⟩
      show Tri ..;refine zAh rfl h (fun hb h=>?_) (fun hb h=>?_)
      ·refine zYe [] [] rfl ?_;show Tri ..;refine zAe ?_;cases h;replace h:some _=some _:=ho1;have hy:=Option.some.inj h;subst hy;unfold zAw;exact⟨_,Le.refl _ _,rfl,rfl⟩
      ·refine zAf ?_;show Tri ..;refine zAb [] [] rfl ?_;refine⟨(k,IntKind.i64.wrap (i5+1)),h,(Le.forget _ ⟨rfl,rfl,rfl,trivial⟩),Nat.lt_succ_self k⟩
     ·refine zAI ?_;cases h;exact⟨_,rfl,(Le.forget _ trivial)⟩
  ·subst hz;obtain _:=z;replace h:=ho1;show Tri ..;refine zAk hle ?_;refine zYe [] [] rfl ?_;show Tri ..;refine zAe ?_;have hy:=Option.some.inj h;subst hy;unfold zAw;exact⟨_,Le.refl _ _,rfl,rfl⟩
def zTX (n:Nat) (xs:List AV) (r:Ret):Prop:=∃ (a0:(List UInt8×Nd×List zRc×Int)) (a1:(List UInt8×Nd×List zRc×Int)) (y0:Bool),zHh n a0 a1=some y0/\xs=[.agg ((zAn a0).map .s),.agg ((zAn a1).map .s)]/\r = .val (.s (.bool y0))
def zOy:zAz:=zAy fun xs r=>∃ n,zTX n xs r
theorem zSX:PSound Tryz.prog 19 zOy:=by
 have gok:∀ f s,look? f [(16,zHr),(45,zG2)]=some s->PSound Tryz.prog f s:=zAt (by
  simp only[List.forall_mem_cons]
  exact⟨zIz,zKy,by simp⟩)
 refine zAA tokW Tryz.call19 Tryz.func19 rfl (fun xs r h=>by obtain⟨n,_,_,_,_,rfl,_⟩:=h; show 2<=31; decide) 31 rfl ?_;rintro xs r w0 G0 ⟨n,⟨a1Af,⟨a1G,a1H,a1I,a1J⟩,a1E,a1F⟩,⟨b2Af,⟨b2G,b2H,b2I,b2J⟩,b2E,b2F⟩,y0,h,rfl,rfl⟩ _;rw[zHh]at h;refine zYe [] [] rfl ?_;show Tri ..;refine zAa ?_;obtain⟨x3,hj,h⟩:=zAc h;refine zAv ⟨ofL [(4,.s (.bool x3))],fun _=>none,0⟩ ?_ (fun σ' hle=>?_)
 ·replace h:=hj;refine zAb [] [10,17,24] rfl ?_;intro b hb;cases b with
  | true =>
   replace h:=zAE hb.symm h;intro b hb;cases b with
   | true =>
    replace h:=zAE hb.symm h;obtain⟨y4,hy4,h⟩:=zAc h;refine⟨_,⟨_,_,_,_,hy4,rfl,rfl⟩,?_⟩
    intro b hb;cases b with
    | true =>
     replace h:=zAE hb.symm h;obtain⟨y5,hy5,h⟩:=zAc h;refine⟨_,⟨_,_,_,_,hy5,rfl,rfl⟩,?_⟩
     cases h;exact(Le.forget _ ⟨rfl,trivial⟩)
    | false =>
     replace h:=zAD hb.symm h;cases h;exact(Le.forget _ ⟨rfl,trivial⟩)
   | false =>
    replace h:=zAD hb.symm h;intro b hb;subst hb;cases h;exact(Le.forget _ ⟨rfl,trivial⟩)
  | false =>
   replace h:=zAD hb.symm h;intro b hb;subst hb;intro b hb;subst hb;cases h;exact(Le.forget _ ⟨rfl,trivial⟩)
 ·show Tri ..;refine zAk hle ?_;refine zAe ?_;have hy:=Option.some.inj h;subst hy;unfold zAw;exact⟨_,Le.refl _ _,rfl,rfl⟩
def zHU (xs:List AV) (os:List Ob) (x:AV) (os':List (Option Ob)):Prop:=∃ (a0G:Int) (a0H:List UInt8) (a0I:Int) (a0J:List Nd) (a0M:Int) (a0N:List UInt8) (a0O:Int) (a0P:List Nd) (a0E:List zRc) (a0F:Int) (y0:Nd) (z0G:Int) (z0H:List UInt8) (z0I:Int) (z0J:List Nd) (z0M:Int) (z0N:List UInt8) (z0O:Int) (z0P:List Nd) (z0E:List zRc) (z0F:Int),zBC (Nd.mk a0G a0H a0I a0J,Nd.mk a0M a0N a0O a0P,a0E,a0F)=some (y0,(Nd.mk z0G z0H z0I z0J,Nd.mk z0M z0N z0O z0P,z0E,z0F))/\xs=[.op 0 0]/\os=[.box 104 [.s (.int .i64 a0G),.s (.str a0H),.s (.int .i64 a0I),.s (.sl 4 (Nd.encs a0J)),.s (.int .i64 a0M),.s (.str a0N),.s (.int .i64 a0O),.s (.sl 4 (Nd.encs a0P)),.orow 1,.s (.int .i64 a0F)],.row 60 5 ((List.map zAd) a0E)]/\x = .agg ((Nd.enc y0).map .s)/\os'=[some (.box 104 [.s (.int .i64 z0G),.s (.str z0H),.s (.int .i64 z0I),.s (.sl 4 (Nd.encs z0J)),.s (.int .i64 z0M),.s (.str z0N),.s (.int .i64 z0O),.s (.sl 4 (Nd.encs z0P)),.orow 2,.s (.int .i64 z0F)]),none,some (.row 60 5 ((List.map zAd) z0E))]
def zEO:zAz:=zC8 (fun xs os x os'=>zHU xs os x os')
theorem zHC:PSound Tryz.prog 23 zEO:=by
 have gok:∀ f s,look? f [(53,zCX)]=some s->PSound Tryz.prog f s:=zAt (by
  simp only[List.forall_mem_cons]
  exact⟨zCW,by simp⟩)
 refine PSound.withNil (zFn tokW Tryz.call23 Tryz.func23 rfl (fun xs os x os' h=>by obtain⟨_,_,_,_,_,_,_,_,_,_,_,_,_,_,_,_,_,_,_,_,_,_,rfl,rfl,_,rfl⟩:=h; exact⟨by show 1<=11; decide,by show 2<=3; decide⟩) 11 rfl ?_) _;rintro xs os x os' w0 G0 B0 ⟨o1G,o1H,o1I,o1J,o1M,o1N,o1O,o1P,o1E,o1F,y0,z0G,z0H,z0I,z0J,z0M,z0N,z0O,z0P,z0E,z0F,h,rfl,rfl,rfl,rfl⟩ _;rw[zBC]at h;refine zYe [2] [] rfl ?_;show Tri ..
 refine zAa ?_;refine zYe [] [] rfl ?_;show Tri ..;refine zAL rfl (fun h=>by cases h) (fun _=>?_)
 refine zAf ?_;show Tri ..;refine zYe [] [] rfl ?_;obtain⟨⟨y2A,y2B,y2D,y2C⟩,hy2,h⟩:=zAc h;refine⟨_,⟨_,_,hy2,rfl,rfl⟩,?_⟩
 show Tri ..;refine zAe ?_;have hj0:=Option.some.inj h;obtain⟨hv0,hw0⟩:=Prod.mk.inj hj0;subst hv0;obtain⟨he1Q,hr1Q⟩:=Prod.mk.inj hw0;obtain⟨he1R,hr1R⟩:=Prod.mk.inj hr1Q;obtain⟨he1V,he1W⟩:=Prod.mk.inj hr1R;obtain⟨he2Q,he2R,he2V,he2W⟩:=Nd.mk.inj he1Q;subst he2Q;subst he2R;subst he2V;subst he2W;obtain⟨he3Q,he3R,he3V,he3W⟩:=Nd.mk.inj he1R;subst he3Q;subst he3R;subst he3V;subst he3W;subst he1V;subst he1W;unfold zBp
 exact⟨_,(Le.rnm [(0,0),(1,2),(2,3)] [(2,.op 3 0)] [(0,.box 104 [.s (.int .i64 o1G),.s (.str o1H),.s (.int .i64 o1I),.s (.sl 4 (Nd.encs o1J)),.s (.int .i64 o1M),.s (.str o1N),.s (.int .i64 o1O),.s (.sl 4 (Nd.encs o1P)),.orow 2,.s (.int .i64 o1F)]),(2,.row 60 5 ((List.map zAd) o1E)),(3,.box 24 [.s (.int .i64 y2A),.s (.str y2B),.s (.int .i64 y2D),.s (.sl 4 (Nd.encs y2C))])] 4 ⟨rfl,trivial⟩ ⟨rfl,⟨_,rfl,rfl⟩,rfl,⟨_,rfl,rfl⟩,rfl,⟨_,rfl,rfl⟩,trivial⟩),rfl,rfl,rfl,rfl,rfl,rfl,trivial⟩
def zKO (n:Nat) (xs:List AV) (r:Ret):Prop:=∃ (a0:(List UInt8×Nd×List zRc×Int)) (y0:Bool),zB9 n a0=some y0/\xs=[.agg ((zAn a0).map .s)]/\r = .val (.s (.bool y0))
def zKS:zAz:=zAy fun xs r=>∃ n,zKO n xs r
theorem zKw:PSound Tryz.prog 7 zKS:=by
 have gok:∀ f s,look? f [(8,zMo),(9,zQV),(20,zMm),(13,zMz),(21,zQP),(19,zOy),(14,zJb),(22,zDk),(23,zEO),(16,zHr)]=some s->PSound Tryz.prog f s:=zAt (by
  simp only[List.forall_mem_cons]
  exact⟨zRF,zUs,zRD,zRP,zUm,zSX,zM6,zEJ,zHC,zIz,by simp⟩)
 refine zAA tokW Tryz.call7 Tryz.func7 rfl (fun xs r h=>by obtain⟨n,_,_,_,rfl,_⟩:=h; show 1<=79; decide) 79 rfl ?_;rintro xs r w0 G0 ⟨n,⟨a1Af,⟨a1G,a1H,a1I,a1J⟩,a1E,a1F⟩,y0,h,rfl,rfl⟩ _;rw[zB9]at h;refine zYe [] [] rfl ?_;show Tri ..;refine zAa ?_;refine zAa ?_;obtain⟨x2,hj,h⟩:=zAc h
 refine zAv ⟨ofL [(1,.s (.pt [.str a1Af,.int .i64 a1G,.str a1H,.int .i64 a1I,.sl 4 (Nd.encs a1J),.sl 5 ((List.map zAd) a1E),.int .i64 a1F])),(16,.s (.bool x2))],fun _=>none,0⟩ ?_ (fun σ' hle=>?_)
 ·replace h:=hj;refine zAb [] [12] rfl ?_;obtain⟨y3,hy3,h⟩:=zAc h;refine⟨_,⟨_,_,hy3,rfl,rfl⟩,?_⟩
  intro b hb;cases b with
  | true =>
   replace h:=zAE hb.symm h;cases h;exact(Le.forget _ ⟨rfl,rfl,trivial⟩)
  | false =>
   replace h:=zAD hb.symm h;obtain⟨y4,hy4,h⟩:=zAc h;refine⟨_,⟨_,_,_,hy4,rfl,rfl⟩,?_⟩
   cases h;exact(Le.forget _ ⟨rfl,rfl,trivial⟩)
 ·show Tri ..;refine zAk hle ?_;refine zAh rfl h (fun hb h=>?_) (fun hb h=>?_)
  ·refine zYe [] [] rfl ?_;obtain⟨y5,hy5,h⟩:=zAc h;refine⟨_,⟨_,_,hy5,rfl,rfl⟩,?_⟩
   show Tri ..;refine zAe ?_;have hy:=Option.some.inj h;subst hy;unfold zAw;exact⟨_,Le.refl _ _,rfl,rfl⟩
  ·refine zAf ?_;show Tri ..;refine zYe [] [] rfl ?_;obtain⟨⟨y6,y7⟩,hy6,h⟩:=zAc h;cases y6 with
   | none =>
    obtain⟨hq,h⟩:=zAK h;subst hq;refine⟨_,_,⟨_,_,_,_,hy6,rfl,rfl,rfl,rfl⟩,?_⟩
    show Tri ..;refine zAk (Le.rnm [] [(1,.s (.pt [.str a1Af,.int .i64 a1G,.str a1H,.int .i64 a1I,.sl 4 (Nd.encs a1J),.sl 5 ((List.map zAd) a1E),.int .i64 a1F])),(3,.s (.np)),(4,.s (.int .i64 1))] [] 0 ⟨rfl,rfl,rfl,trivial⟩ trivial) ?_;refine zAa ?_;refine zYe [] [] rfl ?_;obtain⟨y8,hy8,h⟩:=zAc h;refine⟨_,⟨_,_,_,hy8,rfl,rfl⟩,?_⟩
    show Tri ..;refine zAh rfl h (fun hb h=>?_) (fun hb h=>?_)
    ·refine zYe [] [] rfl ?_;show Tri ..;refine zAe ?_;have hy:=Option.some.inj h;subst hy;unfold zAw;exact⟨_,Le.refl _ _,rfl,rfl⟩
    ·refine zAf ?_;show Tri ..;refine zYe [5] [] rfl ?_;cases h
   | some w9 =>
    obtain⟨⟨w9G,w9H,w9I,w9J⟩,⟨w9M,w9N,w9O,w9P⟩,w9E,w9F⟩:=w9;obtain⟨hq,h⟩:=zAK h;subst hq;refine⟨_,_,⟨_,_,_,_,hy6,rfl,rfl,rfl,rfl⟩,?_⟩
    show Tri ..
    refine zAk (Le.rnm [(0,0),(1,1)] [(1,.s (.pt [.str a1Af,.int .i64 a1G,.str a1H,.int .i64 a1I,.sl 4 (Nd.encs a1J),.sl 5 ((List.map zAd) a1E),.int .i64 a1F])),(3,.op 0 0),(4,.s (.int .i64 0))] [(0,.box 104 [.s (.int .i64 w9G),.s (.str w9H),.s (.int .i64 w9I),.s (.sl 4 (Nd.encs w9J)),.s (.int .i64 w9M),.s (.str w9N),.s (.int .i64 w9O),.s (.sl 4 (Nd.encs w9P)),.orow 1,.s (.int .i64 w9F)]),(1,.row 60 5 ((List.map zAd) w9E))] 2 ⟨rfl,rfl,rfl,trivial⟩ ⟨rfl,⟨_,rfl,rfl⟩,rfl,⟨_,rfl,rfl⟩,trivial⟩) ?_
    refine zAa ?_;refine zYe [] [] rfl ?_;obtain⟨y10,hy10,h⟩:=zAc h;refine⟨_,⟨_,_,_,hy10,rfl,rfl⟩,?_⟩
    show Tri ..;refine zAh rfl h (fun hb h=>?_) (fun hb h=>?_)
    ·refine zYe [] [] rfl ?_;show Tri ..;refine zAe ?_;have hy:=Option.some.inj h;subst hy;unfold zAw;exact⟨_,Le.refl _ _,rfl,rfl⟩
    ·refine zAf ?_;show Tri ..;refine zYe [5] [] rfl ?_;obtain⟨⟨⟨y11Af,⟨y11G,y11H,y11I,y11J⟩,y11E,y11F⟩,y12,⟨⟨w13G,w13H,w13I,w13J⟩,⟨w13M,w13N,w13O,w13P⟩,w13E,w13F⟩⟩,hy11,h⟩:=zAc h;refine⟨_,_,⟨_,_,_,_,_,_,_,_,_,_,_,_,_,_,_,_,_,_,_,_,_,_,_,_,hy11,rfl,rfl,rfl,rfl⟩,?_⟩
     show Tri ..;refine zAk (Le.giveBox 3 [.str y11Af,.int .i64 y11G,.str y11H,.int .i64 y11I,.sl 4 (Nd.encs y11J),.sl 5 ((List.map zAd) y11E),.int .i64 y11F] rfl rfl) ?_;refine zAa ?_;refine zAa ?_;obtain⟨x14,hj,h⟩:=zAc h
     refine zAv ⟨ofL [(1,.s (.pt [.str a1Af,.int .i64 a1G,.str a1H,.int .i64 a1I,.sl 4 (Nd.encs a1J),.sl 5 ((List.map zAd) a1E),.int .i64 a1F])),(3,.op 0 0),(5,.s (.pt [.str y11Af,.int .i64 y11G,.str y11H,.int .i64 y11I,.sl 4 (Nd.encs y11J),.sl 5 ((List.map zAd) y11E),.int .i64 y11F])),(50,.s (.bool x14))],ofH [(0,.box 104 [.s (.int .i64 w13G),.s (.str w13H),.s (.int .i64 w13I),.s (.sl 4 (Nd.encs w13J)),.s (.int .i64 w13M),.s (.str w13N),.s (.int .i64 w13O),.s (.sl 4 (Nd.encs w13P)),.orow 1,.s (.int .i64 w13F)]),(1,.row 60 5 ((List.map zAd) w13E))],2⟩ ?_ (fun σ' hle=>?_)
     ·replace h:=hj;refine zAb [] [45] rfl ?_;intro b hb;cases b with
      | true =>
       replace h:=zAE hb.symm h;cases h;exact(Le.rnm [(0,0),(2,1)] _ _ _ ⟨rfl,rfl,rfl,rfl,trivial⟩ ⟨rfl,⟨_,rfl,rfl⟩,rfl,⟨_,rfl,rfl⟩,trivial⟩)
      | false =>
       replace h:=zAD hb.symm h;obtain⟨y15,hy15,h⟩:=zAc h;refine⟨_,⟨_,_,_,_,hy15,rfl,rfl⟩,?_⟩
       cases h;exact(Le.rnm [(0,0),(2,1)] _ _ _ ⟨rfl,rfl,rfl,rfl,trivial⟩ ⟨rfl,⟨_,rfl,rfl⟩,rfl,⟨_,rfl,rfl⟩,trivial⟩)
     ·show Tri ..;refine zAk hle ?_;refine zAh rfl h (fun hb h=>?_) (fun hb h=>?_)
      ·refine zYe [] [] rfl ?_;show Tri ..;refine zAe ?_;have hy:=Option.some.inj h;subst hy;unfold zAw;exact⟨_,Le.refl _ _,rfl,rfl⟩
      ·refine zAf ?_;show Tri ..;refine zAa ?_;refine zYe [] [] rfl ?_;show Tri ..;obtain⟨fl,hl,ho1⟩:=zAc h;refine zBt (fl:=fl) (fun z=>match z with | _=>⟨ofL [],fun _=>none,0⟩) ?_ (fun z σ' hz hle=>?_)
       ·refine zAl (zAF (X:=Nat×Int×(List UInt8)×Int×(List Nd)×Int×(List UInt8)×Int×(List Nd)×Int×Int×(List zRc)) (fun y=>match y with | (k,x16,x17,x18,x19,x20,x21,x22,x23,x25,x26,l27)=>⟨ofL [(1,.s (.pt [.str a1Af,.int .i64 a1G,.str a1H,.int .i64 a1I,.sl 4 (Nd.encs a1J),.sl 5 ((List.map zAd) a1E),.int .i64 a1F])),(3,.op 0 0),(5,.s (.pt [.str y11Af,.int .i64 y11G,.str y11H,.int .i64 y11I,.sl 4 (Nd.encs y11J),.sl 5 ((List.map zAd) y11E),.int .i64 y11F])),(7,.s (.int .i64 x26))],ofH [(0,.box 104 [.s (.int .i64 x16),.s (.str x17),.s (.int .i64 x18),.s (.sl 4 (Nd.encs x19)),.s (.int .i64 x20),.s (.str x21),.s (.int .i64 x22),.s (.sl 4 (Nd.encs x23)),.orow 1,.s (.int .i64 x25)]),(1,.row 60 5 ((List.map zAd) l27))],2⟩) (fun y=>zBg n a1E y11Af y11G y11H y11I y11J y11E y11F y.1 y.2.1 y.2.2.1 y.2.2.2.1 y.2.2.2.2.1 y.2.2.2.2.2.1 y.2.2.2.2.2.2.1 y.2.2.2.2.2.2.2.1 y.2.2.2.2.2.2.2.2.1 y.2.2.2.2.2.2.2.2.2.1 y.2.2.2.2.2.2.2.2.2.2.1 y.2.2.2.2.2.2.2.2.2.2.2=some fl) (fun y=>y.1) (n,w13G,w13H,w13I,w13J,w13M,w13N,w13O,w13P,w13F,0,w13E) hl ?_ ?_)
        ·exact(Le.rnm [(0,0),(1,1)] _ _ _ ⟨rfl,rfl,rfl,rfl,trivial⟩ ⟨rfl,⟨_,rfl,rfl⟩,rfl,⟨_,rfl,rfl⟩,trivial⟩)
        ·rintro⟨k,x16,x17,x18,x19,x20,x21,x22,x23,x25,x26,l27⟩ h;cases k with
         | zero=>cases h
         | succ k =>
          replace h:zBg n a1E y11Af y11G y11H y11I y11J y11E y11F (k+1) x16 x17 x18 x19 x20 x21 x22 x23 x25 x26 l27=some fl:=h;rw[zBg]at h;refine zAa ?_;refine zYe [] [54] rfl ?_;intro n28 hn28;obtain rfl:(a1E.length:Int)=n28:=(hn28.trans (congrArg (fun m:Nat=>(m:Int)) (rlen (fun _=>rfl) a1E))).symm;show Tri ..;refine zAh rfl h (fun hb h=>?_) (fun hb h=>?_)
          ·refine zAf ?_;show Tri ..;refine zAa ?_;refine zAl ?_;refine zYe [8] [] rfl ?_;obtain⟨⟨⟨y29A,y29B,y29D,y29C⟩,y30⟩,hy29,h⟩:=zAc h;refine⟨_,⟨_,_,_,_,_,hy29,rfl,rfl⟩,?_⟩
           show Tri ..;refine zAk (Le.giveBox 2 [.int .i64 y29A,.str y29B,.int .i64 y29D,.sl 4 (Nd.encs y29C)] rfl rfl) ?_;refine zAa ?_;obtain⟨⟨x31,x32,x33,x34,x35,x36,x37,x38,x39,x40,l41⟩,hj,h⟩:=zAc h
           refine zAv ⟨ofL [(1,.s (.pt [.str a1Af,.int .i64 a1G,.str a1H,.int .i64 a1I,.sl 4 (Nd.encs a1J),.sl 5 ((List.map zAd) a1E),.int .i64 a1F])),(3,.op 0 0),(5,.s (.pt [.str y11Af,.int .i64 y11G,.str y11H,.int .i64 y11I,.sl 4 (Nd.encs y11J),.sl 5 ((List.map zAd) y11E),.int .i64 y11F])),(7,.s (.int .i64 x26)),(78,.s (.bool x31))],ofH [(0,.box 104 [.s (.int .i64 x32),.s (.str x33),.s (.int .i64 x34),.s (.sl 4 (Nd.encs x35)),.s (.int .i64 x36),.s (.str x37),.s (.int .i64 x38),.s (.sl 4 (Nd.encs x39)),.orow 1,.s (.int .i64 x40)]),(1,.row 60 5 ((List.map zAd) l41))],2⟩ ?_ (fun σ' hle=>?_)
           ·replace h:=hj;refine zAQ [] [68,72] [2,11] rfl (by decide +kernel) ?_;obtain⟨⟨y42,⟨⟨w43G,w43H,w43I,w43J⟩,⟨w43M,w43N,w43O,w43P⟩,w43E,w43F⟩⟩,hy42,h⟩:=zAc h;refine⟨_,_,⟨_,_,_,_,_,_,_,_,_,_,_,_,_,_,_,_,_,_,_,_,_,_,_,hy42,rfl,rfl,rfl,rfl⟩,?_⟩
            intro b hb;cases b with
            | true =>
             replace h:=zAE hb.symm h;intro b hb;subst hb;cases h;exact(Le.rnm [(0,0),(3,1)] _ _ _ ⟨rfl,rfl,rfl,rfl,rfl,trivial⟩ ⟨rfl,⟨_,rfl,rfl⟩,rfl,⟨_,rfl,rfl⟩,trivial⟩)
            | false =>
             replace h:=zAD hb.symm h;intro b hb;cases b with
             | true =>
              replace h:=zAE hb.symm h;cases h;exact(Le.rnm [(0,0),(3,1)] _ _ _ ⟨rfl,rfl,rfl,rfl,rfl,trivial⟩ ⟨rfl,⟨_,rfl,rfl⟩,rfl,⟨_,rfl,rfl⟩,trivial⟩)
             | false =>
              replace h:=zAD hb.symm h;obtain⟨⟨⟨y44A,y44B,y44D,y44C⟩,⟨⟨w45G,w45H,w45I,w45J⟩,⟨w45M,w45N,w45O,w45P⟩,w45E,w45F⟩⟩,hy44,h⟩:=zAc h;refine⟨_,_,⟨_,_,_,_,_,_,_,_,_,_,_,_,_,_,_,_,_,_,_,_,_,hy44,rfl,rfl,rfl,rfl⟩,?_⟩
              obtain⟨y46,hy46,h⟩:=zAc h;refine⟨_,⟨_,_,_,_,hy46,rfl,rfl⟩,?_⟩
              cases h;exact(Le.rnm [(0,0),(4,1)] _ _ _ ⟨rfl,rfl,rfl,rfl,rfl,trivial⟩ ⟨rfl,⟨_,rfl,rfl⟩,rfl,⟨_,rfl,rfl⟩,trivial⟩)
           ·show Tri ..;refine zAk hle ?_;refine zAh rfl h (fun hb h=>?_) (fun hb h=>?_)
            ·refine zYe [] [] rfl ?_;show Tri ..;refine zAe ?_;cases h;replace h:some _=some _:=ho1;have hy:=Option.some.inj h;subst hy;unfold zAw;exact⟨_,Le.refl _ _,rfl,rfl⟩
            ·refine zAf ?_;show Tri ..;refine zAb [] [] rfl ?_;refine⟨(k,x32,x33,x34,x35,x36,x37,x38,x39,x40,IntKind.i64.wrap (x26+1),l41),h,(Le.rnm [(0,0),(1,1)] _ _ _ ⟨rfl,rfl,rfl,rfl,trivial⟩ ⟨rfl,⟨_,rfl,rfl⟩,rfl,⟨_,rfl,rfl⟩,trivial⟩),Nat.lt_succ_self k⟩
          ·refine zAI ?_;cases h;exact⟨_,rfl,(Le.rnm [] _ [] 0 trivial trivial)⟩
       ·subst hz;obtain _:=z;replace h:=ho1;show Tri ..;refine zAk hle ?_;refine zYe [] [] rfl ?_;show Tri ..;refine zAe ?_;have hy:=Option.some.inj h;subst hy;unfold zAw;exact⟨_,Le.refl _ _,rfl,rfl⟩
theorem zWP {n:Nat}{ss:List S} (h:Typed T n 24 ss):∃ t:Nd,ss=t.enc/\t.rng :=
 zPc (T:=T) (e:=24) (s:=22) (ki:=3) (st:=9) rfl rfl rfl rfl rfl rfl rfl rfl rfl n h
theorem zTe {n t:Nat}{ss:List S} (h:Typed T n 22 ss):∃ l:List Nd,ss=[.sl 4 (Nd.encs l)]/\Nd.rngs l:=by
 obtain⟨m,rows,rfl,rfl,_,hr⟩:=zGj (T:=T) (e:=24) rfl rfl h;obtain⟨ks,rfl,hks⟩:=zKT (f:=Nd.enc) (q:=Nd.rng) (l:=rows) fun r hr'=>zPc (T:=T) (e:=24) (s:=22) (ki:=3) (st:=9) rfl rfl rfl rfl rfl rfl rfl rfl rfl m (hr r hr')
 exact⟨ks,by rw[Nd.encs_eq]; rfl,Nd.rngAll hks⟩
theorem zWQ {n:Nat}{ss:List S} (h:Typed T n 63 ss):∃ o:zO8,ss=zAi o/\True:=by
 obtain⟨m,rfl,a0,q0,rfl,u0,a1,q1,rfl,u1,a2,q2,rfl,u2,a3,q3,rfl,u3,a4,q4,rfl,u4,a5,q5,rfl,u5,a6,q6,rfl,u6,a7,q7,rfl,u7,rfl⟩:=zFq (T:=T) (t:=63) rfl rfl h;obtain⟨x0,rfl,_⟩:=zFp (T:=T) (k:=.i64) rfl rfl u0;obtain⟨x1,rfl,_⟩:=zPb (T:=T) (k:=.i64) (e:=3) rfl rfl rfl rfl u1;obtain⟨x2,rfl,_⟩:=zFp (T:=T) (k:=.i64) rfl rfl u2;obtain⟨x3,rfl,_⟩:=zFp (T:=T) (k:=.i64) rfl rfl u3;obtain⟨x4,rfl,_⟩:=zTe (t:=0) u4;obtain⟨x5,rfl,_⟩:=zFp (T:=T) (k:=.i64) rfl rfl u5;obtain⟨x6,rfl,_⟩:=zKJ (T:=T) rfl rfl u6;obtain⟨x7,rfl,_⟩:=zKJ (T:=T) rfl rfl u7
 exact⟨(x0,x1,x2,x3,x4,x5,x6,x7),rfl,trivial⟩
theorem zVS {n:Nat}{ss:List S} (h:Typed T n 55 ss):∃ l:List zO8,ss=[.sl 8 (l.map zAi)]:=by
 obtain⟨m,rows,rfl,rfl,_,hr⟩:=zGj (T:=T) (e:=63) rfl rfl h;obtain⟨ks,rfl,hks⟩:=zKT (f:=zAi) (q:=fun _=>True) (l:=rows) fun r hr'=>zWQ (hr r hr')
 exact⟨ks,rfl⟩
theorem zPd {n:Nat}{ss:List S} (h:Typed T n 56 ss):∃ l:List Int,ss=[.sl 1 (l.map fun z=>[.int .i64 z])]/\True:=by
 obtain⟨x,rfl,_⟩:=zPb (T:=T) (k:=.i64) (e:=3) rfl rfl rfl rfl h;exact⟨x,rfl,trivial⟩
theorem zPB {α:Type}{f:α->List S}:∀ {l:List α}{x:α},x∈l->zDt (f x)<=zEo (l.map f)
 | y::l,x,h=>by
  simp only[List.map_cons,zEo]
  rcases List.mem_cons.1 h with rfl | h
  ·omega
  ·have:=zPB (f:=f) h; omega
theorem zXv {l:List zO8}:l.length<=zEo (l.map zAi):=by
 have:=zKm (rows:=l.map zAi) fun r hr=>by
  obtain⟨o,_,rfl⟩:=List.mem_map.1 hr;simp only[zAi,List.length_cons]
  omega
 simpa using this
theorem zLJ {n:Nat}{ss:List S} (h:Typed T n 58 ss):∃ c:List Int×List Int,ss=[.sl 1 (c.1.map (irow .i64)),.sl 1 (c.2.map (irow .i64))]:=by
 obtain⟨m,rfl,a0,q0,rfl,u0,a1,q1,rfl,u1,rfl⟩:=zFq (T:=T) (t:=58) rfl rfl h;obtain⟨x0,rfl,_⟩:=zPd u0;obtain⟨x1,rfl,_⟩:=zPd u1;exact⟨(x0,x1),rfl⟩
theorem zSc {n:Nat}{ss:List S} (h:Typed T n 60 ss):∃ r:List zO8×zCu×zCu,ss=zAd r:=by
 obtain⟨m,rfl,a0,q0,rfl,u0,a1,q1,rfl,u1,a2,q2,rfl,u2,rfl⟩:=zFq (T:=T) (t:=60) rfl rfl h;obtain⟨x0,rfl⟩:=zVS u0;obtain⟨x1,rfl⟩:=zLJ u1;obtain⟨x2,rfl⟩:=zLJ u2;exact⟨(x0,x1,x2),rfl⟩
theorem zAO {φ:Prop} [Decidable φ] (h:φ):decide φ=true:=decide_eq_true h
theorem zAM {φ:Prop} [Decidable φ] (h:¬ φ):decide φ=false:=decide_eq_false h
theorem zJu {F:Nd->Option Int}{ks:List Nd} (hF:∀ v∈ks,F v=some (v.cnt:Int)) :
  ∀ (k i:Nat) (o:Nat),ks.length - i<k->i<=ks.length->o+Nd.cnts (ks.drop i)<=1073741824->ks.length<=1073741824->zCE F ks k (o:Int) (i:Int)=some ((o+Nd.cnts (ks.drop i):Nat):Int)
 | 0,_,_,h,_,_,_=>by omega
 | k+1,i,o,hk,hi,ho,hl=>by
  unfold zCE
  by_cases h:i<ks.length
  ·rw[zAO (Int.ofNat_lt.2 h),cond_true,zA7 h]
   have hd:=Nd.cnts_drop h;have hf:=hF _ (List.getElem_mem h)
   rcases e:ks[i] with ⟨a,b,c,d⟩
   rw[e]at hd hf;simp only[Option.bind_some,hf]
   rw[wrap64_in (by omega) (by omega),zAR (by omega),← Int.natCast_add,zJu hF k (i+1) _ (by omega) (by omega) (by omega) hl,hd]
   congr 2; omega
  ·rw[zAM (by omega),cond_false]
   obtain rfl:i=ks.length :=(by omega);simp[Nd.cnts]
theorem zLE:∀ (n:Nat) (t:Nd),t.cnt<n->t.cnt<=67108864->zC2 n t=some (t.cnt:Int)
 | 0,_,h,_=>by omega
 | n+1,.mk a b c ks,h,hb=>by
  simp only[Nd.cnt]at h hb;have hl:=Nd.cnts_len ks;unfold zC2;have:=zJu (F:=zC2 n) (ks:=ks) (fun v hv=>zLE n v (by have:=Nd.cnts_mem hv; omega) (by have:=Nd.cnts_mem hv; omega)) n 0 1 (by omega) (by omega) (by simp; omega) (by omega)
  rw[show((0:Nat):Int)=0 from rfl,show((1:Nat):Int)=1 from rfl]at this;rw[this]
  simp only[Option.bind_some,List.drop_zero,Nd.cnt]
  congr 2; omega
theorem zRu {F:Nd->Int->Option Int}{ks:List Nd}{b:Nat} (hF:∀ (v:Nd) (m:Nat),m<=b->∃ r,F v (m:Int)=some r/\-1<=r/\r<m/\(0<=r->r+v.cnt=m)) :
  ∀ (k i:Nat) (m:Int),m+1<k->-1<=m->m<=b->i<=ks.length->(i:Int)+m<4611686018427387904->∃ r,zCz F ks k m (i:Int)=some r/\-1<=r/\r<=m/\(0<=r->r+Nd.cnts (ks.drop i)=m)
 | 0,_,_,h,_,_,_,_=>by omega
 | k+1,i,m,hk,hm,hb,hi,hx=>by
  unfold zCz
  by_cases h:i<ks.length
  ·rw[zAO (Int.ofNat_lt.2 h),cond_true]
   simp only[Option.bind_some]
   by_cases h0:0<=m
   ·rw[zAO h0,cond_true,zA7 h]
    have hd:=Nd.cnts_drop h;rcases e:ks[i] with ⟨e1,e2,e3,e4⟩
    rw[e]at hd;simp only[Option.bind_some]
    obtain⟨m',rfl⟩:=Int.eq_ofNat_of_zero_le h0;obtain⟨r,h1,h2,h3,h4⟩:=hF (.mk e1 e2 e3 e4) m' (by omega)
    rw[h1,Option.bind_some,zAR (by omega)]
    obtain⟨r',g1,g2,g3,g4⟩:=zRu (ks:=ks) hF k (i+1) r (by omega) h2 (by omega) (by omega) (by omega)
    exact⟨r',g1,g2,by omega,fun g=>by have:=g4 g; have:=h4 (by omega); omega⟩
   ·rw[zAM h0,cond_false]
    exact⟨m,rfl,hm,Int.le_refl _,fun g=>by omega⟩
  ·rw[zAM (by omega),cond_false]
   simp only[Option.bind_some,cond_false]
   obtain rfl:i=ks.length :=(by omega);exact⟨m,rfl,hm,Int.le_refl _,fun _=>by simp[Nd.cnts]⟩
theorem left_eq:∀ (n:Nat) (t:Nd) (m:Nat),m+1<n->m<=67108864->∃ r,zDR n t (m:Int)=some r/\-1<=r/\r<m/\(0<=r->r+t.cnt=m)
 | 0,_,_,h,_=>by omega
 | n+1,.mk a b c ks,m,h,hm=>by
  unfold zDR;rw[wrap64_in (by omega) (by omega)]
  cases m with
  | zero =>
   cases n with
   | zero=>omega
   | succ n =>
    refine⟨-1,?_,by omega,by omega,fun h=>by omega⟩
    unfold zCz;cases decide (((0:Nat):Int)<(ks.length:Int)) <;> simp <;> rfl
  | succ m =>
   obtain⟨r,h1,h2,h3,h4⟩:=zRu (F:=zDR n) (ks:=ks) (b:=m) (fun v q hq=>left_eq n v q (by omega) (by omega)) n 0 (m:Int) (by omega) (by omega) (by omega) (by omega) (by omega)
   rw[show((0:Nat):Int)=0 from rfl]at h1;rw[show((m+1:Nat):Int) - 1=(m:Int) by omega,h1]
   exact⟨r,rfl,h2,by omega,fun g=>by have:=h4 g; rw[List.drop_zero]at this; simp only[Nd.cnt]; omega⟩
theorem zWU (n:Nat) (t:Nd) (m:Nat) (h:m+1<n) (hm:m<=67108864):∃ b,zHc n t (m:Int)=some b/\(b=true->t.cnt<=m):=by
 obtain⟨a,b,c,ks⟩:=t;obtain⟨r,h1,h2,h3,h4⟩:=left_eq n (.mk a b c ks) m h hm;refine⟨decide (0<=r),by simp[zHc,h1],fun g=>by have g0:=of_decide_eq_true g; have:=h4 g0; omega⟩
def zNW {α:Type} (p:α->Bool) (l:List α):Fl Bool Unit:=if l.all p then .go () else .ret false
theorem zV0 {α:Type}{p:α->Bool}{l:List α}{i:Nat} (h:i<l.length):(l.drop i).all p=(p l[i]&&(l.drop (i+1)).all p):=by
 rw[List.drop_eq_getElem_cons h]; rfl
theorem zV1 {α:Type}{p:α->Bool}{l:List α}{i:Nat} (h:i<l.length):(l.drop i).any p=(p l[i]||(l.drop (i+1)).any p):=by
 rw[List.drop_eq_getElem_cons h]; rfl
theorem zHw {α:Type}{p:α->Bool}{l:List α} (L:Nat->Int->Option (Fl Bool Unit)) (hb:l.length<=1073741824)
  (h1:∀ (k i:Nat) (h:i<l.length),L (k+1) (i:Int)=if p l[i] then L k (((i+1:Nat)):Int) else some (.ret false)) (h2:∀ k,L (k+1) (l.length:Int)=some (.go ())) :
  ∀ (k i:Nat),l.length - i<k->i<=l.length->L k (i:Int)=some (zNW p (l.drop i))
 | 0,_,h,_=>by omega
 | k+1,i,hk,hi=>by
  by_cases h:i<l.length
  ·rw[h1 k i h,zHw L hb h1 h2 k (i+1) (by omega) (by omega)]
   unfold zNW;rw[zV0 h]
   cases p l[i] <;> simp
  ·obtain rfl:i=l.length :=(by omega);rw[h2]; simp[zNW]
theorem zPM {α:Type}{p:α->Bool}{l:List α} (L:Nat->Int->Option (Fl Bool Unit)) (hb:l.length<=1073741824)
  (h1:∀ (k i:Nat) (h:i<l.length),L (k+1) (i:Int)=if p l[i] then some (.ret true) else L k (((i+1:Nat)):Int)) (h2:∀ k,L (k+1) (l.length:Int)=some (.go ())) :
  ∀ (k i:Nat),l.length - i<k->i<=l.length->L k (i:Int)=some (if (l.drop i).any p then .ret true else .go ())
 | 0,_,h,_=>by omega
 | k+1,i,hk,hi=>by
  by_cases h:i<l.length
  ·rw[h1 k i h,zPM L hb h1 h2 k (i+1) (by omega) (by omega),zV1 h]
   cases p l[i] <;> simp
  ·obtain rfl:i=l.length :=(by omega);rw[h2]; simp
theorem zPe {P:UInt8->Bool} (h:(List.range 256).all (fun n=>P n.toUInt8)=true) (b:UInt8):P b=true:=by
 have:P (UInt8.ofNat b.toNat)=true:=List.all_eq_true.1 h b.toNat (List.mem_range.2 b.toNat_lt)
 rwa [UInt8.ofNat_toNat]at this
def zDv (b:UInt8):Bool:=(decide (97<=b.toNat)&&decide (b.toNat<=122))||(decide (65<=b.toNat)&&decide (b.toNat<=90))
def zDY (b:UInt8):Bool:=decide (48<=b.toNat)&&decide (b.toNat<=57)
def zEQ (b:UInt8):Bool:=decide (32<=b.toNat)&&decide (b.toNat<=126)
theorem zQ7 (b:UInt8):(bif decide ((zKU .or .u8 (b.toNat:Int) 32)<97) then some true else some (decide (122<(zKU .or .u8 (b.toNat:Int) 32))))=some (!zDv b) :=
 of_decide_eq_true (zPe (P:=fun b=>decide ((bif decide ((zKU .or .u8 (b.toNat:Int) 32)<97) then some true else some (decide (122<(zKU .or .u8 (b.toNat:Int) 32))))=some (!zDv b))) (by decide +kernel) b)
theorem zLx (b:UInt8):zEt (b.toNat:Int)=some (zDv b) :=
 of_decide_eq_true (zPe (P:=fun b=>decide (zEt (b.toNat:Int)=some (zDv b))) (by decide +kernel) b)
theorem zSC (b:UInt8):zGd (b.toNat:Int)=some (zDY b) :=
 of_decide_eq_true (zPe (P:=fun b=>decide (zGd (b.toNat:Int)=some (zDY b))) (by decide +kernel) b)
theorem zMZ (n:Nat) (s:List UInt8) (h:s.length<n) (hb:s.length<=1073741824):zDh n s=some (s.all zDv):=by
 have:=zHw (p:=zDv) (l:=s) (zBs s) hb (fun k i h=>by
  rw[zBs,zAO (Int.ofNat_lt.2 h),cond_true,zA7 h]
  simp only[Option.bind_some,zQ7]
  rw[zAR (by omega)]
  cases zDv s[i] <;> rfl) (fun k=>by rw[zBs,zAM (by omega)]; rfl) n 0 (by omega) (by omega)
 rw[show((0:Nat):Int)=0 from rfl,List.drop_zero]at this;rw[zDh,this]
 unfold zNW;cases s.all zDv <;> rfl
theorem zOg (n:Nat) (s:List UInt8) (h:s.length<n) (hb:s.length<=1073741824):zBx s n 0=some (zNW zDv s):=by
 have:=zHw (p:=zDv) (l:=s) (zBx s) hb (fun k i h=>by
  rw[zBx,zAO (Int.ofNat_lt.2 h),cond_true,zA7 h]
  simp only[Option.bind_some,zLx]
  rw[zAR (by omega)]
  cases zDv s[i] <;> rfl) (fun k=>by rw[zBx,zAM (by omega)]; rfl) n 0 (by omega) (by omega)
 rwa [show((0:Nat):Int)=0 from rfl,List.drop_zero]at this
theorem zOY (n:Nat) (s:List UInt8) (c:Int) (h:s.length<n) (hb:s.length<=1073741824):zDB n s c=some (s.any fun b=>(b.toNat:Int) == c):=by
 have:=zPM (p:=fun b=>(b.toNat:Int) == c) (l:=s) (zCU s c) hb (fun k i h=>by
  rw[zCU,zAO (Int.ofNat_lt.2 h),cond_true,zA7 h]
  simp only[Option.bind_some]
  rw[zAR (by omega)]
  cases((s[i].toNat:Int) == c) <;> rfl) (fun k=>by rw[zCU,zAM (by omega)]; rfl) n 0 (by omega) (by omega)
 rw[show((0:Nat):Int)=0 from rfl,List.drop_zero]at this;rw[zDB,this]
 cases s.any fun b=>(b.toNat:Int) == c <;> rfl
theorem zNm (n:Nat) (l:List (List UInt8)) (s:List UInt8) (h:l.length<n) (hb:l.length<=1073741824):zE6 n l s=some (l.any fun e=>e == s):=by
 have:=zPM (p:=fun e=>e == s) (l:=l) (zDA l s) hb (fun k i h=>by
  rw[zDA,zAO (Int.ofNat_lt.2 h),cond_true,zA7 h]
  simp only[Option.bind_some]
  rw[zAR (by omega)]
  cases(l[i] == s) <;> rfl) (fun k=>by rw[zDA,zAM (by omega)]; rfl) n 0 (by omega) (by omega)
 rw[show((0:Nat):Int)=0 from rfl,List.drop_zero]at this;rw[zE6,this]
 cases l.any fun e=>e == s <;> rfl
theorem zGS (n:Nat) (s:List UInt8) (h:s.length<n) (hb:s.length<=1073741824):zDO n s=some (s.all zDY&&!(s == [])):=by
 have:=zHw (p:=zDY) (l:=s) (zBz s) hb (fun k i h=>by
  rw[zBz,zAO (Int.ofNat_lt.2 h),cond_true,zA7 h]
  simp only[Option.bind_some]
  rw[zAR (by omega)]
  unfold zDY
  by_cases a:48<=s[i].toNat
  ·by_cases b:s[i].toNat<=57
   ·simp[a,b,show ¬ ((s[i].toNat:Int)<48) by omega,show ¬ (57<(s[i].toNat:Int)) by omega]
   ·simp[a,b,show ¬ ((s[i].toNat:Int)<48) by omega,show(57<(s[i].toNat:Int)) by omega]
  ·simp[a,show((s[i].toNat:Int)<48) by omega]) (fun k=>by rw[zBz,zAM (by omega)]; rfl) n 0 (by omega) (by omega)
 rw[show((0:Nat):Int)=0 from rfl,List.drop_zero]at this;rw[zDO,this]
 unfold zNW;cases s.all zDY <;> rfl
theorem zNj (b:UInt8):(bif decide ((b.toNat:Int)<32) then some true else some (decide (126<(b.toNat:Int))):Option Bool)=some (!zEQ b):=by
 unfold zEQ
 by_cases a:32<=b.toNat
 ·by_cases c:b.toNat<=126
  ·simp[a,c,show ¬ ((b.toNat:Int)<32) by omega,show ¬ (126<(b.toNat:Int)) by omega]
  ·simp[a,c,show ¬ ((b.toNat:Int)<32) by omega,show(126<(b.toNat:Int)) by omega]
 ·simp[a,show((b.toNat:Int)<32) by omega]
theorem zPR (n:Nat) (s:List UInt8) (h:s.length<n) (hb:s.length<=1073741824):zFg n s=some (s.all zEQ&&decide ((s.length:Int)<=200)):=by
 have:=zHw (p:=zEQ) (l:=s) (zBQ s) hb (fun k i h=>by
  rw[zBQ,zAO (Int.ofNat_lt.2 h),cond_true,zA7 h]
  simp only[Option.bind_some,zNj]
  rw[zAR (by omega)]
  cases zEQ s[i] <;> rfl) (fun k=>by rw[zBQ,zAM (by omega)]; rfl) n 0 (by omega) (by omega)
 rw[show((0:Nat):Int)=0 from rfl,List.drop_zero]at this;rw[zFg,this]
 unfold zNW;cases s.all zEQ <;> rfl
theorem zHQ (n:Nat) (s:List UInt8) (h:s.length<n) (hb:s.length<=1073741824):zCR n s=some (s.all zEQ):=by
 have:=zHw (p:=zEQ) (l:=s) (zBj s) hb (fun k i h=>by
  rw[zBj,zAO (Int.ofNat_lt.2 h),cond_true,zA7 h]
  simp only[Option.bind_some,zNj]
  rw[zAR (by omega)]
  cases zEQ s[i] <;> rfl) (fun k=>by rw[zBj,zAM (by omega)]; rfl) n 0 (by omega) (by omega)
 rw[show((0:Nat):Int)=0 from rfl,List.drop_zero]at this;rw[zCR,this]
 unfold zNW;cases s.all zEQ <;> rfl
def spL:List UInt8:=[43,45,42,47,61,60,62,44,59,58,33,124,39,63,126,64]
def fsL:List UInt8:=[40,41,91,93,123,125,60,62,47,124,46]
def kwL:List (List UInt8):=[[102,114,97,99],[114,111,111,116],[109,97,116,114,105,120],[102,101,110,99,101]]
def acL:List (List UInt8):=[[104,97,116],[98,97,114],[118,101,99],[100,111,116],[116,105,108,100,101],[99,104,101,99,107]]
def spB (c:UInt8):Bool:=decide (0<=Lib.indexByte spL c)
def fsB (c:UInt8):Bool:=decide (0<=Lib.indexByte fsL c)
theorem zXh (c:UInt8):(spL.any fun b=>(b.toNat:Int) == (c.toNat:Int))=spB c :=
 of_decide_eq_true (zPe (P:=fun c=>decide ((spL.any fun b=>(b.toNat:Int) == (c.toNat:Int))=spB c)) (by decide +kernel) c)
theorem zXg (c:UInt8):(([40,41,91,93,123,125,124,60,62,47,46]:List UInt8).any fun b=>(b.toNat:Int) == (c.toNat:Int))=fsB c :=
 of_decide_eq_true (zPe (P:=fun c=>decide ((([40,41,91,93,123,125,124,60,62,47,46]:List UInt8).any fun b=>(b.toNat:Int) == (c.toNat:Int))=fsB c)) (by decide +kernel) c)
theorem zV4 (c:UInt8):Lib.indexByte fsL ((c.toNat:Int).toNat.toUInt8)=Lib.indexByte fsL c:=by
 rw[Int.toNat_natCast]; congr 1; exact UInt8.ofNat_toNat
theorem zNX (e s:List UInt8):(e == s)=(s == e):=by
 rw[Bool.eq_iff_iff]; simp only[beq_iff_eq]; exact eq_comm
theorem zMY (s:List UInt8):zD7 s=some (kwL.any fun e=>e == s):=by
 simp only[zD7,kwL,List.any_cons,List.any_nil,zNX [102,114,97,99] s,zNX [114,111,111,116] s,zNX [109,97,116,114,105,120] s,zNX [102,101,110,99,101] s]
 generalize (s == [102,114,97,99])=b1;generalize (s == [114,111,111,116])=b2;generalize (s == [109,97,116,114,105,120])=b3;generalize (s == [102,101,110,99,101])=b4;cases b1 <;> cases b2 <;> cases b3 <;> cases b4 <;> rfl
theorem zJp (s:List UInt8):zDN s=some (acL.any fun e=>e == s):=by
 simp only[zDN,acL,List.any_cons,List.any_nil,zNX [104,97,116] s,zNX [98,97,114] s,zNX [118,101,99] s,zNX [100,111,116] s,zNX [116,105,108,100,101] s,zNX [99,104,101,99,107] s]
 generalize (s == [104,97,116])=b1;generalize (s == [98,97,114])=b2;generalize (s == [118,101,99])=b3;generalize (s == [100,111,116])=b4;generalize (s == [116,105,108,100,101])=b5;generalize (s == [99,104,101,99,107])=b6;cases b1 <;> cases b2 <;> cases b3 <;> cases b4 <;> cases b5 <;> cases b6 <;> rfl
def symB (s:List UInt8):Bool :=
 if s.length=1 then s.all zDv||s.all spB
 else s.all zDv&&(decide (2<=s.length)&&(decide (s.length<=16)&&(!(kwL.any fun e=>e == s)&&!(acL.any fun e=>e == s))))
theorem len1 (s:List UInt8):((s.length:Int) == 1)=decide (s.length=1):=by
 by_cases h:s.length=1
 ·simp[h]
 ·rw[zAM h]
  cases e:((s.length:Int) == 1) with
  | false=>rfl
  | true=>have:=eq_of_beq e; omega
theorem zF3 (a b:Nat):decide ((a:Int)<=(b:Int))=decide (a<=b):=by
 by_cases h:a<=b
 ·rw[zAO h,zAO (by omega)]
 ·rw[zAM h,zAM (by omega)]
theorem zUV (a b:Nat):decide ((a:Int)<(b:Int))=decide (a<b):=by
 by_cases h:a<b
 ·rw[zAO h,zAO (by omega)]
 ·rw[zAM h,zAM (by omega)]
theorem zN1 (n:Nat) (s:List UInt8) (h:s.length+40<n) (hb:s.length<=1073741824):zEE n s=some (symB s):=by
 rw[zEE,len1,zMZ n s (by omega) hb]
 unfold symB
 by_cases h1:s.length=1
 ·rw[zAO h1,if_pos h1]
  obtain⟨c,rfl⟩:=List.length_eq_one_iff.1 h1;have:zEH [43,45,42,47,61,60,62,44,59,58,33,124,39,63,126,64] [c]=some (spB c):=rfl;simp only[cond_true,Option.bind_some,this,List.all_cons,List.all_nil,Bool.and_true]
  cases zDv c <;> rfl
 ·rw[zAM h1,if_neg h1]
  have e2:=zF3 2 s.length;have e16:=zF3 s.length 16;rw[show((2:Nat):Int)=2 from rfl]at e2;rw[show((16:Nat):Int)=16 from rfl]at e16;simp only[cond_false,Option.bind_some,zMY,zJp,e2,e16]
  cases s.all zDv <;> cases decide (2<=s.length) <;> cases decide (s.length<=16) <;> cases(kwL.any fun e=>e == s) <;> rfl
theorem zQg (n:Nat) (s:List UInt8) (h:s.length+40<n) (hb:s.length<=1073741824):zFi n s=some (symB s):=by
 rw[zFi,len1,zOg n s (by omega) hb]
 unfold symB
 by_cases h1:s.length=1
 ·rw[zAO h1,if_pos h1]
  obtain⟨c,rfl⟩:=List.length_eq_one_iff.1 h1;have e1:at? [c] (0:Int)=some c:=rfl;have e2:zDB n [43,45,42,47,61,60,62,44,59,58,33,124,39,63,126,64] (c.toNat:Int)=some (spB c):=by
   rw[zOY n _ _ (by simp only[List.length_cons,List.length_nil]; omega) (by simp only[List.length_cons,List.length_nil]; omega)]
   exact congrArg some (zXh c)
  simp only[cond_true,Option.bind_some,e1,zEG,zLx,e2,List.all_cons,List.all_nil,Bool.and_true]
  cases zDv c <;> rfl
 ·rw[zAM h1,if_neg h1]
  have e2:=zF3 2 s.length;have e16:=zF3 s.length 16;rw[show((2:Nat):Int)=2 from rfl]at e2;rw[show((16:Nat):Int)=16 from rfl]at e16;have ek:zE6 n kwL s=some (kwL.any fun e=>e == s):=zNm n kwL s (by simp only[kwL,List.length_cons,List.length_nil]; omega) (by simp[kwL])
  have ea:zE6 n acL s=some (acL.any fun e=>e == s):=zNm n acL s (by simp only[acL,List.length_cons,List.length_nil]; omega) (by simp[acL])
  have k1:zE7=some kwL:=rfl;have a1:zDP=some acL:=rfl;unfold zNW;simp only[cond_false,Option.bind_some,k1,a1,ek,ea,e2,e16]
  cases s.all zDv <;> cases decide (2<=s.length) <;> cases decide (s.length<=16) <;> cases(kwL.any fun e=>e == s) <;> rfl
def fenB (s:List UInt8):Bool:=decide (s.length=2)&&s.all fsB
theorem len2 (s:List UInt8):((s.length:Int) == 2)=decide (s.length=2):=by
 by_cases h:s.length=2
 ·simp[h]
 ·rw[zAM h]
  cases e:((s.length:Int) == 2) with
  | false=>rfl
  | true=>have:=eq_of_beq e; omega
theorem zPQ (s:List UInt8):zFf s=some (fenB s):=by
 rw[zFf,len2]
 unfold fenB
 by_cases h1:s.length=2
 ·rw[zAO h1]
  match s,h1 with
  | [c,d],_ =>
   have e0:at? [c,d] (0:Int)=some c:=rfl;have e1:at? [c,d] (1:Int)=some d:=rfl;have f:∀ c:UInt8,zC7 [40,41,91,93,123,125,60,62,47,124,46] (c.toNat:Int)=some (Lib.indexByte fsL c):=fun c=>congrArg some (zV4 c)
   have g:∀ c:UInt8,decide (0<=Lib.indexByte fsL c)=fsB c:=fun c=>rfl
   simp only[cond_true,e0,e1,f,Option.bind_some,g,List.all_cons,List.all_nil,Bool.and_true,Bool.true_and]
   cases fsB c <;> rfl
 ·rw[zAM h1]; rfl
theorem zRX (n:Nat) (s:List UInt8) (h:40<n):(bif ((s.length:Int) == 2) then (
        (at? s 0).bind fun c9 =>
        (zDB n [40,41,91,93,123,125,124,60,62,47,46] (c9.toNat:Int)).bind fun y11 =>
        bif y11 then (
         (at? s 1).bind fun c12 =>
         (zDB n [40,41,91,93,123,125,124,60,62,47,46] (c12.toNat:Int)).bind fun y14 =>
         some y14
        ) else (
         some false
        )
       ) else (
        some false
       ))=some (fenB s):=by
 rw[len2]
 unfold fenB
 by_cases h1:s.length=2
 ·rw[zAO h1]
  match s,h1 with
  | [c,d],_ =>
   have e0:at? [c,d] (0:Int)=some c:=rfl;have e1:at? [c,d] (1:Int)=some d:=rfl;have f:∀ c:UInt8,zDB n [40,41,91,93,123,125,124,60,62,47,46] (c.toNat:Int)=some (fsB c):=fun c=>by
    rw[zOY n _ _ (by simp only[List.length_cons,List.length_nil]; omega) (by simp only[List.length_cons,List.length_nil]; omega)]
    exact congrArg some (zXg c)
   simp only[cond_true,e0,e1,f,Option.bind_some,List.all_cons,List.all_nil,Bool.and_true,Bool.true_and]
   cases fsB c <;> rfl
 ·rw[zAM h1]; rfl
def okL (L:Nat):Nat->List UInt8->Bool
 | _,[]=>true
 | i,c::r=>((c == 46&&(decide (0<i)&&decide (i+1<L)))||zDY c)&&okL L (i+1) r
def numB (s:List UInt8):Bool:=okL s.length 0 s&&(decide (0<s.length)&&(decide (s.length<=20)&&decide (s.count 46<=1)))
theorem zXP (c:UInt8):((c.toNat:Int) == 46)=(c == 46) :=
 of_decide_eq_true (zPe (P:=fun c=>decide (((c.toNat:Int) == 46)=(c == 46))) (by decide +kernel) c)
theorem zXk:zDY 46=false:=by decide
theorem zPS (s:List UInt8) (hb:s.length<=1073741824):∀ (k i p:Nat),s.length - i<k->i<=s.length->p<=i ->
  zCg s k (p:Int) (i:Int)=some (if okL s.length i (s.drop i) then .go ((p+(s.drop i).count 46:Nat):Int) else .ret false)
 | 0,_,_,h,_,_=>by omega
 | k+1,i,p,hk,hi,hp=>by
  unfold zCg
  by_cases h:i<s.length
  ·rw[zAO (Int.ofNat_lt.2 h),cond_true,zA7 h,List.drop_eq_getElem_cons h]
   generalize s[i]=c;simp only[Option.bind_some,zXP,zSC,okL,List.count_cons]
   rw[zAR (by omega),zAR (by omega),wrap64_in (by omega) (by omega)]
   have d1:decide ((0:Int)<(i:Int))=decide (0<i):=zUV 0 i;have d2:decide ((i:Int)<(s.length:Int) - 1)=decide (i+1<s.length):=by
    by_cases h:i+1<s.length
    ·rw[zAO h,zAO (by omega)]
    ·rw[zAM h,zAM (by omega)]
   rw[d1,d2]
   cases e:c == 46 with
   | true =>
    obtain rfl:c=46:=eq_of_beq e;simp only[cond_true,zXk,Bool.true_and,Bool.or_false]
    cases decide (0<i) with
    | false=>rfl
    | true =>
     simp only[cond_true,Option.bind_some,Bool.true_and]
     cases decide (i+1<s.length) with
     | false=>rfl
     | true =>
      simp only[cond_true,Option.bind_some,Bool.true_and]
      rw[zPS s hb k (i+1) (p+1) (by omega) (by omega) (by omega)]
      simp only[if_true]
      rw[show p+1+(s.drop (i+1)).count 46=p+((s.drop (i+1)).count 46+1) by omega]
   | false =>
    simp only[cond_false,Option.bind_some,Bool.false_and,Bool.false_or]
    cases zDY c with
    | false=>rfl
    | true =>
     simp only[Bool.not_true,cond_false,Option.bind_some,Bool.true_and]
     rw[zPS s hb k (i+1) p (by omega) (by omega) (by omega)]
     simp
  ·rw[zAM (by omega),cond_false]
   obtain rfl:i=s.length :=(by omega);simp[okL]
theorem zQf (n:Nat) (s:List UInt8) (h:s.length<n) (hb:s.length<=1073741824):zFh n s=some (numB s):=by
 have:=zPS s hb n 0 0 (by omega) (by omega) (by omega)
 rw[show((0:Nat):Int)=0 from rfl,List.drop_zero]at this;rw[zFh,this]
 unfold numB;have e0:=zUV 0 s.length;have e20:=zF3 s.length 20;have e1:=zF3 (s.count 46) 1;rw[show((0:Nat):Int)=0 from rfl]at e0;rw[show((20:Nat):Int)=20 from rfl]at e20;rw[show((1:Nat):Int)=1 from rfl]at e1;cases okL s.length 0 s with
 | false=>rfl
 | true =>
  simp only[if_true,Option.bind_some,e0,e20,Nat.zero_add,e1]
  cases decide (0<s.length) <;> cases decide (s.length<=20) <;> rfl
theorem zRb:∀ s:List UInt8,(s.count 46=0/\Lib.indexByte s 46 = -1)∨∃ a b,s=a++46::b/\a.count 46=0/\Lib.indexByte s 46=(a.length:Int)
 | []=>.inl ⟨rfl,rfl⟩
 | c::s=>by
  by_cases h:c=46
  ·subst h;exact .inr ⟨[],s,rfl,rfl,by simp[Lib.indexByte]⟩
  ·have hc:(c == 46)=false :=(by simpa using h);rcases zRb s with ⟨h1,h2⟩ | ⟨a,b,rfl,h1,h2⟩
   ·exact .inl ⟨by rw[List.count_cons,h1,hc]; rfl,by simp[Lib.indexByte,hc,h2]⟩
   ·refine .inr ⟨c::a,b,rfl,by rw[List.count_cons,h1,hc]; rfl,?_⟩
    have h3:((a.length:Int) == -1)=false:=by
     cases e:((a.length:Int) == -1) with
     | false=>rfl
     | true=>have:=eq_of_beq e; omega
    simp[Lib.indexByte,hc,h2,h3]
theorem zIp (L:Nat):∀ (i:Nat) (a:List UInt8),a.count 46=0->okL L i a=a.all zDY
 | _,[],_=>rfl
 | i,c::a,h=>by
  have hc:(c == 46)=false:=by
   cases e:c == 46 with
   | false=>rfl
   | true=>rw[List.count_cons,e]at h; simp at h
  rw[List.count_cons,hc]at h;rw[okL,hc,zIp L (i+1) a (by simpa using h)]
  simp
theorem zOP (L:Nat):∀ (i:Nat) (a b:List UInt8),okL L i (a++b)=(okL L i a&&okL L (i+a.length) b)
 | _,[],b=>by simp[okL]
 | i,c::a,b=>by
  simp only[List.cons_append,okL,zOP L (i+1) a b,List.length_cons,Bool.and_assoc,show i+1+a.length=i+(a.length+1) by omega]
theorem zPF:∀ a:List UInt8,a.all zDY=true->a.count 46=0
 | [],_=>rfl
 | c::a,h=>by
  simp only[List.all_cons,Bool.and_eq_true]at h;have hc:(c == 46)=false:=by
   cases e:c == 46 with
   | false=>rfl
   | true=>obtain rfl:c=46:=eq_of_beq e; simp[zXk]at h
  rw[List.count_cons,hc,zPF a h.2]; rfl
theorem zXu (a b:List UInt8) (ha:a.count 46=0):numB (a++46::b)=(decide ((a++46::b).length<=20)&&((a.all zDY&&!(a == []))&&(b.all zDY&&!(b == [])))):=by
 unfold numB;have hl:(a++46::b).length=a.length+(b.length+1) :=(by simp);rw[zOP,zIp _ _ a ha,hl]
 simp only[okL,zXk,Bool.or_false,List.count_append,List.count_cons,ha,beq_self_eq_true,Bool.true_and,if_true,Nat.zero_add]
 have e1:decide (0<a.length) = !(a == []) :=(by cases a <;> rfl);have e2:decide (a.length+1<a.length+(b.length+1)) = !(b == []):=by
  cases b with
  | nil=>simp
  | cons c b=>simp
 have e3:decide (0<a.length+(b.length+1))=true:=zAO (by omega)
 rw[e1,e2,e3]
 cases hb:b.all zDY with
 | true =>
  rw[zIp _ _ b (zPF b hb),hb,zPF b hb]
  cases a.all zDY <;> cases a == [] <;> cases b == [] <;> cases decide (a.length+(b.length+1)<=20) <;> rfl
 | false =>
  cases hc:decide (b.count 46+1<=1) with
  | true =>
   have:b.count 46=0 :=(by have:=of_decide_eq_true hc; omega);rw[zIp _ _ b this,hb]
   cases a.all zDY <;> cases a == [] <;> cases b == [] <;> cases decide (a.length+(b.length+1)<=20) <;> rfl
  | false =>
   generalize okL _ _ b=z;cases z <;> cases a.all zDY <;> cases a == [] <;> cases b == [] <;> cases decide (a.length+(b.length+1)<=20) <;> rfl
theorem zVm (s:List UInt8) (h:s.count 46=0):numB s=(decide (s.length<=20)&&(s.all zDY&&!(s == []))):=by
 unfold numB;rw[zIp _ _ s h,h]
 have e1:decide (0<s.length) = !(s == []) :=(by cases s <;> rfl);rw[e1]
 cases s.all zDY <;> cases s == [] <;> cases decide (s.length<=20) <;> rfl
theorem zN0 (n:Nat) (s:List UInt8) (h:s.length<n) (hb:s.length<=1073741824):zDM n s=some (numB s):=by
 have e20:=zF3 s.length 20;rw[show((20:Nat):Int)=20 from rfl]at e20;have hi:zEi s [46]=some (Lib.indexByte s 46):=rfl;rcases zRb s with ⟨h1,h2⟩ | ⟨a,b,rfl,h1,h2⟩
 ·rw[zVm s h1]
  simp only[zDM,zEI,zCS,hi,h2,Option.bind_some,show decide ((0:Int)<=-1)=false from rfl,cond_false,e20,zGS n s h hb]
  cases decide (s.length<=20) <;> cases(s.all zDY&&!(s == [])) <;> rfl
 ·have hl:(a++46::b).length=a.length+(b.length+1) :=(by simp);rw[zXu a b h1]
  have w1:IntKind.i64.wrap ((a.length:Int)+(([46]:List UInt8).length:Int))=((a.length+1:Nat):Int):=zAR (by omega)
  have t1:((a++46::b).take ((a.length:Int)).toNat).drop (0:Int).toNat=a :=(by simp);have t2:((a++46::b).take (((a++46::b).length:Int)).toNat).drop (((a.length+1:Nat):Int)).toNat=b:=by
   rw[Int.toNat_natCast,Int.toNat_natCast,List.take_length,List.drop_append]
   simp
  simp only[zDM,zEI,zCS,hi,h2,Option.bind_some,w1]
  rw[zAO (by omega),cond_true,zCc (by omega),zCc (by omega),t1,t2]
  simp only[Option.bind_some,e20,zGS n a (by omega) (by omega),zGS n b (by omega) (by omega)]
  cases decide ((a++46::b).length<=20) <;> cases(a.all zDY&&!(a == [])) <;> cases(b.all zDY&&!(b == [])) <;> rfl
def Nd.kind:Nd->Int | .mk k _ _ _=>k
def zSb (k:Int) (t:List UInt8):Bool :=
 if k=2 then symB t else if k=3 then numB t else if k=4 then (decide (t.length<=200)&&t.all zEQ) else if k=10 then acL.any (fun e=>e == t) else if k=11 then fenB t else t == []
def zG8 (k c:Int) (m:Int):Bool :=
 if k=12 then decide (1<=c)&&(decide (c<=16)&&(decide (1<=m)&&(decide (m<=256)&&(m.tmod c == 0))))
 else (c == 0)&&(if k=1 then decide (m<=200) else if k=2 then m == 0 else if k=3 then m == 0 else if k=4 then m == 0 else if k=5 then m == 2 else if k=6 then m == 2 else if k=7 then m == 2 else if k=8 then m == 2
  else if k=9 then m == 3 else if k=10 then m == 1 else if k=11 then m == 1 else false)
mutual
def zF8:Nd->Bool
 | .mk k t c ks=>(zSb k t&&zG8 k c (ks.length:Int))&&zEr k ks
def zEr:Int->List Nd->Bool
 | _,[]=>true
 | k,v::vs=>(!((v.kind == 1) == (k == 1))&&zF8 v)&&zEr k vs
end
mutual
def Nd.dep:Nd->Nat
 | .mk _ _ _ ks=>Nd.deps ks+1
def Nd.deps:List Nd->Nat
 | []=>0
 | v::vs=>Nat.max v.dep (Nd.deps vs)
end
theorem zOG {k:Int}{a:List Nd}{i:Nat} (h:i<a.length):zEr k (a.drop i)=((!((a[i].kind == 1) == (k == 1))&&zF8 a[i])&&zEr k (a.drop (i+1))):=by
 rw[List.drop_eq_getElem_cons h]; rfl
theorem zRd {a:List Nd}{i:Nat} (h:i<a.length):Nd.deps (a.drop i)=Nat.max (a[i]).dep (Nd.deps (a.drop (i+1))):=by
 rw[List.drop_eq_getElem_cons h]; rfl
mutual
theorem Nd.dep_cnt:∀ v:Nd,v.dep<=v.cnt
 | .mk _ _ _ ks=>by have:=Nd.deps_cnts ks; simp only[Nd.dep,Nd.cnt]; omega
theorem Nd.deps_cnts:∀ vs:List Nd,Nd.deps vs<=Nd.cnts vs
 | []=>Nat.le_refl _
 | v::vs=>by
  have:=Nd.dep_cnt v; have:=Nd.deps_cnts vs
  simp only[Nd.deps,Nd.cnts]
  exact Nat.max_le.2 ⟨by omega,by omega⟩
end
mutual
theorem Nd.cnt_w:∀ v:Nd,v.cnt<=v.w
 | .mk _ t _ ks=>by have:=Nd.cnts_ws ks; simp only[Nd.cnt,Nd.w]; omega
theorem Nd.cnts_ws:∀ vs:List Nd,Nd.cnts vs<=Nd.ws vs
 | []=>Nat.le_refl _
 | v::vs=>by have:=Nd.cnt_w v; have:=Nd.cnts_ws vs; simp only[Nd.cnts,Nd.ws]; omega
end
theorem zB7 {a b:Int} (h:a ≠ b):(a == b)=false:=by
 cases e:(a == b) with
 | false=>rfl
 | true=>exact absurd (eq_of_beq e) h
theorem zS3 (n:Nat) (k:Int) (t:List UInt8) (c:Int) (ks:List Nd) (h:t.length+40<n) (hb:t.length<=1073741824):zHf n (.mk k t c ks)=some (zSb k t):=by
 have e200:=zF3 t.length 200;rw[show((200:Nat):Int)=200 from rfl]at e200;have ea:zE6 n acL t=some (acL.any fun e=>e == t):=zNm n acL t (by simp only[acL,List.length_cons,List.length_nil]; omega) (by simp[acL])
 have a1:zDP=some acL:=rfl;unfold zHf zSb;dsimp only
 by_cases h2:k=2
 ·subst h2; simp only[beq_self_eq_true,cond_true,zQg n t h hb,Option.bind_some,if_true]
 rw[zB7 h2,if_neg h2,cond_false]
 by_cases h3:k=3
 ·subst h3; simp only[beq_self_eq_true,cond_true,zQf n t (by omega) hb,Option.bind_some,if_true]
 rw[zB7 h3,if_neg h3,cond_false]
 by_cases h4:k=4
 ·subst h4; simp only[beq_self_eq_true,cond_true,zHQ n t (by omega) hb,Option.bind_some,if_true,e200]
  cases decide (t.length<=200) <;> rfl
 rw[zB7 h4,if_neg h4,cond_false]
 by_cases h10:k=10
 ·subst h10; simp only[beq_self_eq_true,cond_true,a1,ea,Option.bind_some,if_true]
 rw[zB7 h10,if_neg h10,cond_false]
 by_cases h11:k=11
 ·subst h11; rw[if_pos rfl,beq_self_eq_true,cond_true,zRX n t (by omega)]; rfl
 rw[zB7 h11,if_neg h11,cond_false]
theorem kinds (k:Int):k=1∨k=2∨k=3∨k=4∨k=5∨k=6∨k=7∨k=8∨k=9∨k=10∨k=11∨k=12∨(k<1∨12<k):=by omega
theorem zS2 (k:Int) (t:List UInt8) (c:Int) (ks:List Nd):zHe (.mk k t c ks)=some (zG8 k c (ks.length:Int)):=by
 unfold zHe;dsimp only;generalize (ks.length:Int)=m;rcases kinds k with rfl | rfl | rfl | rfl | rfl | rfl | rfl | rfl | rfl | rfl | rfl | rfl | h
 ·simp only[bne,zG8]; generalize (c == 0)=z; generalize decide (m<=200)=y; cases z <;> rfl
 ·simp only[bne,zG8]; generalize (c == 0)=z; generalize (m == 0)=y; cases z <;> rfl
 ·simp only[bne,zG8]; generalize (c == 0)=z; generalize (m == 0)=y; cases z <;> rfl
 ·simp only[bne,zG8]; generalize (c == 0)=z; generalize (m == 0)=y; cases z <;> rfl
 ·simp only[bne,zG8]; generalize (c == 0)=z; generalize (m == 2)=y; cases z <;> rfl
 ·simp only[bne,zG8]; generalize (c == 0)=z; generalize (m == 2)=y; cases z <;> rfl
 ·simp only[bne,zG8]; generalize (c == 0)=z; generalize (m == 2)=y; cases z <;> rfl
 ·simp only[bne,zG8]; generalize (c == 0)=z; generalize (m == 2)=y; cases z <;> rfl
 ·simp only[bne,zG8]; generalize (c == 0)=z; generalize (m == 3)=y; cases z <;> rfl
 ·simp only[bne,zG8]; generalize (c == 0)=z; generalize (m == 1)=y; cases z <;> rfl
 ·simp only[bne,zG8]; generalize (c == 0)=z; generalize (m == 1)=y; cases z <;> rfl
 ·unfold zG8;rw[if_pos rfl,beq_self_eq_true,cond_true]
  by_cases h1:1<=c
  ·rw[zAO h1,zCc (by omega)]
   generalize (m.tmod c == 0)=y;cases decide (c<=16) <;> cases decide (1<=m) <;> cases decide (m<=256) <;> rfl
  ·rw[zAM h1]; rfl
 ·have e:∀ i:Int,1<=i->i<=12->(k == i)=false:=fun i h1 h2=>zB7 (by omega)
  have f:∀ i:Int,1<=i->i<=12->k ≠ i:=fun i h1 h2=>by omega
  unfold zG8;rw[if_neg (f 12 (by decide) (by decide)),if_neg (f 1 (by decide) (by decide)),if_neg (f 2 (by decide) (by decide)),if_neg (f 3 (by decide) (by decide)),if_neg (f 4 (by decide) (by decide)),if_neg (f 5 (by decide) (by decide)),
   if_neg (f 6 (by decide) (by decide)),if_neg (f 7 (by decide) (by decide)),if_neg (f 8 (by decide) (by decide)),if_neg (f 9 (by decide) (by decide)),if_neg (f 10 (by decide) (by decide)),if_neg (f 11 (by decide) (by decide))]
  rw[e 12 (by decide) (by decide),e 1 (by decide) (by decide),e 2 (by decide) (by decide),e 3 (by decide) (by decide),e 4 (by decide) (by decide),e 5 (by decide) (by decide),
   e 6 (by decide) (by decide),e 7 (by decide) (by decide),e 8 (by decide) (by decide),e 9 (by decide) (by decide),e 10 (by decide) (by decide),e 11 (by decide) (by decide)]
  cases(c == 0) <;> cases(c != 0) <;> rfl
theorem zXX (n:Nat) (x:Int) (k:Int) (t:List UInt8) (c:Int) (ks:List Nd) (h:t.length+40<n) (hb:t.length<=1073741824) :
  zCy n ((),x) (.mk k t c ks)=some (zSb k t&&zG8 k c (ks.length:Int),((),x)):=by
 have e200:=zF3 t.length 200;rw[show((200:Nat):Int)=200 from rfl]at e200;unfold zCy;dsimp only;generalize (ks.length:Int)=m;have em:zB5 t=some (t == []):=rfl;rcases kinds k with rfl | rfl | rfl | rfl | rfl | rfl | rfl | rfl | rfl | rfl | rfl | rfl | h
 ·simp only[em]
  show _=some ((t == [])&&((c == 0)&&decide (m<=200)),((),x))
  cases t == [] <;> cases c == 0 <;> rfl
 ·simp only[zN1 n t h hb]
  show _=some (symB t&&((c == 0)&&(m == 0)),((),x))
  cases symB t <;> cases c == 0 <;> rfl
 ·simp only[zN0 n t (by omega) hb]
  show _=some (numB t&&((c == 0)&&(m == 0)),((),x))
  cases numB t <;> cases c == 0 <;> rfl
 ·simp only[zPR n t (by omega) hb,e200]
  show _=some ((decide (t.length<=200)&&t.all zEQ)&&((c == 0)&&(m == 0)),((),x))
  cases decide (t.length<=200) <;> cases t.all zEQ <;> cases c == 0 <;> rfl
 ·simp only[em]
  show _=some ((t == [])&&((c == 0)&&(m == 2)),((),x))
  cases t == [] <;> cases c == 0 <;> rfl
 ·simp only[em]
  show _=some ((t == [])&&((c == 0)&&(m == 2)),((),x))
  cases t == [] <;> cases c == 0 <;> rfl
 ·simp only[em]
  show _=some ((t == [])&&((c == 0)&&(m == 2)),((),x))
  cases t == [] <;> cases c == 0 <;> rfl
 ·simp only[em]
  show _=some ((t == [])&&((c == 0)&&(m == 2)),((),x))
  cases t == [] <;> cases c == 0 <;> rfl
 ·simp only[em]
  show _=some ((t == [])&&((c == 0)&&(m == 3)),((),x))
  cases t == [] <;> cases c == 0 <;> rfl
 ·simp only[zJp]
  show _=some ((acL.any fun e=>e == t)&&((c == 0)&&(m == 1)),((),x))
  cases(acL.any fun e=>e == t) <;> cases c == 0 <;> rfl
 ·simp only[zPQ]
  show _=some (fenB t&&((c == 0)&&(m == 1)),((),x))
  cases fenB t <;> cases c == 0 <;> rfl
 ·simp only[em]
  show _=some ((t == [])&&(decide (1<=c)&&(decide (c<=16)&&(decide (1<=m)&&(decide (m<=256)&&(m.tmod c == 0))))),((),x))
  by_cases h1:1<=c
  ·rw[zAO h1,zCc (by omega)]
   generalize (m.tmod c == 0)=y;cases t == [] <;> cases decide (c<=16) <;> cases decide (1<=m) <;> cases decide (m<=256) <;> rfl
  ·rw[zAM h1]
   cases t == [] <;> rfl
 ·have f:∀ i:Int,1<=i->i<=12->k ≠ i:=fun i h1 h2=>by omega
  have hk:zG8 k c m=false:=by
   unfold zG8;rw[if_neg (f 12 (by decide) (by decide)),if_neg (f 1 (by decide) (by decide)),if_neg (f 2 (by decide) (by decide)),if_neg (f 3 (by decide) (by decide)),if_neg (f 4 (by decide) (by decide)),if_neg (f 5 (by decide) (by decide)),
    if_neg (f 6 (by decide) (by decide)),if_neg (f 7 (by decide) (by decide)),if_neg (f 8 (by decide) (by decide)),if_neg (f 9 (by decide) (by decide)),if_neg (f 10 (by decide) (by decide)),if_neg (f 11 (by decide) (by decide))]
   exact Bool.and_false _
  rw[hk,Bool.and_false]
  by_cases h1:k<1
  ·rw[zAO h1]; rfl
  ·rw[zAM h1,zAO (show 12<k by omega)]; rfl
theorem zKB {F:Nd->Option Bool}{k:Int}{ks:List Nd} (hF:∀ v∈ks,F v=some (zF8 v)) (hl:ks.length<=1073741824) :
  ∀ (q i:Nat),ks.length - i<q->i<=ks.length->zC5 F k ks q (i:Int)=some (if zEr k (ks.drop i) then .go () else .ret false)
 | 0,_,h,_=>by omega
 | q+1,i,hq,hi=>by
  unfold zC5
  by_cases h:i<ks.length
  ·rw[zAO (Int.ofNat_lt.2 h),cond_true,zA7 h]
   have hf:=hF _ (List.getElem_mem h)
   have g1:=zOG (k:=k) h;rcases e:ks[i] with ⟨a,b,c,d⟩
   rw[e]at hf g1;simp only[Nd.kind]at g1;generalize zEr k (ks.drop i)=g at g1 ⊢;subst g1;simp only[Option.bind_some,hf]
   rw[zAR (by omega),zKB hF hl q (i+1) (by omega) (by omega)]
   cases((a == 1) == (k == 1)) <;> cases zF8 (Nd.mk a b c d) <;> simp
  ·rw[zAM (by omega),cond_false]
   obtain rfl:i=ks.length :=(by omega);simp[zEr]
theorem zNn:∀ (n:Nat) (t:Nd),t.w+45<n->t.w<=1073741824->zDQ n t=some (zF8 t)
 | 0,_,h,_=>by omega
 | n+1,.mk k t c ks,h,hb=>by
  simp only[Nd.w]at h hb;have hl:=Nd.ws_len ks;unfold zDQ;rw[zS3 n k t c ks (by omega) (by omega),zS2]
  have:=zKB (F:=zDQ n) (k:=k) (ks:=ks) (fun v hv=>zNn n v (by have:=Nd.w_mem hv; omega) (by have:=Nd.w_mem hv; omega)) (by omega) n 0 (by omega) (by omega)
  rw[show((0:Nat):Int)=0 from rfl,List.drop_zero]at this;simp only[Option.bind_some,this,zF8]
  cases zSb k t <;> cases zG8 k c (ks.length:Int) <;> cases zEr k ks <;> rfl
theorem zJv {F:Nd->Option Int}{ks:List Nd} (hF:∀ v∈ks,F v=some (v.dep:Int)) (hl:ks.length<=1073741824) :
  ∀ (q i o:Nat),ks.length - i<q->i<=ks.length->zCF F ks q (o:Int) (i:Int)=some ((Nat.max o (Nd.deps (ks.drop i)):Nat):Int)
 | 0,_,_,h,_=>by omega
 | q+1,i,o,hq,hi=>by
  unfold zCF
  by_cases h:i<ks.length
  ·rw[zAO (Int.ofNat_lt.2 h),cond_true,zA7 h,zRd h]
   have hf:=hF _ (List.getElem_mem h)
   rcases e:ks[i] with ⟨a,b,c,d⟩
   rw[e]at hf;simp only[Option.bind_some,hf]
   have hm:(if (o:Int)<((Nd.mk a b c d).dep:Int) then ((Nd.mk a b c d).dep:Int) else (o:Int))=((Nat.max o (Nd.mk a b c d).dep:Nat):Int):=by
    by_cases g:(o:Int)<((Nd.mk a b c d).dep:Int)
    ·rw[if_pos g]; congr 1; exact(Nat.max_eq_right (by omega)).symm
    ·rw[if_neg g]; congr 1; exact(Nat.max_eq_left (by omega)).symm
   rw[zAR (by omega),hm,zJv hF hl q (i+1) _ (by omega) (by omega)]
   congr 2
   exact Nat.max_assoc _ _ _
  ·rw[zAM (by omega),cond_false]
   obtain rfl:i=ks.length :=(by omega);rw[List.drop_length]
   congr 2
   exact(Nat.max_eq_left (Nat.zero_le _)).symm
theorem zLF:∀ (n:Nat) (t:Nd),t.cnt<n->t.cnt<=67108864->zC3 n t=some (t.dep:Int)
 | 0,_,h,_=>by omega
 | n+1,.mk k t c ks,h,hb=>by
  simp only[Nd.cnt]at h hb;have hl:=Nd.cnts_len ks;have hd:=Nd.deps_cnts ks;unfold zC3;have:=zJv (F:=zC3 n) (ks:=ks) (fun v hv=>zLF n v (by have:=Nd.cnts_mem hv; omega) (by have:=Nd.cnts_mem hv; omega)) (by omega) n 0 0 (by omega) (by omega)
  rw[show((0:Nat):Int)=0 from rfl,List.drop_zero]at this;rw[this,Option.bind_some,show Nat.max 0 (Nd.deps ks)=Nd.deps ks from Nat.max_eq_right (Nat.zero_le _),zAR (by omega)]
  rfl
def zAJ (t:Nd):Bool:=(t.kind == 1)&&(zF8 t&&(decide (t.cnt<=1000)&&decide (t.dep<=24)))
theorem zEv (n:Nat) (t:Nd) (h:t.w+45<n) (hb:t.w<=67108864):zBh n t=some (zAJ t):=by
 have hc:=Nd.cnt_w t;have e1:=zNn n t h (by omega)
 have e2:=zLE n t (by omega) (by omega)
 have e3:=zLF n t (by omega) (by omega)
 have e4:=zF3 t.cnt 1000;rw[show((1000:Nat):Int)=1000 from rfl]at e4;have e5:=zF3 t.dep 24;rw[show((24:Nat):Int)=24 from rfl]at e5;obtain⟨k,s,c,ks⟩:=t;unfold zBh zAJ;simp only[e1,e2,e3,Option.bind_some,e4,e5,Nd.kind]
 cases k == 1 <;> cases zF8 (.mk k s c ks) <;> cases decide ((Nd.mk k s c ks).cnt<=1000) <;> rfl
abbrev okN (t:Nd) (x d:Nat):Prop:=zF8 t=true/\x+t.cnt<=1000/\d+t.dep<=25
abbrev okNs (k:Int) (vs:List Nd) (x d:Nat):Prop:=zEr k vs=true/\x+Nd.cnts vs<=1000/\d+Nd.deps vs<=24
theorem zOD {F:(Unit×Int)->Nd->Int->Option (Bool×(Unit×Int))}{k:Int}{ks:List Nd}{d:Nat} (hd:d<=24)
  (hF:∀ v∈ks,∀ x:Nat,x<=1000->∃ y,F ((),(x:Int)) v ((d+1:Nat):Int)=some (decide (okN v x (d+1)),((),y))/\(okN v x (d+1)->y=((x+v.cnt:Nat):Int))) (hl:ks.length<=1073741824) :
  ∀ (q i x:Nat),ks.length - i<q->i<=ks.length->x<=1000 ->
   (okNs k (ks.drop i) x d/\zAY F k ks (d:Int) q (x:Int) (i:Int)=some (.go ((x+Nd.cnts (ks.drop i):Nat):Int))) ∨
   (¬ okNs k (ks.drop i) x d/\∃ z,zAY F k ks (d:Int) q (x:Int) (i:Int)=some (.ret (false,((),z))))
 | 0,_,_,h,_,_=>by omega
 | q+1,i,x,hq,hi,hx=>by
  unfold zAY
  by_cases h:i<ks.length
  ·rw[zAO (Int.ofNat_lt.2 h),cond_true,zA7 h]
   obtain⟨y,hf,hy⟩:=hF _ (List.getElem_mem h) x hx;have g1:=zOG (k:=k) h;have g2:=Nd.cnts_drop h;have g3:=zRd h;rcases e:ks[i] with ⟨a,b,c,ds⟩
   rw[e]at hf hy g1 g2 g3;simp only[Option.bind_some]
   rw[zAR (by omega),zAR (by omega),hf]
   simp only[Option.bind_some]
   have g4:Nd.deps (ks.drop i)=Nat.max (Nd.mk a b c ds).dep (Nd.deps (ks.drop (i+1))):=g3;have g5:(Nd.mk a b c ds).dep<=Nd.deps (ks.drop i) :=(by rw[g4]; exact Nat.le_max_left _ _);have g6:Nd.deps (ks.drop (i+1))<=Nd.deps (ks.drop i) :=(by rw[g4]; exact Nat.le_max_right _ _);rw[show((k == 1) == (a == 1))=((a == 1) == (k == 1)) by cases k == 1 <;> cases a == 1 <;> rfl]
   cases hkk:((a == 1) == (k == 1)) with
   | true =>
    simp only[cond_true,Option.bind_some]
    refine .inr ⟨fun⟨h1,_⟩=>?_,_,rfl⟩
    rw[g1]at h1;simp[Nd.kind,hkk]at h1
   | false =>
    simp only[cond_false,Option.bind_some]
    by_cases hok:okN (Nd.mk a b c ds) x (d+1)
    ·rw[zAO hok]
     simp only[Bool.not_true,cond_false]
     rw[hy hok]
     have hp:=(Nd.mk a b c ds).cnt_pos;rcases zOD hd hF hl q (i+1) (x+(Nd.mk a b c ds).cnt) (by omega) (by omega) hok.2.1 with ⟨hr,hr2⟩ | ⟨hr,z,hr2⟩
     ·refine .inl ⟨⟨?_,?_,?_⟩,?_⟩
      ·rw[g1,hr.1,hok.1]; simp[Nd.kind,hkk]
      ·have:=hr.2.1; omega
      ·have:=hr.2.2;have:=hok.2.2;have:Nd.deps (ks.drop i)<=24 - d:=by rw[g4]; exact Nat.max_le.2 ⟨by omega,by omega⟩
       omega
      ·rw[hr2,g2]; congr 3; omega
     ·refine .inr ⟨fun⟨h1,h2,h3⟩=>hr ⟨?_,by omega,by omega⟩,z,hr2⟩
      rw[g1]at h1;simp only[Bool.and_eq_true]at h1;exact h1.2
    ·rw[zAM hok]
     simp only[Bool.not_false,cond_true]
     refine .inr ⟨fun⟨h1,h2,h3⟩=>hok ⟨?_,by omega,by omega⟩,y,rfl⟩
     rw[g1]at h1;simp only[Bool.and_eq_true]at h1;exact h1.1.2
  ·rw[zAM (by omega),cond_false]
   obtain rfl:i=ks.length :=(by omega);rw[List.drop_length]
   exact .inl ⟨⟨rfl,hx,hd⟩,rfl⟩
theorem zTl:∀ (n:Nat) (t:Nd) (x d:Nat),t.w+45<n->t.w<=67108864->x<=1000->d<=25 ->
  ∃ y,zA4 n ((),(x:Int)) t (d:Int)=some (decide (okN t x d),((),y))/\(okN t x d->y=((x+t.cnt:Nat):Int))
 | 0,_,_,_,h,_,_,_=>by omega
 | n+1,.mk k t c ks,x,d,h,hb,hx,hd=>by
  simp only[Nd.w]at h hb;have hl:=Nd.ws_len ks;unfold zA4;rw[zAR (by omega)]
  by_cases h1:1000<((x+1:Nat):Int)
  ·rw[zAO h1]
   simp only[cond_true,Option.bind_some]
   have hn:¬ okN (.mk k t c ks) x d:=fun⟨_,h2,_⟩=>by simp only[Nd.cnt]at h2; omega
   exact⟨_,by rw[zAM hn],fun h=>absurd h hn⟩
  ·rw[zAM h1,cond_false]
   by_cases h2:24<(d:Int)
   ·rw[zAO h2]
    simp only[cond_true,Option.bind_some]
    have hn:¬ okN (.mk k t c ks) x d:=fun⟨_,_,h2⟩=>by simp only[Nd.dep]at h2; omega
    exact⟨_,by rw[zAM hn],fun h=>absurd h hn⟩
   ·rw[zAM h2,cond_false,zXX n _ k t c ks (by omega) (by omega)]
    simp only[Option.bind_some]
    cases ho:(zSb k t&&zG8 k c (ks.length:Int)) with
    | false =>
     simp only[Bool.not_false,cond_true]
     have hn:¬ okN (.mk k t c ks) x d:=fun⟨h1,_⟩=>by rw[zF8,ho]at h1; cases h1
     exact⟨_,by rw[zAM hn],fun h=>absurd h hn⟩
    | true =>
     simp only[Bool.not_true,cond_false]
     have:=zOD (F:=zA4 n) (k:=k) (ks:=ks) (d:=d) (by omega) (fun v hv z hz=>zTl n v z (d+1) (by have:=Nd.w_mem hv; omega) (by have:=Nd.w_mem hv; omega) hz (by omega)) (by omega) n 0 (x+1) (by omega) (by omega) (by omega)
     rw[show((0:Nat):Int)=0 from rfl,List.drop_zero]at this;rcases this with ⟨hr,hr2⟩ | ⟨hr,z,hr2⟩
     ·have hy:okN (.mk k t c ks) x d:=⟨by rw[zF8,ho,hr.1]; rfl,by have:=hr.2.1; simp only[Nd.cnt]; omega,by have:=hr.2.2; simp only[Nd.dep]; omega⟩
      rw[hr2]
      exact⟨_,by rw[zAO hy]; rfl,fun _=>by simp only[Nd.cnt]; omega⟩
     ·have hn:¬ okN (.mk k t c ks) x d:=fun⟨g1,g2,g3⟩=>hr ⟨by rw[zF8,ho]at g1; exact g1,by simp only[Nd.cnt]at g2; omega,by simp only[Nd.dep]at g3; omega⟩
      rw[hr2]
      exact⟨_,by rw[zAM hn]; rfl,fun h=>absurd h hn⟩
theorem zB3 (n:Nat) (t:Nd) (h:t.w+45<n) (hb:t.w<=67108864):zAX n t=some (zAJ t):=by
 obtain⟨y,h1,_⟩:=zTl n t 0 1 h hb (by omega) (by omega)
 rw[show((0:Nat):Int)=0 from rfl,show((1:Nat):Int)=1 from rfl]at h1;obtain⟨k,s,c,ks⟩:=t;unfold zAX zAJ;have hk:zGw=some ():=rfl;simp only[hk,h1,Option.bind_some,Nd.kind]
 cases k == 1 with
 | false=>rfl
 | true =>
  simp only[cond_true,Option.bind_some,Bool.true_and,Option.some.injEq,okN]
  cases zF8 (.mk k s c ks) with
  | false=>simp
  | true =>
   by_cases g1:(Nd.mk k s c ks).cnt<=1000
   ·by_cases g2:(Nd.mk k s c ks).dep<=24
    ·rw[zAO g1,zAO g2,zAO ⟨rfl,by omega,by omega⟩]; rfl
    ·rw[zAO g1,zAM g2,zAM (fun h=>g2 (by omega))]; rfl
   ·rw[zAM g1,zAM (fun h=>g1 (by omega))]; rfl
def Nd.text:Nd->List UInt8 | .mk _ t _ _=>t
def Nd.cols:Nd->Int | .mk _ _ c _=>c
theorem Nd.cnt_kids:∀ x:Nd,x.cnt=Nd.cnts x.kids+1
 | .mk _ _ _ _=>rfl
def zXM (x y:Nd):Bool:=(x.kind == y.kind)&&(((x.kids.length:Int) == (y.kids.length:Int))&&(x.cols == y.cols))
def rowD (P:Nd->Nd->Nat) (x:Nd) (f:List Nd->Nat):List Nd->Nat
 | []=>x.cnt+f []
 | y::ys=>if zXM x y then min (min (x.cnt+f (y::ys)) (y.cnt+rowD P x f ys)) (P x y+f ys) else min (x.cnt+f (y::ys)) (y.cnt+rowD P x f ys)
def TD (P:Nd->Nd->Nat):List Nd->List Nd->Nat
 | []=>Nd.cnts
 | x::xs=>rowD P x (TD P xs)
def sumD (f:List Nd->List Nd->Nat):List Nd->List Nd->Nat
 | u::us,v::vs=>f u.kids v.kids+sumD f us vs
 | _,_=>0
def txt (x y:Nd):Nat:=bif x.text == y.text then 0 else 1
def PD:Nat->Nd->Nd->Nat
 | 0,_,_=>0
 | n+1,x,y=>txt x y+sumD (TD (PD n)) x.kids y.kids
def D (x y:Nd):Nat:=PD x.cnt x y
theorem zG7 {k:Int}:∀ {a:List Nd}{v:Nd},zEr k a=true->v∈a->zF8 v=true/\((v.kind == 1) == (k == 1))=false
 | u::a,v,h,hm=>by
  simp only[zEr,Bool.and_eq_true,Bool.not_eq_true']at h;rcases List.mem_cons.1 hm with rfl | hm
  ·exact⟨h.1.2,h.1.1⟩
  ·exact zG7 h.2 hm
theorem zTr {u:Nd} (h:zF8 u=true) (hk:u.kind=1):u = .mk 1 [] 0 u.kids/\zEr 1 u.kids=true:=by
 obtain⟨k,t,c,ks⟩:=u;simp only[Nd.kind]at hk;subst hk;simp only[zF8,Bool.and_eq_true]at h;obtain⟨⟨h1,h2⟩,h3⟩:=h;have h1':(t == [])=true:=h1;have h2':((c == 0)&&decide ((ks.length:Int)<=200))=true:=h2;simp only[Bool.and_eq_true]at h2';rw[eq_of_beq h1',eq_of_beq h2'.1]
 exact⟨rfl,h3⟩
theorem zR5 {F:Nd->Nd->Option Bool}{a b:List Nd} (hF:∀ u∈a,∀ v∈b,∃ y,F u v=some y/\(y=true↔u=v)) (hl:a.length=b.length) (hb:a.length<=1073741824) :
  ∀ (q i:Nat),a.length - i<q->i<=a.length->∃ y,zBw F a b q (i:Int)=some (if y then .go () else .ret false)/\(y=true↔a.drop i=b.drop i)
 | 0,_,h,_=>by omega
 | q+1,i,hq,hi=>by
  unfold zBw
  by_cases h:i<a.length
  ·have h':i<b.length :=(by omega);rw[zAO (Int.ofNat_lt.2 h),cond_true,zA7 h,zA7 h']
   obtain⟨y,f1,f2⟩:=hF _ (List.getElem_mem h) _ (List.getElem_mem h')
   have d1:=List.drop_eq_getElem_cons h;have d2:=List.drop_eq_getElem_cons h';rcases e:a[i] with ⟨x1,x2,x3,x4⟩
   rcases e':b[i] with ⟨y1,y2,y3,y4⟩
   rw[e,e']at f1 f2;rw[e]at d1;rw[e']at d2;simp only[Option.bind_some,f1]
   cases y with
   | false =>
    refine⟨false,rfl,⟨(fun h=>by cases h),fun h=>?_⟩⟩
    rw[d1,d2]at h;exact f2.2 (List.cons.inj h).1
   | true =>
    simp only[Bool.not_true,cond_false]
    rw[zAR (by omega)]
    obtain⟨z,g1,g2⟩:=zR5 hF hl hb q (i+1) (by omega) (by omega)
    refine⟨z,g1,?_⟩
    rw[d1,d2,g2,f2.1 rfl]
    simp
  ·rw[zAM (by omega),cond_false]
   obtain rfl:i=a.length :=(by omega);refine⟨true,rfl,?_⟩
   rw[List.drop_length,hl,List.drop_length]
   simp
theorem zJY:∀ N:Nat,(∀ x y:Nd,2 * x.cnt<N->x.cnt<=67108864->∃ r,zBv N x y=some r/\(r=true↔x=y)) /\
  (∀ a b:List Nd,2 * Nd.cnts a+1<N->Nd.cnts a<=67108864->∃ r,zBR N a b=some r/\(r=true↔a=b))
 | 0=>⟨fun _ _ h _=>by omega,fun _ _ h _=>by omega⟩
 | n+1=>by
  obtain⟨ih1,ih2⟩:=zJY n;refine⟨fun x y h hx=>?_,fun a b h ha=>?_⟩
  ·obtain⟨a,b,c,d⟩:=x;obtain⟨a',b',c',d'⟩:=y;simp only[Nd.cnt]at h hx;obtain⟨r,h1,h2⟩:=ih2 d d' (by omega) (by omega)
   unfold zBv;simp only[h1,Option.bind_some]
   cases e1:a == a' with
   | false=>exact⟨false,rfl,⟨(fun h=>by cases h),fun h=>by cases h; simp at e1⟩⟩
   | true =>
    cases e2:b == b' with
    | false=>exact⟨false,rfl,⟨(fun h=>by cases h),fun h=>by cases h; simp at e2⟩⟩
    | true =>
     cases e3:c == c' with
     | false=>exact⟨false,rfl,⟨(fun h=>by cases h),fun h=>by cases h; simp at e3⟩⟩
     | true =>
      refine⟨r,rfl,h2.trans ⟨fun h=>?_,fun h=>by cases h; rfl⟩⟩
      rw[eq_of_beq e1,eq_of_beq e2,eq_of_beq e3,h]
  ·unfold zBR;have l1:=Nd.cnts_len a
   by_cases hl:a.length=b.length
   ·obtain⟨y,g1,g2⟩:=zR5 (F:=zBv n) (a:=a) (b:=b) (fun u hu v _=>ih1 u v (by have:=Nd.cnts_mem hu; omega) (by have:=Nd.cnts_mem hu; omega)) hl (by omega) n 0 (by omega) (by omega)
    rw[show((0:Nat):Int)=0 from rfl]at g1;rw[hl,bne_self_eq_false,cond_false,g1]
    refine⟨y,by cases y <;> rfl,g2⟩
   ·have:((a.length:Int) != (b.length:Int))=true:=by
     unfold bne;rw[zB7 (by omega)]; rfl
    rw[this]
    exact⟨false,rfl,⟨(fun h=>by cases h),fun h=>absurd (congrArg List.length h) hl⟩⟩
theorem zKL {x:Nd} (h:zAJ x=true):x = .mk 1 [] 0 x.kids/\zEr 1 x.kids=true:=by
 unfold zAJ at h;simp only[Bool.and_eq_true]at h;exact zTr h.2.1 (eq_of_beq h.1)
inductive Fd:Nd->List Int->Nd->Prop
 | nil (t:Nd):Fd t [] t
 | step {k:Int} {tx:List UInt8} {c:Int} {ks:List Nd} {i:Nat} {k2:Int} {tx2:List UInt8} {c2:Int} {ks2:List Nd} {s:Nat} {z r:Nd} {p:List Int}
   (hi:ks[i]? = some (.mk k2 tx2 c2 ks2)) (hs:ks2[s]? = some z) (h:Fd z p r):Fd (.mk k tx c ks) ((i:Int)::(s:Int)::p) r
theorem Fd.find {t r:Nd}{p:List Int} (h:Fd t p r):zBE t p=some r:=by
 induction h with
 | nil t=>rw[zBE]
 | @step k tx c ks i k2 tx2 c2 ks2 s z r p hi hs _ ih =>
  have hl:=(List.getElem?_eq_some_iff.1 hi).1;have hl2:=(List.getElem?_eq_some_iff.1 hs).1;rw[zBE,if_pos ⟨by omega,show(i:Int)<(ks.length:Int) by omega⟩]
  simp only[Nd.kids,List.getD_eq_getElem?_getD,Int.toNat_natCast,hi,hs,Option.getD_some]
  rw[if_pos ⟨by omega,show(s:Int)<(ks2.length:Int) by omega⟩]
  exact ih
theorem Fd.of:∀ (N:Nat) (p:List Int) (t r:Nd),p.length<N->zBE t p=some r->Fd t p r
 | 0,p,_,_,h,_=>by omega
 | N+1,[],t,r,_,h=>by
  rw[zBE]at h;cases h;exact .nil t
 | N+1,[_],t,r,_,h=>by
  rw[zBE]at h;cases h
 | N+1,i::s::p,.mk k tx c ks,r,hN,h=>by
  rw[zBE]at h;split at h
  ·rename_i hi
   replace hi:0<=i/\i<ks.length:=hi;obtain⟨i,rfl⟩:=Int.eq_ofNat_of_zero_le hi.1;have hx:ks[i]? = some ks[i]:=List.getElem?_eq_getElem (by omega)
   generalize ks[i]=x at hx;obtain⟨k2,tx2,c2,ks2⟩:=x;simp only[Nd.kids,List.getD_eq_getElem?_getD,Int.toNat_natCast,hx,Option.getD_some]at h;split at h
   ·rename_i hs
    obtain⟨s,rfl⟩:=Int.eq_ofNat_of_zero_le hs.1;have hz:ks2[s]? = some ks2[s]:=List.getElem?_eq_getElem (by omega)
    generalize ks2[s]=z at hz;rw[Int.toNat_natCast,hz,Option.getD_some]at h;exact .step hx hz (Fd.of N p z r (by simp only[List.length_cons]at hN; omega) h)
   ·cases h
  ·cases h
theorem zXn {p:List Int}{t r:Nd} (h:zBE t p=some r):Fd t p r:=Fd.of _ p t r (Nat.lt_succ_self _) h
theorem zIF {t r:Nd}:putL t [] r=r:=by cases t; rw[putL]; intros; contradiction
theorem zE2 {k:Int}{tx:List UInt8}{c:Int}{ks:List Nd}{i:Nat}{k2:Int}{tx2:List UInt8}{c2:Int}{ks2:List Nd}{s:Nat}{z r:Nd}{p:List Int} (hi:ks[i]? = some (.mk k2 tx2 c2 ks2)) (hs:ks2[s]? = some z) :
  putL (.mk k tx c ks) ((i:Int)::(s:Int)::p) r = .mk k tx c (ks.set i (.mk k2 tx2 c2 (ks2.set s (putL z p r)))):=by
 rw[putL,Int.toNat_natCast,hi]
 dsimp only;rw[Int.toNat_natCast,hs]
theorem zNE:∀ {ks:List Nd}{i:Nat}{x y:Nd},ks[i]? = some x->Nd.ws (ks.set i y)+x.w=Nd.ws ks+y.w
 | [],i,x,y,h=>by simp at h
 | v::ks,0,x,y,h=>by
  obtain rfl:v=x :=(by simpa using h);simp only[List.set_cons_zero,Nd.ws]; omega
 | v::ks,i+1,x,y,h=>by
  have:=zNE (ks:=ks) (i:=i) (x:=x) (y:=y) (by simpa using h)
  simp only[List.set_cons_succ,Nd.ws]; omega
theorem Fd.w {t z:Nd}{p:List Int} (h:Fd t p z) (r:Nd):(putL t p r).w+z.w=t.w+r.w:=by
 induction h with
 | nil t=>rw[zIF]; omega
 | @step k tx c ks i k2 tx2 c2 ks2 s z r' p hi hs _ ih =>
  rw[zE2 hi hs]
  have h1:=zNE (y:=.mk k2 tx2 c2 (ks2.set s (putL z p r))) hi;have h2:=zNE (y:=putL z p r) hs;simp only[Nd.w]at *
  omega
theorem zR7 {α:Type}{l:List α}{i:Nat}{x y:α} (h:l[i]? = some x):(l.set i y)[i]? = some y:=by
 rw[List.getElem?_set,if_pos rfl,if_pos (List.getElem?_eq_some_iff.1 h).1]
theorem zL9 {α:Type}{l:List α}{i:Nat}{x y:α} (h:l[i]? = some x):(l.set i y).set i x=l:=by
 refine List.ext_getElem? fun j=>?_
 rw[List.set_set,List.getElem?_set]
 split
 ·rename_i e
  subst e;rw[if_pos (List.getElem?_eq_some_iff.1 h).1,h]
 ·rfl
theorem Fd.put {t z:Nd}{p:List Int} (h:Fd t p z) (r:Nd):Fd (putL t p r) p r:=by
 induction h with
 | nil t=>rw[zIF]; exact .nil r
 | @step k tx c ks i k2 tx2 c2 ks2 s z r' p hi hs _ ih =>
  rw[zE2 hi hs]
  exact .step (zR7 hi) (zR7 hs) ih
theorem Fd.put_put {t z:Nd}{p:List Int} (h:Fd t p z) (r q:Nd):putL (putL t p r) p q=putL t p q:=by
 induction h with
 | nil t=>simp only[zIF]
 | @step k tx c ks i k2 tx2 c2 ks2 s z r' p hi hs _ ih =>
  rw[zE2 hi hs,zE2 hi hs,zE2 (zR7 hi) (zR7 hs),ih]
  simp only[List.set_set]
theorem Fd.put_self {t z:Nd}{p:List Int} (h:Fd t p z):putL t p z=t:=by
 induction h with
 | nil t=>rw[zIF]
 | @step k tx c ks i k2 tx2 c2 ks2 s z r' p hi hs _ ih =>
  rw[zE2 hi hs,ih]
  have e1:ks2.set s z=ks2:=by
   have:=zL9 (y:=z) hs
   rwa [List.set_set]at this
  have e2:ks.set i (.mk k2 tx2 c2 ks2)=ks:=by
   have:=zL9 (y:=.mk k2 tx2 c2 ks2) hi
   rwa [List.set_set]at this
  rw[e1,e2]
theorem Fd.back {t z:Nd}{p:List Int} (h:Fd t p z) (r:Nd):putL (putL t p r) p z=t:=by rw[h.put_put,h.put_self]
theorem zIe:∀ {ks:List Nd}{v:Nd},v∈ks->v.dep<=Nd.deps ks
 | u::ks,v,h=>by
  simp only[Nd.deps]
  rcases List.mem_cons.1 h with rfl | h
  ·exact Nat.le_max_left _ _
  ·exact Nat.le_trans (zIe h) (Nat.le_max_right _ _)
theorem zMO {k:Int}{tx:List UInt8}{c:Int}{ks:List Nd} (h:zF8 (.mk k tx c ks)=true):zEr k ks=true:=by
 simp only[zF8,Bool.and_eq_true]at h;exact h.2
theorem Fd.form {t z:Nd}{p:List Int} (h:Fd t p z) (hf:zF8 t=true) (hk:t.kind=1):zF8 z=true/\z.kind=1:=by
 induction h with
 | nil t=>exact⟨hf,hk⟩
 | @step k tx c ks i k2 tx2 c2 ks2 s z r' p hi hs _ ih =>
  obtain⟨f1,f2⟩:=zG7 (zMO hf) (List.mem_of_getElem? hi)
  obtain⟨g1,g2⟩:=zG7 (zMO f1) (List.mem_of_getElem? hs)
  have hk:k=1:=hk;subst hk;have f3:(k2 == 1)=false :=(by simpa [Nd.kind] using f2);rw[f3]at g2;refine ih g1 ?_;cases e:z.kind == 1 with
  | true=>exact eq_of_beq e
  | false=>rw[e]at g2; cases g2
theorem Fd.small {t z:Nd}{p:List Int} (h:Fd t p z):z.cnt<=t.cnt/\z.dep<=t.dep/\z.w<=t.w:=by
 induction h with
 | nil t=>exact⟨Nat.le_refl _,Nat.le_refl _,Nat.le_refl _⟩
 | @step k tx c ks i k2 tx2 c2 ks2 s z r' p hi hs _ ih =>
  have m1:=Nd.w_mem (List.mem_of_getElem? hi)
  have m2:=Nd.w_mem (List.mem_of_getElem? hs)
  have n1:=Nd.cnts_mem (List.mem_of_getElem? hi)
  have n2:=Nd.cnts_mem (List.mem_of_getElem? hs)
  have d1:=zIe (List.mem_of_getElem? hi)
  have d2:=zIe (List.mem_of_getElem? hs)
  simp only[Nd.w,Nd.cnt,Nd.dep]at *
  omega
theorem Fd.valid {t z:Nd}{p:List Int} (h:Fd t p z) (hv:zAJ t=true):zAJ z=true:=by
 unfold zAJ at hv ⊢;simp only[Bool.and_eq_true,decide_eq_true_eq]at hv ⊢;obtain⟨h1,h2,h3,h4⟩:=hv;obtain⟨f1,f2⟩:=h.form h2 (eq_of_beq h1)
 obtain⟨s1,s2,_⟩:=h.small;exact⟨by rw[f2]; rfl,f1,by omega,by omega⟩
mutual
def posI:List Int->Nat->List Nd->List (List Int)
 | p,i,[]=>[p++[(i:Int)]]
 | p,i,x::xs=>(p++[(i:Int)])::(posX p i x++posI p (i+1) xs)
def posX:List Int->Nat->Nd->List (List Int)
 | p,i,.mk _ _ _ ks=>posS p i 0 ks
def posS:List Int->Nat->Nat->List Nd->List (List Int)
 | _,_,_,[]=>[]
 | p,i,s,u::us=>posU (p++[(i:Int),(s:Int)]) u++posS p i (s+1) us
def posU:List Int->Nd->List (List Int)
 | p,.mk _ _ _ ks=>posI p 0 ks
end
def inL:List Nd->List Int->Prop
 | l,[o]=>0<=o/\o<=(l.length:Int)
 | l,i::s::r=>0<=i/\∃ x,l[i.toNat]? = some x/\0<=s/\∃ u,x.kids[s.toNat]? = some u/\inL u.kids r
 | _,[]=>False
theorem zMQ {l:List Nd}{o:Int}:inL l [o]↔0<=o/\o<=(l.length:Int):=Iff.rfl
theorem zF9 {l:List Nd}{i s:Int}{r:List Int}:inL l (i::s::r)↔0<=i/\∃ x,l[i.toNat]? = some x/\0<=s/\∃ u,x.kids[s.toNat]? = some u/\inL u.kids r:=by
 cases r <;> rfl
mutual
theorem zTz:∀ (p:List Int) (i:Nat) (xs:List Nd) (q:List Int),q∈posI p i xs↔∃ a r,q=p++a::r/\(i:Int)<=a/\inL xs ((a - i)::r)
 | p,i,[],q=>by
  rw[posI,List.mem_singleton]
  constructor
  ·rintro rfl
   exact⟨i,[],rfl,Int.le_refl _,by rw[Int.sub_self]; exact⟨Int.le_refl _,Int.le_refl _⟩⟩
  ·rintro⟨a,r,rfl,h1,h2⟩
   cases r with
   | nil =>
    have:=zMQ.1 h2
    have e:a=i:=by simp at this; omega
    rw[e]
   | cons s r =>
    obtain⟨_,x,h,_⟩:=zF9.1 h2
    simp at h
 | p,i,x::xs,q=>by
  rw[posI,List.mem_cons,List.mem_append,zWg p i x q,zTz p (i+1) xs q]
  constructor
  ·rintro(rfl | ⟨s,r,rfl,h0,u,h1,h2⟩ | ⟨a,r,rfl,h1,h2⟩)
   ·exact⟨i,[],rfl,Int.le_refl _,by rw[Int.sub_self]; exact⟨Int.le_refl _,by simp; omega⟩⟩
   ·refine⟨i,s::r,by simp,Int.le_refl _,?_⟩
    rw[Int.sub_self]
    exact zF9.2 ⟨Int.le_refl _,x,rfl,h0,u,h1,h2⟩
   ·refine⟨a,r,rfl,by omega,?_⟩
    have e:a - (i:Int)=(a - ((i+1:Nat):Int))+1:=by omega
    rw[e]
    cases r with
    | nil =>
     have:=zMQ.1 h2
     exact⟨by omega,by simp; omega⟩
    | cons s r =>
     obtain⟨g0,y,g1,g2⟩:=zF9.1 h2
     refine zF9.2 ⟨by omega,y,?_,g2⟩
     rw[show(a - ((i+1:Nat):Int)+1).toNat=(a - ((i+1:Nat):Int)).toNat+1 by omega]
     simpa using g1
  ·rintro⟨a,r,rfl,h1,h2⟩
   by_cases ha:a=i
   ·subst ha
    rw[Int.sub_self]at h2
    cases r with
    | nil=>exact .inl rfl
    | cons s r =>
     obtain⟨g0,y,g1,g2,u,g3,g4⟩:=zF9.1 h2
     obtain rfl:x=y:=by simpa using g1
     exact .inr (.inl ⟨s,r,by simp,g2,u,g3,g4⟩)
   ·refine .inr (.inr ⟨a,r,rfl,by omega,?_⟩)
    have e:a - (i:Int)=(a - ((i+1:Nat):Int))+1:=by omega
    rw[e]at h2
    cases r with
    | nil =>
     have:=zMQ.1 h2
     exact⟨by omega,by simp at this; omega⟩
    | cons s r =>
     obtain⟨g0,y,g1,g2⟩:=zF9.1 h2
     refine zF9.2 ⟨by omega,y,?_,g2⟩
     rw[show(a - ((i+1:Nat):Int)+1).toNat=(a - ((i+1:Nat):Int)).toNat+1 by omega]at g1
     simpa using g1
theorem zWg:∀ (p:List Int) (i:Nat) (x:Nd) (q:List Int),q∈posX p i x↔∃ s r,q=p++[(i:Int)]++s::r/\0<=s/\∃ u,x.kids[s.toNat]? = some u/\inL u.kids r
 | p,i,.mk k t c ks,q=>by
  rw[posX,zTA p i 0 ks q]
  constructor
  ·rintro⟨s,r,h1,h2,u,h3,h4⟩
   exact⟨s,r,h1,by omega,u,by simpa [Nd.kids] using h3,h4⟩
  ·rintro⟨s,r,h1,h2,u,h3,h4⟩
   exact⟨s,r,h1,by omega,u,by simpa [Nd.kids] using h3,h4⟩
theorem zTA:∀ (p:List Int) (i s:Nat) (us:List Nd) (q:List Int),q∈posS p i s us↔∃ b r,q=p++[(i:Int)]++b::r/\(s:Int)<=b/\∃ u,us[(b - s).toNat]? = some u/\inL u.kids r
 | p,i,s,[],q=>by
  rw[posS]
  constructor
  ·intro h; cases h
  ·rintro⟨b,r,_,_,u,h,_⟩; simp at h
 | p,i,s,u::us,q=>by
  rw[posS,List.mem_append,zTB (p++[(i:Int),(s:Int)]) u q,zTA p i (s+1) us q]
  constructor
  ·rintro(⟨r,rfl,h⟩ | ⟨b,r,rfl,h1,v,h2,h3⟩)
   ·exact⟨s,r,by simp,Int.le_refl _,u,by rw[Int.sub_self]; rfl,h⟩
   ·refine⟨b,r,rfl,by omega,v,?_,h3⟩
    rw[show(b - (s:Int)).toNat=(b - ((s+1:Nat):Int)).toNat+1 by omega]
    simpa using h2
  ·rintro⟨b,r,rfl,h1,v,h2,h3⟩
   by_cases hb:b=s
   ·subst hb
    rw[Int.sub_self]at h2
    obtain rfl:u=v:=by simpa using h2
    exact .inl ⟨r,by simp,h3⟩
   ·refine .inr ⟨b,r,rfl,by omega,v,?_,h3⟩
    rw[show(b - (s:Int)).toNat=(b - ((s+1:Nat):Int)).toNat+1 by omega]at h2
    simpa using h2
theorem zTB:∀ (p:List Int) (u:Nd) (q:List Int),q∈posU p u↔∃ r,q=p++r/\inL u.kids r
 | p,.mk k t c ks,q=>by
  rw[posU,zTz p 0 ks q]
  constructor
  ·rintro⟨a,r,rfl,h1,h2⟩
   exact⟨a::r,rfl,by simpa [Nd.kids] using h2⟩
  ·rintro⟨r,rfl,h⟩
   cases r with
   | nil=>exact h.elim
   | cons a r =>
    refine⟨a,r,rfl,?_,by simpa [Nd.kids] using h⟩
    cases r with
    | nil=>exact(zMQ.1 h).1
    | cons s r=>exact(zF9.1 h).1
end
def posT (t:Nd):List (List Int):=posU [] t
theorem zPN (t:Nd) (q:List Int):q∈posT t↔inL t.kids q:=by
 unfold posT;rw[zTB]
 constructor
 ·rintro⟨r,rfl,h⟩; exact h
 ·intro h; exact⟨q,rfl,h⟩
mutual
theorem zQc:∀ (p:List Int) (i:Nat) (xs:List Nd),(posI p i xs).length<=Nd.cnts xs+1
 | p,i,[]=>by rw[posI]; simp
 | p,i,x::xs=>by
  have h1:=zWr p i x
  have h2:=zQc p (i+1) xs
  rw[posI]
  simp only[List.length_cons,List.length_append,Nd.cnts]
  omega
theorem zWr:∀ (p:List Int) (i:Nat) (x:Nd),(posX p i x).length+1<=x.cnt
 | p,i,.mk k t c ks=>by
  have h:=zTH p i 0 ks
  rw[posX]
  simp only[Nd.cnt]
  omega
theorem zTH:∀ (p:List Int) (i s:Nat) (us:List Nd),(posS p i s us).length<=Nd.cnts us
 | p,i,s,[]=>by rw[posS]; simp
 | p,i,s,u::us=>by
  have h1:=zTI (p++[(i:Int),(s:Int)]) u
  have h2:=zTH p i (s+1) us
  rw[posS]
  simp only[List.length_append,Nd.cnts]
  omega
theorem zTI:∀ (p:List Int) (u:Nd),(posU p u).length<=u.cnt
 | p,.mk k t c ks=>by
  have h:=zQc p 0 ks
  rw[posU]
  simp only[Nd.cnt]
  omega
end
theorem zWq (t:Nd):(posT t).length<=t.cnt:=zTI [] t
theorem zVd:∀ (q:List Int) (l:List Nd),inL l q->q.length<=2 * Nd.deps l+1
 | [],_,h=>h.elim
 | [_],_,_=>by simp
 | i::s::r,l,h=>by
  obtain⟨_,x,h1,_,u,h2,h3⟩:=zF9.1 h;have ih:=zVd r u.kids h3;have d1:=zIe (List.mem_of_getElem? h1)
  have d2:=zIe (List.mem_of_getElem? h2)
  have e1:x.dep=Nd.deps x.kids+1 :=(by cases x; rfl);have e2:u.dep=Nd.deps u.kids+1 :=(by cases u; rfl);simp only[List.length_cons]
  omega
def hd (l:List UInt8) (s:List UInt8):Prop:=∀ b r,l=b::r->b∈s
theorem zOO {F:Nd->Nd->Option Bool}{a b:List Nd} (hF:∀ u∈a,∀ v∈b,∃ y,F u v=some y/\(y=true↔u=v)) (hl:a.length=b.length) (hb:a.length<=1073741824) :
  ∀ (q i:Nat),a.length - i<q->i<=a.length->∃ y,zAP F a b q (i:Int)=some (if y then .go () else .ret false)/\(y=true↔a.drop i=b.drop i)
 | 0,_,h,_=>by omega
 | q+1,i,hq,hi=>by
  unfold zAP
  by_cases h:i<a.length
  ·have h':i<b.length :=(by omega);rw[zAO (Int.ofNat_lt.2 h),cond_true,zA7 h,zA7 h']
   obtain⟨y,f1,f2⟩:=hF _ (List.getElem_mem h) _ (List.getElem_mem h')
   have d1:=List.drop_eq_getElem_cons h;have d2:=List.drop_eq_getElem_cons h';rcases e:a[i] with ⟨x1,x2,x3,x4⟩
   rcases e':b[i] with ⟨y1,y2,y3,y4⟩
   rw[e,e']at f1 f2;rw[e]at d1;rw[e']at d2;simp only[Option.bind_some,f1]
   cases y with
   | false =>
    refine⟨false,rfl,⟨(fun h=>by cases h),fun h=>?_⟩⟩
    rw[d1,d2]at h;exact f2.2 (List.cons.inj h).1
   | true =>
    simp only[Bool.not_true,cond_false]
    rw[zAR (by omega)]
    obtain⟨z,g1,g2⟩:=zOO hF hl hb q (i+1) (by omega) (by omega)
    refine⟨z,g1,?_⟩
    rw[d1,d2,g2,f2.1 rfl]
    simp
  ·rw[zAM (by omega),cond_false]
   obtain rfl:i=a.length :=(by omega);refine⟨true,rfl,?_⟩
   rw[List.drop_length,hl,List.drop_length]
   simp
theorem zHy:∀ N:Nat,(∀ x y:Nd,2 * x.cnt<N->x.cnt<=67108864->∃ r,zB4 N x y=some r/\(r=true↔x=y)) /\
  (∀ a b:List Nd,2 * Nd.cnts a+1<N->Nd.cnts a<=67108864->∃ r,zA2 N a b=some r/\(r=true↔a=b))
 | 0=>⟨fun _ _ h _=>by omega,fun _ _ h _=>by omega⟩
 | n+1=>by
  obtain⟨ih1,ih2⟩:=zHy n;refine⟨fun x y h hx=>?_,fun a b h ha=>?_⟩
  ·obtain⟨a,b,c,d⟩:=x;obtain⟨a',b',c',d'⟩:=y;simp only[Nd.cnt]at h hx;obtain⟨r,h1,h2⟩:=ih2 d d' (by omega) (by omega)
   unfold zB4;simp only[h1,Option.bind_some]
   cases e1:a == a' with
   | false=>exact⟨false,rfl,⟨(fun h=>by cases h),fun h=>by cases h; simp at e1⟩⟩
   | true =>
    cases e2:b == b' with
    | false=>exact⟨false,rfl,⟨(fun h=>by cases h),fun h=>by cases h; simp at e2⟩⟩
    | true =>
     cases e3:c == c' with
     | false=>exact⟨false,rfl,⟨(fun h=>by cases h),fun h=>by cases h; simp at e3⟩⟩
     | true =>
      refine⟨r,rfl,h2.trans ⟨fun h=>?_,fun h=>by cases h; rfl⟩⟩
      rw[eq_of_beq e1,eq_of_beq e2,eq_of_beq e3,h]
  ·unfold zA2;have l1:=Nd.cnts_len a
   by_cases hl:a.length=b.length
   ·obtain⟨y,g1,g2⟩:=zOO (F:=zB4 n) (a:=a) (b:=b) (fun u hu v _=>ih1 u v (by have:=Nd.cnts_mem hu; omega) (by have:=Nd.cnts_mem hu; omega)) hl (by omega) n 0 (by omega) (by omega)
    rw[show((0:Nat):Int)=0 from rfl]at g1;rw[hl,bne_self_eq_false,cond_false,g1]
    refine⟨y,by cases y <;> rfl,g2⟩
   ·have:((a.length:Int) != (b.length:Int))=true:=by
     unfold bne;rw[zB7 (by omega)]; rfl
    rw[this]
    exact⟨false,rfl,⟨(fun h=>by cases h),fun h=>absurd (congrArg List.length h) hl⟩⟩
theorem zLz {n:Nd}{i s:Int}{p:List Int} (h:¬ (0<=i/\i<n.kids.length)):zBE n (i::s::p)=none:=by rw[zBE,if_neg h]
theorem zLA {n x:Nd}{i:Nat}{s:Int}{p:List Int} (hx:n.kids[i]? = some x) (h:¬ (0<=s/\s<x.kids.length)):zBE n ((i:Int)::s::p)=none:=by
 have hl:=(List.getElem?_eq_some_iff.1 hx).1;rw[zBE,if_pos ⟨by omega,by omega⟩]
 simp only[List.getD_eq_getElem?_getD,Int.toNat_natCast,hx,Option.getD_some]
 rw[if_neg h]
theorem zSE {n x z:Nd}{i s:Nat}{p:List Int} (hx:n.kids[i]? = some x) (hz:x.kids[s]? = some z):zBE n ((i:Int)::(s:Int)::p)=zBE z p:=by
 have hl:=(List.getElem?_eq_some_iff.1 hx).1;have hl2:=(List.getElem?_eq_some_iff.1 hz).1;rw[zBE,if_pos ⟨by omega,by omega⟩]
 simp only[List.getD_eq_getElem?_getD,Int.toNat_natCast,hx,hz,Option.getD_some]
 rw[if_pos ⟨by omega,by omega⟩]
theorem zUU {α:Type}{l:List α}{i:Int} (h0:0<=i) (h1:i<(l.length:Int)):∃ p:Nat,i=(p:Int)/\∃ h:p<l.length,at? l i=some l[p]:=by
 obtain⟨p,rfl⟩:=Int.eq_ofNat_of_zero_le h0;exact⟨p,rfl,by omega,zA7 (by omega)⟩
theorem zOF:∀ (k:Nat) (t:Nd) (path:List Int),path.length<k ->
  (zBE t path=none/\∃ r,zB2 k t.kind t.text t.cols t.kids path=some (.ret (r,false))) ∨
  (zBE t path=none/\∃ (r:Nd) (p:List Int),p ≠ []/\zB2 k t.kind t.text t.cols t.kids path=some (.go (p,r.kind,r.text,r.cols,r.kids))) ∨
  ∃ r,zBE t path=some r/\zB2 k t.kind t.text t.cols t.kids path=some (.go ([],r.kind,r.text,r.cols,r.kids))
 | 0,_,_,h=>by omega
 | k+1,t,path,h=>by
  unfold zB2
  match path,h with
  | [],h=>exact .inr (.inr ⟨t,rfl,rfl⟩)
  | [x],h=>exact .inr (.inl ⟨rfl,t,[x],by simp,rfl⟩)
  | x::y::p,h =>
   have e0:at? (x::y::p) (0:Int)=some x:=rfl;have e1:at? (x::y::p) (1:Int)=some y:=rfl;have e2:(((x::y::p).take (((x::y::p).length:Int)).toNat).drop (2:Int).toNat)=p:=by
    rw[Int.toNat_natCast,List.take_length]; rfl
   rw[zAO (by simp only[List.length_cons]; omega),cond_true]
   simp only[e0,e1,Option.bind_some,e2]
   by_cases h1:x<0
   ·rw[zAO h1]; exact .inl ⟨zLz (fun h=>by omega),_,rfl⟩
   ·rw[zAM h1]
    by_cases h2:(t.kids.length:Int)<=x
    ·rw[zAO h2]; exact .inl ⟨zLz (fun h=>by omega),_,rfl⟩
    ·rw[zAM h2]
     obtain⟨i,rfl,hi,hg⟩:=zUU (l:=t.kids) (i:=x) (by omega) (by omega)
     rw[hg]
     have hgi:t.kids[i]? = some t.kids[i]:=List.getElem?_eq_getElem hi;generalize t.kids[i]=e at hgi;obtain⟨x1,x2,x3,x4⟩:=e;simp only[cond_false,Option.bind_some]
     by_cases h3:y<0
     ·rw[zAO h3]; exact .inl ⟨zLA hgi (fun h=>by omega),_,rfl⟩
     ·rw[zAM h3]
      by_cases h4:(x4.length:Int)<=y
      ·rw[zAO h4]; exact .inl ⟨zLA hgi (fun h=>by have:y<x4.length:=h.2; omega),_,rfl⟩
      ·rw[zAM h4]
       obtain⟨j,rfl,hj,hg2⟩:=zUU (l:=x4) (i:=y) (by omega) (by omega)
       rw[hg2]
       have hgj:x4[j]? = some x4[j]:=List.getElem?_eq_getElem hj;generalize x4[j]=f at hgj;obtain⟨y1,y2,y3,y4⟩:=f;simp only[cond_false,Option.bind_some]
       rw[zCc ⟨by omega,by simp only[List.length_cons]; omega,by omega⟩]
       rw[zSE hgi hgj]
       exact zOF k (.mk y1 y2 y3 y4) p (by simp only[List.length_cons]at h; omega)
theorem zS1 (n:Nat) (t:Nd) (path:List Int) (h:path.length<n):∃ r ok,zHd n t path=some (r,ok)/\zBE t path=bif ok then some r else none:=by
 obtain⟨a,b,c,d⟩:=t;unfold zHd;dsimp only;rcases zOF n (.mk a b c d) path h with ⟨h0,r,h1⟩ | ⟨h0,r,p,hp,h1⟩ | ⟨r,h0,h1⟩
 ·simp only[Nd.kind,Nd.text,Nd.cols,Nd.kids]at h1;rw[h1]
  exact⟨r,false,rfl,h0⟩
 ·obtain⟨r1,r2,r3,r4⟩:=r;simp only[Nd.kind,Nd.text,Nd.cols,Nd.kids]at h1;rw[h1]
  refine⟨.mk r1 r2 r3 r4,false,?_,h0⟩
  have:((p.length:Int) == 0)=false:=beq_eq_false_iff_ne.2 fun e=>hp (List.eq_nil_of_length_eq_zero (by omega))
  simp only[Option.bind_some,this]
 ·obtain⟨r1,r2,r3,r4⟩:=r;simp only[Nd.kind,Nd.text,Nd.cols,Nd.kids]at h1;rw[h1]
  exact⟨.mk r1 r2 r3 r4,true,rfl,h0⟩
def rowS (t:Nd) (p:List Int):Nd×Int:=if zAJ t=true then (match zBE t p with | some r=>(r,0) | none=>(zDq,8)) else (zDq,1)
theorem zRl:∀ (N:Nat) (p:List Int) (t r:Nd),p.length<N->zBE t p=some r->r.w<=t.w/\r.cnt<=t.cnt
 | 0,p,_,_,h,_=>by omega
 | N+1,[],t,r,_,h=>by
  rw[zBE]at h;cases h;exact⟨Nat.le_refl _,Nat.le_refl _⟩
 | N+1,[_],t,r,_,h=>by
  rw[zBE]at h;cases h
 | N+1,i::s::p,.mk k tx c ks,r,hN,h=>by
  rw[zBE]at h;split at h
  ·rename_i hi
   replace hi:0<=i/\i<ks.length:=hi;have hi0:i.toNat<ks.length :=(by omega);have hx:ks[i.toNat]? = some ks[i.toNat]:=List.getElem?_eq_getElem hi0;generalize ks[i.toNat]=x at hx;obtain⟨k2,tx2,c2,ks2⟩:=x;simp only[Nd.kids,List.getD_eq_getElem?_getD,hx,Option.getD_some]at h;split at h
   ·rename_i hs
    have hs0:s.toNat<ks2.length :=(by omega);have hz:ks2[s.toNat]? = some ks2[s.toNat]:=List.getElem?_eq_getElem hs0;generalize ks2[s.toNat]=z at hz;rw[hz,Option.getD_some]at h;obtain⟨q1,q2⟩:=zRl N p z r (by simp only[List.length_cons]at hN; omega) h;have m1:=Nd.w_mem (List.mem_of_getElem? hx)
    have m2:=Nd.w_mem (List.mem_of_getElem? hz)
    have n1:=Nd.cnts_mem (List.mem_of_getElem? hx)
    have n2:=Nd.cnts_mem (List.mem_of_getElem? hz)
    simp only[Nd.w,Nd.cnt]at m1 m2 n1 n2 ⊢
    omega
   ·cases h
  ·cases h
theorem zUw (n:Nat) (t:Nd) (p:List Int) (hp:p.length<n) (hv:zBh n t=some (zAJ t)):zIl n t p=some (rowS t p):=by
 obtain⟨r,ok,h1,h2⟩:=zS1 n t p hp;obtain⟨k,tx,c,ks⟩:=t;unfold zIl rowS;dsimp only;rw[hv]
 simp only[Option.bind_some]
 cases hb:zAJ (.mk k tx c ks) with
 | false=>rfl
 | true =>
  rw[h1,h2]
  obtain⟨r1,r2,r3,r4⟩:=r;cases ok <;> rfl
theorem zGK {t:Nd} (h:t.cnt<=1000000000):zAS t=some t:=zCc h
theorem zSL (n:Nat) (t:Nd) (p:List Int) (hv:zAX n t=some (zAJ t)) (hc:t.cnt<=1000000000):zHb n t p=some (rowS t p):=by
 unfold zHb rowS;rw[hv]
 simp only[Option.bind_some]
 split
 ·cases hf:zBE t p with
  | none=>rfl
  | some r =>
   have:=(zRl _ p t r (Nat.lt_succ_self _) hf).2;simp only[zGK (Nat.le_trans this hc),Option.bind_some]
 ·rfl
theorem zMF {α:Type}{l:List α}{i:Nat}{x:α} (h:l[i]? = some x):at? l (i:Int)=some x:=by
 have hl:=(List.getElem?_eq_some_iff.1 h).1;rw[zA7 hl,← List.getElem?_eq_getElem hl,h]
theorem zIG {k:Int}{tx:List UInt8}{c:Int}{ks:List Nd}{i:Nat}{x y:Nd} (hi:ks[i]? = some y) (hl:ks.length<=4294967296):zBN (.mk k tx c ks) (i:Int) x=some (.mk k tx c (ks.set i x)):=by
 obtain⟨x1,x2,x3,x4⟩:=x;obtain⟨y1,y2,y3,y4⟩:=y;unfold zBN;dsimp only;rw[zCc (by simpa using hl),zMF hi]
 simp only[Option.bind_some,Int.toNat_natCast]
def zTf (t:Nd) (p:List Int) (r:Nd):Nd×Int:=if zAJ t=true then (match zBE t p with
 | some _=>if zAJ r=true then (if zAJ (putL t p r)=true then (putL t p r,0) else (zDq,6)) else (zDq,4)
 | none=>(zDq,8)) else (zDq,1)
theorem zRA (n:Nat) (t:Nd) (p:List Int) (r:Nd) (hv:zAX n t=some (zAJ t)) (hr:zAX n r=some (zAJ r)) (hp:∀ z,Fd t p z->zAX n (putL t p r)=some (zAJ (putL t p r))) (hc:t.cnt<=1000000000) (hcr:r.cnt<=1000000000) :
  zEZ n t p r=some (zTf t p r):=by
 unfold zEZ zTf;rw[hv,zGK hc,hr,zGK hcr]
 simp only[Option.bind_some]
 split
 ·cases hf:zBE t p with
  | none=>rfl
  | some z =>
   dsimp only;rw[hp z (zXn hf)]
   simp only[Option.bind_some]
   split
   ·split <;> rfl
   ·rfl
 ·rfl
theorem zWR {t z r:Nd}{p:List Int} (hv:zAJ t=true) (h:zBE t p=some z) (hr:zAJ r=true) (hp:zAJ (putL t p r)=true):zTf t p r=(putL t p r,0):=by unfold zTf; rw[if_pos hv,h]; dsimp only; rw[if_pos hr,if_pos hp]
abbrev Op8:=Int×List Int×Int×Int×List Nd×Int×List UInt8×List UInt8
def Op8.nodes (o:Op8):List Nd:=o.2.2.2.2.1
theorem take3 {α:Type} (l:List α){p q:Nat} (h:p<=q):(l.take p++(l.take q).drop p)++l.drop q=l:=by
 have:l.take p=(l.take q).take p :=(by rw[List.take_take,Nat.min_eq_left h]);rw[this,List.take_append_drop,List.take_append_drop]
theorem zSf (l by':List Nd){p q:Nat} (h:p<=q):Nd.ws ((l.take p++by')++l.drop q)+Nd.ws ((l.take q).drop p)=Nd.ws l+Nd.ws by':=by
 have:=congrArg Nd.ws (take3 l h)
 rw[Nd.ws_append,Nd.ws_append]at this ⊢
 omega
theorem zVP (l by':List Nd) (p q:Nat) (hp:p<=l.length) (hq:q<=l.length) (hl:l.length<=1073741824) (hb:by'.length<=1073741824) :
  zB6 l (p:Int) (q:Int) by'=some ((l.take p++by')++l.drop q):=by
 unfold zB6;dsimp only;have e1:(l.take (p:Int).toNat).drop (0:Int).toNat=l.take p :=(by simp);have e2:(l.take (l.length:Int).toNat).drop (q:Int).toNat=l.drop q :=(by simp);rw[e1,e2,zCc ⟨by omega,by omega,by omega⟩,zCc (by simp; omega),zCc (by simp; omega),zCc ⟨by omega,by omega,by omega⟩,zCc (by simp; omega)]
theorem zSx (t:Nd) (i:Nat) (v:Nd) (h:i<t.kids.length) (hl:t.kids.length<=1073741824):zBN t (i:Int) v=some (.mk t.kind t.text t.cols (t.kids.set i v)):=by
 obtain⟨a,b,c,d⟩:=t;obtain⟨a',b',c',d'⟩:=v;simp only[Nd.kids]at h hl;unfold zBN;simp only;rw[zCc (by simp; omega),zA7 h]
 rcases e:d[i] with ⟨x1,x2,x3,x4⟩
 simp only[Option.bind_some,Int.toNat_natCast,Nd.kind,Nd.text,Nd.cols,Nd.kids]
theorem zRk (t:Nd) (i:Nat) (l:List Nd) (h:i<t.kids.length) (hl:t.kids.length<=1073741824) (hl2:l.length<=1073741824):zDF t (i:Int) l=some (.mk t.kind t.text t.cols (t.kids.set i (.mk 1 [] 0 l))):=by
 have:=zSx t i (.mk 1 [] 0 l) h hl;obtain⟨a,b,c,d⟩:=t;unfold zDF;simp only[zC4,Option.bind_some]
 rw[zCc (by simp; omega),this]
 rfl
theorem zWV {α:Type}{l:List α}{i:Int} (h0:0<=i) (h1:i<(l.length:Int)):∃ p:Nat,i=(p:Int)/\∃ h:p<l.length,at? l i=some l[p]:=by
 obtain⟨p,rfl⟩:=Int.eq_ofNat_of_zero_le h0;exact⟨p,rfl,by omega,zA7 (by omega)⟩
theorem zGB (t:Nd):t.w=t.text.length+Nd.ws t.kids+1:=by cases t; rfl
theorem zW3 (l:List Nd){p q:Nat} (h:p<=q):Nd.ws ((l.take q).drop p)<=Nd.ws l:=by
 have:=zSf l [] h;simp only[Nd.ws]at this; omega
theorem zTc (l:List Nd){p:Nat} (h:p<l.length):(l.take (p+1)).drop p=[l[p]]:=by
 rw[List.take_succ_eq_append_getElem h,List.drop_append_of_le_length (by simp; omega),List.drop_take]
 simp
def splS (l:List Nd) (p q:Nat) (b:List Nd):List Nd:=(l.take p++b)++l.drop q
def segS (l:List Nd) (p q:Nat):List Nd:=(l.take q).drop p
def rowN (l:List Nd):Nd:=.mk 1 [] 0 l
def zHY (v:Nd) (s:Nat) (l:List Nd):Nd:=.mk v.kind v.text v.cols (v.kids.set s (rowN l))
def zUe (k:Int):Bool:=(k == 2)||((k == 3)||((k == 4)||((k == 10)||(k == 11))))
def zDU (k m:Int) (nodes:List Nd):Int:=if k=1 then 0 else if k=2 then nodes.length else if k=3 then m else 1
def zTi (nodes:List Nd) (slot:Int):Prop:=∃ (v:Nd) (s:Nat) (z:Nd),nodes=[v]/\slot=(s:Int)/\zAJ (rowN [v])=true/\v.kids[s]? = some z/\z.kids=[]
def FormP:Op8->Prop
 | (k,_,_,m,nodes,slot,old,text) =>
  ((k=1∨k=2)/\nodes ≠ []/\zAJ (rowN nodes)=true/\m=0/\slot=0/\old=[]/\text=[]) ∨
  ((k=3∨k=4)/\0<=m/\zTi nodes slot/\old=[]/\text=[]) ∨
  (k=5/\old ≠ text/\nodes=[]/\m=0/\slot=0)
inductive Chg (l:List Nd):Op8->List Nd->Int->Prop
 | range {k:Int} {row:List Int} {a m:Int} {nodes:List Nd} {slot:Int} {old text:List UInt8} (h:a<0∨(l.length:Int)<a∨(l.length:Int) - a<zDU k m nodes):Chg l (k,row,a,m,nodes,slot,old,text) [] 2
 | ins {row:List Int} {p:Nat} {m:Int} {nodes:List Nd} {slot:Int} {old text:List UInt8} (h:p<=l.length):Chg l (1,row,(p:Int),m,nodes,slot,old,text) (splS l p p nodes) 0
 | del {row:List Int} {p:Nat} {m:Int} {nodes:List Nd} {slot:Int} {old text:List UInt8} (h:p+nodes.length<=l.length) (he:segS l p (p+nodes.length)=nodes):Chg l (2,row,(p:Int),m,nodes,slot,old,text) (splS l p (p+nodes.length) []) 0
 | del_no {row:List Int} {p:Nat} {m:Int} {nodes:List Nd} {slot:Int} {old text:List UInt8} (h:p+nodes.length<=l.length) (he:segS l p (p+nodes.length) ≠ nodes):Chg l (2,row,(p:Int),m,nodes,slot,old,text) [] 7
 | wrap {row:List Int} {p m:Nat} {v:Nd} {s:Nat} {old text:List UInt8} (h:p+m<=l.length):Chg l (3,row,(p:Int),(m:Int),[v],(s:Int),old,text) (splS l p (p+m) [zHY v s (segS l p (p+m))]) 0
 | unwrap {row:List Int} {p:Nat} {m:Int} {v it z:Nd} {s:Nat} {old text:List UInt8} (h:l[p]? = some it) (hz:it.kids[s]? = some z) (hm:(z.kids.length:Int)=m) (he:it=zHY v s z.kids):Chg l (4,row,(p:Int),m,[v],(s:Int),old,text) (splS l p (p+1) z.kids) 0
 | unwrap_no {row:List Int} {p:Nat} {m:Int} {v it:Nd} {s:Nat} {old text:List UInt8} (h:l[p]? = some it) (hz:∀ z,it.kids[s]? = some z->(z.kids.length:Int)=m->it ≠ zHY v s z.kids):Chg l (4,row,(p:Int),m,[v],(s:Int),old,text) [] 7
 | set {row:List Int} {p:Nat} {m:Int} {nodes:List Nd} {it:Nd} {slot:Int} {old text:List UInt8} (h:l[p]? = some it) (hl:zUe it.kind=true) (he:it.text=old):Chg l (5,row,(p:Int),m,nodes,slot,old,text) (splS l p (p+1) [.mk it.kind text it.cols it.kids]) 0
 | set_no {row:List Int} {p:Nat} {m:Int} {nodes:List Nd} {it:Nd} {slot:Int} {old text:List UInt8} (h:l[p]? = some it) (hl:¬ (zUe it.kind=true/\it.text=old)):Chg l (5,row,(p:Int),m,nodes,slot,old,text) [] 7
inductive App (t:Nd):Op8->Nd->Int->Prop
 | arg {o:Op8} (h:zAJ t=false):App t o zDq 1
 | form {o:Op8} (h:zAJ t=true) (hf:¬ FormP o):App t o zDq 4
 | none {o:Op8} (h:zAJ t=true) (hf:FormP o) (hn:zBE t o.2.1=Option.none):App t o zDq 8
 | chg {o:Op8} {r:Nd} {l:List Nd} {e:Int} (h:zAJ t=true) (hf:FormP o) (hr:Fd t o.2.1 r) (hc:Chg r.kids o l e) (he:e ≠ 0):App t o zDq e
 | limit {o:Op8} {r:Nd} {l:List Nd} (h:zAJ t=true) (hf:FormP o) (hr:Fd t o.2.1 r) (hc:Chg r.kids o l 0) (hv:zAJ (putL t o.2.1 (rowN l))=false):App t o zDq 6
 | ok {o:Op8} {r:Nd} {l:List Nd} (h:zAJ t=true) (hf:FormP o) (hr:Fd t o.2.1 r) (hc:Chg r.kids o l 0) (hv:zAJ (putL t o.2.1 (rowN l))=true):App t o (putL t o.2.1 (rowN l)) 0
theorem Chg.w {l l':List Nd}{k:Int}{row:List Int}{a m:Int}{nodes:List Nd}{slot:Int}{old text:List UInt8}{e:Int} (h:Chg l (k,row,a,m,nodes,slot,old,text) l' e):Nd.ws l'<=Nd.ws l+Nd.ws nodes+text.length+3/\l'.length<=l.length+Nd.ws nodes+Nd.ws l+1:=by
 have key:∀ p q b,p<=q->Nd.ws (splS l p q b)+Nd.ws (segS l p q)=Nd.ws l+Nd.ws b:=fun p q b h=>zSf l b h
 have hlen:∀ l':List Nd,l'.length<=Nd.ws l':=Nd.ws_len
 have h1:Nd.ws l'<=Nd.ws l+Nd.ws nodes+text.length+3:=by
  cases h with
  | range=>simp only[Nd.ws]; omega
  | @ins _ p _ _ _ _ _ h=>have:=key p p nodes (Nat.le_refl _); omega
  | @del _ p _ _ _ _ _ h he=>have:=key p (p+nodes.length) [] (Nat.le_add_right _ _); simp only[Nd.ws]at this; omega
  | del_no=>simp only[Nd.ws]; omega
  | @wrap _ p m v s _ _ h =>
   have:=key p (p+m) [zHY v s (segS l p (p+m))] (Nat.le_add_right _ _)
   have hf:(zHY v s (segS l p (p+m))).w<=v.w+Nd.ws (segS l p (p+m))+1:=by
    rw[zGB v]
    simp only[zHY,rowN,Nd.w]
    by_cases hs:s<v.kids.length
    ·have:=zNE (ks:=v.kids) (i:=s) (y:=.mk 1 [] 0 (segS l p (p+m))) (List.getElem?_eq_getElem hs)
     simp only[Nd.w,List.length_nil]at this
     omega
    ·rw[List.set_eq_of_length_le (by omega)]; omega
   simp only[Nd.ws]at this ⊢
   omega
  | @unwrap _ p _ v it z s _ _ h hz hm he =>
   have:=key p (p+1) z.kids (Nat.le_add_right _ _)
   have hsg:segS l p (p+1)=[it]:=by
    have:=zTc l (List.getElem?_eq_some_iff.1 h).1;rw[segS,this,(List.getElem?_eq_some_iff.1 h).2]
   have w1:=Nd.w_mem (List.mem_of_getElem? hz)
   have w2:=zGB z;have w3:=zGB it;rw[hsg]at this;simp only[Nd.ws]at this
   omega
  | unwrap_no=>simp only[Nd.ws]; omega
  | @set _ p _ _ it _ _ _ h hl he =>
   have:=key p (p+1) [.mk it.kind text it.cols it.kids] (Nat.le_add_right _ _)
   have hsg:segS l p (p+1)=[it]:=by
    have:=zTc l (List.getElem?_eq_some_iff.1 h).1;rw[segS,this,(List.getElem?_eq_some_iff.1 h).2]
   have w3:=zGB it;rw[hsg]at this;simp only[Nd.ws,Nd.w]at this
   omega
  | set_no=>simp only[Nd.ws]; omega
 refine⟨h1,?_⟩
 cases h with
 | range=>simp
 | @ins _ p _ _ _ _ _ h=>have:=hlen nodes; simp only[splS,List.length_append,List.length_take,List.length_drop]; omega
 | @del _ p _ _ _ _ _ h he=>simp only[splS,List.length_append,List.length_take,List.length_drop,List.length_nil]; omega
 | del_no=>simp
 | @wrap _ p m v s _ _ h=>simp only[splS,List.length_append,List.length_take,List.length_drop,List.length_cons,List.length_nil]; omega
 | @unwrap _ p _ v it z s _ _ h hz hm he =>
  have w1:=Nd.w_mem (List.mem_of_getElem? hz)
  have w4:=Nd.w_mem (List.mem_of_getElem? h)
  have w2:=zGB z;have w3:=zGB it;have:=hlen z.kids;simp only[splS,List.length_append,List.length_take,List.length_drop]; omega
 | unwrap_no=>simp
 | @set _ p _ _ it _ _ _ h hl he=>simp only[splS,List.length_append,List.length_take,List.length_drop,List.length_cons,List.length_nil]; omega
 | set_no=>simp
theorem zKK (n:Nat) (nodes:List Nd) (h:Nd.ws nodes+50<n) (hb:Nd.ws nodes<=67000000):zCq n nodes=some (zAJ (rowN nodes)):=by
 unfold zCq;simp only[zC4,Option.bind_some]
 rw[zEv n _ (by simp only[Nd.w,List.length_nil]; omega) (by simp only[Nd.w,List.length_nil]; omega)]; rfl
theorem zNo (n:Nat) (l:List Nd) (slot:Int) (h:Nd.ws l+50<n) (hb:Nd.ws l<=67000000):∃ b,zD8 n l slot=some b/\(b=true↔zTi l slot):=by
 unfold zD8;dsimp only;cases e1:((l.length:Int) == 1) with
 | false=>exact⟨false,rfl,(fun h=>by cases h),fun⟨v,s,z,h,_⟩=>by rw[h]at e1; cases e1⟩
 | true =>
  have hl:l.length=1 :=(by have:=eq_of_beq e1; omega);obtain⟨v,rfl⟩:=List.length_eq_one_iff.1 hl;have hv:=zKK n [v] h hb;obtain⟨a,b,c,d⟩:=v;have h0:at? [Nd.mk a b c d] (0:Int)=some (Nd.mk a b c d):=rfl;simp only[cond_true,hv,Option.bind_some,h0]
  cases hvb:zAJ (rowN [.mk a b c d]) with
  | false=>exact⟨false,rfl,(fun h=>by cases h),fun⟨v,s,z,h,_,h2,_⟩=>by cases h; rw[hvb]at h2; cases h2⟩
  | true =>
   by_cases h1:0<=slot
   ·by_cases h2:slot<(d.length:Int)
    ·obtain⟨p,rfl,hp,hg⟩:=zWV h1 h2;simp only[cond_true,zAO h1,zAO h2,hg,Option.bind_some]
     have hz:d[p]? = some d[p]:=List.getElem?_eq_getElem hp;generalize d[p]=z at hz;obtain⟨x1,x2,x3,x4⟩:=z;refine⟨_,rfl,fun h=>⟨_,p,_,rfl,rfl,hvb,hz,?_⟩,fun⟨v,s,z,h,hs,_,hz',hk⟩=>?_⟩
     ·have:=eq_of_beq h;exact List.eq_nil_of_length_eq_zero (by simp only[Nd.kids]; omega)
     ·cases h;obtain rfl:p=s :=(by omega);simp only[Nd.kids]at hz';rw[hz]at hz';cases hz';simp only[Nd.kids]at hk;subst hk
      rfl
    ·simp only[cond_true,zAO h1,zAM h2]
     refine⟨false,rfl,(fun h=>by cases h),fun⟨v,s,z,h,hs,_,hz,_⟩=>?_⟩
     cases h;have:=(List.getElem?_eq_some_iff.1 hz).1;simp only[Nd.kids]at this
     omega
   ·simp only[cond_true,zAM h1]
    refine⟨false,rfl,(fun h=>by cases h),fun⟨v,s,z,h,hs,_⟩=>?_⟩
    omega
theorem zQh (n:Nat) (k:Int) (row:List Int) (at' m:Int) (nodes:List Nd) (slot:Int) (old text:List UInt8) (h:Nd.ws nodes+50<n) (hb:Nd.ws nodes<=67000000) :
  ∃ b,zFj n (k,row,at',m,nodes,slot,old,text)=some b/\(b=true↔FormP (k,row,at',m,nodes,slot,old,text)):=by
 have hv:=zKK n nodes h hb;obtain⟨tb,t1,t2⟩:=zNo n nodes slot h hb;have hlen:decide (0<(nodes.length:Int))=true↔nodes ≠ [] :=(by cases nodes <;> simp);have hlen0:((nodes.length:Int) == 0)=true↔nodes=[] :=(by cases nodes <;> simp <;> omega);unfold zFj;simp only[hv,t1,Option.bind_some,FormP]
 by_cases k12:k=1∨k=2
 ·have e:(bif (k == 1) then some (k == 1) else some (k == 2):Option Bool)=some true:=by rcases k12 with rfl | rfl <;> rfl
  have hk:¬ (k=3∨k=4)/\¬ k=5 :=(by omega);rw[e]
  simp only[Option.bind_some,cond_true,k12,hk.1,hk.2,true_and,false_and,or_false]
  rw[← hlen]
  generalize decide (0<(nodes.length:Int))=b1;generalize zAJ (rowN nodes)=b2;cases b1 <;> cases b2 <;> simp only[cond_true,cond_false,Option.bind_some] <;> try exact⟨false,rfl,by simp⟩
  cases e1:m == 0 <;> simp only[cond_true,cond_false,Option.bind_some]
  ·exact⟨false,rfl,by simp[beq_eq_false_iff_ne.1 e1]⟩
  cases e2:slot == 0 <;> simp only[cond_true,cond_false,Option.bind_some]
  ·exact⟨false,rfl,by simp[beq_eq_false_iff_ne.1 e2]⟩
  cases e3:old == [] <;> simp only[cond_true,cond_false,Option.bind_some]
  ·exact⟨false,rfl,by simp[beq_eq_false_iff_ne.1 e3]⟩
  refine⟨_,rfl,?_⟩
  rw[eq_of_beq e1,eq_of_beq e2,eq_of_beq e3]
  simp
 ·have e:(bif (k == 1) then some (k == 1) else some (k == 2):Option Bool)=some false:=by
   rw[zB7 (fun h=>k12 (.inl h)),zB7 (fun h=>k12 (.inr h))]; rfl
  rw[e]
  simp only[Option.bind_some,cond_false,k12,false_and,false_or]
  by_cases k34:k=3∨k=4
  ·have e:(bif (k == 3) then some (k == 3) else some (k == 4):Option Bool)=some true:=by rcases k34 with rfl | rfl <;> rfl
   have hk:¬ k=5 :=(by omega);rw[e]
   simp only[Option.bind_some,cond_true,k34,hk,true_and,false_and,or_false]
   rw[← t2]
   by_cases hm:0<=m
   ·rw[zAO hm]
    cases tb <;> simp only[cond_true,cond_false,Option.bind_some]
    ·exact⟨false,rfl,by simp⟩
    cases e3:old == [] <;> simp only[cond_true,cond_false,Option.bind_some]
    ·exact⟨false,rfl,by simp[beq_eq_false_iff_ne.1 e3]⟩
    refine⟨_,rfl,?_⟩
    rw[eq_of_beq e3]
    simp[hm]
   ·rw[zAM hm]
    exact⟨false,rfl,by simp[hm]⟩
  ·have e:(bif (k == 3) then some (k == 3) else some (k == 4):Option Bool)=some false:=by
    rw[zB7 (fun h=>k34 (.inl h)),zB7 (fun h=>k34 (.inr h))]; rfl
   rw[e]
   simp only[Option.bind_some,cond_false,k34,false_and,false_or]
   by_cases k5:k=5
   ·subst k5;simp only[beq_self_eq_true,cond_true,Option.bind_some,true_and]
    rw[← hlen0]
    generalize ((nodes.length:Int) == 0)=b1;cases e0:old == text <;> simp only[Bool.not_true,Bool.not_false,cond_true,cond_false,Option.bind_some]
    ·have:=beq_eq_false_iff_ne.1 e0;cases b1 <;> simp only[cond_true,cond_false,Option.bind_some]
     ·exact⟨false,rfl,by simp⟩
     cases e1:m == 0 <;> simp only[cond_true,cond_false,Option.bind_some]
     ·exact⟨false,rfl,by simp[beq_eq_false_iff_ne.1 e1]⟩
     refine⟨_,rfl,?_⟩
     rw[eq_of_beq e1]
     simp[this]
    ·exact⟨false,rfl,by simp[eq_of_beq e0]⟩
   ·rw[zB7 k5]
    exact⟨false,rfl,by simp[k5]⟩
theorem zTw (k:Int):(bif (k == 2) then some (k == 2) else bif (k == 3) then some (k == 3) else bif (k == 4) then some (k == 4) else bif (k == 10) then some (k == 10) else some (k == 11):Option Bool)=some (zUe k):=by
 unfold zUe;cases e1:k == 2 <;> cases e2:k == 3 <;> cases e3:k == 4 <;> cases e4:k == 10 <;> rfl
theorem zTD (k m:Int) (nodes:List Nd):(bif (k == 1) then some 0 else bif (k == 2) then some (nodes.length:Int) else bif (k == 3) then some m else some 1:Option Int)=some (zDU k m nodes):=by
 unfold zDU
 by_cases k1:k=1
 ·subst k1; rfl
 by_cases k2:k=2
 ·subst k2; rfl
 by_cases k3:k=3
 ·subst k3; rfl
 rw[zB7 k1,zB7 k2,zB7 k3,if_neg k1,if_neg k2,if_neg k3]; rfl
theorem zSK {k:Int}{row:List Int}{a m:Int}{nodes:List Nd}{slot:Int}{old text:List UInt8} (hf:FormP (k,row,a,m,nodes,slot,old,text)):0<=zDU k m nodes:=by
 unfold zDU;rcases hf with ⟨rfl | rfl,_⟩ | ⟨rfl | rfl,hm,_⟩ | ⟨rfl,_⟩ <;> simp <;> omega
theorem zQi (n:Nat) (l:List Nd) (k:Int) (row:List Int) (a m:Int) (nodes:List Nd) (slot:Int) (old text:List UInt8) (hf:FormP (k,row,a,m,nodes,slot,old,text)) (hn:2 * Nd.ws l+2 * Nd.ws nodes+50<n) (ha:Nd.ws l<=60000000) (hb:Nd.ws nodes<=2000000) :
  ∃ l' e,zFk n l (k,row,a,m,nodes,slot,old,text)=some (l',e)/\Chg l (k,row,a,m,nodes,slot,old,text) l' e:=by
 have la:=Nd.ws_len l;have lb:=Nd.ws_len nodes;have cl:=Nd.cnts_ws l;have cb:=Nd.cnts_ws nodes;have hnn:=zSK hf;unfold zFk;dsimp only;rw[zTD]
 simp only[Option.bind_some]
 by_cases h1:a<0
 ·rw[zAO h1]; exact⟨[],2,rfl,.range (.inl h1)⟩
 rw[zAM h1]
 by_cases h2:(l.length:Int)<a
 ·rw[zAO h2]; exact⟨[],2,rfl,.range (.inr (.inl h2))⟩
 rw[zAM h2,wrap64_in (n:=(l.length:Int) - a) (by omega) (by omega)]
 by_cases h3:(l.length:Int) - a<zDU k m nodes
 ·rw[zAO h3]; exact⟨[],2,rfl,.range (.inr (.inr h3))⟩
 rw[zAM h3]
 simp only[cond_false,Option.bind_some]
 obtain⟨p,rfl⟩:=Int.eq_ofNat_of_zero_le (show 0<=a by omega)
 obtain⟨y,hy⟩:=Int.eq_ofNat_of_zero_le hnn;rw[hy]at h3 ⊢;rw[wrap64_in (n:=(p:Int)+(y:Int)) (by omega) (by omega),← Int.natCast_add]
 have hseg:=zW3 l (Nat.le_add_right p y)
 have lseg:=Nd.ws_len ((l.take (p+y)).drop p)
 have cseg:=Nd.cnts_ws ((l.take (p+y)).drop p)
 have hsp:∀ by':List Nd,by'.length<=1073741824->zB6 l (p:Int) ((p+y:Nat):Int) by'=some (splS l p (p+y) by'):=fun by' hby=>zVP l by' p (p+y) (by omega) (by omega) (by omega) hby
 rcases hf with ⟨rfl | rfl,h0⟩ | ⟨rfl | rfl,hm,⟨v,s,z,rfl,rfl,hvv,hz,hzk⟩,_⟩ | ⟨rfl,h0⟩
 ·obtain rfl:y=0 :=(by have:zDU 1 m nodes=0:=rfl; omega);simp only[beq_self_eq_true,cond_true,Nat.add_zero]at hsp ⊢;rw[hsp nodes (by omega)]
  exact⟨_,0,rfl,.ins (by omega)⟩
 ·obtain rfl:y=nodes.length :=(by have:zDU 2 m nodes=(nodes.length:Int):=rfl; omega);simp only[show((2:Int) == 1)=false from rfl,cond_false,beq_self_eq_true,cond_true,Int.toNat_natCast]
  rw[zCc ⟨by omega,by omega,by omega⟩]
  obtain⟨r,g1,g2⟩:=(zJY n).2 ((l.take (p+nodes.length)).drop p) nodes (by omega) (by omega)
  rw[g1]
  simp only[Option.bind_some]
  cases r with
  | false=>exact⟨[],7,rfl,.del_no (by omega) fun e=>by have:=g2.2 e; cases this⟩
  | true =>
   simp only[Bool.not_true,cond_false,hsp [] (by simp),Option.bind_some]
   exact⟨_,0,rfl,.del (by omega) (g2.1 rfl)⟩
 ·obtain rfl:m=(y:Int):=hy;have hs:=(List.getElem?_eq_some_iff.1 hz).1;have hfe:=zRk v s ((l.take (p+y)).drop p) hs (by have:=Nd.ws_len v.kids; have:=zGB v; simp only[Nd.ws]at lb hb; omega) (by omega)
  have hv0:at? [v] (0:Int)=some v:=rfl;obtain⟨v1,v2,v3,v4⟩:=v;simp only[show((3:Int) == 1)=false from rfl,show((3:Int) == 2)=false from rfl,cond_false,beq_self_eq_true,cond_true,Int.toNat_natCast,hv0,Option.bind_some]
  rw[zCc ⟨by omega,by omega,by omega⟩,hfe]
  simp only[Option.bind_some]
  rw[hsp _ (by simp)]
  exact⟨_,0,rfl,.wrap (by omega)⟩
 ·obtain rfl:y=1 :=(by have:zDU 4 m [v]=1:=rfl; omega);have hs:=(List.getElem?_eq_some_iff.1 hz).1;have hv0:at? [v] (0:Int)=some v:=rfl;have hpl:p<l.length :=(by omega);have hit:l[p]? = some l[p]:=List.getElem?_eq_getElem hpl;have hia:at? l (p:Int)=some l[p]:=zA7 hpl;generalize l[p]=it at hit hia;have hiw:=Nd.w_mem (List.mem_of_getElem? hit)
  have hic:=Nd.cnt_w it;have hlk:=Nd.ws_len v.kids;have hwv:=zGB v;simp only[Nd.ws]at hb hn;have hfe:∀ l':List Nd,l'.length<=1073741824->zDF v (s:Int) l'=some (zHY v s l'):=fun l' hl'=>zRk v s l' hs (by omega) hl'
  have heq:∀ x:Nd,∃ r,zBv n it x=some r/\(r=true↔it=x):=fun x=>(zJY n).1 it x (by omega) (by omega)
  obtain⟨i1,i2,i3,i4⟩:=it;have hwi:(Nd.mk i1 i2 i3 i4).w=i2.length+Nd.ws i4+1:=rfl;have hlk4:=Nd.ws_len i4;obtain⟨v1,v2,v3,v4⟩:=v;simp only[show((4:Int) == 1)=false from rfl,show((4:Int) == 2)=false from rfl,show((4:Int) == 3)=false from rfl,cond_false,beq_self_eq_true,cond_true,hia,Option.bind_some,hv0]
  by_cases hsl:(i4.length:Int)<=(s:Int)
  ·rw[zAO hsl]
   refine⟨[],7,rfl,.unwrap_no hit fun z' hz'=>?_⟩
   have:=(List.getElem?_eq_some_iff.1 hz').1;simp only[Nd.kids]at this
   omega
  rw[zAM hsl]
  have hsi:s<i4.length :=(by omega);have hzi:i4[s]? = some i4[s]:=List.getElem?_eq_getElem hsi;have hza:at? i4 (s:Int)=some i4[s]:=zA7 hsi;generalize i4[s]=z' at hzi hza;have hzw:=Nd.w_mem (List.mem_of_getElem? hzi)
  have hzw2:=zGB z';have hzl:=Nd.ws_len z'.kids;have hfe':=hfe z'.kids (by omega)
  obtain⟨rb,g1,g2⟩:=heq (zHY (.mk v1 v2 v3 v4) s z'.kids)
  have hsp':=hsp z'.kids (by omega)
  obtain⟨z1,z2,z3,z4⟩:=z';simp only[Nd.kids]at hfe' hsp' g1 g2;simp only[cond_false,hza,Option.bind_some]
  by_cases hmz:(z4.length:Int)=m
  ·have:((z4.length:Int) != m)=false :=(by unfold bne; rw[beq_iff_eq.2 hmz]; rfl);rw[this]
   simp only[cond_false,hfe',Option.bind_some]
   have hfx:zHY (.mk v1 v2 v3 v4) s z4 = .mk v1 v2 v3 (v4.set s (rowN z4)):=rfl;rw[hfx]at g1 g2 ⊢;simp only[Option.bind_some,g1]
   cases rb with
   | false =>
    refine⟨[],7,rfl,.unwrap_no hit fun z'' hz'' hm'' he=>?_⟩
    simp only[Nd.kids]at hz'';rw[hzi]at hz'';cases hz'';have:=g2.2 he;cases this
   | true =>
    simp only[Bool.not_true,cond_false,hsp',Option.bind_some]
    exact⟨_,0,rfl,.unwrap (z:=.mk z1 z2 z3 z4) hit hzi hmz (g2.1 rfl)⟩
  ·have:((z4.length:Int) != m)=true:=bne_iff_ne.2 hmz;rw[this]
   refine⟨[],7,rfl,.unwrap_no hit fun z'' hz'' hm'' he=>?_⟩
   simp only[Nd.kids]at hz'';rw[hzi]at hz'';cases hz'';exact hmz hm''
 ·obtain rfl:y=1 :=(by have:zDU 5 m nodes=1:=rfl; omega);have hpl:p<l.length :=(by omega);have hit:l[p]? = some l[p]:=List.getElem?_eq_getElem hpl;have hia:at? l (p:Int)=some l[p]:=zA7 hpl;generalize l[p]=it at hit hia;obtain⟨i1,i2,i3,i4⟩:=it;simp only[show((5:Int) == 1)=false from rfl,show((5:Int) == 2)=false from rfl,show((5:Int) == 3)=false from rfl,show((5:Int) == 4)=false from rfl,cond_false,hia,Option.bind_some,zTw]
  cases hlf:zUe i1 with
  | false=>exact⟨[],7,rfl,.set_no hit fun h=>by have:=h.1; simp only[Nd.kind]at this; rw[hlf]at this; cases this⟩
  | true =>
   simp only[cond_true]
   cases ht:i2 == old with
   | false=>exact⟨[],7,rfl,.set_no hit fun h=>beq_eq_false_iff_ne.1 ht h.2⟩
   | true =>
    simp only[cond_true,hsp [Nd.mk i1 text i3 i4] (by simp),Option.bind_some]
    exact⟨_,0,rfl,.set (it:=.mk i1 i2 i3 i4) hit hlf (eq_of_beq ht)⟩
theorem zUy {t z:Nd}{p:List Int} (h:Fd t p z) (l:List Nd):∀ n,p.length<n->t.cnt<=4294967296->zFl n t p l=some (putL t p (rowN l)):=by
 induction h with
 | nil t =>
  intro n hn _;obtain⟨n,rfl⟩:∃ m,n=m+1:=⟨n - 1,by omega⟩
  rw[zIF]
  obtain⟨t1,t2,t3,t4⟩:=t;unfold zFl
  rfl
 | @step k tx c ks i k2 tx2 c2 ks2 s z r' p hi hs _ ih =>
  intro n hn hc;obtain⟨n,rfl⟩:∃ m,n=m+1:=⟨n - 1,by omega⟩
  have n1:=Nd.cnts_mem (List.mem_of_getElem? hi)
  have n2:=Nd.cnts_mem (List.mem_of_getElem? hs)
  have l1:=Nd.cnts_len ks;have l2:=Nd.cnts_len ks2;simp only[Nd.cnt]at hc n1;have ih:=ih n (by simp only[List.length_cons]at hn; omega) (by omega)
  rw[zE2 hi hs]
  have e1:((((i:Int)::(s:Int)::p).length:Int) == 0)=false:=zB7 (by simp only[List.length_cons]; omega)
  have e2:at? ((i:Int)::(s:Int)::p) (0:Int)=some (i:Int):=rfl;have e3:at? ((i:Int)::(s:Int)::p) (1:Int)=some (s:Int):=rfl;have e4:(((((i:Int)::(s:Int)::p)).take ((((i:Int)::(s:Int)::p)).length:Int).toNat).drop (2:Int).toNat)=p:=by
   rw[Int.toNat_natCast,List.take_length]; rfl
  obtain⟨z1,z2,z3,z4⟩:=z;unfold zFl;simp only[e1,e2,e3,cond_false,Option.bind_some,zMF hi,zMF hs,e4]
  rw[zCc ⟨by omega,by simp only[List.length_cons]; omega,by omega⟩,ih]
  generalize putL (Nd.mk z1 z2 z3 z4) p (rowN l)=Z;obtain⟨q1,q2,q3,q4⟩:=Z;simp only[Option.bind_some]
  rw[zIG hs (by omega)]
  simp only[Option.bind_some]
  rw[zIG hi (by omega)]
  rfl
theorem zR0 (n:Nat) (t:Nd) (o:Op8) (hn:200000000<n) (ht:t.w<=50000000) (hb:Nd.ws o.nodes<=2000000) (hx:o.2.2.2.2.2.2.2.length<=2000000) (hr:o.2.1.length<=2000000):∃ t' e,zE1 n t o=some (t',e)/\App t o t' e:=by
 obtain⟨k,row,a,m,nodes,slot,old,text⟩:=o;simp only[Op8.nodes]at hb;dsimp only at hx hr;have v1:=zEv n t (by omega) (by omega)
 obtain⟨b,f1,f2⟩:=zQh n k row a m nodes slot old text (by omega) (by omega)
 have e1:=zUw n t row (by omega) v1;have hput:∀ r l,Fd t row r->zFl n t row l=some (putL t row (rowN l)):=fun r l h=>zUy h l n (by omega) (by have:=Nd.cnt_w t; omega)
 have hval:∀ r l,Fd t row r->Nd.ws l<=5000000+r.w->zBh n (putL t row (rowN l))=some (zAJ (putL t row (rowN l))):=fun r l h hl=>by
  have:=h.w (rowN l)
  have e:(rowN l).w=Nd.ws l+1 :=(by simp[rowN,Nd.w]);exact zEv n _ (by omega) (by omega)
 obtain⟨t1,t2,t3,t4⟩:=t;unfold zE1;simp only[v1,f1,e1,Option.bind_some]
 cases hv:zAJ (.mk t1 t2 t3 t4) with
 | false=>exact⟨_,1,rfl,.arg hv⟩
 | true =>
  simp only[Bool.not_true,cond_false]
  cases b with
  | false=>exact⟨_,4,rfl,.form hv fun h=>by have:=f2.2 h; cases this⟩
  | true =>
   have hf:=f2.1 rfl;simp only[Bool.not_true,cond_false,rowS,if_pos hv]
   cases hfd:zBE (.mk t1 t2 t3 t4) row with
   | none=>exact⟨_,8,rfl,.none hv hf hfd⟩
   | some r =>
    have hr':=zXn hfd;have hsm:=hr'.small;have hwr:=zGB r;obtain⟨l',e,c1,c2⟩:=zQi n r.kids k row a m nodes slot old text hf (by omega) (by omega) (by omega)
    obtain⟨r1,r2,r3,r4⟩:=r;simp only[Nd.kids]at c1 c2 hwr;simp only[Option.bind_some,show((0:Int) != 0)=false from rfl,cond_false,c1]
    by_cases he:e=0
    ·subst he;have hcw:=c2.w;have hv2:=hval _ l' hr' (by omega)
     simp only[show((0:Int) != 0)=false from rfl,cond_false,hput _ l' hr',Option.bind_some]
     cases hvo:zAJ (putL (.mk t1 t2 t3 t4) row (rowN l')) with
     | false =>
      have hL:=App.limit (t:=.mk t1 t2 t3 t4) (o:=(k,row,a,m,nodes,slot,old,text)) hv hf hr' c2 hvo;generalize putL (Nd.mk t1 t2 t3 t4) row (rowN l')=Z at *;obtain⟨q1,q2,q3,q4⟩:=Z;simp only[Option.bind_some,hv2,hvo,Bool.not_false,cond_true]
      exact⟨_,6,rfl,hL⟩
     | true =>
      have hO:=App.ok (t:=.mk t1 t2 t3 t4) (o:=(k,row,a,m,nodes,slot,old,text)) hv hf hr' c2 hvo;dsimp only at hO;generalize putL (Nd.mk t1 t2 t3 t4) row (rowN l')=Z at *;obtain⟨q1,q2,q3,q4⟩:=Z;simp only[Option.bind_some,hv2,hvo,Bool.not_true,cond_false]
      exact⟨_,0,rfl,hO⟩
    ·have:(e != 0)=true:=bne_iff_ne.2 he;simp only[this,cond_true]
     exact⟨_,e,rfl,.chg (t:=.mk t1 t2 t3 t4) (o:=(k,row,a,m,nodes,slot,old,text)) hv hf hr' c2 he⟩
theorem Chg.det {l l1 l2:List Nd}{o:Op8}{e1 e2:Int} (hf:FormP o) (h1:Chg l o l1 e1) (h2:Chg l o l2 e2):l1=l2/\e1=e2:=by
 obtain⟨k,row,a,m,nodes,slot,old,text⟩:=o;have hnn:=zSK hf;cases h1 with
 | range h =>
  cases h2 with
  | range=>exact⟨rfl,rfl⟩
  | ins h'=>simp only[zDU,if_true]at h; omega
  | del h'=>simp only[zDU]at h; simp at h; omega
  | del_no h'=>simp only[zDU]at h; simp at h; omega
  | wrap h'=>simp only[zDU]at h; simp at h; omega
  | unwrap h'=>have:=(List.getElem?_eq_some_iff.1 h').1; simp only[zDU]at h; simp at h; omega
  | unwrap_no h'=>exact⟨rfl,by have:=(List.getElem?_eq_some_iff.1 h').1; simp only[zDU]at h; simp at h; omega⟩
  | set h'=>have:=(List.getElem?_eq_some_iff.1 h').1; simp only[zDU]at h; simp at h; omega
  | set_no h'=>exact⟨rfl,by have:=(List.getElem?_eq_some_iff.1 h').1; simp only[zDU]at h; simp at h; omega⟩
 | ins h' =>
  generalize ha:((_:Nat):Int)=a' at h2;cases h2 with
  | range h=>simp only[zDU,if_true]at h; omega
  | ins h=>obtain rfl:=Int.ofNat.inj ha; exact⟨rfl,rfl⟩
 | del h' he =>
  generalize ha:((_:Nat):Int)=a' at h2;cases h2 with
  | range h=>simp only[zDU]at h; simp at h; omega
  | del h=>obtain rfl:=Int.ofNat.inj ha; exact⟨rfl,rfl⟩
  | del_no h he'=>obtain rfl:=Int.ofNat.inj ha; exact absurd he he'
 | del_no h' he =>
  generalize ha:((_:Nat):Int)=a' at h2;cases h2 with
  | range h=>simp only[zDU]at h; simp at h; omega
  | del h he'=>obtain rfl:=Int.ofNat.inj ha; exact absurd he' he
  | del_no h he'=>exact⟨rfl,rfl⟩
 | wrap h' =>
  generalize ha:((_:Nat):Int)=a' at h2;generalize hm:((_:Nat):Int)=m' at h2;generalize hs:((_:Nat):Int)=s' at h2;cases h2 with
  | range h=>simp only[zDU]at h; simp at h; omega
  | wrap h=>obtain rfl:=Int.ofNat.inj ha; obtain rfl:=Int.ofNat.inj hm; obtain rfl:=Int.ofNat.inj hs; exact⟨rfl,rfl⟩
 | unwrap h' hz hm he =>
  generalize ha:((_:Nat):Int)=a' at h2;generalize hs:((_:Nat):Int)=s' at h2;cases h2 with
  | range h=>have:=(List.getElem?_eq_some_iff.1 h').1; simp only[zDU]at h; simp at h; omega
  | unwrap h hz2 =>
   obtain rfl:=Int.ofNat.inj ha; obtain rfl:=Int.ofNat.inj hs
   rw[h']at h; cases h
   rw[hz]at hz2; cases hz2
   exact⟨rfl,rfl⟩
  | unwrap_no h hz2 =>
   obtain rfl:=Int.ofNat.inj ha; obtain rfl:=Int.ofNat.inj hs
   rw[h']at h; cases h
   exact absurd he (hz2 _ hz hm)
 | unwrap_no h' hz =>
  generalize ha:((_:Nat):Int)=a' at h2;generalize hs:((_:Nat):Int)=s' at h2;cases h2 with
  | range h=>exact⟨rfl,by have:=(List.getElem?_eq_some_iff.1 h').1; simp only[zDU]at h; simp at h; omega⟩
  | unwrap h hz2 hm he =>
   obtain rfl:=Int.ofNat.inj ha; obtain rfl:=Int.ofNat.inj hs
   rw[h']at h; cases h
   exact absurd he (hz _ hz2 hm)
  | unwrap_no h hz2=>exact⟨rfl,rfl⟩
 | set h' hl he =>
  generalize ha:((_:Nat):Int)=a' at h2;cases h2 with
  | range h=>have:=(List.getElem?_eq_some_iff.1 h').1; simp only[zDU]at h; simp at h; omega
  | set h=>obtain rfl:=Int.ofNat.inj ha; rw[h']at h; cases h; exact⟨rfl,rfl⟩
  | set_no h hl2=>obtain rfl:=Int.ofNat.inj ha; rw[h']at h; cases h; exact absurd ⟨hl,he⟩ hl2
 | set_no h' hl =>
  generalize ha:((_:Nat):Int)=a' at h2;cases h2 with
  | range h=>exact⟨rfl,by have:=(List.getElem?_eq_some_iff.1 h').1; simp only[zDU]at h; simp at h; omega⟩
  | set h hl2 he=>obtain rfl:=Int.ofNat.inj ha; rw[h']at h; cases h; exact absurd ⟨hl2,he⟩ hl
  | set_no h hl2=>exact⟨rfl,rfl⟩
theorem Fd.det {t r1 r2:Nd}{p:List Int} (h1:Fd t p r1) (h2:Fd t p r2):r1=r2:=Option.some.inj (h1.find.symm.trans h2.find)
theorem App.det {t t1 t2:Nd}{o:Op8}{e1 e2:Int} (h1:App t o t1 e1) (h2:App t o t2 e2):t1=t2/\e1=e2:=by
 have tf:∀ {b:Bool},b=true->b=false->False:=fun h h'=>by rw[h]at h'; cases h'
 have fn:∀ {r:Nd} {p:List Int},Fd t p r->zBE t p=Option.none->False:=fun h h'=>by rw[h.find]at h'; cases h'
 cases h1 with
 | arg h=>cases h2 with
  | arg h'=>exact⟨rfl,rfl⟩
  | form h'=>exact(tf h' h).elim
  | none h'=>exact(tf h' h).elim
  | chg h'=>exact(tf h' h).elim
  | limit h'=>exact(tf h' h).elim
  | ok h'=>exact(tf h' h).elim
 | form h hf=>cases h2 with
  | arg h'=>exact(tf h h').elim
  | form h'=>exact⟨rfl,rfl⟩
  | none h' hf'=>exact absurd hf' hf
  | chg h' hf'=>exact absurd hf' hf
  | limit h' hf'=>exact absurd hf' hf
  | ok h' hf'=>exact absurd hf' hf
 | none h hf hn=>cases h2 with
  | arg h'=>exact(tf h h').elim
  | form h' hf'=>exact absurd hf hf'
  | none=>exact⟨rfl,rfl⟩
  | chg h' hf' hr=>exact(fn hr hn).elim
  | limit h' hf' hr=>exact(fn hr hn).elim
  | ok h' hf' hr=>exact(fn hr hn).elim
 | chg h hf hr hc he=>cases h2 with
  | arg h'=>exact(tf h h').elim
  | form h' hf'=>exact absurd hf hf'
  | none h' hf' hn=>exact(fn hr hn).elim
  | chg h' hf' hr' hc' he'=>obtain rfl:=hr.det hr'; exact⟨rfl,(hc.det hf hc').2⟩
  | limit h' hf' hr' hc'=>obtain rfl:=hr.det hr'; exact absurd (hc.det hf hc').2 he
  | ok h' hf' hr' hc'=>obtain rfl:=hr.det hr'; exact absurd (hc.det hf hc').2 he
 | limit h hf hr hc hv=>cases h2 with
  | arg h'=>exact(tf h h').elim
  | form h' hf'=>exact absurd hf hf'
  | none h' hf' hn=>exact(fn hr hn).elim
  | chg h' hf' hr' hc' he'=>obtain rfl:=hr.det hr'; exact absurd (hc'.det hf hc).2 he'
  | limit h' hf' hr' hc'=>exact⟨rfl,rfl⟩
  | ok h' hf' hr' hc' hv'=>obtain rfl:=hr.det hr'; obtain rfl:=(hc.det hf hc').1; exact(tf hv' hv).elim
 | ok h hf hr hc hv=>cases h2 with
  | arg h'=>exact(tf h h').elim
  | form h' hf'=>exact absurd hf hf'
  | none h' hf' hn=>exact(fn hr hn).elim
  | chg h' hf' hr' hc' he'=>obtain rfl:=hr.det hr'; exact absurd (hc'.det hf hc).2 he'
  | limit h' hf' hr' hc' hv'=>obtain rfl:=hr.det hr'; obtain rfl:=(hc.det hf hc').1; exact(tf hv hv').elim
  | ok h' hf' hr' hc' hv'=>obtain rfl:=hr.det hr'; obtain rfl:=(hc.det hf hc').1; exact⟨rfl,rfl⟩
def lens:List (List Nd)->Nat
 | []=>0
 | a::L=>a.length+lens L
theorem zRv {L:List (List Nd)}{i:Nat} (h:i<L.length):lens (L.drop i)=(L[i]).length+lens (L.drop (i+1)):=by
 rw[List.drop_eq_getElem_cons h]; rfl
theorem zUZ {L:List (List Nd)} (hl:L.length<=1073741824):∀ (k i s:Nat),L.length - i<k->i<=L.length->s+lens (L.drop i)<=1073741824->zA0 L k (i:Int) (s:Int)=some ((s+lens (L.drop i):Nat):Int)
 | 0,i,s,h,_,_=>by omega
 | k+1,i,s,hk,hi,hs=>by
  unfold zA0
  by_cases h:i<L.length
  ·have hd:=zRv h;rw[zAO (Int.ofNat_lt.2 h),cond_true,zA7 h]
   simp only[Option.bind_some]
   rw[wrap64_in (n:=(s:Int)+((L[i]).length:Int)) (by omega) (by omega),zAM (by omega),cond_false,zAR (by omega),← Int.natCast_add,zUZ hl k (i+1) _ (by omega) (by omega) (by omega),hd]
   congr 2; omega
  ·rw[zAM (by omega),cond_false]
   have:L.drop i=[]:=List.drop_eq_nil_iff.2 (by omega)
   rw[this]; rfl
theorem zU0 {L:List (List Nd)} (hl:L.length<=1073741824):∀ (k i:Nat) (s:List Nd),L.length - i<k->i<=L.length->s.length+lens (L.drop i)<=1073741824->zA1 L k (i:Int) s=some (s++(L.drop i).flatten)
 | 0,i,s,h,_,_=>by omega
 | k+1,i,s,hk,hi,hs=>by
  unfold zA1
  by_cases h:i<L.length
  ·have hd:=zRv h;rw[zAO (Int.ofNat_lt.2 h),cond_true,zA7 h]
   simp only[Option.bind_some]
   rw[zCc (by omega),zAR (by omega),zU0 hl k (i+1) _ (by omega) (by omega) (by rw[List.length_append]; omega),List.drop_eq_getElem_cons h,List.flatten_cons,List.append_assoc]
  ·rw[zAM (by omega),cond_false]
   have:L.drop i=[]:=List.drop_eq_nil_iff.2 (by omega)
   rw[this]; simp
theorem zU1 (n:Nat) (L:List (List Nd)) (hn:L.length<n) (hl:L.length<=1073741824) (hs:lens L<=1073741824):zBS n L=some L.flatten:=by
 have e1:=zUZ hl n 0 0 (by omega) (by omega) (by simpa using hs)
 have e2:=zU0 hl n 0 [] (by omega) (by omega) (by simpa using hs)
 rw[show((0:Nat):Int)=0 from rfl]at e1 e2;unfold zBS zEh;simp only[e1,Option.bind_some,List.drop_zero,Nat.zero_add]
 simp only[List.drop_zero,List.nil_append]at e2;rw[zCc ⟨by omega,by omega⟩]
 simp only[Option.bind_some,e2]
theorem zXp (n:Nat) (k:Int) (row:List Int) (p y:Nat) (m:Int) (nodes:List Nd) (slot:Int) (old text:List UInt8) (l b:List Nd) (hn:10<n) (hp:p+y<=l.length) (hl:l.length<=500000000) (hb:b.length<=500000000) :
  zA3 n ((k,row,(p:Int),m,nodes,slot,old,text),l) (y:Int) b=some (splS l p (p+y) b):=by
 unfold zA3;dsimp only;rw[zCc ⟨by omega,by omega,by omega⟩,wrap64_in (n:=(p:Int)+(y:Int)) (by omega) (by omega),← Int.natCast_add,zCc ⟨by omega,by omega,by omega⟩]
 have e1:(l.take (p:Int).toNat).drop (0:Int).toNat=l.take p :=(by simp);have e2:(l.take (l.length:Int).toNat).drop ((p+y:Nat):Int).toNat=l.drop (p+y) :=(by rw[Int.toNat_natCast,Int.toNat_natCast,List.take_length]);rw[e1,e2,zU1 n _ (by simp; omega) (by simp) (by simp only[lens,List.length_take,List.length_drop]; omega)]
 simp only[Option.bind_some,splS,List.flatten_cons,List.flatten_nil,List.append_nil,List.append_assoc]
theorem zQl {l:List Nd}{it z:Nd}{s:Nat} (hl:zEr 1 l=true) (hit:it∈l) (hz:it.kids[s]? = some z):it.kind ≠ 1/\z=rowN z.kids:=by
 obtain⟨f1,f2⟩:=zG7 hl hit;have hk:(it.kind == 1)=false :=(by simpa using f2);obtain⟨i1,i2,i3,i4⟩:=it;simp only[Nd.kind]at hk;simp only[Nd.kids]at hz;obtain⟨g1,g2⟩:=zG7 (zMO f1) (List.mem_of_getElem? hz)
 rw[hk]at g2;have hz1:z.kind=1:=by
  cases e:z.kind == 1 with
  | true=>exact eq_of_beq e
  | false=>rw[e]at g2; cases g2
 exact⟨beq_eq_false_iff_ne.1 hk,(zTr g1 hz1).1⟩
theorem zRp {l:List Nd}{it:Nd} (hl:zEr 1 l=true) (hit:it∈l):it.kind ≠ 1:=by
 obtain⟨_,f2⟩:=zG7 hl hit;exact beq_eq_false_iff_ne.1 (by simpa using f2)
theorem zJV {l:List Nd} (h:zAJ (rowN l)=true):zEr 1 l=true:=by
 have:=(zKL h).2;exact this
theorem zTh (v:Nd) (h:v.kind ≠ 1):zDz v=some (v.kids.length:Int):=by
 obtain⟨a,b,c,d⟩:=v;unfold zDz;simp only[Nd.kind]at h;simp only[zB7 h,cond_false,Nd.kids]
theorem zGx (n:Nat) (nodes:List Nd) (h:Nd.ws nodes+50<n) (hb:Nd.ws nodes<=67000000):zCa n nodes=some (zAJ (rowN nodes)):=by
 unfold zCa;dsimp only;rw[zB3 n _ (by simp only[Nd.w,List.length_nil]; omega) (by simp only[Nd.w,List.length_nil]; omega)]; rfl
theorem zQ9 (n:Nat) (l:List Nd) (slot:Int) (h:Nd.ws l+50<n) (hb:Nd.ws l<=67000000):∃ b,zDc n l slot=some b/\(b=true↔zTi l slot):=by
 unfold zDc;dsimp only;cases e1:((l.length:Int) != 1) with
 | true=>exact⟨false,rfl,(fun h=>by cases h),fun⟨v,s,z,h,_⟩=>by rw[h]at e1; cases e1⟩
 | false =>
  have hl:l.length=1:=by
   by_cases h:(l.length:Int)=1
   ·omega
   ·rw[bne_iff_ne.2 h]at e1; cases e1
  obtain⟨v,rfl⟩:=List.length_eq_one_iff.1 hl;have hv:=zGx n [v] h hb;have h0:at? [v] (0:Int)=some v:=rfl;simp only[cond_false,hv,Option.bind_some]
  cases hvb:zAJ (rowN [v]) with
  | false=>exact⟨false,rfl,(fun h=>by cases h),fun⟨v',s,z,h,_,h2,_⟩=>by cases h; rw[hvb]at h2; cases h2⟩
  | true =>
   have hsl:=zTh v (zRp (zJV hvb) List.mem_cons_self)
   obtain⟨a,b,c,d⟩:=v;simp only[Nd.kids]at hsl;simp only[Bool.not_true,cond_false]
   by_cases h1:slot<0
   ·rw[zAO h1]
    exact⟨false,rfl,(fun h=>by cases h),fun⟨v,s,z,h,hs,_⟩=>by omega⟩
   ·rw[zAM h1]
    simp only[cond_false,h0,Option.bind_some,hsl]
    by_cases h2:(d.length:Int)<=slot
    ·rw[zAO h2]
     refine⟨false,rfl,(fun h=>by cases h),fun⟨v,s,z,h,hs,_,hz,_⟩=>?_⟩
     cases h;have:=(List.getElem?_eq_some_iff.1 hz).1;simp only[Nd.kids]at this
     omega
    ·rw[zAM h2]
     obtain⟨p,rfl,hp,hg⟩:=zWV (l:=d) (i:=slot) (by omega) (by omega)
     have hz:d[p]? = some d[p]:=List.getElem?_eq_getElem hp;rw[hg]
     generalize d[p]=z at hz;obtain⟨x1,x2,x3,x4⟩:=z;simp only[cond_false,Option.bind_some]
     refine⟨_,rfl,fun h=>⟨_,p,_,rfl,rfl,hvb,hz,?_⟩,fun⟨v,s,z,h,hs,_,hz',hk⟩=>?_⟩
     ·have:=eq_of_beq h;exact List.eq_nil_of_length_eq_zero (by simp only[Nd.kids]; omega)
     ·cases h;obtain rfl:p=s :=(by omega);simp only[Nd.kids]at hz';rw[hz]at hz';cases hz';simp only[Nd.kids]at hk;subst hk
      rfl
theorem zNY (n:Nat) (k:Int) (row:List Int) (a m:Int) (nodes:List Nd) (slot:Int) (old text:List UInt8) (h:Nd.ws nodes+50<n) (hb:Nd.ws nodes<=67000000) :
  ∃ b,zEz n (k,row,a,m,nodes,slot,old,text)=some b/\(b=true↔FormP (k,row,a,m,nodes,slot,old,text)):=by
 have hv:=zGx n nodes h hb;obtain⟨tb,t1,t2⟩:=zQ9 n nodes slot h hb;have hlen:decide (0<(nodes.length:Int))=true↔nodes ≠ [] :=(by cases nodes <;> simp);have hlen0:((nodes.length:Int) == 0)=true↔nodes=[] :=(by cases nodes <;> simp <;> omega);have htx:(bif (!(old == [])) then some true else some (!(text == [])):Option Bool)=some (!((old == [])&&(text == []))) :=(by cases old == [] <;> cases text == [] <;> rfl);unfold zEz;simp only[hv,t1,htx,Option.bind_some,FormP]
 by_cases k12:k=1∨k=2
 ·have e:(bif (k == 1) then some (k == 1) else some (k == 2):Option Bool)=some true:=by rcases k12 with rfl | rfl <;> rfl
  have hk:¬ (k=3∨k=4)/\¬ k=5 :=(by omega);rw[e]
  simp only[Option.bind_some,cond_true,k12,hk.1,hk.2,true_and,false_and,or_false]
  rw[← hlen]
  generalize decide (0<(nodes.length:Int))=b1;generalize zAJ (rowN nodes)=b2;cases e1:m == 0 <;> simp only[cond_true,cond_false,Option.bind_some]
  ·exact⟨false,rfl,by simp[beq_eq_false_iff_ne.1 e1]⟩
  cases e2:slot == 0 <;> simp only[cond_true,cond_false,Option.bind_some]
  ·exact⟨false,rfl,by simp[beq_eq_false_iff_ne.1 e2]⟩
  cases e3:old == [] <;> simp only[Bool.false_and,Bool.true_and,Bool.not_false,Bool.not_not,cond_true,cond_false,Option.bind_some]
  ·exact⟨false,rfl,by simp[beq_eq_false_iff_ne.1 e3]⟩
  cases e4:text == [] <;> simp only[Bool.not_true,Bool.not_false,cond_true,cond_false,Option.bind_some]
  ·exact⟨false,rfl,by simp[beq_eq_false_iff_ne.1 e4]⟩
  rw[eq_of_beq e1,eq_of_beq e2,eq_of_beq e3,eq_of_beq e4]
  cases b1 <;> cases b2 <;> exact⟨_,rfl,by simp⟩
 ·have e:(bif (k == 1) then some (k == 1) else some (k == 2):Option Bool)=some false:=by
   rw[zB7 (fun h=>k12 (.inl h)),zB7 (fun h=>k12 (.inr h))]; rfl
  rw[e]
  simp only[Option.bind_some,cond_false,k12,false_and,false_or]
  by_cases k34:k=3∨k=4
  ·have e:(bif (k == 3) then some (k == 3) else some (k == 4):Option Bool)=some true:=by rcases k34 with rfl | rfl <;> rfl
   have hk:¬ k=5 :=(by omega);rw[e]
   simp only[Option.bind_some,cond_true,k34,hk,true_and,false_and,or_false]
   rw[← t2]
   by_cases hm:0<=m
   ·rw[zAO hm]
    simp only[cond_true]
    cases e3:old == [] <;> simp only[Bool.false_and,Bool.true_and,Bool.not_false,Bool.not_not,cond_true,cond_false,Option.bind_some]
    ·exact⟨false,rfl,by simp[beq_eq_false_iff_ne.1 e3]⟩
    cases e4:text == [] <;> simp only[Bool.not_true,Bool.not_false,cond_true,cond_false,Option.bind_some]
    ·exact⟨false,rfl,by simp[beq_eq_false_iff_ne.1 e4]⟩
    rw[eq_of_beq e3,eq_of_beq e4]
    exact⟨_,rfl,by simp[hm]⟩
   ·rw[zAM hm]
    exact⟨false,rfl,by simp[hm]⟩
  ·have e:(bif (k == 3) then some (k == 3) else some (k == 4):Option Bool)=some false:=by
    rw[zB7 (fun h=>k34 (.inl h)),zB7 (fun h=>k34 (.inr h))]; rfl
   rw[e]
   simp only[Option.bind_some,cond_false,k34,false_and,false_or]
   by_cases k5:k=5
   ·subst k5;simp only[beq_self_eq_true,cond_true,Option.bind_some,true_and]
    rw[← hlen0]
    generalize ((nodes.length:Int) == 0)=b1;cases e1:m == 0 <;> simp only[cond_true,cond_false,Option.bind_some]
    ·exact⟨false,rfl,by simp[beq_eq_false_iff_ne.1 e1]⟩
    cases e2:slot == 0 <;> simp only[cond_true,cond_false,Option.bind_some]
    ·exact⟨false,rfl,by simp[beq_eq_false_iff_ne.1 e2]⟩
    rw[eq_of_beq e1,eq_of_beq e2]
    cases b1 <;> simp only[cond_true,cond_false,Option.bind_some]
    ·exact⟨false,rfl,by simp⟩
    cases e0:old == text <;> simp only[Bool.not_true,Bool.not_false]
    ·exact⟨true,rfl,by simp[beq_eq_false_iff_ne.1 e0]⟩
    ·exact⟨false,rfl,by simp[eq_of_beq e0]⟩
   ·rw[zB7 k5]
    exact⟨false,rfl,by simp[k5]⟩
theorem zU7 (k:Int) (row:List Int) (a m:Int) (nodes:List Nd) (slot:Int) (old text:List UInt8) (l:List Nd) (hl:l.length<=1073741824) :
  zBZ ((k,row,a,m,nodes,slot,old,text),l)=some (if a<0∨(l.length:Int)<a∨(l.length:Int) - a<zDU k m nodes then 2 else 0):=by
 unfold zBZ;dsimp only;rw[zTD]
 simp only[Option.bind_some]
 by_cases h1:a<0
 ·rw[zAO h1,if_pos (.inl h1)]; rfl
 rw[zAM h1]
 by_cases h2:(l.length:Int)<a
 ·rw[zAO h2,if_pos (.inr (.inl h2))]; rfl
 rw[zAM h2,wrap64_in (n:=(l.length:Int) - a) (by omega) (by omega)]
 by_cases h3:(l.length:Int) - a<zDU k m nodes
 ·rw[zAO h3,if_pos (.inr (.inr h3))]; rfl
 rw[zAM h3,if_neg (fun h=>h.elim h1 fun h=>h.elim h2 h3)]; rfl
theorem zWa {v it z:Nd}{s:Nat}{y:Nd} (hv:v.kids[s]? = some y) (hy:y=rowN []) (hz:it.kids[s]? = some z) (hzr:z=rowN z.kids):Nd.mk it.kind it.text it.cols (it.kids.set s (rowN []))=v↔it=zHY v s z.kids:=by
 obtain⟨v1,v2,v3,v4⟩:=v;obtain⟨i1,i2,i3,i4⟩:=it;obtain⟨z1,z2,z3,z4⟩:=z;obtain⟨rfl,rfl,rfl,-⟩:=Nd.mk.inj hzr
 clear hzr
 simp only[Nd.kids]at hv hz;simp only[zHY,Nd.kind,Nd.text,Nd.cols,Nd.kids]
 subst hy
 constructor
 ·intro h;obtain⟨rfl,rfl,rfl,rfl⟩:=Nd.mk.inj h;rw[List.set_set]
  congr 1
  have:=zL9 (y:=.mk 1 [] 0 z4) hz;rw[List.set_set]at this;exact this.symm
 ·intro h;obtain⟨rfl,rfl,rfl,rfl⟩:=Nd.mk.inj h;rw[List.set_set]
  congr 1
  have:=zL9 (y:=rowN []) hv;rw[List.set_set]at this;exact this
theorem zMJ (n:Nat) (l:List Nd) (k:Int) (row:List Int) (a m:Int) (nodes:List Nd) (slot:Int) (old text:List UInt8) (hf:FormP (k,row,a,m,nodes,slot,old,text)) (hv:zEr 1 l=true) (hn:2 * Nd.ws l+2 * Nd.ws nodes+50<n) (ha:Nd.ws l<=60000000) (hb:Nd.ws nodes<=2000000) :
  ∃ l' e,zCe n ((k,row,a,m,nodes,slot,old,text),l)=some (l',e)/\Chg l (k,row,a,m,nodes,slot,old,text) l' e:=by
 have la:=Nd.ws_len l;have lb:=Nd.ws_len nodes;have cl:=Nd.cnts_ws l;have cb:=Nd.cnts_ws nodes;have hnn:=zSK hf;unfold zCe;simp only[zU7 _ _ _ _ _ _ _ _ l (show l.length<=1073741824 by omega),Option.bind_some]
 by_cases hr:a<0∨(l.length:Int)<a∨(l.length:Int) - a<zDU k m nodes
 ·rw[if_pos hr]; exact⟨[],2,rfl,.range hr⟩
 rw[if_neg hr]
 simp only[show((0:Int) != 0)=false from rfl,cond_false]
 have h1:¬ a<0:=fun h=>hr (.inl h)
 have h2:¬ (l.length:Int)<a:=fun h=>hr (.inr (.inl h))
 have h3:¬ (l.length:Int) - a<zDU k m nodes:=fun h=>hr (.inr (.inr h))
 obtain⟨p,rfl⟩:=Int.eq_ofNat_of_zero_le (show 0<=a by omega)
 obtain⟨y,hy⟩:=Int.eq_ofNat_of_zero_le hnn;rw[hy]at h3;have hseg:=zW3 l (Nat.le_add_right p y)
 have lseg:=Nd.ws_len ((l.take (p+y)).drop p)
 have cseg:=Nd.cnts_ws ((l.take (p+y)).drop p)
 have hj:∀ by':List Nd,by'.length<=500000000->zA3 n ((k,row,(p:Int),m,nodes,slot,old,text),l) (y:Int) by'=some (splS l p (p+y) by'):=fun by' hby=>zXp n k row p y m nodes slot old text l by' (by omega) (by omega) (by omega) hby
 rcases hf with ⟨rfl | rfl,h0⟩ | ⟨rfl | rfl,hm,⟨v,s,z,rfl,rfl,hvv,hz,hzk⟩,_⟩ | ⟨rfl,h0⟩
 ·obtain rfl:y=0 :=(by have:zDU 1 m nodes=0:=rfl; omega);rw[show((0:Nat):Int)=0 from rfl]at hj;simp only[beq_self_eq_true,cond_true,zCK,hj nodes (by omega),Option.bind_some]
  exact⟨_,0,rfl,.ins (by omega)⟩
 ·obtain rfl:y=nodes.length :=(by have:zDU 2 m nodes=(nodes.length:Int):=rfl; omega);obtain⟨r,g1,g2⟩:=(zHy n).2 ((l.take (p+nodes.length)).drop p) nodes (by omega) (by omega)
  simp only[show((2:Int) == 1)=false from rfl,cond_false,beq_self_eq_true,cond_true,zCL]
  rw[wrap64_in (n:=(p:Int)+(nodes.length:Int)) (by omega) (by omega),← Int.natCast_add,zCc ⟨by omega,by omega,by omega⟩,Int.toNat_natCast,Int.toNat_natCast,g1]
  simp only[Option.bind_some]
  cases r with
  | false=>exact⟨[],7,rfl,.del_no (by omega) fun e=>by have:=g2.2 e; cases this⟩
  | true =>
   simp only[Bool.not_true,cond_false,hj [] (by simp),Option.bind_some]
   exact⟨_,0,rfl,.del (by omega) (g2.1 rfl)⟩
 ·obtain rfl:m=(y:Int):=hy;obtain⟨hvk,hzr⟩:=zQl (zJV hvv) List.mem_cons_self hz;rw[hzk]at hzr;have hv0:at? [v] (0:Int)=some v:=rfl;have hcv:=Nd.cnts_mem (List.mem_cons_self (a:=v) (l:=[]))
  have hd:zCO v=some v:=zCc ⟨by omega,fun e=>by rw[e]at hz; simp at hz⟩
  have hza:=zMF hz;have hcl:zD1 ((l.take (p+y)).drop p)=some ((l.take (p+y)).drop p):=zCc (by omega)
  have hj':=hj [zHY v s ((l.take (p+y)).drop p)] (by simp)
  have hfx:zHY v s ((l.take (p+y)).drop p)=Nd.mk v.kind v.text v.cols (v.kids.set s (rowN ((l.take (p+y)).drop p))):=rfl;rw[hfx]at hj';have hC:=Chg.wrap (l:=l) (row:=row) (p:=p) (m:=y) (v:=v) (s:=s) (old:=old) (text:=text) (by omega)
  have hfx2:zHY v s (segS l p (p+y))=Nd.mk v.kind v.text v.cols (v.kids.set s (rowN ((l.take (p+y)).drop p))):=rfl;rw[hfx2]at hC;subst hzr;obtain⟨v1,v2,v3,v4⟩:=v;simp only[Nd.kind,Nd.text,Nd.cols,Nd.kids]at hza hj' hC;unfold rowN at hza;simp only[show((3:Int) == 1)=false from rfl,show((3:Int) == 2)=false from rfl,cond_false,beq_self_eq_true,cond_true,zDo,hv0,hd,Option.bind_some]
  rw[wrap64_in (n:=(p:Int)+(y:Int)) (by omega) (by omega),← Int.natCast_add,zCc ⟨by omega,by omega,by omega⟩,Int.toNat_natCast,Int.toNat_natCast,hcl]
  simp only[Option.bind_some,hza,Int.toNat_natCast]
  unfold rowN at hj' hC;rw[hj']
  exact⟨_,0,rfl,hC⟩
 ·obtain rfl:y=1 :=(by have:zDU 4 m [v]=1:=rfl; omega);obtain⟨hvk,hzr⟩:=zQl (zJV hvv) List.mem_cons_self hz;rw[hzk]at hzr;have hv0:at? [v] (0:Int)=some v:=rfl;have hpl:p<l.length :=(by omega);have hit:l[p]? = some l[p]:=List.getElem?_eq_getElem hpl;have hia:at? l (p:Int)=some l[p]:=zA7 hpl;have hmem:=List.getElem_mem hpl;generalize l[p]=it at hit hia hmem;have hiw:=Nd.w_mem hmem;have hic:=Nd.cnt_w it;have hik:=zRp hv hmem;have hslots:=zTh it hik;have hdn:zAS it=some it:=zGK (by omega)
  have hwi:=zGB it;have hlk4:=Nd.ws_len it.kids;simp only[show((4:Int) == 1)=false from rfl,show((4:Int) == 2)=false from rfl,show((4:Int) == 3)=false from rfl,cond_false,beq_self_eq_true,cond_true]
  have hnone:zBm ((4,row,(p:Int),m,[v],(s:Int),old,text),l)=if (it.kids.length:Int)<=(s:Int) then some ([],7) else none:=by
   unfold zBm;simp only[hia]
   by_cases h:(it.kids.length:Int)<=(s:Int)
   ·rw[if_pos h]
    obtain⟨i1,i2,i3,i4⟩:=it;simp only[Nd.kids]at h hslots;simp only[Option.bind_some,hdn,hslots,zAO h]; rfl
   ·rw[if_neg h]
    obtain⟨i1,i2,i3,i4⟩:=it;simp only[Nd.kids]at h hslots;simp only[Option.bind_some,hdn,hslots,zAM h]; rfl
  by_cases hsl:(it.kids.length:Int)<=(s:Int)
  ·have:zBe n ((4,row,(p:Int),m,[v],(s:Int),old,text),l)=some ([],7):=by
    unfold zBe;rw[hnone,if_pos hsl]
   rw[this]
   refine⟨[],7,rfl,.unwrap_no hit fun z' hz'=>?_⟩
   have:=(List.getElem?_eq_some_iff.1 hz').1
   omega
  have hsi:s<it.kids.length :=(by omega);have hzi:it.kids[s]? = some it.kids[s]:=List.getElem?_eq_getElem hsi;generalize it.kids[s]=z' at hzi;obtain⟨_,hzr'⟩:=zQl hv hmem hzi;have hzw:=Nd.w_mem (List.mem_of_getElem? hzi)
  have hzw2:=zGB z';have hzl:=Nd.ws_len z'.kids;have hfi:=zWa hz hzr hzi hzr';have hws:=zNE (y:=rowN []) hzi;have hj':=hj z'.kids (by omega)
  rw[show((1:Nat):Int)=1 from rfl]at hj';have hcs:(Nd.mk it.kind it.text it.cols (it.kids.set s (rowN []))).cnt<=it.w+1:=by
   have h1:=Nd.cnt_w (Nd.mk it.kind it.text it.cols (it.kids.set s (rowN [])))
   have e:(rowN []).w=1:=rfl;simp only[Nd.w]at h1
   omega
  obtain⟨rb,g1,g2⟩:=(zHy n).1 (Nd.mk it.kind it.text it.cols (it.kids.set s (rowN []))) v (by omega) (by omega)
  have hdo:zCO it=some it:=zCc ⟨by omega,fun e=>by rw[e]at hzi; simp at hzi⟩
  have hza:=zMF hzi;have hkids:∃ l' e,zBl n ((4,row,(p:Int),m,[v],(s:Int),old,text),l)=some (l',e)/\Chg l (4,row,(p:Int),m,[v],(s:Int),old,text) l' e:=by
   unfold zBl;obtain⟨i1,i2,i3,i4⟩:=it;obtain⟨v1,v2,v3,v4⟩:=v;obtain⟨z1,z2,z3,z4⟩:=z';obtain⟨rfl,rfl,rfl,-⟩:=Nd.mk.inj hzr';simp only[Nd.kind,Nd.text,Nd.cols,Nd.kids]at hza g1 hslots hj' hsl;simp only[hia,Option.bind_some,hdo,hslots,zAM hsl,cond_false,hza,hv0,Int.toNat_natCast]
   by_cases hmz:(z4.length:Int)=m
   ·have:((z4.length:Int) != m)=false :=(by unfold bne; rw[beq_iff_eq.2 hmz]; rfl);unfold rowN at g1;rw[this]
    simp only[cond_false,g1,Option.bind_some]
    cases rb with
    | false =>
     refine⟨[],7,rfl,.unwrap_no hit fun z'' hz'' hm'' he=>?_⟩
     rw[hzi]at hz'';cases hz'';have:=g2.2 (hfi.2 he)
     cases this
    | true =>
     simp only[Bool.not_true,cond_false,hj',Option.bind_some]
     exact⟨_,0,rfl,.unwrap (z:=.mk 1 [] 0 z4) hit hzi hmz (hfi.1 (g2.1 rfl))⟩
   ·have:((z4.length:Int) != m)=true:=bne_iff_ne.2 hmz;rw[this]
    refine⟨[],7,rfl,.unwrap_no hit fun z'' hz'' hm'' he=>?_⟩
    rw[hzi]at hz'';cases hz'';exact hmz hm''
  obtain⟨l',e,h4,h5⟩:=hkids;have:zBe n ((4,row,(p:Int),m,[v],(s:Int),old,text),l)=some (l',e):=by
   unfold zBe;rw[hnone,if_neg hsl]
   exact h4
  rw[this]
  exact⟨l',e,rfl,h5⟩
 ·obtain rfl:y=1 :=(by have:zDU 5 m nodes=1:=rfl; omega);have hpl:p<l.length :=(by omega);have hit:l[p]? = some l[p]:=List.getElem?_eq_getElem hpl;have hia:at? l (p:Int)=some l[p]:=zA7 hpl;generalize l[p]=it at hit hia;obtain⟨i1,i2,i3,i4⟩:=it;rw[show((1:Nat):Int)=1 from rfl]at hj;simp only[show((5:Int) == 1)=false from rfl,show((5:Int) == 2)=false from rfl,show((5:Int) == 3)=false from rfl,show((5:Int) == 4)=false from rfl,cond_false,zDL,hia,Option.bind_some,zTw]
  cases hlf:zUe i1 with
  | false=>exact⟨[],7,rfl,.set_no hit fun h=>by have:=h.1; simp only[Nd.kind]at this; rw[hlf]at this; cases this⟩
  | true =>
   simp only[cond_true,Option.bind_some]
   cases ht:i2 == old with
   | false=>exact⟨[],7,rfl,.set_no hit fun h=>beq_eq_false_iff_ne.1 ht h.2⟩
   | true =>
    simp only[Bool.not_true,cond_false,hj [Nd.mk i1 text i3 i4] (by simp),Option.bind_some]
    exact⟨_,0,rfl,.set (it:=.mk i1 i2 i3 i4) hit hlf (eq_of_beq ht)⟩
theorem zKq (n:Nat) (t:Nd) (o:Op8) (hn:200000000<n) (ht:t.w<=50000000) (hb:Nd.ws o.nodes<=2000000) (hx:o.2.2.2.2.2.2.2.length<=2000000):∃ t' e,zEs n t o=some (t',e)/\App t o t' e:=by
 obtain⟨k,row,a,m,nodes,slot,old,text⟩:=o;simp only[Op8.nodes]at hb;dsimp only at hx;have v1:=zB3 n t (by omega) (by omega)
 have ct:=Nd.cnt_w t;obtain⟨b,f1,f2⟩:=zNY n k row a m nodes slot old text (by omega) (by omega)
 have e1:=zSL n t row v1 (by omega)
 have hwith:∀ r l,Fd t row r->Nd.ws l<=5000000+r.w->zEZ n t row (rowN l)=some (zTf t row (rowN l)):=fun r l h hl=>by
  have hs:=h.small;have hc:(rowN l).w=Nd.ws l+1 :=(by simp[rowN,Nd.w]);refine zRA n t row (rowN l) v1 (zB3 n _ (by omega) (by omega)) (fun z hz=>?_) (by omega) (by have:=Nd.cnt_w (rowN l); omega)
  obtain rfl:=h.det hz;have:=h.w (rowN l)
  exact zB3 n _ (by omega) (by omega)
 obtain⟨t1,t2,t3,t4⟩:=t;unfold zEs;simp only[v1,f1,e1,Option.bind_some]
 cases hv:zAJ (.mk t1 t2 t3 t4) with
 | false=>exact⟨_,1,rfl,.arg hv⟩
 | true =>
  simp only[Bool.not_true,cond_false]
  cases b with
  | false=>exact⟨_,4,rfl,.form hv fun h=>by have:=f2.2 h; cases this⟩
  | true =>
   have hf:=f2.1 rfl;simp only[Bool.not_true,cond_false,rowS,if_pos hv]
   cases hfd:zBE (.mk t1 t2 t3 t4) row with
   | none=>exact⟨_,8,rfl,.none hv hf hfd⟩
   | some r =>
    have hr':=zXn hfd;have hsm:=hr'.small;have hwr:=zGB r;have hvr:=hr'.valid hv;have hrr:=(zKL hvr).1;have hfr:=(zKL hvr).2;obtain⟨l',e,c1,c2⟩:=zMJ n r.kids k row a m nodes slot old text hf hfr (by omega) (by omega) (by omega)
    obtain⟨r1,r2,r3,r4⟩:=r;obtain⟨rfl,rfl,rfl,-⟩:=Nd.mk.inj hrr;simp only[Nd.kids]at c1 c2 hwr;simp only[Option.bind_some,show((0:Int) != 0)=false from rfl,cond_false,c1]
    by_cases he:e=0
    ·subst he;have hcw:=c2.w;have hw:=hwith _ l' hr' (by omega)
     unfold rowN at hw;simp only[show((0:Int) != 0)=false from rfl,cond_false,hw,Option.bind_some]
     cases hvo:zAJ (putL (.mk t1 t2 t3 t4) row (rowN l')) with
     | false =>
      have hL:=App.limit (t:=.mk t1 t2 t3 t4) (o:=(k,row,a,m,nodes,slot,old,text)) hv hf hr' c2 hvo;have hws:∃ q,zTf (.mk t1 t2 t3 t4) row (.mk 1 [] 0 l')=(zDq,q)/\q ≠ 0:=by
       unfold zTf;rw[if_pos hv,hfd]
       dsimp only
       by_cases h:zAJ (.mk 1 [] 0 l')=true
       ·rw[if_pos h]
        unfold rowN at hvo;rw[hvo,if_neg (by decide)]
        exact⟨6,rfl,by decide⟩
       ·rw[if_neg h]; exact⟨4,rfl,by decide⟩
      obtain⟨q,hq,hq0⟩:=hws;rw[hq]
      have:(q != 0)=true:=bne_iff_ne.2 hq0;simp only[zDq,this,cond_true]
      exact⟨_,6,rfl,hL⟩
     | true =>
      have hO:=App.ok (t:=.mk t1 t2 t3 t4) (o:=(k,row,a,m,nodes,slot,old,text)) hv hf hr' c2 hvo;have hvl:=(hr'.put (rowN l')).valid hvo;have hws:=zWR (r:=rowN l') hv hfd hvl hvo;unfold rowN at hws;rw[hws]
      dsimp only at hO;unfold rowN at hO;generalize putL (Nd.mk t1 t2 t3 t4) row (Nd.mk 1 [] 0 l')=Z at *;obtain⟨q1,q2,q3,q4⟩:=Z;exact⟨_,0,rfl,hO⟩
    ·have:(e != 0)=true:=bne_iff_ne.2 he;simp only[this,cond_true]
     exact⟨_,e,rfl,.chg (t:=.mk t1 t2 t3 t4) (o:=(k,row,a,m,nodes,slot,old,text)) hv hf hr' c2 he⟩
theorem App.w {t t':Nd}{o:Op8}{e:Int} (h:App t o t' e):t'.w<=t.w+Nd.ws o.nodes+o.2.2.2.2.2.2.2.length+4:=by
 have hz:zDq.w=1:=rfl;obtain⟨k,row,a,m,nodes,slot,old,text⟩:=o;simp only[Op8.nodes]
 cases h with
 | arg=>omega
 | form=>omega
 | none=>omega
 | chg=>omega
 | limit=>omega
 | @ok r l h hf hr hc hv =>
  have h1:=hr.w (rowN l)
  have h2:=hc.w;have h3:=zGB r;have h4:(rowN l).w=Nd.ws l+1 :=(by simp[rowN,Nd.w]);dsimp only at h1 ⊢
  omega
def Op8.row (o:Op8):List Int:=o.2.1
def Op8.text (o:Op8):List UInt8:=o.2.2.2.2.2.2.2
theorem zXf (n:Nat) (t:Nd) (o:Op8) (hn:200000000<n) (ht:t.w<=50000000) (hb:Nd.ws o.nodes<=2000000) (hx:o.text.length<=2000000) (hr:o.row.length<=2000000) :
  ∃ t' e,zEs n t o=some (t',e)/\zE1 n t o=some (t',e)/\App t o t' e:=by
 obtain⟨t1,e1,f1,g1⟩:=zKq n t o hn ht hb hx;obtain⟨t2,e2,f2,g2⟩:=zR0 n t o hn ht hb hx hr;obtain⟨rfl,rfl⟩:=g1.det g2;exact⟨_,_,f1,f2,g1⟩
inductive Runs:Nd->List Op8->Nd->Int->Prop
 | nil (t:Nd):Runs t [] t 0
 | stop {t t':Nd} {o:Op8} {ops:List Op8} {e:Int} (h:App t o t' e) (he:e ≠ 0):Runs t (o::ops) zDq e
 | next {t t' u:Nd} {o:Op8} {ops:List Op8} {e:Int} (h:App t o t' 0) (hr:Runs t' ops u e):Runs t (o::ops) u e
def endOf (f:Fl (Nd×Int×Int) (Int×List UInt8×Int×List Nd)):Nd×Int×Int:=match f with
 | .ret r=>r
 | .go (a,b,c,d)=>(.mk a b c d,0,0)
theorem zTk (n:Nat) (hn:200000000<n){ops:List Op8} (ho:∀ o∈ops,Nd.ws o.nodes+o.text.length+o.row.length<=1048576) (hl:ops.length<=12):∀ (k i:Nat) (t:Nd),ops.length - i<k->i<=ops.length->t.w<=17000000+i * 1048580 ->
  ∃ f,zA8 n ops k t.kind t.text t.cols t.kids (i:Int)=some f/\zBG n ops k t.kind t.text t.cols t.kids (i:Int)=some f/\Runs t (ops.drop i) (endOf f).1 (endOf f).2.2/\(endOf f).1.w<=36000000
 | 0,i,t,h,_,_=>by omega
 | k+1,i,t,h,hi,hw=>by
  unfold zA8 zBG
  by_cases hj:i<ops.length
  ·have hb:=ho _ (List.getElem_mem hj)
   have hd:=List.drop_eq_getElem_cons hj;obtain⟨t',e,g1,g2,g3⟩:=zXf n t ops[i] hn (by omega) (by omega) (by omega) (by omega)
   have hw':=g3.w;rw[zAO (Int.ofNat_lt.2 hj),zA7 hj,hd]
   simp only[cond_true]
   generalize ops[i]=o at *;obtain⟨q1,q2,q3,q4,q5,q6,q7,q8⟩:=o;obtain⟨t1,t2,t3,t4⟩:=t;have ih:=zTk n hn ho hl k (i+1) t' (by omega) (by omega) (by simp only[Op8.text]at hb; dsimp only at hw' hb; simp only[Nat.add_mul]; omega)
   obtain⟨u1,u2,u3,u4⟩:=t';simp only[Nd.kind,Nd.text,Nd.cols,Nd.kids]at ih ⊢;simp only[Option.bind_some,g1,g2]
   by_cases he:e=0
   ·subst he;simp only[show((0:Int) != 0)=false from rfl,cond_false,zAR (show i<9223372036854775807 by omega)]
    obtain⟨f,h1,h2,h3,h4⟩:=ih;exact⟨f,h1,h2,.next g3 h3,h4⟩
   ·have hne:(e != 0)=true:=bne_iff_ne.2 he;simp only[hne,cond_true]
    exact⟨_,rfl,rfl,.stop g3 he,by show zDq.w<=36000000; decide⟩
  ·rw[zAM (by omega),List.drop_eq_nil_iff.2 (by omega)]
   obtain⟨t1,t2,t3,t4⟩:=t;simp only[cond_false]
   refine⟨_,rfl,rfl,.nil _,?_⟩
   show(Nd.mk t1 t2 t3 t4).w<=36000000;have:i * 1048580<=12 * 1048580:=Nat.mul_le_mul_right _ (by omega)
   omega
inductive zVZ (t:Nd) (ops:List Op8):Nd->Int->Prop
 | bad (h:zAJ t=false):zVZ t ops zDq 1
 | go {u:Nd} {e:Int} (h:zAJ t=true) (hr:Runs t ops u e):zVZ t ops u e
theorem zXN (n:Nat) (t:Nd) (ops:List Op8) (hn:200000000<n) (ht:t.w<=17000000) (ho:∀ o∈ops,Nd.ws o.nodes+o.text.length+o.row.length<=1048576) (hl:ops.length<=12) :
  ∃ u i e,zA5 n t ops=some (u,i,e)/\zDi n t ops=some (u,i,e)/\zVZ t ops u e/\u.w<=36000000:=by
 have ct:=Nd.cnt_w t;have v1:=zB3 n t (by omega) (by omega)
 have v2:=zEv n t (by omega) (by omega)
 have hd:zAS t=some t:=zGK (by omega)
 obtain⟨f,h1,h2,h3,h4⟩:=zTk n hn ho hl n 0 t (by omega) (by omega) (by omega)
 rw[show((0:Nat):Int)=0 from rfl]at h1 h2;rw[List.drop_zero]at h3;obtain⟨t1,t2,t3,t4⟩:=t;simp only[Nd.kind,Nd.text,Nd.cols,Nd.kids]at h1 h2;unfold zA5 zDi;simp only[v1,v2,Option.bind_some,hd,h1,h2]
 cases hv:zAJ (.mk t1 t2 t3 t4) with
 | false=>exact⟨_,0,1,rfl,rfl,.bad hv,by decide⟩
 | true =>
  simp only[Bool.not_true,cond_false]
  cases f with
  | ret r =>
   obtain⟨u,i,e⟩:=r;exact⟨u,i,e,rfl,rfl,.go hv h3,h4⟩
  | go g =>
   obtain⟨a,b,c,d⟩:=g;exact⟨_,0,0,rfl,rfl,.go hv h3,h4⟩
theorem zVN (l b:List Nd){p q:Nat} (hp:p<=l.length):segS (splS l p q b) p (p+b.length)=b:=by
 have h:(l.take p).length=p :=(by rw[List.length_take]; omega);unfold segS splS;rw[List.append_assoc,List.take_append,List.take_of_length_le (by omega),h,show p+b.length - p=b.length by omega,List.take_left,List.drop_append,List.drop_of_length_le (by omega),h,Nat.sub_self]
 rfl
theorem zNA (l b c:List Nd){p q:Nat} (hp:p<=l.length):splS (splS l p q b) p (p+b.length) c=splS l p q c:=by
 have h:(l.take p).length=p :=(by rw[List.length_take]; omega);unfold splS;have e1:((l.take p++b)++l.drop q).take p=l.take p:=by
  rw[List.append_assoc,List.take_append,h,Nat.sub_self,List.take_take,Nat.min_self]; simp
 have e2:((l.take p++b)++l.drop q).drop (p+b.length)=l.drop q:=by
  rw[List.drop_append,List.length_append,h,Nat.sub_self,List.drop_of_length_le (by rw[List.length_append,h]; omega)]; simp
 rw[e1,e2]
theorem zNz (l:List Nd){p q:Nat} (hpq:p<=q):splS l p q (segS l p q)=l:=by
 unfold splS segS;have:l.take p++(l.take q).drop p=l.take q:=by
  have h:=List.take_append_drop p (l.take q)
  rw[List.take_take,Nat.min_eq_left hpq]at h;exact h
 rw[this,List.take_append_drop]
theorem zTd (l b:List Nd){p q:Nat} (hp:p<=q) (hq:q<=l.length):(splS l p q b).length+(q - p)=l.length+b.length:=by
 unfold splS;simp only[List.length_append,List.length_take,List.length_drop]
 omega
theorem zXE (l:List Nd){p q:Nat} (hp:p<=q) (hq:q<=l.length):(segS l p q).length=q - p:=by
 unfold segS;simp only[List.length_take,List.length_drop]
 omega
theorem zW2 {l:List Nd}{p:Nat}{it:Nd} (h:l[p]? = some it):segS l p (p+1)=[it]:=by
 have:=zTc l (List.getElem?_eq_some_iff.1 h).1;rw[segS,this,(List.getElem?_eq_some_iff.1 h).2]
theorem zW4 (l:List Nd){p q:Nat} (x:Nd) (hp:p<=l.length):(splS l p q [x])[p]? = some x:=by
 have h:(l.take p).length=p :=(by rw[List.length_take]; omega);unfold splS;rw[List.append_assoc,List.getElem?_append_right (by omega),h,Nat.sub_self]; rfl
theorem cnt_kids (v:Nd):v.cnt=Nd.cnts v.kids+1:=by cases v; simp only[Nd.cnt,Nd.kids]; try omega
def invO:Op8->Op8
 | (k,row,a,m,nodes,slot,old,text) =>
  (if k=1 then 2 else if k=2 then 1 else if k=3 then 4 else if k=4 then 3 else k,row,a,m,nodes,slot,if k=5 then text else old,if k=5 then old else text)
theorem FormP.inv {o:Op8} (h:FormP o):FormP (invO o):=by
 obtain⟨k,row,a,m,nodes,slot,old,text⟩:=o;rcases h with ⟨rfl | rfl,h⟩ | ⟨rfl | rfl,h⟩ | ⟨rfl,h1,h⟩
 ·exact .inl ⟨.inr rfl,h⟩
 ·exact .inl ⟨.inl rfl,h⟩
 ·exact .inr (.inl ⟨.inr rfl,h⟩)
 ·exact .inr (.inl ⟨.inl rfl,h⟩)
 ·exact .inr (.inr ⟨rfl,Ne.symm h1,h⟩)
theorem Chg.inv {l l':List Nd}{o:Op8} (hf:FormP o) (h:Chg l o l' 0):Chg l' (invO o) l 0:=by
 obtain⟨k,row,a,m,nodes,slot,old,text⟩:=o;cases h with
 | @ins _ p _ _ _ _ _ h =>
  have hl:=zTd l nodes (Nat.le_refl p) h;have h1:=zVN l nodes (q:=p) h;have h2:=zNA l nodes [] (q:=p) h;have h3:=zNz l (Nat.le_refl p)
  have h4:segS l p p=[] :=(by unfold segS; simp);rw[h4]at h3;have:=Chg.del (l:=splS l p p nodes) (row:=row) (p:=p) (m:=m) (nodes:=nodes) (slot:=slot) (old:=old) (text:=text) (by omega) h1;rw[h2,h3]at this;exact this
 | @del _ p _ _ _ _ _ h he =>
  have hl:=zTd l [] (Nat.le_add_right p nodes.length) h;have h2:=zNA l [] nodes (q:=p+nodes.length) (p:=p) (by omega)
  have h3:=zNz l (Nat.le_add_right p nodes.length)
  rw[he]at h3;simp only[List.length_nil,Nat.add_zero]at h2;have:=Chg.ins (l:=splS l p (p+nodes.length) []) (row:=row) (p:=p) (m:=m) (nodes:=nodes) (slot:=slot) (old:=old) (text:=text) (by simp only[List.length_nil]at hl; omega)
  rw[h2,h3]at this;exact this
 | @wrap _ p m v s _ _ h =>
  have ht:zTi [v] (s:Int):=by
   rcases hf with ⟨h0 | h0,_⟩ | ⟨_,_,h0,_⟩ | ⟨h0,_⟩
   ·cases h0
   ·cases h0
   ·exact h0
   ·cases h0
  obtain⟨v',s',z,e1,e2,_,hz,hk⟩:=ht;cases e1;obtain rfl:=Int.ofNat.inj e2;have h1:=zW4 l (q:=p+m) (zHY v s (segS l p (p+m))) (p:=p) (by omega)
  have h2:=zNA l [zHY v s (segS l p (p+m))] (segS l p (p+m)) (q:=p+m) (p:=p) (by omega)
  rw[zNz l (Nat.le_add_right p m)]at h2;have hk2:(zHY v s (segS l p (p+m))).kids[s]? = some (rowN (segS l p (p+m))):=zR7 hz;have hm:((rowN (segS l p (p+m))).kids.length:Int)=(m:Int):=by
   have:=zXE l (Nat.le_add_right p m) h;show((segS l p (p+m)).length:Int)=m
   omega
  have:=Chg.unwrap (row:=row) (v:=v) (old:=old) (text:=text) h1 hk2 hm rfl;rw[show(rowN (segS l p (p+m))).kids=segS l p (p+m) from rfl]at this;simp only[List.length_cons,List.length_nil,Nat.zero_add]at h2;rw[h2]at this;exact this
 | @unwrap _ p _ v it z s _ _ h hz hm he =>
  have hp:=(List.getElem?_eq_some_iff.1 h).1;have hl:=zTd l z.kids (Nat.le_add_right p 1) (by omega)
  have h1:=zVN l z.kids (q:=p+1) (p:=p) (by omega)
  have h2:=zNA l z.kids [zHY v s z.kids] (q:=p+1) (p:=p) (by omega)
  have h3:=zNz l (Nat.le_add_right p 1)
  rw[zW2 h,he]at h3;rw[h3]at h2;subst hm;have:=Chg.wrap (l:=splS l p (p+1) z.kids) (row:=row) (p:=p) (m:=z.kids.length) (v:=v) (s:=s) (old:=old) (text:=text) (by omega)
  rw[h1,h2]at this;exact this
 | @set _ p _ _ it _ _ _ h hl he =>
  have hp:=(List.getElem?_eq_some_iff.1 h).1;have h1:=zW4 l (q:=p+1) (.mk it.kind text it.cols it.kids) (p:=p) (by omega)
  have h2:=zNA l [.mk it.kind text it.cols it.kids] [it] (q:=p+1) (p:=p) (by omega)
  have h3:=zNz l (Nat.le_add_right p 1)
  rw[zW2 h]at h3;rw[h3]at h2;simp only[List.length_cons,List.length_nil,Nat.zero_add]at h2;have:=Chg.set (row:=row) (m:=m) (nodes:=nodes) (slot:=slot) (old:=text) (text:=old) h1 hl rfl;obtain⟨i1,i2,i3,i4⟩:=it;have he:i2=old:=he;subst he;simp only[Nd.kind,Nd.cols,Nd.kids]at this h2;rw[h2]at this;exact this
theorem zPJ (o:Op8):(invO o).2.1=o.2.1:=rfl
theorem App.inv {t t':Nd}{o:Op8} (h:App t o t' 0):App t' (invO o) t 0/\zAJ t'=true:=by
 cases h with
 | chg h hf hr hc he=>exact absurd rfl he
 | @ok r l h hf hr hc hv =>
  have hrr:=(zKL (hr.valid h)).1;have hput:=hr.put (rowN l)
  have hb:=hr.back (rowN l)
  have hci:=hc.inv hf;have:App (putL t o.2.1 (rowN l)) (invO o) (putL (putL t o.2.1 (rowN l)) (invO o).2.1 (rowN r.kids)) 0:=by
   refine App.ok hv hf.inv (r:=rowN l) (by rw[zPJ]; exact hput) hci ?_;rw[zPJ,show rowN r.kids=r from hrr.symm,hb]
   exact h
  rw[zPJ,show rowN r.kids=r from hrr.symm,hb]at this;exact⟨this,hv⟩
theorem zJW {t:Nd} (h:zAJ t=true):t.kind=1/\zF8 t=true/\t.cnt<=1000/\t.dep<=24:=by
 unfold zAJ at h;simp only[Bool.and_eq_true,decide_eq_true_eq]at h;exact⟨eq_of_beq h.1,h.2⟩
def opw (o:Op8):Nat:=Nd.ws o.nodes+o.text.length+4
def sw:List Op8->Nat
 | []=>0
 | o::l=>opw o+sw l
theorem zW5:∀ a b:List Op8,sw (a++b)=sw a+sw b
 | [],b=>by simp[sw]
 | o::a,b=>by simp only[List.cons_append,sw,zW5 a b]; omega
theorem zVQ:∀ l:List Op8,4 * l.length<=sw l
 | []=>Nat.zero_le _
 | o::l=>by
  have:=zVQ l;simp only[List.length_cons,sw,opw]
  omega
theorem zRf (n:Nat) (hn:200000000<n){ops:List Op8} (hl:ops.length<=10000000) (ho:∀ o∈ops,opw o<=1900000):∀ (k i:Nat) (t:Nd),ops.length - i<k->i<=ops.length->t.w+sw (ops.drop i)<=40000000 ->
  ∃ f,zA8 n ops k t.kind t.text t.cols t.kids (i:Int)=some f/\Runs t (ops.drop i) (endOf f).1 (endOf f).2.2/\((endOf f).2.2=0->(endOf f).2.1=0)
 | 0,i,t,h,_,_=>by omega
 | k+1,i,t,h,hi,hw=>by
  unfold zA8
  by_cases hj:i<ops.length
  ·have hd:=List.drop_eq_getElem_cons hj;have hs:=ho _ (List.getElem_mem hj)
   rw[hd]at hw;simp only[sw]at hw;unfold opw at hw hs;obtain⟨t',e,g1,g3⟩:=zKq n t ops[i] hn (by omega) (by omega) (by simp only[Op8.text]at hs; omega)
   have hw':=g3.w;rw[zAO (Int.ofNat_lt.2 hj),zA7 hj,hd]
   simp only[cond_true]
   generalize ops[i]=o at *;obtain⟨q1,q2,q3,q4,q5,q6,q7,q8⟩:=o;obtain⟨t1,t2,t3,t4⟩:=t;have ih:=zRf n hn hl ho k (i+1) t' (by omega) (by omega) (by simp only[Op8.text]at hw; dsimp only at hw' hw; omega)
   obtain⟨u1,u2,u3,u4⟩:=t';simp only[Nd.kind,Nd.text,Nd.cols,Nd.kids]at ih ⊢;simp only[Option.bind_some,g1]
   by_cases he:e=0
   ·subst he;simp only[show((0:Int) != 0)=false from rfl,cond_false,zAR (show i<9223372036854775807 by omega)]
    obtain⟨f,h1,h3,h4⟩:=ih;exact⟨f,h1,.next g3 h3,h4⟩
   ·have hne:(e != 0)=true:=bne_iff_ne.2 he;simp only[hne,cond_true]
    exact⟨_,rfl,.stop g3 he,fun h=>absurd h he⟩
  ·rw[zAM (by omega),List.drop_eq_nil_iff.2 (by omega)]
   obtain⟨t1,t2,t3,t4⟩:=t;simp only[cond_false]
   exact⟨_,rfl,.nil _,fun _=>rfl⟩
theorem zU4 (n:Nat) (t:Nd) (ops:List Op8) (hn:200000000<n) (hw:t.w+sw ops<=40000000) (ho:∀ o∈ops,opw o<=1900000) :
  ∃ u i e,zA5 n t ops=some (u,i,e)/\zVZ t ops u e/\(e=0->i=0):=by
 have ct:=Nd.cnt_w t;have sl:=zVQ ops;have v1:=zB3 n t (by omega) (by omega)
 have hd:zAS t=some t:=zGK (by omega)
 obtain⟨f,h1,h3,h4⟩:=zRf n hn (ops:=ops) (by omega) ho n 0 t (by omega) (by omega) (by rw[List.drop_zero]; exact hw)
 rw[show((0:Nat):Int)=0 from rfl]at h1;rw[List.drop_zero]at h3;obtain⟨t1,t2,t3,t4⟩:=t;simp only[Nd.kind,Nd.text,Nd.cols,Nd.kids]at h1;unfold zA5;simp only[v1,Option.bind_some,hd,h1]
 cases hv:zAJ (.mk t1 t2 t3 t4) with
 | false=>exact⟨_,0,1,rfl,.bad hv,fun h=>by cases h⟩
 | true =>
  simp only[Bool.not_true,cond_false]
  cases f with
  | ret r =>
   obtain⟨u,i,e⟩:=r;exact⟨u,i,e,rfl,.go hv h3,h4⟩
  | go g =>
   obtain⟨a,b,c,d⟩:=g;exact⟨_,0,0,rfl,.go hv h3,fun _=>rfl⟩
theorem zWG {t u u':Nd}{ops:List Op8}{e e':Int} (h:Runs t ops u e) (h':Runs t ops u' e'):u=u'/\e=e':=by
 induction h generalizing u' e' with
 | nil t=>cases h'; exact⟨rfl,rfl⟩
 | stop h he =>
  cases h' with
  | stop g _=>exact⟨rfl,(h.det g).2⟩
  | next g _=>exact absurd (h.det g).2 he
 | next h _ ih =>
  cases h' with
  | stop g he=>exact absurd (h.det g).2.symm he
  | next g gr =>
   obtain⟨rfl,_⟩:=h.det g;exact ih gr
theorem zON (n:Nat){l:List Nd} (hb:Nd.cnts l<=16777216):∀ (k i:Nat),l.length - i<k->i<=l.length->zBu l k (i:Int) (l.take i)=some l
 | 0,i,h,_=>by omega
 | k+1,i,h,hi=>by
  have hlen:=Nd.cnts_len l;unfold zBu
  by_cases hj:i<l.length
  ·have hm:=Nd.cnts_mem (List.getElem_mem hj)
   have hd:zAS l[i]=some l[i]:=zGK (by omega)
   have ht:l.take i++[l[i]]=l.take (i+1) :=(by rw[List.take_append_getElem hj]);rw[zAO (Int.ofNat_lt.2 hj),cond_true,zA7 hj]
   have ih:=zON n hb k (i+1) (by omega) (by omega)
   rw[← ht]at ih;generalize l[i]=v at *;obtain⟨v1,v2,v3,v4⟩:=v;simp only[Option.bind_some,hd]
   rw[zCc (by simp only[List.length_take,List.length_cons,List.length_nil]; omega),zAR (show i<9223372036854775807 by omega),ih]
  ·rw[zAM (by omega),cond_false,List.take_of_length_le (by omega)]
theorem zUF (n:Nat) (o:Op8) (hn:Nd.cnts o.nodes<n) (hb:Nd.cnts o.nodes<=16777216) (hr:o.row.length<=16777216):zB1 n o=some (invO o):=by
 obtain⟨k,row,a,m,nodes,slot,old,text⟩:=o;simp only[Op8.nodes,Op8.row]at hn hb hr;have hlen:=Nd.cnts_len nodes;have h1:zBH row=some row:=zCc (by omega)
 have h2:=zON n hb n 0 (by omega) (by omega)
 rw[show((0:Nat):Int)=0 from rfl,List.take_zero]at h2;unfold zB1 zFe zDy zFd;simp only[h1,h2,Option.bind_some]
 unfold invO;dsimp only
 by_cases k1:k=1
 ·subst k1; rfl
 by_cases k2:k=2
 ·subst k2; rfl
 by_cases k3:k=3
 ·subst k3; rfl
 by_cases k4:k=4
 ·subst k4; rfl
 by_cases k5:k=5
 ·subst k5; rfl
 rw[zB7 k1,zB7 k2,zB7 k3,zB7 k4,zB7 k5,if_neg k1,if_neg k2,if_neg k3,if_neg k4,if_neg k5,if_neg k5]
 rfl
theorem zO2 (r:List Int) (hl:r.length<=1073741824):∀ (k i:Nat),r.length - i<k->i<=r.length->zC6 r r k (i:Int)=some (.go ())
 | 0,i,h,_=>by omega
 | k+1,i,h,hi=>by
  unfold zC6
  by_cases hj:i<r.length
  ·rw[zAO (Int.ofNat_lt.2 hj),cond_true,zA7 hj]
   simp only[Option.bind_some,bne_self_eq_false,cond_false]
   rw[zAR (by omega),zO2 r hl k (i+1) (by omega) (by omega)]
  ·rw[zAM (by omega)]; rfl
theorem zVL (n:Nat) (o:Op8) (hn:2 * Nd.cnts o.nodes+10<n) (hc:Nd.cnts o.nodes<=67000000) (hr:o.row.length<=1073741824) (hrn:o.row.length<n):zFM n o o=some true:=by
 obtain⟨k,row,a,m,nodes,slot,old,text⟩:=o;simp only[Op8.nodes,Op8.row]at hn hc hr hrn;obtain⟨b,h1,h2⟩:=(zJY n).2 nodes nodes (by omega) (by omega)
 obtain rfl:=h2.2 rfl;have h3:=zO2 row hr n 0 (by omega) (by omega)
 rw[show((0:Nat):Int)=0 from rfl]at h3;unfold zFM;simp only[bne_self_eq_false,cond_false,beq_self_eq_true,Bool.not_true,Option.bind_some,h3,h1]
theorem zLI (n:Nat){ops:List Op8} (hs:∀ o∈ops,zFM n o o=some true) (hl:ops.length<=1073741824):∀ (k i:Nat),ops.length - i<k->i<=ops.length->zBY n ops ops k (i:Int)=some (.go ())
 | 0,i,h,_=>by omega
 | k+1,i,h,hi=>by
  unfold zBY
  by_cases hj:i<ops.length
  ·have h1:=hs _ (List.getElem_mem hj)
   rw[zAO (Int.ofNat_lt.2 hj),cond_true,zA7 hj]
   generalize ops[i]=o at *;obtain⟨k,row,a,m,nodes,slot,old,text⟩:=o;simp only[Option.bind_some,h1,Bool.not_true,cond_false]
   rw[zAR (by omega),zLI n hs hl _ (i+1) (by omega) (by omega)]
  ·rw[zAM (by omega)]; rfl
theorem zWA (l:List Op8){i:Nat} (hi:i<l.length):(l.map invO).reverse.take i++[invO l[l.length - 1 - i]]=(l.map invO).reverse.take (i+1):=by
 have hlen:i<(l.map invO).reverse.length :=(by simpa using hi);rw[← List.take_append_getElem hlen]
 congr 2
 rw[List.getElem_reverse,List.getElem_map]
 congr 2
 simp only[List.length_map]
theorem zI5 (n:Nat){ops:List Op8} (ho:∀ o∈ops,zB1 n o=some (invO o)) (hl:ops.length<=4294967296):∀ i,i<=ops.length->zA9 n ops i=some ((ops.map invO).reverse.take i)
 | 0,_=>by rw[List.take_zero]; rfl
 | i+1,hi=>by
  have hj:ops.length - 1 - i<ops.length :=(by omega);unfold zA9;rw[zI5 n ho hl i (by omega),List.getElem?_eq_getElem hj]
  simp only[Option.bind_some,ho _ (List.getElem_mem hj)]
  rw[zCc (by simp only[List.length_take,List.length_reverse,List.length_map]; omega),zWA ops (by omega)]
theorem zQt (n:Nat){ops:List Op8} (ho:∀ o∈ops,zB1 n o=some (invO o)) (hl:ops.length<=4294967296):zCo n ops=some (ops.map invO).reverse:=by
 unfold zCo;dsimp only;rw[zCc hl,zI5 n ho hl _ (Nat.le_refl _),List.take_of_length_le (by simp)]
theorem Runs.app {t u v:Nd}{a b:List Op8}{e:Int} (h:Runs t a u 0) (h2:Runs u b v e):Runs t (a++b) v e:=by
 generalize hz:(0:Int)=z at h
 induction h with
 | nil t=>exact h2
 | stop h he=>exact absurd hz.symm he
 | next h hr ih=>exact .next h (ih h2 hz)
theorem Runs.back {t u:Nd}{ops:List Op8} (h:Runs t ops u 0) (hv:zAJ t=true):Runs u (ops.map invO).reverse t 0/\zAJ u=true:=by
 generalize hz:(0:Int)=z at h
 induction h with
 | nil t=>exact⟨.nil t,hv⟩
 | stop h he=>exact absurd hz.symm he
 | next h hr ih =>
  subst hz;obtain⟨h1,h2⟩:=h.inv;obtain⟨h3,h4⟩:=ih h2 rfl;rw[List.map_cons,List.reverse_cons]
  exact⟨h3.app (.next h1 (.nil _)),h4⟩
theorem Runs.det {t u u':Nd}{ops:List Op8}{e e':Int} (h:Runs t ops u e) (h':Runs t ops u' e'):u=u'/\e=e':=by
 induction h generalizing u' e' with
 | nil t=>cases h'; exact⟨rfl,rfl⟩
 | stop h he =>
  cases h' with
  | stop g hg=>exact⟨rfl,(h.det g).2⟩
  | next g hr=>exact absurd (h.det g).2 he
 | next h hr ih =>
  cases h' with
  | stop g hg=>exact absurd (h.det g).2.symm hg
  | next g hr' =>
   obtain⟨rfl,_⟩:=h.det g;exact ih hr'
end Go.Proofs.YtgplhldfbkmmgaaGreat
