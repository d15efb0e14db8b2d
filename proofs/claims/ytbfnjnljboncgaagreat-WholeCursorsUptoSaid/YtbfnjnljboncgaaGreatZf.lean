/-
  Joined out of: WzHA, WzHB, WzHC, WzHD, PCnt, PByte, PText.
-/
import Derived.Test.YtbfnjnljboncgaaGreatZe
open List
open Go.IntKind (i16 i32 i64 i8 u16 u32 u64 u8)
open Go.Proofs.Tryz
set_option linter.unusedVariables false
set_option linter.unusedSimpArgs false
set_option maxHeartbeats 2000000
set_option maxRecDepth 100000
namespace Go.Proofs.YtbfnjnljboncgaaGreat
open Go.Abs
def zTZ (xs:List AV) (r:Ret):Prop:=∃ a0 y0,zA2 a0=some y0/\xs=[.s (.sl 4 (Nd.encs a0))]/\r = .val (.agg ((Nd.enc y0).map .s))
def zC4:zAr:=zAu fun xs r=>zTZ xs r
theorem zC2:PSound prog 25 zC4:=by
 have gok:=@gok0 prog;refine psq tokW call25 func25 rfl ?_;rintro xs r w0 G0 ⟨l1,y0,h,rfl,rfl⟩ _;rw[zA2]at h;refine yBn [2] [] rfl ?_;exact gG
variable (n:Nat) (xs:List AV) (r:Ret)
def zHj:Prop:=∃ a0 a1 y0,zD4 n a0 a1=some y0/\xs=[.agg ((Nd.enc a0).map .s),nI a1]/\r = .val (nI y0)
theorem zRG (n:Nat) (ih:PSound prog 48 (zAu (zHj n))):PSound prog 48 (zAu (zHj (n+1))):=by
 have gok:=gk1 ih<|gk0
 refine psq tokW call48 func48 rfl ?_;rintro xs r w0 G0 ⟨⟨n1A,n1C,n1D,n1B⟩,most2,y0,h,rfl,rfl⟩ _;rw[zD4]at h;refine yCp ?_;refine yCp ?_;refine zAa<|yCp ?_;show Tri ..;obtain⟨most5,hl,h⟩:=zAc h;refine pL [(1,nI most5)] ?_ (fun σ' hle=>?_)
 ·refine zAk (zAA (X:=Nat×Int×Int) (fun y=>match y with | (k,most3,i4)=>⟨ofL [(1,nI most3),(2,pN n1A n1C n1D n1B),(5,nI i4)],fun _=>none,0⟩) (fun y=>zCG (zD4 n) n1B y.1 y.2.1 y.2.2=some most5) (fun y=>y.1) (n,i64.wrap (most2 - 1),0) hl ?_ ?_)
  ·exact Le.fgt
  ·rintro⟨k,most3,i4⟩ h;cases k with
   | zero=>cases h
   | succ k =>
    replace h:zCG (zD4 n) n1B (k+1) most3 i4=some most5:=h;rw[zCG]at h;refine zAa<|zAa ?_;obtain⟨x6,hj,h⟩:=zAc h;refine pL [(1,nI most3),(2,pN n1A n1C n1D n1B),(5,nI i4),(16,nB x6)] ?_ (fun σ' hle=>?_)
    ·replace h:=hj;refine zAb [] [11,13] rfl ?_;intro n7 hn7;obtain rfl:=rlE Nd.encs_eq n1B hn7;intro b hb;cases b with
     | true =>
      exact jG
     | false =>
      exact jI
    ·refine zAh hle<|zAf rfl h (fun hb h=>?_) (fun hb h=>?_)
     ·refine zAe<|zAa<|zAk<|zAb [] [22] rfl ?_;obtain⟨⟨e8A,e8C,e8D,e8B⟩,he8,h⟩:=zAc h;refine And.intro (zAq Nd.encs_eq he8).1 ?_;intro r9 hr9;obtain rfl:(nN e8A e8C e8D e8B)=r9:=(hr9.trans (zAq Nd.encs_eq he8).2.1).symm;obtain⟨y10,hy10,h⟩:=zAc h;refine⟨_,⟨_,_,_,hy10,rfl,rfl⟩,?_⟩
      refine yCo ?_;refine⟨(k,y10,i64.wrap (i4+1)),h,Le.fgt,Nat.lt_succ_self k⟩
     ·refine zAD ?_;exact jD
 ·refine zAh hle<|yCp ?_;exact jM
theorem zSr:∀ n,PSound prog 48 (zAu (zHj n)):=by
 intro n
 induction n with
 | zero=>exact zCP call48 (fun xs r h=>by obtain⟨_,_,_,h,_⟩:=h; cases h)
 | succ n ih=>exact zRG n ih
def zPm:zAr:=pG zHj
theorem zUG:PSound prog 48 zPm:=zDu zSr
def zXc:Prop:=∃ a0 a1 y0,zGy n a0 a1=some y0/\xs=[.agg ((Nd.enc a0).map .s),nI a1]/\r = .val (nB y0)
def zKA:zAr:=pG zXc
theorem zLA:PSound prog 24 zKA:=by
 have gok:=gk1 zUG<|gk0
 refine psq tokW call24 func24 rfl ?_;rintro xs r w0 G0 ⟨n,⟨n1A,n1C,n1D,n1B⟩,most2,y0,h,rfl,rfl⟩ _;rw[zGy]at h;refine yCp ?_;refine yCp ?_;obtain⟨y3,hy3,h⟩:=zAc h;refine⟨_,⟨_,_,_,_,hy3,rfl,rfl⟩,?_⟩
 exact jM
def zA6 (p:(Int×List Nd×Int×List UInt8×Bool)):List S:=[.int .i64 p.1,.sl 4 (Nd.encs p.2.1),.int .i64 p.2.2.1,.str p.2.2.2.1,.bool p.2.2.2.2]
def zXh:Prop:=∃ a0 y0,zII n a0=some y0/\xs=[.agg ((zA6 a0).map .s)]/\r = .val (nB y0)
def zSj:zAr:=pG zXh
theorem zWL:PSound prog 23 zSj:=by
 have gok:=gk1 zC2<|gk1 zLA<|gk0
 refine psq tokW call23 func23 rfl ?_;rintro xs r w0 G0 ⟨n,⟨x1A,x1Am,x1H,x1C,x1Be⟩,y0,h,rfl,rfl⟩ _;rw[zII]at h;refine yCp ?_;refine zAa ?_;obtain⟨x2,hj,h⟩:=zAc h;refine pL [(2,nB x2)] ?_ (fun σ' hle=>?_)
 ·replace h:=hj;refine zAb [] [7] rfl ?_;obtain⟨⟨y3A,y3C,y3D,y3B⟩,hy3,h⟩:=zAc h;refine⟨_,⟨_,_,hy3,rfl,rfl⟩,?_⟩
  obtain⟨y4,hy4,h⟩:=zAc h;refine⟨_,⟨_,_,_,_,hy4,rfl,rfl⟩,?_⟩
  intro b hb;cases b with
  | true =>
   exact jG
  | false =>
   exact jI
 ·exact jR
def zUa:Prop:=∃ a0 y0,zHS n a0=some y0/\xs=[.agg ((Nd.enc a0).map .s)]/\r = .val (nB y0)
def zNn:zAr:=pG zUa
theorem zTp:PSound prog 26 zNn:=by
 have gok:=gk1 zLA<|gk0
 refine psq tokW call26 func26 rfl ?_;rintro xs r w0 G0 ⟨n,⟨n1A,n1C,n1D,n1B⟩,y0,h,rfl,rfl⟩ _;rw[zHS]at h;refine yCp ?_;refine yCp ?_;obtain⟨y2,hy2,h⟩:=zAc h;refine⟨_,⟨_,_,_,_,hy2,rfl,rfl⟩,?_⟩
 exact jM
def zAo (p:((Int×List Nd×Int×List UInt8×Bool)×Int×Int)):List S:=[.int .i64 p.1.1,.sl 4 (Nd.encs p.1.2.1),.int .i64 p.1.2.2.1,.str p.1.2.2.2.1,.bool p.1.2.2.2.2,.int .u8 p.2.1,.int .u8 p.2.2]
def zXl:Prop:=∃ a0 a1 y0,zIK n a0 a1=some y0/\xs=[.agg ((Nd.enc a0).map .s),.s (.sl 7 ((List.map zAo) a1))]/\r = .val (nB y0)
def zSm:zAr:=pG zXl
theorem zWO:PSound prog 6 zSm:=by
 have gok:=gk1 zWL<|gk1 zC2<|gk1 zLA<|gk1 zTp<|gk0
 refine psq tokW call6 func6 rfl ?_;rintro xs r w0 G0 ⟨n,⟨n1A,n1C,n1D,n1B⟩,l2,y0,h,rfl,rfl⟩ _;rw[zIK]at h;refine yCp ?_;refine zAa<|yBn [] [8] rfl ?_;intro n3 hn3;obtain rfl:=rlE (fun _=>rfl) l2 hn3;show Tri ..;obtain⟨fl,hl,ho1⟩:=zAc h;refine zB3 (fl:=fl) (fun z=>match z with | _=>⟨ofL [(1,.s (.sl 7 ((List.map zAo) l2))),(2,pN n1A n1C n1D n1B)],fun _=>none,0⟩) ?_ (fun z σ' hz hle=>?_)
 ·refine zAk (zAA (X:=Nat×Int) (fun y=>match y with | (k,x4)=>⟨ofL [(1,.s (.sl 7 ((List.map zAo) l2))),(2,pN n1A n1C n1D n1B),(7,.s (.sl 7 ((List.map zAo) l2))),(8,nI (l2.length:Int)),(9,nI x4)],fun _=>none,0⟩) (fun y=>zC1 n l2 y.1 y.2=some fl) (fun y=>y.1) (n,0) hl ?_ ?_)
  ·exact Le.fgt
  ·rintro⟨k,x4⟩ h;cases k with
   | zero=>cases h
   | succ k =>
    replace h:zC1 n l2 (k+1) x4=some fl:=h;rw[zC1]at h;refine yCp ?_;refine zAa<|zAf rfl h (fun hb h=>?_) (fun hb h=>?_)
    ·refine zAe<|zAa<|zAk<|yBn [6] [11] rfl ?_;obtain⟨⟨⟨e5Ba,e5Az,e5Bb,e5Bc,e5Bd⟩,e5I,e5M⟩,he5,h⟩:=zAc h;refine And.intro (zAq (fun _=>rfl) he5).1 ?_;intro r6 hr6;obtain rfl:[.int .i64 e5Ba,.sl 4 (Nd.encs e5Az),.int .i64 e5Bb,.str e5Bc,.bool e5Bd,.int .u8 e5I,.int .u8 e5M]=r6:=(hr6.trans (zAq (fun _=>rfl) he5).2.1).symm;show Tri ..
     refine zAh (Le.giveBox 0 [.int .i64 e5Ba,.sl 4 (Nd.encs e5Az),.int .i64 e5Bb,.str e5Bc,.bool e5Bd,.int .u8 e5I,.int .u8 e5M] rfl rfl)<|zAa ?_;obtain⟨x7,hj,h⟩:=zAc h;refine pL [(1,.s (.sl 7 ((List.map zAo) l2))),(2,pN n1A n1C n1D n1B),(7,.s (.sl 7 ((List.map zAo) l2))),(8,nI (l2.length:Int)),(9,nI x4),(24,nB x7)] ?_ (fun σ' hle=>?_)
     ·replace h:=hj;refine zAb [] [17] rfl ?_;obtain⟨y8,hy8,h⟩:=zAc h;refine⟨_,⟨_,_,_,hy8,rfl,rfl⟩,?_⟩
      intro b hb;cases b with
      | true =>
       replace h:=zAw hb.symm h;exact kA
      | false =>
       replace h:=zAv hb.symm h;obtain⟨⟨y9A,y9C,y9D,y9B⟩,hy9,h⟩:=zAc h;refine⟨_,⟨_,_,hy9,rfl,rfl⟩,?_⟩
       obtain⟨y10,hy10,h⟩:=zAc h;refine⟨_,⟨_,_,_,_,hy10,rfl,rfl⟩,?_⟩
       exact kA
     ·refine zAh hle<|zAf rfl h (fun hb h=>?_) (fun hb h=>?_)
      ·exact jE
      ·refine zAe<|yCo ?_;refine⟨(k,i64.wrap (x4+1)),h,Le.fgt,Nat.lt_succ_self k⟩
    ·exact gV
 ·subst hz;obtain _:=z;replace h:=ho1;refine zAh hle<|zAa ?_;obtain⟨x11,hj,h⟩:=zAc h;refine pL [(4,nB x11)] ?_ (fun σ' hle=>?_)
  ·replace h:=hj;refine zAb [] [28,30] rfl ?_;obtain⟨y12,hy12,h⟩:=zAc h;refine⟨_,⟨_,_,_,hy12,rfl,rfl⟩,?_⟩
   intro b hb;cases b with
   | true =>
    replace h:=zAw hb.symm h;intro n13 hn13;obtain rfl:=rlE (fun _=>rfl) l2 hn13;exact jD
   | false =>
    exact jI
  ·exact jR
def zAi (p:zRc):List S:=[.sl 8 ((List.map zAl) p.1),.sl 1 (iL p.2.1.1),.sl 1 (iL p.2.1.2),.sl 1 (iL p.2.2.1),.sl 1 (iL p.2.2.2)]
def zC8:(Nd×Nd×List zRc×Int)->List S
| ⟨⟨p_origin_kind,p_origin_text,p_origin_cols,p_origin_kids⟩,⟨p_tree_kind,p_tree_text,p_tree_cols,p_tree_kids⟩,p_records,p_done⟩=>[.int .i64 p_origin_kind,.str p_origin_text,.int .i64 p_origin_cols,.sl 4 (Nd.encs p_origin_kids),.int .i64 p_tree_kind,.str p_tree_text,.int .i64 p_tree_cols,.sl 4 (Nd.encs p_tree_kids),.sl 5 ((List.map zAi) p_records),.int .i64 p_done]
def zQg (n:Nat) (xs:List AV) (os:List Ob) (x:AV) (os':List (Option Ob)):Prop:=∃ a0 y0 y1,zEX n a0=some (y0,y1)/\xs=[.agg ((Nd.enc a0).map .s)]/\os=[]/\x = .tup [(match y0 with | none=>.s .np | some _=>.op 0 0),nI y1]/\os'=(match y0 with | none=>[] | some ⟨⟨o_origin_kind,o_origin_text,o_origin_cols,o_origin_kids⟩,⟨o_tree_kind,o_tree_text,o_tree_cols,o_tree_kids⟩,o_records,o_done⟩=>[some (.box 68 [nI o_origin_kind,nS o_origin_text,nI o_origin_cols,.s (.sl 4 (Nd.encs o_origin_kids)),nI o_tree_kind,nS o_tree_text,nI o_tree_cols,.s (.sl 4 (Nd.encs o_tree_kids)),.orow 1,nI o_done]),some (.row 40 5 ((List.map zAi) o_records))])
def zKw:zAr:=zEA (fun xs os x os'=>∃ n,zQg n xs os x os')
theorem zOZ:PSound prog 7 zKw:=by
 have gok:=gk1 zD9<|gk1 zEP<|gk0
 refine PSound.withNil (zX8 tokW call7 func7 rfl (fun xs os x os' h=>by obtain⟨n,_,_,_,_,rfl,rfl,_,rfl⟩:=h; exact⟨by show 1<=13; decide,Nat.zero_le _⟩) 13 rfl ?_) _;rintro xs os x os' w0 G0 B0 ⟨n,⟨n1A,n1C,n1D,n1B⟩,y0,y1,h,rfl,rfl,rfl,rfl⟩ _;rw[zEX]at h;refine yCp ?_;refine zAa<|yCp ?_;obtain⟨y2,hy2,h⟩:=zAc h;refine⟨_,⟨_,_,_,hy2,rfl,rfl⟩,?_⟩
 refine zAf rfl h (fun hb h=>?_) (fun hb h=>?_)
 ·refine yCp ?_;refine zAd ?_;obtain⟨hj1,hk1⟩:=pij h;subst hj1 hk1;unfold zDz;exact⟨_,(Le.rnq [] [(2,.s (.np)),(3,nI 1)] [] 0),rfl,rfl,trivial⟩
 ·refine zAe<|zAa<|zEd [12] [] [5] [] rfl (by decide +kernel) ?_;obtain⟨⟨y3A,y3C,y3D,y3B⟩,hy3,h⟩:=zAc h;refine⟨_,⟨_,_,hy3,rfl,rfl⟩,?_⟩
  obtain⟨⟨y4A,y4C,y4D,y4B⟩,hy4,h⟩:=zAc h;refine⟨_,⟨_,_,hy4,rfl,rfl⟩,?_⟩
  refine zAh (Le.trans (Le.rnq [(0,0)] [(2,.op 0 0),(3,nI 0)] [(0,.box 68 [nI y3A,nS y3C,nI y3D,.s (.sl 4 (Nd.encs y3B)),nI y4A,nS y4C,nI y4D,.s (.sl 4 (Nd.encs y4B)),.nl 5,nI 0])] 1) (Le.takeNil 0 8 40 rfl rfl (by decide)))<|zAd ?_;obtain⟨hj1,hk1⟩:=pij h;subst hj1 hk1;unfold zDz
  exact⟨_,(Le.rnq [(0,0),(1,1)] [(2,.op 0 0),(3,nI 0)] [(0,.box 68 [nI y3A,nS y3C,nI y3D,.s (.sl 4 (Nd.encs y3B)),nI y4A,nS y4C,nI y4D,.s (.sl 4 (Nd.encs y4B)),.orow 1,nI 0]),(1,.row 40 5 ((List.map zAi) []))] 2),rfl,rfl,rfl,rfl,rfl,rfl,trivial⟩
def zH2 (xs:List AV) (os:List Ob) (x:AV) (os':List (Option Ob)):Prop:=∃ (a0Z:Int) (a0Aa:List UInt8) (a0Ab:Int) (a0Ac:List Nd) (a0Ad:Int) (a0Ae:List UInt8) (a0Af:Int) (a0Ag:List Nd) (a0W:List zRc) (a0T:Int) (y0:Nd) (z0Z:Int) (z0Aa:List UInt8) (z0Ab:Int) (z0Ac:List Nd) (z0Ad:Int) (z0Ae:List UInt8) (z0Af:Int) (z0Ag:List Nd) (z0W:List zRc) (z0T:Int),zBo (Nd.mk a0Z a0Aa a0Ab a0Ac,Nd.mk a0Ad a0Ae a0Af a0Ag,a0W,a0T)=some (y0,(Nd.mk z0Z z0Aa z0Ab z0Ac,Nd.mk z0Ad z0Ae z0Af z0Ag,z0W,z0T))/\xs=[.op 0 0]/\os=[.box 68 [nI a0Z,nS a0Aa,nI a0Ab,.s (.sl 4 (Nd.encs a0Ac)),nI a0Ad,nS a0Ae,nI a0Af,.s (.sl 4 (Nd.encs a0Ag)),.orow 1,nI a0T],.row 40 5 ((List.map zAi) a0W)]/\x = .agg ((Nd.enc y0).map .s)/\os'=[some (.box 68 [nI z0Z,nS z0Aa,nI z0Ab,.s (.sl 4 (Nd.encs z0Ac)),nI z0Ad,nS z0Ae,nI z0Af,.s (.sl 4 (Nd.encs z0Ag)),.orow 2,nI z0T]),none,some (.row 40 5 ((List.map zAi) z0W))]
def zDw:zAr:=zEA (fun xs os x os'=>zH2 xs os x os')
theorem zE3:PSound prog 14 zDw:=by
 have gok:=gk1 zEP<|gk0
 refine PSound.withNil (osq tokW call14 func14 rfl ?_) _;rintro xs os x os' w0 G0 B0 ⟨o1Z,o1Aa,o1Ab,o1Ac,o1Ad,o1Ae,o1Af,o1Ag,o1W,o1T,y0,z0Z,z0Aa,z0Ab,z0Ac,z0Ad,z0Ae,z0Af,z0Ag,z0W,z0T,h,rfl,rfl,rfl,rfl⟩ _;rw[zBo]at h;refine yBn [2] [] rfl ?_;refine zAa<|yCp ?_;refine zAI rfl (fun h=>by cases h) (fun _=>?_)
 refine zAe<|yCp ?_;obtain⟨⟨y2A,y2C,y2D,y2B⟩,hy2,h⟩:=zAc h;refine⟨_,⟨_,_,hy2,rfl,rfl⟩,?_⟩
 refine zAd ?_;have hj0:=osi h;obtain⟨hv0,hw0⟩:=Prod.mk.inj hj0;subst hv0;obtain⟨he1Ao,hr1Ao⟩:=Prod.mk.inj hw0;obtain⟨he1Ap,hr1Ap⟩:=Prod.mk.inj hr1Ao;obtain⟨he1At,he1Au⟩:=Prod.mk.inj hr1Ap;obtain⟨he2Ao,he2Ap,he2At,he2Au⟩:=Nd.mk.inj he1Ao;subst he2Ao;subst he2Ap;subst he2At;subst he2Au;obtain⟨he3Ao,he3Ap,he3At,he3Au⟩:=Nd.mk.inj he1Ap;subst he3Ao;subst he3Ap;subst he3At;subst he3Au;subst he1At;subst he1Au;unfold zDz
 exact⟨_,(Le.rnq [(0,0),(1,2),(2,3)] [(2,.op 3 0)] [(0,.box 68 [nI o1Z,nS o1Aa,nI o1Ab,.s (.sl 4 (Nd.encs o1Ac)),nI o1Ad,nS o1Ae,nI o1Af,.s (.sl 4 (Nd.encs o1Ag)),.orow 2,nI o1T]),(2,.row 40 5 ((List.map zAi) o1W)),(3,.box 24 [nI y2A,nS y2C,nI y2D,.s (.sl 4 (Nd.encs y2B))])] 4),rfl,rfl,rfl,rfl,rfl,rfl,trivial⟩
def zAF (p:List Int):List S:=[.sl 1 (iL p)]
def zIf:Prop:=∃ a0 a1 y0,zDO n a0 a1=some y0/\xs=[.agg ((Nd.enc a0).map .s),.s (.sl 1 (iL a1))]/\r = .row 36 1 ((List.map zAF) y0)
theorem zUT {α:Type}{a b:α} (h:a=b:=by simp[map_append,map_take,map_drop,irow,brow,zF1,map_cons,map_nil,zFx,Nd.encs_eq,Nd.enc,zBu,zAS,zBY,zAO,zAJ,zAl,zA6,zAo,zAi,zC8,zAF]):a=b :=
 h
theorem zTK (n:Nat) (ih:PSound prog 33 (zAu (zIf n))):PSound prog 33 (zAu (zIf (n+1))):=by
 have gok:=gk1 ih<|gk0
 refine psq tokW call33 func33 rfl ?_;rintro xs r w0 G0 ⟨⟨row1A,row1C,row1D,row1B⟩,path2,y0,h,rfl,rfl⟩ _;rw[zDO]at h;refine yBn [4] [] rfl ?_;refine zAh (Le.rnq [] [(1,.s (.sl 1 (iL path2))),(2,pN row1A row1C row1D row1B)] [] 0)<|yBn [5] [] rfl ?_;show Tri ..
 refine zAh (Le.rnq [(0,0)] [(1,.s (.sl 1 (iL path2))),(2,pN row1A row1C row1D row1B),(5,.orow 0)] [(0,.row 36 1 ((List.map zAF) []))] 1 (h2:=⟨rfl,⟨_,rfl,congrArg (Ob.row 36 1) zUT⟩,trivial⟩))<|zAa<|yCp ?_
 show Tri ..;obtain⟨l6,hl,h⟩:=zAc h;refine zAm ⟨ofL [(5,.orow 0)],ofH [(0,.row 36 1 ((List.map zAF) l6))],1⟩ ?_ (fun σ' hle=>?_)
 ·refine zAk (zAA (X:=Nat×Int×(List (List Int))) (fun y=>match y with | (k,i4,l5)=>⟨ofL [(1,.s (.sl 1 (iL path2))),(2,pN row1A row1C row1D row1B),(5,.orow 0),(6,nI i4)],ofH [(0,.row 36 1 ((List.map zAF) l5))],1⟩) (fun y=>zDP (zDO n) n row1B path2 y.1 y.2.1 y.2.2=some l6) (fun y=>y.1) (n,0,[]) hl ?_ ?_)
  ·exact kR
  ·rintro⟨k,i4,l5⟩ h;cases k with
   | zero=>cases h
   | succ k =>
    replace h:zDP (zDO n) n row1B path2 (k+1) i4 l5=some l6:=h;rw[zDP]at h;refine zAa<|yBn [] [11] rfl ?_;intro n7 hn7;obtain rfl:=rlE Nd.encs_eq row1B hn7;refine zAf rfl h (fun hb h=>?_) (fun hb h=>?_)
    ·refine zAe<|zAa<|zAk<|zAa ?_;refine zAh (Le.toA 0 rfl) ?_;obtain⟨y9,hy9,h⟩:=zAc h;obtain⟨hqp,hyq⟩:=zAx hy9;replace hyq:=osi hyq;rw[length_singleton]at hqp;refine zAb [16,18,21,22,23] [20] rfl ?_;refine And.intro (show((0:Nat)+(iL path2).length) * 8<=140737488355328/\(0:Nat)+(iL path2).length<=9223372036854775807 by rw[length_map]; omega) ?_;intro r8 hr8;have hl1:r8.length=1:=by rw[hr8]; rfl
     refine And.intro (show(([]++(iL path2)).length+r8.length) * 8<=140737488355328/\([]++(iL path2)).length+r8.length<=9223372036854775807 by rw[hl1,nil_append,length_map]; omega) ?_
     clear hl1
     obtain rfl:iL [i4]=r8:=(hr8.trans zUT).symm;obtain⟨hq,h⟩:=zAx h
     refine And.intro (show((((List.map zAF) l5).map (·.map AV.s)).length+1) * 24<=140737488355328/\(((List.map zAF) l5).map (·.map AV.s)).length+1<=9223372036854775807 by rw[length_map,length_map]; simp only[length_cons,length_nil]at hq; omega) ?_;refine zAh (Le.giveRow 3 rfl) ?_;refine zAh (Le.ofA 5 ((List.map zAF) (l5++[y9])) rfl (by rw[← hyq,map_append,map_append,zWu]; exact zLf (zVN _) (show some [[S.sl 1 ([]++iL path2++iL [i4])]]=some ((List.map zAF) [path2++[i4]]) by simp[zAF]))) ?_
     refine zAh (Le.rnq [(5,0)] [(1,.s (.sl 1 (iL path2))),(2,pN row1A row1C row1D row1B),(5,.orow 0),(6,nI i4)] [(0,.row 36 1 ((List.map zAF) (l5++[y9])))] 1 (h2:=⟨rfl,⟨_,rfl,congrArg (Ob.row 36 1) zUT⟩,trivial⟩))<|zAa ?_
     refine yBn [] [27] rfl ?_;intro n11 hn11;obtain rfl:=rlE Nd.encs_eq row1B hn11;refine zAf rfl h (fun hb h=>?_) (fun hb h=>?_)
     ·refine zAD ?_;exact jC
     ·refine zAe<|yCp ?_;show Tri ..;obtain⟨l15,hl,h⟩:=zAc h;refine zAm ⟨ofL [(1,.s (.sl 1 (iL path2))),(2,pN row1A row1C row1D row1B),(5,.orow 0),(6,nI i4)],ofH [(0,.row 36 1 ((List.map zAF) l15))],1⟩ ?_ (fun σ' hle=>?_)
      ·refine zAk (zAA (X:=Nat×Int×(List (List Int))) (fun y=>match y with | (k,k13,l14)=>⟨ofL [(1,.s (.sl 1 (iL path2))),(2,pN row1A row1C row1D row1B),(5,.orow 0),(6,nI i4),(7,nI k13)],ofH [(0,.row 36 1 ((List.map zAF) l14))],1⟩) (fun y=>zDQ (zDO n) row1B path2 i4 y.1 y.2.1 y.2.2=some l15) (fun y=>y.1) (n,0,l5++[y9]) hl ?_ ?_)
       ·exact kR
       ·rintro⟨k,k13,l14⟩ h;cases k with
        | zero=>cases h
        | succ k =>
         replace h:zDQ (zDO n) row1B path2 i4 (k+1) k13 l14=some l15:=h;rw[zDQ]at h;refine zAa<|yBn [] [33,36] rfl ?_;obtain⟨⟨e16A,e16C,e16D,e16B⟩,he16,h⟩:=zAc h;refine And.intro (zAq Nd.encs_eq he16).1 ?_;intro r17 hr17;obtain rfl:(nN e16A e16C e16D e16B)=r17:=(hr17.trans (zAq Nd.encs_eq he16).2.1).symm;intro n18 hn18;obtain rfl:=rlE Nd.encs_eq e16B hn18;refine zAf rfl h (fun hb h=>?_) (fun hb h=>?_)
         ·refine zAe<|zAa<|zAk<|zEd [50,52,56,58] [44,48,55] [10,12,16,17,18] [] rfl (by decide +kernel) ?_;obtain⟨⟨e19A,e19C,e19D,e19B⟩,he19,h⟩:=zAc h;refine And.intro (zAq Nd.encs_eq he19).1 ?_;intro r20 hr20;obtain rfl:(nN e19A e19C e19D e19B)=r20:=(hr20.trans (zAq Nd.encs_eq he19).2.1).symm;obtain⟨⟨e21A,e21C,e21D,e21B⟩,he21,h⟩:=zAc h;refine And.intro (zAq Nd.encs_eq he21).1 ?_;intro r22 hr22
          obtain rfl:(nN e21A e21C e21D e21B)=r22:=(hr22.trans (zAq Nd.encs_eq he21).2.1).symm;obtain⟨hq,h⟩:=zAx h;refine And.intro (show(([]:List (List S)).length+(iL path2).length) * 8<=140737488355328/\([]:List (List S)).length+(iL path2).length<=9223372036854775807 from by simp only[length_append,length_cons,length_nil,length_map,rlen (fun _=>rfl)]at hq ⊢; omega) ?_;intro r23 hr23;have hl2:r23.length=2 :=(by rw[hr23]; rfl);obtain⟨hq,h⟩:=zAx h
          refine And.intro (show((([]:List (List S))++(iL path2)).length+r23.length) * 8<=140737488355328/\(([]:List (List S))++(iL path2)).length+r23.length<=9223372036854775807 from by rw[hl2]; simp only[length_append,length_cons,length_nil,length_map]at hq ⊢; omega) ?_
          clear hl2
          obtain rfl:iL [i4,k13]=r23:=(hr23.trans zUT).symm;obtain⟨y24,hy24,h⟩:=zAc h
          refine⟨_,⟨_,_,_,hy24,(congrArg (fun r=>[(AV.agg [nI e21A,nS e21C,nI e21D,.s (.sl 4 (Nd.encs e21B))]),AV.s (.sl 1 r)]) (show([]++(iL path2))++(iL [i4,k13])=iL (path2++[i4,k13]) from zUT)),rfl⟩,?_⟩
          obtain⟨hq,h⟩:=zAx h;refine And.intro (show(((List.map zAF) l14).length+((List.map zAF) y24).length) * 24<=140737488355328/\((List.map zAF) l14).length+((List.map zAF) y24).length<=9223372036854775807 from by simp only[length_append,length_cons,length_nil,length_map,rlen (fun _=>rfl)]at hq ⊢; omega) ?_;show Tri ..
          refine zAh (Le.rnq [(4,0)] [(1,.s (.sl 1 (iL path2))),(2,pN row1A row1C row1D row1B),(5,.orow 0),(6,nI i4),(7,nI k13)] [(0,.row 36 1 ((List.map zAF) (l14++y24)))] 1 (h2:=⟨rfl,⟨_,rfl,congrArg (Ob.row 36 1) zUT⟩,trivial⟩)) ?_
          refine yCo ?_;refine⟨(k,i64.wrap (k13+1),l14++y24),h,(Le.rnq [(0,0)] _ _ _),Nat.lt_succ_self k⟩
         ·refine zAD ?_;exact jC
      ·refine zAh hle<|yCo ?_;refine⟨(k,i64.wrap (i4+1),l15),h,(Le.rnq [(0,0)] _ _ _),Nat.lt_succ_self k⟩
    ·refine zAD ?_;exact jC
 ·exact kH
theorem zUe:∀ n,PSound prog 33 (zAu (zIf n)):=by
 intro n
 induction n with
 | zero=>exact zCP call33 (fun xs r h=>by obtain⟨_,_,_,h,_⟩:=h; cases h)
 | succ n ih=>exact zTK n ih
def zSg:zAr:=pG zIf
theorem zWI:PSound prog 33 zSg:=zDu zUe
def zXf:Prop:=∃ a0 y0 y1,zFJ n a0=some (y0,y1)/\xs=[.agg ((Nd.enc a0).map .s)]/\r = .val (.tup [.s (.sl 1 ((List.map zAF) y0)),nI y1])
def zIp:zAr:=pG zXf
theorem zJc:PSound prog 10 zIp:=by
 have gok:=gk1 zC3<|gk1 zWI<|gk0
 refine psq tokW call10 func10 rfl ?_;rintro xs r w0 G0 ⟨n,⟨n1A,n1C,n1D,n1B⟩,y0,y1,h,rfl,rfl⟩ _;rw[zFJ]at h;refine yCp ?_;refine zAa<|yCp ?_;obtain⟨y2,hy2,h⟩:=zAc h;refine⟨_,⟨_,_,_,hy2,rfl,rfl⟩,?_⟩
 refine zAf rfl h (fun hb h=>?_) (fun hb h=>?_)
 ·exact jP
 ·refine zAe<|yCp ?_;obtain⟨y3,hy3,h⟩:=zAc h;refine⟨_,⟨_,_,_,_,hy3,rfl,rfl⟩,?_⟩
  exact jA
def zMH:Prop:=∃ a0 y0,zB5 n a0=some y0/\xs=[.s (.sl 4 (Nd.encs a0))]/\r = .val (nB y0)
def zEq:zAr:=pG zMH
theorem zFk:PSound prog 86 zEq:=by
 have gok:=gk1 zC2<|gk1 zC3<|gk0
 refine psq tokW call86 func86 rfl ?_;rintro xs r w0 G0 ⟨n,l1,y0,h,rfl,rfl⟩ _;rw[zB5]at h;refine yCp ?_;refine yCp ?_;obtain⟨⟨y2A,y2C,y2D,y2B⟩,hy2,h⟩:=zAc h;refine⟨_,⟨_,_,hy2,rfl,rfl⟩,?_⟩
 obtain⟨y3,hy3,h⟩:=zAc h;refine⟨_,⟨_,_,_,hy3,rfl,rfl⟩,?_⟩
 exact jM
def zQm:Prop:=∃ a0 a1 y0,zCf n a0 a1=some y0/\xs=[.s (.sl 1 (iL a0)),.s (.sl 1 (iL a1))]/\r = .val (nI y0)
def zHJ:zAr:=pG zQm
theorem zJO:PSound prog 15 zHJ:=by
 have gok:=@gok0 prog;refine psq tokW call15 func15 rfl ?_;rintro xs r w0 G0 ⟨n,a1,b2,y0,h,rfl,rfl⟩ _;rw[zCf]at h;refine yCp ?_;refine zAa<|yCp ?_;show Tri ..;obtain⟨fl,hl,ho1⟩:=zAc h;refine zB3 (fl:=fl) (fun z=>match z with | _=>⟨ofL [(0,.s (.sl 1 (iL a1))),(1,.s (.sl 1 (iL b2)))],fun _=>none,0⟩) ?_ (fun z σ' hz hle=>?_)
 ·refine zAk (zAA (X:=Nat×Int) (fun y=>match y with | (k,i3)=>⟨ofL [(0,.s (.sl 1 (iL a1))),(1,.s (.sl 1 (iL b2))),(5,nI i3)],fun _=>none,0⟩) (fun y=>zBx a1 b2 y.1 y.2=some fl) (fun y=>y.1) (n,0) hl ?_ ?_)
  ·exact Le.fgt
  ·rintro⟨k,i3⟩ h;cases k with
   | zero=>cases h
   | succ k =>
    replace h:zBx a1 b2 (k+1) i3=some fl:=h;rw[zBx]at h;refine zAa<|zAa ?_;obtain⟨x4,hj,h⟩:=zAc h;refine pL [(0,.s (.sl 1 (iL a1))),(1,.s (.sl 1 (iL b2))),(5,nI i3),(15,nB x4)] ?_ (fun σ' hle=>?_)
    ·replace h:=hj;refine zAb [] [8,10,13] rfl ?_;intro n5 hn5;obtain rfl:=rlE (fun _=>rfl) a1 hn5;intro b hb;cases b with
     | true =>
      replace h:=zAw hb.symm h;intro n6 hn6;obtain rfl:=rlE (fun _=>rfl) b2 hn6;exact jD
     | false =>
      exact jI
    ·refine zAh hle<|zAf rfl h (fun hb h=>?_) (fun hb h=>?_)
     ·refine zAe<|zAa<|zAk<|zAa<|zAa<|zAC [] [20,24] [] rfl (by decide +kernel) ?_;obtain⟨e7,he7,h⟩:=zAc h;refine And.intro (zAq (fun _=>rfl) he7).1 ?_;intro r8 hr8;obtain rfl:[.int .i64 e7]=r8:=(hr8.trans (zAq (fun _=>rfl) he7).2.1).symm;obtain⟨e9,he9,h⟩:=zAc h;refine And.intro (zAq (fun _=>rfl) he9).1 ?_;intro r10 hr10;obtain rfl:[.int .i64 e9]=r10:=(hr10.trans (zAq (fun _=>rfl) he9).2.1).symm;refine zAf rfl h (fun hb h=>?_) (fun hb h=>?_)
      ·exact jE
      ·refine zAe<|zAa<|zAC [] [29,33] [] rfl (by decide +kernel) ?_;obtain⟨e11,he11,h⟩:=zAc h;refine And.intro (zAq (fun _=>rfl) he11).1 ?_;intro r12 hr12;obtain rfl:[.int .i64 e11]=r12:=(hr12.trans (zAq (fun _=>rfl) he11).2.1).symm;obtain⟨e13,he13,h⟩:=zAc h;refine And.intro (zAq (fun _=>rfl) he13).1 ?_;intro r14 hr14;obtain rfl:[.int .i64 e13]=r14:=(hr14.trans (zAq (fun _=>rfl) he13).2.1).symm;refine zAf rfl h (fun hb h=>?_) (fun hb h=>?_)
       ·exact jE
       ·exact gQ
     ·exact gV
 ·subst hz;obtain _:=z;replace h:=ho1;refine zAh hle<|zAa<|zAk<|yBn [] [38,40] rfl ?_;intro n15 hn15;obtain rfl:=rlE (fun _=>rfl) a1 hn15;intro n16 hn16;obtain rfl:=rlE (fun _=>rfl) b2 hn16;refine zAf rfl h (fun hb h=>?_) (fun hb h=>?_)
  ·exact gG
  ·refine yBn [] [44,46] rfl ?_;intro n17 hn17;obtain rfl:=rlE (fun _=>rfl) a1 hn17;intro n18 hn18;obtain rfl:=rlE (fun _=>rfl) b2 hn18;refine zAf rfl h (fun hb h=>?_) (fun hb h=>?_)
   ·exact gG
   ·refine zAe<|yCp ?_;exact jM
def zT1:Prop:=∃ a0 a1 y0 y1,zEv n a0 a1=some (y0,y1)/\xs=[.agg ((Nd.enc a0).map .s),.s (.sl 1 (iL a1))]/\r = .val (.tup [nI y0,nI y1])
def zJZ:zAr:=pG zT1
theorem zMr:PSound prog 38 zJZ:=by
 have gok:=gk1 zJc<|gk1 zJO<|gk0
 refine psq tokW call38 func38 rfl ?_;rintro xs r w0 G0 ⟨n,⟨n1A,n1C,n1D,n1B⟩,pos2,y0,y1,h,rfl,rfl⟩ _;rw[zEv]at h;refine yCp ?_;refine yCp ?_;obtain⟨⟨y3,y4⟩,hy3,h⟩:=zAc h;refine⟨_,⟨_,_,_,_,hy3,rfl,rfl⟩,?_⟩
 refine zAa<|yCp ?_;refine zAf rfl h (fun hb h=>?_) (fun hb h=>?_)
 ·exact jP
 ·refine zAe<|zAa<|yCp ?_;show Tri ..;obtain⟨fl,hl,ho1⟩:=zAc h;refine zB3 (fl:=fl) (fun z=>match z with | _=>⟨ofL [],fun _=>none,0⟩) ?_ (fun z σ' hz hle=>?_)
  ·refine zAk (zAA (X:=Nat×Int) (fun y=>match y with | (k,i5)=>⟨ofL [(1,.s (.sl 1 (iL pos2))),(6,.s (.sl 1 ((List.map zAF) y3))),(8,nI i5)],fun _=>none,0⟩) (fun y=>zCO n pos2 y3 y.1 y.2=some fl) (fun y=>y.1) (n,0) hl ?_ ?_)
   ·exact Le.fgt
   ·rintro⟨k,i5⟩ h;cases k with
    | zero=>cases h
    | succ k =>
     replace h:zCO n pos2 y3 (k+1) i5=some fl:=h;rw[zCO]at h;refine zAa<|yBn [] [19] rfl ?_;intro n6 hn6;obtain rfl:=rlE (fun _=>rfl) y3 hn6;refine zAf rfl h (fun hb h=>?_) (fun hb h=>?_)
     ·refine zAe<|zAa<|zAk<|yBn [] [25] rfl ?_;obtain⟨e7,he7,h⟩:=zAc h;refine And.intro (zAq (fun _=>rfl) he7).1 ?_;intro r8 hr8;obtain rfl:[.sl 1 (iL e7)]=r8:=(hr8.trans (zAq (fun _=>rfl) he7).2.1).symm;obtain⟨y9,hy9,h⟩:=zAc h;refine⟨_,⟨_,_,_,_,hy9,rfl,rfl⟩,?_⟩
      refine zAf rfl h (fun hb h=>?_) (fun hb h=>?_)
      ·refine yCp ?_;exact jN
      ·exact jY
     ·exact gV
  ·subst hz;obtain _:=z;replace h:=ho1;refine zAh hle<|yCp ?_;exact jA
def zT2:Prop:=∃ a0 a1 y0,zDN n a0 a1=some y0/\xs=[.agg ((Nd.enc a0).map .s),.s (.sl 1 (iL a1))]/\r = .val (nB y0)
def zJ0:zAr:=pG zT2
theorem zMs:PSound prog 13 zJ0:=by
 have gok:=gk1 zMr<|gk0
 refine psq tokW call13 func13 rfl ?_;rintro xs r w0 G0 ⟨n,⟨n1A,n1C,n1D,n1B⟩,pos2,y0,h,rfl,rfl⟩ _;rw[zDN]at h;refine yCp ?_;refine yCp ?_;obtain⟨⟨y3,y4⟩,hy3,h⟩:=zAc h;refine⟨_,⟨_,_,_,_,_,hy3,rfl,rfl⟩,?_⟩
 exact gG
def zV7 (xs:List AV) (r:Ret):Prop:=∃ a0 a1 y0 y1,zGc a0 a1=some (y0,y1)/\xs=[.s (.sl 1 (iL a0)),nI a1]/\r = .val (.tup [nI y0,nI y1])
def zPp:zAr:=zAu fun xs r=>zV7 xs r
theorem zUJ:PSound prog 230 zPp:=by
 have gok:=@gok0 prog;refine psq tokW call230 func230 rfl ?_;rintro xs r w0 G0 ⟨pos1,k2,y0,y1,h,rfl,rfl⟩ _;rw[zGc]at h;refine yCp ?_;refine zAa<|yBn [] [7] rfl ?_;intro n3 hn3;obtain rfl:=rlE (fun _=>rfl) pos1 hn3;refine zAf rfl h (fun hb h=>?_) (fun hb h=>?_)
 ·refine zAa<|zAC [] [13,17] [] rfl (by decide +kernel) ?_;obtain⟨e4,he4,h⟩:=zAc h;refine And.intro (zAq (fun _=>rfl) he4).1 ?_;intro r5 hr5;obtain rfl:[.int .i64 e4]=r5:=(hr5.trans (zAq (fun _=>rfl) he4).2.1).symm;obtain⟨e6,he6,h⟩:=zAc h;refine And.intro (zAq (fun _=>rfl) he6).1 ?_;intro r7 hr7;obtain rfl:[.int .i64 e6]=r7:=(hr7.trans (zAq (fun _=>rfl) he6).2.1).symm;exact jA
 ·refine zAe<|zAa<|zAC [] [21,25] [] rfl (by decide +kernel) ?_;obtain⟨e8,he8,h⟩:=zAc h;refine And.intro (zAq (fun _=>rfl) he8).1 ?_;intro r9 hr9;obtain rfl:[.int .i64 e8]=r9:=(hr9.trans (zAq (fun _=>rfl) he8).2.1).symm;obtain⟨e10,he10,h⟩:=zAc h;refine And.intro (zAq (fun _=>rfl) he10).1 ?_;intro r11 hr11;obtain rfl:[.int .i64 e10]=r11:=(hr11.trans (zAq (fun _=>rfl) he10).2.1).symm;exact jA
def zCb (p:(List Int×Int×Int)):List S:=[.sl 1 (iL p.1),.int .i64 p.2.1,.int .i64 p.2.2]
def zQn:Prop:=∃ a0 a1 a2 y0 y1,zCH n a0 a1 a2=some (y0,y1)/\xs=[.agg ((Nd.enc a0).map .s),.s (.sl 1 (iL a1)),.s (.sl 1 (iL a2))]/\r = .val (.tup [.agg ((zCb y0).map .s),nI y1])
def zKB:zAr:=pG zQn
theorem zO3:PSound prog 198 zKB:=by
 have gok:=gk1 zC3<|gk1 zMs<|gk1 zUJ<|gk0
 refine psq tokW call198 func198 rfl ?_;rintro xs r w0 G0 ⟨n,⟨a1A,a1C,a1D,a1B⟩,a2,a3,y0,y1,h,rfl,rfl⟩ _;rw[zCH]at h;refine yBn [6] [] rfl ?_;refine zAa<|yCp ?_;obtain⟨y4,hy4,h⟩:=zAc h;refine⟨_,⟨_,_,_,hy4,rfl,rfl⟩,?_⟩
 refine zAf rfl h (fun hb h=>?_) (fun hb h=>?_)
 ·exact jP
 ·refine zAe<|zAa<|zAa ?_;obtain⟨x5,hj,h⟩:=zAc h;refine zAm ⟨ofL [(1,.s (.sl 1 (iL a2))),(2,.s (.sl 1 (iL a3))),(6,.op 0 0),(26,nB x5)],ofH [(0,.box 160 [.nl 1,nI 0,nI 0])],1⟩ ?_ (fun σ' hle=>?_)
  ·replace h:=hj;refine zAb [] [21] rfl ?_;obtain⟨y6,hy6,h⟩:=zAc h;refine⟨_,⟨_,_,_,_,hy6,rfl,rfl⟩,?_⟩
   intro b hb;cases b with
   | true =>
    exact jT
   | false =>
    replace h:=zAv hb.symm h;obtain⟨y7,hy7,h⟩:=zAc h;refine⟨_,⟨_,_,_,_,hy7,rfl,rfl⟩,?_⟩
    exact jC
  ·refine zAh hle<|zAf rfl h (fun hb h=>?_) (fun hb h=>?_)
   ·exact jP
   ·refine zAe<|yCp ?_;refine zAa ?_;obtain⟨x9,hl,h⟩:=zAc h;refine zAm ⟨ofL [(1,.s (.sl 1 (iL a2))),(2,.s (.sl 1 (iL a3))),(6,.op 0 0),(8,nI x9)],ofH [(0,.box 160 [.nl 1,nI 0,nI 0])],1⟩ ?_ (fun σ' hle=>?_)
    ·refine zAk (zAA (X:=Nat×Int) (fun y=>match y with | (k,x8)=>⟨ofL [(1,.s (.sl 1 (iL a2))),(2,.s (.sl 1 (iL a3))),(6,.op 0 0),(8,nI x8)],ofH [(0,.box 160 [.nl 1,nI 0,nI 0])],1⟩) (fun y=>zB6 a2 a3 y.1 y.2=some x9) (fun y=>y.1) (n,0) hl ?_ ?_)
     ·exact kR
     ·rintro⟨k,x8⟩ h;cases k with
      | zero=>cases h
      | succ k =>
       replace h:zB6 a2 a3 (k+1) x8=some x9:=h;rw[zB6]at h;refine zAa<|zAa ?_;obtain⟨x10,hj,h⟩:=zAc h;refine zAm ⟨ofL [(1,.s (.sl 1 (iL a2))),(2,.s (.sl 1 (iL a3))),(6,.op 0 0),(8,nI x8),(63,nB x10)],ofH [(0,.box 160 [.nl 1,nI 0,nI 0])],1⟩ ?_ (fun σ' hle=>?_)
       ·replace h:=hj;refine zAC [] [31,33,37,40,43,47,51,55,60] [] rfl (by decide +kernel) ?_;intro n11 hn11;obtain rfl:=rlE (fun _=>rfl) a2 hn11;intro b hb;cases b with
        | true =>
         replace h:=zAw hb.symm h;intro n12 hn12;obtain rfl:=rlE (fun _=>rfl) a3 hn12;intro b hb;cases b with
         | true =>
          replace h:=zAw hb.symm h;obtain⟨e13,he13,h⟩:=zAc h;refine And.intro (zAq (fun _=>rfl) he13).1 ?_;intro r14 hr14;obtain rfl:[.int .i64 e13]=r14:=(hr14.trans (zAq (fun _=>rfl) he13).2.1).symm;obtain⟨e15,he15,h⟩:=zAc h;refine And.intro (zAq (fun _=>rfl) he15).1 ?_;intro r16 hr16;obtain rfl:[.int .i64 e15]=r16:=(hr16.trans (zAq (fun _=>rfl) he15).2.1).symm;intro b hb;cases b with
          | true =>
           replace h:=zAw hb.symm h;obtain⟨e17,he17,h⟩:=zAc h;refine And.intro (zAq (fun _=>rfl) he17).1 ?_;intro r18 hr18;obtain rfl:[.int .i64 e17]=r18:=(hr18.trans (zAq (fun _=>rfl) he17).2.1).symm;obtain⟨e19,he19,h⟩:=zAc h;refine And.intro (zAq (fun _=>rfl) he19).1 ?_;intro r20 hr20;obtain rfl:[.int .i64 e19]=r20:=(hr20.trans (zAq (fun _=>rfl) he19).2.1).symm;exact jC
          | false =>
           exact gB
         | false =>
          replace h:=zAv hb.symm h;exact gY
        | false =>
         replace h:=zAv hb.symm h;intro b hb;subst hb;exact gY
       ·refine zAh hle<|zAf rfl h (fun hb h=>?_) (fun hb h=>?_)
        ·refine zAe<|zAk<|yCo ?_;refine⟨(k,i64.wrap (x8+2)),h,(Le.rnq [(0,0)] _ _ _),Nat.lt_succ_self k⟩
        ·refine zAD ?_;exact jC
    ·refine zAh hle<|yCp ?_;obtain⟨⟨y21,y22⟩,hy21,h⟩:=zAc h;refine⟨_,⟨_,_,_,_,hy21,rfl,rfl⟩,?_⟩
     refine yCp ?_;obtain⟨⟨y23,y24⟩,hy23,h⟩:=zAc h;refine⟨_,⟨_,_,_,_,hy23,rfl,rfl⟩,?_⟩
     refine yBn [78,82] [81] rfl ?_;obtain⟨hq,h⟩:=zAx h;refine And.intro ⟨hq.1,hq.2.1,Int.le_trans hq.2.2 (Int.ofNat_le.2 (Nat.le_of_eq (rlen (fun _=>rfl) _).symm))⟩ ?_;intro r25 hr25;obtain rfl:iL ((a2.take x9.toNat).drop (0:Int).toNat)=r25:=(hr25.trans (rcut (fun _=>rfl) _ _ _)).symm;obtain⟨hq,h⟩:=zAx h
     refine And.intro (show(([]:List (List S)).length+(iL ((a2.take x9.toNat).drop (0:Int).toNat)).length) * 8<=140737488355328/\([]:List (List S)).length+(iL ((a2.take x9.toNat).drop (0:Int).toNat)).length<=9223372036854775807 from by simp only[length_append,length_cons,length_nil,length_map,rlen (fun _=>rfl)]at hq ⊢; omega) ?_;show Tri ..
     refine zAh (Le.rnq [(0,0),(2,1)] [(6,.op 0 0),(7,nI 0)] [(0,.box 160 [.orow 1,nI (if y23<y21 then y23 else y21),nI (if y22<y24 then y24 else y22)]),(1,.row 3 1 (iL ((a2.take x9.toNat).drop (0:Int).toNat)))] 2 (h2:=⟨rfl,⟨_,rfl,rfl⟩,rfl,⟨_,rfl,congrArg (Ob.row 3 1) zUT⟩,trivial⟩)) ?_
     refine zAd ?_;obtain⟨hj1,hk1⟩:=pij h;subst hj1 hk1;unfold zBK;exact⟨_,(Le.trans (Le.rnq [(0,0),(1,1)] [(6,.op 0 0),(7,nI 0)] [(0,.box 160 [.orow 1,nI (if y23<y21 then y23 else y21),nI (if y22<y24 then y24 else y22)]),(1,.row 3 1 (iL ((a2.take x9.toNat).drop (0:Int).toNat)))] 2) (Le.giveRow 1 rfl)),rfl,rfl⟩
def zAN (p:zCu):List S:=[.sl 1 (iL p.1),.sl 1 (iL p.2)]
def zY7:Prop:=∃ a0 a1 y0 y1,zKX n a0 a1=some (y0,y1)/\xs=[.agg ((Nd.enc a0).map .s),.agg ((zAN a1).map .s)]/\r = .val (.tup [.agg ((zCb y0).map .s),nI y1])
def zU8:zAr:=pG zY7
theorem zX6:PSound prog 147 zU8:=by
 have gok:=gk1 zO3<|gk0
 refine psq tokW call147 func147 rfl ?_;rintro xs r w0 G0 ⟨n,⟨n1A,n1C,n1D,n1B⟩,⟨c2I,c2M⟩,y0,y1,h,rfl,rfl⟩ _;rw[zKX]at h;refine yBn [4] [] rfl ?_;refine zAa<|yBn [] [8] rfl ?_;intro n3 hn3;obtain rfl:=rlE (fun _=>rfl) c2M hn3;refine zAf rfl h (fun hb h=>?_) (fun hb h=>?_)
 ·refine yCp ?_;obtain⟨⟨⟨y4E,y4O,y4Ai⟩,y5⟩,hy4,h⟩:=zAc h;refine⟨_,⟨_,_,_,_,_,_,hy4,rfl,rfl⟩,?_⟩
  exact jA
 ·refine zAe<|yCp ?_;obtain⟨⟨⟨y6E,y6O,y6Ai⟩,y7⟩,hy6,h⟩:=zAc h;refine⟨_,⟨_,_,_,_,_,_,hy6,rfl,rfl⟩,?_⟩
  exact jA
def zT8:Prop:=∃ a0 a1 y0 y1,zCv n a0 a1=some (y0,y1)/\xs=[.agg ((Nd.enc a0).map .s),.agg ((zAN a1).map .s)]/\r = .val (.tup [.agg ((zCb y0).map .s),nI y1])
def zDE:zAr:=pG zT8
theorem zDT:PSound prog 87 zDE:=by
 have gok:=gk1 zX6<|gk0
 refine psq tokW call87 func87 rfl ?_;rintro xs r w0 G0 ⟨n,⟨n1A,n1C,n1D,n1B⟩,⟨c2I,c2M⟩,y0,y1,h,rfl,rfl⟩ _;rw[zCv]at h;refine yBn [4] [] rfl ?_;refine yCp ?_;obtain⟨⟨⟨y3E,y3O,y3Ai⟩,y4⟩,hy3,h⟩:=zAc h;refine⟨_,⟨_,_,_,_,_,hy3,rfl,rfl⟩,?_⟩
 exact jA
def zV3:Prop:=∃ a0 a1 y0 y1,zHt n a0 a1=some (y0,y1)/\xs=[.agg ((Nd.enc a0).map .s),.s (.sl 1 (iL a1))]/\r = .val (.tup [.agg ((Nd.enc y0).map .s),nB y1])
def zPj:zAr:=pG zV3
theorem zUD:PSound prog 149 zPj:=by
 have gok:=@gok0 prog;refine psq tokW call149 func149 rfl ?_;rintro xs r w0 G0 ⟨n,⟨n1A,n1C,n1D,n1B⟩,path2,y0,y1,h,rfl,rfl⟩ _;rw[zHt]at h;refine yBn [2,4] [] rfl ?_;refine zAa ?_;obtain⟨fl,hl,ho1⟩:=zAc h;refine zB3 (fl:=fl) (fun z=>match z with | ⟨path9,x10,x11,x12,x13⟩=>⟨ofL [(1,.s (.sl 1 (iL path9))),(2,.op 0 0),(4,.op 1 0)],ofH [(0,.box 24 [nI x10,nS x11,nI x12,.s (.sl 4 (Nd.encs x13))]),(1,.box 24 [nI 0,.s (.str []),nI 0,.nl 4])],2⟩) ?_ (fun z σ' hz hle=>?_)
 ·refine zAk (zAA (X:=Nat×Int×(List UInt8)×Int×(List Nd)×(List Int)) (fun y=>match y with | (k,x3,x4,x5,x6,path8)=>⟨ofL [(1,.s (.sl 1 (iL path8))),(2,.op 0 0),(4,.op 1 0)],ofH [(0,.box 24 [nI x3,nS x4,nI x5,.s (.sl 4 (Nd.encs x6))]),(1,.box 24 [nI 0,.s (.str []),nI 0,.nl 4])],2⟩) (fun y=>zCe  y.1 y.2.1 y.2.2.1 y.2.2.2.1 y.2.2.2.2.1 y.2.2.2.2.2=some fl) (fun y=>y.1) (n,n1A,n1C,n1D,n1B,path2) hl ?_ ?_)
  ·exact kS
  ·rintro⟨k,x3,x4,x5,x6,path8⟩ h;cases k with
   | zero=>cases h
   | succ k =>
    replace h:zCe  (k+1) x3 x4 x5 x6 path8=some fl:=h;rw[zCe]at h;refine zAa<|yBn [] [7] rfl ?_;intro n14 hn14;obtain rfl:=rlE (fun _=>rfl) path8 hn14;refine zAf rfl h (fun hb h=>?_) (fun hb h=>?_)
    ·refine zAe<|zAk<|zAa<|zAa ?_;obtain⟨x15,hj,h⟩:=zAc h;refine zAm ⟨ofL [(1,.s (.sl 1 (iL path8))),(2,.op 0 0),(4,.op 1 0),(21,nB x15)],ofH [(0,.box 24 [nI x3,nS x4,nI x5,.s (.sl 4 (Nd.encs x6))]),(1,.box 24 [nI 0,.s (.str []),nI 0,.nl 4])],2⟩ ?_ (fun σ' hle=>?_)
     ·replace h:=hj;refine zAC [] [10,13,15,19] [9] rfl (by decide +kernel) ?_;obtain⟨e16,he16,h⟩:=zAc h;refine And.intro (zAq (fun _=>rfl) he16).1 ?_;intro r17 hr17;obtain rfl:[.int .i64 e16]=r17:=(hr17.trans (zAq (fun _=>rfl) he16).2.1).symm;intro b hb;cases b with
      | true =>
       replace h:=zAw hb.symm h;exact jO
      | false =>
       replace h:=zAv hb.symm h;obtain⟨e18,he18,h⟩:=zAc h;refine And.intro (zAq (fun _=>rfl) he18).1 ?_;intro r19 hr19;obtain rfl:[.int .i64 e18]=r19:=(hr19.trans (zAq (fun _=>rfl) he18).2.1).symm;intro n20 hn20;obtain rfl:=rlE Nd.encs_eq x6 hn20;exact jO
     ·refine zAh hle<|zAf rfl h (fun hb h=>?_) (fun hb h=>?_)
      ·refine yCp ?_;exact jN
      ·refine zAe<|zAa<|zAC [] [26,28] [1,7] rfl (by decide +kernel) ?_;obtain⟨e21,he21,h⟩:=zAc h;refine And.intro (zAq (fun _=>rfl) he21).1 ?_;intro r22 hr22;obtain rfl:[.int .i64 e21]=r22:=(hr22.trans (zAq (fun _=>rfl) he21).2.1).symm;obtain⟨⟨e23A,e23C,e23D,e23B⟩,he23,h⟩:=zAc h;refine And.intro (zAq Nd.encs_eq he23).1 ?_;intro r24 hr24;obtain rfl:(nN e23A e23C e23D e23B)=r24:=(hr24.trans (zAq Nd.encs_eq he23).2.1).symm;refine zAa<|zAa ?_;obtain⟨x25,hj,h⟩:=zAc h
       refine zAm ⟨ofL [(1,.s (.sl 1 (iL path8))),(2,.op 0 0),(4,.op 1 0),(42,nB x25)],ofH [(0,.box 24 [nI e23A,nS e23C,nI e23D,.s (.sl 4 (Nd.encs e23B))]),(1,.box 24 [nI 0,.s (.str []),nI 0,.nl 4])],2⟩ ?_ (fun σ' hle=>?_)
       ·replace h:=hj;refine zAC [] [31,34,36,40] [9] rfl (by decide +kernel) ?_;obtain⟨e26,he26,h⟩:=zAc h;refine And.intro (zAq (fun _=>rfl) he26).1 ?_;intro r27 hr27;obtain rfl:[.int .i64 e26]=r27:=(hr27.trans (zAq (fun _=>rfl) he26).2.1).symm;intro b hb;cases b with
        | true =>
         replace h:=zAw hb.symm h;exact jO
        | false =>
         replace h:=zAv hb.symm h;obtain⟨e28,he28,h⟩:=zAc h;refine And.intro (zAq (fun _=>rfl) he28).1 ?_;intro r29 hr29;obtain rfl:[.int .i64 e28]=r29:=(hr29.trans (zAq (fun _=>rfl) he28).2.1).symm;intro n30 hn30;obtain rfl:=rlE Nd.encs_eq e23B hn30;exact jO
       ·refine zAh hle<|zAf rfl h (fun hb h=>?_) (fun hb h=>?_)
        ·refine yCp ?_;exact jN
        ·refine zAe<|zAa<|zAC [] [47,49] [1,7] rfl (by decide +kernel) ?_;obtain⟨e31,he31,h⟩:=zAc h;refine And.intro (zAq (fun _=>rfl) he31).1 ?_;intro r32 hr32;obtain rfl:[.int .i64 e31]=r32:=(hr32.trans (zAq (fun _=>rfl) he31).2.1).symm;obtain⟨⟨e33A,e33C,e33D,e33B⟩,he33,h⟩:=zAc h;refine And.intro (zAq Nd.encs_eq he33).1 ?_;intro r34 hr34;obtain rfl:(nN e33A e33C e33D e33B)=r34:=(hr34.trans (zAq Nd.encs_eq he33).2.1).symm;refine zAb [] [52] rfl ?_;obtain⟨hq,h⟩:=zAx h
         refine And.intro ⟨hq.1,Int.le_trans hq.2.1 (Int.ofNat_le.2 (Nat.le_of_eq (rlen (fun _=>rfl) _).symm)),Int.le_refl _⟩ ?_;intro r35 hr35;obtain rfl:iL ((path8.take (path8.length:Int).toNat).drop (2:Int).toNat)=r35:=(hr35.trans ((congrArg (fun m:Nat=>((iL path8).take m).drop (2:Int).toNat) (rlen (fun _=>rfl) _)).trans (rcut (fun _=>rfl) _ _ _))).symm;refine⟨(k,e33A,e33C,e33D,e33B,(path8.take (path8.length:Int).toNat).drop (2:Int).toNat),h,(Le.rnq [(0,0),(1,1)] _ _ _),Nat.lt_succ_self k⟩
    ·exact kU
 ·subst hz;obtain⟨path9,x10,x11,x12,x13⟩:=z;replace h:=ho1;refine zAh hle<|yBn [] [55] rfl ?_;intro n36 hn36;obtain rfl:=rlE (fun _=>rfl) path9 hn36;exact jA
def zXd:Prop:=∃ a0 a1 y0 y1,zFH n a0 a1=some (y0,y1)/\xs=[.agg ((Nd.enc a0).map .s),.s (.sl 1 (iL a1))]/\r = .val (.tup [.agg ((Nd.enc y0).map .s),nI y1])
def zIn:zAr:=pG zXd
theorem zJb:PSound prog 92 zIn:=by
 have gok:=gk1 zC3<|gk1 zUD<|gk0
 refine psq tokW call92 func92 rfl ?_;rintro xs r w0 G0 ⟨n,⟨n1A,n1C,n1D,n1B⟩,path2,y0,y1,h,rfl,rfl⟩ _;rw[zFH]at h;refine yBn [4] [] rfl ?_;refine zAa<|yCp ?_;obtain⟨y3,hy3,h⟩:=zAc h;refine⟨_,⟨_,_,_,hy3,rfl,rfl⟩,?_⟩
 refine zAf rfl h (fun hb h=>?_) (fun hb h=>?_)
 ·exact jP
 ·refine zAe<|yBn [6] [] rfl ?_;obtain⟨⟨⟨y4A,y4C,y4D,y4B⟩,y5⟩,hy4,h⟩:=zAc h;refine⟨_,⟨_,_,_,_,_,hy4,rfl,rfl⟩,?_⟩
  refine zAh (Le.giveBox 1 (nN y4A y4C y4D y4B) rfl rfl)<|zAa<|yCp ?_;refine zAf rfl h (fun hb h=>?_) (fun hb h=>?_)
  ·exact jP
  ·refine zAe<|yCp ?_;exact jA
def zT3:Prop:=∃ a0 a1 y0 y1,zFh n a0 a1=some (y0,y1)/\xs=[.agg ((Nd.enc a0).map .s),.agg ((zCb a1).map .s)]/\r = .val (.tup [.s (.sl 4 (Nd.encs y0)),nI y1])
def zJ1:zAr:=pG zT3
theorem zH8 {α:Type}{a b:α} (h:a=b:=by simp[map_append,map_take,map_drop,irow,brow,zF1,map_cons,map_nil,zFx,Nd.encs_eq,Nd.enc,zBu,zAS,zBY,zAO,zAJ,zAl,zA6,zAo,zAi,zC8,zAF,zCb,zAN]):a=b :=
 h
theorem zMt:PSound prog 99 zJ1:=by
 have gok:=gk1 zJb<|gk0
 refine psq tokW call99 func99 rfl ?_;rintro xs r w0 G0 ⟨n,⟨n1A,n1C,n1D,n1B⟩,⟨r2E,r2O,r2Ai⟩,y0,y1,h,rfl,rfl⟩ _;rw[zFh]at h;refine yBn [4] [] rfl ?_;refine zAh (Le.rnq [] [(2,pN n1A n1C n1D n1B),(3,.s (.pt [.sl 1 (iL r2E),.int .i64 r2O,.int .i64 r2Ai]))] [] 0)<|yBn [6] [] rfl ?_;obtain⟨⟨⟨y3A,y3C,y3D,y3B⟩,y4⟩,hy3,h⟩:=zAc h;refine⟨_,⟨_,_,_,_,_,hy3,rfl,rfl⟩,?_⟩
 refine zAh (Le.giveBox 0 (nN y3A y3C y3D y3B) rfl rfl)<|zAa<|yCp ?_;refine zAf rfl h (fun hb h=>?_) (fun hb h=>?_)
 ·refine yBn [4] [] rfl ?_;refine zAh (Le.rnq [(1,0)] [(4,.orow 0),(5,nI y4)] [(0,.row 24 4 (Nd.encs []))] 1 (h2:=⟨rfl,⟨_,rfl,congrArg (Ob.row 24 4) zH8⟩,trivial⟩))<|zAd ?_;obtain⟨hj1,hk1⟩:=pij h;subst hj1 hk1;unfold zBK
  exact⟨_,(Le.trans (Le.rnq [(0,0)] [(4,.orow 0),(5,nI y4)] [(0,.row 24 4 (Nd.encs []))] 1) (Le.giveRow 0 rfl)),rfl,rfl⟩
 ·refine zAe<|zAa<|zAa ?_;obtain⟨x5,hj,h⟩:=zAc h;refine pL [(3,.s (.pt [.sl 1 (iL r2E),.int .i64 r2O,.int .i64 r2Ai])),(6,pN y3A y3C y3D y3B),(35,nB x5)] ?_ (fun σ' hle=>?_)
  ·replace h:=hj;refine zAb [] [21,28,33] rfl ?_;intro b hb;cases b with
   | true =>
    replace h:=zAw hb.symm h;intro b hb;subst hb;exact kA
   | false =>
    replace h:=zAv hb.symm h;intro b hb;cases b with
    | true =>
     replace h:=zAw hb.symm h;exact kA
    | false =>
     replace h:=zAv hb.symm h;intro n6 hn6;obtain rfl:=rlE Nd.encs_eq y3B hn6;exact kA
  ·refine zAh hle<|zAf rfl h (fun hb h=>?_) (fun hb h=>?_)
   ·refine yBn [4] [] rfl ?_;refine zAh (Le.rnq [(0,0)] [(4,.orow 0),(5,nI 2)] [(0,.row 24 4 (Nd.encs []))] 1 (h2:=⟨rfl,⟨_,rfl,congrArg (Ob.row 24 4) zH8⟩,trivial⟩))<|zAd ?_;obtain⟨hj1,hk1⟩:=pij h;subst hj1 hk1;unfold zBK
    exact⟨_,(Le.trans (Le.rnq [(0,0)] [(4,.orow 0),(5,nI 2)] [(0,.row 24 4 (Nd.encs []))] 1) (Le.giveRow 0 rfl)),rfl,rfl⟩
   ·refine zAe<|yBn [36,44] [43] rfl ?_;obtain⟨hq,h⟩:=zAx h;refine And.intro ⟨hq.1,hq.2.1,Int.le_trans hq.2.2 (Int.ofNat_le.2 (Nat.le_of_eq (rlen Nd.encs_eq _).symm))⟩ ?_;intro r7 hr7;obtain rfl:Nd.encs ((y3B.take r2Ai.toNat).drop r2O.toNat)=r7:=(hr7.trans (rcut Nd.encs_eq _ _ _)).symm;obtain⟨hq,h⟩:=zAx h
    refine And.intro (show(([]:List (List S)).length+(Nd.encs ((y3B.take r2Ai.toNat).drop r2O.toNat)).length) * 56<=140737488355328/\([]:List (List S)).length+(Nd.encs ((y3B.take r2Ai.toNat).drop r2O.toNat)).length<=9223372036854775807 from by simp only[length_append,length_cons,length_nil,length_map,rlen Nd.encs_eq]at hq ⊢; omega) ?_;show Tri ..
    refine zAh (Le.rnq [(1,0)] [(4,.orow 0),(5,nI 0)] [(0,.row 24 4 (Nd.encs ((y3B.take r2Ai.toNat).drop r2O.toNat)))] 1 (h2:=⟨rfl,⟨_,rfl,congrArg (Ob.row 24 4) zH8⟩,trivial⟩))<|zAd ?_;obtain⟨hj1,hk1⟩:=pij h;subst hj1 hk1;unfold zBK
    exact⟨_,(Le.trans (Le.rnq [(0,0)] [(4,.orow 0),(5,nI 0)] [(0,.row 24 4 (Nd.encs ((y3B.take r2Ai.toNat).drop r2O.toNat)))] 1) (Le.giveRow 0 rfl)),rfl,rfl⟩
def zXk:Prop:=∃ a0 a1 y0,zGA n a0 a1=some y0/\xs=[.agg ((Nd.enc a0).map .s),.agg ((zCb a1).map .s)]/\r = .row 76 8 ((List.map zAl) y0)
def zKD:zAr:=pG zXk
theorem zLB:PSound prog 88 zKD:=by
 have gok:=gk1 zMt<|gk0
 refine psq tokW call88 func88 rfl ?_;rintro xs r w0 G0 ⟨n,⟨n1A,n1C,n1D,n1B⟩,⟨r2E,r2O,r2Ai⟩,y0,h,rfl,rfl⟩ _;rw[zGA]at h;refine yBn [4] [] rfl ?_;refine zAh (Le.rnq [] [(2,pN n1A n1C n1D n1B),(3,.s (.pt [.sl 1 (iL r2E),.int .i64 r2O,.int .i64 r2Ai]))] [] 0)<|yCp ?_;obtain⟨⟨y3,y4⟩,hy3,h⟩:=zAc h;refine⟨_,⟨_,_,_,_,_,hy3,rfl,rfl⟩,?_⟩
 refine zAa<|yBn [] [14] rfl ?_;intro n5 hn5;obtain rfl:=rlE Nd.encs_eq y3 hn5;refine zAf rfl h (fun hb h=>?_) (fun hb h=>?_)
 ·refine yBn [4] [] rfl ?_;refine zAh (Le.rnq [(0,0)] [(4,.orow 0)] [(0,.row 76 8 ((List.map zAl) []))] 1 (h2:=⟨rfl,⟨_,rfl,congrArg (Ob.row 76 8) zH8⟩,trivial⟩))<|zAd ?_;exact jH
 ·refine zAe<|yBn [22] [] rfl ?_;refine zAh (Le.rnq [(0,0)] [(4,.orow 0)] [(0,.row 76 8 ((List.map zAl) [(2,r2E,r2O,0,y3,0,[],[])]))] 1 (h2:=⟨rfl,⟨_,rfl,congrArg (Ob.row 76 8) zH8⟩,trivial⟩))<|zAd ?_
  exact jH
def zY8 (xs:List AV) (r:Ret):Prop:=∃ a0 a1 y0,zD5 a0 a1=some y0/\xs=[.s (.sl 1 (iL a0)),.s (.sl 1 (iL a1))]/\r = .row 3 1 (iL y0)
def zI3:zAr:=zAu fun xs r=>zY8 xs r
theorem zIS:PSound prog 90 zI3:=by
 have gok:=@gok0 prog;refine psq tokW call90 func90 rfl ?_;rintro xs r w0 G0 ⟨path1,more2,y0,h,rfl,rfl⟩ _;rw[zD5]at h;refine yBn [4] [] rfl ?_;refine zAh (Le.rnq [] [(0,.s (.sl 1 (iL path1))),(1,.s (.sl 1 (iL more2)))] [] 0)<|yBn [5,7,9] [] rfl ?_;obtain⟨hq,h⟩:=zAx h
 refine And.intro (show(([]:List (List S)).length+(iL path1).length) * 8<=140737488355328/\([]:List (List S)).length+(iL path1).length<=9223372036854775807 from by simp only[length_append,length_cons,length_nil,length_map,rlen (fun _=>rfl)]at hq ⊢; omega) ?_;obtain⟨hq,h⟩:=zAx h
 refine And.intro (show((([]:List (List S))++(iL path1)).length+(iL more2).length) * 8<=140737488355328/\(([]:List (List S))++(iL path1)).length+(iL more2).length<=9223372036854775807 from by simp only[length_append,length_cons,length_nil,length_map,rlen (fun _=>rfl)]at hq ⊢; omega) ?_;show Tri ..
 refine zAh (Le.rnq [(2,0)] [(4,.orow 0)] [(0,.row 3 1 (iL (path1++more2)))] 1 (h2:=⟨rfl,⟨_,rfl,congrArg (Ob.row 3 1) zH8⟩,trivial⟩))<|zAd ?_;exact jH
def zOO:Prop:=∃ a0 a1 y0,zEn n a0 a1=some y0/\xs=[.s (.sl 4 (Nd.encs a0)),nI a1]/\r = .val (nB y0)
def zJC:zAr:=pG zOO
theorem zN7:PSound prog 151 zJC:=by
 have gok:=gk1 zFk<|gk0
 refine psq tokW call151 func151 rfl ?_;rintro xs r w0 G0 ⟨n,l1,slot2,y0,h,rfl,rfl⟩ _;rw[zEn]at h;refine yCp ?_;refine zAa ?_;obtain⟨x3,hj,h⟩:=zAc h;refine pL [(4,nB x3)] ?_ (fun σ' hle=>?_)
 ·replace h:=hj;refine zAb [] [6,8,12,16,19,22,25,27,31,34] rfl ?_;intro n4 hn4;obtain rfl:=rlE Nd.encs_eq l1 hn4;intro b hb;cases b with
  | true =>
   replace h:=zAw hb.symm h;obtain⟨y5,hy5,h⟩:=zAc h;refine⟨_,⟨_,_,_,hy5,rfl,rfl⟩,?_⟩
   intro b hb;cases b with
   | true =>
    replace h:=zAw hb.symm h;intro b hb;cases b with
    | true =>
     replace h:=zAw hb.symm h;obtain⟨⟨e6A,e6C,e6D,e6B⟩,he6,h⟩:=zAc h;refine And.intro (zAq Nd.encs_eq he6).1 ?_;intro r7 hr7;obtain rfl:(nN e6A e6C e6D e6B)=r7:=(hr7.trans (zAq Nd.encs_eq he6).2.1).symm;intro n8 hn8;obtain rfl:=rlE Nd.encs_eq e6B hn8;intro b hb;cases b with
     | true =>
      replace h:=zAw hb.symm h;obtain⟨⟨e9A,e9C,e9D,e9B⟩,he9,h⟩:=zAc h;refine And.intro (zAq Nd.encs_eq he9).1 ?_;intro r10 hr10;obtain rfl:(nN e9A e9C e9D e9B)=r10:=(hr10.trans (zAq Nd.encs_eq he9).2.1).symm;obtain⟨⟨e11A,e11C,e11D,e11B⟩,he11,h⟩:=zAc h;refine And.intro (zAq Nd.encs_eq he11).1 ?_;intro r12 hr12;obtain rfl:(nN e11A e11C e11D e11B)=r12:=(hr12.trans (zAq Nd.encs_eq he11).2.1).symm;intro n13 hn13;obtain rfl:=rlE Nd.encs_eq e11B hn13;exact jD
     | false =>
      exact jI
    | false =>
     exact jJ
   | false =>
    exact jL
  | false =>
   exact jW
 ·exact jR
def zR3:Prop:=∃ a0 y0,zEM n a0=some y0/\xs=[.agg ((zAl a0).map .s)]/\r = .val (nB y0)
def zIq:zAr:=pG zR3
theorem zK4:PSound prog 97 zIq:=by
 have gok:=gk1 zFk<|gk1 zN7<|gk0
 refine psq tokW call97 func97 rfl ?_;rintro xs r w0 G0 ⟨n,⟨a1A,a1E,a1F,a1K,a1G,a1H,a1L,a1C⟩,y0,h,rfl,rfl⟩ _;rw[zEM]at h;refine yCp ?_;refine zAa<|yCp ?_;show Tri ..;obtain⟨fl,hj,ho1⟩:=zAc h;refine zB3 (fl:=fl) (fun z=>match z with | _=>⟨ofL [],fun _=>none,0⟩) ?_ (fun z σ' hz hle=>?_)
 ·replace h:=hj;refine zAk<|zAa<|yCp ?_;show Tri ..;obtain⟨x2,hj,h⟩:=zAc h;refine pL [(1,.s (.pt [.int .i64 a1A,.sl 1 (iL a1E),.int .i64 a1F,.int .i64 a1K,.sl 4 (Nd.encs a1G),.int .i64 a1H,.str a1L,.str a1C])),(4,nI a1A),(5,nB x2)] ?_ (fun σ' hle=>?_)
  ·replace h:=hj;refine zAf rfl h (fun hb h=>?_) (fun hb h=>?_)
   ·exact gI
   ·exact kF
  ·refine zAh hle<|zAf rfl h (fun hb h=>?_) (fun hb h=>?_)
   ·refine zAa ?_;obtain⟨x3,hj,h⟩:=zAc h;refine pL [(2,nB x3)] ?_ (fun σ' hle=>?_)
    ·replace h:=hj;refine zAb [] [10,12,17,22,27,32] rfl ?_;intro n4 hn4;obtain rfl:=rlE Nd.encs_eq a1G hn4;intro b hb;cases b with
     | true =>
      replace h:=zAw hb.symm h;obtain⟨y5,hy5,h⟩:=zAc h;refine⟨_,⟨_,_,_,hy5,rfl,rfl⟩,?_⟩
      intro b hb;cases b with
      | true =>
       replace h:=zAw hb.symm h;intro b hb;cases b with
       | true =>
        replace h:=zAw hb.symm h;intro b hb;cases b with
        | true =>
         replace h:=zAw hb.symm h;intro b hb;cases b with
         | true =>
          exact jG
         | false =>
          exact jI
        | false =>
         exact jJ
       | false =>
        exact jL
      | false =>
       exact jW
     | false =>
      replace h:=zAv hb.symm h;intro b hb;subst hb;intro b hb;subst hb;intro b hb;subst hb;intro b hb;subst hb;exact jD
    ·exact jZ
   ·refine zAa<|yCp ?_;show Tri ..;obtain⟨x6,hj,h⟩:=zAc h;refine pL [(1,.s (.pt [.int .i64 a1A,.sl 1 (iL a1E),.int .i64 a1F,.int .i64 a1K,.sl 4 (Nd.encs a1G),.int .i64 a1H,.str a1L,.str a1C])),(4,nI a1A),(37,nB x6)] ?_ (fun σ' hle=>?_)
    ·replace h:=hj;refine zAf rfl h (fun hb h=>?_) (fun hb h=>?_)
     ·exact gI
     ·exact kF
    ·refine zAh hle<|zAf rfl h (fun hb h=>?_) (fun hb h=>?_)
     ·refine zAa ?_;obtain⟨x7,hj,h⟩:=zAc h;refine pL [(2,nB x7)] ?_ (fun σ' hle=>?_)
      ·replace h:=hj;refine zAb [] [43,50,55] rfl ?_;intro b hb;cases b with
       | true =>
        replace h:=zAw hb.symm h;obtain⟨y8,hy8,h⟩:=zAc h;refine⟨_,⟨_,_,_,_,hy8,rfl,rfl⟩,?_⟩
        intro b hb;cases b with
        | true =>
         replace h:=zAw hb.symm h;intro b hb;cases b with
         | true =>
          exact jG
         | false =>
          exact jI
        | false =>
         exact jJ
       | false =>
        exact jL
      ·exact jZ
     ·refine yCp ?_;refine zAf rfl h (fun hb h=>?_) (fun hb h=>?_)
      ·refine zAa ?_;obtain⟨x9,hj,h⟩:=zAc h;refine pL [(2,nB x9)] ?_ (fun σ' hle=>?_)
       ·replace h:=hj;refine zAb [] [67,70,73,78] rfl ?_;intro b hb;cases b with
        | true =>
         replace h:=zAw hb.symm h;intro n10 hn10;obtain rfl:=rlE Nd.encs_eq a1G hn10;intro b hb;cases b with
         | true =>
          replace h:=zAw hb.symm h;intro b hb;cases b with
          | true =>
           exact jG
          | false =>
           exact jI
         | false =>
          exact jJ
        | false =>
         exact jL
       ·exact jZ
      ·exact kP
 ·exact jF
def zR6 (xs:List AV) (r:Ret):Prop:=∃ a0 a1 a2 a3 y0,zCj a0 a1 a2 a3=some y0/\xs=[.s (.sl 4 (Nd.encs a0)),nI a1,nI a2,.s (.sl 4 (Nd.encs a3))]/\r = .row 24 4 (Nd.encs y0)
def zL8:zAr:=zAu fun xs r=>zR6 xs r
theorem zRh:PSound prog 199 zL8:=by
 have gok:=@gok0 prog;refine psq tokW call199 func199 rfl ?_;rintro xs r w0 G0 ⟨l1,at2,to3,by4,y0,h,rfl,rfl⟩ _;rw[zCj]at h;refine yBn [8] [] rfl ?_;refine zAh (Le.rnq [] [(0,.s (.sl 4 (Nd.encs l1))),(1,nI at2),(2,nI to3),(3,.s (.sl 4 (Nd.encs by4)))] [] 0)<|yBn [10,14] [13] rfl ?_;obtain⟨hq,h⟩:=zAx h;refine And.intro ⟨hq.1,hq.2.1,Int.le_trans hq.2.2 (Int.ofNat_le.2 (Nat.le_of_eq (rlen Nd.encs_eq _).symm))⟩ ?_;intro r5 hr5;obtain rfl:Nd.encs ((l1.take at2.toNat).drop (0:Int).toNat)=r5:=(hr5.trans (rcut Nd.encs_eq _ _ _)).symm
 obtain⟨hq,h⟩:=zAx h;refine And.intro (show(([]:List (List S)).length+(Nd.encs ((l1.take at2.toNat).drop (0:Int).toNat)).length) * 56<=140737488355328/\([]:List (List S)).length+(Nd.encs ((l1.take at2.toNat).drop (0:Int).toNat)).length<=9223372036854775807 from by simp only[length_append,length_cons,length_nil,length_map,rlen Nd.encs_eq]at hq ⊢; omega) ?_;show Tri ..
 refine zAh (Le.rnq [(1,0)] [(0,.s (.sl 4 (Nd.encs l1))),(2,nI to3),(3,.s (.sl 4 (Nd.encs by4))),(9,.orow 0)] [(0,.row 24 4 (Nd.encs ((l1.take at2.toNat).drop (0:Int).toNat)))] 1 (h2:=⟨rfl,⟨_,rfl,congrArg (Ob.row 24 4) zH8⟩,trivial⟩))<|yBn [17] [] rfl ?_
 obtain⟨hq,h⟩:=zAx h;refine And.intro (show((Nd.encs ((l1.take at2.toNat).drop (0:Int).toNat)).length+(Nd.encs by4).length) * 56<=140737488355328/\(Nd.encs ((l1.take at2.toNat).drop (0:Int).toNat)).length+(Nd.encs by4).length<=9223372036854775807 from by simp only[length_append,length_cons,length_nil,length_map,length_take,rlen Nd.encs_eq]at hq ⊢; omega) ?_;show Tri ..
 refine zAh (Le.rnq [(1,0)] [(0,.s (.sl 4 (Nd.encs l1))),(2,nI to3),(9,.orow 0)] [(0,.row 24 4 (Nd.encs (((l1.take at2.toNat).drop (0:Int).toNat)++by4)))] 1 (h2:=⟨rfl,⟨_,rfl,congrArg (Ob.row 24 4) zH8⟩,trivial⟩))<|yBn [22] [21] rfl ?_;obtain⟨hq,h⟩:=zAx h
 refine And.intro ⟨hq.1,Int.le_trans hq.2.1 (Int.ofNat_le.2 (Nat.le_of_eq (rlen Nd.encs_eq _).symm)),Int.le_refl _⟩ ?_;intro r6 hr6;obtain rfl:Nd.encs ((l1.take (l1.length:Int).toNat).drop to3.toNat)=r6:=(hr6.trans ((congrArg (fun m:Nat=>((Nd.encs l1).take m).drop to3.toNat) (rlen Nd.encs_eq _)).trans (rcut Nd.encs_eq _ _ _))).symm;obtain⟨hq,h⟩:=zAx h
 refine And.intro (show((Nd.encs (((l1.take at2.toNat).drop (0:Int).toNat)++by4)).length+(Nd.encs ((l1.take (l1.length:Int).toNat).drop to3.toNat)).length) * 56<=140737488355328/\(Nd.encs (((l1.take at2.toNat).drop (0:Int).toNat)++by4)).length+(Nd.encs ((l1.take (l1.length:Int).toNat).drop to3.toNat)).length<=9223372036854775807 from by simp only[length_append,length_cons,length_nil,length_map,length_take,rlen Nd.encs_eq]at hq ⊢; omega) ?_;show Tri ..
 refine zAh (Le.rnq [(1,0)] [(8,.orow 0)] [(0,.row 24 4 (Nd.encs ((((l1.take at2.toNat).drop (0:Int).toNat)++by4)++((l1.take (l1.length:Int).toNat).drop to3.toNat))))] 1 (h2:=⟨rfl,⟨_,rfl,congrArg (Ob.row 24 4) zH8⟩,trivial⟩))<|zAd ?_;have hy:=osi h;subst hy;unfold zBK
 exact⟨_,Le.refl _ _,0,rfl,rfl⟩
def zOM (xs:List AV) (r:Ret):Prop:=∃ a0 a1 a2 y0,zBs a0 a1 a2=some y0/\xs=[.agg ((Nd.enc a0).map .s),nI a1,.agg ((Nd.enc a2).map .s)]/\r = .val (.agg ((Nd.enc y0).map .s))
def zEk:zAr:=zAu fun xs r=>zOM xs r
theorem zE4:PSound prog 100 zEk:=by
 have gok:=@gok0 prog;refine psq tokW call100 func100 rfl ?_;rintro xs r w0 G0 ⟨⟨n1A,n1C,n1D,n1B⟩,i2,⟨kid3A,kid3C,kid3D,kid3B⟩,y0,h,rfl,rfl⟩ _;rw[zBs]at h;refine yBn [3,6] [] rfl ?_;refine yBn [7,10] [] rfl ?_;obtain⟨hq,h⟩:=zAx h;refine And.intro (show(([]:List (List S)).length+(Nd.encs n1B).length) * 56<=140737488355328/\([]:List (List S)).length+(Nd.encs n1B).length<=9223372036854775807 from by simp only[length_append,length_cons,length_nil,length_map,rlen Nd.encs_eq]at hq ⊢; omega) ?_
 show Tri ..
 refine zAh (Le.rnq [(0,0),(3,1),(1,2)] [(1,nI i2),(3,.op 0 0),(5,pN kid3A kid3C kid3D kid3B),(6,.op 2 0)] [(0,.box 24 [nI n1A,nS n1C,nI n1D,.orow 1]),(1,.row 24 4 (Nd.encs n1B)),(2,.box 24 [nI 0,.s (.str []),nI 0,.nl 4])] 3 (h2:=⟨rfl,⟨_,rfl,rfl⟩,rfl,⟨_,rfl,congrArg (Ob.row 24 4) zH8⟩,rfl,⟨_,rfl,rfl⟩,trivial⟩)) ?_
 refine yCp ?_;obtain⟨⟨e4A,e4C,e4D,e4B⟩,he4,h⟩:=zAc h;refine And.intro (zAq Nd.encs_eq he4).1 ?_;have hset5:=(rset (R:=Nd.encs) (f:=Nd.enc) Nd.encs_eq he4 (Nd.mk kid3A kid3C kid3D kid3B) 0 4 (nN kid3A kid3C kid3D kid3B) rfl)
 have hat5:=at_set he4 (Nd.mk kid3A kid3C kid3D kid3B)
 refine And.intro (zAq Nd.encs_eq he4).2.2 ?_;refine zAh (Le.rnq [(0,0),(1,1),(2,2)] [(3,.op 0 0),(6,.op 2 0)] [(0,.box 24 [nI n1A,nS n1C,nI n1D,.orow 1]),(1,.row 24 4 (Nd.encs (n1B.set i2.toNat (Nd.mk kid3A kid3C kid3D kid3B)))),(2,.box 24 [nI 0,.s (.str []),nI 0,.nl 4])] 3 (h2:=⟨rfl,⟨_,rfl,rfl⟩,rfl,⟨_,rfl,congrArg (Ob.row 24 4) hset5⟩,rfl,⟨_,rfl,rfl⟩,trivial⟩))<|yCp ?_;refine zAd ?_;have hy:=osi h;subst hy;unfold zBK
 exact⟨_,(Le.trans (Le.rnq [(2,0),(1,1)] [(6,.op 0 0)] [(0,.box 24 [nI n1A,nS n1C,nI n1D,.orow 1]),(1,.row 24 4 (Nd.encs (n1B.set i2.toNat (Nd.mk kid3A kid3C kid3D kid3B))))] 2) (Le.giveRow 1 rfl)),rfl,rfl⟩
def zR5 (xs:List AV) (r:Ret):Prop:=∃ a0 a1 a2 y0,zDR a0 a1 a2=some y0/\xs=[.agg ((Nd.enc a0).map .s),nI a1,.s (.sl 4 (Nd.encs a2))]/\r = .val (.agg ((Nd.enc y0).map .s))
def zL7:zAr:=zAu fun xs r=>zR5 xs r
theorem zRg:PSound prog 200 zL7:=by
 have gok:=gk1 zC2<|gk1 zE4<|gk0
 refine psq tokW call200 func200 rfl ?_;rintro xs r w0 G0 ⟨⟨n1A,n1C,n1D,n1B⟩,slot2,l3,y0,h,rfl,rfl⟩ _;rw[zDR]at h;refine yBn [6] [] rfl ?_;refine zAa<|zEd [9,11] [] [2,4,5,7] [] rfl (by decide +kernel) ?_;obtain⟨hq,h⟩:=zAx h;refine And.intro (show(([]:List (List S)).length+(Nd.encs l3).length) * 56<=140737488355328/\([]:List (List S)).length+(Nd.encs l3).length<=9223372036854775807 from by simp only[length_append,length_cons,length_nil,length_map,rlen Nd.encs_eq]at hq ⊢; omega) ?_
 obtain⟨⟨y4A,y4C,y4D,y4B⟩,hy4,h⟩:=zAc h;refine⟨_,⟨_,_,hy4,(congrArg (fun r=>[AV.s (.sl 4 r)]) (show[]++(Nd.encs l3)=Nd.encs l3 from zH8)),rfl⟩,?_⟩
 obtain⟨⟨y5A,y5C,y5D,y5B⟩,hy5,h⟩:=zAc h;refine⟨_,⟨_,_,_,_,hy5,rfl,rfl⟩,?_⟩
 exact jM
variable (n:Nat) (xs:List AV) (r:Ret)
def zR4:Prop:=∃ a0 a1 y0 y1,zFK n a0 a1=some (y0,y1)/\xs=[.s (.sl 4 (Nd.encs a0)),.agg ((zAl a1).map .s)]/\r = .val (.tup [.s (.sl 4 (Nd.encs y0)),nI y1])
def zL6:zAr:=pG zR4
theorem zRf:PSound prog 155 zL6:=by
 have gok:=gk1 zRh<|gk1 zMO<|gk1 zRg<|gk1 zTj<|gk0
 refine psq tokW call155 func155 rfl ?_;rintro xs r w0 G0 ⟨n,a1,⟨a2A,a2E,a2F,a2K,a2G,a2H,a2L,a2C⟩,y0,y1,h,rfl,rfl⟩ _;rw[zFK]at h;refine yCp ?_;refine yCp ?_;refine zAa<|yCp ?_;show Tri ..;obtain⟨x3,hj,h⟩:=zAc h
 refine pL [(0,.s (.sl 4 (Nd.encs a1))),(3,.s (.pt [.int .i64 a2A,.sl 1 (iL a2E),.int .i64 a2F,.int .i64 a2K,.sl 4 (Nd.encs a2G),.int .i64 a2H,.str a2L,.str a2C])),(6,nI x3)] ?_ (fun σ' hle=>?_)
 ·replace h:=hj;refine zAk<|yCp ?_;refine zAf rfl h (fun hb h=>?_) (fun hb h=>?_)
  ·exact kF
  ·refine yCp ?_;refine zAf rfl h (fun hb h=>?_) (fun hb h=>?_)
   ·refine zAb [] [17] rfl ?_;intro n4 hn4;obtain rfl:=rlE Nd.encs_eq a2G hn4;exact jD
   ·refine yCp ?_;refine zAf rfl h (fun hb h=>?_) (fun hb h=>?_)
    ·exact kF
    ·exact gI
 ·refine zAh hle<|zAa<|zAa ?_;obtain⟨x5,hj,h⟩:=zAc h;refine pL [(0,.s (.sl 4 (Nd.encs a1))),(3,.s (.pt [.int .i64 a2A,.sl 1 (iL a2E),.int .i64 a2F,.int .i64 a2K,.sl 4 (Nd.encs a2G),.int .i64 a2H,.str a2L,.str a2C])),(6,nI x3),(40,nB x5)] ?_ (fun σ' hle=>?_)
  ·replace h:=hj;refine zAb [] [25,29,32,35] rfl ?_;intro b hb;cases b with
   | true =>
    replace h:=zAw hb.symm h;intro b hb;subst hb;exact jD
   | false =>
    replace h:=zAv hb.symm h;intro n6 hn6;obtain rfl:=rlE Nd.encs_eq a1 hn6;intro b hb;cases b with
    | true =>
     exact jG
    | false =>
     replace h:=zAv hb.symm h;intro n7 hn7;obtain rfl:=rlE Nd.encs_eq a1 hn7;exact jD
  ·refine zAh hle<|zAf rfl h (fun hb h=>?_) (fun hb h=>?_)
   ·exact jP
   ·refine zAe<|yCp ?_;refine zAa<|yCp ?_;refine zAk<|yCp ?_;refine zAf rfl h (fun hb h=>?_) (fun hb h=>?_)
    ·refine yCp ?_;obtain⟨y8,hy8,h⟩:=zAc h;refine⟨_,⟨_,_,_,_,_,hy8,rfl,rfl⟩,?_⟩
     exact jA
    ·refine yCp ?_;refine zAf rfl h (fun hb h=>?_) (fun hb h=>?_)
     ·refine zAa<|zAa<|zAC [] [62] [] rfl (by decide +kernel) ?_;obtain⟨hq,h⟩:=zAx h;refine And.intro ⟨hq.1,hq.2.1,Int.le_trans hq.2.2 (Int.ofNat_le.2 (Nat.le_of_eq (rlen Nd.encs_eq _).symm))⟩ ?_;intro r9 hr9;obtain rfl:Nd.encs ((a1.take (i64.wrap (a2F+x3)).toNat).drop a2F.toNat)=r9:=(hr9.trans (rcut Nd.encs_eq _ _ _)).symm;obtain⟨y10,hy10,h⟩:=zAc h;refine⟨_,⟨_,_,_,_,hy10,rfl,rfl⟩,?_⟩
      refine zAf rfl h (fun hb h=>?_) (fun hb h=>?_)
      ·exact jP
      ·refine zAe<|yCp ?_;obtain⟨y11,hy11,h⟩:=zAc h;refine⟨_,⟨_,_,_,_,_,hy11,rfl,rfl⟩,?_⟩
       exact jA
     ·refine yCp ?_;refine zAf rfl h (fun hb h=>?_) (fun hb h=>?_)
      ·refine zAa<|zAC [] [80,88,90] [] rfl (by decide +kernel) ?_;obtain⟨⟨e12A,e12C,e12D,e12B⟩,he12,h⟩:=zAc h;refine And.intro (zAq Nd.encs_eq he12).1 ?_;intro r13 hr13;obtain rfl:(nN e12A e12C e12D e12B)=r13:=(hr13.trans (zAq Nd.encs_eq he12).2.1).symm;obtain⟨hq,h⟩:=zAx h;refine And.intro ⟨hq.1,hq.2.1,Int.le_trans hq.2.2 (Int.ofNat_le.2 (Nat.le_of_eq (rlen Nd.encs_eq _).symm))⟩ ?_;intro r14 hr14;obtain rfl:Nd.encs ((a1.take (i64.wrap (a2F+x3)).toNat).drop a2F.toNat)=r14:=(hr14.trans (rcut Nd.encs_eq _ _ _)).symm
       obtain⟨⟨y15A,y15C,y15D,y15B⟩,hy15,h⟩:=zAc h;refine⟨_,⟨_,_,_,_,hy15,rfl,rfl⟩,?_⟩
       intro r16 hr16;obtain rfl:Nd.encs [Nd.mk y15A y15C y15D y15B]=r16:=(hr16.trans zH8).symm;obtain⟨y17,hy17,h⟩:=zAc h;refine⟨_,⟨_,_,_,_,_,hy17,rfl,rfl⟩,?_⟩
       exact jA
      ·refine zAe<|yBn [8] [95] rfl ?_;obtain⟨⟨e18A,e18C,e18D,e18B⟩,he18,h⟩:=zAc h;refine And.intro (zAq Nd.encs_eq he18).1 ?_;intro r19 hr19;obtain rfl:(nN e18A e18C e18D e18B)=r19:=(hr19.trans (zAq Nd.encs_eq he18).2.1).symm;refine zAa<|yCp ?_;refine zAf rfl h (fun hb h=>?_) (fun hb h=>?_)
       ·refine zAa<|zAa ?_;obtain⟨x20,hj,h⟩:=zAc h;refine zAm ⟨ofL [(0,.s (.sl 4 (Nd.encs a1))),(3,.s (.pt [.int .i64 a2A,.sl 1 (iL a2E),.int .i64 a2F,.int .i64 a2K,.sl 4 (Nd.encs a2G),.int .i64 a2H,.str a2L,.str a2C])),(7,nI (i64.wrap (a2F+x3))),(8,.op 0 0),(137,nB x20)],ofH [(0,.box 24 [nI e18A,nS e18C,nI e18D,.s (.sl 4 (Nd.encs e18B))])],1⟩ ?_ (fun σ' hle=>?_)
        ·replace h:=hj;refine zAC [] [104,106,111,114,119,123,131] [3,8,20,28] rfl (by decide +kernel) ?_;intro n21 hn21;obtain rfl:=rlE Nd.encs_eq e18B hn21;intro b hb;cases b with
         | true =>
          replace h:=zAw hb.symm h;exact gY
         | false =>
          replace h:=zAv hb.symm h;obtain⟨⟨e22A,e22C,e22D,e22B⟩,he22,h⟩:=zAc h;refine And.intro (zAq Nd.encs_eq he22).1 ?_;intro r23 hr23;obtain rfl:(nN e22A e22C e22D e22B)=r23:=(hr23.trans (zAq Nd.encs_eq he22).2.1).symm;intro n24 hn24;obtain rfl:=rlE Nd.encs_eq e22B hn24;intro b hb;cases b with
          | true =>
           exact jT
          | false =>
           replace h:=zAv hb.symm h;obtain⟨⟨e25A,e25C,e25D,e25B⟩,he25,h⟩:=zAc h;refine And.intro (zAq Nd.encs_eq he25).1 ?_;intro r26 hr26;obtain rfl:(nN e25A e25C e25D e25B)=r26:=(hr26.trans (zAq Nd.encs_eq he25).2.1).symm;obtain⟨⟨e27A,e27C,e27D,e27B⟩,he27,h⟩:=zAc h;refine And.intro (zAq Nd.encs_eq he27).1 ?_;intro r28 hr28;obtain rfl:(nN e27A e27C e27D e27B)=r28:=(hr28.trans (zAq Nd.encs_eq he27).2.1).symm;obtain⟨⟨y29A,y29C,y29D,y29B⟩,hy29,h⟩:=zAc h
           refine⟨_,⟨_,_,_,_,hy29,rfl,rfl⟩,?_⟩
           obtain⟨y30,hy30,h⟩:=zAc h;refine⟨_,⟨_,_,_,_,hy30,rfl,rfl⟩,?_⟩
           exact jC
        ·refine zAh hle<|zAf rfl h (fun hb h=>?_) (fun hb h=>?_)
         ·exact jP
         ·refine zAe<|zAa<|zAC [] [146] [5] rfl (by decide +kernel) ?_;obtain⟨⟨e31A,e31C,e31D,e31B⟩,he31,h⟩:=zAc h;refine And.intro (zAq Nd.encs_eq he31).1 ?_;intro r32 hr32;obtain rfl:(nN e31A e31C e31D e31B)=r32:=(hr32.trans (zAq Nd.encs_eq he31).2.1).symm;obtain⟨y33,hy33,h⟩:=zAc h;refine⟨_,⟨_,_,_,_,_,hy33,rfl,rfl⟩,?_⟩
          exact jA
       ·refine zAe<|zAa<|yCp ?_;show Tri ..;obtain⟨fl,hj,ho1⟩:=zAc h;refine zB3 (fl:=fl) (fun z=>match z with | _=>⟨ofL [],fun _=>none,0⟩) ?_ (fun z σ' hz hle=>?_)
        ·replace h:=hj;refine zAk<|zAa<|yCp ?_;show Tri ..;obtain⟨x34,hj,h⟩:=zAc h;refine zAm ⟨ofL [(0,.s (.sl 4 (Nd.encs a1))),(3,.s (.pt [.int .i64 a2A,.sl 1 (iL a2E),.int .i64 a2F,.int .i64 a2K,.sl 4 (Nd.encs a2G),.int .i64 a2H,.str a2L,.str a2C])),(7,nI (i64.wrap (a2F+x3))),(8,.op 0 0),(152,nB x34)],ofH [(0,.box 24 [nI e18A,nS e18C,nI e18D,.s (.sl 4 (Nd.encs e18B))])],1⟩ ?_ (fun σ' hle=>?_)
         ·replace h:=hj;refine zAf rfl h (fun hb h=>?_) (fun hb h=>?_)
          ·exact qF
          ·refine yCp ?_;refine zAf rfl h (fun hb h=>?_) (fun hb h=>?_)
           ·exact qF
           ·refine yCp ?_;refine zAf rfl h (fun hb h=>?_) (fun hb h=>?_)
            ·exact qF
            ·refine yCp ?_;refine zAf rfl h (fun hb h=>?_) (fun hb h=>?_)
             ·exact qF
             ·refine yCo ?_;exact jC
         ·refine zAh hle<|zAf rfl h (fun hb h=>?_) (fun hb h=>?_)
          ·refine yCp ?_;refine zAf rfl h (fun hb h=>?_) (fun hb h=>?_)
           ·refine yCp ?_;refine yBn [] [171] rfl ?_;intro r35 hr35;obtain rfl:Nd.encs [Nd.mk e18A a2C e18D e18B]=r35:=(hr35.trans zH8).symm;obtain⟨y36,hy36,h⟩:=zAc h;refine⟨_,⟨_,_,_,_,_,hy36,rfl,rfl⟩,?_⟩
            exact jN
           ·refine zAe ?_;cases h;exact⟨_,rfl,(Le.rnq [] _ [] 0)⟩
          ·refine zAe ?_;cases h;exact⟨_,rfl,(Le.rnq [] _ [] 0)⟩
        ·subst hz;obtain _:=z;replace h:=ho1;refine zAh hle<|yCp ?_;exact jA
def zIg:Prop:=∃ a0 a1 a2 y0,zFL n a0 a1 a2=some y0/\xs=[.agg ((Nd.enc a0).map .s),.s (.sl 1 (iL a1)),.s (.sl 4 (Nd.encs a2))]/\r = .val (.agg ((Nd.enc y0).map .s))
theorem zTL (n:Nat) (ih:PSound prog 156 (zAu (zIg n))):PSound prog 156 (zAu (zIg (n+1))):=by
 have gok:=gk1 zC2<|gk1 ih<|gk1 zE4<|gk0
 refine psq tokW call156 func156 rfl ?_;rintro xs r w0 G0 ⟨⟨n1A,n1C,n1D,n1B⟩,path2,l3,y0,h,rfl,rfl⟩ _;rw[zFL]at h;refine yBn [6] [] rfl ?_;refine zAa<|yBn [] [9] rfl ?_;intro n4 hn4;obtain rfl:=rlE (fun _=>rfl) path2 hn4;refine zAf rfl h (fun hb h=>?_) (fun hb h=>?_)
 ·refine yCp ?_;obtain⟨⟨y5A,y5C,y5D,y5B⟩,hy5,h⟩:=zAc h;refine⟨_,⟨_,_,hy5,rfl,rfl⟩,?_⟩
  exact jM
 ·refine zAe<|zAa<|zEd [7] [16,18] [7,8] [] rfl (by decide +kernel) ?_;obtain⟨e6,he6,h⟩:=zAc h;refine And.intro (zAq (fun _=>rfl) he6).1 ?_;intro r7 hr7;obtain rfl:[.int .i64 e6]=r7:=(hr7.trans (zAq (fun _=>rfl) he6).2.1).symm;obtain⟨⟨e8A,e8C,e8D,e8B⟩,he8,h⟩:=zAc h;refine And.intro (zAq Nd.encs_eq he8).1 ?_;intro r9 hr9;obtain rfl:(nN e8A e8C e8D e8B)=r9:=(hr9.trans (zAq Nd.encs_eq he8).2.1).symm;show Tri ..
  refine zAh (Le.giveBox 1 (nN e8A e8C e8D e8B) rfl rfl)<|zAa<|zAC [] [22,26,31,33,36] [21] rfl (by decide +kernel) ?_;obtain⟨e10,he10,h⟩:=zAc h;refine And.intro (zAq (fun _=>rfl) he10).1 ?_;intro r11 hr11;obtain rfl:[.int .i64 e10]=r11:=(hr11.trans (zAq (fun _=>rfl) he10).2.1).symm;obtain⟨e12,he12,h⟩:=zAc h;refine And.intro (zAq (fun _=>rfl) he12).1 ?_;intro r13 hr13;obtain rfl:[.int .i64 e12]=r13:=(hr13.trans (zAq (fun _=>rfl) he12).2.1).symm;obtain⟨e14,he14,h⟩:=zAc h;refine And.intro (zAq (fun _=>rfl) he14).1 ?_;intro r15 hr15
  obtain rfl:[.int .i64 e14]=r15:=(hr15.trans (zAq (fun _=>rfl) he14).2.1).symm;obtain⟨⟨e16A,e16C,e16D,e16B⟩,he16,h⟩:=zAc h;refine And.intro (zAq Nd.encs_eq he16).1 ?_;intro r17 hr17;obtain rfl:(nN e16A e16C e16D e16B)=r17:=(hr17.trans (zAq Nd.encs_eq he16).2.1).symm;obtain⟨hq,h⟩:=zAx h;refine And.intro ⟨hq.1,Int.le_trans hq.2.1 (Int.ofNat_le.2 (Nat.le_of_eq (rlen (fun _=>rfl) _).symm)),Int.le_refl _⟩ ?_;intro r18 hr18
  obtain rfl:iL ((path2.take (path2.length:Int).toNat).drop (2:Int).toNat)=r18:=(hr18.trans ((congrArg (fun m:Nat=>((iL path2).take m).drop (2:Int).toNat) (rlen (fun _=>rfl) _)).trans (rcut (fun _=>rfl) _ _ _))).symm;obtain⟨⟨y19A,y19C,y19D,y19B⟩,hy19,h⟩:=zAc h;refine⟨_,⟨_,_,_,_,hy19,rfl,rfl⟩,?_⟩
  obtain⟨⟨y20A,y20C,y20D,y20B⟩,hy20,h⟩:=zAc h;refine⟨_,⟨_,_,_,_,hy20,rfl,rfl⟩,?_⟩
  obtain⟨⟨y21A,y21C,y21D,y21B⟩,hy21,h⟩:=zAc h;refine⟨_,⟨_,_,_,_,hy21,rfl,rfl⟩,?_⟩
  exact jM
theorem zUf:∀ n,PSound prog 156 (zAu (zIg n)):=by
 intro n
 induction n with
 | zero=>exact zCP call156 (fun xs r h=>by obtain⟨_,_,_,_,h,_⟩:=h; cases h)
 | succ n ih=>exact zTL n ih
def zSh:zAr:=pG zIg
theorem zWJ:PSound prog 156 zSh:=zDu zUf
def zT5:Prop:=∃ a0 a1 y0 y1,zEw n a0 a1=some (y0,y1)/\xs=[.agg ((Nd.enc a0).map .s),.agg ((zAl a1).map .s)]/\r = .val (.tup [.agg ((Nd.enc y0).map .s),nI y1])
def zJ2:zAr:=pG zT5
theorem zMu:PSound prog 102 zJ2:=by
 have gok:=gk1 zC3<|gk1 zK4<|gk1 zJb<|gk1 zRf<|gk1 zWJ<|gk0
 refine psq tokW call102 func102 rfl ?_;rintro xs r w0 G0 ⟨n,⟨n1A,n1C,n1D,n1B⟩,⟨op2A,op2E,op2F,op2K,op2G,op2H,op2L,op2C⟩,y0,y1,h,rfl,rfl⟩ _;rw[zEw]at h;refine yBn [4] [] rfl ?_;refine zAa<|yCp ?_;obtain⟨y3,hy3,h⟩:=zAc h;refine⟨_,⟨_,_,_,hy3,rfl,rfl⟩,?_⟩
 refine zAf rfl h (fun hb h=>?_) (fun hb h=>?_)
 ·exact jP
 ·refine zAe<|zAa<|yCp ?_;obtain⟨y4,hy4,h⟩:=zAc h;refine⟨_,⟨_,_,_,hy4,rfl,rfl⟩,?_⟩
  refine zAf rfl h (fun hb h=>?_) (fun hb h=>?_)
  ·exact jP
  ·refine zAe<|yBn [6] [] rfl ?_;obtain⟨⟨⟨y5A,y5C,y5D,y5B⟩,y6⟩,hy5,h⟩:=zAc h;refine⟨_,⟨_,_,_,_,_,hy5,rfl,rfl⟩,?_⟩
   refine zAh (Le.giveBox 1 (nN y5A y5C y5D y5B) rfl rfl)<|zAa<|yCp ?_;refine zAf rfl h (fun hb h=>?_) (fun hb h=>?_)
   ·exact jP
   ·refine zAe<|yCp ?_;obtain⟨⟨y7,y8⟩,hy7,h⟩:=zAc h;refine⟨_,⟨_,_,_,_,_,hy7,rfl,rfl⟩,?_⟩
    refine zAa<|yCp ?_;refine zAf rfl h (fun hb h=>?_) (fun hb h=>?_)
    ·exact jP
    ·refine zAe<|yBn [9] [] rfl ?_;obtain⟨⟨y9A,y9C,y9D,y9B⟩,hy9,h⟩:=zAc h;refine⟨_,⟨_,_,_,_,_,hy9,rfl,rfl⟩,?_⟩
     refine zAh (Le.giveBox 2 (nN y9A y9C y9D y9B) rfl rfl)<|zAa<|yCp ?_;obtain⟨y10,hy10,h⟩:=zAc h;refine⟨_,⟨_,_,_,hy10,rfl,rfl⟩,?_⟩
     refine zAf rfl h (fun hb h=>?_) (fun hb h=>?_)
     ·exact jP
     ·refine zAe<|yCp ?_;exact jA
def zON:Prop:=∃ a0 a1 y0 y1 y2,zDt n a0 a1=some (y0,y1,y2)/\xs=[.agg ((Nd.enc a0).map .s),.s (.sl 8 ((List.map zAl) a1))]/\r = .val (.tup [.agg ((Nd.enc y0).map .s),nI y1,nI y2])
def zJB:zAr:=pG zON
theorem zN6:PSound prog 148 zJB:=by
 have gok:=gk1 zC3<|gk1 zMu<|gk0
 refine psq tokW call148 func148 rfl ?_;rintro xs r w0 G0 ⟨n,⟨n1A,n1C,n1D,n1B⟩,ops2,y0,y1,y2,h,rfl,rfl⟩ _;rw[zDt]at h;refine yBn [2,4] [] rfl ?_;refine zAa<|yCp ?_;obtain⟨y3,hy3,h⟩:=zAc h;refine⟨_,⟨_,_,_,hy3,rfl,rfl⟩,?_⟩
 refine zAf rfl h (fun hb h=>?_) (fun hb h=>?_)
 ·refine yCp ?_;refine zAd ?_;exact jK
 ·refine zAe<|zAa<|yCp ?_;show Tri ..;obtain⟨fl,hl,ho1⟩:=zAc h;refine zB3 (fl:=fl) (fun z=>match z with | ⟨x10,x11,x12,x13⟩=>⟨ofL [(2,.op 0 0),(4,.op 1 0)],ofH [(0,.box 24 [nI x10,nS x11,nI x12,.s (.sl 4 (Nd.encs x13))]),(1,.box 24 [nI 0,.s (.str []),nI 0,.nl 4])],2⟩) ?_ (fun z σ' hz hle=>?_)
  ·refine zAk (zAA (X:=Nat×Int×(List UInt8)×Int×(List Nd)×Int) (fun y=>match y with | (k,x4,x5,x6,x7,i9)=>⟨ofL [(1,.s (.sl 8 ((List.map zAl) ops2))),(2,.op 0 0),(4,.op 1 0),(7,nI i9)],ofH [(0,.box 24 [nI x4,nS x5,nI x6,.s (.sl 4 (Nd.encs x7))]),(1,.box 24 [nI 0,.s (.str []),nI 0,.nl 4])],2⟩) (fun y=>zBO n ops2 y.1 y.2.1 y.2.2.1 y.2.2.2.1 y.2.2.2.2.1 y.2.2.2.2.2=some fl) (fun y=>y.1) (n,n1A,n1C,n1D,n1B,0) hl ?_ ?_)
   ·exact kS
   ·rintro⟨k,x4,x5,x6,x7,i9⟩ h;cases k with
    | zero=>cases h
    | succ k =>
     replace h:zBO n ops2 (k+1) x4 x5 x6 x7 i9=some fl:=h;rw[zBO]at h;refine zAa<|yBn [] [16] rfl ?_;intro n14 hn14;obtain rfl:=rlE (fun _=>rfl) ops2 hn14;refine zAf rfl h (fun hb h=>?_) (fun hb h=>?_)
     ·refine zAe<|zAa<|zAk<|zAa<|zEd [8] [24] [0,9,10] [0] rfl (by decide +kernel) ?_;obtain⟨⟨e15A,e15E,e15F,e15K,e15G,e15H,e15L,e15C⟩,he15,h⟩:=zAc h;refine And.intro (zAq (fun _=>rfl) he15).1 ?_;intro r16 hr16;obtain rfl:[.int .i64 e15A,.sl 1 (iL e15E),.int .i64 e15F,.int .i64 e15K,.sl 4 (Nd.encs e15G),.int .i64 e15H,.str e15L,.str e15C]=r16:=(hr16.trans (zAq (fun _=>rfl) he15).2.1).symm;obtain⟨⟨⟨y17A,y17C,y17D,y17B⟩,y18⟩,hy17,h⟩:=zAc h
      refine⟨_,⟨_,_,_,_,_,hy17,rfl,rfl⟩,?_⟩
      refine zAh (Le.giveBox 2 (nN y17A y17C y17D y17B) rfl rfl)<|zAa<|yCp ?_;refine zAf rfl h (fun hb h=>?_) (fun hb h=>?_)
      ·refine yCp ?_;refine zAd ?_;cases h;replace h:some _=some _:=ho1;exact jK
      ·refine zAe<|yCo ?_;refine yCo ?_;refine⟨(k,y17A,y17C,y17D,y17B,i64.wrap (i9+1)),h,(Le.rnq [(0,0),(1,1)] _ _ _),Nat.lt_succ_self k⟩
     ·exact kU
  ·subst hz;obtain⟨x10,x11,x12,x13⟩:=z;replace h:=ho1;refine zAh hle<|yCp ?_;refine zAd ?_;exact jK
def zWa:Prop:=∃ a0 a1 a2 a3 y0 y1,zBC n a0 a1 a2 a3=some (y0,y1)/\xs=[.agg ((Nd.enc a0).map .s),.agg ((zAN a1).map .s),.s (.sl 8 ((List.map zAl) a2)),.s (.sl 1 (iL a3))]/\r = .val (.tup [.agg ((zAi y0).map .s),nI y1])
def zEC:zAr:=pG zWa
theorem zEz:PSound prog 89 zEC:=by
 have gok:=gk1 zN6<|gk0
 refine psq tokW call89 func89 rfl ?_;rintro xs r w0 G0 ⟨n,⟨n1A,n1C,n1D,n1B⟩,⟨c2I,c2M⟩,ops3,pos4,y0,y1,h,rfl,rfl⟩ _;rw[zBC]at h;refine yBn [8] [] rfl ?_;refine yBn [10] [] rfl ?_;obtain⟨⟨⟨y5A,y5C,y5D,y5B⟩,y6,y7⟩,hy5,h⟩:=zAc h;refine⟨_,⟨_,_,_,_,_,_,hy5,rfl,rfl⟩,?_⟩
 refine zAh (Le.giveBox 1 (nN y5A y5C y5D y5B) rfl rfl)<|zAa<|yCp ?_;refine zAf rfl h (fun hb h=>?_) (fun hb h=>?_)
 ·exact jP
 ·refine zAe<|yCp ?_;exact jA
def zSa:Prop:=∃ a0 a1 a2 y0 y1,zC0 n a0 a1 a2=some (y0,y1)/\xs=[.agg ((Nd.enc a0).map .s),.agg ((zAN a1).map .s),.s (.sl 4 (Nd.encs a2))]/\r = .val (.tup [.agg ((zAi y0).map .s),nI y1])
def zMc:zAr:=pG zSa
theorem kQ {P:Prop} (h:P:=by cases h;exact(Le.rnq [(0,0),(2,1)] _ _ _)):P:=h
theorem zRl:PSound prog 51 zMc:=by
 have gok:=gk1 zC3<|gk1 zFk<|gk1 zDT<|gk1 zLB<|gk1 zIS<|gk1 zEz<|gk0
 refine psq tokW call51 func51 rfl ?_;rintro xs r w0 G0 ⟨n,⟨n1A,n1C,n1D,n1B⟩,⟨c2I,c2M⟩,items3,y0,y1,h,rfl,rfl⟩ _;rw[zC0]at h;refine yBn [6] [] rfl ?_;refine zAa<|zAa ?_;obtain⟨x4,hj,h⟩:=zAc h;refine zAm ⟨ofL [(2,.s (.sl 4 (Nd.encs items3))),(3,pN n1A n1C n1D n1B),(4,.s (.pt [.sl 1 (iL c2I),.sl 1 (iL c2M)])),(6,.op 0 0),(18,nB x4)],ofH [(0,.box 40 [.nl 8,.nl 1,.nl 1,.nl 1,.nl 1])],1⟩ ?_ (fun σ' hle=>?_)
 ·replace h:=hj;refine zAb [] [14] rfl ?_;obtain⟨y5,hy5,h⟩:=zAc h;refine⟨_,⟨_,_,_,hy5,rfl,rfl⟩,?_⟩
  intro b hb;cases b with
  | true =>
   exact jT
  | false =>
   replace h:=zAv hb.symm h;obtain⟨y6,hy6,h⟩:=zAc h;refine⟨_,⟨_,_,_,hy6,rfl,rfl⟩,?_⟩
   exact jC
 ·refine zAh hle<|zAf rfl h (fun hb h=>?_) (fun hb h=>?_)
  ·exact jP
  ·refine zAe<|yBn [8] [] rfl ?_;obtain⟨⟨⟨y7E,y7O,y7Ai⟩,y8⟩,hy7,h⟩:=zAc h;refine⟨_,⟨_,_,_,_,_,hy7,rfl,rfl⟩,?_⟩
   refine zAh (Le.giveBox 1 [.sl 1 (iL y7E),.int .i64 y7O,.int .i64 y7Ai] rfl rfl)<|zAa<|yCp ?_;refine zAf rfl h (fun hb h=>?_) (fun hb h=>?_)
   ·exact jP
   ·refine zAe<|yBn [32] [] rfl ?_;obtain⟨y9,hy9,h⟩:=zAc h;refine⟨_,⟨_,_,_,_,hy9,rfl,rfl⟩,?_⟩
    refine zAa<|yBn [] [34] rfl ?_;intro n10 hn10;obtain rfl:=rlE Nd.encs_eq items3 hn10;show Tri ..;obtain⟨l11,hj,h⟩:=zAc h;refine zAm ⟨ofL [(2,.s (.sl 4 (Nd.encs items3))),(3,pN n1A n1C n1D n1B),(4,.s (.pt [.sl 1 (iL c2I),.sl 1 (iL c2M)])),(6,.op 0 0),(8,.s (.pt [.sl 1 (iL y7E),.int .i64 y7O,.int .i64 y7Ai])),(10,.orow 1)],ofH [(0,.box 40 [.nl 8,.nl 1,.nl 1,.nl 1,.nl 1]),(1,.row 76 8 ((List.map zAl) l11))],2⟩ ?_ (fun σ' hle=>?_)
    ·replace h:=hj;refine zAf rfl h (fun hb h=>?_) (fun hb h=>?_)
     ·refine zAb [44] [43] rfl ?_;intro r12 hr12;obtain rfl:(List.map zAl) [(1,y7E,y7O,0,items3,0,[],[])]=r12:=(hr12.trans zH8).symm;obtain⟨hq,h⟩:=zAx h
      refine And.intro (show(((List.map zAl) y9).length+((List.map zAl) [(1,y7E,y7O,0,items3,0,[],[])]).length) * 112<=140737488355328/\((List.map zAl) y9).length+((List.map zAl) [(1,y7E,y7O,0,items3,0,[],[])]).length<=9223372036854775807 from by simp only[length_append,length_cons,length_nil,length_map,rlen (fun _=>rfl)]at hq ⊢; omega) ?_;cases h
      exact(Le.trans (Le.rnq [(0,0),(3,1)] [(2,.s (.sl 4 (Nd.encs items3))),(3,pN n1A n1C n1D n1B),(4,.s (.pt [.sl 1 (iL c2I),.sl 1 (iL c2M)])),(6,.op 0 0),(8,.s (.pt [.sl 1 (iL y7E),.int .i64 y7O,.int .i64 y7Ai])),(10,.orow 1)] [(0,.box 40 [.nl 8,.nl 1,.nl 1,.nl 1,.nl 1]),(1,.row 76 8 ((List.map zAl) (y9++[(1,y7E,y7O,0,items3,0,[],[])])))] 2 (h2:=⟨rfl,⟨_,rfl,rfl⟩,rfl,⟨_,rfl,congrArg (Ob.row 76 8) zH8⟩,trivial⟩)) (Le.rnq [(0,0),(1,1)] _ _ _))
     ·refine zAe ?_;exact kQ
    ·refine zAh hle<|zAa<|zAC [] [53,55] [12,15] rfl (by decide +kernel) ?_;intro n13 hn13;obtain rfl:=rlE Nd.encs_eq items3 hn13;intro r14 hr14;obtain rfl:iL [i64.wrap (y7O+(items3.length:Int))]=r14:=(hr14.trans zH8).symm
     obtain⟨y15,hy15,h⟩:=zAc h;refine⟨_,⟨_,_,_,hy15,rfl,rfl⟩,?_⟩
     obtain⟨⟨⟨y16N,⟨y16P,y16Q⟩,⟨y16R,y16S⟩⟩,y17⟩,hy16,h⟩:=zAc h;refine⟨_,⟨_,_,_,_,_,_,_,hy16,rfl,rfl⟩,?_⟩
     exact jA
def zT4 (xs:List AV) (r:Ret):Prop:=∃ a0 y0,zGz a0=some y0/\xs=[.agg ((zCb a0).map .s)]/\r = .row 3 1 (iL y0)
def zNj:zAr:=zAu fun xs r=>zT4 xs r
theorem zTl:PSound prog 91 zNj:=by
 have gok:=@gok0 prog;refine psq tokW call91 func91 rfl ?_;rintro xs r w0 G0 ⟨⟨r1E,r1O,r1Ai⟩,y0,h,rfl,rfl⟩ _;rw[zGz]at h;refine yBn [2] [] rfl ?_;refine zAh (Le.rnq [] [(1,.s (.pt [.sl 1 (iL r1E),.int .i64 r1O,.int .i64 r1Ai]))] [] 0)<|zAa<|zEd [3,6,10] [9] [0,3,7] [] rfl (by decide +kernel) ?_;obtain⟨hq,h⟩:=zAx h
 refine And.intro (show(([]:List (List S)).length+(iL r1E).length) * 8<=140737488355328/\([]:List (List S)).length+(iL r1E).length<=9223372036854775807 from by simp only[length_append,length_cons,length_nil,length_map,rlen (fun _=>rfl)]at hq ⊢; omega) ?_;intro r2 hr2
 obtain rfl:iL [r1O]=r2:=(hr2.trans zH8).symm;obtain⟨hq,h⟩:=zAx h
 refine And.intro (show((([]:List (List S))++(iL r1E)).length+(iL [r1O]).length) * 8<=140737488355328/\(([]:List (List S))++(iL r1E)).length+(iL [r1O]).length<=9223372036854775807 from by simp only[length_append,length_cons,length_nil,length_map,rlen (fun _=>rfl)]at hq ⊢; omega) ?_;show Tri ..
 refine zAh (Le.rnq [(2,0)] [(2,.orow 0)] [(0,.row 3 1 (iL (r1E++[r1O])))] 1 (h2:=⟨rfl,⟨_,rfl,congrArg (Ob.row 3 1) zH8⟩,trivial⟩))<|zAd ?_;exact jH
def zQo:Prop:=∃ a0 a1 y0,zD6 n a0 a1=some y0/\xs=[.agg ((Nd.enc a0).map .s),nI a1]/\r = .val (nB y0)
def zKC:zAr:=pG zQo
theorem zO4:PSound prog 93 zKC:=by
 have gok:=@gok0 prog;refine psq tokW call93 func93 rfl ?_;rintro xs r w0 G0 ⟨n,⟨n1A,n1C,n1D,n1B⟩,but2,y0,h,rfl,rfl⟩ _;rw[zD6]at h;refine yCp ?_;refine zAa<|yCp ?_;show Tri ..;obtain⟨fl,hl,ho1⟩:=zAc h;refine zB3 (fl:=fl) (fun z=>match z with | _=>⟨ofL [],fun _=>none,0⟩) ?_ (fun z σ' hz hle=>?_)
 ·refine zAk (zAA (X:=Nat×Int) (fun y=>match y with | (k,i3)=>⟨ofL [(1,nI but2),(2,pN n1A n1C n1D n1B),(5,nI i3)],fun _=>none,0⟩) (fun y=>zB7 n1B but2 y.1 y.2=some fl) (fun y=>y.1) (n,0) hl ?_ ?_)
  ·exact Le.fgt
  ·rintro⟨k,i3⟩ h;cases k with
   | zero=>cases h
   | succ k =>
    replace h:zB7 n1B but2 (k+1) i3=some fl:=h;rw[zB7]at h;refine zAa<|yBn [] [9] rfl ?_;intro n4 hn4;obtain rfl:=rlE Nd.encs_eq n1B hn4;refine zAf rfl h (fun hb h=>?_) (fun hb h=>?_)
    ·refine zAe<|zAa<|zAk<|zAa ?_;obtain⟨x5,hj,h⟩:=zAc h;refine pL [(1,nI but2),(2,pN n1A n1C n1D n1B),(5,nI i3),(25,nB x5)] ?_ (fun σ' hle=>?_)
     ·replace h:=hj;refine zAb [] [16,20,23] rfl ?_;intro b hb;cases b with
      | true =>
       replace h:=zAw hb.symm h;obtain⟨⟨e6A,e6C,e6D,e6B⟩,he6,h⟩:=zAc h;refine And.intro (zAq Nd.encs_eq he6).1 ?_;intro r7 hr7;obtain rfl:(nN e6A e6C e6D e6B)=r7:=(hr7.trans (zAq Nd.encs_eq he6).2.1).symm;intro n8 hn8;obtain rfl:=rlE Nd.encs_eq e6B hn8;exact jD
      | false =>
       exact jI
     ·refine zAh hle<|zAf rfl h (fun hb h=>?_) (fun hb h=>?_)
      ·exact jE
      ·exact gQ
    ·exact gV
 ·exact jF
def zV2:Prop:=∃ a0 a1 a2 y0 y1,zGb n a0 a1 a2=some (y0,y1)/\xs=[.agg ((Nd.enc a0).map .s),.s (.sl 1 (iL a1)),nI a2]/\r = .val (.tup [.agg ((Nd.enc y0).map .s),nI y1])
def zLq:zAr:=pG zV2
theorem zN4:PSound prog 101 zLq:=by
 have gok:=gk1 zJb<|gk0
 refine psq tokW call101 func101 rfl ?_;rintro xs r w0 G0 ⟨n,⟨n1A,n1C,n1D,n1B⟩,path2,i3,y0,y1,h,rfl,rfl⟩ _;rw[zGb]at h;refine yBn [6] [] rfl ?_;refine yBn [8] [] rfl ?_;obtain⟨⟨⟨y4A,y4C,y4D,y4B⟩,y5⟩,hy4,h⟩:=zAc h;refine⟨_,⟨_,_,_,_,_,hy4,rfl,rfl⟩,?_⟩
 refine zAh (Le.giveBox 1 (nN y4A y4C y4D y4B) rfl rfl)<|zAa<|yCp ?_;refine zAf rfl h (fun hb h=>?_) (fun hb h=>?_)
 ·exact jP
 ·refine zAe<|zAa<|zAa ?_;obtain⟨x6,hj,h⟩:=zAc h;refine zAm ⟨ofL [(2,nI i3),(6,.op 0 0),(8,pN y4A y4C y4D y4B),(28,nB x6)],ofH [(0,.box 24 [nI 0,.s (.str []),nI 0,.nl 4])],1⟩ ?_ (fun σ' hle=>?_)
  ·replace h:=hj;refine zAb [] [22,26] rfl ?_;intro b hb;cases b with
   | true =>
    exact jT
   | false =>
    replace h:=zAv hb.symm h;intro n7 hn7;obtain rfl:=rlE Nd.encs_eq y4B hn7;exact jC
  ·refine zAh hle<|zAf rfl h (fun hb h=>?_) (fun hb h=>?_)
   ·exact jP
   ·refine zAe<|yBn [] [33] rfl ?_;obtain⟨⟨e8A,e8C,e8D,e8B⟩,he8,h⟩:=zAc h;refine And.intro (zAq Nd.encs_eq he8).1 ?_;intro r9 hr9;obtain rfl:(nN e8A e8C e8D e8B)=r9:=(hr9.trans (zAq Nd.encs_eq he8).2.1).symm;exact jA
def zBZ:(List Int×Int×Int×Nd)->List S
| ⟨p_row,p_at,p_own,⟨p_item_kind,p_item_text,p_item_cols,p_item_kids⟩⟩=>[.sl 1 (iL p_row),.int .i64 p_at,.int .i64 p_own,.int .i64 p_item_kind,.str p_item_text,.int .i64 p_item_cols,.sl 4 (Nd.encs p_item_kids)]
def zSc:Prop:=∃ a0 a1 y0 y1,zCk n a0 a1=some (y0,y1)/\xs=[.agg ((Nd.enc a0).map .s),.s (.sl 1 (iL a1))]/\r = .val (.tup [.agg ((zBZ y0).map .s),nB y1])
def zFv:zAr:=pG zSc
theorem zF4:PSound prog 94 zFv:=by
 have gok:=gk1 zN4<|gk0
 refine psq tokW call94 func94 rfl ?_;rintro xs r w0 G0 ⟨n,⟨n1A,n1C,n1D,n1B⟩,pos2,y0,y1,h,rfl,rfl⟩ _;rw[zCk]at h;refine yBn [4] [] rfl ?_;refine yBn [] [10] rfl ?_;intro n3 hn3;obtain rfl:=rlE (fun _=>rfl) pos2 hn3;refine zAa<|yCp ?_;refine zAf rfl h (fun hb h=>?_) (fun hb h=>?_)
 ·exact jP
 ·refine zAe<|zAa<|zEd [7] [19,23] [14,15] [] rfl (by decide +kernel) ?_;obtain⟨hq,h⟩:=zAx h;refine And.intro ⟨hq.1,hq.2.1,Int.le_trans hq.2.2 (Int.ofNat_le.2 (Nat.le_of_eq (rlen (fun _=>rfl) _).symm))⟩ ?_;intro r4 hr4;obtain rfl:iL ((pos2.take (i64.wrap ((pos2.length:Int) - 3)).toNat).drop (0:Int).toNat)=r4:=(hr4.trans (rcut (fun _=>rfl) _ _ _)).symm;obtain⟨e5,he5,h⟩:=zAc h;refine And.intro (zAq (fun _=>rfl) he5).1 ?_;intro r6 hr6;obtain rfl:[.int .i64 e5]=r6:=(hr6.trans (zAq (fun _=>rfl) he5).2.1).symm
  obtain⟨⟨⟨y7A,y7C,y7D,y7B⟩,y8⟩,hy7,h⟩:=zAc h;refine⟨_,⟨_,_,_,_,_,_,hy7,rfl,rfl⟩,?_⟩
  refine zAh (Le.giveBox 1 (nN y7A y7C y7D y7B) rfl rfl)<|zAa<|zAC [] [31,35,40] [16] rfl (by decide +kernel) ?_;obtain⟨hq,h⟩:=zAx h;refine And.intro ⟨hq.1,hq.2.1,Int.le_trans hq.2.2 (Int.ofNat_le.2 (Nat.le_of_eq (rlen (fun _=>rfl) _).symm))⟩ ?_;intro r9 hr9;obtain rfl:iL ((pos2.take (i64.wrap ((pos2.length:Int) - 3)).toNat).drop (0:Int).toNat)=r9:=(hr9.trans (rcut (fun _=>rfl) _ _ _)).symm;obtain⟨e10,he10,h⟩:=zAc h;refine And.intro (zAq (fun _=>rfl) he10).1 ?_;intro r11 hr11
  obtain rfl:[.int .i64 e10]=r11:=(hr11.trans (zAq (fun _=>rfl) he10).2.1).symm;obtain⟨e12,he12,h⟩:=zAc h;refine And.intro (zAq (fun _=>rfl) he12).1 ?_;intro r13 hr13;obtain rfl:[.int .i64 e12]=r13:=(hr13.trans (zAq (fun _=>rfl) he12).2.1).symm;exact jA
def zSd (xs:List AV) (r:Ret):Prop:=∃ a0 y0,zEO a0=some y0/\xs=[.agg ((zBZ a0).map .s)]/\r = .val (.agg ((zAl y0).map .s))
def zIr:zAr:=zAu fun xs r=>zSd xs r
theorem zBD {α:Type}{a b:α} (h:a=b:=by simp[map_append,map_take,map_drop,irow,brow,zF1,map_cons,map_nil,zFx,Nd.encs_eq,Nd.enc,zBu,zAS,zBY,zAO,zAJ,zAl,zA6,zAo,zAi,zC8,zAF,zCb,zAN,zBZ]):a=b :=
 h
theorem zK5:PSound prog 95 zIr:=by
 have gok:=gk1 zC2<|gk1 zE4<|gk0
 refine psq tokW call95 func95 rfl ?_;rintro xs r w0 G0 ⟨⟨x1E,x1F,x1Aq,⟨x1Av,x1Aw,x1Ah,x1Ar⟩⟩,y0,h,rfl,rfl⟩ _;rw[zEO]at h;refine yBn [2] [] rfl ?_;refine zAa<|zAC [] [12,15,24] [23] rfl (by decide +kernel) ?_;obtain⟨⟨e2A,e2C,e2D,e2B⟩,he2,h⟩:=zAc h;refine And.intro (zAq Nd.encs_eq he2).1 ?_;intro r3 hr3;obtain rfl:(nN e2A e2C e2D e2B)=r3:=(hr3.trans (zAq Nd.encs_eq he2).2.1).symm;intro n4 hn4;obtain rfl:=rlE Nd.encs_eq e2B hn4
 obtain⟨⟨y5A,y5C,y5D,y5B⟩,hy5,h⟩:=zAc h;refine⟨_,⟨_,_,hy5,rfl,rfl⟩,?_⟩
 obtain⟨⟨y6A,y6C,y6D,y6B⟩,hy6,h⟩:=zAc h;refine⟨_,⟨_,_,_,_,hy6,rfl,rfl⟩,?_⟩
 intro r7 hr7;obtain rfl:Nd.encs [Nd.mk y6A y6C y6D y6B]=r7:=(hr7.trans zBD).symm;exact jM
def zY6:Prop:=∃ a0 a1 y0 y1,zKW n a0 a1=some (y0,y1)/\xs=[.agg ((Nd.enc a0).map .s),nI a1]/\r = .val (.tup [.s (.sl 1 (iL y0)),nI y1])
def zU7:zAr:=pG zY6
theorem zX5:PSound prog 150 zU7:=by
 have gok:=gk1 zJc<|gk0
 refine psq tokW call150 func150 rfl ?_;rintro xs r w0 G0 ⟨n,⟨n1A,n1C,n1D,n1B⟩,i2,y0,y1,h,rfl,rfl⟩ _;rw[zKW]at h;refine yCp ?_;refine yCp ?_;obtain⟨⟨y3,y4⟩,hy3,h⟩:=zAc h;refine⟨_,⟨_,_,_,_,hy3,rfl,rfl⟩,?_⟩
 refine zAa<|yCp ?_;refine zAf rfl h (fun hb h=>?_) (fun hb h=>?_)
 ·exact jP
 ·refine zAe<|zAa<|zAa ?_;obtain⟨x5,hj,h⟩:=zAc h;refine pL [(1,nI i2),(6,.s (.sl 1 ((List.map zAF) y3))),(23,nB x5)] ?_ (fun σ' hle=>?_)
  ·replace h:=hj;refine zAb [] [18,21] rfl ?_;intro b hb;cases b with
   | true =>
    exact jG
   | false =>
    replace h:=zAv hb.symm h;intro n6 hn6;obtain rfl:=rlE (fun _=>rfl) y3 hn6;exact jD
  ·refine zAh hle<|zAf rfl h (fun hb h=>?_) (fun hb h=>?_)
   ·exact jP
   ·refine zAe<|yBn [] [26] rfl ?_;obtain⟨e7,he7,h⟩:=zAc h;refine And.intro (zAq (fun _=>rfl) he7).1 ?_;intro r8 hr8;obtain rfl:[.sl 1 (iL e7)]=r8:=(hr8.trans (zAq (fun _=>rfl) he7).2.1).symm;exact jA
def zV6:Prop:=∃ a0 a1 a2 y0 y1,zFg n a0 a1 a2=some (y0,y1)/\xs=[.agg ((Nd.enc a0).map .s),.s (.sl 1 (iL a1)),nI a2]/\r = .val (.tup [.s (.sl 1 (iL y0)),nI y1])
def zPo:zAr:=pG zV6
theorem zUI:PSound prog 96 zPo:=by
 have gok:=gk1 zMr<|gk1 zX5<|gk0
 refine psq tokW call96 func96 rfl ?_;rintro xs r w0 G0 ⟨n,⟨n1A,n1C,n1D,n1B⟩,pos2,by3,y0,y1,h,rfl,rfl⟩ _;rw[zFg]at h;refine yCp ?_;refine yCp ?_;obtain⟨⟨y4,y5⟩,hy4,h⟩:=zAc h;refine⟨_,⟨_,_,_,_,_,hy4,rfl,rfl⟩,?_⟩
 refine zAa<|yCp ?_;refine zAf rfl h (fun hb h=>?_) (fun hb h=>?_)
 ·exact jP
 ·refine zAe<|yCp ?_;obtain⟨⟨y6,y7⟩,hy6,h⟩:=zAc h;refine⟨_,⟨_,_,_,_,_,hy6,rfl,rfl⟩,?_⟩
  refine zAa<|yCp ?_;refine zAf rfl h (fun hb h=>?_) (fun hb h=>?_)
  ·exact jP
  ·refine zAe<|yCp ?_;exact jA
def zT6:Prop:=∃ a0 a1 a2 y0 y1,zFi n a0 a1 a2=some (y0,y1)/\xs=[.agg ((Nd.enc a0).map .s),.agg ((zAN a1).map .s),nB a2]/\r = .val (.tup [.agg ((zAi y0).map .s),nI y1])
def zNk:zAr:=pG zT6
theorem zTm:PSound prog 52 zNk:=by
 have gok:=gk1 zDT<|gk1 zLB<|gk1 zTl<|gk1 zEz<|gk1 zJb<|gk1 zO4<|gk1 zIS<|gk1 zF4<|gk1 zK5<|gk1 zUI<|gk0
 refine psq tokW call52 func52 rfl ?_;rintro xs r w0 G0 ⟨n,⟨a1A,a1C,a1D,a1B⟩,⟨a2I,a2M⟩,a3,y0,y1,h,rfl,rfl⟩ _;rw[zFi]at h;refine yBn [6] [] rfl ?_;refine yBn [8] [] rfl ?_;obtain⟨⟨⟨y4E,y4O,y4Ai⟩,y5⟩,hy4,h⟩:=zAc h;refine⟨_,⟨_,_,_,_,_,hy4,rfl,rfl⟩,?_⟩
 refine zAh (Le.giveBox 1 [.sl 1 (iL y4E),.int .i64 y4O,.int .i64 y4Ai] rfl rfl)<|zAa<|yCp ?_;refine zAf rfl h (fun hb h=>?_) (fun hb h=>?_)
 ·exact jP
 ·refine zAe<|zAa<|yCp ?_;refine zAf rfl h (fun hb h=>?_) (fun hb h=>?_)
  ·refine zAa<|zAC [] [] [10] rfl (by decide +kernel) ?_;obtain⟨y6,hy6,h⟩:=zAc h;refine⟨_,⟨_,_,_,_,hy6,rfl,rfl⟩,?_⟩
   obtain⟨y7,hy7,h⟩:=zAc h;refine⟨_,⟨_,_,hy7,rfl,rfl⟩,?_⟩
   obtain⟨⟨⟨y8N,⟨y8P,y8Q⟩,⟨y8R,y8S⟩⟩,y9⟩,hy8,h⟩:=zAc h;refine⟨_,⟨_,_,_,_,_,_,_,hy8,rfl,rfl⟩,?_⟩
   exact jA
  ·refine zAe<|zAa<|zAC [] [49,51,56,58] [] rfl (by decide +kernel) ?_;intro n10 hn10;obtain rfl:=rlE (fun _=>rfl) a2I hn10;obtain⟨hq,h⟩:=zAx h;refine And.intro ⟨hq.1,hq.2.1,Int.le_trans hq.2.2 (Int.ofNat_le.2 (Nat.le_of_eq (rlen (fun _=>rfl) _).symm))⟩ ?_;intro r11 hr11;obtain rfl:iL ((a2I.take (i64.wrap ((a2I.length:Int) - 1)).toNat).drop (0:Int).toNat)=r11:=(hr11.trans (rcut (fun _=>rfl) _ _ _)).symm;intro n12 hn12;obtain rfl:=rlE (fun _=>rfl) a2I hn12;obtain⟨e13,he13,h⟩:=zAc h;refine And.intro (zAq (fun _=>rfl) he13).1 ?_;intro r14 hr14
   obtain rfl:[.int .i64 e13]=r14:=(hr14.trans (zAq (fun _=>rfl) he13).2.1).symm;refine yBn [12] [] rfl ?_;obtain⟨⟨⟨y15A,y15C,y15D,y15B⟩,y16⟩,hy15,h⟩:=zAc h;refine⟨_,⟨_,_,_,_,_,hy15,rfl,rfl⟩,?_⟩
   refine zAh (Le.giveBox 2 (nN y15A y15C y15D y15B) rfl rfl)<|yCp ?_;refine zAa<|yCp ?_;show Tri ..;obtain⟨⟨x17,x18⟩,hj,h⟩:=zAc h
   refine zAm ⟨ofL [(2,nB a3),(3,pN a1A a1C a1D a1B),(4,.s (.pt [.sl 1 (iL a2I),.sl 1 (iL a2M)])),(6,.op 0 0),(10,.s (.sl 1 (iL ((a2I.take (i64.wrap ((a2I.length:Int) - 1)).toNat).drop (0:Int).toNat)))),(12,pN y15A y15C y15D y15B),(14,nI x17),(15,nI x18)],ofH [(0,.box 40 [.nl 8,.nl 1,.nl 1,.nl 1,.nl 1])],1⟩ ?_ (fun σ' hle=>?_)
   ·replace h:=hj;refine zAf rfl h (fun hb h=>?_) (fun hb h=>?_)
    ·refine yCo ?_;exact jC
    ·exact qF
   ·refine zAh hle<|zAa<|zAa ?_;obtain⟨x19,hj,h⟩:=zAc h
    refine zAm ⟨ofL [(2,nB a3),(3,pN a1A a1C a1D a1B),(4,.s (.pt [.sl 1 (iL a2I),.sl 1 (iL a2M)])),(6,.op 0 0),(10,.s (.sl 1 (iL ((a2I.take (i64.wrap ((a2I.length:Int) - 1)).toNat).drop (0:Int).toNat)))),(12,pN y15A y15C y15D y15B),(14,nI x17),(15,nI x18),(78,nB x19)],ofH [(0,.box 40 [.nl 8,.nl 1,.nl 1,.nl 1,.nl 1])],1⟩ ?_ (fun σ' hle=>?_)
    ·replace h:=hj;refine zAb [] [72,76] rfl ?_;intro b hb;cases b with
     | true =>
      replace h:=zAw hb.symm h;intro n20 hn20;obtain rfl:=rlE Nd.encs_eq y15B hn20;exact jC
     | false =>
      exact gB
    ·refine zAh hle ?_;obtain⟨fl,hj,ho1⟩:=zAc h;refine zB3 (fl:=fl) (fun z=>match z with | _=>⟨ofL [(3,pN a1A a1C a1D a1B),(4,.s (.pt [.sl 1 (iL a2I),.sl 1 (iL a2M)])),(6,.op 0 0),(15,nI x18)],ofH [(0,.box 40 [.nl 8,.nl 1,.nl 1,.nl 1,.nl 1])],1⟩) ?_ (fun z σ' hz hle=>?_)
     ·replace h:=hj;refine zAf rfl h (fun hb h=>?_) (fun hb h=>?_)
      ·refine yBn [] [82] rfl ?_;obtain⟨⟨e21A,e21C,e21D,e21B⟩,he21,h⟩:=zAc h;refine And.intro (zAq Nd.encs_eq he21).1 ?_;intro r22 hr22;obtain rfl:(nN e21A e21C e21D e21B)=r22:=(hr22.trans (zAq Nd.encs_eq he21).2.1).symm;obtain⟨y23,hy23,h⟩:=zAc h;refine⟨_,⟨_,_,_,_,hy23,rfl,rfl⟩,?_⟩
       refine zAf rfl h (fun hb h=>?_) (fun hb h=>?_)
       ·refine zAa<|zAC [] [93,95,97,100] [19] rfl (by decide +kernel) ?_;obtain⟨⟨e24A,e24C,e24D,e24B⟩,he24,h⟩:=zAc h;refine And.intro (zAq Nd.encs_eq he24).1 ?_;intro r25 hr25;obtain rfl:(nN e24A e24C e24D e24B)=r25:=(hr25.trans (zAq Nd.encs_eq he24).2.1).symm;intro r26 hr26
        obtain rfl:Nd.encs [Nd.mk e24A e24C e24D e24B]=r26:=(hr26.trans zBD).symm;intro r27 hr27
        obtain rfl:(List.map zAl) [(2,(a2I.take (i64.wrap ((a2I.length:Int) - 1)).toNat).drop (0:Int).toNat,x17,0,[Nd.mk e24A e24C e24D e24B],0,[],[])]=r27:=(hr27.trans zBD).symm;intro r28 hr28
        obtain rfl:iL [x17]=r28:=(hr28.trans zBD).symm;obtain⟨y29,hy29,h⟩:=zAc h;refine⟨_,⟨_,_,_,hy29,rfl,rfl⟩,?_⟩
        obtain⟨⟨⟨y30N,⟨y30P,y30Q⟩,⟨y30R,y30S⟩⟩,y31⟩,hy30,h⟩:=zAc h;refine⟨_,⟨_,_,_,_,_,_,_,hy30,rfl,rfl⟩,?_⟩
        exact jN
       ·exact gW
      ·refine yBn [16] [] rfl ?_;obtain⟨⟨⟨y32E,y32F,y32Aq,⟨y32Av,y32Aw,y32Ah,y32Ar⟩⟩,y33⟩,hy32,h⟩:=zAc h;refine⟨_,⟨_,_,_,_,_,hy32,rfl,rfl⟩,?_⟩
       refine zAh (Le.giveBox 1 [.sl 1 (iL y32E),.int .i64 y32F,.int .i64 y32Aq,.int .i64 y32Av,.str y32Aw,.int .i64 y32Ah,.sl 4 (Nd.encs y32Ar)] rfl rfl)<|zAa ?_;obtain⟨x34,hj,h⟩:=zAc h
       refine zAm ⟨ofL [(2,nB a3),(3,pN a1A a1C a1D a1B),(4,.s (.pt [.sl 1 (iL a2I),.sl 1 (iL a2M)])),(6,.op 0 0),(15,nI x18),(16,.s (.pt [.sl 1 (iL y32E),.int .i64 y32F,.int .i64 y32Aq,.int .i64 y32Av,.str y32Aw,.int .i64 y32Ah,.sl 4 (Nd.encs y32Ar)])),(120,nB x34)],ofH [(0,.box 40 [.nl 8,.nl 1,.nl 1,.nl 1,.nl 1])],1⟩ ?_ (fun σ' hle=>?_)
       ·replace h:=hj;refine zAb [] [113] rfl ?_;intro b hb;cases b with
        | true =>
         replace h:=zAw hb.symm h;obtain⟨y35,hy35,h⟩:=zAc h;refine⟨_,⟨_,_,_,_,hy35,rfl,rfl⟩,?_⟩
         exact jC
        | false =>
         exact gB
       ·refine zAh hle<|zAf rfl h (fun hb h=>?_) (fun hb h=>?_)
        ·refine yBn [18] [] rfl ?_;obtain⟨⟨y36A,y36E,y36F,y36K,y36G,y36H,y36L,y36C⟩,hy36,h⟩:=zAc h;refine⟨_,⟨_,_,hy36,rfl,rfl⟩,?_⟩
         refine zAh (Le.giveBox 1 [.int .i64 y36A,.sl 1 (iL y36E),.int .i64 y36F,.int .i64 y36K,.sl 4 (Nd.encs y36G),.int .i64 y36H,.str y36L,.str y36C] rfl rfl)<|zAa<|yCp ?_;refine zAf rfl h (fun hb h=>?_) (fun hb h=>?_)
         ·refine zAa<|zAC [] [127,132] [13] rfl (by decide +kernel) ?_;intro r37 hr37;obtain rfl:(List.map zAl) [(y36A,y36E,y36F,y36K,y36G,y36H,y36L,y36C)]=r37:=(hr37.trans zBD).symm;intro r38 hr38
          obtain rfl:iL [y32F]=r38:=(hr38.trans zBD).symm;obtain⟨y39,hy39,h⟩:=zAc h;refine⟨_,⟨_,_,_,hy39,rfl,rfl⟩,?_⟩
          obtain⟨⟨⟨y40N,⟨y40P,y40Q⟩,⟨y40R,y40S⟩⟩,y41⟩,hy40,h⟩:=zAc h;refine⟨_,⟨_,_,_,_,_,_,_,hy40,rfl,rfl⟩,?_⟩
          exact jN
         ·refine zAe<|zAa<|zAC [] [140,148] [16] rfl (by decide +kernel) ?_;intro r42 hr42;obtain rfl:(List.map zAl) [(y36A,y36E,y36F,y36K,y36G,y36H,y36L,y36C)]=r42:=(hr42.trans zBD).symm;intro r43 hr43
          obtain rfl:iL [i64.wrap (y32F+y36K)]=r43:=(hr43.trans zBD).symm;obtain⟨y44,hy44,h⟩:=zAc h;refine⟨_,⟨_,_,_,hy44,rfl,rfl⟩,?_⟩
          obtain⟨⟨⟨y45N,⟨y45P,y45Q⟩,⟨y45R,y45S⟩⟩,y46⟩,hy45,h⟩:=zAc h;refine⟨_,⟨_,_,_,_,_,_,_,hy45,rfl,rfl⟩,?_⟩
          exact jN
        ·exact gW
     ·subst hz;obtain _:=z;replace h:=ho1;refine zAh hle<|yCp ?_;obtain⟨⟨y47,y48⟩,hy47,h⟩:=zAc h;refine⟨_,⟨_,_,_,_,_,_,hy47,rfl,rfl⟩,?_⟩
      refine zAa<|yCp ?_;refine zAf rfl h (fun hb h=>?_) (fun hb h=>?_)
      ·exact jP
      ·refine zAe<|yCp ?_;obtain⟨⟨⟨y49N,⟨y49P,y49Q⟩,⟨y49R,y49S⟩⟩,y50⟩,hy49,h⟩:=zAc h;refine⟨_,⟨_,_,_,_,_,_,_,hy49,rfl,rfl⟩,?_⟩
       exact jA
def zT9 (xs:List AV) (r:Ret):Prop:=∃ a0 y0,zGB a0=some y0/\xs=[.s (.sl 4 (Nd.encs a0))]/\r = .val (.agg ((Nd.enc y0).map .s))
def zNm:zAr:=zAu fun xs r=>zT9 xs r
theorem zTo:PSound prog 54 zNm:=by
 have gok:=@gok0 prog;refine psq tokW call54 func54 rfl ?_;rintro xs r w0 G0 ⟨l1,y0,h,rfl,rfl⟩ _;rw[zGB]at h;refine yBn [2] [] rfl ?_;refine zAa<|yBn [] [4] rfl ?_;intro n2 hn2;obtain rfl:=rlE Nd.encs_eq l1 hn2;refine zAf rfl h (fun hb h=>?_) (fun hb h=>?_)
 ·exact gG
 ·refine zAe<|yBn [] [8] rfl ?_;obtain⟨⟨e3A,e3C,e3D,e3B⟩,he3,h⟩:=zAc h;refine And.intro (zAq Nd.encs_eq he3).1 ?_;intro r4 hr4;obtain rfl:(nN e3A e3C e3D e3B)=r4:=(hr4.trans (zAq Nd.encs_eq he3).2.1).symm;exact jM
def zV9:Prop:=∃ a0 a1 a2 a3 y0 y1,zEN n a0 a1 a2 a3=some (y0,y1)/\xs=[.agg ((Nd.enc a0).map .s),.agg ((zAN a1).map .s),.agg ((Nd.enc a2).map .s),nI a3]/\r = .val (.tup [.agg ((zAi y0).map .s),nI y1])
def zPr:zAr:=pG zV9
theorem zUL:PSound prog 53 zPr:=by
 have gok:=gk1 zC3<|gk1 zK4<|gk1 zDT<|gk1 zIS<|gk1 zEz<|gk0
 refine psq tokW call53 func53 rfl ?_;rintro xs r w0 G0 ⟨n,⟨a1A,a1C,a1D,a1B⟩,⟨a2I,a2M⟩,⟨a3A,a3C,a3D,a3B⟩,a4,y0,y1,h,rfl,rfl⟩ _;rw[zEN]at h;refine yBn [8] [] rfl ?_;refine yBn [10] [16] rfl ?_;intro r5 hr5
 obtain rfl:Nd.encs [Nd.mk a3A a3C a3D a3B]=r5:=(hr5.trans zBD).symm;refine zAa<|zAa ?_;obtain⟨x6,hj,h⟩:=zAc h
 refine zAm ⟨ofL [(3,nI a4),(4,pN a1A a1C a1D a1B),(5,.s (.pt [.sl 1 (iL a2I),.sl 1 (iL a2M)])),(6,pN a3A a3C a3D a3B),(8,.op 0 0),(10,.op 1 0),(26,nB x6)],ofH [(0,.box 40 [.nl 8,.nl 1,.nl 1,.nl 1,.nl 1]),(1,.box 76 [nI 3,.nl 1,nI 0,nI 0,.s (.sl 4 (Nd.encs [Nd.mk a3A a3C a3D a3B])),nI a4,.s (.str []),.s (.str [])])],2⟩ ?_ (fun σ' hle=>?_)
 ·replace h:=hj;refine zAb [] [22] rfl ?_;obtain⟨y7,hy7,h⟩:=zAc h;refine⟨_,⟨_,_,_,hy7,rfl,rfl⟩,?_⟩
  intro b hb;cases b with
  | true =>
   replace h:=zAw hb.symm h;exact jO
  | false =>
   replace h:=zAv hb.symm h;obtain⟨y8,hy8,h⟩:=zAc h;refine⟨_,⟨_,_,_,hy8,rfl,rfl⟩,?_⟩
   exact jO
 ·refine zAh hle<|zAf rfl h (fun hb h=>?_) (fun hb h=>?_)
  ·exact jP
  ·refine zAe<|yBn [11] [] rfl ?_;obtain⟨⟨⟨y9E,y9O,y9Ai⟩,y10⟩,hy9,h⟩:=zAc h;refine⟨_,⟨_,_,_,_,_,hy9,rfl,rfl⟩,?_⟩
   refine zAh (Le.giveBox 2 [.sl 1 (iL y9E),.int .i64 y9O,.int .i64 y9Ai] rfl rfl)<|zAa<|yCp ?_;refine zAf rfl h (fun hb h=>?_) (fun hb h=>?_)
   ·exact jP
   ·refine zAe<|zAa<|zAC [] [] [10,12,14] rfl (by decide +kernel) ?_;refine yBn [] [55] rfl ?_;intro r11 hr11;obtain rfl:iL [i64.wrap (y9O+1)]=r11:=(hr11.trans zBD).symm
    obtain⟨y12,hy12,h⟩:=zAc h;refine⟨_,⟨_,_,_,hy12,rfl,rfl⟩,?_⟩
    refine zAa<|yBn [] [59] rfl ?_;intro n13 hn13;obtain rfl:=rlE Nd.encs_eq a3B hn13;show Tri ..;obtain⟨x21,hl,h⟩:=zAc h
    refine zAm ⟨ofL [(4,pN a1A a1C a1D a1B),(5,.s (.pt [.sl 1 (iL a2I),.sl 1 (iL a2M)])),(8,.op 0 0),(10,.op 1 0),(13,.s (.sl 1 (iL x21)))],ofH [(0,.box 40 [.nl 8,.nl 1,.nl 1,.nl 1,.nl 1]),(1,.box 76 [nI 3,.s (.sl 1 (iL y9E)),nI y9O,.s (.int .i64 (i64.wrap (y9Ai - y9O))),.s (.sl 4 (Nd.encs [Nd.mk a3A a3C a3D a3B])),nI a4,.s (.str []),.s (.str [])])],2⟩ ?_ (fun σ' hle=>?_)
    ·refine zAk (zAA (X:=Nat×(List Int)×Int) (fun y=>match y with | (k,x19,x20)=>⟨ofL [(3,nI a4),(4,pN a1A a1C a1D a1B),(5,.s (.pt [.sl 1 (iL a2I),.sl 1 (iL a2M)])),(6,pN a3A a3C a3D a3B),(8,.op 0 0),(10,.op 1 0),(11,.s (.pt [.sl 1 (iL y9E),.int .i64 y9O,.int .i64 y9Ai])),(13,.s (.sl 1 (iL x19))),(14,nI x20)],ofH [(0,.box 40 [.nl 8,.nl 1,.nl 1,.nl 1,.nl 1]),(1,.box 76 [nI 3,.s (.sl 1 (iL y9E)),nI y9O,.s (.int .i64 (i64.wrap (y9Ai - y9O))),.s (.sl 4 (Nd.encs [Nd.mk a3A a3C a3D a3B])),nI a4,.s (.str []),.s (.str [])])],2⟩) (fun y=>zCJ a3B a4 y9E y9O y9Ai y.1 y.2.1 y.2.2=some x21) (fun y=>y.1) (n,y12,i64.wrap ((a3B.length:Int) - 1)) hl ?_ ?_)
     ·exact kS
     ·rintro⟨k,x19,x20⟩ h;cases k with
      | zero=>cases h
      | succ k =>
       replace h:zCJ a3B a4 y9E y9O y9Ai (k+1) x19 x20=some x21:=h;rw[zCJ]at h;refine zAa<|yCp ?_;refine zAf rfl h (fun hb h=>?_) (fun hb h=>?_)
       ·refine zAe<|zAa ?_;obtain⟨x22,hj,h⟩:=zAc h
        refine zAm ⟨ofL [(3,nI a4),(4,pN a1A a1C a1D a1B),(5,.s (.pt [.sl 1 (iL a2I),.sl 1 (iL a2M)])),(6,pN a3A a3C a3D a3B),(8,.op 0 0),(10,.op 1 0),(11,.s (.pt [.sl 1 (iL y9E),.int .i64 y9O,.int .i64 y9Ai])),(13,.s (.sl 1 (iL x22))),(14,nI x20)],ofH [(0,.box 40 [.nl 8,.nl 1,.nl 1,.nl 1,.nl 1]),(1,.box 76 [nI 3,.s (.sl 1 (iL y9E)),nI y9O,.s (.int .i64 (i64.wrap (y9Ai - y9O))),.s (.sl 4 (Nd.encs [Nd.mk a3A a3C a3D a3B])),nI a4,.s (.str []),.s (.str [])])],2⟩ ?_ (fun σ' hle=>?_)
        ·replace h:=hj;refine zAk<|zAa ?_;obtain⟨x23,hj,h⟩:=zAc h
         refine zAm ⟨ofL [(3,nI a4),(4,pN a1A a1C a1D a1B),(5,.s (.pt [.sl 1 (iL a2I),.sl 1 (iL a2M)])),(6,pN a3A a3C a3D a3B),(8,.op 0 0),(10,.op 1 0),(11,.s (.pt [.sl 1 (iL y9E),.int .i64 y9O,.int .i64 y9Ai])),(13,.s (.sl 1 (iL x19))),(14,nI x20),(82,nB x23)],ofH [(0,.box 40 [.nl 8,.nl 1,.nl 1,.nl 1,.nl 1]),(1,.box 76 [nI 3,.s (.sl 1 (iL y9E)),nI y9O,.s (.int .i64 (i64.wrap (y9Ai - y9O))),.s (.sl 4 (Nd.encs [Nd.mk a3A a3C a3D a3B])),nI a4,.s (.str []),.s (.str [])])],2⟩ ?_ (fun σ' hle=>?_)
         ·replace h:=hj;refine zAb [] [68,71,73,77] rfl ?_;obtain⟨⟨e24A,e24C,e24D,e24B⟩,he24,h⟩:=zAc h;refine And.intro (zAq Nd.encs_eq he24).1 ?_;intro r25 hr25;obtain rfl:(nN e24A e24C e24D e24B)=r25:=(hr25.trans (zAq Nd.encs_eq he24).2.1).symm;intro n26 hn26;obtain rfl:=rlE Nd.encs_eq e24B hn26;intro b hb;cases b with
          | true =>
           replace h:=zAw hb.symm h;intro b hb;cases b with
           | true =>
            replace h:=zAw hb.symm h;exact jO
           | false =>
            replace h:=zAv hb.symm h;exact jO
          | false =>
           replace h:=zAv hb.symm h;exact jO
         ·refine zAh hle<|zAf rfl h (fun hb h=>?_) (fun hb h=>?_)
          ·refine zAb [] [88] rfl ?_;intro r27 hr27;obtain rfl:iL [y9O,x20,0]=r27:=(hr27.trans zBD).symm;obtain⟨y28,hy28,h⟩:=zAc h;refine⟨_,⟨_,_,_,hy28,rfl,rfl⟩,?_⟩
           exact jO
          ·refine zAe ?_;exact jO
        ·refine zAh hle<|yCo ?_;refine⟨(k,x22,i64.wrap (x20 - 1)),h,(Le.rnq [(0,0),(1,1)] _ _ _),Nat.lt_succ_self k⟩
       ·refine zAD ?_;exact jO
    ·refine zAh hle<|yBn [] [93] rfl ?_;intro r29 hr29;obtain rfl:(List.map zAl) [(3,y9E,y9O,i64.wrap (y9Ai - y9O),[Nd.mk a3A a3C a3D a3B],a4,[],[])]=r29:=(hr29.trans zBD).symm
     obtain⟨⟨⟨y30N,⟨y30P,y30Q⟩,⟨y30R,y30S⟩⟩,y31⟩,hy30,h⟩:=zAc h;refine⟨_,⟨_,_,_,_,_,_,_,hy30,rfl,rfl⟩,?_⟩
     exact jA
def zR9:Prop:=∃ a0 a1 y0,zFN n a0 a1=some y0/\xs=[.s (.sl 1 (iL a0)),.s (.sl 1 (iL a1))]/\r = .val (nB y0)
def zMb:zAr:=pG zR9
theorem zRk:PSound prog 152 zMb:=by
 have gok:=@gok0 prog;refine psq tokW call152 func152 rfl ?_;rintro xs r w0 G0 ⟨n,pos1,row2,y0,h,rfl,rfl⟩ _;rw[zFN]at h;refine yCp ?_;refine zAa<|yBn [] [7,9] rfl ?_;intro n3 hn3;obtain rfl:=rlE (fun _=>rfl) pos1 hn3;intro n4 hn4;obtain rfl:=rlE (fun _=>rfl) row2 hn4;refine zAf rfl h (fun hb h=>?_) (fun hb h=>?_)
 ·exact gG
 ·refine zAe<|zAa<|yCp ?_;show Tri ..;obtain⟨fl,hl,ho1⟩:=zAc h;refine zB3 (fl:=fl) (fun z=>match z with | _=>⟨ofL [(0,.s (.sl 1 (iL pos1))),(1,.s (.sl 1 (iL row2)))],fun _=>none,0⟩) ?_ (fun z σ' hz hle=>?_)
  ·refine zAk (zAA (X:=Nat×Int) (fun y=>match y with | (k,i5)=>⟨ofL [(0,.s (.sl 1 (iL pos1))),(1,.s (.sl 1 (iL row2))),(5,nI i5)],fun _=>none,0⟩) (fun y=>zCt pos1 row2 y.1 y.2=some fl) (fun y=>y.1) (n,0) hl ?_ ?_)
   ·exact Le.fgt
   ·rintro⟨k,i5⟩ h;cases k with
    | zero=>cases h
    | succ k =>
     replace h:zCt pos1 row2 (k+1) i5=some fl:=h;rw[zCt]at h;refine zAa<|yBn [] [13] rfl ?_;intro n6 hn6;obtain rfl:=rlE (fun _=>rfl) row2 hn6;refine zAf rfl h (fun hb h=>?_) (fun hb h=>?_)
     ·refine zAe<|zAa<|zAk<|zAa<|zAC [] [19,23] [] rfl (by decide +kernel) ?_;obtain⟨e7,he7,h⟩:=zAc h;refine And.intro (zAq (fun _=>rfl) he7).1 ?_;intro r8 hr8;obtain rfl:[.int .i64 e7]=r8:=(hr8.trans (zAq (fun _=>rfl) he7).2.1).symm;obtain⟨e9,he9,h⟩:=zAc h;refine And.intro (zAq (fun _=>rfl) he9).1 ?_;intro r10 hr10;obtain rfl:[.int .i64 e9]=r10:=(hr10.trans (zAq (fun _=>rfl) he9).2.1).symm;refine zAf rfl h (fun hb h=>?_) (fun hb h=>?_)
      ·exact jE
      ·exact jY
     ·exact gV
  ·subst hz;obtain _:=z;replace h:=ho1;refine zAh hle<|yBn [] [27,29] rfl ?_;intro n11 hn11;obtain rfl:=rlE (fun _=>rfl) pos1 hn11;intro n12 hn12;obtain rfl:=rlE (fun _=>rfl) row2 hn12;exact jM
def zR8 (xs:List AV) (r:Ret):Prop:=∃ a0 a1 a2 y0,zIH a0 a1 a2=some y0/\xs=[.agg ((zAl a0).map .s),nI a1,nB a2]/\r = .val (.s (.sl 1 (iL y0)))
def zMa:zAr:=zAu fun xs r=>zR8 xs r
theorem zRj:PSound prog 153 zMa:=by
 have gok:=@gok0 prog;refine psq tokW call153 func153 rfl ?_;rintro xs r w0 G0 ⟨⟨a1A,a1E,a1F,a1K,a1G,a1H,a1L,a1C⟩,a2,a3,y0,h,rfl,rfl⟩ _;rw[zIH]at h;refine yCp ?_;refine yBn [] [10] rfl ?_;intro n4 hn4;obtain rfl:=rlE Nd.encs_eq a1G hn4;refine zAa<|yCp ?_;show Tri ..;obtain⟨fl,hj,ho1⟩:=zAc h;refine zB3 (fl:=fl) (fun z=>match z with | _=>⟨ofL [(1,nI a2)],fun _=>none,0⟩) ?_ (fun z σ' hz hle=>?_)
 ·replace h:=hj;refine zAk<|yCp ?_;refine zAf rfl h (fun hb h=>?_) (fun hb h=>?_)
  ·refine zAa ?_;obtain⟨x5,hj,h⟩:=zAc h;refine pL [(1,nI a2),(7,nI (a1G.length:Int)),(27,nB x5)] ?_ (fun σ' hle=>?_)
   ·replace h:=hj;refine zAb [] [19,24] rfl ?_;intro b hb;cases b with
    | true =>
     exact jG
    | false =>
     replace h:=zAv hb.symm h;intro b hb;cases b with
     | true =>
      exact jG
     | false =>
      exact jI
   ·refine zAh hle<|zAf rfl h (fun hb h=>?_) (fun hb h=>?_)
    ·refine yBn [] [31] rfl ?_;intro r6 hr6;obtain rfl:iL [i64.wrap (a2+(a1G.length:Int))]=r6:=(hr6.trans zBD).symm;refine zAd ?_;cases h;replace h:some _=some _:=ho1;have hy:=osi h;subst hy;unfold zBK
     exact gR
    ·exact kP
  ·refine yCp ?_;refine zAf rfl h (fun hb h=>?_) (fun hb h=>?_)
   ·refine zAa<|zAa ?_;obtain⟨x7,hj,h⟩:=zAc h;refine pL [(1,nI a2),(3,.s (.pt [.int .i64 a1A,.sl 1 (iL a1E),.int .i64 a1F,.int .i64 a1K,.sl 4 (Nd.encs a1G),.int .i64 a1H,.str a1L,.str a1C])),(7,nI (a1G.length:Int)),(45,nB x7)] ?_ (fun σ' hle=>?_)
    ·replace h:=hj;refine zAb [] [38] rfl ?_;intro b hb;cases b with
     | true =>
      exact jG
     | false =>
      exact jI
    ·refine zAh hle<|zAf rfl h (fun hb h=>?_) (fun hb h=>?_)
     ·refine yBn [] [48] rfl ?_;intro r8 hr8;obtain rfl:iL [a1F]=r8:=(hr8.trans zBD).symm;refine zAd ?_;cases h;replace h:some _=some _:=ho1;exact jB
     ·refine zAe<|yCp ?_;refine zAf rfl h (fun hb h=>?_) (fun hb h=>?_)
      ·refine yBn [] [56] rfl ?_;intro r9 hr9;obtain rfl:iL [i64.wrap (a2 - (a1G.length:Int))]=r9:=(hr9.trans zBD).symm;refine zAd ?_;cases h;replace h:some _=some _:=ho1;have hy:=osi h;subst hy
       exact fin0 rfl rfl
      ·exact kP
   ·refine yCp ?_;refine zAf rfl h (fun hb h=>?_) (fun hb h=>?_)
    ·refine zAa<|zAa ?_;obtain⟨x10,hj,h⟩:=zAc h;refine pL [(1,nI a2),(2,nB a3),(3,.s (.pt [.int .i64 a1A,.sl 1 (iL a1E),.int .i64 a1F,.int .i64 a1K,.sl 4 (Nd.encs a1G),.int .i64 a1H,.str a1L,.str a1C])),(71,nB x10)] ?_ (fun σ' hle=>?_)
     ·replace h:=hj;refine zAb [] [63] rfl ?_;intro b hb;cases b with
      | true =>
       exact jG
      | false =>
       exact jI
     ·refine zAh hle<|zAf rfl h (fun hb h=>?_) (fun hb h=>?_)
      ·refine yBn [] [80] rfl ?_;intro r11 hr11;obtain rfl:iL [a1F,a1H,i64.wrap (a2 - a1F)]=r11:=(hr11.trans zBD).symm;refine zAd ?_;cases h;replace h:some _=some _:=ho1;have hy:=osi h;subst hy
       exact fin0 rfl rfl
      ·refine zAe<|zAa<|yCp ?_;refine zAf rfl h (fun hb h=>?_) (fun hb h=>?_)
       ·refine yBn [] [90] rfl ?_;intro r12 hr12;obtain rfl:iL [i64.wrap ((i64.wrap (a2 - a1K))+1)]=r12:=(hr12.trans zBD).symm;refine zAd ?_;cases h;replace h:some _=some _:=ho1;have hy:=osi h
        subst hy;exact fin0 rfl rfl
       ·refine zAe<|zAa ?_;obtain⟨x13,hj,h⟩:=zAc h;refine pL [(1,nI a2),(3,.s (.pt [.int .i64 a1A,.sl 1 (iL a1E),.int .i64 a1F,.int .i64 a1K,.sl 4 (Nd.encs a1G),.int .i64 a1H,.str a1L,.str a1C])),(102,nB x13)] ?_ (fun σ' hle=>?_)
        ·replace h:=hj;refine zAb [] [95,100] rfl ?_;intro b hb;cases b with
         | true =>
          replace h:=zAw hb.symm h;intro b hb;cases b with
          | true =>
           exact jG
          | false =>
           exact jI
         | false =>
          exact jJ
        ·refine zAh hle<|zAf rfl h (fun hb h=>?_) (fun hb h=>?_)
         ·refine yBn [] [106] rfl ?_;intro r14 hr14;obtain rfl:iL [i64.wrap (a1F+1)]=r14:=(hr14.trans zBD).symm;refine zAd ?_;cases h;replace h:some _=some _:=ho1;have hy:=osi h;subst hy;unfold zBK
          exact gR
         ·exact kP
    ·refine yCp ?_;refine zAf rfl h (fun hb h=>?_) (fun hb h=>?_)
     ·refine yCp ?_;refine zAf rfl h (fun hb h=>?_) (fun hb h=>?_)
      ·refine yBn [] [118] rfl ?_;intro r15 hr15;obtain rfl:iL [i64.wrap ((i64.wrap (a2 - 1))+a1K)]=r15:=(hr15.trans zBD).symm;refine zAd ?_;cases h;replace h:some _=some _:=ho1;have hy:=osi h
       subst hy;exact fin0 rfl rfl
      ·exact kP
     ·exact kP
 ·subst hz;obtain _:=z;replace h:=ho1;refine zAh hle<|yBn [] [120] rfl ?_;intro r16 hr16;obtain rfl:iL [a2]=r16:=(hr16.trans zBD).symm;refine zAd ?_;have hy:=osi h;subst hy;unfold zBK
  exact gR
def zR7 (xs:List AV) (r:Ret):Prop:=∃ a0 a1 a2 a3 y0,zFM a0 a1 a2 a3=some y0/\xs=[.agg ((zAl a0).map .s),nI a1,nI a2,.s (.sl 1 (iL a3))]/\r = .row 3 1 (iL y0)
def zL9:zAr:=zAu fun xs r=>zR7 xs r
theorem zRi:PSound prog 154 zL9:=by
 have gok:=@gok0 prog;refine psq tokW call154 func154 rfl ?_;rintro xs r w0 G0 ⟨⟨a1A,a1E,a1F,a1K,a1G,a1H,a1L,a1C⟩,a2,a3,a4,y0,h,rfl,rfl⟩ _;rw[zFM]at h;refine yBn [8] [] rfl ?_;refine zAh (Le.rnq [] [(1,nI a2),(2,nI a3),(3,.s (.sl 1 (iL a4))),(4,.s (.pt [.int .i64 a1A,.sl 1 (iL a1E),.int .i64 a1F,.int .i64 a1K,.sl 4 (Nd.encs a1G),.int .i64 a1H,.str a1L,.str a1C]))] [] 0)<|yBn [] [13] rfl ?_;intro n5 hn5;obtain rfl:=rlE Nd.encs_eq a1G hn5
 refine yBn [15] [] rfl ?_;show Tri ..
 refine zAh (Le.rnq [(0,0)] [(1,nI a2),(2,nI a3),(3,.s (.sl 1 (iL a4))),(4,.s (.pt [.int .i64 a1A,.sl 1 (iL a1E),.int .i64 a1F,.int .i64 a1K,.sl 4 (Nd.encs a1G),.int .i64 a1H,.str a1L,.str a1C])),(9,nI (a1G.length:Int)),(10,.orow 0)] [(0,.row 3 1 (iL [a2]))] 1 (h2:=⟨rfl,⟨_,rfl,congrArg (Ob.row 3 1) zBD⟩,trivial⟩)) ?_
 refine zAa ?_;obtain⟨fl,hj,ho1⟩:=zAc h;refine zB3 (fl:=fl) (fun z=>match z with | l6=>⟨ofL [(2,nI a3),(3,.s (.sl 1 (iL a4))),(10,.orow 0)],ofH [(0,.row 3 1 (iL l6))],1⟩) ?_ (fun l6 σ' hz hle=>?_)
 ·replace h:=hj;refine zAk<|yCp ?_;refine zAf rfl h (fun hb h=>?_) (fun hb h=>?_)
  ·exact gW
  ·refine yCp ?_;refine zAf rfl h (fun hb h=>?_) (fun hb h=>?_)
   ·refine zAb [28] [] rfl ?_;cases h
    exact⟨_,rfl,(Le.trans (Le.rnq [(1,0)] [(2,nI a3),(3,.s (.sl 1 (iL a4))),(10,.orow 0)] [(0,.row 3 1 (iL [i64.wrap (a2+(a1G.length:Int))]))] 1 (h2:=⟨rfl,⟨_,rfl,congrArg (Ob.row 3 1) zBD⟩,trivial⟩)) (Le.rnq [(0,0)] _ _ _))⟩
   ·refine zAa ?_;obtain⟨x7,hj,h⟩:=zAc h;refine zAm ⟨ofL [(1,nI a2),(2,nI a3),(3,.s (.sl 1 (iL a4))),(4,.s (.pt [.int .i64 a1A,.sl 1 (iL a1E),.int .i64 a1F,.int .i64 a1K,.sl 4 (Nd.encs a1G),.int .i64 a1H,.str a1L,.str a1C])),(9,nI (a1G.length:Int)),(10,.orow 0),(29,nB x7)],ofH [(0,.row 3 1 (iL [a2]))],1⟩ ?_ (fun σ' hle=>?_)
    ·replace h:=hj;refine zAb [] [33] rfl ?_;intro b hb;cases b with
     | true =>
      exact jT
     | false =>
      exact gB
    ·refine zAh hle<|zAf rfl h (fun hb h=>?_) (fun hb h=>?_)
     ·refine yBn [43] [] rfl ?_;refine zAh (Le.rnq [(1,0)] [(8,.orow 0)] [(0,.row 3 1 (iL [a1F]))] 1 (h2:=⟨rfl,⟨_,rfl,congrArg (Ob.row 3 1) zBD⟩,trivial⟩))<|zAd ?_;cases h;replace h:some _=some _:=ho1
      exact jH
     ·refine yCp ?_;refine zAf rfl h (fun hb h=>?_) (fun hb h=>?_)
      ·refine zAb [51] [] rfl ?_;cases h
       exact⟨_,rfl,(Le.trans (Le.rnq [(1,0)] [(2,nI a3),(3,.s (.sl 1 (iL a4))),(10,.orow 0)] [(0,.row 3 1 (iL [i64.wrap (a2 - (a1G.length:Int))]))] 1 (h2:=⟨rfl,⟨_,rfl,congrArg (Ob.row 3 1) zBD⟩,trivial⟩)) (Le.rnq [(0,0)] _ _ _))⟩
      ·refine zAa ?_;obtain⟨x8,hj,h⟩:=zAc h;refine zAm ⟨ofL [(1,nI a2),(2,nI a3),(3,.s (.sl 1 (iL a4))),(4,.s (.pt [.int .i64 a1A,.sl 1 (iL a1E),.int .i64 a1F,.int .i64 a1K,.sl 4 (Nd.encs a1G),.int .i64 a1H,.str a1L,.str a1C])),(10,.orow 0),(52,nB x8)],ofH [(0,.row 3 1 (iL [a2]))],1⟩ ?_ (fun σ' hle=>?_)
       ·replace h:=hj;refine zAb [] [56] rfl ?_;intro b hb;cases b with
        | true =>
         exact jT
        | false =>
         exact gB
       ·refine zAh hle<|zAf rfl h (fun hb h=>?_) (fun hb h=>?_)
        ·refine zAb [73] [] rfl ?_;cases h
         exact⟨_,rfl,(Le.trans (Le.rnq [(1,0)] [(2,nI a3),(3,.s (.sl 1 (iL a4))),(10,.orow 0)] [(0,.row 3 1 (iL [a1F,a1H,i64.wrap (a2 - a1F)]))] 1 (h2:=⟨rfl,⟨_,rfl,congrArg (Ob.row 3 1) zBD⟩,trivial⟩)) (Le.rnq [(0,0)] _ _ _))⟩
        ·refine yCp ?_;refine zAf rfl h (fun hb h=>?_) (fun hb h=>?_)
         ·refine zAb [83] [] rfl ?_;cases h
          exact⟨_,rfl,(Le.trans (Le.rnq [(1,0)] [(2,nI a3),(3,.s (.sl 1 (iL a4))),(10,.orow 0)] [(0,.row 3 1 (iL [i64.wrap ((i64.wrap (a2 - a1K))+1)]))] 1 (h2:=⟨rfl,⟨_,rfl,congrArg (Ob.row 3 1) zBD⟩,trivial⟩)) (Le.rnq [(0,0)] _ _ _))⟩
         ·refine zAa ?_;obtain⟨x9,hj,h⟩:=zAc h;refine zAm ⟨ofL [(1,nI a2),(2,nI a3),(3,.s (.sl 1 (iL a4))),(4,.s (.pt [.int .i64 a1A,.sl 1 (iL a1E),.int .i64 a1F,.int .i64 a1K,.sl 4 (Nd.encs a1G),.int .i64 a1H,.str a1L,.str a1C])),(10,.orow 0),(84,nB x9)],ofH [(0,.row 3 1 (iL [a2]))],1⟩ ?_ (fun σ' hle=>?_)
          ·replace h:=hj;refine zAb [] [88,94] rfl ?_;intro b hb;cases b with
           | true =>
            replace h:=zAw hb.symm h;intro b hb;cases b with
            | true =>
             exact jT
            | false =>
             exact gB
           | false =>
            replace h:=zAv hb.symm h;exact gY
          ·refine zAh hle<|zAf rfl h (fun hb h=>?_) (fun hb h=>?_)
           ·refine yBn [102] [] rfl ?_;refine zAh (Le.rnq [(1,0)] [(8,.orow 0)] [(0,.row 3 1 (iL [a1F]))] 1 (h2:=⟨rfl,⟨_,rfl,congrArg (Ob.row 3 1) zBD⟩,trivial⟩))<|zAd ?_;cases h;replace h:some _=some _:=ho1
            exact jH
           ·refine zAa ?_;obtain⟨x10,hj,h⟩:=zAc h;refine zAm ⟨ofL [(1,nI a2),(2,nI a3),(3,.s (.sl 1 (iL a4))),(4,.s (.pt [.int .i64 a1A,.sl 1 (iL a1E),.int .i64 a1F,.int .i64 a1K,.sl 4 (Nd.encs a1G),.int .i64 a1H,.str a1L,.str a1C])),(10,.orow 0),(103,nB x10)],ofH [(0,.row 3 1 (iL [a2]))],1⟩ ?_ (fun σ' hle=>?_)
            ·replace h:=hj;refine zAb [] [107,113] rfl ?_;intro b hb;cases b with
             | true =>
              replace h:=zAw hb.symm h;intro b hb;cases b with
              | true =>
               exact jT
              | false =>
               exact gB
             | false =>
              replace h:=zAv hb.symm h;exact gY
            ·refine zAh hle<|zAf rfl h (fun hb h=>?_) (fun hb h=>?_)
             ·refine yBn [124] [] rfl ?_;refine zAh (Le.rnq [(1,0)] [(8,.orow 0)] [(0,.row 3 1 (iL [i64.wrap (a1F+a1K)]))] 1 (h2:=⟨rfl,⟨_,rfl,congrArg (Ob.row 3 1) zBD⟩,trivial⟩))<|zAd ?_;cases h
              replace h:some _=some _:=ho1;exact jH
             ·refine zAa ?_;obtain⟨x11,hj,h⟩:=zAc h;refine zAm ⟨ofL [(1,nI a2),(2,nI a3),(3,.s (.sl 1 (iL a4))),(4,.s (.pt [.int .i64 a1A,.sl 1 (iL a1E),.int .i64 a1F,.int .i64 a1K,.sl 4 (Nd.encs a1G),.int .i64 a1H,.str a1L,.str a1C])),(10,.orow 0),(125,nB x11)],ofH [(0,.row 3 1 (iL [a2]))],1⟩ ?_ (fun σ' hle=>?_)
              ·replace h:=hj;refine zAb [] [129] rfl ?_;intro b hb;cases b with
               | true =>
                exact jT
               | false =>
                exact gB
              ·refine zAh hle<|zAf rfl h (fun hb h=>?_) (fun hb h=>?_)
               ·refine zAa<|zEd [141,144] [138,143] [6,9] [] rfl (by decide +kernel) ?_;obtain⟨e12,he12,h⟩:=zAc h;refine And.intro (zAq (fun _=>rfl) he12).1 ?_;intro r13 hr13;obtain rfl:[.int .i64 e12]=r13:=(hr13.trans (zAq (fun _=>rfl) he12).2.1).symm;obtain⟨hq,h⟩:=zAx h;refine And.intro ⟨hq.1,Int.le_trans hq.2.1 (Int.ofNat_le.2 (Nat.le_of_eq (rlen (fun _=>rfl) _).symm)),Int.le_refl _⟩ ?_;intro r14 hr14
                obtain rfl:iL ((a4.take (a4.length:Int).toNat).drop (1:Int).toNat)=r14:=(hr14.trans ((congrArg (fun m:Nat=>((iL a4).take m).drop (1:Int).toNat) (rlen (fun _=>rfl) _)).trans (rcut (fun _=>rfl) _ _ _))).symm;obtain⟨hq,h⟩:=zAx h
                refine And.intro (show([[.int .i64 (i64.wrap (a1F+e12))]].length+(iL ((a4.take (a4.length:Int).toNat).drop (1:Int).toNat)).length) * 8<=140737488355328/\[[.int .i64 (i64.wrap (a1F+e12))]].length+(iL ((a4.take (a4.length:Int).toNat).drop (1:Int).toNat)).length<=9223372036854775807 from by simp only[length_append,length_cons,length_nil,length_map,rlen (fun _=>rfl)]at hq ⊢; omega) ?_;show Tri ..
                refine zAh (Le.rnq [(2,0)] [(8,.orow 0)] [(0,.row 3 1 (iL ([i64.wrap (a1F+e12)]++((a4.take (a4.length:Int).toNat).drop (1:Int).toNat))))] 1 (h2:=⟨rfl,⟨_,rfl,congrArg (Ob.row 3 1) zBD⟩,trivial⟩))<|zAd ?_;cases h
                replace h:some _=some _:=ho1;exact jH
               ·refine yCp ?_;refine zAf rfl h (fun hb h=>?_) (fun hb h=>?_)
                ·refine zAb [154] [] rfl ?_;cases h
                 exact⟨_,rfl,(Le.trans (Le.rnq [(1,0)] [(2,nI a3),(3,.s (.sl 1 (iL a4))),(10,.orow 0)] [(0,.row 3 1 (iL [i64.wrap ((i64.wrap (a2 - 1))+a1K)]))] 1 (h2:=⟨rfl,⟨_,rfl,congrArg (Ob.row 3 1) zBD⟩,trivial⟩)) (Le.rnq [(0,0)] _ _ _))⟩
                ·exact gW
 ·subst hz;replace h:=ho1;refine zAh hle<|yBn [158,160] [157] rfl ?_;intro r15 hr15;obtain rfl:iL [a3]=r15:=(hr15.trans zBD).symm;obtain⟨hq,h⟩:=zAx h
  refine And.intro (show((iL l6).length+(iL [a3]).length) * 8<=140737488355328/\(iL l6).length+(iL [a3]).length<=9223372036854775807 from by simp only[length_append,length_cons,length_nil,length_map,rlen (fun _=>rfl)]at hq ⊢; omega) ?_;obtain⟨hq,h⟩:=zAx h
  refine And.intro (show(((iL l6)++(iL [a3])).length+(iL a4).length) * 8<=140737488355328/\((iL l6)++(iL [a3])).length+(iL a4).length<=9223372036854775807 from by simp only[length_append,length_cons,length_nil,length_map,rlen (fun _=>rfl)]at hq ⊢; omega) ?_;show Tri ..
  refine zAh (Le.rnq [(2,0)] [(8,.orow 0)] [(0,.row 3 1 (iL ((l6++[a3])++a4)))] 1 (h2:=⟨rfl,⟨_,rfl,congrArg (Ob.row 3 1) zBD⟩,trivial⟩))<|zAd ?_;exact jH
variable (n:Nat) (xs:List AV) (r:Ret)
def zXg:Prop:=∃ a0 a1 a2 y0,zIG n a0 a1 a2=some y0/\xs=[.agg ((zAl a0).map .s),.s (.sl 1 (iL a1)),nB a2]/\r = .row 3 1 (iL y0)
def zSi:zAr:=pG zXg
theorem zWK:PSound prog 98 zSi:=by
 have gok:=gk1 zRk<|gk1 zRj<|gk1 zRi<|gk0
 refine psq tokW call98 func98 rfl ?_;rintro xs r w0 G0 ⟨n,⟨op1A,op1E,op1F,op1K,op1G,op1H,op1L,op1C⟩,pos2,after3,y0,h,rfl,rfl⟩ _;rw[zIG]at h;refine yBn [6] [] rfl ?_;refine zAh (Le.rnq [] [(1,.s (.sl 1 (iL pos2))),(2,nB after3),(3,.s (.pt [.int .i64 op1A,.sl 1 (iL op1E),.int .i64 op1F,.int .i64 op1K,.sl 4 (Nd.encs op1G),.int .i64 op1H,.str op1L,.str op1C]))] [] 0)<|yBn [] [11] rfl ?_;intro n4 hn4;obtain rfl:=rlE (fun _=>rfl) op1E hn4;refine zAa ?_
 refine yCp ?_;obtain⟨y5,hy5,h⟩:=zAc h;refine⟨_,⟨_,_,_,_,hy5,rfl,rfl⟩,?_⟩
 refine zAf rfl h (fun hb h=>?_) (fun hb h=>?_)
 ·refine yBn [17,19] [] rfl ?_;obtain⟨hq,h⟩:=zAx h;refine And.intro (show(([]:List (List S)).length+(iL pos2).length) * 8<=140737488355328/\([]:List (List S)).length+(iL pos2).length<=9223372036854775807 from by simp only[length_append,length_cons,length_nil,length_map,rlen (fun _=>rfl)]at hq ⊢; omega) ?_;show Tri ..
  refine zAh (Le.rnq [(1,0)] [(6,.orow 0)] [(0,.row 3 1 (iL pos2))] 1 (h2:=⟨rfl,⟨_,rfl,congrArg (Ob.row 3 1) zBD⟩,trivial⟩))<|zAd ?_;exact jH
 ·refine zAe<|yBn [20,23] [] rfl ?_;obtain⟨hq,h⟩:=zAx h;refine And.intro (show(([]:List (List S)).length+(iL op1E).length) * 8<=140737488355328/\([]:List (List S)).length+(iL op1E).length<=9223372036854775807 from by simp only[length_append,length_cons,length_nil,length_map,rlen (fun _=>rfl)]at hq ⊢; omega) ?_;show Tri ..
  refine zAh (Le.rnq [(1,0)] [(1,.s (.sl 1 (iL pos2))),(2,nB after3),(3,.s (.pt [.int .i64 op1A,.sl 1 (iL op1E),.int .i64 op1F,.int .i64 op1K,.sl 4 (Nd.encs op1G),.int .i64 op1H,.str op1L,.str op1C])),(7,nI (op1E.length:Int)),(8,.orow 0)] [(0,.row 3 1 (iL op1E))] 1 (h2:=⟨rfl,⟨_,rfl,congrArg (Ob.row 3 1) zBD⟩,trivial⟩)) ?_
  refine zAa<|yBn [] [25] rfl ?_;intro n6 hn6;obtain rfl:=rlE (fun _=>rfl) pos2 hn6;refine zAf rfl h (fun hb h=>?_) (fun hb h=>?_)
  ·refine zAa<|zAC [37] [33] [8] rfl (by decide +kernel) ?_;obtain⟨e7,he7,h⟩:=zAc h;refine And.intro (zAq (fun _=>rfl) he7).1 ?_;intro r8 hr8;obtain rfl:[.int .i64 e7]=r8:=(hr8.trans (zAq (fun _=>rfl) he7).2.1).symm;obtain⟨y9,hy9,h⟩:=zAc h;refine⟨_,⟨_,_,_,_,hy9,rfl,rfl⟩,?_⟩
   obtain⟨hq,h⟩:=zAx h;refine And.intro (show((iL op1E).length+(iL y9).length) * 8<=140737488355328/\(iL op1E).length+(iL y9).length<=9223372036854775807 from by simp only[length_append,length_cons,length_nil,length_map,rlen (fun _=>rfl)]at hq ⊢; omega) ?_;show Tri ..
   refine zAh (Le.rnq [(1,0)] [(6,.orow 0)] [(0,.row 3 1 (iL (op1E++y9)))] 1 (h2:=⟨rfl,⟨_,rfl,congrArg (Ob.row 3 1) zBD⟩,trivial⟩))<|zAd ?_;exact jH
  ·refine zAe<|zAa<|zAC [54] [42,47,52] [16] rfl (by decide +kernel) ?_;obtain⟨e10,he10,h⟩:=zAc h;refine And.intro (zAq (fun _=>rfl) he10).1 ?_;intro r11 hr11;obtain rfl:[.int .i64 e10]=r11:=(hr11.trans (zAq (fun _=>rfl) he10).2.1).symm;obtain⟨e12,he12,h⟩:=zAc h;refine And.intro (zAq (fun _=>rfl) he12).1 ?_;intro r13 hr13;obtain rfl:[.int .i64 e12]=r13:=(hr13.trans (zAq (fun _=>rfl) he12).2.1).symm;obtain⟨hq,h⟩:=zAx h;refine And.intro ⟨hq.1,Int.le_trans hq.2.1 (Int.ofNat_le.2 (Nat.le_of_eq (rlen (fun _=>rfl) _).symm)),Int.le_refl _⟩ ?_;intro r14 hr14
   obtain rfl:iL ((pos2.take (pos2.length:Int).toNat).drop (i64.wrap ((op1E.length:Int)+2)).toNat)=r14:=(hr14.trans ((congrArg (fun m:Nat=>((iL pos2).take m).drop (i64.wrap ((op1E.length:Int)+2)).toNat) (rlen (fun _=>rfl) _)).trans (rcut (fun _=>rfl) _ _ _))).symm;obtain⟨y15,hy15,h⟩:=zAc h;refine⟨_,⟨_,_,_,_,_,hy15,rfl,rfl⟩,?_⟩
   obtain⟨hq,h⟩:=zAx h;refine And.intro (show((iL op1E).length+(iL y15).length) * 8<=140737488355328/\(iL op1E).length+(iL y15).length<=9223372036854775807 from by simp only[length_append,length_cons,length_nil,length_map,rlen (fun _=>rfl)]at hq ⊢; omega) ?_;show Tri ..
   refine zAh (Le.rnq [(1,0)] [(6,.orow 0)] [(0,.row 3 1 (iL (op1E++y15)))] 1 (h2:=⟨rfl,⟨_,rfl,congrArg (Ob.row 3 1) zBD⟩,trivial⟩))<|zAd ?_;exact jH
def zSb:Prop:=∃ a0 a1 y0 y1,zDS n a0 a1=some (y0,y1)/\xs=[.agg ((Nd.enc a0).map .s),.agg ((zAN a1).map .s)]/\r = .val (.tup [.agg ((zAi y0).map .s),nI y1])
def zMd:zAr:=pG zSb
theorem zRm:PSound prog 55 zMd:=by
 have gok:=gk1 zDT<|gk1 zF4<|gk1 zK5<|gk1 zWK<|gk1 zEz<|gk0
 refine psq tokW call55 func55 rfl ?_;rintro xs r w0 G0 ⟨n,⟨n1A,n1C,n1D,n1B⟩,⟨c2I,c2M⟩,y0,y1,h,rfl,rfl⟩ _;rw[zDS]at h;refine yBn [4] [] rfl ?_;refine yBn [6] [] rfl ?_;obtain⟨⟨⟨y3E,y3O,y3Ai⟩,y4⟩,hy3,h⟩:=zAc h;refine⟨_,⟨_,_,_,_,_,hy3,rfl,rfl⟩,?_⟩
 refine zAh (Le.giveBox 1 [.sl 1 (iL y3E),.int .i64 y3O,.int .i64 y3Ai] rfl rfl)<|zAa<|yCp ?_;refine zAf rfl h (fun hb h=>?_) (fun hb h=>?_)
 ·exact jP
 ·refine zAe<|yBn [8] [] rfl ?_;obtain⟨⟨⟨y5E,y5F,y5Aq,⟨y5Av,y5Aw,y5Ah,y5Ar⟩⟩,y6⟩,hy5,h⟩:=zAc h;refine⟨_,⟨_,_,_,_,_,hy5,rfl,rfl⟩,?_⟩
  refine zAh (Le.giveBox 2 [.sl 1 (iL y5E),.int .i64 y5F,.int .i64 y5Aq,.int .i64 y5Av,.str y5Aw,.int .i64 y5Ah,.sl 4 (Nd.encs y5Ar)] rfl rfl)<|zAa<|yCp ?_;refine zAf rfl h (fun hb h=>?_) (fun hb h=>?_)
  ·exact jP
  ·refine zAe<|yBn [10] [] rfl ?_;obtain⟨⟨y7A,y7E,y7F,y7K,y7G,y7H,y7L,y7C⟩,hy7,h⟩:=zAc h;refine⟨_,⟨_,_,hy7,rfl,rfl⟩,?_⟩
   refine zAh (Le.giveBox 3 [.int .i64 y7A,.sl 1 (iL y7E),.int .i64 y7F,.int .i64 y7K,.sl 4 (Nd.encs y7G),.int .i64 y7H,.str y7L,.str y7C] rfl rfl)<|zAa<|zAC [] [36] [11] rfl (by decide +kernel) ?_;intro r8 hr8
   obtain rfl:(List.map zAl) [(y7A,y7E,y7F,y7K,y7G,y7H,y7L,y7C)]=r8:=(hr8.trans zBD).symm;obtain⟨y9,hy9,h⟩:=zAc h;refine⟨_,⟨_,_,_,_,_,hy9,rfl,rfl⟩,?_⟩
   obtain⟨⟨⟨y10N,⟨y10P,y10Q⟩,⟨y10R,y10S⟩⟩,y11⟩,hy10,h⟩:=zAc h;refine⟨_,⟨_,_,_,_,_,_,_,hy10,rfl,rfl⟩,?_⟩
   exact jA
def zT7:Prop:=∃ a0 a1 y0 y1,zEx n a0 a1=some (y0,y1)/\xs=[.agg ((Nd.enc a0).map .s),.agg ((zAN a1).map .s)]/\r = .val (.tup [.agg ((zAi y0).map .s),nI y1])
def zNl:zAr:=pG zT7
theorem zTn:PSound prog 56 zNl:=by
 have gok:=gk1 zDT<|gk1 zF4<|gk1 zIS<|gk1 zMt<|gk1 zC2<|gk1 zE4<|gk1 zLB<|gk1 zEz<|gk0
 refine psq tokW call56 func56 rfl ?_;rintro xs r w0 G0 ⟨n,⟨a1A,a1C,a1D,a1B⟩,⟨a2I,a2M⟩,y0,y1,h,rfl,rfl⟩ _;rw[zEx]at h;refine yBn [4] [] rfl ?_;refine yBn [6] [] rfl ?_;obtain⟨⟨⟨y3E,y3O,y3Ai⟩,y4⟩,hy3,h⟩:=zAc h;refine⟨_,⟨_,_,_,_,_,hy3,rfl,rfl⟩,?_⟩
 refine zAh (Le.giveBox 1 [.sl 1 (iL y3E),.int .i64 y3O,.int .i64 y3Ai] rfl rfl)<|zAa<|yCp ?_;refine zAf rfl h (fun hb h=>?_) (fun hb h=>?_)
 ·exact jP
 ·refine zAe<|yBn [8] [] rfl ?_;obtain⟨⟨⟨y5E,y5F,y5Aq,⟨y5Av,y5Aw,y5Ah,y5Ar⟩⟩,y6⟩,hy5,h⟩:=zAc h;refine⟨_,⟨_,_,_,_,_,hy5,rfl,rfl⟩,?_⟩
  refine zAh (Le.giveBox 2 [.sl 1 (iL y5E),.int .i64 y5F,.int .i64 y5Aq,.int .i64 y5Av,.str y5Aw,.int .i64 y5Ah,.sl 4 (Nd.encs y5Ar)] rfl rfl)<|zAa<|zAk<|yCp ?_;refine zAf rfl h (fun hb h=>?_) (fun hb h=>?_)
  ·exact jP
  ·refine zAa ?_;obtain⟨x7,hj,h⟩:=zAc h;refine zAm ⟨ofL [(2,pN a1A a1C a1D a1B),(3,.s (.pt [.sl 1 (iL a2I),.sl 1 (iL a2M)])),(4,.op 0 0),(8,.s (.pt [.sl 1 (iL y5E),.int .i64 y5F,.int .i64 y5Aq,.int .i64 y5Av,.str y5Aw,.int .i64 y5Ah,.sl 4 (Nd.encs y5Ar)])),(37,nB x7)],ofH [(0,.box 40 [.nl 8,.nl 1,.nl 1,.nl 1,.nl 1])],1⟩ ?_ (fun σ' hle=>?_)
   ·replace h:=hj;refine zAb [] [43,48] rfl ?_;intro b hb;cases b with
    | true =>
     exact jT
    | false =>
     replace h:=zAv hb.symm h;intro b hb;cases b with
     | true =>
      exact jT
     | false =>
      exact gB
   ·refine zAh hle<|zAf rfl h (fun hb h=>?_) (fun hb h=>?_)
    ·exact jP
    ·refine zAe<|yBn [] [60,62] rfl ?_;intro n8 hn8;obtain rfl:=rlE (fun _=>rfl) a2I hn8;obtain⟨e9,he9,h⟩:=zAc h;refine And.intro (zAq (fun _=>rfl) he9).1 ?_;intro r10 hr10;obtain rfl:[.int .i64 e9]=r10:=(hr10.trans (zAq (fun _=>rfl) he9).2.1).symm;refine zAa<|zEd [11] [70,78,81] [19,20] [] rfl (by decide +kernel) ?_;intro r11 hr11
     obtain rfl:iL [y5F,y5Aq]=r11:=(hr11.trans zBD).symm;obtain⟨y12,hy12,h⟩:=zAc h;refine⟨_,⟨_,_,_,hy12,rfl,rfl⟩,?_⟩
     obtain⟨⟨e13A,e13C,e13D,e13B⟩,he13,h⟩:=zAc h;refine And.intro (zAq Nd.encs_eq he13).1 ?_;intro r14 hr14;obtain rfl:(nN e13A e13C e13D e13B)=r14:=(hr14.trans (zAq Nd.encs_eq he13).2.1).symm;intro n15 hn15;obtain rfl:=rlE Nd.encs_eq e13B hn15;refine zAh (Le.giveBox 1 [.sl 1 (iL y12),.int .i64 e9,.int .i64 (e13B.length:Int)] rfl rfl)<|yCp ?_;obtain⟨⟨y16,y17⟩,hy16,h⟩:=zAc h;refine⟨_,⟨_,_,_,_,_,hy16,rfl,rfl⟩,?_⟩
     refine zAa<|zEd [14] [] [7,8] [] rfl (by decide +kernel) ?_;obtain⟨⟨y18A,y18C,y18D,y18B⟩,hy18,h⟩:=zAc h;refine⟨_,⟨_,_,hy18,rfl,rfl⟩,?_⟩
     obtain⟨⟨y19A,y19C,y19D,y19B⟩,hy19,h⟩:=zAc h;refine⟨_,⟨_,_,_,_,hy19,rfl,rfl⟩,?_⟩
     refine zAh (Le.giveBox 2 (nN y19A y19C y19D y19B) rfl rfl)<|zAa<|zAC [98,108] [105,107] [2,12] rfl (by decide +kernel) ?_;obtain⟨y20,hy20,h⟩:=zAc h;refine⟨_,⟨_,_,_,_,hy20,rfl,rfl⟩,?_⟩
     intro r21 hr21;obtain rfl:Nd.encs [Nd.mk y19A y19C y19D y19B]=r21:=(hr21.trans zBD).symm;intro r22 hr22
     obtain rfl:(List.map zAl) [(1,y5E,i64.wrap (y5F+1),0,[Nd.mk y19A y19C y19D y19B],0,[],[])]=r22:=(hr22.trans zBD).symm;obtain⟨hq,h⟩:=zAx h
     refine And.intro (show(((List.map zAl) y20).length+((List.map zAl) [(1,y5E,i64.wrap (y5F+1),0,[Nd.mk y19A y19C y19D y19B],0,[],[])]).length) * 112<=140737488355328/\((List.map zAl) y20).length+((List.map zAl) [(1,y5E,i64.wrap (y5F+1),0,[Nd.mk y19A y19C y19D y19B],0,[],[])]).length<=9223372036854775807 from by simp only[length_append,length_cons,length_nil,length_map,rlen (fun _=>rfl)]at hq ⊢; omega) ?_;show Tri ..
     refine zAh (Le.rnq [(0,0),(4,1)] [(2,pN a1A a1C a1D a1B),(3,.s (.pt [.sl 1 (iL a2I),.sl 1 (iL a2M)])),(4,.op 0 0),(8,.s (.pt [.sl 1 (iL y5E),.int .i64 y5F,.int .i64 y5Aq,.int .i64 y5Av,.str y5Aw,.int .i64 y5Ah,.sl 4 (Nd.encs y5Ar)])),(15,.orow 1)] [(0,.box 40 [.nl 8,.nl 1,.nl 1,.nl 1,.nl 1]),(1,.row 76 8 ((List.map zAl) (y20++[(1,y5E,i64.wrap (y5F+1),0,[Nd.mk y19A y19C y19D y19B],0,[],[])])))] 2 (h2:=⟨rfl,⟨_,rfl,rfl⟩,rfl,⟨_,rfl,congrArg (Ob.row 76 8) zBD⟩,trivial⟩)) ?_
     refine zAa<|zAC [] [119] [12,15] rfl (by decide +kernel) ?_;intro r23 hr23;obtain rfl:iL [i64.wrap (y5F+1),y5Aq,0]=r23:=(hr23.trans zBD).symm;obtain⟨y24,hy24,h⟩:=zAc h;refine⟨_,⟨_,_,_,hy24,rfl,rfl⟩,?_⟩
     obtain⟨⟨⟨y25N,⟨y25P,y25Q⟩,⟨y25R,y25S⟩⟩,y26⟩,hy25,h⟩:=zAc h;refine⟨_,⟨_,_,_,_,_,_,_,hy25,rfl,rfl⟩,?_⟩
     exact jA
def zXj:Prop:=∃ a0 a1 a2 y0 y1,zHw n a0 a1 a2=some (y0,y1)/\xs=[.agg ((Nd.enc a0).map .s),.agg ((zAN a1).map .s),nS a2]/\r = .val (.tup [.agg ((zAi y0).map .s),nI y1])
def zSl:zAr:=pG zXj
theorem zWN:PSound prog 57 zSl:=by
 have gok:=gk1 zDT<|gk1 zN4<|gk1 zMu<|gk1 zEz<|gk0
 refine psq tokW call57 func57 rfl ?_;rintro xs r w0 G0 ⟨n,⟨a1A,a1C,a1D,a1B⟩,⟨a2I,a2M⟩,a3,y0,y1,h,rfl,rfl⟩ _;rw[zHw]at h;refine yBn [6] [] rfl ?_;refine yBn [8] [] rfl ?_;obtain⟨⟨⟨y4E,y4O,y4Ai⟩,y5⟩,hy4,h⟩:=zAc h;refine⟨_,⟨_,_,_,_,_,hy4,rfl,rfl⟩,?_⟩
 refine zAh (Le.giveBox 1 [.sl 1 (iL y4E),.int .i64 y4O,.int .i64 y4Ai] rfl rfl)<|zAa<|yCp ?_;refine zAf rfl h (fun hb h=>?_) (fun hb h=>?_)
 ·exact jP
 ·refine zAe<|zAa<|zAC [] [30,32,37,39] [] rfl (by decide +kernel) ?_;intro n6 hn6;obtain rfl:=rlE (fun _=>rfl) a2I hn6;obtain⟨hq,h⟩:=zAx h;refine And.intro ⟨hq.1,hq.2.1,Int.le_trans hq.2.2 (Int.ofNat_le.2 (Nat.le_of_eq (rlen (fun _=>rfl) _).symm))⟩ ?_;intro r7 hr7;obtain rfl:iL ((a2I.take (i64.wrap ((a2I.length:Int) - 1)).toNat).drop (0:Int).toNat)=r7:=(hr7.trans (rcut (fun _=>rfl) _ _ _)).symm;intro n8 hn8;obtain rfl:=rlE (fun _=>rfl) a2I hn8;obtain⟨e9,he9,h⟩:=zAc h;refine And.intro (zAq (fun _=>rfl) he9).1 ?_;intro r10 hr10
  obtain rfl:[.int .i64 e9]=r10:=(hr10.trans (zAq (fun _=>rfl) he9).2.1).symm;refine zAa<|yCp ?_;refine zAf rfl h (fun hb h=>?_) (fun hb h=>?_)
  ·exact jP
  ·refine zAe<|yBn [12] [] rfl ?_;obtain⟨⟨⟨y11A,y11C,y11D,y11B⟩,y12⟩,hy11,h⟩:=zAc h;refine⟨_,⟨_,_,_,_,_,_,hy11,rfl,rfl⟩,?_⟩
   refine zAh (Le.giveBox 2 (nN y11A y11C y11D y11B) rfl rfl)<|yBn [14] [] rfl ?_;refine zAh (Le.giveBox 3 [.int .i64 5,.sl 1 (iL ((a2I.take (i64.wrap ((a2I.length:Int) - 1)).toNat).drop (0:Int).toNat)),.int .i64 (i64.wrap (e9 - 1)),.int .i64 0,.sl 4 (Nd.encs []),.int .i64 0,.str y11C,.str a3] rfl rfl)<|yCp ?_;obtain⟨⟨⟨y13A,y13C,y13D,y13B⟩,y14⟩,hy13,h⟩:=zAc h;refine⟨_,⟨_,_,_,_,_,hy13,rfl,rfl⟩,?_⟩
   refine zAa<|zAa ?_;obtain⟨x15,hj,h⟩:=zAc h;refine zAm ⟨ofL [(3,pN a1A a1C a1D a1B),(4,.s (.pt [.sl 1 (iL a2I),.sl 1 (iL a2M)])),(6,.op 0 0),(14,.s (.pt [.int .i64 5,.sl 1 (iL ((a2I.take (i64.wrap ((a2I.length:Int) - 1)).toNat).drop (0:Int).toNat)),.int .i64 (i64.wrap (e9 - 1)),.int .i64 0,.sl 4 (Nd.encs []),.int .i64 0,.str y11C,.str a3])),(70,nB x15)],ofH [(0,.box 40 [.nl 8,.nl 1,.nl 1,.nl 1,.nl 1])],1⟩ ?_ (fun σ' hle=>?_)
   ·replace h:=hj;refine zAb [] [67] rfl ?_;intro b hb;cases b with
    | true =>
     exact jT
    | false =>
     exact gB
   ·refine zAh hle<|zAf rfl h (fun hb h=>?_) (fun hb h=>?_)
    ·exact jP
    ·refine zAe<|yBn [15] [76] rfl ?_;intro r16 hr16
     obtain rfl:(List.map zAl) [(5,(a2I.take (i64.wrap ((a2I.length:Int) - 1)).toNat).drop (0:Int).toNat,i64.wrap (e9 - 1),0,[],0,y11C,a3)]=r16:=(hr16.trans zBD).symm
     obtain⟨⟨⟨y17N,⟨y17P,y17Q⟩,⟨y17R,y17S⟩⟩,y18⟩,hy17,h⟩:=zAc h;refine⟨_,⟨_,_,_,_,_,_,_,hy17,rfl,rfl⟩,?_⟩
     refine zAa<|yCp ?_;show Tri ..;obtain⟨⟨x19,x20⟩,hj,h⟩:=zAc h;refine zAm ⟨ofL [(6,.op 0 0),(9,nI y18),(15,.op 1 0)],ofH [(0,.box 40 [.nl 8,.nl 1,.nl 1,.nl 1,.nl 1]),(1,.box 40 [.s (.sl 8 ((List.map zAl) y17N)),.s (.sl 1 (iL y17P)),.s (.sl 1 (iL y17Q)),.s (.sl 1 (iL x19)),.s (.sl 1 (iL x20))])],2⟩ ?_ (fun σ' hle=>?_)
     ·replace h:=hj;refine zAf rfl h (fun hb h=>?_) (fun hb h=>?_)
      ·refine yCo ?_;exact jO
      ·refine zAe ?_;exact jO
     ·refine zAh hle<|yCp ?_;exact jA
def zV8:Prop:=∃ a0 a1 a2 y0 y1,zFj n a0 a1 a2=some (y0,y1)/\xs=[.agg ((Nd.enc a0).map .s),.agg ((zAN a1).map .s),nB a2]/\r = .val (.tup [.agg ((zAi y0).map .s),nI y1])
def zPq:zAr:=pG zV8
theorem jS {P:Prop} (h:P:=by cases h;exact(Le.rnq [(0,0),(1,1),(2,2)] _ _ _)):P:=h
theorem zUK:PSound prog 58 zPq:=by
 have gok:=gk1 zDT<|gk1 zF4<|gk1 zC2<|gk1 zIS<|gk1 zEz<|gk0
 refine psq tokW call58 func58 rfl ?_;rintro xs r w0 G0 ⟨n,⟨a1A,a1C,a1D,a1B⟩,⟨a2I,a2M⟩,a3,y0,y1,h,rfl,rfl⟩ _;rw[zFj]at h;refine yBn [6] [] rfl ?_;refine yBn [8] [] rfl ?_;obtain⟨⟨⟨y4E,y4O,y4Ai⟩,y5⟩,hy4,h⟩:=zAc h;refine⟨_,⟨_,_,_,_,_,hy4,rfl,rfl⟩,?_⟩
 refine zAh (Le.giveBox 1 [.sl 1 (iL y4E),.int .i64 y4O,.int .i64 y4Ai] rfl rfl)<|zAa<|yCp ?_;refine zAf rfl h (fun hb h=>?_) (fun hb h=>?_)
 ·exact jP
 ·refine zAe<|yBn [10] [] rfl ?_;obtain⟨⟨⟨y6E,y6F,y6Aq,⟨y6Av,y6Aw,y6Ah,y6Ar⟩⟩,y7⟩,hy6,h⟩:=zAc h;refine⟨_,⟨_,_,_,_,_,hy6,rfl,rfl⟩,?_⟩
  refine zAh (Le.giveBox 2 [.sl 1 (iL y6E),.int .i64 y6F,.int .i64 y6Aq,.int .i64 y6Av,.str y6Aw,.int .i64 y6Ah,.sl 4 (Nd.encs y6Ar)] rfl rfl)<|zAa<|zAk<|yCp ?_;refine zAf rfl h (fun hb h=>?_) (fun hb h=>?_)
  ·exact jP
  ·refine yCp ?_;refine zAf rfl h (fun hb h=>?_) (fun hb h=>?_)
   ·exact jP
   ·refine zAe<|yCp ?_;refine yBn [13] [] rfl ?_;refine zAa<|yCp ?_;show Tri ..;obtain⟨x8,hj,h⟩:=zAc h
    refine zAm ⟨ofL [(2,nB a3),(3,pN a1A a1C a1D a1B),(4,.s (.pt [.sl 1 (iL a2I),.sl 1 (iL a2M)])),(6,.op 0 0),(10,.s (.pt [.sl 1 (iL y6E),.int .i64 y6F,.int .i64 y6Aq,.int .i64 y6Av,.str y6Aw,.int .i64 y6Ah,.sl 4 (Nd.encs y6Ar)])),(12,nI y6Ah),(13,.op 1 0)],ofH [(0,.box 40 [.nl 8,.nl 1,.nl 1,.nl 1,.nl 1]),(1,.box 24 [nI 12,.s (.str []),nI x8,.nl 4])],2⟩ ?_ (fun σ' hle=>?_)
    ·replace h:=hj;refine zAf rfl h (fun hb h=>?_) (fun hb h=>?_)
     ·refine yCo ?_;cases h;exact(Le.rnq [(0,0),(3,1)] _ _ _)
     ·refine zAe ?_;cases h;exact(Le.rnq [(0,0),(3,1)] _ _ _)
    ·refine zAh hle<|yCp ?_;refine zAa<|yCp ?_;show Tri ..;obtain⟨⟨x18,l19⟩,hl,h⟩:=zAc h
     refine zAm ⟨ofL [(3,pN a1A a1C a1D a1B),(4,.s (.pt [.sl 1 (iL a2I),.sl 1 (iL a2M)])),(6,.op 0 0),(10,.s (.pt [.sl 1 (iL y6E),.int .i64 y6F,.int .i64 y6Aq,.int .i64 y6Av,.str y6Aw,.int .i64 y6Ah,.sl 4 (Nd.encs y6Ar)])),(13,.op 1 0),(14,nI x18)],ofH [(0,.box 40 [.nl 8,.nl 1,.nl 1,.nl 1,.nl 1]),(1,.box 24 [nI 12,.s (.str []),nI x8,.orow 2]),(2,.row 24 4 (Nd.encs l19))],3⟩ ?_ (fun σ' hle=>?_)
     ·refine zAk (zAA (X:=Nat×Int×Int×(List Nd)) (fun y=>match y with | (k,x15,x16,l17)=>⟨ofL [(2,nB a3),(3,pN a1A a1C a1D a1B),(4,.s (.pt [.sl 1 (iL a2I),.sl 1 (iL a2M)])),(6,.op 0 0),(10,.s (.pt [.sl 1 (iL y6E),.int .i64 y6F,.int .i64 y6Aq,.int .i64 y6Av,.str y6Aw,.int .i64 y6Ah,.sl 4 (Nd.encs y6Ar)])),(12,nI y6Ah),(13,.op 1 0),(14,nI x15),(15,nI x16)],ofH [(0,.box 40 [.nl 8,.nl 1,.nl 1,.nl 1,.nl 1]),(1,.box 24 [nI 12,.s (.str []),nI x8,.orow 2]),(2,.row 24 4 (Nd.encs l17))],3⟩) (fun y=>zDg n a3 y6Aq y6Ah y6Ar y.1 y.2.1 y.2.2.1 y.2.2.2=some (x18,l19)) (fun y=>y.1) (n,0,0,[]) hl ?_ ?_)
      ·exact(Le.trans (Le.trans (Le.rnq [(0,0),(1,1)] [(2,nB a3),(3,pN a1A a1C a1D a1B),(4,.s (.pt [.sl 1 (iL a2I),.sl 1 (iL a2M)])),(6,.op 0 0),(10,.s (.pt [.sl 1 (iL y6E),.int .i64 y6F,.int .i64 y6Aq,.int .i64 y6Av,.str y6Aw,.int .i64 y6Ah,.sl 4 (Nd.encs y6Ar)])),(12,nI y6Ah),(13,.op 1 0),(14,nI 0),(15,nI 0)] [(0,.box 40 [.nl 8,.nl 1,.nl 1,.nl 1,.nl 1]),(1,.box 24 [nI 12,.s (.str []),nI x8,.nl 4])] 2) (Le.takeNil 1 3 24 rfl rfl (by decide))) (Le.rnq [(0,0),(1,1),(2,2)] _ _ _ (h2:=⟨rfl,⟨_,rfl,rfl⟩,rfl,⟨_,rfl,rfl⟩,rfl,⟨_,rfl,congrArg (Ob.row 24 4) zBD⟩,trivial⟩)))
      ·rintro⟨k,x15,x16,l17⟩ h;cases k with
       | zero=>cases h
       | succ k =>
        replace h:zDg n a3 y6Aq y6Ah y6Ar (k+1) x15 x16 l17=some (x18,l19):=h;rw[zDg]at h;refine zAa<|yBn [] [59] rfl ?_;intro n20 hn20;obtain rfl:=rlE Nd.encs_eq y6Ar hn20;refine zAf rfl h (fun hb h=>?_) (fun hb h=>?_)
        ·refine zAe<|zAa ?_;obtain⟨⟨x21,l22⟩,hj,h⟩:=zAc h
         refine zAm ⟨ofL [(2,nB a3),(3,pN a1A a1C a1D a1B),(4,.s (.pt [.sl 1 (iL a2I),.sl 1 (iL a2M)])),(6,.op 0 0),(10,.s (.pt [.sl 1 (iL y6E),.int .i64 y6F,.int .i64 y6Aq,.int .i64 y6Av,.str y6Aw,.int .i64 y6Ah,.sl 4 (Nd.encs y6Ar)])),(12,nI y6Ah),(13,.op 1 0),(14,nI x21),(15,nI x16)],ofH [(0,.box 40 [.nl 8,.nl 1,.nl 1,.nl 1,.nl 1]),(1,.box 24 [nI 12,.s (.str []),nI x8,.orow 2]),(2,.row 24 4 (Nd.encs l22))],3⟩ ?_ (fun σ' hle=>?_)
         ·replace h:=hj;refine zAk<|zAa<|yCp ?_;show Tri ..;obtain⟨x23,hj,h⟩:=zAc h
          refine zAm ⟨ofL [(2,nB a3),(3,pN a1A a1C a1D a1B),(4,.s (.pt [.sl 1 (iL a2I),.sl 1 (iL a2M)])),(6,.op 0 0),(10,.s (.pt [.sl 1 (iL y6E),.int .i64 y6F,.int .i64 y6Aq,.int .i64 y6Av,.str y6Aw,.int .i64 y6Ah,.sl 4 (Nd.encs y6Ar)])),(12,nI y6Ah),(13,.op 1 0),(14,nI x23),(15,nI x16)],ofH [(0,.box 40 [.nl 8,.nl 1,.nl 1,.nl 1,.nl 1]),(1,.box 24 [nI 12,.s (.str []),nI x8,.orow 2]),(2,.row 24 4 (Nd.encs l17))],3⟩ ?_ (fun σ' hle=>?_)
          ·replace h:=hj;refine zAf rfl h (fun hb h=>?_) (fun hb h=>?_)
           ·refine zAb [] [69] rfl ?_;intro n24 hn24;obtain rfl:=rlE Nd.encs_eq l17 hn24;exact jS
           ·refine zAe ?_;exact jS
          ·refine zAh hle<|zAa<|zAC [79] [76,78] [1,9,11] rfl (by decide +kernel) ?_;obtain⟨⟨e25A,e25C,e25D,e25B⟩,he25,h⟩:=zAc h;refine And.intro (zAq Nd.encs_eq he25).1 ?_;intro r26 hr26;obtain rfl:(nN e25A e25C e25D e25B)=r26:=(hr26.trans (zAq Nd.encs_eq he25).2.1).symm;intro r27 hr27
           obtain rfl:Nd.encs [Nd.mk e25A e25C e25D e25B]=r27:=(hr27.trans zBD).symm;obtain⟨hq,h⟩:=zAx h
           refine And.intro (show((Nd.encs l17).length+(Nd.encs [Nd.mk e25A e25C e25D e25B]).length) * 56<=140737488355328/\(Nd.encs l17).length+(Nd.encs [Nd.mk e25A e25C e25D e25B]).length<=9223372036854775807 from by simp only[length_append,length_cons,length_nil,length_map,rlen Nd.encs_eq]at hq ⊢; omega) ?_;show Tri ..
           refine zAh (Le.rnq [(0,0),(1,1),(3,2)] [(2,nB a3),(3,pN a1A a1C a1D a1B),(4,.s (.pt [.sl 1 (iL a2I),.sl 1 (iL a2M)])),(6,.op 0 0),(10,.s (.pt [.sl 1 (iL y6E),.int .i64 y6F,.int .i64 y6Aq,.int .i64 y6Av,.str y6Aw,.int .i64 y6Ah,.sl 4 (Nd.encs y6Ar)])),(12,nI y6Ah),(13,.op 1 0),(14,nI x23),(15,nI x16)] [(0,.box 40 [.nl 8,.nl 1,.nl 1,.nl 1,.nl 1]),(1,.box 24 [nI 12,.s (.str []),nI x8,.orow 2]),(2,.row 24 4 (Nd.encs (l17++[Nd.mk e25A e25C e25D e25B])))] 3 (h2:=⟨rfl,⟨_,rfl,rfl⟩,rfl,⟨_,rfl,rfl⟩,rfl,⟨_,rfl,congrArg (Ob.row 24 4) zBD⟩,trivial⟩)) ?_
           refine zAa<|zAa ?_;obtain⟨x28,hj,h⟩:=zAc h
           refine zAm ⟨ofL [(2,nB a3),(3,pN a1A a1C a1D a1B),(4,.s (.pt [.sl 1 (iL a2I),.sl 1 (iL a2M)])),(6,.op 0 0),(10,.s (.pt [.sl 1 (iL y6E),.int .i64 y6F,.int .i64 y6Aq,.int .i64 y6Av,.str y6Aw,.int .i64 y6Ah,.sl 4 (Nd.encs y6Ar)])),(12,nI y6Ah),(13,.op 1 0),(14,nI x23),(15,nI x16),(91,nB x28)],ofH [(0,.box 40 [.nl 8,.nl 1,.nl 1,.nl 1,.nl 1]),(1,.box 24 [nI 12,.s (.str []),nI x8,.orow 2]),(2,.row 24 4 (Nd.encs (l17++[Nd.mk e25A e25C e25D e25B])))],3⟩ ?_ (fun σ' hle=>?_)
           ·replace h:=hj;refine zAC [] [82] [] rfl (by decide +kernel) ?_;intro b hb;cases b with
            | true =>
             replace h:=zAw hb.symm h;obtain⟨hq,h⟩:=zAx h;refine And.intro hq ?_;obtain⟨hq,h⟩:=zAx h;refine And.intro hq ?_;exact jS
            | false =>
             replace h:=zAv hb.symm h;exact jS
           ·refine zAh hle ?_;obtain⟨l29,hj,h⟩:=zAc h
            refine zAm ⟨ofL [(2,nB a3),(3,pN a1A a1C a1D a1B),(4,.s (.pt [.sl 1 (iL a2I),.sl 1 (iL a2M)])),(6,.op 0 0),(10,.s (.pt [.sl 1 (iL y6E),.int .i64 y6F,.int .i64 y6Aq,.int .i64 y6Av,.str y6Aw,.int .i64 y6Ah,.sl 4 (Nd.encs y6Ar)])),(12,nI y6Ah),(13,.op 1 0),(14,nI x23),(15,nI x16)],ofH [(0,.box 40 [.nl 8,.nl 1,.nl 1,.nl 1,.nl 1]),(1,.box 24 [nI 12,.s (.str []),nI x8,.orow 2]),(2,.row 24 4 (Nd.encs l29))],3⟩ ?_ (fun σ' hle=>?_)
            ·replace h:=hj;refine zAf rfl h (fun hb h=>?_) (fun hb h=>?_)
             ·refine zAC [96] [95] [1,4,6] rfl (by decide +kernel) ?_;obtain⟨⟨y30A,y30C,y30D,y30B⟩,hy30,h⟩:=zAc h;refine⟨_,⟨_,_,hy30,rfl,rfl⟩,?_⟩
              intro r31 hr31;obtain rfl:Nd.encs [Nd.mk y30A y30C y30D y30B]=r31:=(hr31.trans zBD).symm;obtain⟨hq,h⟩:=zAx h
              refine And.intro (show((Nd.encs (l17++[Nd.mk e25A e25C e25D e25B])).length+(Nd.encs [Nd.mk y30A y30C y30D y30B]).length) * 56<=140737488355328/\(Nd.encs (l17++[Nd.mk e25A e25C e25D e25B])).length+(Nd.encs [Nd.mk y30A y30C y30D y30B]).length<=9223372036854775807 from by simp only[length_append,length_cons,length_nil,length_map,rlen Nd.encs_eq]at hq ⊢; omega) ?_;cases h
              exact(Le.trans (Le.rnq [(0,0),(1,1),(3,2)] [(2,nB a3),(3,pN a1A a1C a1D a1B),(4,.s (.pt [.sl 1 (iL a2I),.sl 1 (iL a2M)])),(6,.op 0 0),(10,.s (.pt [.sl 1 (iL y6E),.int .i64 y6F,.int .i64 y6Aq,.int .i64 y6Av,.str y6Aw,.int .i64 y6Ah,.sl 4 (Nd.encs y6Ar)])),(12,nI y6Ah),(13,.op 1 0),(14,nI x23),(15,nI x16)] [(0,.box 40 [.nl 8,.nl 1,.nl 1,.nl 1,.nl 1]),(1,.box 24 [nI 12,.s (.str []),nI x8,.orow 2]),(2,.row 24 4 (Nd.encs ((l17++[Nd.mk e25A e25C e25D e25B])++[Nd.mk y30A y30C y30D y30B])))] 3 (h2:=⟨rfl,⟨_,rfl,rfl⟩,rfl,⟨_,rfl,rfl⟩,rfl,⟨_,rfl,congrArg (Ob.row 24 4) zBD⟩,trivial⟩)) (Le.rnq [(0,0),(1,1),(2,2)] _ _ _))
             ·refine zAe ?_;exact jS
            ·refine zAh hle<|yCp ?_;show Tri ..;obtain⟨l40,hl,h⟩:=zAc h
             refine zAm ⟨ofL [(2,nB a3),(3,pN a1A a1C a1D a1B),(4,.s (.pt [.sl 1 (iL a2I),.sl 1 (iL a2M)])),(6,.op 0 0),(10,.s (.pt [.sl 1 (iL y6E),.int .i64 y6F,.int .i64 y6Aq,.int .i64 y6Av,.str y6Aw,.int .i64 y6Ah,.sl 4 (Nd.encs y6Ar)])),(12,nI y6Ah),(13,.op 1 0),(14,nI x23),(15,nI x16)],ofH [(0,.box 40 [.nl 8,.nl 1,.nl 1,.nl 1,.nl 1]),(1,.box 24 [nI 12,.s (.str []),nI x8,.orow 2]),(2,.row 24 4 (Nd.encs l40))],3⟩ ?_ (fun σ' hle=>?_)
             ·refine zAk (zAA (X:=Nat×Int×(List Nd)) (fun y=>match y with | (k,x38,l39)=>⟨ofL [(2,nB a3),(3,pN a1A a1C a1D a1B),(4,.s (.pt [.sl 1 (iL a2I),.sl 1 (iL a2M)])),(6,.op 0 0),(10,.s (.pt [.sl 1 (iL y6E),.int .i64 y6F,.int .i64 y6Aq,.int .i64 y6Av,.str y6Aw,.int .i64 y6Ah,.sl 4 (Nd.encs y6Ar)])),(12,nI y6Ah),(13,.op 1 0),(14,nI x23),(15,nI x16),(16,nI x38)],ofH [(0,.box 40 [.nl 8,.nl 1,.nl 1,.nl 1,.nl 1]),(1,.box 24 [nI 12,.s (.str []),nI x8,.orow 2]),(2,.row 24 4 (Nd.encs l39))],3⟩) (fun y=>zCI a3 y6Aq y6Ah x16 y.1 y.2.1 y.2.2=some l40) (fun y=>y.1) (n,0,l29) hl ?_ ?_)
              ·exact(Le.rnq [(0,0),(1,1),(2,2)] _ _ _)
              ·rintro⟨k,x38,l39⟩ h;cases k with
               | zero=>cases h
               | succ k =>
                replace h:zCI a3 y6Aq y6Ah x16 (k+1) x38 l39=some l40:=h;rw[zCI]at h;refine zAa<|zAa ?_;obtain⟨x41,hj,h⟩:=zAc h
                refine zAm ⟨ofL [(2,nB a3),(3,pN a1A a1C a1D a1B),(4,.s (.pt [.sl 1 (iL a2I),.sl 1 (iL a2M)])),(6,.op 0 0),(10,.s (.pt [.sl 1 (iL y6E),.int .i64 y6F,.int .i64 y6Aq,.int .i64 y6Av,.str y6Aw,.int .i64 y6Ah,.sl 4 (Nd.encs y6Ar)])),(12,nI y6Ah),(13,.op 1 0),(14,nI x23),(15,nI x16),(16,nI x38),(117,nB x41)],ofH [(0,.box 40 [.nl 8,.nl 1,.nl 1,.nl 1,.nl 1]),(1,.box 24 [nI 12,.s (.str []),nI x8,.orow 2]),(2,.row 24 4 (Nd.encs l39))],3⟩ ?_ (fun σ' hle=>?_)
                ·replace h:=hj;refine zAb [] [101,105] rfl ?_;intro b hb;cases b with
                 | true =>
                  replace h:=zAw hb.symm h;intro b hb;cases b with
                  | true =>
                   replace h:=zAw hb.symm h;obtain⟨hq,h⟩:=zAx h;refine And.intro hq ?_;exact jS
                  | false =>
                   replace h:=zAv hb.symm h;exact jS
                 | false =>
                  replace h:=zAv hb.symm h;intro b hb;subst hb;exact jS
                ·refine zAh hle<|zAf rfl h (fun hb h=>?_) (fun hb h=>?_)
                 ·refine zAe<|zAa<|zAk<|zAC [124] [123] [1,4,6] rfl (by decide +kernel) ?_;obtain⟨⟨y42A,y42C,y42D,y42B⟩,hy42,h⟩:=zAc h;refine⟨_,⟨_,_,hy42,rfl,rfl⟩,?_⟩
                  intro r43 hr43;obtain rfl:Nd.encs [Nd.mk y42A y42C y42D y42B]=r43:=(hr43.trans zBD).symm;obtain⟨hq,h⟩:=zAx h
                  refine And.intro (show((Nd.encs l39).length+(Nd.encs [Nd.mk y42A y42C y42D y42B]).length) * 56<=140737488355328/\(Nd.encs l39).length+(Nd.encs [Nd.mk y42A y42C y42D y42B]).length<=9223372036854775807 from by simp only[length_append,length_cons,length_nil,length_map,rlen Nd.encs_eq]at hq ⊢; omega) ?_;show Tri ..
                  refine zAh (Le.rnq [(0,0),(1,1),(3,2)] [(2,nB a3),(3,pN a1A a1C a1D a1B),(4,.s (.pt [.sl 1 (iL a2I),.sl 1 (iL a2M)])),(6,.op 0 0),(10,.s (.pt [.sl 1 (iL y6E),.int .i64 y6F,.int .i64 y6Aq,.int .i64 y6Av,.str y6Aw,.int .i64 y6Ah,.sl 4 (Nd.encs y6Ar)])),(12,nI y6Ah),(13,.op 1 0),(14,nI x23),(15,nI x16),(16,nI x38)] [(0,.box 40 [.nl 8,.nl 1,.nl 1,.nl 1,.nl 1]),(1,.box 24 [nI 12,.s (.str []),nI x8,.orow 2]),(2,.row 24 4 (Nd.encs (l39++[Nd.mk y42A y42C y42D y42B])))] 3 (h2:=⟨rfl,⟨_,rfl,rfl⟩,rfl,⟨_,rfl,rfl⟩,rfl,⟨_,rfl,congrArg (Ob.row 24 4) zBD⟩,trivial⟩)) ?_
                  refine yCo ?_;refine⟨(k,i64.wrap (x38+1),l39++[Nd.mk y42A y42C y42D y42B]),h,(Le.rnq [(0,0),(1,1),(2,2)] _ _ _),Nat.lt_succ_self k⟩
                 ·refine zAD ?_;exact jS
             ·cases h;exact(Le.trans hle (Le.rnq [(0,0),(1,1),(2,2)] _ _ _))
         ·refine zAh hle<|yCo ?_;refine⟨(k,x21,i64.wrap (x16+1),l22),h,(Le.rnq [(0,0),(1,1),(2,2)] _ _ _),Nat.lt_succ_self k⟩
        ·refine zAD ?_;exact jS
     ·refine zAh hle<|zAa ?_
      refine zAh (Le.trans (Le.rnq [(0,0),(1,1),(2,2)] [(3,pN a1A a1C a1D a1B),(4,.s (.pt [.sl 1 (iL a2I),.sl 1 (iL a2M)])),(6,.op 0 0),(10,.s (.pt [.sl 1 (iL y6E),.int .i64 y6F,.int .i64 y6Aq,.int .i64 y6Av,.str y6Aw,.int .i64 y6Ah,.sl 4 (Nd.encs y6Ar)])),(13,.op 1 0),(14,nI x18)] [(0,.box 40 [.nl 8,.nl 1,.nl 1,.nl 1,.nl 1]),(1,.box 24 [nI 12,.s (.str []),nI x8,.orow 2]),(2,.row 24 4 (Nd.encs l19))] 3) (Le.giveRow 2 rfl)) ?_
      refine zAh (Le.trans (Le.rnq [(0,0),(1,1)] [(3,pN a1A a1C a1D a1B),(4,.s (.pt [.sl 1 (iL a2I),.sl 1 (iL a2M)])),(6,.op 0 0),(10,.s (.pt [.sl 1 (iL y6E),.int .i64 y6F,.int .i64 y6Aq,.int .i64 y6Av,.str y6Aw,.int .i64 y6Ah,.sl 4 (Nd.encs y6Ar)])),(13,.op 1 0),(14,nI x18)] [(0,.box 40 [.nl 8,.nl 1,.nl 1,.nl 1,.nl 1]),(1,.box 24 [nI 12,.s (.str []),nI x8,.s (.sl 4 (Nd.encs l19))])] 2) (Le.giveBox 1 [.int .i64 12,.str [],.int .i64 x8,.sl 4 (Nd.encs l19)] rfl rfl)) ?_
      refine zAb [] [132,139,141] rfl ?_;intro r44 hr44;obtain rfl:Nd.encs [Nd.mk y6Av y6Aw y6Ah y6Ar]=r44:=(hr44.trans zBD).symm;intro r45 hr45
      obtain rfl:Nd.encs [Nd.mk 12 [] x8 l19]=r45:=(hr45.trans zBD).symm;intro r46 hr46
      obtain rfl:(List.map zAl) [(2,y6E,y6F,0,[Nd.mk y6Av y6Aw y6Ah y6Ar],0,[],[]),(1,y6E,y6F,0,[Nd.mk 12 [] x8 l19],0,[],[])]=r46:=(hr46.trans zBD).symm;refine zAa ?_
      refine zAC [] [154,156,158] [21] rfl (by decide +kernel) ?_;intro n47 hn47;obtain rfl:=rlE (fun _=>rfl) a2I hn47;obtain⟨e48,he48,h⟩:=zAc h;refine And.intro (zAq (fun _=>rfl) he48).1 ?_;intro r49 hr49;obtain rfl:[.int .i64 e48]=r49:=(hr49.trans (zAq (fun _=>rfl) he48).2.1).symm;intro r50 hr50
      obtain rfl:iL [y6F,x18,e48]=r50:=(hr50.trans zBD).symm;obtain⟨y51,hy51,h⟩:=zAc h;refine⟨_,⟨_,_,_,hy51,rfl,rfl⟩,?_⟩
      obtain⟨⟨⟨y52N,⟨y52P,y52Q⟩,⟨y52R,y52S⟩⟩,y53⟩,hy52,h⟩:=zAc h;refine⟨_,⟨_,_,_,_,_,_,_,hy52,rfl,rfl⟩,?_⟩
      exact jA
def zXi:Prop:=∃ a0 a1 a2 y0 y1,zIJ n a0 a1 a2=some (y0,y1)/\xs=[.agg ((Nd.enc a0).map .s),.agg ((zAN a1).map .s),.agg ((zA6 a2).map .s)]/\r = .val (.tup [.agg ((zAi y0).map .s),nI y1])
def zSk:zAr:=pG zXi
theorem zWM:PSound prog 29 zSk:=by
 have gok:=gk1 zRl<|gk1 zTm<|gk1 zTo<|gk1 zUL<|gk1 zRm<|gk1 zTn<|gk1 zWN<|gk1 zUK<|gk0
 refine psq tokW call29 func29 rfl ?_;rintro xs r w0 G0 ⟨n,⟨a1A,a1C,a1D,a1B⟩,⟨a2I,a2M⟩,⟨a3A,a3Am,a3H,a3C,a3Be⟩,y0,y1,h,rfl,rfl⟩ _;rw[zIJ]at h;refine yBn [6] [] rfl ?_;refine zAa<|yCp ?_;refine zAk<|yCp ?_;refine zAf rfl h (fun hb h=>?_) (fun hb h=>?_)
 ·refine yCp ?_;obtain⟨⟨⟨y4N,⟨y4P,y4Q⟩,⟨y4R,y4S⟩⟩,y5⟩,hy4,h⟩:=zAc h;refine⟨_,⟨_,_,_,_,_,_,hy4,rfl,rfl⟩,?_⟩
  exact jA
 ·refine yCp ?_;refine zAf rfl h (fun hb h=>?_) (fun hb h=>?_)
  ·refine yCp ?_;obtain⟨⟨⟨y6N,⟨y6P,y6Q⟩,⟨y6R,y6S⟩⟩,y7⟩,hy6,h⟩:=zAc h;refine⟨_,⟨_,_,_,_,_,_,hy6,rfl,rfl⟩,?_⟩
   exact jA
  ·refine yCp ?_;refine zAf rfl h (fun hb h=>?_) (fun hb h=>?_)
   ·refine zAa<|zAC [] [] [10] rfl (by decide +kernel) ?_;obtain⟨⟨y8A,y8C,y8D,y8B⟩,hy8,h⟩:=zAc h;refine⟨_,⟨_,_,hy8,rfl,rfl⟩,?_⟩
    obtain⟨⟨⟨y9N,⟨y9P,y9Q⟩,⟨y9R,y9S⟩⟩,y10⟩,hy9,h⟩:=zAc h;refine⟨_,⟨_,_,_,_,_,_,_,hy9,rfl,rfl⟩,?_⟩
    exact jA
   ·refine yCp ?_;refine zAf rfl h (fun hb h=>?_) (fun hb h=>?_)
    ·refine yCp ?_;obtain⟨⟨⟨y11N,⟨y11P,y11Q⟩,⟨y11R,y11S⟩⟩,y12⟩,hy11,h⟩:=zAc h;refine⟨_,⟨_,_,_,_,_,hy11,rfl,rfl⟩,?_⟩
     exact jA
    ·refine yCp ?_;refine zAf rfl h (fun hb h=>?_) (fun hb h=>?_)
     ·refine yCp ?_;obtain⟨⟨⟨y13N,⟨y13P,y13Q⟩,⟨y13R,y13S⟩⟩,y14⟩,hy13,h⟩:=zAc h;refine⟨_,⟨_,_,_,_,_,hy13,rfl,rfl⟩,?_⟩
      exact jA
     ·refine yCp ?_;refine zAf rfl h (fun hb h=>?_) (fun hb h=>?_)
      ·refine yCp ?_;obtain⟨⟨⟨y15N,⟨y15P,y15Q⟩,⟨y15R,y15S⟩⟩,y16⟩,hy15,h⟩:=zAc h;refine⟨_,⟨_,_,_,_,_,_,hy15,rfl,rfl⟩,?_⟩
       exact jA
      ·refine yCp ?_;refine zAf rfl h (fun hb h=>?_) (fun hb h=>?_)
       ·refine yCp ?_;obtain⟨⟨⟨y17N,⟨y17P,y17Q⟩,⟨y17R,y17S⟩⟩,y18⟩,hy17,h⟩:=zAc h;refine⟨_,⟨_,_,_,_,_,_,hy17,rfl,rfl⟩,?_⟩
        exact jA
       ·refine zAe<|yCp ?_;exact jA
def zV0:Prop:=∃ a0 y0,zI7 n a0=some y0/\xs=[.s (.sl 8 ((List.map zAl) a0))]/\r = .row 76 8 ((List.map zAl) y0)
def zPh:zAr:=pG zV0
theorem zUB:PSound prog 103 zPh:=by
 have gok:=gk1 zPP<|gk0
 refine psq tokW call103 func103 rfl ?_;rintro xs r w0 G0 ⟨n,l1,y0,h,rfl,rfl⟩ _;rw[zI7]at h;refine yBn [2] [] rfl ?_;refine zAh (Le.rnq [] [(0,.s (.sl 8 ((List.map zAl) l1)))] [] 0)<|yBn [3] [] rfl ?_;show Tri ..
 refine zAh (Le.rnq [(0,0)] [(0,.s (.sl 8 ((List.map zAl) l1))),(3,.orow 0)] [(0,.row 76 8 ((List.map zAl) []))] 1 (h2:=⟨rfl,⟨_,rfl,congrArg (Ob.row 76 8) zBD⟩,trivial⟩))<|zAa<|yBn [] [7] rfl ?_;intro n2 hn2
 obtain rfl:=rlE (fun _=>rfl) l1 hn2;show Tri ..;obtain⟨l6,hl,h⟩:=zAc h;refine zAm ⟨ofL [(3,.orow 0)],ofH [(0,.row 76 8 ((List.map zAl) l6))],1⟩ ?_ (fun σ' hle=>?_)
 ·refine zAk (zAA (X:=Nat×Int×(List zO8)) (fun y=>match y with | (k,x4,l5)=>⟨ofL [(3,.orow 0),(6,.s (.sl 8 ((List.map zAl) l1))),(7,nI (l1.length:Int)),(8,nI x4)],ofH [(0,.row 76 8 ((List.map zAl) l5))],1⟩) (fun y=>zDb n l1 y.1 y.2.1 y.2.2=some l6) (fun y=>y.1) (n,0,[]) hl ?_ ?_)
  ·exact kR
  ·rintro⟨k,x4,l5⟩ h;cases k with
   | zero=>cases h
   | succ k =>
    replace h:zDb n l1 (k+1) x4 l5=some l6:=h;rw[zDb]at h;refine yCp ?_;refine zAa<|zAf rfl h (fun hb h=>?_) (fun hb h=>?_)
    ·refine zAe<|zAa<|zAk<|yBn [5] [10] rfl ?_;obtain⟨⟨e7A,e7E,e7F,e7K,e7G,e7H,e7L,e7C⟩,he7,h⟩:=zAc h;refine And.intro (zAq (fun _=>rfl) he7).1 ?_;intro r8 hr8;obtain rfl:[.int .i64 e7A,.sl 1 (iL e7E),.int .i64 e7F,.int .i64 e7K,.sl 4 (Nd.encs e7G),.int .i64 e7H,.str e7L,.str e7C]=r8:=(hr8.trans (zAq (fun _=>rfl) he7).2.1).symm;show Tri ..
     refine zAh (Le.giveBox 1 [.int .i64 e7A,.sl 1 (iL e7E),.int .i64 e7F,.int .i64 e7K,.sl 4 (Nd.encs e7G),.int .i64 e7H,.str e7L,.str e7C] rfl rfl)<|zAb [16] [15] rfl ?_;obtain⟨⟨y9A,y9E,y9F,y9K,y9G,y9H,y9L,y9C⟩,hy9,h⟩:=zAc h;refine⟨_,⟨_,_,_,hy9,rfl,rfl⟩,?_⟩
     intro r10 hr10;obtain rfl:(List.map zAl) [(y9A,y9E,y9F,y9K,y9G,y9H,y9L,y9C)]=r10:=(hr10.trans zBD).symm;obtain⟨hq,h⟩:=zAx h
     refine And.intro (show(((List.map zAl) l5).length+((List.map zAl) [(y9A,y9E,y9F,y9K,y9G,y9H,y9L,y9C)]).length) * 112<=140737488355328/\((List.map zAl) l5).length+((List.map zAl) [(y9A,y9E,y9F,y9K,y9G,y9H,y9L,y9C)]).length<=9223372036854775807 from by simp only[length_append,length_cons,length_nil,length_map,rlen (fun _=>rfl)]at hq ⊢; omega) ?_;show Tri ..
     refine zAh (Le.rnq [(2,0)] [(3,.orow 0),(6,.s (.sl 8 ((List.map zAl) l1))),(7,nI (l1.length:Int)),(8,nI x4)] [(0,.row 76 8 ((List.map zAl) (l5++[(y9A,y9E,y9F,y9K,y9G,y9H,y9L,y9C)])))] 1 (h2:=⟨rfl,⟨_,rfl,congrArg (Ob.row 76 8) zBD⟩,trivial⟩)) ?_
     refine yCo ?_;refine⟨(k,i64.wrap (x4+1),l5++[(y9A,y9E,y9F,y9K,y9G,y9H,y9L,y9C)]),h,(Le.rnq [(0,0)] _ _ _),Nat.lt_succ_self k⟩
    ·refine zAD ?_;exact jC
 ·exact kH
def zQc (xs:List AV) (r:Ret):Prop:=∃ a0 y0,zCE a0=some y0/\xs=[.agg ((zAN a0).map .s)]/\r = .val (.agg ((zAN y0).map .s))
def zKt:zAr:=zAu fun xs r=>zQc xs r
theorem zOW:PSound prog 44 zKt:=by
 have gok:=gk1 zMq<|gk0
 refine psq tokW call44 func44 rfl ?_;rintro xs r w0 G0 ⟨⟨c1I,c1M⟩,y0,h,rfl,rfl⟩ _;rw[zCE]at h;refine yBn [2] [] rfl ?_;refine zAa<|zAC [] [] [7] rfl (by decide +kernel) ?_;obtain⟨y2,hy2,h⟩:=zAc h;refine⟨_,⟨_,_,hy2,rfl,rfl⟩,?_⟩
 obtain⟨y3,hy3,h⟩:=zAc h;refine⟨_,⟨_,_,hy3,rfl,rfl⟩,?_⟩
 exact jM
def zQd:Prop:=∃ a0 y0,zDc n a0=some y0/\xs=[.agg ((zAi a0).map .s)]/\r = .val (.agg ((zAi y0).map .s))
def zHG:zAr:=pG zQd
theorem zJL:PSound prog 59 zHG:=by
 have gok:=gk1 zUB<|gk1 zOW<|gk0
 refine psq tokW call59 func59 rfl ?_;rintro xs r w0 G0 ⟨n,⟨r1N,⟨r1P,r1Q⟩,⟨r1R,r1S⟩⟩,y0,h,rfl,rfl⟩ _;rw[zDc]at h;refine yBn [2] [] rfl ?_;refine zAa<|zAC [] [] [10] rfl (by decide +kernel) ?_;obtain⟨y2,hy2,h⟩:=zAc h;refine⟨_,⟨_,_,_,hy2,rfl,rfl⟩,?_⟩
 obtain⟨⟨y3I,y3M⟩,hy3,h⟩:=zAc h;refine⟨_,⟨_,_,hy3,rfl,rfl⟩,?_⟩
 obtain⟨⟨y4I,y4M⟩,hy4,h⟩:=zAc h;refine⟨_,⟨_,_,hy4,rfl,rfl⟩,?_⟩
 exact jM
def zJl (n:Nat) (xs:List AV) (os:List Ob) (x:AV) (os':List (Option Ob)):Prop:=∃ (a0Z:Int) (a0Aa:List UInt8) (a0Ab:Int) (a0Ac:List Nd) (a0Ad:Int) (a0Ae:List UInt8) (a0Af:Int) (a0Ag:List Nd) (a0W:List zRc) (a0T:Int) (a1:zRc) (y0:Int) (z0Z:Int) (z0Aa:List UInt8) (z0Ab:Int) (z0Ac:List Nd) (z0Ad:Int) (z0Ae:List UInt8) (z0Af:Int) (z0Ag:List Nd) (z0W:List zRc) (z0T:Int),zBk n (Nd.mk a0Z a0Aa a0Ab a0Ac,Nd.mk a0Ad a0Ae a0Af a0Ag,a0W,a0T) a1=some (y0,(Nd.mk z0Z z0Aa z0Ab z0Ac,Nd.mk z0Ad z0Ae z0Af z0Ag,z0W,z0T))/\xs=[.op 0 0,.agg ((zAi a1).map .s)]/\os=[.box 68 [nI a0Z,nS a0Aa,nI a0Ab,.s (.sl 4 (Nd.encs a0Ac)),nI a0Ad,nS a0Ae,nI a0Af,.s (.sl 4 (Nd.encs a0Ag)),.orow 1,nI a0T],.row 40 5 ((List.map zAi) a0W)]/\x = .s (.int .i64 y0)/\os'=[some (.box 68 [nI z0Z,nS z0Aa,nI z0Ab,.s (.sl 4 (Nd.encs z0Ac)),nI z0Ad,nS z0Ae,nI z0Af,.s (.sl 4 (Nd.encs z0Ag)),.orow 2,nI z0T]),none,some (.row 40 5 ((List.map zAi) z0W))]
def zFX:zAr:=zEA (fun xs os x os'=>∃ n,zJl n xs os x os')
theorem zIQ:PSound prog 30 zFX:=by
 have gok:=gk1 zMK<|gk1 zJL<|gk0
 refine PSound.withNil (osq tokW call30 func30 rfl ?_) _;rintro xs os x os' w0 G0 B0 ⟨n,o1Z,o1Aa,o1Ab,o1Ac,o1Ad,o1Ae,o1Af,o1Ag,o1W,o1T,⟨r2N,⟨r2P,r2Q⟩,⟨r2R,r2S⟩⟩,y0,z0Z,z0Aa,z0Ab,z0Ac,z0Ad,z0Ae,z0Af,z0Ag,z0W,z0T,h,rfl,rfl,rfl,rfl⟩ _;rw[zBk]at h;refine yCp ?_;refine zAa<|yCp ?_;show Tri ..
 refine zAI rfl (fun h=>by cases h) (fun _=>?_)
 refine zAe<|zAa<|zEd [5] [] [3,11,12] [3] rfl (by decide +kernel) ?_;obtain⟨⟨⟨y3A,y3C,y3D,y3B⟩,y4,y5⟩,hy3,h⟩:=zAc h;refine⟨_,⟨_,_,_,_,_,_,hy3,rfl,rfl⟩,?_⟩
 refine zAh (Le.giveBox 2 (nN y3A y3C y3D y3B) rfl rfl)<|zAa<|yCp ?_;refine zAf rfl h (fun hb h=>?_) (fun hb h=>?_)
 ·refine yCp ?_;refine zAd ?_;have hj0:=osi h;obtain⟨hv0,hw0⟩:=Prod.mk.inj hj0;subst hv0;obtain⟨he1Ao,hr1Ao⟩:=Prod.mk.inj hw0;obtain⟨he1Ap,hr1Ap⟩:=Prod.mk.inj hr1Ao;obtain⟨he1At,he1Au⟩:=Prod.mk.inj hr1Ap;obtain⟨he2Ao,he2Ap,he2At,he2Au⟩:=Nd.mk.inj he1Ao;subst he2Ao;subst he2Ap;subst he2At;subst he2Au;obtain⟨he3Ao,he3Ap,he3At,he3Au⟩:=Nd.mk.inj he1Ap;subst he3Ao;subst he3Ap;subst he3At;subst he3Au;subst he1At;subst he1Au;unfold zDz
  exact⟨_,(Le.rnq [(0,0),(1,2)] [(4,nI y5)] [(0,.box 68 [nI o1Z,nS o1Aa,nI o1Ab,.s (.sl 4 (Nd.encs o1Ac)),nI o1Ad,nS o1Ae,nI o1Af,.s (.sl 4 (Nd.encs o1Ag)),.orow 2,nI o1T]),(2,.row 40 5 ((List.map zAi) o1W))] 3),rfl,rfl,rfl,rfl,rfl,rfl,trivial⟩
 ·refine zAe<|zAa<|yCp ?_;refine zAf rfl h (fun hb h=>?_) (fun hb h=>?_)
  ·refine yCp ?_;refine zAd ?_;have hj0:=osi h;obtain⟨hv0,hw0⟩:=Prod.mk.inj hj0;subst hv0;obtain⟨he1Ao,hr1Ao⟩:=Prod.mk.inj hw0;obtain⟨he1Ap,hr1Ap⟩:=Prod.mk.inj hr1Ao;obtain⟨he1At,he1Au⟩:=Prod.mk.inj hr1Ap;obtain⟨he2Ao,he2Ap,he2At,he2Au⟩:=Nd.mk.inj he1Ao;subst he2Ao;subst he2Ap;subst he2At;subst he2Au;obtain⟨he3Ao,he3Ap,he3At,he3Au⟩:=Nd.mk.inj he1Ap;subst he3Ao;subst he3Ap;subst he3At;subst he3Au;subst he1At;subst he1Au;unfold zDz
   exact⟨_,(Le.rnq [(0,0),(1,2)] [(4,nI 6)] [(0,.box 68 [nI o1Z,nS o1Aa,nI o1Ab,.s (.sl 4 (Nd.encs o1Ac)),nI o1Ad,nS o1Ae,nI o1Af,.s (.sl 4 (Nd.encs o1Ag)),.orow 2,nI o1T]),(2,.row 40 5 ((List.map zAi) o1W))] 3),rfl,rfl,rfl,rfl,rfl,rfl,trivial⟩
  ·refine zAe<|zAa<|zAC [38,42] [41] [4,8,9,13,16] rfl (by decide +kernel) ?_;obtain⟨hq,h⟩:=zAx h;refine And.intro ⟨hq.1,Int.le_trans hq.2 (Int.ofNat_le.2 (Nat.le_of_eq (rlen (fun _=>rfl) _).symm))⟩ ?_;obtain⟨⟨y6N,⟨y6P,y6Q⟩,⟨y6R,y6S⟩⟩,hy6,h⟩:=zAc h;refine⟨_,⟨_,_,_,hy6,rfl,rfl⟩,?_⟩
   intro r7 hr7;obtain rfl:(List.map zAi) [(y6N,(y6P,y6Q),(y6R,y6S))]=r7:=(hr7.trans zBD).symm;obtain⟨hq,h⟩:=zAx h
   refine And.intro (show(((((List.map zAi) o1W)).take o1T.toNat).length+((List.map zAi) [(y6N,(y6P,y6Q),(y6R,y6S))]).length) * 120<=140737488355328/\((((List.map zAi) o1W)).take o1T.toNat).length+((List.map zAi) [(y6N,(y6P,y6Q),(y6R,y6S))]).length<=9223372036854775807 from by simp only[length_append,length_cons,length_nil,length_map,length_take,rlen (fun _=>rfl)]at hq ⊢; omega) ?_;show Tri ..
   refine zAh (Le.rnq [(0,0),(4,2)] [(0,.op 0 0),(5,pN y3A y3C y3D y3B)] [(0,.box 68 [nI o1Z,nS o1Aa,nI o1Ab,.s (.sl 4 (Nd.encs o1Ac)),nI o1Ad,nS o1Ae,nI o1Af,.s (.sl 4 (Nd.encs o1Ag)),.orow 2,nI o1T]),(2,.row 40 5 ((List.map zAi) ((o1W.take o1T.toNat)++[(y6N,(y6P,y6Q),(y6R,y6S))])))] 3 (h2:=⟨rfl,⟨_,rfl,rfl⟩,rfl,⟨_,rfl,congrArg (Ob.row 40 5) zBD⟩,trivial⟩)) ?_
   refine zAa<|zAC [] [] [6,10,13] rfl (by decide +kernel) ?_;refine yCp ?_;refine zAd ?_;have hj0:=osi h;obtain⟨hv0,hw0⟩:=Prod.mk.inj hj0;subst hv0;obtain⟨he1Ao,hr1Ao⟩:=Prod.mk.inj hw0;obtain⟨he1Ap,hr1Ap⟩:=Prod.mk.inj hr1Ao;obtain⟨he1At,he1Au⟩:=Prod.mk.inj hr1Ap;obtain⟨he2Ao,he2Ap,he2At,he2Au⟩:=Nd.mk.inj he1Ao;subst he2Ao;subst he2Ap;subst he2At;subst he2Au;obtain⟨he3Ao,he3Ap,he3At,he3Au⟩:=Nd.mk.inj he1Ap;subst he3Ao;subst he3Ap;subst he3At;subst he3Au;subst he1At;subst he1Au;unfold zDz
   exact⟨_,(Le.rnq [(0,0),(2,2)] [(4,nI 0)] [(0,.box 68 [nI o1Z,nS o1Aa,nI o1Ab,.s (.sl 4 (Nd.encs o1Ac)),nI y3A,nS y3C,nI y3D,.s (.sl 4 (Nd.encs y3B)),.orow 2,.s (.int .i64 (i64.wrap (o1T+1)))]),(2,.row 40 5 ((List.map zAi) ((o1W.take o1T.toNat)++[(y6N,(y6P,y6Q),(y6R,y6S))])))] 3),rfl,rfl,rfl,rfl,rfl,rfl,trivial⟩
def zOP (n:Nat) (xs:List AV) (os:List Ob) (x:AV) (os':List (Option Ob)):Prop:=∃ (a0Z:Int) (a0Aa:List UInt8) (a0Ab:Int) (a0Ac:List Nd) (a0Ad:Int) (a0Ae:List UInt8) (a0Af:Int) (a0Ag:List Nd) (a0W:List zRc) (a0T:Int) (a1:List ((Int×List Nd×Int×List UInt8×Bool)×Int×Int)) (y0:Bool) (z0Z:Int) (z0Aa:List UInt8) (z0Ab:Int) (z0Ac:List Nd) (z0Ad:Int) (z0Ae:List UInt8) (z0Af:Int) (z0Ag:List Nd) (z0W:List zRc) (z0T:Int),zFr n (Nd.mk a0Z a0Aa a0Ab a0Ac,Nd.mk a0Ad a0Ae a0Af a0Ag,a0W,a0T) a1=some (y0,(Nd.mk z0Z z0Aa z0Ab z0Ac,Nd.mk z0Ad z0Ae z0Af z0Ag,z0W,z0T))/\xs=[.op 0 0,.s (.sl 7 ((List.map zAo) a1))]/\os=[.box 68 [nI a0Z,nS a0Aa,nI a0Ab,.s (.sl 4 (Nd.encs a0Ac)),nI a0Ad,nS a0Ae,nI a0Af,.s (.sl 4 (Nd.encs a0Ag)),.orow 1,nI a0T],.row 40 5 ((List.map zAi) a0W)]/\x = .s (.bool y0)/\os'=[some (.box 68 [nI z0Z,nS z0Aa,nI z0Ab,.s (.sl 4 (Nd.encs z0Ac)),nI z0Ad,nS z0Ae,nI z0Af,.s (.sl 4 (Nd.encs z0Ag)),.orow 2,nI z0T]),none,some (.row 40 5 ((List.map zAi) z0W))]
def zJD:zAr:=zEA (fun xs os x os'=>∃ n,zOP n xs os x os')
theorem zN8:PSound prog 8 zJD:=by
 have gok:=gk1 zE3<|gk1 zJc<|gk1 zWM<|gk1 zIQ<|gk0
 refine PSound.withNil (osq tokW call8 func8 rfl ?_) _;rintro xs os x os' w0 G0 B0 ⟨n,o1Z,o1Aa,o1Ab,o1Ac,o1Ad,o1Ae,o1Af,o1Ag,o1W,o1T,a2,y0,z0Z,z0Aa,z0Ab,z0Ac,z0Ad,z0Ae,z0Af,z0Ag,z0W,z0T,h,rfl,rfl,rfl,rfl⟩ _;rw[zFr]at h;refine yCp ?_;refine zAa<|yBn [] [14] rfl ?_;intro n3 hn3;obtain rfl:=rlE (fun _=>rfl) a2 hn3;show Tri ..;obtain⟨fl,hl,ho1⟩:=zAc h
 refine zB3 (fl:=fl) (fun z=>match z with | ⟨x16,x17,x18,x19,x20,x21,x22,x23,x24,l25⟩=>⟨ofL [],ofH [(0,.box 68 [nI x16,nS x17,nI x18,.s (.sl 4 (Nd.encs x19)),nI x20,nS x21,nI x22,.s (.sl 4 (Nd.encs x23)),.orow 2,nI x24]),(2,.row 40 5 ((List.map zAi) l25))],3⟩) ?_ (fun z σ' hz hle=>?_)
 ·refine zAk (zAA (X:=Nat×Int×(List UInt8)×Int×(List Nd)×Int×(List UInt8)×Int×(List Nd)×Int×Int×(List zRc)) (fun y=>match y with | (k,x4,x5,x6,x7,x8,x9,x10,x11,x13,x14,l15)=>⟨ofL [(0,.op 0 0),(13,.s (.sl 7 ((List.map zAo) a2))),(14,nI (a2.length:Int)),(15,nI x14)],ofH [(0,.box 68 [nI x4,nS x5,nI x6,.s (.sl 4 (Nd.encs x7)),nI x8,nS x9,nI x10,.s (.sl 4 (Nd.encs x11)),.orow 2,nI x13]),(2,.row 40 5 ((List.map zAi) l15))],3⟩) (fun y=>zBP n a2 y.1 y.2.1 y.2.2.1 y.2.2.2.1 y.2.2.2.2.1 y.2.2.2.2.2.1 y.2.2.2.2.2.2.1 y.2.2.2.2.2.2.2.1 y.2.2.2.2.2.2.2.2.1 y.2.2.2.2.2.2.2.2.2.1 y.2.2.2.2.2.2.2.2.2.2.1 y.2.2.2.2.2.2.2.2.2.2.2=some fl) (fun y=>y.1) (n,o1Z,o1Aa,o1Ab,o1Ac,o1Ad,o1Ae,o1Af,o1Ag,o1T,0,o1W) hl ?_ ?_)
  ·exact(Le.rnq [(0,0),(1,2)] _ _ _)
  ·rintro⟨k,x4,x5,x6,x7,x8,x9,x10,x11,x13,x14,l15⟩ h;cases k with
   | zero=>cases h
   | succ k =>
    replace h:zBP n a2 (k+1) x4 x5 x6 x7 x8 x9 x10 x11 x13 x14 l15=some fl:=h;rw[zBP]at h;refine yCp ?_;refine zAa<|zAf rfl h (fun hb h=>?_) (fun hb h=>?_)
    ·refine zAe<|zAa<|zAk<|yBn [6] [17] rfl ?_;obtain⟨⟨⟨e26Ba,e26Az,e26Bb,e26Bc,e26Bd⟩,e26I,e26M⟩,he26,h⟩:=zAc h;refine And.intro (zAq (fun _=>rfl) he26).1 ?_;intro r27 hr27;obtain rfl:[.int .i64 e26Ba,.sl 4 (Nd.encs e26Az),.int .i64 e26Bb,.str e26Bc,.bool e26Bd,.int .u8 e26I,.int .u8 e26M]=r27:=(hr27.trans (zAq (fun _=>rfl) he26).2.1).symm;show Tri ..
     refine zAh (Le.giveBox 3 [.int .i64 e26Ba,.sl 4 (Nd.encs e26Az),.int .i64 e26Bb,.str e26Bc,.bool e26Bd,.int .u8 e26I,.int .u8 e26M] rfl rfl)<|yBn [7] [] rfl ?_;obtain⟨⟨⟨y28A,y28C,y28D,y28B⟩,⟨⟨w29Z,w29Aa,w29Ab,w29Ac⟩,⟨w29Ad,w29Ae,w29Af,w29Ag⟩,w29W,w29T⟩⟩,hy28,h⟩:=zAc h;refine⟨_,_,⟨_,_,_,_,_,_,_,_,_,_,_,_,_,_,_,_,_,_,_,_,_,hy28,rfl,rfl,rfl,rfl⟩,?_⟩
     refine zAh (Le.giveBox 5 (nN y28A y28C y28D y28B) rfl rfl)<|yCp ?_;obtain⟨⟨y30,y31⟩,hy30,h⟩:=zAc h;refine⟨_,⟨_,_,_,_,hy30,rfl,rfl⟩,?_⟩
     refine zAa<|yBn [] [27] rfl ?_;intro n32 hn32;obtain rfl:=rlE (fun _=>rfl) y30 hn32;refine zAf rfl h (fun hb h=>?_) (fun hb h=>?_)
     ·refine yCp ?_;refine zAd ?_;cases h;replace h:some _=some _:=ho1;have hj0:=osi h;obtain⟨hv0,hw0⟩:=Prod.mk.inj hj0;subst hv0;obtain⟨he1Ao,hr1Ao⟩:=Prod.mk.inj hw0;obtain⟨he1Ap,hr1Ap⟩:=Prod.mk.inj hr1Ao;obtain⟨he1At,he1Au⟩:=Prod.mk.inj hr1Ap;obtain⟨he2Ao,he2Ap,he2At,he2Au⟩:=Nd.mk.inj he1Ao;subst he2Ao;subst he2Ap;subst he2At;subst he2Au;obtain⟨he3Ao,he3Ap,he3At,he3Au⟩:=Nd.mk.inj he1Ap;subst he3Ao;subst he3Ap;subst he3At;subst he3Au;subst he1At;subst he1Au;unfold zDz
      exact⟨_,(Le.rnq [(0,0),(4,2)] [(4,nB false)] [(0,.box 68 [nI w29Z,nS w29Aa,nI w29Ab,.s (.sl 4 (Nd.encs w29Ac)),nI w29Ad,nS w29Ae,nI w29Af,.s (.sl 4 (Nd.encs w29Ag)),.orow 2,nI w29T]),(2,.row 40 5 ((List.map zAi) w29W))] 3),rfl,rfl,rfl,rfl,rfl,rfl,trivial⟩
     ·refine zAe<|zAa<|zEd [10] [34,36,43,45] [19,20] [] rfl (by decide +kernel) ?_;intro n33 hn33;obtain rfl:=rlE (fun _=>rfl) y30 hn33;obtain⟨hq,h⟩:=zAx h;refine And.intro hq ?_;obtain⟨e34,he34,h⟩:=zAc h;refine And.intro (zAq (fun _=>rfl) he34).1 ?_;intro r35 hr35;obtain rfl:[.sl 1 (iL e34)]=r35:=(hr35.trans (zAq (fun _=>rfl) he34).2.1).symm;intro n36 hn36;obtain rfl:=rlE (fun _=>rfl) y30 hn36;obtain⟨hq,h⟩:=zAx h;refine And.intro hq ?_;obtain⟨e37,he37,h⟩:=zAc h;refine And.intro (zAq (fun _=>rfl) he37).1 ?_;intro r38 hr38
      obtain rfl:[.sl 1 (iL e37)]=r38:=(hr38.trans (zAq (fun _=>rfl) he37).2.1).symm;refine zAh (Le.giveBox 6 [.sl 1 (iL e34),.sl 1 (iL e37)] rfl rfl)<|yBn [11] [] rfl ?_;obtain⟨⟨⟨y39N,⟨y39P,y39Q⟩,⟨y39R,y39S⟩⟩,y40⟩,hy39,h⟩:=zAc h;refine⟨_,⟨_,_,_,_,_,_,hy39,rfl,rfl⟩,?_⟩
      refine zAh (Le.giveBox 7 [.sl 8 ((List.map zAl) y39N),.sl 1 (iL y39P),.sl 1 (iL y39Q),.sl 1 (iL y39R),.sl 1 (iL y39S)] rfl rfl)<|zAa ?_;obtain⟨⟨x41,x42,x43,x44,x45,x46,x47,x48,x49,x50,l51⟩,hj,h⟩:=zAc h
      refine zAm ⟨ofL [(0,.op 0 0),(13,.s (.sl 7 ((List.map zAo) a2))),(14,nI (a2.length:Int)),(15,nI x14),(63,nB x41)],ofH [(0,.box 68 [nI x42,nS x43,nI x44,.s (.sl 4 (Nd.encs x45)),nI x46,nS x47,nI x48,.s (.sl 4 (Nd.encs x49)),.orow 2,nI x50]),(2,.row 40 5 ((List.map zAi) l51))],3⟩ ?_ (fun σ' hle=>?_)
      ·replace h:=hj;refine zAb [] [58] rfl ?_;intro b hb;cases b with
       | true =>
        replace h:=zAw hb.symm h;obtain⟨⟨y52,⟨⟨w53Z,w53Aa,w53Ab,w53Ac⟩,⟨w53Ad,w53Ae,w53Af,w53Ag⟩,w53W,w53T⟩⟩,hy52,h⟩:=zAc h;refine⟨_,_,⟨_,_,_,_,_,_,_,_,_,_,_,_,_,_,_,_,_,_,_,_,_,_,_,hy52,rfl,rfl,rfl,rfl⟩,?_⟩
        cases h;exact(Le.rnq [(0,0),(8,2)] _ _ _)
       | false =>
        replace h:=zAv hb.symm h;cases h;exact(Le.rnq [(0,0),(4,2)] _ _ _)
      ·refine zAh hle<|zAf rfl h (fun hb h=>?_) (fun hb h=>?_)
       ·refine yCp ?_;refine zAd ?_;cases h;replace h:some _=some _:=ho1;have hj0:=osi h;obtain⟨hv0,hw0⟩:=Prod.mk.inj hj0;subst hv0;obtain⟨he1Ao,hr1Ao⟩:=Prod.mk.inj hw0;obtain⟨he1Ap,hr1Ap⟩:=Prod.mk.inj hr1Ao;obtain⟨he1At,he1Au⟩:=Prod.mk.inj hr1Ap;obtain⟨he2Ao,he2Ap,he2At,he2Au⟩:=Nd.mk.inj he1Ao;subst he2Ao;subst he2Ap;subst he2At;subst he2Au;obtain⟨he3Ao,he3Ap,he3At,he3Au⟩:=Nd.mk.inj he1Ap;subst he3Ao;subst he3Ap;subst he3At;subst he3Au;subst he1At;subst he1Au;unfold zDz
        exact⟨_,(Le.rnq [(0,0),(2,2)] [(4,nB false)] [(0,.box 68 [nI x42,nS x43,nI x44,.s (.sl 4 (Nd.encs x45)),nI x46,nS x47,nI x48,.s (.sl 4 (Nd.encs x49)),.orow 2,nI x50]),(2,.row 40 5 ((List.map zAi) l51))] 3),rfl,rfl,rfl,rfl,rfl,rfl,trivial⟩
       ·refine zAe<|yCo ?_;refine⟨(k,x42,x43,x44,x45,x46,x47,x48,x49,x50,i64.wrap (x14+1),l51),h,(Le.rnq [(0,0),(2,2)] _ _ _),Nat.lt_succ_self k⟩
    ·refine zAD ?_;cases h;exact⟨_,rfl,(Le.rnq [(0,0),(2,2)] _ _ _)⟩
 ·subst hz;obtain⟨x16,x17,x18,x19,x20,x21,x22,x23,x24,l25⟩:=z;replace h:=ho1;refine zAh hle<|yCp ?_;refine zAd ?_;have hj0:=osi h;obtain⟨hv0,hw0⟩:=Prod.mk.inj hj0;subst hv0;obtain⟨he1Ao,hr1Ao⟩:=Prod.mk.inj hw0;obtain⟨he1Ap,hr1Ap⟩:=Prod.mk.inj hr1Ao;obtain⟨he1At,he1Au⟩:=Prod.mk.inj hr1Ap;obtain⟨he2Ao,he2Ap,he2At,he2Au⟩:=Nd.mk.inj he1Ao;subst he2Ao;subst he2Ap;subst he2At;subst he2Au;obtain⟨he3Ao,he3Ap,he3At,he3Au⟩:=Nd.mk.inj he1Ap;subst he3Ao;subst he3Ap;subst he3At;subst he3Au;subst he1At;subst he1Au;unfold zDz
  exact⟨_,(Le.rnq [(0,0),(2,2)] [(4,nB true)] [(0,.box 68 [nI x16,nS x17,nI x18,.s (.sl 4 (Nd.encs x19)),nI x20,nS x21,nI x22,.s (.sl 4 (Nd.encs x23)),.orow 2,nI x24]),(2,.row 40 5 ((List.map zAi) l25))] 3),rfl,rfl,rfl,rfl,rfl,rfl,trivial⟩
def zKm (n:Nat) (xs:List AV) (os:List Ob) (x:AV) (os':List (Option Ob)):Prop:=∃ a0 y0,zDB n a0=some y0/\xs=[.orow 0]/\os=[.row 40 5 ((List.map zAi) a0)]/\x = .orow 1/\os'=[some (.row 40 5 ((List.map zAi) a0)),some (.row 40 5 ((List.map zAi) y0))]
def zGR:zAr:=zEA (fun xs os x os'=>∃ n,zKm n xs os x os')
theorem zKa:PSound prog 31 zGR:=by
 have gok:=gk1 zJL<|gk0
 refine PSound.withNil (osq tokW call31 func31 rfl ?_) _;rintro xs os x os' w0 G0 B0 ⟨n,o1,y0,h,rfl,rfl,rfl,rfl⟩ _;rw[zDB]at h;refine yBn [2] [] rfl ?_;refine zAh (Le.rnq [(0,0)] [(0,.orow 0)] [(0,.row 40 5 ((List.map zAi) o1))] 1)<|yBn [3] [] rfl ?_;show Tri ..
 refine zAh (Le.rnq [(0,0),(1,1)] [(0,.orow 0),(3,.orow 1)] [(0,.row 40 5 ((List.map zAi) o1)),(1,.row 40 5 ((List.map zAi) []))] 2 (h2:=⟨rfl,⟨_,rfl,rfl⟩,rfl,⟨_,rfl,congrArg (Ob.row 40 5) zBD⟩,trivial⟩))<|zAa<|zAa ?_
 refine zAb [] [7] rfl ?_;intro n2 hn2;obtain rfl:=rlE (fun _=>rfl) o1 hn2;show Tri ..;obtain⟨l6,hl,h⟩:=zAc h;refine zAm ⟨ofL [(3,.orow 1)],ofH [(0,.row 40 5 ((List.map zAi) o1)),(1,.row 40 5 ((List.map zAi) l6))],2⟩ ?_ (fun σ' hle=>?_)
 ·refine zAk (zAA (X:=Nat×Int×(List zRc)) (fun y=>match y with | (k,x4,l5)=>⟨ofL [(3,.orow 1),(6,.orow 0),(7,nI (o1.length:Int)),(8,nI x4)],ofH [(0,.row 40 5 ((List.map zAi) o1)),(1,.row 40 5 ((List.map zAi) l5))],2⟩) (fun y=>zBe n o1 y.1 y.2.1 y.2.2=some l6) (fun y=>y.1) (n,0,[]) hl ?_ ?_)
  ·exact kS
  ·rintro⟨k,x4,l5⟩ h;cases k with
   | zero=>cases h
   | succ k =>
    replace h:zBe n o1 (k+1) x4 l5=some l6:=h;rw[zBe]at h;refine yCp ?_;refine zAa<|zAf rfl h (fun hb h=>?_) (fun hb h=>?_)
    ·refine zAe<|zAa<|zAk<|yBn [5] [] rfl ?_;obtain⟨⟨e7N,⟨e7P,e7Q⟩,⟨e7R,e7S⟩⟩,he7,h⟩:=zAc h;refine And.intro (zAq (fun _=>rfl) he7).1 ?_;refine And.intro (zAq (fun _=>rfl) he7).2.2 ?_;refine⟨_,(zAq (fun _=>rfl) he7).2.1,?_⟩
     refine zAh (Le.giveBox 2 [.sl 8 ((List.map zAl) e7N),.sl 1 (iL e7P),.sl 1 (iL e7Q),.sl 1 (iL e7R),.sl 1 (iL e7S)] rfl rfl)<|zAb [16] [15] rfl ?_;obtain⟨⟨y8N,⟨y8P,y8Q⟩,⟨y8R,y8S⟩⟩,hy8,h⟩:=zAc h;refine⟨_,⟨_,_,_,hy8,rfl,rfl⟩,?_⟩
     intro r9 hr9;obtain rfl:(List.map zAi) [(y8N,(y8P,y8Q),(y8R,y8S))]=r9:=(hr9.trans zBD).symm;obtain⟨hq,h⟩:=zAx h
     refine And.intro (show(((List.map zAi) l5).length+((List.map zAi) [(y8N,(y8P,y8Q),(y8R,y8S))]).length) * 120<=140737488355328/\((List.map zAi) l5).length+((List.map zAi) [(y8N,(y8P,y8Q),(y8R,y8S))]).length<=9223372036854775807 from by simp only[length_append,length_cons,length_nil,length_map,rlen (fun _=>rfl)]at hq ⊢; omega) ?_;show Tri ..
     refine zAh (Le.rnq [(0,0),(3,1)] [(3,.orow 1),(6,.orow 0),(7,nI (o1.length:Int)),(8,nI x4)] [(0,.row 40 5 ((List.map zAi) o1)),(1,.row 40 5 ((List.map zAi) (l5++[(y8N,(y8P,y8Q),(y8R,y8S))])))] 2 (h2:=⟨rfl,⟨_,rfl,rfl⟩,rfl,⟨_,rfl,congrArg (Ob.row 40 5) zBD⟩,trivial⟩)) ?_
     refine yCo ?_;refine⟨(k,i64.wrap (x4+1),l5++[(y8N,(y8P,y8Q),(y8R,y8S))]),h,(Le.rnq [(0,0),(1,1)] _ _ _),Nat.lt_succ_self k⟩
    ·refine zAD ?_;exact jO
 ·refine zAh hle<|yCp ?_;refine zAd ?_;have hy:=osi h;subst hy;unfold zDz;exact⟨_,(Le.rnq [(0,0),(1,1)] [(2,.orow 1)] [(0,.row 40 5 ((List.map zAi) o1)),(1,.row 40 5 ((List.map zAi) l6))] 2),rfl,rfl,rfl,rfl,rfl,rfl,trivial⟩
def zG6 (n:Nat) (xs:List AV) (os:List Ob) (x:AV) (os':List (Option Ob)):Prop:=∃ (a0Z:Int) (a0Aa:List UInt8) (a0Ab:Int) (a0Ac:List Nd) (a0Ad:Int) (a0Ae:List UInt8) (a0Af:Int) (a0Ag:List Nd) (a0W:List zRc) (a0T:Int) (y0:List zRc) (z0Z:Int) (z0Aa:List UInt8) (z0Ab:Int) (z0Ac:List Nd) (z0Ad:Int) (z0Ae:List UInt8) (z0Af:Int) (z0Ag:List Nd) (z0W:List zRc) (z0T:Int),zBr n (Nd.mk a0Z a0Aa a0Ab a0Ac,Nd.mk a0Ad a0Ae a0Af a0Ag,a0W,a0T)=some (y0,(Nd.mk z0Z z0Aa z0Ab z0Ac,Nd.mk z0Ad z0Ae z0Af z0Ag,z0W,z0T))/\xs=[.op 0 0]/\os=[.box 68 [nI a0Z,nS a0Aa,nI a0Ab,.s (.sl 4 (Nd.encs a0Ac)),nI a0Ad,nS a0Ae,nI a0Af,.s (.sl 4 (Nd.encs a0Ag)),.orow 1,nI a0T],.row 40 5 ((List.map zAi) a0W)]/\x = .s (.sl 5 ((List.map zAi) y0))/\os'=[some (.box 68 [nI z0Z,nS z0Aa,nI z0Ab,.s (.sl 4 (Nd.encs z0Ac)),nI z0Ad,nS z0Ae,nI z0Af,.s (.sl 4 (Nd.encs z0Ag)),.orow 2,nI z0T]),none,some (.row 40 5 ((List.map zAi) z0W))]
def zEj:zAr:=zEA (fun xs os x os'=>∃ n,zG6 n xs os x os')
theorem zGP:PSound prog 9 zEj:=by
 have gok:=gk1 zKa<|gk0
 refine PSound.withNil (osq tokW call9 func9 rfl ?_) _;rintro xs os x os' w0 G0 B0 ⟨n,o1Z,o1Aa,o1Ab,o1Ac,o1Ad,o1Ae,o1Af,o1Ag,o1W,o1T,y0,z0Z,z0Aa,z0Ab,z0Ac,z0Ad,z0Ae,z0Af,z0Ag,z0W,z0T,h,rfl,rfl,rfl,rfl⟩ _;rw[zBr]at h;refine yCp ?_;refine zAa<|yCp ?_;refine zAI rfl (fun h=>by cases h) (fun _=>?_)
 refine zAe<|yCp ?_;obtain⟨y2,hy2,h⟩:=zAc h;refine⟨_,_,⟨_,_,_,hy2,rfl,rfl,rfl,rfl⟩,?_⟩
 refine zAd ?_;have hj0:=osi h;obtain⟨hv0,hw0⟩:=Prod.mk.inj hj0;subst hv0;obtain⟨he1Ao,hr1Ao⟩:=Prod.mk.inj hw0;obtain⟨he1Ap,hr1Ap⟩:=Prod.mk.inj hr1Ao;obtain⟨he1At,he1Au⟩:=Prod.mk.inj hr1Ap;obtain⟨he2Ao,he2Ap,he2At,he2Au⟩:=Nd.mk.inj he1Ao;subst he2Ao;subst he2Ap;subst he2At;subst he2Au;obtain⟨he3Ao,he3Ap,he3At,he3Au⟩:=Nd.mk.inj he1Ap;subst he3Ao;subst he3Ap;subst he3At;subst he3Au;subst he1At;subst he1Au;unfold zDz
 exact⟨_,(Le.trans (Le.rnq [(0,0),(1,2),(2,3)] [(2,.orow 3)] [(0,.box 68 [nI o1Z,nS o1Aa,nI o1Ab,.s (.sl 4 (Nd.encs o1Ac)),nI o1Ad,nS o1Ae,nI o1Af,.s (.sl 4 (Nd.encs o1Ag)),.orow 2,nI o1T]),(2,.row 40 5 ((List.map zAi) o1W)),(3,.row 40 5 ((List.map zAi) y2))] 4) (Le.giveRow 3 rfl)),rfl,rfl,rfl,rfl,rfl,rfl,trivial⟩
variable (n:Nat) (xs:List AV) (r:Ret)
def zJU:Prop:=∃ a0 a1 y0,zCw n a0 a1=some y0/\xs=[.s (.sl 1 (iL a0)),.s (.sl 1 (iL a1))]/\r = .val (nB y0)
def zGl:zAr:=pG zJU
theorem zJs:PSound prog 106 zGl:=by
 have gok:=@gok0 prog;refine psq tokW call106 func106 rfl ?_;rintro xs r w0 G0 ⟨n,s11,s22,y0,h,rfl,rfl⟩ _;rw[zCw]at h;refine yCp ?_;refine zAa<|yBn [] [7,9] rfl ?_;intro n3 hn3;obtain rfl:=rlE (fun _=>rfl) s11 hn3;intro n4 hn4;obtain rfl:=rlE (fun _=>rfl) s22 hn4;refine zAf rfl h (fun hb h=>?_) (fun hb h=>?_)
 ·exact gG
 ·refine zAe<|zAa<|yBn [] [12] rfl ?_;intro n5 hn5;obtain rfl:=rlE (fun _=>rfl) s11 hn5;show Tri ..;obtain⟨fl,hl,ho1⟩:=zAc h;refine zB3 (fl:=fl) (fun z=>match z with | _=>⟨ofL [],fun _=>none,0⟩) ?_ (fun z σ' hz hle=>?_)
  ·refine zAk (zAA (X:=Nat×Int) (fun y=>match y with | (k,x6)=>⟨ofL [(0,.s (.sl 1 (iL s11))),(1,.s (.sl 1 (iL s22))),(12,nI (s11.length:Int)),(13,nI x6)],fun _=>none,0⟩) (fun y=>zA9 s11 s22 y.1 y.2=some fl) (fun y=>y.1) (n,0) hl ?_ ?_)
   ·exact Le.fgt
   ·rintro⟨k,x6⟩ h;cases k with
    | zero=>cases h
    | succ k =>
     replace h:zA9 s11 s22 (k+1) x6=some fl:=h;rw[zA9]at h;refine yCp ?_;refine zAa<|zAf rfl h (fun hb h=>?_) (fun hb h=>?_)
     ·refine zAe<|zAa<|zAk<|yCp ?_;refine zAa<|zAC [] [18,22] [] rfl (by decide +kernel) ?_;obtain⟨e7,he7,h⟩:=zAc h;refine And.intro (zAq (fun _=>rfl) he7).1 ?_;intro r8 hr8;obtain rfl:[.int .i64 e7]=r8:=(hr8.trans (zAq (fun _=>rfl) he7).2.1).symm;obtain⟨e9,he9,h⟩:=zAc h;refine And.intro (zAq (fun _=>rfl) he9).1 ?_;intro r10 hr10;obtain rfl:[.int .i64 e9]=r10:=(hr10.trans (zAq (fun _=>rfl) he9).2.1).symm;refine zAf rfl h (fun hb h=>?_) (fun hb h=>?_)
      ·exact jE
      ·refine zAe<|yCo ?_;refine⟨(k,i64.wrap (x6+1)),h,Le.fgt,Nat.lt_succ_self k⟩
     ·exact gV
  ·exact jF
def zBL (p:(zO8×Int×Int×Bool×Int×List Int)):List S:=[.int .i64 p.1.1,.sl 1 (iL p.1.2.1),.int .i64 p.1.2.2.1,.int .i64 p.1.2.2.2.1,.sl 4 (Nd.encs p.1.2.2.2.2.1),.int .i64 p.1.2.2.2.2.2.1,.str p.1.2.2.2.2.2.2.1,.str p.1.2.2.2.2.2.2.2,.int .i64 p.2.1,.int .i64 p.2.2.1,.bool p.2.2.2.1,.int .i64 p.2.2.2.2.1,.sl 1 (iL p.2.2.2.2.2)]
def zRZ:Prop:=∃ a0 a1 y0 y1,zCi n a0 a1=some (y0,y1)/\xs=[.agg ((zAl a0).map .s),.s (.sl 1 (iL a1))]/\r = .val (.tup [.agg ((zBL y0).map .s),nB y1])
def zL3:zAr:=pG zRZ
theorem zRb:PSound prog 63 zL3:=by
 have gok:=gk1 zJs<|gk0
 refine psq tokW call63 func63 rfl ?_;rintro xs r w0 G0 ⟨n,⟨op1A,op1E,op1F,op1K,op1G,op1H,op1L,op1C⟩,pos2,y0,y1,h,rfl,rfl⟩ _;rw[zCi]at h;refine yBn [4] [] rfl ?_;refine yBn [] [10] rfl ?_;intro n3 hn3;obtain rfl:=rlE (fun _=>rfl) op1E hn3;refine zAa<|zAa ?_;obtain⟨x4,hj,h⟩:=zAc h
 refine zAm ⟨ofL [(1,.s (.sl 1 (iL pos2))),(2,.s (.pt [.int .i64 op1A,.sl 1 (iL op1E),.int .i64 op1F,.int .i64 op1K,.sl 4 (Nd.encs op1G),.int .i64 op1H,.str op1L,.str op1C])),(4,.op 0 0),(6,nI (op1E.length:Int)),(30,nB x4)],ofH [(0,.box 130 [nI 0,.nl 1,nI 0,nI 0,.nl 4,nI 0,.s (.str []),.s (.str []),nI 0,nI 0,nB false,nI 0,.nl 1])],1⟩ ?_ (fun σ' hle=>?_)
 ·replace h:=hj;refine zAC [] [12,15,17,22,25] [] rfl (by decide +kernel) ?_;intro n5 hn5;obtain rfl:=rlE (fun _=>rfl) pos2 hn5;intro b hb;cases b with
  | true =>
   replace h:=zAw hb.symm h;exact gY
  | false =>
   replace h:=zAv hb.symm h;intro n6 hn6;obtain rfl:=rlE (fun _=>rfl) pos2 hn6;intro b hb;cases b with
   | true =>
    exact jT
   | false =>
    replace h:=zAv hb.symm h;obtain⟨hq,h⟩:=zAx h;refine And.intro ⟨hq.1,hq.2.1,Int.le_trans hq.2.2 (Int.ofNat_le.2 (Nat.le_of_eq (rlen (fun _=>rfl) _).symm))⟩ ?_;intro r7 hr7;obtain rfl:iL ((pos2.take (op1E.length:Int).toNat).drop (0:Int).toNat)=r7:=(hr7.trans (rcut (fun _=>rfl) _ _ _)).symm;obtain⟨y8,hy8,h⟩:=zAc h;refine⟨_,⟨_,_,_,_,hy8,rfl,rfl⟩,?_⟩
    exact jC
 ·refine zAh hle<|zAf rfl h (fun hb h=>?_) (fun hb h=>?_)
  ·exact jP
  ·refine zAe<|zAa<|zEd [7] [35,38] [9,10] [] rfl (by decide +kernel) ?_;intro n9 hn9;obtain rfl:=rlE Nd.encs_eq op1G hn9;obtain⟨e10,he10,h⟩:=zAc h;refine And.intro (zAq (fun _=>rfl) he10).1 ?_;intro r11 hr11;obtain rfl:[.int .i64 e10]=r11:=(hr11.trans (zAq (fun _=>rfl) he10).2.1).symm;refine zAa<|yBn [] [42] rfl ?_;intro n12 hn12;obtain rfl:=rlE (fun _=>rfl) pos2 hn12;show Tri ..;obtain⟨⟨x13,x14,x15⟩,hj,h⟩:=zAc h
   refine zAm ⟨ofL [(4,.op 0 0),(7,.op 1 0)],ofH [(0,.box 130 [nI 0,.nl 1,nI 0,nI 0,.nl 4,nI 0,.s (.str []),.s (.str []),nI 0,nI 0,nB false,nI 0,.nl 1]),(1,.box 130 [nI op1A,.s (.sl 1 (iL op1E)),nI op1F,nI op1K,.s (.sl 4 (Nd.encs op1G)),nI op1H,nS op1L,nS op1C,nI (op1G.length:Int),nI e10,nB x13,nI x14,.s (.sl 1 (iL x15))])],2⟩ ?_ (fun σ' hle=>?_)
   ·replace h:=hj;refine zAf rfl h (fun hb h=>?_) (fun hb h=>?_)
    ·refine zAC [] [49,54] [10,12,14] rfl (by decide +kernel) ?_;obtain⟨e16,he16,h⟩:=zAc h;refine And.intro (zAq (fun _=>rfl) he16).1 ?_;intro r17 hr17;obtain rfl:[.int .i64 e16]=r17:=(hr17.trans (zAq (fun _=>rfl) he16).2.1).symm;obtain⟨hq,h⟩:=zAx h;refine And.intro ⟨hq.1,Int.le_trans hq.2.1 (Int.ofNat_le.2 (Nat.le_of_eq (rlen (fun _=>rfl) _).symm)),Int.le_refl _⟩ ?_;intro r18 hr18
     obtain rfl:iL ((pos2.take (pos2.length:Int).toNat).drop (i64.wrap ((op1E.length:Int)+2)).toNat)=r18:=(hr18.trans ((congrArg (fun m:Nat=>((iL pos2).take m).drop (i64.wrap ((op1E.length:Int)+2)).toNat) (rlen (fun _=>rfl) _)).trans (rcut (fun _=>rfl) _ _ _))).symm;exact jO
    ·refine zAe ?_;cases h
     exact(Le.trans (Le.trans (Le.rnq [(0,0),(1,1)] [(4,.op 0 0),(7,.op 1 0)] [(0,.box 130 [nI 0,.nl 1,nI 0,nI 0,.nl 4,nI 0,.s (.str []),.s (.str []),nI 0,nI 0,nB false,nI 0,.nl 1]),(1,.box 130 [nI op1A,.s (.sl 1 (iL op1E)),nI op1F,nI op1K,.s (.sl 4 (Nd.encs op1G)),nI op1H,nS op1L,nS op1C,nI (op1G.length:Int),nI e10,nB false,nI 0,.nl 1])] 2) (Le.dropNil 1 12 rfl rfl)) (Le.rnq [(0,0),(1,1)] _ _ _))
   ·refine zAh hle<|yCp ?_;exact jA
def zJo:Prop:=∃ a0 y0,zAy n a0=some y0/\xs=[.s (.sl 1 ((List.map zAF) a0))]/\r = .row 3 1 (iL y0)
def zCR:zAr:=pG zJo
theorem zGQ {α:Type}{a b:α} (h:a=b:=by simp[map_append,map_take,map_drop,irow,brow,zF1,map_cons,map_nil,zFx,Nd.encs_eq,Nd.enc,zBu,zAS,zBY,zAO,zAJ,zAl,zA6,zAo,zAi,zC8,zAF,zCb,zAN,zBZ,zBL]):a=b :=
 h
theorem zDU:PSound prog 65 zCR:=by
 have gok:=gk1 zKd<|gk0
 refine psq tokW call65 func65 rfl ?_;rintro xs r w0 G0 ⟨n,slices1,y0,h,rfl,rfl⟩ _;rw[zAy]at h;refine yBn [2] [] rfl ?_;refine zAh (Le.rnq [] [(0,.s (.sl 1 ((List.map zAF) slices1)))] [] 0)<|yCp ?_;refine zAa<|yBn [] [10] rfl ?_;intro n2 hn2;obtain rfl:=rlE (fun _=>rfl) slices1 hn2;show Tri ..;obtain⟨size5,hl,h⟩:=zAc h;refine pL [(0,.s (.sl 1 ((List.map zAF) slices1))),(3,nI size5)] ?_ (fun σ' hle=>?_)
 ·refine zAk (zAA (X:=Nat×Int×Int) (fun y=>match y with | (k,x3,size4)=>⟨ofL [(0,.s (.sl 1 ((List.map zAF) slices1))),(3,nI size4),(9,.s (.sl 1 ((List.map zAF) slices1))),(10,nI (slices1.length:Int)),(11,nI x3)],fun _=>none,0⟩) (fun y=>zA3 slices1 y.1 y.2.1 y.2.2=some size5) (fun y=>y.1) (n,0,0) hl ?_ ?_)
  ·exact Le.fgt
  ·rintro⟨k,x3,size4⟩ h;cases k with
   | zero=>cases h
   | succ k =>
    replace h:zA3 slices1 (k+1) x3 size4=some size5:=h;rw[zA3]at h;refine yCp ?_;refine zAa<|zAf rfl h (fun hb h=>?_) (fun hb h=>?_)
    ·refine zAe<|zAa<|zAk<|yBn [] [13] rfl ?_;obtain⟨e6,he6,h⟩:=zAc h;refine And.intro (zAq (fun _=>rfl) he6).1 ?_;intro r7 hr7;obtain rfl:[.sl 1 (iL e6)]=r7:=(hr7.trans (zAq (fun _=>rfl) he6).2.1).symm;refine yBn [] [17] rfl ?_;intro n8 hn8;obtain rfl:=rlE (fun _=>rfl) e6 hn8;refine yCp ?_;refine zAf rfl h (fun hb h=>?_) (fun hb h=>?_)
     ·cases h
     ·exact kT
    ·refine zAD ?_;exact jD
 ·refine zAh hle<|yBn [24] [] rfl ?_;obtain⟨y9,hy9,h⟩:=zAc h;refine⟨_,⟨_,_,hy9,rfl,rfl⟩,?_⟩
  refine zAa<|yBn [] [26] rfl ?_;intro n10 hn10;obtain rfl:=rlE (fun _=>rfl) slices1 hn10;show Tri ..;obtain⟨l14,hl,h⟩:=zAc h;refine zAm ⟨ofL [(6,.orow 0)],ofH [(0,.row 3 1 (iL l14))],1⟩ ?_ (fun σ' hle=>?_)
  ·refine zAk (zAA (X:=Nat×Int×(List Int)) (fun y=>match y with | (k,x11,l13)=>⟨ofL [(6,.orow 0),(25,.s (.sl 1 ((List.map zAF) slices1))),(26,nI (slices1.length:Int)),(27,nI x11)],ofH [(0,.row 3 1 (iL l13))],1⟩) (fun y=>zA4 slices1 y.1 y.2.1 y.2.2=some l14) (fun y=>y.1) (n,0,y9) hl ?_ ?_)
   ·exact kR
   ·rintro⟨k,x11,l13⟩ h;cases k with
    | zero=>cases h
    | succ k =>
     replace h:zA4 slices1 (k+1) x11 l13=some l14:=h;rw[zA4]at h;refine yCp ?_;refine zAa<|zAf rfl h (fun hb h=>?_) (fun hb h=>?_)
     ·refine zAe<|zAa<|zAk<|yBn [] [29] rfl ?_;obtain⟨e15,he15,h⟩:=zAc h;refine And.intro (zAq (fun _=>rfl) he15).1 ?_;intro r16 hr16;obtain rfl:[.sl 1 (iL e15)]=r16:=(hr16.trans (zAq (fun _=>rfl) he15).2.1).symm;refine zAb [33] [] rfl ?_;obtain⟨hq,h⟩:=zAx h
      refine And.intro (show((iL l13).length+(iL e15).length) * 8<=140737488355328/\(iL l13).length+(iL e15).length<=9223372036854775807 from by simp only[length_append,length_cons,length_nil,length_map,rlen (fun _=>rfl)]at hq ⊢; omega) ?_;show Tri ..
      refine zAh (Le.rnq [(1,0)] [(6,.orow 0),(25,.s (.sl 1 ((List.map zAF) slices1))),(26,nI (slices1.length:Int)),(27,nI x11)] [(0,.row 3 1 (iL (l13++e15)))] 1 (h2:=⟨rfl,⟨_,rfl,congrArg (Ob.row 3 1) zGQ⟩,trivial⟩)) ?_
      refine yCo ?_;refine⟨(k,i64.wrap (x11+1),l13++e15),h,(Le.rnq [(0,0)] _ _ _),Nat.lt_succ_self k⟩
     ·refine zAD ?_;exact jC
  ·exact kH
def zIb:Prop:=∃ a0 a1 y0,zAt n a0 a1=some y0/\xs=[.agg ((zBL a0).map .s),.s (.sl 1 (iL a1))]/\r = .val (.s (.sl 1 (iL y0)))
def zBy:zAr:=pG zIb
theorem zBN:PSound prog 111 zBy:=by
 have gok:=gk1 zDU<|gk0
 refine psq tokW call111 func111 rfl ?_;rintro xs r w0 G0 ⟨n,⟨⟨p1Y,p1Al,p1J,p1U,p1X,p1V,p1Ak,p1Aj⟩,p1Ay,p1An,p1Ax,p1H,p1As⟩,l2,y0,h,rfl,rfl⟩ _;rw[zAt]at h;refine yCp ?_;refine zAa<|yCp ?_;refine zAf rfl h (fun hb h=>?_) (fun hb h=>?_)
 ·exact gG
 ·refine zAe<|yBn [] [12,15] rfl ?_;intro r3 hr3;obtain rfl:iL [p1H]=r3:=(hr3.trans zGQ).symm;intro r4 hr4
  obtain rfl:(List.map zAF) [l2,[p1H],p1As]=r4:=(hr4.trans zGQ).symm;obtain⟨y5,hy5,h⟩:=zAc h;refine⟨_,⟨_,_,_,hy5,rfl,rfl⟩,?_⟩
  exact jM
def zIc:Prop:=∃ a0 a1 y0,zBT n a0 a1=some y0/\xs=[.agg ((zBL a0).map .s),nB a1]/\r = .val (.s (.sl 1 (iL y0)))
def zFs:zAr:=pG zIc
theorem zH4:PSound prog 107 zFs:=by
 have gok:=gk1 zBN<|gk0
 refine psq tokW call107 func107 rfl ?_;rintro xs r w0 G0 ⟨n,⟨⟨p1Y,p1Al,p1J,p1U,p1X,p1V,p1Ak,p1Aj⟩,p1Ay,p1An,p1Ax,p1H,p1As⟩,after2,y0,h,rfl,rfl⟩ _;rw[zBT]at h;refine yCp ?_;refine yCp ?_;refine zAa<|zAa ?_;obtain⟨x3,hj,h⟩:=zAc h
 refine pL [(2,.s (.pt [.int .i64 p1Y,.sl 1 (iL p1Al),.int .i64 p1J,.int .i64 p1U,.sl 4 (Nd.encs p1X),.int .i64 p1V,.str p1Ak,.str p1Aj,.int .i64 p1Ay,.int .i64 p1An,.bool p1Ax,.int .i64 p1H,.sl 1 (iL p1As)])),(27,nB x3)] ?_ (fun σ' hle=>?_)
 ·replace h:=hj;refine zAb [] [13,18,23] rfl ?_;intro b hb;cases b with
  | true =>
   exact jG
  | false =>
   replace h:=zAv hb.symm h;intro b hb;cases b with
   | true =>
    replace h:=zAw hb.symm h;intro b hb;cases b with
    | true =>
     exact jG
    | false =>
     exact jI
   | false =>
    exact jJ
 ·refine zAh hle<|zAf rfl h (fun hb h=>?_) (fun hb h=>?_)
  ·refine yBn [] [31] rfl ?_;intro r4 hr4;obtain rfl:iL [p1An]=r4:=(hr4.trans zGQ).symm;obtain⟨y5,hy5,h⟩:=zAc h;refine⟨_,⟨_,_,_,_,hy5,rfl,rfl⟩,?_⟩
   exact jM
  ·refine zAe<|yBn [] [39] rfl ?_;intro r6 hr6;obtain rfl:iL [i64.wrap (p1An+p1Ay)]=r6:=(hr6.trans zGQ).symm;obtain⟨y7,hy7,h⟩:=zAc h;refine⟨_,⟨_,_,_,_,hy7,rfl,rfl⟩,?_⟩
   exact jM
def zId:Prop:=∃ a0 y0 y1,zBU n a0=some (y0,y1)/\xs=[.agg ((zBL a0).map .s)]/\r = .val (.tup [.s (.sl 1 (iL y0)),nB y1])
def zFt:zAr:=pG zId
theorem zH5:PSound prog 108 zFt:=by
 have gok:=gk1 zBN<|gk0
 refine psq tokW call108 func108 rfl ?_;rintro xs r w0 G0 ⟨n,⟨⟨p1Y,p1Al,p1J,p1U,p1X,p1V,p1Ak,p1Aj⟩,p1Ay,p1An,p1Ax,p1H,p1As⟩,y0,y1,h,rfl,rfl⟩ _;rw[zBU]at h;refine yCp ?_;refine yCp ?_;refine zAa<|zAk<|zAa ?_;obtain⟨x2,hj,h⟩:=zAc h
 refine pL [(1,.s (.pt [.int .i64 p1Y,.sl 1 (iL p1Al),.int .i64 p1J,.int .i64 p1U,.sl 4 (Nd.encs p1X),.int .i64 p1V,.str p1Ak,.str p1Aj,.int .i64 p1Ay,.int .i64 p1An,.bool p1Ax,.int .i64 p1H,.sl 1 (iL p1As)])),(4,nI p1J),(8,nB x2)] ?_ (fun σ' hle=>?_)
 ·replace h:=hj;refine zAb [] [13,18] rfl ?_;intro b hb;cases b with
  | true =>
   exact jG
  | false =>
   replace h:=zAv hb.symm h;intro b hb;cases b with
   | true =>
    exact jG
   | false =>
    exact jI
 ·refine zAh hle<|zAf rfl h (fun hb h=>?_) (fun hb h=>?_)
  ·refine yBn [] [27] rfl ?_;intro r3 hr3;obtain rfl:iL [p1An]=r3:=(hr3.trans zGQ).symm;obtain⟨y4,hy4,h⟩:=zAc h;refine⟨_,⟨_,_,_,_,hy4,rfl,rfl⟩,?_⟩
   exact jA
  ·refine yCp ?_;refine zAf rfl h (fun hb h=>?_) (fun hb h=>?_)
   ·refine yBn [] [38] rfl ?_;intro r5 hr5;obtain rfl:iL [p1J]=r5:=(hr5.trans zGQ).symm;exact jA
   ·refine zAe<|yBn [] [45] rfl ?_;intro r6 hr6;obtain rfl:iL [i64.wrap (p1An - p1Ay)]=r6:=(hr6.trans zGQ).symm;obtain⟨y7,hy7,h⟩:=zAc h;refine⟨_,⟨_,_,_,_,hy7,rfl,rfl⟩,?_⟩
    exact jA
def zJS:Prop:=∃ a0 a1 y0,zCp n a0 a1=some y0/\xs=[.agg ((zBL a0).map .s),nB a1]/\r = .val (.s (.sl 1 (iL y0)))
def zGk:zAr:=pG zJS
theorem zJr:PSound prog 109 zGk:=by
 have gok:=gk1 zBN<|gk0
 refine psq tokW call109 func109 rfl ?_;rintro xs r w0 G0 ⟨n,⟨⟨a1Y,a1Al,a1J,a1U,a1X,a1V,a1Ak,a1Aj⟩,a1Ay,a1An,a1Ax,a1H,a1As⟩,a2,y0,h,rfl,rfl⟩ _;rw[zCp]at h;refine yCp ?_;refine zAa<|zAC [] [] [] rfl (by decide +kernel) ?_;refine zAa<|zAk<|zAa ?_;obtain⟨x3,hj,h⟩:=zAc h
 refine pL [(2,.s (.pt [.int .i64 a1Y,.sl 1 (iL a1Al),.int .i64 a1J,.int .i64 a1U,.sl 4 (Nd.encs a1X),.int .i64 a1V,.str a1Ak,.str a1Aj,.int .i64 a1Ay,.int .i64 a1An,.bool a1Ax,.int .i64 a1H,.sl 1 (iL a1As)])),(5,nI a1J),(6,nI a1U),(13,nB x3)] ?_ (fun σ' hle=>?_)
 ·replace h:=hj;refine zAb [] [17,23,27] rfl ?_;intro b hb;cases b with
  | true =>
   replace h:=zAw hb.symm h;intro b hb;cases b with
   | true =>
    replace h:=zAw hb.symm h;intro b hb;cases b with
    | true =>
     exact jG
    | false =>
     exact jI
   | false =>
    exact jJ
  | false =>
   exact jL
 ·refine zAh hle<|zAf rfl h (fun hb h=>?_) (fun hb h=>?_)
  ·refine yBn [] [32] rfl ?_;intro r4 hr4;obtain rfl:iL [i64.wrap (a1J+1)]=r4:=(hr4.trans zGQ).symm;exact jM
  ·refine zAa ?_;obtain⟨x5,hj,h⟩:=zAc h;refine pL [(2,.s (.pt [.int .i64 a1Y,.sl 1 (iL a1Al),.int .i64 a1J,.int .i64 a1U,.sl 4 (Nd.encs a1X),.int .i64 a1V,.str a1Ak,.str a1Aj,.int .i64 a1Ay,.int .i64 a1An,.bool a1Ax,.int .i64 a1H,.sl 1 (iL a1As)])),(5,nI a1J),(6,nI a1U),(33,nB x5)] ?_ (fun σ' hle=>?_)
   ·replace h:=hj;refine zAb [] [38,43] rfl ?_;intro b hb;cases b with
    | true =>
     exact jG
    | false =>
     replace h:=zAv hb.symm h;intro b hb;cases b with
     | true =>
      exact jG
     | false =>
      exact jI
   ·refine zAh hle<|zAf rfl h (fun hb h=>?_) (fun hb h=>?_)
    ·refine yBn [] [52] rfl ?_;intro r6 hr6;obtain rfl:iL [a1An]=r6:=(hr6.trans zGQ).symm;obtain⟨y7,hy7,h⟩:=zAc h;refine⟨_,⟨_,_,_,_,hy7,rfl,rfl⟩,?_⟩
     exact jM
    ·refine yCp ?_;refine zAf rfl h (fun hb h=>?_) (fun hb h=>?_)
     ·refine yBn [] [70] rfl ?_;intro r8 hr8;obtain rfl:iL [a1J,a1V,i64.wrap (a1An - a1J)]=r8:=(hr8.trans zGQ).symm;obtain⟨y9,hy9,h⟩:=zAc h;refine⟨_,⟨_,_,_,_,hy9,rfl,rfl⟩,?_⟩
      exact jM
     ·refine zAe<|yBn [] [78] rfl ?_;intro r10 hr10;obtain rfl:iL [i64.wrap ((i64.wrap (a1An - a1U))+1)]=r10:=(hr10.trans zGQ).symm;obtain⟨y11,hy11,h⟩:=zAc h
      refine⟨_,⟨_,_,_,_,hy11,rfl,rfl⟩,?_⟩
      exact jM
def zIe:Prop:=∃ a0 y0 y1,zBV n a0=some (y0,y1)/\xs=[.agg ((zBL a0).map .s)]/\r = .val (.tup [.s (.sl 1 (iL y0)),nB y1])
def zFu:zAr:=pG zIe
theorem zH6:PSound prog 110 zFu:=by
 have gok:=gk1 zBN<|gk1 zDU<|gk0
 refine psq tokW call110 func110 rfl ?_;rintro xs r w0 G0 ⟨n,⟨⟨a1Y,a1Al,a1J,a1U,a1X,a1V,a1Ak,a1Aj⟩,a1Ay,a1An,a1Ax,a1H,a1As⟩,y0,y1,h,rfl,rfl⟩ _;rw[zBV]at h;refine yCp ?_;refine zAa<|zAC [] [] [] rfl (by decide +kernel) ?_;refine zAa<|zAk<|zAa ?_;obtain⟨x2,hj,h⟩:=zAc h
 refine pL [(1,.s (.pt [.int .i64 a1Y,.sl 1 (iL a1Al),.int .i64 a1J,.int .i64 a1U,.sl 4 (Nd.encs a1X),.int .i64 a1V,.str a1Ak,.str a1Aj,.int .i64 a1Ay,.int .i64 a1An,.bool a1Ax,.int .i64 a1H,.sl 1 (iL a1As)])),(4,nI a1J),(5,nI a1U),(12,nB x2)] ?_ (fun σ' hle=>?_)
 ·replace h:=hj;refine zAb [] [17,22] rfl ?_;intro b hb;cases b with
  | true =>
   exact jG
  | false =>
   replace h:=zAv hb.symm h;intro b hb;cases b with
   | true =>
    exact jG
   | false =>
    exact jI
 ·refine zAh hle<|zAf rfl h (fun hb h=>?_) (fun hb h=>?_)
  ·refine yBn [] [31] rfl ?_;intro r3 hr3;obtain rfl:iL [a1An]=r3:=(hr3.trans zGQ).symm;obtain⟨y4,hy4,h⟩:=zAc h;refine⟨_,⟨_,_,_,_,hy4,rfl,rfl⟩,?_⟩
   exact jA
  ·refine yCp ?_;refine zAf rfl h (fun hb h=>?_) (fun hb h=>?_)
   ·refine yBn [] [44] rfl ?_;intro r5 hr5;obtain rfl:iL [i64.wrap ((i64.wrap (a1An - 1))+a1U)]=r5:=(hr5.trans zGQ).symm;obtain⟨y6,hy6,h⟩:=zAc h;refine⟨_,⟨_,_,_,_,hy6,rfl,rfl⟩,?_⟩
    exact jA
   ·refine yCp ?_;refine zAf rfl h (fun hb h=>?_) (fun hb h=>?_)
    ·refine yBn [] [54] rfl ?_;intro r7 hr7;obtain rfl:iL [a1J]=r7:=(hr7.trans zGQ).symm;exact jA
    ·refine yCp ?_;refine zAf rfl h (fun hb h=>?_) (fun hb h=>?_)
     ·refine yBn [] [65] rfl ?_;intro r8 hr8;obtain rfl:iL [i64.wrap (a1J+a1U)]=r8:=(hr8.trans zGQ).symm;refine zAd ?_;obtain⟨hj1,hk1⟩:=pij h;subst hj1 hk1;unfold zBK
      exact gR
     ·refine zAe<|zAa<|zAC [] [69,72,75,76] [] rfl (by decide +kernel) ?_;obtain⟨e9,he9,h⟩:=zAc h;refine And.intro (zAq (fun _=>rfl) he9).1 ?_;intro r10 hr10;obtain rfl:[.int .i64 e9]=r10:=(hr10.trans (zAq (fun _=>rfl) he9).2.1).symm;intro r11 hr11
      obtain rfl:iL [i64.wrap (a1J+e9)]=r11:=(hr11.trans zGQ).symm;obtain⟨hq,h⟩:=zAx h;refine And.intro ⟨hq.1,Int.le_trans hq.2.1 (Int.ofNat_le.2 (Nat.le_of_eq (rlen (fun _=>rfl) _).symm)),Int.le_refl _⟩ ?_;intro r12 hr12
      obtain rfl:iL ((a1As.take (a1As.length:Int).toNat).drop (1:Int).toNat)=r12:=(hr12.trans ((congrArg (fun m:Nat=>((iL a1As).take m).drop (1:Int).toNat) (rlen (fun _=>rfl) _)).trans (rcut (fun _=>rfl) _ _ _))).symm;intro r13 hr13
      obtain rfl:(List.map zAF) [[i64.wrap (a1J+e9)],(a1As.take (a1As.length:Int).toNat).drop (1:Int).toNat]=r13:=(hr13.trans zGQ).symm;obtain⟨y14,hy14,h⟩:=zAc h;refine⟨_,⟨_,_,_,hy14,rfl,rfl⟩,?_⟩
      exact jA
def zJm:Prop:=∃ a0 a1 y0 y1,zAs n a0 a1=some (y0,y1)/\xs=[.agg ((zBL a0).map .s),nB a1]/\r = .val (.tup [.s (.sl 1 (iL y0)),nB y1])
def zFY:zAr:=pG zJm
theorem zIR:PSound prog 64 zFY:=by
 have gok:=gk1 zH4<|gk1 zH5<|gk1 zJr<|gk1 zH6<|gk1 zBN<|gk0
 refine psq tokW call64 func64 rfl ?_;rintro xs r w0 G0 ⟨n,⟨⟨p1Y,p1Al,p1J,p1U,p1X,p1V,p1Ak,p1Aj⟩,p1Ay,p1An,p1Ax,p1H,p1As⟩,after2,y0,y1,h,rfl,rfl⟩ _;rw[zAs]at h;refine yCp ?_;refine zAa<|yCp ?_;refine zAk<|yCp ?_;refine zAf rfl h (fun hb h=>?_) (fun hb h=>?_)
 ·refine yCp ?_;obtain⟨y3,hy3,h⟩:=zAc h;refine⟨_,⟨_,_,_,_,hy3,rfl,rfl⟩,?_⟩
  exact jA
 ·refine yCp ?_;refine zAf rfl h (fun hb h=>?_) (fun hb h=>?_)
  ·refine yCp ?_;obtain⟨⟨y4,y5⟩,hy4,h⟩:=zAc h;refine⟨_,⟨_,_,_,_,hy4,rfl,rfl⟩,?_⟩
   exact jA
  ·refine yCp ?_;refine zAf rfl h (fun hb h=>?_) (fun hb h=>?_)
   ·refine yCp ?_;obtain⟨y6,hy6,h⟩:=zAc h;refine⟨_,⟨_,_,_,_,hy6,rfl,rfl⟩,?_⟩
    exact jA
   ·refine yCp ?_;refine zAf rfl h (fun hb h=>?_) (fun hb h=>?_)
    ·refine yCp ?_;obtain⟨⟨y7,y8⟩,hy7,h⟩:=zAc h;refine⟨_,⟨_,_,_,_,hy7,rfl,rfl⟩,?_⟩
     exact jA
    ·refine zAe<|yBn [] [34] rfl ?_;intro r9 hr9;obtain rfl:iL [p1An]=r9:=(hr9.trans zGQ).symm;obtain⟨y10,hy10,h⟩:=zAc h;refine⟨_,⟨_,_,_,_,hy10,rfl,rfl⟩,?_⟩
     exact jA
def zRY:Prop:=∃ a0 a1 a2 y0,zEK n a0 a1 a2=some y0/\xs=[.agg ((zAl a0).map .s),.s (.sl 1 (iL a1)),nB a2]/\r = .val (.s (.sl 1 (iL y0)))
def zL2:zAr:=pG zRY
theorem zRa:PSound prog 35 zL2:=by
 have gok:=gk1 zRb<|gk1 zEi<|gk1 zIR<|gk1 zDU<|gk0
 refine psq tokW call35 func35 rfl ?_;rintro xs r w0 G0 ⟨n,⟨op1A,op1E,op1F,op1K,op1G,op1H,op1L,op1C⟩,pos2,after3,y0,h,rfl,rfl⟩ _;rw[zEK]at h;refine yCp ?_;refine yBn [7] [] rfl ?_;obtain⟨⟨⟨⟨y4Y,y4Al,y4J,y4U,y4X,y4V,y4Ak,y4Aj⟩,y4Ay,y4An,y4Ax,y4H,y4As⟩,y5⟩,hy4,h⟩:=zAc h;refine⟨_,⟨_,_,_,_,_,hy4,rfl,rfl⟩,?_⟩
 refine zAh (Le.giveBox 0 [.int .i64 y4Y,.sl 1 (iL y4Al),.int .i64 y4J,.int .i64 y4U,.sl 4 (Nd.encs y4X),.int .i64 y4V,.str y4Ak,.str y4Aj,.int .i64 y4Ay,.int .i64 y4An,.bool y4Ax,.int .i64 y4H,.sl 1 (iL y4As)] rfl rfl)<|zAa<|yCp ?_;refine zAf rfl h (fun hb h=>?_) (fun hb h=>?_)
 ·refine yCp ?_;obtain⟨y6,hy6,h⟩:=zAc h;refine⟨_,⟨_,_,hy6,rfl,rfl⟩,?_⟩
  exact jM
 ·refine zAe<|yCp ?_;obtain⟨⟨y7,y8⟩,hy7,h⟩:=zAc h;refine⟨_,⟨_,_,_,_,_,hy7,rfl,rfl⟩,?_⟩
  refine yBn [] [30] rfl ?_;intro r9 hr9;obtain rfl:(List.map zAF) [op1E,y7]=r9:=(hr9.trans zGQ).symm;obtain⟨y10,hy10,h⟩:=zAc h;refine⟨_,⟨_,_,_,hy10,rfl,rfl⟩,?_⟩
  exact jM
def zM8:Prop:=∃ a0 a1 a2 y0,zCX n a0 a1 a2=some y0/\xs=[.s (.sl 8 ((List.map zAl) a0)),.s (.sl 1 (iL a1)),nB a2]/\r = .val (.s (.sl 1 (iL y0)))
def zIj:zAr:=pG zM8
theorem zML:PSound prog 11 zIj:=by
 have gok:=gk1 zEi<|gk1 zRa<|gk0
 refine psq tokW call11 func11 rfl ?_;rintro xs r w0 G0 ⟨n,ops1,pos2,after3,y0,h,rfl,rfl⟩ _;rw[zCX]at h;refine yCp ?_;refine yCp ?_;obtain⟨y4,hy4,h⟩:=zAc h;refine⟨_,⟨_,_,hy4,rfl,rfl⟩,?_⟩
 refine zAa<|yBn [] [13] rfl ?_;intro n5 hn5;obtain rfl:=rlE (fun _=>rfl) ops1 hn5;show Tri ..;obtain⟨image8,hl,h⟩:=zAc h;refine pL [(7,.s (.sl 1 (iL image8)))] ?_ (fun σ' hle=>?_)
 ·refine zAk (zAA (X:=Nat×Int×(List Int)) (fun y=>match y with | (k,x6,image7)=>⟨ofL [(2,nB after3),(7,.s (.sl 1 (iL image7))),(12,.s (.sl 8 ((List.map zAl) ops1))),(13,nI (ops1.length:Int)),(14,nI x6)],fun _=>none,0⟩) (fun y=>zBH n ops1 after3 y.1 y.2.1 y.2.2=some image8) (fun y=>y.1) (n,0,y4) hl ?_ ?_)
  ·exact Le.fgt
  ·rintro⟨k,x6,image7⟩ h;cases k with
   | zero=>cases h
   | succ k =>
    replace h:zBH n ops1 after3 (k+1) x6 image7=some image8:=h;rw[zBH]at h;refine yCp ?_;refine zAa<|zAf rfl h (fun hb h=>?_) (fun hb h=>?_)
    ·refine zAe<|zAa<|zAk<|yBn [9] [16] rfl ?_;obtain⟨⟨e9A,e9E,e9F,e9K,e9G,e9H,e9L,e9C⟩,he9,h⟩:=zAc h;refine And.intro (zAq (fun _=>rfl) he9).1 ?_;intro r10 hr10;obtain rfl:[.int .i64 e9A,.sl 1 (iL e9E),.int .i64 e9F,.int .i64 e9K,.sl 4 (Nd.encs e9G),.int .i64 e9H,.str e9L,.str e9C]=r10:=(hr10.trans (zAq (fun _=>rfl) he9).2.1).symm;show Tri ..
     refine zAh (Le.giveBox 0 [.int .i64 e9A,.sl 1 (iL e9E),.int .i64 e9F,.int .i64 e9K,.sl 4 (Nd.encs e9G),.int .i64 e9H,.str e9L,.str e9C] rfl rfl)<|yCo ?_;obtain⟨y11,hy11,h⟩:=zAc h;refine⟨_,⟨_,_,_,_,_,hy11,rfl,rfl⟩,?_⟩
     refine yCo ?_;refine⟨(k,i64.wrap (x6+1),y11),h,(Le.rnq [] _ [] 0),Nat.lt_succ_self k⟩
    ·refine zAD ?_;exact jD
 ·refine zAh hle<|yCp ?_;exact jM
def zKs:Prop:=∃ a0 a1 a2 y0,zB0 n a0 a1 a2=some y0/\xs=[.agg ((Nd.enc a0).map .s),.s (.sl 7 ((List.map zAo) a1)),nB a2]/\r = .val (nB y0)
def zKF:zAr:=pG zKs
theorem zKf:PSound prog 3 zKF:=by
 have gok:=gk1 zO6<|gk1 zWO<|gk1 zOZ<|gk1 zN8<|gk1 zGP<|gk1 zJc<|gk1 zML<|gk1 zLy<|gk1 zE3<|gk1 zMs<|gk1 zJO<|gk0
 refine psq tokW call3 func3 rfl ?_;rintro xs r w0 G0 ⟨n,⟨a1A,a1C,a1D,a1B⟩,a2,a3,y0,h,rfl,rfl⟩ _;rw[zB0]at h;refine yCp ?_;refine zAa<|zAa ?_;obtain⟨x4,hj,h⟩:=zAc h;refine pL [(1,.s (.sl 7 ((List.map zAo) a2))),(2,nB a3),(3,pN a1A a1C a1D a1B),(27,nB x4)] ?_ (fun σ' hle=>?_)
 ·replace h:=hj;refine zAb [] [22] rfl ?_;obtain⟨y5,hy5,h⟩:=zAc h;refine⟨_,⟨_,hy5,rfl,rfl⟩,?_⟩
  intro b hb;cases b with
  | true =>
   exact jG
  | false =>
   replace h:=zAv hb.symm h;obtain⟨y6,hy6,h⟩:=zAc h;refine⟨_,⟨_,_,_,_,hy6,rfl,rfl⟩,?_⟩
   exact jD
 ·refine zAh hle<|zAf rfl h (fun hb h=>?_) (fun hb h=>?_)
  ·refine yCp ?_;obtain⟨y7,hy7,h⟩:=zAc h;refine⟨_,⟨_,hy7,rfl,rfl⟩,?_⟩
   exact jM
  ·refine zAe<|yCp ?_;obtain⟨⟨y8,y9⟩,hy8,h⟩:=zAc h;cases y8 with
   | none =>
    obtain⟨hq,h⟩:=zAx h;subst hq;refine⟨_,_,⟨_,_,_,_,hy8,rfl,rfl,rfl,rfl⟩,?_⟩
    refine zAh (Le.rnq [] [(1,.s (.sl 7 ((List.map zAo) a2))),(2,nB a3),(3,pN a1A a1C a1D a1B),(7,.s (.np)),(8,nI 1)] [] 0)<|zAa<|yCp ?_;refine zAI rfl (fun _=>?_) (fun h=>by cases h)
    exact gG
   | some w10 =>
    obtain⟨⟨w10Z,w10Aa,w10Ab,w10Ac⟩,⟨w10Ad,w10Ae,w10Af,w10Ag⟩,w10W,w10T⟩:=w10;obtain⟨hq,h⟩:=zAx h;subst hq;refine⟨_,_,⟨_,_,_,_,hy8,rfl,rfl,rfl,rfl⟩,?_⟩
    refine zAh (Le.rnq [(0,0),(1,1)] [(1,.s (.sl 7 ((List.map zAo) a2))),(2,nB a3),(3,pN a1A a1C a1D a1B),(7,.op 0 0),(8,nI 0)] [(0,.box 68 [nI w10Z,nS w10Aa,nI w10Ab,.s (.sl 4 (Nd.encs w10Ac)),nI w10Ad,nS w10Ae,nI w10Af,.s (.sl 4 (Nd.encs w10Ag)),.orow 1,nI w10T]),(1,.row 40 5 ((List.map zAi) w10W))] 2)<|zAa<|yCp ?_
    refine zAI rfl (fun h=>by cases h) (fun _=>?_)
    refine zAe<|zAa<|yCp ?_;obtain⟨⟨y11,⟨⟨w12Z,w12Aa,w12Ab,w12Ac⟩,⟨w12Ad,w12Ae,w12Af,w12Ag⟩,w12W,w12T⟩⟩,hy11,h⟩:=zAc h;refine⟨_,_,⟨_,_,_,_,_,_,_,_,_,_,_,_,_,_,_,_,_,_,_,_,_,_,_,hy11,rfl,rfl,rfl,rfl⟩,?_⟩
    refine zAh (Le.rnq [(0,0),(2,1)] [(2,nB a3),(3,pN a1A a1C a1D a1B),(7,.op 0 0),(39,nB (!y11))] [(0,.box 68 [nI w12Z,nS w12Aa,nI w12Ab,.s (.sl 4 (Nd.encs w12Ac)),nI w12Ad,nS w12Ae,nI w12Af,.s (.sl 4 (Nd.encs w12Ag)),.orow 1,nI w12T]),(1,.row 40 5 ((List.map zAi) w12W))] 2)<|zAf rfl h (fun hb h=>?_) (fun hb h=>?_)
    ·exact gG
    ·refine zAe<|yBn [9] [] rfl ?_;show Tri ..
     refine zAh (Le.rnq [(0,0),(1,1),(2,2)] [(2,nB a3),(3,pN a1A a1C a1D a1B),(7,.op 0 0),(9,.orow 2)] [(0,.box 68 [nI w12Z,nS w12Aa,nI w12Ab,.s (.sl 4 (Nd.encs w12Ac)),nI w12Ad,nS w12Ae,nI w12Af,.s (.sl 4 (Nd.encs w12Ag)),.orow 1,nI w12T]),(1,.row 40 5 ((List.map zAi) w12W)),(2,.row 76 8 ((List.map zAl) []))] 3 (h2:=⟨rfl,⟨_,rfl,rfl⟩,rfl,⟨_,rfl,rfl⟩,rfl,⟨_,rfl,congrArg (Ob.row 76 8) zGQ⟩,trivial⟩)) ?_
     refine zAa<|yBn [] [42] rfl ?_;obtain⟨⟨y13,⟨⟨w14Z,w14Aa,w14Ab,w14Ac⟩,⟨w14Ad,w14Ae,w14Af,w14Ag⟩,w14W,w14T⟩⟩,hy13,h⟩:=zAc h;refine⟨_,_,⟨_,_,_,_,_,_,_,_,_,_,_,_,_,_,_,_,_,_,_,_,_,_,hy13,rfl,rfl,rfl,rfl⟩,?_⟩
     intro n15 hn15;obtain rfl:=rlE (fun _=>rfl) y13 hn15;show Tri ..
     refine zAh (Le.rnq [(0,0),(3,1),(2,2)] [(2,nB a3),(3,pN a1A a1C a1D a1B),(7,.op 0 0),(9,.orow 2),(41,.s (.sl 5 ((List.map zAi) y13))),(42,nI (y13.length:Int)),(43,nI 0)] [(0,.box 68 [nI w14Z,nS w14Aa,nI w14Ab,.s (.sl 4 (Nd.encs w14Ac)),nI w14Ad,nS w14Ae,nI w14Af,.s (.sl 4 (Nd.encs w14Ag)),.orow 1,nI w14T]),(1,.row 40 5 ((List.map zAi) w14W)),(2,.row 76 8 ((List.map zAl) []))] 3) ?_
     obtain⟨l20,hl,h⟩:=zAc h;refine zAm ⟨ofL [(2,nB a3),(3,pN a1A a1C a1D a1B),(7,.op 0 0),(9,.orow 2)],ofH [(0,.box 68 [nI w14Z,nS w14Aa,nI w14Ab,.s (.sl 4 (Nd.encs w14Ac)),nI w14Ad,nS w14Ae,nI w14Af,.s (.sl 4 (Nd.encs w14Ag)),.orow 1,nI w14T]),(1,.row 40 5 ((List.map zAi) w14W)),(2,.row 76 8 ((List.map zAl) l20))],3⟩ ?_ (fun σ' hle=>?_)
     ·refine zAk (zAA (X:=Nat×Int×(List zO8)) (fun y=>match y with | (k,x17,l19)=>⟨ofL [(2,nB a3),(3,pN a1A a1C a1D a1B),(7,.op 0 0),(9,.orow 2),(41,.s (.sl 5 ((List.map zAi) y13))),(42,nI (y13.length:Int)),(43,nI x17)],ofH [(0,.box 68 [nI w14Z,nS w14Aa,nI w14Ab,.s (.sl 4 (Nd.encs w14Ac)),nI w14Ad,nS w14Ae,nI w14Af,.s (.sl 4 (Nd.encs w14Ag)),.orow 1,nI w14T]),(1,.row 40 5 ((List.map zAi) w14W)),(2,.row 76 8 ((List.map zAl) l19))],3⟩) (fun y=>zBf y13 y.1 y.2.1 y.2.2=some l20) (fun y=>y.1) (n,0,[]) hl ?_ ?_)
      ·exact(Le.rnq [(0,0),(1,1),(2,2)] _ _ _)
      ·rintro⟨k,x17,l19⟩ h;cases k with
       | zero=>cases h
       | succ k =>
        replace h:zBf y13 (k+1) x17 l19=some l20:=h;rw[zBf]at h;refine yCp ?_;refine zAa<|zAf rfl h (fun hb h=>?_) (fun hb h=>?_)
        ·refine zAe<|zAa<|zAk<|yBn [11] [45] rfl ?_;obtain⟨⟨e21N,⟨e21P,e21Q⟩,⟨e21R,e21S⟩⟩,he21,h⟩:=zAc h;refine And.intro (zAq (fun _=>rfl) he21).1 ?_;intro r22 hr22;obtain rfl:[.sl 8 ((List.map zAl) e21N),.sl 1 (iL e21P),.sl 1 (iL e21Q),.sl 1 (iL e21R),.sl 1 (iL e21S)]=r22:=(hr22.trans (zAq (fun _=>rfl) he21).2.1).symm;show Tri ..
         refine zAh (Le.giveBox 3 [.sl 8 ((List.map zAl) e21N),.sl 1 (iL e21P),.sl 1 (iL e21Q),.sl 1 (iL e21R),.sl 1 (iL e21S)] rfl rfl)<|zAb [50] [] rfl ?_;obtain⟨hq,h⟩:=zAx h;refine And.intro (show(((List.map zAl) l19).length+((List.map zAl) e21N).length) * 112<=140737488355328/\((List.map zAl) l19).length+((List.map zAl) e21N).length<=9223372036854775807 from by simp only[length_append,length_cons,length_nil,length_map,rlen (fun _=>rfl)]at hq ⊢; omega) ?_
         show Tri ..
         refine zAh (Le.rnq [(0,0),(1,1),(4,2)] [(2,nB a3),(3,pN a1A a1C a1D a1B),(7,.op 0 0),(9,.orow 2),(41,.s (.sl 5 ((List.map zAi) y13))),(42,nI (y13.length:Int)),(43,nI x17)] [(0,.box 68 [nI w14Z,nS w14Aa,nI w14Ab,.s (.sl 4 (Nd.encs w14Ac)),nI w14Ad,nS w14Ae,nI w14Af,.s (.sl 4 (Nd.encs w14Ag)),.orow 1,nI w14T]),(1,.row 40 5 ((List.map zAi) w14W)),(2,.row 76 8 ((List.map zAl) (l19++e21N)))] 3 (h2:=⟨rfl,⟨_,rfl,rfl⟩,rfl,⟨_,rfl,rfl⟩,rfl,⟨_,rfl,congrArg (Ob.row 76 8) zGQ⟩,trivial⟩)) ?_
         refine yCo ?_;refine⟨(k,i64.wrap (x17+1),l19++e21N),h,(Le.rnq [(0,0),(1,1),(2,2)] _ _ _),Nat.lt_succ_self k⟩
        ·refine zAD ?_;exact jS
     ·refine zAh hle<|yCp ?_;obtain⟨⟨y23,y24⟩,hy23,h⟩:=zAc h;refine⟨_,⟨_,_,_,_,hy23,rfl,rfl⟩,?_⟩
      refine zAh (Le.trans (Le.rnq [(0,0),(1,1),(2,2)] [(2,nB a3),(3,pN a1A a1C a1D a1B),(7,.op 0 0),(9,.orow 2),(12,.s (.sl 1 ((List.map zAF) y23)))] [(0,.box 68 [nI w14Z,nS w14Aa,nI w14Ab,.s (.sl 4 (Nd.encs w14Ac)),nI w14Ad,nS w14Ae,nI w14Af,.s (.sl 4 (Nd.encs w14Ag)),.orow 1,nI w14T]),(1,.row 40 5 ((List.map zAi) w14W)),(2,.row 76 8 ((List.map zAl) l20))] 3) (Le.giveRow 2 rfl)) ?_
      refine yCp ?_;refine zAa<|yBn [] [58] rfl ?_;intro n25 hn25;obtain rfl:=rlE (fun _=>rfl) y23 hn25;show Tri ..;obtain⟨fl,hl,ho1⟩:=zAc h;refine zB3 (fl:=fl) (fun z=>match z with | _=>⟨ofL [],fun _=>none,0⟩) ?_ (fun z σ' hz hle=>?_)
      ·refine zAk (zAA (X:=Nat×Int×(List UInt8)×Int×(List Nd)×Int×(List UInt8)×Int×(List Nd)×Int×(List Int)×(List Int)×Int×(List zRc)) (fun y=>match y with | (k,x26,x27,x28,x29,x30,x31,x32,x33,x35,x36,x37,x38,l39)=>⟨ofL [(2,nB a3),(3,pN a1A a1C a1D a1B),(7,.op 0 0),(9,.s (.sl 8 ((List.map zAl) l20))),(14,.s (.sl 1 (iL x36))),(15,.s (.sl 1 (iL x37))),(57,.s (.sl 1 ((List.map zAF) y23))),(58,nI (y23.length:Int)),(59,nI x38)],ofH [(0,.box 68 [nI x26,nS x27,nI x28,.s (.sl 4 (Nd.encs x29)),nI x30,nS x31,nI x32,.s (.sl 4 (Nd.encs x33)),.orow 1,nI x35]),(1,.row 40 5 ((List.map zAi) l39))],2⟩) (fun y=>zBg n a1A a1C a1D a1B a3 l20 y23 y.1 y.2.1 y.2.2.1 y.2.2.2.1 y.2.2.2.2.1 y.2.2.2.2.2.1 y.2.2.2.2.2.2.1 y.2.2.2.2.2.2.2.1 y.2.2.2.2.2.2.2.2.1 y.2.2.2.2.2.2.2.2.2.1 y.2.2.2.2.2.2.2.2.2.2.1 y.2.2.2.2.2.2.2.2.2.2.2.1 y.2.2.2.2.2.2.2.2.2.2.2.2.1 y.2.2.2.2.2.2.2.2.2.2.2.2.2=some fl) (fun y=>y.1) (n,w14Z,w14Aa,w14Ab,w14Ac,w14Ad,w14Ae,w14Af,w14Ag,w14T,[],[],0,w14W) hl ?_ ?_)
       ·exact kS
       ·rintro⟨k,x26,x27,x28,x29,x30,x31,x32,x33,x35,x36,x37,x38,l39⟩ h;cases k with
        | zero=>cases h
        | succ k =>
         replace h:zBg n a1A a1C a1D a1B a3 l20 y23 (k+1) x26 x27 x28 x29 x30 x31 x32 x33 x35 x36 x37 x38 l39=some fl:=h;rw[zBg]at h;refine yCp ?_;refine zAa<|zAf rfl h (fun hb h=>?_) (fun hb h=>?_)
         ·refine zAe<|zAa<|zAk<|yBn [] [61] rfl ?_;obtain⟨e40,he40,h⟩:=zAc h;refine And.intro (zAq (fun _=>rfl) he40).1 ?_;intro r41 hr41;obtain rfl:[.sl 1 (iL e40)]=r41:=(hr41.trans (zAq (fun _=>rfl) he40).2.1).symm;refine yCp ?_;obtain⟨y42,hy42,h⟩:=zAc h;refine⟨_,⟨_,_,_,_,_,hy42,rfl,rfl⟩,?_⟩
          refine yCp ?_;obtain⟨y43,hy43,h⟩:=zAc h;refine⟨_,⟨_,_,_,hy43,rfl,rfl⟩,?_⟩
          obtain⟨y44,hy44,h⟩:=zAc h;refine⟨_,⟨_,_,_,_,_,hy44,rfl,rfl⟩,?_⟩
          refine zAa<|zAa ?_;obtain⟨⟨x45,x46,x47,x48,x49,x50,x51,x52,x53,x54,l55⟩,hj,h⟩:=zAc h
          refine zAm ⟨ofL [(2,nB a3),(3,pN a1A a1C a1D a1B),(7,.op 0 0),(9,.s (.sl 8 ((List.map zAl) l20))),(18,.s (.sl 1 (iL y42))),(19,.s (.sl 1 (iL y44))),(57,.s (.sl 1 ((List.map zAF) y23))),(58,nI (y23.length:Int)),(59,nI x38),(94,nB x45)],ofH [(0,.box 68 [nI x46,nS x47,nI x48,.s (.sl 4 (Nd.encs x49)),nI x50,nS x51,nI x52,.s (.sl 4 (Nd.encs x53)),.orow 1,nI x54]),(1,.row 40 5 ((List.map zAi) l55))],2⟩ ?_ (fun σ' hle=>?_)
          ·replace h:=hj;refine zAb [] [77,83,89] rfl ?_;obtain⟨⟨⟨y56A,y56C,y56D,y56B⟩,⟨⟨w57Z,w57Aa,w57Ab,w57Ac⟩,⟨w57Ad,w57Ae,w57Af,w57Ag⟩,w57W,w57T⟩⟩,hy56,h⟩:=zAc h;refine⟨_,_,⟨_,_,_,_,_,_,_,_,_,_,_,_,_,_,_,_,_,_,_,_,_,hy56,rfl,rfl,rfl,rfl⟩,?_⟩
           obtain⟨y58,hy58,h⟩:=zAc h;refine⟨_,⟨_,_,_,_,hy58,rfl,rfl⟩,?_⟩
           intro b hb;cases b with
           | true =>
            replace h:=zAw hb.symm h;intro b hb;subst hb;intro b hb;subst hb;exact kQ
           | false =>
            replace h:=zAv hb.symm h;obtain⟨y59,hy59,h⟩:=zAc h;refine⟨_,⟨_,_,_,_,hy59,rfl,rfl⟩,?_⟩
            intro b hb;cases b with
            | true =>
             replace h:=zAw hb.symm h;intro b hb;subst hb;exact kQ
            | false =>
             replace h:=zAv hb.symm h;obtain⟨y60,hy60,h⟩:=zAc h;refine⟨_,⟨_,_,_,_,hy60,rfl,rfl⟩,?_⟩
             intro b hb;cases b with
             | true =>
              replace h:=zAw hb.symm h;exact kQ
             | false =>
              replace h:=zAv hb.symm h;obtain⟨y61,hy61,h⟩:=zAc h;refine⟨_,⟨_,_,_,_,hy61,rfl,rfl⟩,?_⟩
              exact kQ
          ·refine zAh hle<|zAf rfl h (fun hb h=>?_) (fun hb h=>?_)
           ·exact jE
           ·refine zAe<|yCo ?_;refine yCo ?_;refine⟨(k,x46,x47,x48,x49,x50,x51,x52,x53,x54,y42,y44,i64.wrap (x38+1),l55),h,(Le.rnq [(0,0),(1,1)] _ _ _),Nat.lt_succ_self k⟩
         ·refine zAD ?_;cases h;exact⟨_,rfl,(Le.rnq [] _ [] 0)⟩
      ·exact jF
variable {φ:Prop}
theorem zAH  [Decidable φ] (h:φ):decide φ=true:=decide_eq_true h
theorem zAE  [Decidable φ] (h:¬ φ):decide φ=false:=decide_eq_false h
theorem zJP {F:Nd->Option Int}{ks:List Nd} (hF:∀ v∈ks,F v=some (v.cnt:Int)) :
  ∀ (k i:Nat) (o:Nat),ks.length - i<k->i<=ks.length->o+Nd.cnts (ks.drop i)<=1073741824->ks.length<=1073741824->zCM F ks k (o:Int) (i:Int)=some ((o+Nd.cnts (ks.drop i):Nat):Int)
 | 0,_,_,h,_,_,_=>by omega
 | k+1,i,o,hk,hi,ho,hl=>by
  unfold zCM
  by_cases h:i<ks.length
  ·rw[zAH (Int.ofNat_lt.2 h),cond_true,zAK h]
   have hd:=Nd.cnts_drop h;have hf:=hF _ (getElem_mem h)
   rcases e:ks[i] with ⟨a,b,c,d⟩
   rw[e]at hd hf;simp only[obs,hf]
   rw[wrap64_in (by omega) (by omega),zAL (by omega),← Int.natCast_add,zJP hF k (i+1) _ (by omega) (by omega) (by omega) hl,hd]
   congr 2; omega
  ·rw[zAE (by omega),cond_false]
   obtain rfl:i=ks.length :=(by omega);simp[Nd.cnts]
theorem zMw:∀ (n:Nat) (t:Nd),t.cnt<n->t.cnt<=67108864->zDd n t=some (t.cnt:Int)
 | 0,_,h,_=>by omega
 | n+1,.mk a b c ks,h,hb=>by
  simp only[Nd.cnt]at h hb;have hl:=Nd.cnts_len ks;unfold zDd;have:=zJP (F:=zDd n) (ks:=ks) (fun v hv=>zMw n v (by have:=Nd.cnts_mem hv; omega) (by have:=Nd.cnts_mem hv; omega)) n 0 1 (by omega) (by omega) (by simp; omega) (by omega)
  rw[show((0:Nat):Int)=0 from rfl,show((1:Nat):Int)=1 from rfl]at this;rw[this]
  simp only[obs,drop_zero,Nd.cnt]
  congr 2; omega
theorem zS2 {F:Nd->Int->Option Int}{ks:List Nd}{b:Nat} (hF:∀ (v:Nd) (m:Nat),m<=b->∃ r,F v (m:Int)=some r/\-1<=r/\r<m/\(0<=r->r+v.cnt=m)) :
  ∀ (k i:Nat) (m:Int),m+1<k->-1<=m->m<=b->i<=ks.length->(i:Int)+m<4611686018427387904->∃ r,zCG F ks k m (i:Int)=some r/\-1<=r/\r<=m/\(0<=r->r+Nd.cnts (ks.drop i)=m)
 | 0,_,_,h,_,_,_,_=>by omega
 | k+1,i,m,hk,hm,hb,hi,hx=>by
  unfold zCG
  by_cases h:i<ks.length
  ·rw[zAH (Int.ofNat_lt.2 h),cond_true]
   simp only[obs]
   by_cases h0:0<=m
   ·rw[zAH h0,cond_true,zAK h]
    have hd:=Nd.cnts_drop h;rcases e:ks[i] with ⟨e1,e2,e3,e4⟩
    rw[e]at hd;simp only[obs]
    obtain⟨m',rfl⟩:=Int.eq_ofNat_of_zero_le h0;obtain⟨r,h1,h2,h3,h4⟩:=hF (.mk e1 e2 e3 e4) m' (by omega)
    rw[h1,obs,zAL (by omega)]
    obtain⟨r',g1,g2,g3,g4⟩:=zS2 (ks:=ks) hF k (i+1) r (by omega) h2 (by omega) (by omega) (by omega)
    exact⟨r',g1,g2,by omega,fun g=>by have:=g4 g; have:=h4 (by omega); omega⟩
   ·rw[zAE h0,cond_false]
    exact⟨m,rfl,hm,Int.le_refl _,fun g=>by omega⟩
  ·rw[zAE (by omega),cond_false]
   simp only[obs,cond_false]
   obtain rfl:i=ks.length :=(by omega);exact⟨m,rfl,hm,Int.le_refl _,fun _=>by simp[Nd.cnts]⟩
theorem left_eq:∀ (n:Nat) (t:Nd) (m:Nat),m+1<n->m<=67108864->∃ r,zD4 n t (m:Int)=some r/\-1<=r/\r<m/\(0<=r->r+t.cnt=m)
 | 0,_,_,h,_=>by omega
 | n+1,.mk a b c ks,m,h,hm=>by
  unfold zD4;rw[wrap64_in (by omega) (by omega)]
  cases m with
  | zero =>
   cases n with
   | zero=>omega
   | succ n =>
    refine⟨-1,?_,by omega,by omega,fun h=>by omega⟩
    unfold zCG;cases decide (((0:Nat):Int)<(ks.length:Int)) <;> simp <;> rfl
  | succ m =>
   obtain⟨r,h1,h2,h3,h4⟩:=zS2 (F:=zD4 n) (ks:=ks) (b:=m) (fun v q hq=>left_eq n v q (by omega) (by omega)) n 0 (m:Int) (by omega) (by omega) (by omega) (by omega) (by omega)
   rw[show((0:Nat):Int)=0 from rfl]at h1;rw[show((m+1:Nat):Int) - 1=(m:Int) by omega,h1]
   exact⟨r,rfl,h2,by omega,fun g=>by have:=h4 g; rw[drop_zero]at this; simp only[Nd.cnt]; omega⟩
theorem zW7 (n:Nat) (t:Nd) (m:Nat) (h:m+1<n) (hm:m<=67108864):∃ b,zGy n t (m:Int)=some b/\(b=true->t.cnt<=m):=by
 obtain⟨a,b,c,ks⟩:=t;obtain⟨r,h1,h2,h3,h4⟩:=left_eq n (.mk a b c ks) m h hm;refine⟨decide (0<=r),by simp[zGy,h1],fun g=>by have g0:=of_decide_eq_true g; have:=h4 g0; omega⟩
variable {α:Type}
def zQs  (p:α->Bool) (l:List α):Fl Bool Unit:=if l.all p then .go () else .ret false
theorem zZc {p:α->Bool}{l:List α}{i:Nat} (h:i<l.length):(l.drop i).all p=(p l[i]&&(l.drop (i+1)).all p):=by
 exact kK
theorem zZd {p:α->Bool}{l:List α}{i:Nat} (h:i<l.length):(l.drop i).any p=(p l[i]||(l.drop (i+1)).any p):=by
 exact kK
theorem zI5 {α:Type}{p:α->Bool}{l:List α} (L:Nat->Int->Option (Fl Bool Unit)) (hb:l.length<=1073741824)
  (h1:∀ (k i:Nat) (h:i<l.length),L (k+1) (i:Int)=if p l[i] then L k (((i+1:Nat)):Int) else some (.ret false)) (h2:∀ k,L (k+1) (l.length:Int)=some (.go ())) :
  ∀ (k i:Nat),l.length - i<k->i<=l.length->L k (i:Int)=some (zQs p (l.drop i))
 | 0,_,h,_=>by omega
 | k+1,i,hk,hi=>by
  by_cases h:i<l.length
  ·rw[h1 k i h,zI5 L hb h1 h2 k (i+1) (by omega) (by omega)]
   unfold zQs;rw[zZc h]
   cases p l[i] <;> simp
  ·obtain rfl:i=l.length :=(by omega);rw[h2]; simp[zQs]
theorem zQO {α:Type}{p:α->Bool}{l:List α} (L:Nat->Int->Option (Fl Bool Unit)) (hb:l.length<=1073741824)
  (h1:∀ (k i:Nat) (h:i<l.length),L (k+1) (i:Int)=if p l[i] then some (.ret true) else L k (((i+1:Nat)):Int)) (h2:∀ k,L (k+1) (l.length:Int)=some (.go ())) :
  ∀ (k i:Nat),l.length - i<k->i<=l.length->L k (i:Int)=some (if (l.drop i).any p then .ret true else .go ())
 | 0,_,h,_=>by omega
 | k+1,i,hk,hi=>by
  by_cases h:i<l.length
  ·rw[h1 k i h,zQO L hb h1 h2 k (i+1) (by omega) (by omega),zZd h]
   cases p l[i] <;> simp
  ·obtain rfl:i=l.length :=(by omega);rw[h2]; simp
theorem zP6 {P:UInt8->Bool} (h:(List.range 256).all (fun n=>P n.toUInt8)=true) (b:UInt8):P b=true:=by
 have:P (UInt8.ofNat b.toNat)=true:=List.all_eq_true.1 h b.toNat (List.mem_range.2 b.toNat_lt)
 rwa [UInt8.ofNat_toNat]at this
def zDH (b:UInt8):Bool:=(decide (97<=b.toNat)&&decide (b.toNat<=122))||(decide (65<=b.toNat)&&decide (b.toNat<=90))
def zEf (b:UInt8):Bool:=decide (48<=b.toNat)&&decide (b.toNat<=57)
def zHz (b:UInt8):Bool:=decide (32<=b.toNat)&&decide (b.toNat<=126)
theorem zSy (b:UInt8):(bif decide ((zNy .or .u8 (b.toNat:Int) 32)<97) then some true else some (decide (122<(zNy .or .u8 (b.toNat:Int) 32))))=some (!zDH b) :=
 of_decide_eq_true (zP6 (P:=fun b=>decide ((bif decide ((zNy .or .u8 (b.toNat:Int) 32)<97) then some true else some (decide (122<(zNy .or .u8 (b.toNat:Int) 32))))=some (!zDH b))) (by decide +kernel) b)
theorem zMg (b:UInt8):zEL (b.toNat:Int)=some (zDH b) :=
 of_decide_eq_true (zP6 (P:=fun b=>decide (zEL (b.toNat:Int)=some (zDH b))) (by decide +kernel) b)
theorem zUj (b:UInt8):zGx (b.toNat:Int)=some (zEf b) :=
 of_decide_eq_true (zP6 (P:=fun b=>decide (zGx (b.toNat:Int)=some (zEf b))) (by decide +kernel) b)
theorem zNY (n:Nat) (s:List UInt8) (h:s.length<n) (hb:s.length<=1073741824):zDs n s=some (s.all zDH):=by
 have:=zI5 (p:=zDH) (l:=s) (zBB s) hb (fun k i h=>by
  rw[zBB,zAH (Int.ofNat_lt.2 h),cond_true,zAK h]
  simp only[obs,zSy]
  rw[zAL (by omega)]
  cases zDH s[i] <;> rfl) (fun k=>by rw[zBB,zAE (by omega)]; rfl) n 0 (by omega) (by omega)
 rw[show((0:Nat):Int)=0 from rfl,drop_zero]at this;rw[zDs,this]
 unfold zQs;cases s.all zDH <;> rfl
theorem zO9 (n:Nat) (s:List UInt8) (h:s.length<n) (hb:s.length<=1073741824):zBJ s n 0=some (zQs zDH s):=by
 have:=zI5 (p:=zDH) (l:=s) (zBJ s) hb (fun k i h=>by
  rw[zBJ,zAH (Int.ofNat_lt.2 h),cond_true,zAK h]
  simp only[obs,zMg]
  rw[zAL (by omega)]
  cases zDH s[i] <;> rfl) (fun k=>by rw[zBJ,zAE (by omega)]; rfl) n 0 (by omega) (by omega)
 rwa [show((0:Nat):Int)=0 from rfl,drop_zero]at this
theorem zPU (n:Nat) (s:List UInt8) (c:Int) (h:s.length<n) (hb:s.length<=1073741824):zDM n s c=some (s.any fun b=>(b.toNat:Int) == c):=by
 have:=zQO (p:=fun b=>(b.toNat:Int) == c) (l:=s) (zCZ s c) hb (fun k i h=>by
  rw[zCZ,zAH (Int.ofNat_lt.2 h),cond_true,zAK h]
  simp only[obs]
  rw[zAL (by omega)]
  cases((s[i].toNat:Int) == c) <;> rfl) (fun k=>by rw[zCZ,zAE (by omega)]; rfl) n 0 (by omega) (by omega)
 rw[show((0:Nat):Int)=0 from rfl,drop_zero]at this;rw[zDM,this]
 cases s.any fun b=>(b.toNat:Int) == c <;> rfl
theorem zOe (n:Nat) (l:List (List UInt8)) (s:List UInt8) (h:l.length<n) (hb:l.length<=1073741824):zFp n l s=some (l.any fun e=>e == s):=by
 have:=zQO (p:=fun e=>e == s) (l:=l) (zDK l s) hb (fun k i h=>by
  rw[zDK,zAH (Int.ofNat_lt.2 h),cond_true,zAK h]
  simp only[obs]
  rw[zAL (by omega)]
  cases(l[i] == s) <;> rfl) (fun k=>by rw[zDK,zAE (by omega)]; rfl) n 0 (by omega) (by omega)
 rw[show((0:Nat):Int)=0 from rfl,drop_zero]at this;rw[zFp,this]
 cases l.any fun e=>e == s <;> rfl
theorem zHe (n:Nat) (s:List UInt8) (h:s.length<n) (hb:s.length<=1073741824):zD1 n s=some (s.all zEf&&!(s == [])):=by
 have:=zI5 (p:=zEf) (l:=s) (zBM s) hb (fun k i h=>by
  rw[zBM,zAH (Int.ofNat_lt.2 h),cond_true,zAK h]
  simp only[obs]
  rw[zAL (by omega)]
  unfold zEf
  by_cases a:48<=s[i].toNat
  ·by_cases b:s[i].toNat<=57
   ·simp[a,b,show ¬ ((s[i].toNat:Int)<48) by omega,show ¬ (57<(s[i].toNat:Int)) by omega]
   ·simp[a,b,show ¬ ((s[i].toNat:Int)<48) by omega,show(57<(s[i].toNat:Int)) by omega]
  ·simp[a,show((s[i].toNat:Int)<48) by omega]) (fun k=>by rw[zBM,zAE (by omega)]; rfl) n 0 (by omega) (by omega)
 rw[show((0:Nat):Int)=0 from rfl,drop_zero]at this;rw[zD1,this]
 unfold zQs;cases s.all zEf <;> rfl
theorem zTx (b:UInt8):(bif decide ((b.toNat:Int)<32) then some true else some (decide (126<(b.toNat:Int))):Option Bool)=some (!zHz b):=by
 unfold zHz
 by_cases a:32<=b.toNat
 ·by_cases c:b.toNat<=126
  ·simp[a,c,show ¬ ((b.toNat:Int)<32) by omega,show ¬ (126<(b.toNat:Int)) by omega]
  ·simp[a,c,show ¬ ((b.toNat:Int)<32) by omega,show(126<(b.toNat:Int)) by omega]
 ·simp[a,show((b.toNat:Int)<32) by omega]
theorem zQ0 (n:Nat) (s:List UInt8) (h:s.length<n) (hb:s.length<=1073741824):zFF n s=some (s.all zHz&&decide ((s.length:Int)<=200)):=by
 have:=zI5 (p:=zHz) (l:=s) (zBS s) hb (fun k i h=>by
  rw[zBS,zAH (Int.ofNat_lt.2 h),cond_true,zAK h]
  simp only[obs,zTx]
  rw[zAL (by omega)]
  cases zHz s[i] <;> rfl) (fun k=>by rw[zBS,zAE (by omega)]; rfl) n 0 (by omega) (by omega)
 rw[show((0:Nat):Int)=0 from rfl,drop_zero]at this;rw[zFF,this]
 unfold zQs;cases s.all zHz <;> rfl
theorem zMP (n:Nat) (s:List UInt8) (h:s.length<n) (hb:s.length<=1073741824):zDL n s=some (s.all zHz):=by
 have:=zI5 (p:=zHz) (l:=s) (zBn s) hb (fun k i h=>by
  rw[zBn,zAH (Int.ofNat_lt.2 h),cond_true,zAK h]
  simp only[obs,zTx]
  rw[zAL (by omega)]
  cases zHz s[i] <;> rfl) (fun k=>by rw[zBn,zAE (by omega)]; rfl) n 0 (by omega) (by omega)
 rw[show((0:Nat):Int)=0 from rfl,drop_zero]at this;rw[zDL,this]
 unfold zQs;cases s.all zHz <;> rfl
def spL:List UInt8:=[43,45,42,47,61,60,62,44,59,58,33,124,39,63,126,64]
def fsL:List UInt8:=[40,41,91,93,123,125,60,62,47,124,46]
def kwL:List (List UInt8):=[[102,114,97,99],[114,111,111,116],[109,97,116,114,105,120],[102,101,110,99,101]]
def acL:List (List UInt8):=[[104,97,116],[98,97,114],[118,101,99],[100,111,116],[116,105,108,100,101],[99,104,101,99,107]]
def spB (c:UInt8):Bool:=decide (0<=Lib.indexByte spL c)
def fsB (c:UInt8):Bool:=decide (0<=Lib.indexByte fsL c)
theorem yAH (c:UInt8):(spL.any fun b=>(b.toNat:Int) == (c.toNat:Int))=spB c :=
 of_decide_eq_true (zP6 (P:=fun c=>decide ((spL.any fun b=>(b.toNat:Int) == (c.toNat:Int))=spB c)) (by decide +kernel) c)
theorem yAG (c:UInt8):(([40,41,91,93,123,125,124,60,62,47,46]:List UInt8).any fun b=>(b.toNat:Int) == (c.toNat:Int))=fsB c :=
 of_decide_eq_true (zP6 (P:=fun c=>decide ((([40,41,91,93,123,125,124,60,62,47,46]:List UInt8).any fun b=>(b.toNat:Int) == (c.toNat:Int))=fsB c)) (by decide +kernel) c)
theorem zZg (c:UInt8):Lib.indexByte fsL ((c.toNat:Int).toNat.toUInt8)=Lib.indexByte fsL c:=by
 rw[Int.toNat_natCast]; congr 1; exact UInt8.ofNat_toNat
theorem zOQ (e s:List UInt8):(e == s)=(s == e):=by
 rw[Bool.eq_iff_iff]; simp only[beq_iff_eq]; exact eq_comm
theorem zNX (s:List UInt8):zEm s=some (kwL.any fun e=>e == s):=by
 simp only[zEm,kwL,any_cons,any_nil,zOQ [102,114,97,99] s,zOQ [114,111,111,116] s,zOQ [109,97,116,114,105,120] s,zOQ [102,101,110,99,101] s]
 generalize (s == [102,114,97,99])=b1;generalize (s == [114,111,111,116])=b2;generalize (s == [109,97,116,114,105,120])=b3;generalize (s == [102,101,110,99,101])=b4;cases b1 <;> cases b2 <;> cases b3 <;> cases b4 <;> rfl
theorem zJK (s:List UInt8):zD0 s=some (acL.any fun e=>e == s):=by
 simp only[zD0,acL,any_cons,any_nil,zOQ [104,97,116] s,zOQ [98,97,114] s,zOQ [118,101,99] s,zOQ [100,111,116] s,zOQ [116,105,108,100,101] s,zOQ [99,104,101,99,107] s]
 generalize (s == [104,97,116])=b1;generalize (s == [98,97,114])=b2;generalize (s == [118,101,99])=b3;generalize (s == [100,111,116])=b4;generalize (s == [116,105,108,100,101])=b5;generalize (s == [99,104,101,99,107])=b6;cases b1 <;> cases b2 <;> cases b3 <;> cases b4 <;> cases b5 <;> cases b6 <;> rfl
def symB (s:List UInt8):Bool :=
 if s.length=1 then s.all zDH||s.all spB
 else s.all zDH&&(decide (2<=s.length)&&(decide (s.length<=16)&&(!(kwL.any fun e=>e == s)&&!(acL.any fun e=>e == s))))
theorem len1 (s:List UInt8):((s.length:Int) == 1)=decide (s.length=1):=by
 by_cases h:s.length=1
 ·simp[h]
 ·rw[zAE h]
  cases e:((s.length:Int) == 1) with
  | false=>rfl
  | true=>have:=eq_of_beq e; omega
theorem zGq (a b:Nat):decide ((a:Int)<=(b:Int))=decide (a<=b):=by
 by_cases h:a<=b
 ·rw[zAH h,zAH (by omega)]
 ·rw[zAE h,zAE (by omega)]
theorem zXt (a b:Nat):decide ((a:Int)<(b:Int))=decide (a<b):=by
 by_cases h:a<b
 ·rw[zAH h,zAH (by omega)]
 ·rw[zAE h,zAE (by omega)]
theorem kW {P:Prop} (h:P:=by cases s.all zDH <;> cases decide (2<=s.length) <;> cases decide (s.length<=16) <;> cases(kwL.any fun e=>e == s) <;> rfl):P:=h
theorem zOU (n:Nat) (s:List UInt8) (h:s.length+40<n) (hb:s.length<=1073741824):zEY n s=some (symB s):=by
 rw[zEY,len1,zNY n s (by omega) hb]
 unfold symB
 by_cases h1:s.length=1
 ·rw[zAH h1,if_pos h1]
  obtain⟨c,rfl⟩:=List.length_eq_one_iff.1 h1;have:zE1 [43,45,42,47,61,60,62,44,59,58,33,124,39,63,126,64] [c]=some (spB c):=rfl;simp only[cond_true,obs,this,all_cons,all_nil,Bool.and_true]
  cases zDH c <;> rfl
 ·rw[zAE h1,if_neg h1]
  have e2:=zGq 2 s.length;have e16:=zGq s.length 16;rw[show((2:Nat):Int)=2 from rfl]at e2;rw[show((16:Nat):Int)=16 from rfl]at e16;simp only[cond_false,obs,zNX,zJK,e2,e16]
  exact kW
theorem zRx (n:Nat) (s:List UInt8) (h:s.length+40<n) (hb:s.length<=1073741824):zFI n s=some (symB s):=by
 rw[zFI,len1,zO9 n s (by omega) hb]
 unfold symB
 by_cases h1:s.length=1
 ·rw[zAH h1,if_pos h1]
  obtain⟨c,rfl⟩:=List.length_eq_one_iff.1 h1;have e1:at? [c] (0:Int)=some c:=rfl;have e2:zDM n [43,45,42,47,61,60,62,44,59,58,33,124,39,63,126,64] (c.toNat:Int)=some (spB c):=by
   rw[zPU n _ _ (by simp only[length_cons,length_nil]; omega) (by simp only[length_cons,length_nil]; omega)]
   exact congrArg some (yAH c)
  simp only[cond_true,obs,e1,zEZ,zMg,e2,all_cons,all_nil,Bool.and_true]
  cases zDH c <;> rfl
 ·rw[zAE h1,if_neg h1]
  have e2:=zGq 2 s.length;have e16:=zGq s.length 16;rw[show((2:Nat):Int)=2 from rfl]at e2;rw[show((16:Nat):Int)=16 from rfl]at e16;have ek:zFp n kwL s=some (kwL.any fun e=>e == s):=zOe n kwL s (by simp only[kwL,length_cons,length_nil]; omega) (by simp[kwL])
  have ea:zFp n acL s=some (acL.any fun e=>e == s):=zOe n acL s (by simp only[acL,length_cons,length_nil]; omega) (by simp[acL])
  have k1:zFq=some kwL:=rfl;have a1:zD2=some acL:=rfl;unfold zQs;simp only[cond_false,obs,k1,a1,ek,ea,e2,e16]
  exact kW
def fenB (s:List UInt8):Bool:=decide (s.length=2)&&s.all fsB
theorem len2 (s:List UInt8):((s.length:Int) == 2)=decide (s.length=2):=by
 by_cases h:s.length=2
 ·simp[h]
 ·rw[zAE h]
  cases e:((s.length:Int) == 2) with
  | false=>rfl
  | true=>have:=eq_of_beq e; omega
theorem zQZ (s:List UInt8):zFE s=some (fenB s):=by
 rw[zFE,len2]
 unfold fenB
 by_cases h1:s.length=2
 ·rw[zAH h1]
  match s,h1 with
  | [c,d],_ =>
   have e0:at? [c,d] (0:Int)=some c:=rfl;have e1:at? [c,d] (1:Int)=some d:=rfl;have f:∀ c:UInt8,zDh [40,41,91,93,123,125,60,62,47,124,46] (c.toNat:Int)=some (Lib.indexByte fsL c):=fun c=>congrArg some (zZg c)
   have g:∀ c:UInt8,decide (0<=Lib.indexByte fsL c)=fsB c:=fun c=>rfl
   simp only[cond_true,e0,e1,f,obs,g,all_cons,all_nil,Bool.and_true,Bool.true_and]
   cases fsB c <;> rfl
 ·rw[zAE h1]; rfl
theorem zTy (n:Nat) (s:List UInt8) (h:40<n):(bif ((s.length:Int) == 2) then (
        (at? s 0).bind fun c9 =>
        (zDM n [40,41,91,93,123,125,124,60,62,47,46] (c9.toNat:Int)).bind fun y11 =>
        bif y11 then (
         (at? s 1).bind fun c12 =>
         (zDM n [40,41,91,93,123,125,124,60,62,47,46] (c12.toNat:Int)).bind fun y14 =>
         some y14
        ) else (
         some false
        )
       ) else (
        some false
       ))=some (fenB s):=by
 rw[len2]
 unfold fenB
 by_cases h1:s.length=2
 ·rw[zAH h1]
  match s,h1 with
  | [c,d],_ =>
   have e0:at? [c,d] (0:Int)=some c:=rfl;have e1:at? [c,d] (1:Int)=some d:=rfl;have f:∀ c:UInt8,zDM n [40,41,91,93,123,125,124,60,62,47,46] (c.toNat:Int)=some (fsB c):=fun c=>by
    rw[zPU n _ _ (by simp only[length_cons,length_nil]; omega) (by simp only[length_cons,length_nil]; omega)]
    exact congrArg some (yAG c)
   simp only[cond_true,e0,e1,f,obs,all_cons,all_nil,Bool.and_true,Bool.true_and]
   cases fsB c <;> rfl
 ·rw[zAE h1]; rfl
def okL (L:Nat):Nat->List UInt8->Bool
 | _,[]=>true
 | i,c::r=>((c == 46&&(decide (0<i)&&decide (i+1<L)))||zEf c)&&okL L (i+1) r
def numB (s:List UInt8):Bool:=okL s.length 0 s&&(decide (0<s.length)&&(decide (s.length<=20)&&decide (s.count 46<=1)))
theorem yBF (c:UInt8):((c.toNat:Int) == 46)=(c == 46) :=
 of_decide_eq_true (zP6 (P:=fun c=>decide (((c.toNat:Int) == 46)=(c == 46))) (by decide +kernel) c)
theorem yAQ:zEf 46=false:=by decide
theorem zQ1 (s:List UInt8) (hb:s.length<=1073741824):∀ (k i p:Nat),s.length - i<k->i<=s.length->p<=i ->
  zCr s k (p:Int) (i:Int)=some (if okL s.length i (s.drop i) then .go ((p+(s.drop i).count 46:Nat):Int) else .ret false)
 | 0,_,_,h,_,_=>by omega
 | k+1,i,p,hk,hi,hp=>by
  unfold zCr
  by_cases h:i<s.length
  ·rw[zAH (Int.ofNat_lt.2 h),cond_true,zAK h,drop_eq_getElem_cons h]
   generalize s[i]=c;simp only[obs,yBF,zUj,okL,count_cons]
   rw[zAL (by omega),zAL (by omega),wrap64_in (by omega) (by omega)]
   have d1:decide ((0:Int)<(i:Int))=decide (0<i):=zXt 0 i;have d2:decide ((i:Int)<(s.length:Int) - 1)=decide (i+1<s.length):=by
    by_cases h:i+1<s.length
    ·rw[zAH h,zAH (by omega)]
    ·rw[zAE h,zAE (by omega)]
   rw[d1,d2]
   cases e:c == 46 with
   | true =>
    obtain rfl:c=46:=eq_of_beq e;simp only[cond_true,yAQ,Bool.true_and,Bool.or_false]
    cases decide (0<i) with
    | false=>rfl
    | true =>
     simp only[cond_true,obs,Bool.true_and]
     cases decide (i+1<s.length) with
     | false=>rfl
     | true =>
      simp only[cond_true,obs,Bool.true_and]
      rw[zQ1 s hb k (i+1) (p+1) (by omega) (by omega) (by omega)]
      simp only[if_true]
      rw[show p+1+(s.drop (i+1)).count 46=p+((s.drop (i+1)).count 46+1) by omega]
   | false =>
    simp only[cond_false,obs,Bool.false_and,Bool.false_or]
    cases zEf c with
    | false=>rfl
    | true =>
     simp only[Bool.not_true,cond_false,obs,Bool.true_and]
     rw[zQ1 s hb k (i+1) p (by omega) (by omega) (by omega)]
     simp
  ·rw[zAE (by omega),cond_false]
   obtain rfl:i=s.length :=(by omega);simp[okL]
theorem zRw (n:Nat) (s:List UInt8) (h:s.length<n) (hb:s.length<=1073741824):zFG n s=some (numB s):=by
 have:=zQ1 s hb n 0 0 (by omega) (by omega) (by omega)
 rw[show((0:Nat):Int)=0 from rfl,drop_zero]at this;rw[zFG,this]
 unfold numB;have e0:=zXt 0 s.length;have e20:=zGq s.length 20;have e1:=zGq (s.count 46) 1;rw[show((0:Nat):Int)=0 from rfl]at e0;rw[show((20:Nat):Int)=20 from rfl]at e20;rw[show((1:Nat):Int)=1 from rfl]at e1;cases okL s.length 0 s with
 | false=>rfl
 | true =>
  simp only[if_true,obs,e0,e20,Nat.zero_add,e1]
  cases decide (0<s.length) <;> cases decide (s.length<=20) <;> rfl
theorem zSG:∀ s:List UInt8,(s.count 46=0/\Lib.indexByte s 46 = -1)∨∃ a b,s=a++46::b/\a.count 46=0/\Lib.indexByte s 46=(a.length:Int)
 | []=>.inl ⟨rfl,rfl⟩
 | c::s=>by
  by_cases h:c=46
  ·subst h;exact .inr ⟨[],s,rfl,rfl,by simp[Lib.indexByte]⟩
  ·have hc:(c == 46)=false :=(by simpa using h);rcases zSG s with ⟨h1,h2⟩ | ⟨a,b,rfl,h1,h2⟩
   ·exact .inl ⟨by rw[count_cons,h1,hc]; rfl,by simp[Lib.indexByte,hc,h2]⟩
   ·refine .inr ⟨c::a,b,rfl,by rw[count_cons,h1,hc]; rfl,?_⟩
    have h3:((a.length:Int) == -1)=false:=by
     cases e:((a.length:Int) == -1) with
     | false=>rfl
     | true=>have:=eq_of_beq e; omega
    simp[Lib.indexByte,hc,h2,h3]
theorem zIL (L:Nat):∀ (i:Nat) (a:List UInt8),a.count 46=0->okL L i a=a.all zEf
 | _,[],_=>rfl
 | i,c::a,h=>by
  have hc:(c == 46)=false:=by
   cases e:c == 46 with
   | false=>rfl
   | true=>rw[count_cons,e]at h; simp at h
  rw[count_cons,hc]at h;rw[okL,hc,zIL L (i+1) a (by simpa using h)]
  simp
theorem zPO (L:Nat):∀ (i:Nat) (a b:List UInt8),okL L i (a++b)=(okL L i a&&okL L (i+a.length) b)
 | _,[],b=>by simp[okL]
 | i,c::a,b=>by
  simp only[cons_append,okL,zPO L (i+1) a b,length_cons,Bool.and_assoc,show i+1+a.length=i+(a.length+1) by omega]
theorem zQA:∀ a:List UInt8,a.all zEf=true->a.count 46=0
 | [],_=>rfl
 | c::a,h=>by
  simp only[all_cons,Bool.and_eq_true]at h;have hc:(c == 46)=false:=by
   cases e:c == 46 with
   | false=>rfl
   | true=>obtain rfl:c=46:=eq_of_beq e; simp[yAQ]at h
  rw[count_cons,hc,zQA a h.2]; rfl
theorem yA7 (a b:List UInt8) (ha:a.count 46=0):numB (a++46::b)=(decide ((a++46::b).length<=20)&&((a.all zEf&&!(a == []))&&(b.all zEf&&!(b == [])))):=by
 unfold numB;have hl:(a++46::b).length=a.length+(b.length+1) :=(by simp);rw[zPO,zIL _ _ a ha,hl]
 simp only[okL,yAQ,Bool.or_false,count_append,count_cons,ha,beq_self_eq_true,Bool.true_and,if_true,Nat.zero_add]
 have e1:decide (0<a.length) = !(a == []) :=(by cases a <;> rfl);have e2:decide (a.length+1<a.length+(b.length+1)) = !(b == []):=by
  cases b with
  | nil=>simp
  | cons c b=>simp
 have e3:decide (0<a.length+(b.length+1))=true:=zAH (by omega)
 rw[e1,e2,e3]
 cases hb:b.all zEf with
 | true =>
  rw[zIL _ _ b (zQA b hb),hb,zQA b hb]
  cases a.all zEf <;> cases a == [] <;> cases b == [] <;> cases decide (a.length+(b.length+1)<=20) <;> rfl
 | false =>
  cases hc:decide (b.count 46+1<=1) with
  | true =>
   have:b.count 46=0 :=(by have:=of_decide_eq_true hc; omega);rw[zIL _ _ b this,hb]
   cases a.all zEf <;> cases a == [] <;> cases b == [] <;> cases decide (a.length+(b.length+1)<=20) <;> rfl
  | false =>
   generalize okL _ _ b=z;cases z <;> cases a.all zEf <;> cases a == [] <;> cases b == [] <;> cases decide (a.length+(b.length+1)<=20) <;> rfl
theorem zX2 (s:List UInt8) (h:s.count 46=0):numB s=(decide (s.length<=20)&&(s.all zEf&&!(s == []))):=by
 unfold numB;rw[zIL _ _ s h,h]
 have e1:decide (0<s.length) = !(s == []) :=(by cases s <;> rfl);rw[e1]
 cases s.all zEf <;> cases s == [] <;> cases decide (s.length<=20) <;> rfl
theorem zOT (n:Nat) (s:List UInt8) (h:s.length<n) (hb:s.length<=1073741824):zDZ n s=some (numB s):=by
 have e20:=zGq s.length 20;rw[show((20:Nat):Int)=20 from rfl]at e20;have hi:zDi s [46]=some (Lib.indexByte s 46):=rfl;rcases zSG s with ⟨h1,h2⟩ | ⟨a,b,rfl,h1,h2⟩
 ·rw[zX2 s h1]
  simp only[zDZ,zE2,zCY,hi,h2,obs,show decide ((0:Int)<=-1)=false from rfl,cond_false,e20,zHe n s h hb]
  cases decide (s.length<=20) <;> cases(s.all zEf&&!(s == [])) <;> rfl
 ·have hl:(a++46::b).length=a.length+(b.length+1) :=(by simp);rw[yA7 a b h1]
  have w1:i64.wrap ((a.length:Int)+(([46]:List UInt8).length:Int))=((a.length+1:Nat):Int):=zAL (by omega)
  have t1:((a++46::b).take ((a.length:Int)).toNat).drop (0:Int).toNat=a :=(by simp);have t2:((a++46::b).take (((a++46::b).length:Int)).toNat).drop (((a.length+1:Nat):Int)).toNat=b:=by
   rw[Int.toNat_natCast,Int.toNat_natCast,take_length,drop_append]
   simp
  simp only[zDZ,zE2,zCY,hi,h2,obs,w1]
  rw[zAH (by omega),cond_true,zA5 (by omega),zA5 (by omega),t1,t2]
  simp only[obs,e20,zHe n a (by omega) (by omega),zHe n b (by omega) (by omega)]
  cases decide ((a++46::b).length<=20) <;> cases(a.all zEf&&!(a == [])) <;> cases(b.all zEf&&!(b == [])) <;> rfl
end Go.Proofs.YtbfnjnljboncgaaGreat
