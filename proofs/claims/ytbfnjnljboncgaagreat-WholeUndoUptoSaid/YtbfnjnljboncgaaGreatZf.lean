/-
  Joined out of: WuHA, WuHB, WuHC, WuHD, PDist, PMet, PPut, PPos, PDump, PNode, PRow, PWith, PWt, PLeast, PLeast2, PEdit1, PEdit2, PEdit3, PEdit4.
-/
import Derived.Lib.ItoaLen
import Derived.Test.YtbfnjnljboncgaaGreatZe
open List
open Go.IntKind (i16 i32 i64 i8 u16 u32 u64 u8)
open Go.Proofs.Tryz
set_option linter.unusedVariables false
set_option linter.defProp false
set_option linter.unusedSimpArgs false
set_option maxHeartbeats 2000000
set_option maxRecDepth 100000
namespace Go.Proofs.YtbfnjnljboncgaaGreat
section
def zTV (xs:List AV) (r:Ret):Prop:=∃ a0 y0,zAU a0=some y0/\xs=[.s (.sl 4 (Nd.encs a0))]/\r = .val (.agg ((Nd.enc y0).map .s))
def zCV:zAq:=zAr fun xs r=>zTV xs r
def zCS:PSound prog 25 zCV:=by
 have gok:=@gok0 prog;refine psq tokW call25 func25 rfl ?_;rintro xs r w0 G0 ⟨l1,y0,h,rfl,rfl⟩ _;rw[zAU]at h;refine yCZ [2] [] rfl ?_;exact gI
variable (n:Nat) (xs:List AV) (r:Ret)
def zG6:Prop:=∃ a0 a1 y0,zDO n a0 a1=some y0/\xs=(Zo a0 a1)/\r = .val (nI y0)
def zRt (n:Nat) (ih:PSound prog 48 (zAr (zG6 n))):PSound prog 48 (zAr (zG6 (n+1))):=by
 have gok:=gk1 ih<|gk0;refine psq tokW call48 func48 rfl ?_;rintro xs r w0 G0 ⟨⟨n1A,n1C,n1D,n1B⟩,most2,y0,h,rfl,rfl⟩ _;rw[zDO]at h;refine yEW ?_;refine yEW ?_;refine zAa<|yEW ?_;show Tri ..;obtain⟨most5,hl,h⟩:=zAc h;refine pL [(1,nI most5)] ?_ (fun V' hle=>?_)
 ·refine zAk (zAv (X:=Nat×Int×Int) (fun y=>match y with | (k,most3,i4)=>⟨ofL [(1,nI most3),(2,pN n1A n1C n1D n1B),(5,nI i4)],fun _=>none,0⟩) (fun y=>zCo (zDO n) n1B y.1 y.2.1 y.2.2=some most5) (fun y=>y.1) (n,i64.wrap (most2 - 1),0) hl ?_ ?_)
  ·exact Le.fgt
  rintro⟨k,most3,i4⟩ h;cases k with
  | zero=>cases h
  | succ k=>
  replace h:zCo (zDO n) n1B (k+1) most3 i4=some most5:=h;rw[zCo]at h;refine zAa<|zAa ?_;obtain⟨x6,hj,h⟩:=zAc h;refine pL [(1,nI most3),(2,pN n1A n1C n1D n1B),(5,nI i4),(16,nB x6)] ?_ (fun V' hle=>?_)
  ·replace h:=hj;refine zAb [] [11,13] rfl ?_;refine len1 Nd.encs_eq n1B ?_;refine nbS h (fun hb h=>?_) (fun hb h=>?_)
   ·exact jD
   exact jD
  refine zAj hle<|zAf rfl h (fun hb h=>?_) (fun hb h=>?_)
  ·refine zAe<|zAa<|zAk<|zAb [] [22] rfl ?_;obtain⟨⟨e8A,e8C,e8D,e8B⟩,he8,h⟩:=zAc h;refine at1 (nN e8A e8C e8D e8B) Nd.encs_eq he8 ?_;obtain⟨y10,hy10,h⟩:=zAc h;refine⟨_,⟨_,_,_,hy10,rfl,rfl⟩,?_⟩;refine yEV ?_;refine⟨(k,y10,i64.wrap (i4+1)),h,Le.fgt,ax k⟩
  refine zAy ?_;exact jD
 refine zAj hle<|yEW ?_;exact jN
def zSi:∀ n,PSound prog 48 (zAr (zG6 n)):=by
 intro n;induction n with
 | zero=>exact zCz call48 (fun xs r h=>by obtain⟨_,_,_,h,_⟩:=h; cases h)
 | succ n ih=>exact zRt n ih
def zPj:zAq:=pG zG6
def zUE:PSound prog 48 zPj:=zDf zSi
def zXs:Prop:=∃ a0 a1 y0,zGl n a0 a1=some y0/\xs=(Zo a0 a1)/\r = .val (nB y0)
def zKh:zAq:=pG zXs
def zLs:PSound prog 24 zKh:=by
 have gok:=gk1 zUE<|gk0;refine psq tokW call24 func24 rfl ?_;rintro xs r w0 G0 ⟨n,⟨n1A,n1C,n1D,n1B⟩,most2,y0,h,rfl,rfl⟩ _;rw[zGl]at h;refine yEW ?_;refine yEW ?_;obtain⟨y3,hy3,h⟩:=zAc h;refine⟨_,⟨_,_,_,_,hy3,rfl,rfl⟩,?_⟩;exact jN
def zBc (p:(Int×List Nd×Int×List UInt8×Bool)):List S:=[.int .i64 p.1,.sl 4 (Nd.encs p.2.1),.int .i64 p.2.2.1,.str p.2.2.2.1,.bool p.2.2.2.2]
def zXx:Prop:=∃ a0 y0,zIv n a0=some y0/\xs=[.agg ((zBc a0).map .s)]/\r = .val (nB y0)
def zR8:zAq:=pG zXx
def zWW:PSound prog 23 zR8:=by
 have gok:=gk1 zCS<|gk1 zLs<|gk0;refine psq tokW call23 func23 rfl ?_;rintro xs r w0 G0 ⟨n,⟨x1A,x1Ai,x1W,x1C,x1Ba⟩,y0,h,rfl,rfl⟩ _;rw[zIv]at h;refine yEW ?_;refine zAa ?_;obtain⟨x2,hj,h⟩:=zAc h;refine pL [(2,nB x2)] ?_ (fun V' hle=>?_)
 ·replace h:=hj;refine zAb [] [7] rfl ?_;obtain⟨⟨y3A,y3C,y3D,y3B⟩,hy3,h⟩:=zAc h;refine⟨_,⟨_,_,hy3,rfl,rfl⟩,?_⟩;obtain⟨y4,hy4,h⟩:=zAc h;refine⟨_,⟨_,_,_,_,hy4,rfl,rfl⟩,?_⟩;refine nbS h (fun hb h=>?_) (fun hb h=>?_)
  ·exact jD
  exact jD
 exact jP
def zT6:Prop:=∃ a0 y0,zHB n a0=some y0/\xs=[.agg ((Nd.enc a0).map .s)]/\r = .val (nB y0)
def zNo:zAq:=pG zT6
def zTk:PSound prog 26 zNo:=by
 have gok:=gk1 zLs<|gk0;refine psq tokW call26 func26 rfl ?_;rintro xs r w0 G0 ⟨n,⟨n1A,n1C,n1D,n1B⟩,y0,h,rfl,rfl⟩ _;rw[zHB]at h;refine yEW ?_;refine yEW ?_;obtain⟨y2,hy2,h⟩:=zAc h;refine⟨_,⟨_,_,_,_,hy2,rfl,rfl⟩,?_⟩;exact jN
def zAn (p:((Int×List Nd×Int×List UInt8×Bool)×Int×Int)):List S:=[.int .i64 p.1.1,.sl 4 (Nd.encs p.1.2.1),.int .i64 p.1.2.2.1,.str p.1.2.2.2.1,.bool p.1.2.2.2.2,.int .u8 p.2.1,.int .u8 p.2.2]
def zXB:Prop:=∃ a0 a1 y0,zIx n a0 a1=some y0/\xs=[.agg ((Nd.enc a0).map .s),.s (.sl 7 ((List.map zAn) a1))]/\r = .val (nB y0)
def zSb:zAq:=pG zXB
abbrev Zs a b c d e f g:=([.int .i64 a,.sl 4 (Nd.encs b),.int .i64 c,.str d,.bool e,.int .u8 f,.int .u8 g]:List S)
def zWZ:PSound prog 6 zSb:=by
 have gok:=gk1 zWW<|gk1 zCS<|gk1 zLs<|gk1 zTk<|gk0;refine psq tokW call6 func6 rfl ?_;rintro xs r w0 G0 ⟨n,⟨n1A,n1C,n1D,n1B⟩,l2,y0,h,rfl,rfl⟩ _;rw[zIx]at h;refine yEW ?_;refine zAa<|yCZ [] [8] rfl ?_;refine len1 (fun _=>rfl) l2 ?_;show Tri ..;obtain⟨fl,hl,ho1⟩:=zAc h;refine zBN (fl:=fl) (fun z=>match z with | _=>⟨ofL [(1,.s (.sl 7 ((List.map zAn) l2))),(2,pN n1A n1C n1D n1B)],fun _=>none,0⟩) ?_ (fun z V' hz hle=>?_)
 ·refine zAk (zAv (X:=Nat×Int) (fun y=>match y with | (k,x4)=>⟨ofL [(1,.s (.sl 7 ((List.map zAn) l2))),(2,pN n1A n1C n1D n1B),(7,.s (.sl 7 ((List.map zAn) l2))),(8,nI (l2.length:Int)),(9,nI x4)],fun _=>none,0⟩) (fun y=>zCR n l2 y.1 y.2=some fl) (fun y=>y.1) (n,0) hl ?_ ?_)
  ·exact Le.fgt
  rintro⟨k,x4⟩ h;cases k with
  | zero=>cases h
  | succ k=>
  replace h:zCR n l2 (k+1) x4=some fl:=h;rw[zCR]at h;refine yEW ?_;refine zAa<|zAf rfl h (fun hb h=>?_) (fun hb h=>?_)
  ·refine zAe<|zAa<|zAk<|yCZ [6] [11] rfl ?_;obtain⟨⟨⟨e5Aw,e5Av,e5Ax,e5Ay,e5Az⟩,e5G,e5S⟩,he5,h⟩:=zAc h;refine at1 (Zs e5Aw e5Av e5Ax e5Ay e5Az e5G e5S) (fun _=>rfl) he5 ?_;refine zAj (Le.giveBox 0 (Zs e5Aw e5Av e5Ax e5Ay e5Az e5G e5S) rfl rfl) ?_;refine zAa ?_;obtain⟨x7,hj,h⟩:=zAc h;refine pL [(1,.s (.sl 7 ((List.map zAn) l2))),(2,pN n1A n1C n1D n1B),(7,.s (.sl 7 ((List.map zAn) l2))),(8,nI (l2.length:Int)),(9,nI x4),(24,nB x7)] ?_ (fun V' hle=>?_)
   ·replace h:=hj;refine zAb [] [17] rfl ?_;obtain⟨y8,hy8,h⟩:=zAc h;refine⟨_,⟨_,_,_,hy8,rfl,rfl⟩,?_⟩;refine nbS h (fun hb h=>?_) (fun hb h=>?_)
    ·exact kA
    obtain⟨⟨y9A,y9C,y9D,y9B⟩,hy9,h⟩:=zAc h;refine⟨_,⟨_,_,hy9,rfl,rfl⟩,?_⟩;obtain⟨y10,hy10,h⟩:=zAc h;refine⟨_,⟨_,_,_,_,hy10,rfl,rfl⟩,?_⟩;exact kA
   refine zAj hle<|zAf rfl h (fun hb h=>?_) (fun hb h=>?_)
   ·exact jE
   refine zAe<|yEV ?_;refine⟨(k,i64.wrap (x4+1)),h,Le.fgt,ax k⟩
  exact gV
 subst hz;obtain _:=z;replace h:=ho1;refine zAj hle<|zAa ?_;obtain⟨x11,hj,h⟩:=zAc h;refine pL [(4,nB x11)] ?_ (fun V' hle=>?_)
 ·replace h:=hj;refine zAb [] [28,30] rfl ?_;obtain⟨y12,hy12,h⟩:=zAc h;refine⟨_,⟨_,_,_,hy12,rfl,rfl⟩,?_⟩;refine nbS h (fun hb h=>?_) (fun hb h=>?_)
  ·refine len1 (fun _=>rfl) l2 ?_;exact jD
  exact jD
 exact jP
def zAg (p:zRc):List S:=[.sl 8 ((List.map zAm) p.1),.sl 1 (iL p.2.1.1),.sl 1 (iL p.2.1.2),.sl 1 (iL p.2.2.1),.sl 1 (iL p.2.2.2)]
def zEe:(Nd×Nd×List zRc×Int)->List S
| ⟨⟨p_origin_kind,p_origin_text,p_origin_cols,p_origin_kids⟩,⟨p_tree_kind,p_tree_text,p_tree_cols,p_tree_kids⟩,p_records,p_done⟩=>[.int .i64 p_origin_kind,.str p_origin_text,.int .i64 p_origin_cols,.sl 4 (Nd.encs p_origin_kids),.int .i64 p_tree_kind,.str p_tree_text,.int .i64 p_tree_cols,.sl 4 (Nd.encs p_tree_kids),.sl 5 ((List.map zAg) p_records),.int .i64 p_done]
def zQi (n:Nat) (xs:List AV) (os:List Ob) (x:AV) (os':List (Option Ob)):Prop:=∃ a0 y0 y1,zEH n a0=some (y0,y1)/\xs=[.agg ((Nd.enc a0).map .s)]/\os=[]/\x = .tup [(match y0 with | none=>.s .np | some _=>.op 0 0),nI y1]/\os'=(match y0 with | none=>[] | some ⟨⟨o_origin_kind,o_origin_text,o_origin_cols,o_origin_kids⟩,⟨o_tree_kind,o_tree_text,o_tree_cols,o_tree_kids⟩,o_records,o_done⟩=>[some (.box 68 [nI o_origin_kind,nS o_origin_text,nI o_origin_cols,.s (.sl 4 (Nd.encs o_origin_kids)),nI o_tree_kind,nS o_tree_text,nI o_tree_cols,.s (.sl 4 (Nd.encs o_tree_kids)),.orow 1,nI o_done]),some (.row 40 5 ((List.map zAg) o_records))])
def zKd:zAq:=zD8 (fun xs os x os'=>∃ n,zQi n xs os x os')
def zOV:PSound prog 7 zKd:=by
 have gok:=gk1 zC5<|gk1 zEw<|gk0;refine PSound.withNil (zYw tokW call7 func7 rfl (fun xs os x os' h=>by obtain⟨n,_,_,_,_,rfl,rfl,_,rfl⟩:=h; exact⟨by show 1<=13; decide,aQ _⟩) 13 rfl ?_) _;rintro xs os x os' w0 G0 B0 ⟨n,⟨n1A,n1C,n1D,n1B⟩,y0,y1,h,rfl,rfl,rfl,rfl⟩ _;rw[zEH]at h;refine yEW ?_;refine zAa<|yEW ?_;obtain⟨y2,hy2,h⟩:=zAc h;refine⟨_,⟨_,_,_,hy2,rfl,rfl⟩,?_⟩;refine zAf rfl h (fun hb h=>?_) (fun hb h=>?_)
 ·refine yEW ?_;refine zAd ?_;obtain⟨hj1,hk1⟩:=pij h;subst hj1 hk1;unfold zCf;exact⟨_,(Le.rnq [] [(2,.s (.np)),(3,nI 1)] [] 0),rfl,rfl,trivial⟩
 refine zAe<|zAa<|zCE [12] [] [5] [] rfl (by decide +kernel) ?_;obtain⟨⟨y3A,y3C,y3D,y3B⟩,hy3,h⟩:=zAc h;refine⟨_,⟨_,_,hy3,rfl,rfl⟩,?_⟩;obtain⟨⟨y4A,y4C,y4D,y4B⟩,hy4,h⟩:=zAc h;refine⟨_,⟨_,_,hy4,rfl,rfl⟩,?_⟩;refine zAj (Le.trans (Le.rnq [(0,0)] [(2,.op 0 0),(3,nI 0)] [(0,.box 68 [nI y3A,nS y3C,nI y3D,.s (.sl 4 (Nd.encs y3B)),nI y4A,nS y4C,nI y4D,.s (.sl 4 (Nd.encs y4B)),.nl 5,nI 0])] 1) (Le.takeNil 0 8 40 rfl rfl (by decide)))<|zAd ?_;obtain⟨hj1,hk1⟩:=pij h;subst hj1 hk1;unfold zCf;exact⟨_,(Le.rnq [(0,0),(1,1)] [(2,.op 0 0),(3,nI 0)] [(0,.box 68 [nI y3A,nS y3C,nI y3D,.s (.sl 4 (Nd.encs y3B)),nI y4A,nS y4C,nI y4D,.s (.sl 4 (Nd.encs y4B)),.orow 1,nI 0]),(1,.row 40 5 ((List.map zAg) []))] 2),rfl,rfl,rfl,rfl,rfl,rfl,trivial⟩
abbrev Zc a b c d e f g h i:=([nI a,nS b,nI c,.s (.sl 4 (Nd.encs d)),nI e,nS f,nI g,.s (.sl 4 (Nd.encs h)),.orow 2,nI i]:List AV)
abbrev Zk a b c d e f g h i:=([nI a,nS b,nI c,.s (.sl 4 (Nd.encs d)),nI e,nS f,nI g,.s (.sl 4 (Nd.encs h)),.orow 1,nI i]:List AV)
def zHR (xs:List AV) (os:List Ob) (x:AV) (os':List (Option Ob)):Prop:=∃ (a0K:Int) (a0L:List UInt8) (a0M:Int) (a0N:List Nd) (a0O:Int) (a0P:List UInt8) (a0Q:Int) (a0R:List Nd) (a0J:List zRc) (a0I:Int) (y0:Nd) (z0K:Int) (z0L:List UInt8) (z0M:Int) (z0N:List Nd) (z0O:Int) (z0P:List UInt8) (z0Q:Int) (z0R:List Nd) (z0J:List zRc) (z0I:Int),zAB (Nd.mk a0K a0L a0M a0N,Nd.mk a0O a0P a0Q a0R,a0J,a0I)=some (y0,(Nd.mk z0K z0L z0M z0N,Nd.mk z0O z0P z0Q z0R,z0J,z0I))/\xs=[.op 0 0]/\os=[.box 68 (Zk a0K a0L a0M a0N a0O a0P a0Q a0R a0I),.row 40 5 ((List.map zAg) a0J)]/\x = .agg ((Nd.enc y0).map .s)/\os'=[some (.box 68 (Zc z0K z0L z0M z0N z0O z0P z0Q z0R z0I)),none,some (.row 40 5 ((List.map zAg) z0J))]
def zDh:zAq:=zD8 (fun xs os x os'=>zHR xs os x os')
def zEM:PSound prog 14 zDh:=by
 have gok:=gk1 zEw<|gk0;refine PSound.withNil (osq tokW call14 func14 rfl ?_) _;rintro xs os x os' w0 G0 B0 ⟨o1K,o1L,o1M,o1N,o1O,o1P,o1Q,o1R,o1J,o1I,y0,z0K,z0L,z0M,z0N,z0O,z0P,z0Q,z0R,z0J,z0I,h,rfl,rfl,rfl,rfl⟩ _;rw[zAB]at h;refine yCZ [2] [] rfl ?_;refine zAa<|yEW ?_;refine zAx rfl (fun h=>by cases h) (fun _=>?_);refine zAe<|yEW ?_;obtain⟨⟨y2A,y2C,y2D,y2B⟩,hy2,h⟩:=zAc h;refine⟨_,⟨_,_,hy2,rfl,rfl⟩,?_⟩;refine zAd ?_;have hj0:=osi h;obtain⟨hv0,hw0⟩:=ap hj0;subst hv0;obtain⟨he1T,hr1T⟩:=ap hw0;obtain⟨he1U,hr1U⟩:=ap hr1T;obtain⟨he1Ae,he1Af⟩:=ap hr1U;obtain⟨he2T,he2U,he2Ae,he2Af⟩:=Nd.mk.inj he1T;subst he2T;subst he2U;subst he2Ae;subst he2Af;obtain⟨he3T,he3U,he3Ae,he3Af⟩:=Nd.mk.inj he1U;subst he3T;subst he3U;subst he3Ae;subst he3Af;subst he1Ae;subst he1Af;unfold zCf;exact⟨_,(Le.rnq [(0,0),(1,2),(2,3)] [(2,.op 3 0)] [(0,.box 68 (Zc o1K o1L o1M o1N o1O o1P o1Q o1R o1I)),(2,.row 40 5 ((List.map zAg) o1J)),(3,.box 24 (Zr y2A y2C y2D y2B))] 4),rfl,rfl,rfl,rfl,rfl,rfl,trivial⟩
def zBp (p:List Int):List S:=[.sl 1 (iL p)]
abbrev Zq a b:=([.agg ((Nd.enc a).map .s),.s (.sl 1 (iL b))]:List AV)
def zHZ:Prop:=∃ a0 a1 y0,zDz n a0 a1=some y0/\xs=(Zq a0 a1)/\r = .row 36 1 ((List.map zBp) y0)
def zUT {α:Type}{a b:α} (h:a=b:=by simp[bn,map_take,map_drop,irow,brow,zGH,ba,map_nil,zGe,Nd.encs_eq,Nd.enc,zBv,zAW,zB3,zAQ,zAE,zAm,zBc,zAn,zAg,zEe,zBp]):a=b :=
 h
abbrev Zx a:=([(0,.row 36 1 ((List.map zBp) a))]:List (Nat×Ob))
def zTF (n:Nat) (ih:PSound prog 33 (zAr (zHZ n))):PSound prog 33 (zAr (zHZ (n+1))):=by
 have gok:=gk1 ih<|gk0;refine psq tokW call33 func33 rfl ?_;rintro xs r w0 G0 ⟨⟨row1A,row1C,row1D,row1B⟩,path2,y0,h,rfl,rfl⟩ _;rw[zDz]at h;refine yCZ [4] [] rfl ?_;refine zAj (Le.rnq [] [(1,.s (.sl 1 (iL path2))),(2,pN row1A row1C row1D row1B)] [] 0)<|yCZ [5] [] rfl ?_;show Tri ..;refine zAj (Le.rnq [(0,0)] [(1,.s (.sl 1 (iL path2))),(2,pN row1A row1C row1D row1B),(5,.orow 0)] [(0,.row 36 1 ((List.map zBp) []))] 1 (h2:=⟨rfl,⟨_,rfl,congrArg (Ob.row 36 1) zUT⟩,trivial⟩))<|zAa<|yEW ?_;show Tri ..;obtain⟨l6,hl,h⟩:=zAc h;refine zAl ⟨ofL [(5,.orow 0)],ofH (Zx l6),1⟩ ?_ (fun V' hle=>?_)
 ·refine zAk (zAv (X:=Nat×Int×(List (List Int))) (fun y=>match y with | (k,i4,l5)=>⟨ofL [(1,.s (.sl 1 (iL path2))),(2,pN row1A row1C row1D row1B),(5,.orow 0),(6,nI i4)],ofH (Zx l5),1⟩) (fun y=>zDA (zDz n) n row1B path2 y.1 y.2.1 y.2.2=some l6) (fun y=>y.1) (n,0,[]) hl ?_ ?_)
  ·exact qD
  rintro⟨k,i4,l5⟩ h;cases k with
  | zero=>cases h
  | succ k=>
  replace h:zDA (zDz n) n row1B path2 (k+1) i4 l5=some l6:=h;rw[zDA]at h;refine zAa<|yCZ [] [11] rfl ?_;refine len1 Nd.encs_eq row1B ?_;refine zAf rfl h (fun hb h=>?_) (fun hb h=>?_)
  ·refine zAe<|zAa<|zAk<|zAa ?_;refine zAj (Le.toA 0 rfl) ?_;obtain⟨y9,hy9,h⟩:=zAc h;obtain⟨hqp,hyq⟩:=zAs hy9;replace hyq:=osi hyq;rw[length_singleton]at hqp;refine zAb [16,18,21,22,23] [20] rfl ?_;refine And.intro (show((0:Nat)+(iL path2).length) * 8<=140737488355328/\(0:Nat)+(iL path2).length<=9223372036854775807 by rw[az]; omega) ?_;intro r8 hr8;have hl1:r8.length=1:=by rw[hr8]; rfl
   refine And.intro (show(([]++(iL path2)).length+r8.length) * 8<=140737488355328/\([]++(iL path2)).length+r8.length<=9223372036854775807 by rw[hl1,bE,az]; omega) ?_;clear hl1;obtain rfl:iL [i4]=r8:=(hr8.trans zUT).symm;obtain⟨hq,h⟩:=zAs h;refine And.intro (show((((List.map zBp) l5).map (·.map AV.s)).length+1) * 24<=140737488355328/\(((List.map zBp) l5).map (·.map AV.s)).length+1<=9223372036854775807 by rw[az,az]; simp only[ah,an]at hq; omega) ?_;refine zAj (Le.giveRow 3 rfl) ?_;refine zAj (Le.ofA 5 ((List.map zBp) (l5++[y9])) rfl (by rw[← hyq,bn,bn,zWE]; exact zK6 (zVY _) (show some [[S.sl 1 ([]++iL path2++iL [i4])]]=some ((List.map zBp) [path2++[i4]]) by simp[zBp]))) ?_;refine zAj (Le.rnq [(5,0)] [(1,.s (.sl 1 (iL path2))),(2,pN row1A row1C row1D row1B),(5,.orow 0),(6,nI i4)] [(0,.row 36 1 ((List.map zBp) (l5++[y9])))] 1 (h2:=⟨rfl,⟨_,rfl,congrArg (Ob.row 36 1) zUT⟩,trivial⟩))<|zAa ?_;refine yCZ [] [27] rfl ?_;refine len1 Nd.encs_eq row1B ?_;refine zAf rfl h (fun hb h=>?_) (fun hb h=>?_)
   ·refine zAy ?_;exact jC
   refine zAe<|yEW ?_;show Tri ..;obtain⟨l15,hl,h⟩:=zAc h;refine zAl ⟨ofL [(1,.s (.sl 1 (iL path2))),(2,pN row1A row1C row1D row1B),(5,.orow 0),(6,nI i4)],ofH (Zx l15),1⟩ ?_ (fun V' hle=>?_)
   ·refine zAk (zAv (X:=Nat×Int×(List (List Int))) (fun y=>match y with | (k,k13,l14)=>⟨ofL [(1,.s (.sl 1 (iL path2))),(2,pN row1A row1C row1D row1B),(5,.orow 0),(6,nI i4),(7,nI k13)],ofH (Zx l14),1⟩) (fun y=>zDB (zDz n) row1B path2 i4 y.1 y.2.1 y.2.2=some l15) (fun y=>y.1) (n,0,l5++[y9]) hl ?_ ?_)
    ·exact qD
    rintro⟨k,k13,l14⟩ h;cases k with
    | zero=>cases h
    | succ k=>
    replace h:zDB (zDz n) row1B path2 i4 (k+1) k13 l14=some l15:=h;rw[zDB]at h;refine zAa<|yCZ [] [33,36] rfl ?_;obtain⟨⟨e16A,e16C,e16D,e16B⟩,he16,h⟩:=zAc h;refine at1 (nN e16A e16C e16D e16B) Nd.encs_eq he16 ?_;refine len1 Nd.encs_eq e16B ?_;refine zAf rfl h (fun hb h=>?_) (fun hb h=>?_)
    ·refine zAe<|zAa<|zAk<|zCE [50,52,56,58] [44,48,55] [10,12,16,17,18] [] rfl (by decide +kernel) ?_;obtain⟨⟨e19A,e19C,e19D,e19B⟩,he19,h⟩:=zAc h;refine at1 (nN e19A e19C e19D e19B) Nd.encs_eq he19 ?_;obtain⟨⟨e21A,e21C,e21D,e21B⟩,he21,h⟩:=zAc h;refine at1 (nN e21A e21C e21D e21B) Nd.encs_eq he21 ?_;obtain⟨hq,h⟩:=zAs h;refine And.intro (lapE hq rfl (rlen (fun _=>rfl) _)) ?_;intro r23 hr23;have hl2:r23.length=2 :=(by rw[hr23]; rfl);obtain⟨hq,h⟩:=zAs h;refine And.intro (show((([]:List (List S))++(iL path2)).length+r23.length) * 8<=140737488355328/\(([]:List (List S))++(iL path2)).length+r23.length<=9223372036854775807 from by rw[hl2]; simp only[am,ah,an,az]at hq ⊢; omega) ?_;clear hl2;obtain rfl:iL [i4,k13]=r23:=(hr23.trans zUT).symm;obtain⟨y24,hy24,h⟩:=zAc h;refine⟨_,⟨_,_,_,hy24,(congrArg (fun r=>[(AV.agg (Zr e21A e21C e21D e21B)),AV.s (.sl 1 r)]) (show([]++(iL path2))++(iL [i4,k13])=iL (path2++[i4,k13]) from zUT)),rfl⟩,?_⟩;obtain⟨hq,h⟩:=zAs h;refine And.intro (lapE hq (rlen (fun _=>rfl) _) (rlen (fun _=>rfl) _)) ?_;show Tri ..
     refine zAj (Le.rnq [(4,0)] [(1,.s (.sl 1 (iL path2))),(2,pN row1A row1C row1D row1B),(5,.orow 0),(6,nI i4),(7,nI k13)] [(0,.row 36 1 ((List.map zBp) (l14++y24)))] 1 (h2:=⟨rfl,⟨_,rfl,congrArg (Ob.row 36 1) zUT⟩,trivial⟩)) ?_;refine yEV ?_;refine⟨(k,i64.wrap (k13+1),l14++y24),h,(Le.rnq [(0,0)] _ _ _),ax k⟩
    refine zAy ?_;exact jC
   refine zAj hle<|yEV ?_;refine⟨(k,i64.wrap (i4+1),l15),h,(Le.rnq [(0,0)] _ _ _),ax k⟩
  refine zAy ?_;exact jC
 exact qE
def zT9:∀ n,PSound prog 33 (zAr (zHZ n)):=by
 intro n;induction n with
 | zero=>exact zCz call33 (fun xs r h=>by obtain⟨_,_,_,h,_⟩:=h; cases h)
 | succ n ih=>exact zTF n ih
def zR5:zAq:=pG zHZ
def zWT:PSound prog 33 zR5:=zDf zT9
def zXv:Prop:=∃ a0 y0 y1,zGm n a0=some (y0,y1)/\xs=[.agg ((Nd.enc a0).map .s)]/\r = .val (.tup [.s (.sl 1 ((List.map zBp) y0)),nI y1])
def zKi:zAq:=pG zXv
def zLt:PSound prog 10 zKi:=by
 have gok:=gk1 zCT<|gk1 zWT<|gk0;refine psq tokW call10 func10 rfl ?_;rintro xs r w0 G0 ⟨n,⟨n1A,n1C,n1D,n1B⟩,y0,y1,h,rfl,rfl⟩ _;rw[zGm]at h;refine yEW ?_;refine zAa<|yEW ?_;obtain⟨y2,hy2,h⟩:=zAc h;refine⟨_,⟨_,_,_,hy2,rfl,rfl⟩,?_⟩;refine zAf rfl h (fun hb h=>?_) (fun hb h=>?_)
 ·exact jM
 refine zAe<|yEW ?_;obtain⟨y3,hy3,h⟩:=zAc h;refine⟨_,⟨_,_,_,_,hy3,rfl,rfl⟩,?_⟩;exact jA
def zMz:Prop:=∃ a0 y0,zBP n a0=some y0/\xs=[.s (.sl 4 (Nd.encs a0))]/\r = .val (nB y0)
def zD9:zAq:=pG zMz
def zFa:PSound prog 86 zD9:=by
 have gok:=gk1 zCS<|gk1 zCT<|gk0;refine psq tokW call86 func86 rfl ?_;rintro xs r w0 G0 ⟨n,l1,y0,h,rfl,rfl⟩ _;rw[zBP]at h;refine yEW ?_;refine yEW ?_;obtain⟨⟨y2A,y2C,y2D,y2B⟩,hy2,h⟩:=zAc h;refine⟨_,⟨_,_,hy2,rfl,rfl⟩,?_⟩;obtain⟨y3,hy3,h⟩:=zAc h;refine⟨_,⟨_,_,_,hy3,rfl,rfl⟩,?_⟩;exact jN
abbrev Zt a b:=([.s (.sl 1 (iL a)),.s (.sl 1 (iL b))]:List AV)
def zQo:Prop:=∃ a0 a1 y0,zDP n a0 a1=some y0/\xs=(Zt a0 a1)/\r = .val (nI y0)
def zHt:zAq:=pG zQo
def zJB:PSound prog 15 zHt:=by
 have gok:=@gok0 prog;refine psq tokW call15 func15 rfl ?_;rintro xs r w0 G0 ⟨n,a1,b2,y0,h,rfl,rfl⟩ _;rw[zDP]at h;refine yEW ?_;refine zAa<|yEW ?_;show Tri ..;obtain⟨fl,hl,ho1⟩:=zAc h;refine zBN (fl:=fl) (fun z=>match z with | _=>⟨ofL [(0,.s (.sl 1 (iL a1))),(1,.s (.sl 1 (iL b2)))],fun _=>none,0⟩) ?_ (fun z V' hz hle=>?_)
 ·refine zAk (zAv (X:=Nat×Int) (fun y=>match y with | (k,i3)=>⟨ofL [(0,.s (.sl 1 (iL a1))),(1,.s (.sl 1 (iL b2))),(5,nI i3)],fun _=>none,0⟩) (fun y=>zBQ a1 b2 y.1 y.2=some fl) (fun y=>y.1) (n,0) hl ?_ ?_)
  ·exact Le.fgt
  rintro⟨k,i3⟩ h;cases k with
  | zero=>cases h
  | succ k=>
  replace h:zBQ a1 b2 (k+1) i3=some fl:=h;rw[zBQ]at h;refine zAa<|zAa ?_;obtain⟨x4,hj,h⟩:=zAc h;refine pL [(0,.s (.sl 1 (iL a1))),(1,.s (.sl 1 (iL b2))),(5,nI i3),(15,nB x4)] ?_ (fun V' hle=>?_)
  ·replace h:=hj;refine zAb [] [8,10,13] rfl ?_;refine len1 (fun _=>rfl) a1 ?_;refine nbS h (fun hb h=>?_) (fun hb h=>?_)
   ·refine len1 (fun _=>rfl) b2 ?_;exact jD
   exact jD
  refine zAj hle<|zAf rfl h (fun hb h=>?_) (fun hb h=>?_)
  ·refine zAe<|zAa<|zAk<|zAa<|zAa<|zAw [] [20,24] [] rfl (by decide +kernel) ?_;obtain⟨e7,he7,h⟩:=zAc h;refine at1 [.int .i64 e7] (fun _=>rfl) he7 ?_;obtain⟨e9,he9,h⟩:=zAc h;refine at1 [.int .i64 e9] (fun _=>rfl) he9 ?_;refine zAf rfl h (fun hb h=>?_) (fun hb h=>?_)
   ·exact jE
   refine zAe<|zAa<|zAw [] [29,33] [] rfl (by decide +kernel) ?_;obtain⟨e11,he11,h⟩:=zAc h;refine at1 [.int .i64 e11] (fun _=>rfl) he11 ?_;obtain⟨e13,he13,h⟩:=zAc h;refine at1 [.int .i64 e13] (fun _=>rfl) he13 ?_;refine zAf rfl h (fun hb h=>?_) (fun hb h=>?_)
   ·exact jE
   exact gP
  exact gV
 subst hz;obtain _:=z;replace h:=ho1;refine zAj hle<|zAa<|zAk<|yCZ [] [38,40] rfl ?_;refine len1 (fun _=>rfl) a1 ?_;refine len1 (fun _=>rfl) b2 ?_;refine zAf rfl h (fun hb h=>?_) (fun hb h=>?_)
 ·exact gI
 refine yCZ [] [44,46] rfl ?_;refine len1 (fun _=>rfl) a1 ?_;refine len1 (fun _=>rfl) b2 ?_;refine zAf rfl h (fun hb h=>?_) (fun hb h=>?_)
 ·exact gI
 refine zAe<|yEW ?_;exact jN
def zTX:Prop:=∃ a0 a1 y0 y1,zEf n a0 a1=some (y0,y1)/\xs=(Zq a0 a1)/\r = .val (.tup [nI y0,nI y1])
def zJM:zAq:=pG zTX
def zMi:PSound prog 38 zJM:=by
 have gok:=gk1 zLt<|gk1 zJB<|gk0;refine psq tokW call38 func38 rfl ?_;rintro xs r w0 G0 ⟨n,⟨n1A,n1C,n1D,n1B⟩,pos2,y0,y1,h,rfl,rfl⟩ _;rw[zEf]at h;refine yEW ?_;refine yEW ?_;obtain⟨⟨y3,y4⟩,hy3,h⟩:=zAc h;refine⟨_,⟨_,_,_,_,hy3,rfl,rfl⟩,?_⟩;refine zAa<|yEW ?_;refine zAf rfl h (fun hb h=>?_) (fun hb h=>?_)
 ·exact jM
 refine zAe<|zAa<|yEW ?_;show Tri ..;obtain⟨fl,hl,ho1⟩:=zAc h;refine zBN (fl:=fl) (fun z=>match z with | _=>⟨ofL [],fun _=>none,0⟩) ?_ (fun z V' hz hle=>?_)
 ·refine zAk (zAv (X:=Nat×Int) (fun y=>match y with | (k,i5)=>⟨ofL [(1,.s (.sl 1 (iL pos2))),(6,.s (.sl 1 ((List.map zBp) y3))),(8,nI i5)],fun _=>none,0⟩) (fun y=>zCy n pos2 y3 y.1 y.2=some fl) (fun y=>y.1) (n,0) hl ?_ ?_)
  ·exact Le.fgt
  rintro⟨k,i5⟩ h;cases k with
  | zero=>cases h
  | succ k=>
  replace h:zCy n pos2 y3 (k+1) i5=some fl:=h;rw[zCy]at h;refine zAa<|yCZ [] [19] rfl ?_;refine len1 (fun _=>rfl) y3 ?_;refine zAf rfl h (fun hb h=>?_) (fun hb h=>?_)
  ·refine zAe<|zAa<|zAk<|yCZ [] [25] rfl ?_;obtain⟨e7,he7,h⟩:=zAc h;refine at1 [.sl 1 (iL e7)] (fun _=>rfl) he7 ?_;obtain⟨y9,hy9,h⟩:=zAc h;refine⟨_,⟨_,_,_,_,hy9,rfl,rfl⟩,?_⟩;refine zAf rfl h (fun hb h=>?_) (fun hb h=>?_)
   ·refine yEW ?_;exact jK
   exact jW
  exact gV
 subst hz;obtain _:=z;replace h:=ho1;refine zAj hle<|yEW ?_;exact jA
def zTY:Prop:=∃ a0 a1 y0,zE6 n a0 a1=some y0/\xs=(Zq a0 a1)/\r = .val (nB y0)
def zNi:zAq:=pG zTY
def zTf:PSound prog 13 zNi:=by
 have gok:=gk1 zMi<|gk0;refine psq tokW call13 func13 rfl ?_;rintro xs r w0 G0 ⟨n,⟨n1A,n1C,n1D,n1B⟩,pos2,y0,h,rfl,rfl⟩ _;rw[zE6]at h;refine yEW ?_;refine yEW ?_;obtain⟨⟨y3,y4⟩,hy3,h⟩:=zAc h;refine⟨_,⟨_,_,_,_,_,hy3,rfl,rfl⟩,?_⟩;exact gI
def zWg (xs:List AV) (r:Ret):Prop:=∃ a0 a1 y0 y1,zF1 a0 a1=some (y0,y1)/\xs=[.s (.sl 1 (iL a0)),nI a1]/\r = .val (.tup [nI y0,nI y1])
def zPn:zAq:=zAr fun xs r=>zWg xs r
def zUI:PSound prog 230 zPn:=by
 have gok:=@gok0 prog;refine psq tokW call230 func230 rfl ?_;rintro xs r w0 G0 ⟨pos1,k2,y0,y1,h,rfl,rfl⟩ _;rw[zF1]at h;refine yEW ?_;refine zAa<|yCZ [] [7] rfl ?_;refine len1 (fun _=>rfl) pos1 ?_;refine zAf rfl h (fun hb h=>?_) (fun hb h=>?_)
 ·refine zAa<|zAw [] [13,17] [] rfl (by decide +kernel) ?_;obtain⟨e4,he4,h⟩:=zAc h;refine at1 [.int .i64 e4] (fun _=>rfl) he4 ?_;obtain⟨e6,he6,h⟩:=zAc h;refine at1 [.int .i64 e6] (fun _=>rfl) he6 ?_;exact jA
 refine zAe<|zAa<|zAw [] [21,25] [] rfl (by decide +kernel) ?_;obtain⟨e8,he8,h⟩:=zAc h;refine at1 [.int .i64 e8] (fun _=>rfl) he8 ?_;obtain⟨e10,he10,h⟩:=zAc h;refine at1 [.int .i64 e10] (fun _=>rfl) he10 ?_;exact jA
def zCk (p:(List Int×Int×Int)):List S:=[.sl 1 (iL p.1),.int .i64 p.2.1,.int .i64 p.2.2]
def zQp:Prop:=∃ a0 a1 a2 y0 y1,zCp n a0 a1 a2=some (y0,y1)/\xs=[.agg ((Nd.enc a0).map .s),.s (.sl 1 (iL a1)),.s (.sl 1 (iL a2))]/\r = .val (.tup [.agg ((zCk y0).map .s),nI y1])
def zKj:zAq:=pG zQp
abbrev Zw:List (Nat×Ob):=[(0,.box 160 [.nl 1,nI 0,nI 0])]
def zOZ:PSound prog 198 zKj:=by
 have gok:=gk1 zCT<|gk1 zTf<|gk1 zUI<|gk0;refine psq tokW call198 func198 rfl ?_;rintro xs r w0 G0 ⟨n,⟨a1A,a1C,a1D,a1B⟩,a2,a3,y0,y1,h,rfl,rfl⟩ _;rw[zCp]at h;refine yCZ [6] [] rfl ?_;refine zAa<|yEW ?_;obtain⟨y4,hy4,h⟩:=zAc h;refine⟨_,⟨_,_,_,hy4,rfl,rfl⟩,?_⟩;refine zAf rfl h (fun hb h=>?_) (fun hb h=>?_)
 ·exact jM
 refine zAe<|zAa<|zAa ?_;obtain⟨x5,hj,h⟩:=zAc h;refine zAl ⟨ofL [(1,.s (.sl 1 (iL a2))),(2,.s (.sl 1 (iL a3))),(6,.op 0 0),(26,nB x5)],ofH Zw,1⟩ ?_ (fun V' hle=>?_)
 ·replace h:=hj;refine zAb [] [21] rfl ?_;obtain⟨y6,hy6,h⟩:=zAc h;refine⟨_,⟨_,_,_,_,hy6,rfl,rfl⟩,?_⟩;refine nbS h (fun hb h=>?_) (fun hb h=>?_)
  ·exact jC
  obtain⟨y7,hy7,h⟩:=zAc h;refine⟨_,⟨_,_,_,_,hy7,rfl,rfl⟩,?_⟩;exact jC
 refine zAj hle<|zAf rfl h (fun hb h=>?_) (fun hb h=>?_)
 ·exact jM
 refine zAe<|yEW ?_;refine zAa ?_;obtain⟨x9,hl,h⟩:=zAc h;refine zAl ⟨ofL [(1,.s (.sl 1 (iL a2))),(2,.s (.sl 1 (iL a3))),(6,.op 0 0),(8,nI x9)],ofH Zw,1⟩ ?_ (fun V' hle=>?_)
 ·refine zAk (zAv (X:=Nat×Int) (fun y=>match y with | (k,x8)=>⟨ofL [(1,.s (.sl 1 (iL a2))),(2,.s (.sl 1 (iL a3))),(6,.op 0 0),(8,nI x8)],ofH Zw,1⟩) (fun y=>zBR a2 a3 y.1 y.2=some x9) (fun y=>y.1) (n,0) hl ?_ ?_)
  ·exact qD
  rintro⟨k,x8⟩ h;cases k with
  | zero=>cases h
  | succ k=>
  replace h:zBR a2 a3 (k+1) x8=some x9:=h;rw[zBR]at h;refine zAa<|zAa ?_;obtain⟨x10,hj,h⟩:=zAc h;refine zAl ⟨ofL [(1,.s (.sl 1 (iL a2))),(2,.s (.sl 1 (iL a3))),(6,.op 0 0),(8,nI x8),(63,nB x10)],ofH Zw,1⟩ ?_ (fun V' hle=>?_)
  ·replace h:=hj;refine zAw [] [31,33,37,40,43,47,51,55,60] [] rfl (by decide +kernel) ?_;refine len1 (fun _=>rfl) a2 ?_;refine nbS h (fun hb h=>?_) (fun hb h=>?_)
   ·refine len1 (fun _=>rfl) a3 ?_;refine nbS h (fun hb h=>?_) (fun hb h=>?_)
    ·obtain⟨e13,he13,h⟩:=zAc h;refine at1 [.int .i64 e13] (fun _=>rfl) he13 ?_;obtain⟨e15,he15,h⟩:=zAc h;refine at1 [.int .i64 e15] (fun _=>rfl) he15 ?_;refine nbS h (fun hb h=>?_) (fun hb h=>?_)
     ·obtain⟨e17,he17,h⟩:=zAc h;refine at1 [.int .i64 e17] (fun _=>rfl) he17 ?_;obtain⟨e19,he19,h⟩:=zAc h;refine at1 [.int .i64 e19] (fun _=>rfl) he19 ?_;exact jC
     exact jC
    exact kC
   intro b hb;subst hb;exact kC
  refine zAj hle<|zAf rfl h (fun hb h=>?_) (fun hb h=>?_)
  ·refine zAe<|zAk<|yEV ?_;refine⟨(k,i64.wrap (x8+2)),h,(Le.rnq [(0,0)] _ _ _),ax k⟩
  refine zAy ?_;exact jC
 refine zAj hle<|yEW ?_;obtain⟨⟨y21,y22⟩,hy21,h⟩:=zAc h;refine⟨_,⟨_,_,_,_,hy21,rfl,rfl⟩,?_⟩;refine yEW ?_;obtain⟨⟨y23,y24⟩,hy23,h⟩:=zAc h;refine⟨_,⟨_,_,_,_,hy23,rfl,rfl⟩,?_⟩;refine yCZ [78,82] [81] rfl ?_;obtain⟨hq,h⟩:=zAs h;refine And.intro ⟨hq.1,hq.2.1,Int.le_trans hq.2.2 (bi.2 (bk (rlen (fun _=>rfl) _).symm))⟩ ?_;intro r25 hr25;obtain rfl:iL ((a2.take x9.toNat).drop (0:Int).toNat)=r25:=(hr25.trans (rcut (fun _=>rfl) _ _ _)).symm;obtain⟨hq,h⟩:=zAs h;refine And.intro (lapE hq rfl (rlen (fun _=>rfl) _)) ?_;show Tri ..;refine zAj (Le.rnq [(0,0),(2,1)] [(6,.op 0 0),(7,nI 0)] [(0,.box 160 [.orow 1,nI (if y23<y21 then y23 else y21),nI (if y22<y24 then y24 else y22)]),(1,.row 3 1 (iL ((a2.take x9.toNat).drop (0:Int).toNat)))] 2 (h2:=⟨rfl,⟨_,rfl,rfl⟩,rfl,⟨_,rfl,congrArg (Ob.row 3 1) zUT⟩,trivial⟩)) ?_;refine zAd ?_;obtain⟨hj1,hk1⟩:=pij h;subst hj1 hk1;unfold zBF;exact⟨_,(Le.trans (Le.rnq [(0,0),(1,1)] [(6,.op 0 0),(7,nI 0)] [(0,.box 160 [.orow 1,nI (if y23<y21 then y23 else y21),nI (if y22<y24 then y24 else y22)]),(1,.row 3 1 (iL ((a2.take x9.toNat).drop (0:Int).toNat)))] 2) (Le.giveRow 1 rfl)),rfl,rfl⟩
def zAz (p:zCu):List S:=[.sl 1 (iL p.1),.sl 1 (iL p.2)]
abbrev Zu a b:=([.agg ((Nd.enc a).map .s),.agg ((zAz b).map .s)]:List AV)
def zZL:Prop:=∃ a0 a1 y0 y1,zKN n a0 a1=some (y0,y1)/\xs=(Zu a0 a1)/\r = .val (.tup [.agg ((zCk y0).map .s),nI y1])
def zVc:zAq:=pG zZL
def zYv:PSound prog 147 zVc:=by
 have gok:=gk1 zOZ<|gk0;refine psq tokW call147 func147 rfl ?_;rintro xs r w0 G0 ⟨n,⟨n1A,n1C,n1D,n1B⟩,⟨c2G,c2S⟩,y0,y1,h,rfl,rfl⟩ _;rw[zKN]at h;refine yCZ [4] [] rfl ?_;refine zAa<|yCZ [] [8] rfl ?_;refine len1 (fun _=>rfl) c2S ?_;refine zAf rfl h (fun hb h=>?_) (fun hb h=>?_)
 ·refine yEW ?_;obtain⟨⟨⟨y4E,y4Ad,y4Ah⟩,y5⟩,hy4,h⟩:=zAc h;refine⟨_,⟨_,_,_,_,_,_,hy4,rfl,rfl⟩,?_⟩;exact jA
 refine zAe<|yEW ?_;obtain⟨⟨⟨y6E,y6Ad,y6Ah⟩,y7⟩,hy6,h⟩:=zAc h;refine⟨_,⟨_,_,_,_,_,_,hy6,rfl,rfl⟩,?_⟩;exact jA
def zT4:Prop:=∃ a0 a1 y0 y1,zCc n a0 a1=some (y0,y1)/\xs=(Zu a0 a1)/\r = .val (.tup [.agg ((zCk y0).map .s),nI y1])
def zDr:zAq:=pG zT4
def zDF:PSound prog 87 zDr:=by
 have gok:=gk1 zYv<|gk0;refine psq tokW call87 func87 rfl ?_;rintro xs r w0 G0 ⟨n,⟨n1A,n1C,n1D,n1B⟩,⟨c2G,c2S⟩,y0,y1,h,rfl,rfl⟩ _;rw[zCc]at h;refine yCZ [4] [] rfl ?_;refine yEW ?_;obtain⟨⟨⟨y3E,y3Ad,y3Ah⟩,y4⟩,hy3,h⟩:=zAc h;refine⟨_,⟨_,_,_,_,_,hy3,rfl,rfl⟩,?_⟩;exact jA
def zWb:Prop:=∃ a0 a1 y0 y1,zHh n a0 a1=some (y0,y1)/\xs=(Zq a0 a1)/\r = .val (.tup [.agg ((Nd.enc y0).map .s),nB y1])
def zPg:zAq:=pG zWb
abbrev Zj a b c d:=([(0,.box 24 [nI a,nS b,nI c,.s (.sl 4 (Nd.encs d))]),(1,.box 24 [nI 0,.s (.str []),nI 0,.nl 4])]:List (Nat×Ob))
def zUB:PSound prog 149 zPg:=by
 have gok:=@gok0 prog;refine psq tokW call149 func149 rfl ?_;rintro xs r w0 G0 ⟨n,⟨n1A,n1C,n1D,n1B⟩,path2,y0,y1,h,rfl,rfl⟩ _;rw[zHh]at h;refine yCZ [2,4] [] rfl ?_;refine zAa ?_;obtain⟨fl,hl,ho1⟩:=zAc h;refine zBN (fl:=fl) (fun z=>match z with | ⟨path9,x10,x11,x12,x13⟩=>⟨ofL [(1,.s (.sl 1 (iL path9))),(2,.op 0 0),(4,.op 1 0)],ofH (Zj x10 x11 x12 x13),2⟩) ?_ (fun z V' hz hle=>?_)
 ·refine zAk (zAv (X:=Nat×Int×(List UInt8)×Int×(List Nd)×(List Int)) (fun y=>match y with | (k,x3,x4,x5,x6,path8)=>⟨ofL [(1,.s (.sl 1 (iL path8))),(2,.op 0 0),(4,.op 1 0)],ofH (Zj x3 x4 x5 x6),2⟩) (fun y=>zBX  y.1 y.2.1 y.2.2.1 y.2.2.2.1 y.2.2.2.2.1 y.2.2.2.2.2=some fl) (fun y=>y.1) (n,n1A,n1C,n1D,n1B,path2) hl ?_ ?_)
  ·exact kY
  rintro⟨k,x3,x4,x5,x6,path8⟩ h;cases k with
  | zero=>cases h
  | succ k=>
  replace h:zBX  (k+1) x3 x4 x5 x6 path8=some fl:=h;rw[zBX]at h;refine zAa<|yCZ [] [7] rfl ?_;refine len1 (fun _=>rfl) path8 ?_;refine zAf rfl h (fun hb h=>?_) (fun hb h=>?_)
  ·refine zAe<|zAk<|zAa<|zAa ?_;obtain⟨x15,hj,h⟩:=zAc h;refine zAl ⟨ofL [(1,.s (.sl 1 (iL path8))),(2,.op 0 0),(4,.op 1 0),(21,nB x15)],ofH (Zj x3 x4 x5 x6),2⟩ ?_ (fun V' hle=>?_)
   ·replace h:=hj;refine zAw [] [10,13,15,19] [9] rfl (by decide +kernel) ?_;obtain⟨e16,he16,h⟩:=zAc h;refine at1 [.int .i64 e16] (fun _=>rfl) he16 ?_;refine nbS h (fun hb h=>?_) (fun hb h=>?_)
    ·exact jL
    obtain⟨e18,he18,h⟩:=zAc h;refine at1 [.int .i64 e18] (fun _=>rfl) he18 ?_;refine len1 Nd.encs_eq x6 ?_;exact jL
   refine zAj hle<|zAf rfl h (fun hb h=>?_) (fun hb h=>?_)
   ·refine yEW ?_;exact jK
   refine zAe<|zAa<|zAw [] [26,28] [1,7] rfl (by decide +kernel) ?_;obtain⟨e21,he21,h⟩:=zAc h;refine at1 [.int .i64 e21] (fun _=>rfl) he21 ?_;obtain⟨⟨e23A,e23C,e23D,e23B⟩,he23,h⟩:=zAc h;refine at1 (nN e23A e23C e23D e23B) Nd.encs_eq he23 ?_;refine zAa<|zAa ?_;obtain⟨x25,hj,h⟩:=zAc h;refine zAl ⟨ofL [(1,.s (.sl 1 (iL path8))),(2,.op 0 0),(4,.op 1 0),(42,nB x25)],ofH (Zj e23A e23C e23D e23B),2⟩ ?_ (fun V' hle=>?_)
   ·replace h:=hj;refine zAw [] [31,34,36,40] [9] rfl (by decide +kernel) ?_;obtain⟨e26,he26,h⟩:=zAc h;refine at1 [.int .i64 e26] (fun _=>rfl) he26 ?_;refine nbS h (fun hb h=>?_) (fun hb h=>?_)
    ·exact jL
    obtain⟨e28,he28,h⟩:=zAc h;refine at1 [.int .i64 e28] (fun _=>rfl) he28 ?_;refine len1 Nd.encs_eq e23B ?_;exact jL
   refine zAj hle<|zAf rfl h (fun hb h=>?_) (fun hb h=>?_)
   ·refine yEW ?_;exact jK
   refine zAe<|zAa<|zAw [] [47,49] [1,7] rfl (by decide +kernel) ?_;obtain⟨e31,he31,h⟩:=zAc h;refine at1 [.int .i64 e31] (fun _=>rfl) he31 ?_;obtain⟨⟨e33A,e33C,e33D,e33B⟩,he33,h⟩:=zAc h;refine at1 (nN e33A e33C e33D e33B) Nd.encs_eq he33 ?_;refine zAb [] [52] rfl ?_;obtain⟨hq,h⟩:=zAs h;refine And.intro ⟨hq.1,Int.le_trans hq.2.1 (bi.2 (bk (rlen (fun _=>rfl) _).symm)),Int.le_refl _⟩ ?_;intro r35 hr35;obtain rfl:iL ((path8.take (path8.length:Int).toNat).drop (2:Int).toNat)=r35:=(hr35.trans ((congrArg (fun m:Nat=>((iL path8).take m).drop (2:Int).toNat) (rlen (fun _=>rfl) _)).trans (rcut (fun _=>rfl) _ _ _))).symm;refine⟨(k,e33A,e33C,e33D,e33B,(path8.take (path8.length:Int).toNat).drop (2:Int).toNat),h,(Le.rnq [(0,0),(1,1)] _ _ _),ax k⟩
  exact gJ
 subst hz;obtain⟨path9,x10,x11,x12,x13⟩:=z;replace h:=ho1;refine zAj hle<|yCZ [] [55] rfl ?_;refine len1 (fun _=>rfl) path9 ?_;exact jA
def zXt:Prop:=∃ a0 a1 y0 y1,zFv n a0 a1=some (y0,y1)/\xs=(Zq a0 a1)/\r = .val (.tup (Zo y0 y1))
def zH6:zAq:=pG zXt
def zI2:PSound prog 92 zH6:=by
 have gok:=gk1 zCT<|gk1 zUB<|gk0;refine psq tokW call92 func92 rfl ?_;rintro xs r w0 G0 ⟨n,⟨n1A,n1C,n1D,n1B⟩,path2,y0,y1,h,rfl,rfl⟩ _;rw[zFv]at h;refine yCZ [4] [] rfl ?_;refine zAa<|yEW ?_;obtain⟨y3,hy3,h⟩:=zAc h;refine⟨_,⟨_,_,_,hy3,rfl,rfl⟩,?_⟩;refine zAf rfl h (fun hb h=>?_) (fun hb h=>?_)
 ·exact jM
 refine zAe<|yCZ [6] [] rfl ?_;obtain⟨⟨⟨y4A,y4C,y4D,y4B⟩,y5⟩,hy4,h⟩:=zAc h;refine⟨_,⟨_,_,_,_,_,hy4,rfl,rfl⟩,?_⟩;refine zAj (Le.giveBox 1 (nN y4A y4C y4D y4B) rfl rfl)<|zAa<|yEW ?_;refine zAf rfl h (fun hb h=>?_) (fun hb h=>?_)
 ·exact jM
 refine zAe<|yEW ?_;exact jA
def zTZ:Prop:=∃ a0 a1 y0 y1,zE7 n a0 a1=some (y0,y1)/\xs=[.agg ((Nd.enc a0).map .s),.agg ((zCk a1).map .s)]/\r = .val (.tup (Zn y0 y1))
def zJN:zAq:=pG zTZ
def zHW {α:Type}{a b:α} (h:a=b:=by simp[bn,map_take,map_drop,irow,brow,zGH,ba,map_nil,zGe,Nd.encs_eq,Nd.enc,zBv,zAW,zB3,zAQ,zAE,zAm,zBc,zAn,zAg,zEe,zBp,zCk,zAz]):a=b :=
 h
abbrev Zi a b c:=([.sl 1 (iL a),.int .i64 b,.int .i64 c]:List S)
def zMj:PSound prog 99 zJN:=by
 have gok:=gk1 zI2<|gk0;refine psq tokW call99 func99 rfl ?_;rintro xs r w0 G0 ⟨n,⟨n1A,n1C,n1D,n1B⟩,⟨r2E,r2Ad,r2Ah⟩,y0,y1,h,rfl,rfl⟩ _;rw[zE7]at h;refine yCZ [4] [] rfl ?_;refine zAj (Le.rnq [] [(2,pN n1A n1C n1D n1B),(3,.s (.pt (Zi r2E r2Ad r2Ah)))] [] 0)<|yCZ [6] [] rfl ?_;obtain⟨⟨⟨y3A,y3C,y3D,y3B⟩,y4⟩,hy3,h⟩:=zAc h;refine⟨_,⟨_,_,_,_,_,hy3,rfl,rfl⟩,?_⟩;refine zAj (Le.giveBox 0 (nN y3A y3C y3D y3B) rfl rfl)<|zAa<|yEW ?_;refine zAf rfl h (fun hb h=>?_) (fun hb h=>?_)
 ·refine yCZ [4] [] rfl ?_;refine zAj (Le.rnq [(1,0)] [(4,.orow 0),(5,nI y4)] [(0,.row 24 4 (Nd.encs []))] 1 (h2:=⟨rfl,⟨_,rfl,congrArg (Ob.row 24 4) zHW⟩,trivial⟩))<|zAd ?_;obtain⟨hj1,hk1⟩:=pij h;subst hj1 hk1;unfold zBF;exact⟨_,(Le.trans (Le.rnq [(0,0)] [(4,.orow 0),(5,nI y4)] [(0,.row 24 4 (Nd.encs []))] 1) (Le.giveRow 0 rfl)),rfl,rfl⟩
 refine zAe<|zAa<|zAa ?_;obtain⟨x5,hj,h⟩:=zAc h;refine pL [(3,.s (.pt (Zi r2E r2Ad r2Ah))),(6,pN y3A y3C y3D y3B),(35,nB x5)] ?_ (fun V' hle=>?_)
 ·replace h:=hj;refine zAb [] [21,28,33] rfl ?_;refine nbS h (fun hb h=>?_) (fun hb h=>?_)
  ·intro b hb;subst hb;exact kA
  refine nbS h (fun hb h=>?_) (fun hb h=>?_)
  ·exact kA
  refine len1 Nd.encs_eq y3B ?_;exact kA
 refine zAj hle<|zAf rfl h (fun hb h=>?_) (fun hb h=>?_)
 ·refine yCZ [4] [] rfl ?_;refine zAj (Le.rnq [(0,0)] [(4,.orow 0),(5,nI 2)] [(0,.row 24 4 (Nd.encs []))] 1 (h2:=⟨rfl,⟨_,rfl,congrArg (Ob.row 24 4) zHW⟩,trivial⟩))<|zAd ?_;obtain⟨hj1,hk1⟩:=pij h;subst hj1 hk1;unfold zBF;exact⟨_,(Le.trans (Le.rnq [(0,0)] [(4,.orow 0),(5,nI 2)] [(0,.row 24 4 (Nd.encs []))] 1) (Le.giveRow 0 rfl)),rfl,rfl⟩
 refine zAe<|yCZ [36,44] [43] rfl ?_;obtain⟨hq,h⟩:=zAs h;refine And.intro ⟨hq.1,hq.2.1,Int.le_trans hq.2.2 (bi.2 (bk (rlen Nd.encs_eq _).symm))⟩ ?_;intro r7 hr7;obtain rfl:Nd.encs ((y3B.take r2Ah.toNat).drop r2Ad.toNat)=r7:=(hr7.trans (rcut Nd.encs_eq _ _ _)).symm;obtain⟨hq,h⟩:=zAs h;refine And.intro (lapE hq rfl (rlen Nd.encs_eq _)) ?_;show Tri ..;refine zAj (Le.rnq [(1,0)] [(4,.orow 0),(5,nI 0)] [(0,.row 24 4 (Nd.encs ((y3B.take r2Ah.toNat).drop r2Ad.toNat)))] 1 (h2:=⟨rfl,⟨_,rfl,congrArg (Ob.row 24 4) zHW⟩,trivial⟩))<|zAd ?_;obtain⟨hj1,hk1⟩:=pij h;subst hj1 hk1;unfold zBF;exact⟨_,(Le.trans (Le.rnq [(0,0)] [(4,.orow 0),(5,nI 0)] [(0,.row 24 4 (Nd.encs ((y3B.take r2Ah.toNat).drop r2Ad.toNat)))] 1) (Le.giveRow 0 rfl)),rfl,rfl⟩
def zXA:Prop:=∃ a0 a1 y0,zGo n a0 a1=some y0/\xs=[.agg ((Nd.enc a0).map .s),.agg ((zCk a1).map .s)]/\r = .row 76 8 ((List.map zAm) y0)
def zKl:zAq:=pG zXA
def zLv:PSound prog 88 zKl:=by
 have gok:=gk1 zMj<|gk0;refine psq tokW call88 func88 rfl ?_;rintro xs r w0 G0 ⟨n,⟨n1A,n1C,n1D,n1B⟩,⟨r2E,r2Ad,r2Ah⟩,y0,h,rfl,rfl⟩ _;rw[zGo]at h;refine yCZ [4] [] rfl ?_;refine zAj (Le.rnq [] [(2,pN n1A n1C n1D n1B),(3,.s (.pt (Zi r2E r2Ad r2Ah)))] [] 0)<|yEW ?_;obtain⟨⟨y3,y4⟩,hy3,h⟩:=zAc h;refine⟨_,⟨_,_,_,_,_,hy3,rfl,rfl⟩,?_⟩;refine zAa<|yCZ [] [14] rfl ?_;refine len1 Nd.encs_eq y3 ?_;refine zAf rfl h (fun hb h=>?_) (fun hb h=>?_)
 ·refine yCZ [4] [] rfl ?_;refine zAj (Le.rnq [(0,0)] [(4,.orow 0)] [(0,.row 76 8 ((List.map zAm) []))] 1 (h2:=⟨rfl,⟨_,rfl,congrArg (Ob.row 76 8) zHW⟩,trivial⟩))<|zAd ?_;exact jH
 refine zAe<|yCZ [22] [] rfl ?_;refine zAj (Le.rnq [(0,0)] [(4,.orow 0)] [(0,.row 76 8 ((List.map zAm) [(2,r2E,r2Ad,0,y3,0,[],[])]))] 1 (h2:=⟨rfl,⟨_,rfl,congrArg (Ob.row 76 8) zHW⟩,trivial⟩))<|zAd ?_;exact jH
def zZM (xs:List AV) (r:Ret):Prop:=∃ a0 a1 y0,zDQ a0 a1=some y0/\xs=(Zt a0 a1)/\r = .row 3 1 (iL y0)
def zIR:zAq:=zAr fun xs r=>zZM xs r
def zIF:PSound prog 90 zIR:=by
 have gok:=@gok0 prog;refine psq tokW call90 func90 rfl ?_;rintro xs r w0 G0 ⟨path1,more2,y0,h,rfl,rfl⟩ _;rw[zDQ]at h;refine yCZ [4] [] rfl ?_;refine zAj (Le.rnq [] [(0,.s (.sl 1 (iL path1))),(1,.s (.sl 1 (iL more2)))] [] 0)<|yCZ [5,7,9] [] rfl ?_;obtain⟨hq,h⟩:=zAs h;refine And.intro (lapE hq rfl (rlen (fun _=>rfl) _)) ?_;obtain⟨hq,h⟩:=zAs h;refine And.intro (lapE hq (by simp) (rlen (fun _=>rfl) _)) ?_;show Tri ..;refine zAj (Le.rnq [(2,0)] [(4,.orow 0)] [(0,.row 3 1 (iL (path1++more2)))] 1 (h2:=⟨rfl,⟨_,rfl,congrArg (Ob.row 3 1) zHW⟩,trivial⟩))<|zAd ?_;exact jH
def zOL:Prop:=∃ a0 a1 y0,zD7 n a0 a1=some y0/\xs=(Zn a0 a1)/\r = .val (nB y0)
def zJq:zAq:=pG zOL
def zN7:PSound prog 151 zJq:=by
 have gok:=gk1 zFa<|gk0;refine psq tokW call151 func151 rfl ?_;rintro xs r w0 G0 ⟨n,l1,slot2,y0,h,rfl,rfl⟩ _;rw[zD7]at h;refine yEW ?_;refine zAa ?_;obtain⟨x3,hj,h⟩:=zAc h;refine pL [(4,nB x3)] ?_ (fun V' hle=>?_)
 ·replace h:=hj;refine zAb [] [6,8,12,16,19,22,25,27,31,34] rfl ?_;refine len1 Nd.encs_eq l1 ?_;refine nbS h (fun hb h=>?_) (fun hb h=>?_)
  ·obtain⟨y5,hy5,h⟩:=zAc h;refine⟨_,⟨_,_,_,hy5,rfl,rfl⟩,?_⟩;refine nbS h (fun hb h=>?_) (fun hb h=>?_)
   ·refine nbS h (fun hb h=>?_) (fun hb h=>?_)
    ·obtain⟨⟨e6A,e6C,e6D,e6B⟩,he6,h⟩:=zAc h;refine at1 (nN e6A e6C e6D e6B) Nd.encs_eq he6 ?_;refine len1 Nd.encs_eq e6B ?_;refine nbS h (fun hb h=>?_) (fun hb h=>?_)
     ·obtain⟨⟨e9A,e9C,e9D,e9B⟩,he9,h⟩:=zAc h;refine at1 (nN e9A e9C e9D e9B) Nd.encs_eq he9 ?_;obtain⟨⟨e11A,e11C,e11D,e11B⟩,he11,h⟩:=zAc h;refine at1 (nN e11A e11C e11D e11B) Nd.encs_eq he11 ?_;refine len1 Nd.encs_eq e11B ?_;exact jD
     exact jD
    exact jJ
   exact jT
  intro b hb;subst hb;exact jT
 exact jP
def zRS:Prop:=∃ a0 y0,zEt n a0=some y0/\xs=[.agg ((zAm a0).map .s)]/\r = .val (nB y0)
def zH8:zAq:=pG zRS
def zKU:PSound prog 97 zH8:=by
 have gok:=gk1 zFa<|gk1 zN7<|gk0;refine psq tokW call97 func97 rfl ?_;rintro xs r w0 G0 ⟨n,⟨a1A,a1E,a1F,a1V,a1H,a1W,a1Ac,a1C⟩,y0,h,rfl,rfl⟩ _;rw[zEt]at h;refine yEW ?_;refine zAa<|yEW ?_;show Tri ..;obtain⟨fl,hj,ho1⟩:=zAc h;refine zBN (fl:=fl) (fun z=>match z with | _=>⟨ofL [],fun _=>none,0⟩) ?_ (fun z V' hz hle=>?_)
 ·replace h:=hj;refine zAk<|zAa<|yEW ?_;show Tri ..;obtain⟨x2,hj,h⟩:=zAc h;refine pL [(1,.s (.pt (Za a1A a1E a1F a1V a1H a1W a1Ac a1C))),(4,nI a1A),(5,nB x2)] ?_ (fun V' hle=>?_)
  ·replace h:=hj;refine zAf rfl h (fun hb h=>?_) (fun hb h=>?_)
   ·exact gB
   exact kH
  refine zAj hle<|zAf rfl h (fun hb h=>?_) (fun hb h=>?_)
  ·refine zAa ?_;obtain⟨x3,hj,h⟩:=zAc h;refine pL [(2,nB x3)] ?_ (fun V' hle=>?_)
   ·replace h:=hj;refine zAb [] [10,12,17,22,27,32] rfl ?_;refine len1 Nd.encs_eq a1H ?_;refine nbS h (fun hb h=>?_) (fun hb h=>?_)
    ·obtain⟨y5,hy5,h⟩:=zAc h;refine⟨_,⟨_,_,_,hy5,rfl,rfl⟩,?_⟩;refine nbS h (fun hb h=>?_) (fun hb h=>?_)
     ·refine nbS h (fun hb h=>?_) (fun hb h=>?_)
      ·refine nbS h (fun hb h=>?_) (fun hb h=>?_)
       ·refine nbS h (fun hb h=>?_) (fun hb h=>?_)
        ·exact jD
        exact jD
       exact jJ
      exact jT
     intro b hb;subst hb;exact jT
    intro b hb;subst hb;intro b hb;subst hb;exact jT
   exact jX
  refine zAa<|yEW ?_;show Tri ..;obtain⟨x6,hj,h⟩:=zAc h;refine pL [(1,.s (.pt (Za a1A a1E a1F a1V a1H a1W a1Ac a1C))),(4,nI a1A),(37,nB x6)] ?_ (fun V' hle=>?_)
  ·replace h:=hj;refine zAf rfl h (fun hb h=>?_) (fun hb h=>?_)
   ·exact gB
   exact kH
  refine zAj hle<|zAf rfl h (fun hb h=>?_) (fun hb h=>?_)
  ·refine zAa ?_;obtain⟨x7,hj,h⟩:=zAc h;refine pL [(2,nB x7)] ?_ (fun V' hle=>?_)
   ·replace h:=hj;refine zAb [] [43,50,55] rfl ?_;refine nbS h (fun hb h=>?_) (fun hb h=>?_)
    ·obtain⟨y8,hy8,h⟩:=zAc h;refine⟨_,⟨_,_,_,_,hy8,rfl,rfl⟩,?_⟩;refine nbS h (fun hb h=>?_) (fun hb h=>?_)
     ·refine nbS h (fun hb h=>?_) (fun hb h=>?_)
      ·exact jD
      exact jD
     exact jJ
    exact jT
   exact jX
  refine yEW ?_;refine zAf rfl h (fun hb h=>?_) (fun hb h=>?_)
  ·refine zAa ?_;obtain⟨x9,hj,h⟩:=zAc h;refine pL [(2,nB x9)] ?_ (fun V' hle=>?_)
   ·replace h:=hj;refine zAb [] [67,70,73,78] rfl ?_;refine nbS h (fun hb h=>?_) (fun hb h=>?_)
    ·refine len1 Nd.encs_eq a1H ?_;refine nbS h (fun hb h=>?_) (fun hb h=>?_)
     ·refine nbS h (fun hb h=>?_) (fun hb h=>?_)
      ·exact jD
      exact jD
     exact jJ
    exact jT
   exact jX
  exact kW
 exact jG
def zRV (xs:List AV) (r:Ret):Prop:=∃ a0 a1 a2 a3 y0,zB0 a0 a1 a2 a3=some y0/\xs=[.s (.sl 4 (Nd.encs a0)),nI a1,nI a2,.s (.sl 4 (Nd.encs a3))]/\r = .row 24 4 (Nd.encs y0)
def zL0:zAq:=zAr fun xs r=>zRV xs r
def zQ6:PSound prog 199 zL0:=by
 have gok:=@gok0 prog;refine psq tokW call199 func199 rfl ?_;rintro xs r w0 G0 ⟨l1,at2,to3,by4,y0,h,rfl,rfl⟩ _;rw[zB0]at h;refine yCZ [8] [] rfl ?_;refine zAj (Le.rnq [] [(0,.s (.sl 4 (Nd.encs l1))),(1,nI at2),(2,nI to3),(3,.s (.sl 4 (Nd.encs by4)))] [] 0)<|yCZ [10,14] [13] rfl ?_;obtain⟨hq,h⟩:=zAs h;refine And.intro ⟨hq.1,hq.2.1,Int.le_trans hq.2.2 (bi.2 (bk (rlen Nd.encs_eq _).symm))⟩ ?_;intro r5 hr5;obtain rfl:Nd.encs ((l1.take at2.toNat).drop (0:Int).toNat)=r5:=(hr5.trans (rcut Nd.encs_eq _ _ _)).symm;obtain⟨hq,h⟩:=zAs h;refine And.intro (lapE hq rfl (rlen Nd.encs_eq _)) ?_;show Tri ..;refine zAj (Le.rnq [(1,0)] [(0,.s (.sl 4 (Nd.encs l1))),(2,nI to3),(3,.s (.sl 4 (Nd.encs by4))),(9,.orow 0)] [(0,.row 24 4 (Nd.encs ((l1.take at2.toNat).drop (0:Int).toNat)))] 1 (h2:=⟨rfl,⟨_,rfl,congrArg (Ob.row 24 4) zHW⟩,trivial⟩))<|yCZ [17] [] rfl ?_;obtain⟨hq,h⟩:=zAs h;refine And.intro (lapE hq (rlen Nd.encs_eq _) (rlen Nd.encs_eq _)) ?_;show Tri ..
 refine zAj (Le.rnq [(1,0)] [(0,.s (.sl 4 (Nd.encs l1))),(2,nI to3),(9,.orow 0)] [(0,.row 24 4 (Nd.encs (((l1.take at2.toNat).drop (0:Int).toNat)++by4)))] 1 (h2:=⟨rfl,⟨_,rfl,congrArg (Ob.row 24 4) zHW⟩,trivial⟩))<|yCZ [22] [21] rfl ?_;obtain⟨hq,h⟩:=zAs h;refine And.intro ⟨hq.1,Int.le_trans hq.2.1 (bi.2 (bk (rlen Nd.encs_eq _).symm)),Int.le_refl _⟩ ?_;intro r6 hr6;obtain rfl:Nd.encs ((l1.take (l1.length:Int).toNat).drop to3.toNat)=r6:=(hr6.trans ((congrArg (fun m:Nat=>((Nd.encs l1).take m).drop to3.toNat) (rlen Nd.encs_eq _)).trans (rcut Nd.encs_eq _ _ _))).symm;obtain⟨hq,h⟩:=zAs h;refine And.intro (lapE hq (rlen Nd.encs_eq _) (rlen Nd.encs_eq _)) ?_;show Tri ..;refine zAj (Le.rnq [(1,0)] [(8,.orow 0)] [(0,.row 24 4 (Nd.encs ((((l1.take at2.toNat).drop (0:Int).toNat)++by4)++((l1.take (l1.length:Int).toNat).drop to3.toNat))))] 1 (h2:=⟨rfl,⟨_,rfl,congrArg (Ob.row 24 4) zHW⟩,trivial⟩))<|zAd ?_;have hy:=osi h;subst hy;unfold zBF;exact⟨_,Le.refl _ _,0,rfl,rfl⟩
def zOJ (xs:List AV) (r:Ret):Prop:=∃ a0 a1 a2 y0,zBg a0 a1 a2=some y0/\xs=[.agg ((Nd.enc a0).map .s),nI a1,.agg ((Nd.enc a2).map .s)]/\r = .val (.agg ((Nd.enc y0).map .s))
def zD1:zAq:=zAr fun xs r=>zOJ xs r
def zEN:PSound prog 100 zD1:=by
 have gok:=@gok0 prog;refine psq tokW call100 func100 rfl ?_;rintro xs r w0 G0 ⟨⟨n1A,n1C,n1D,n1B⟩,i2,⟨kid3A,kid3C,kid3D,kid3B⟩,y0,h,rfl,rfl⟩ _;rw[zBg]at h;refine yCZ [3,6] [] rfl ?_;refine yCZ [7,10] [] rfl ?_;obtain⟨hq,h⟩:=zAs h;refine And.intro (lapE hq rfl (rlen Nd.encs_eq _)) ?_;show Tri ..;refine zAj (Le.rnq [(0,0),(3,1),(1,2)] [(1,nI i2),(3,.op 0 0),(5,pN kid3A kid3C kid3D kid3B),(6,.op 2 0)] [(0,.box 24 [nI n1A,nS n1C,nI n1D,.orow 1]),(1,.row 24 4 (Nd.encs n1B)),(2,.box 24 [nI 0,.s (.str []),nI 0,.nl 4])] 3 (h2:=⟨rfl,⟨_,rfl,rfl⟩,rfl,⟨_,rfl,congrArg (Ob.row 24 4) zHW⟩,rfl,⟨_,rfl,rfl⟩,trivial⟩)) ?_;refine yEW ?_;obtain⟨⟨e4A,e4C,e4D,e4B⟩,he4,h⟩:=zAc h;refine And.intro (zGU Nd.encs_eq he4).1 ?_;have hset5:=(rset (R:=Nd.encs) (f:=Nd.enc) Nd.encs_eq he4 (Nd.mk kid3A kid3C kid3D kid3B) 0 4 (nN kid3A kid3C kid3D kid3B) rfl);have hat5:=at_set he4 (Nd.mk kid3A kid3C kid3D kid3B)
 refine And.intro (zGU Nd.encs_eq he4).2.2 ?_;refine zAj (Le.rnq [(0,0),(1,1),(2,2)] [(3,.op 0 0),(6,.op 2 0)] [(0,.box 24 [nI n1A,nS n1C,nI n1D,.orow 1]),(1,.row 24 4 (Nd.encs (n1B.set i2.toNat (Nd.mk kid3A kid3C kid3D kid3B)))),(2,.box 24 [nI 0,.s (.str []),nI 0,.nl 4])] 3 (h2:=⟨rfl,⟨_,rfl,rfl⟩,rfl,⟨_,rfl,congrArg (Ob.row 24 4) hset5⟩,rfl,⟨_,rfl,rfl⟩,trivial⟩))<|yEW ?_;refine zAd ?_;have hy:=osi h;subst hy;unfold zBF;exact⟨_,(Le.trans (Le.rnq [(2,0),(1,1)] [(6,.op 0 0)] [(0,.box 24 [nI n1A,nS n1C,nI n1D,.orow 1]),(1,.row 24 4 (Nd.encs (n1B.set i2.toNat (Nd.mk kid3A kid3C kid3D kid3B))))] 2) (Le.giveRow 1 rfl)),rfl,rfl⟩
def zRU (xs:List AV) (r:Ret):Prop:=∃ a0 a1 a2 y0,zDC a0 a1 a2=some y0/\xs=[.agg ((Nd.enc a0).map .s),nI a1,.s (.sl 4 (Nd.encs a2))]/\r = .val (.agg ((Nd.enc y0).map .s))
def zLZ:zAq:=zAr fun xs r=>zRU xs r
def zQ5:PSound prog 200 zLZ:=by
 have gok:=gk1 zCS<|gk1 zEN<|gk0;refine psq tokW call200 func200 rfl ?_;rintro xs r w0 G0 ⟨⟨n1A,n1C,n1D,n1B⟩,slot2,l3,y0,h,rfl,rfl⟩ _;rw[zDC]at h;refine yCZ [6] [] rfl ?_;refine zAa<|zCE [9,11] [] [2,4,5,7] [] rfl (by decide +kernel) ?_;obtain⟨hq,h⟩:=zAs h;refine And.intro (lapE hq rfl (rlen Nd.encs_eq _)) ?_;obtain⟨⟨y4A,y4C,y4D,y4B⟩,hy4,h⟩:=zAc h;refine⟨_,⟨_,_,hy4,(congrArg (fun r=>[AV.s (.sl 4 r)]) (show[]++(Nd.encs l3)=Nd.encs l3 from zHW)),rfl⟩,?_⟩;obtain⟨⟨y5A,y5C,y5D,y5B⟩,hy5,h⟩:=zAc h;refine⟨_,⟨_,_,_,_,hy5,rfl,rfl⟩,?_⟩;exact jN
variable (n:Nat) (xs:List AV) (r:Ret)
def zRT:Prop:=∃ a0 a1 y0 y1,zFx n a0 a1=some (y0,y1)/\xs=[.s (.sl 4 (Nd.encs a0)),.agg ((zAm a1).map .s)]/\r = .val (.tup (Zn y0 y1))
def zLY:zAq:=pG zRT
def zQ4:PSound prog 155 zLY:=by
 have gok:=gk1 zQ6<|gk1 zMK<|gk1 zQ5<|gk1 zMh<|gk0;refine psq tokW call155 func155 rfl ?_;rintro xs r w0 G0 ⟨n,a1,⟨a2A,a2E,a2F,a2V,a2H,a2W,a2Ac,a2C⟩,y0,y1,h,rfl,rfl⟩ _;rw[zFx]at h;refine yEW ?_;refine yEW ?_;refine zAa<|yEW ?_;show Tri ..;obtain⟨x3,hj,h⟩:=zAc h;refine pL [(0,.s (.sl 4 (Nd.encs a1))),(3,.s (.pt (Za a2A a2E a2F a2V a2H a2W a2Ac a2C))),(6,nI x3)] ?_ (fun V' hle=>?_)
 ·replace h:=hj;refine zAk<|yEW ?_;refine zAf rfl h (fun hb h=>?_) (fun hb h=>?_)
  ·exact kH
  refine yEW ?_;refine zAf rfl h (fun hb h=>?_) (fun hb h=>?_)
  ·refine zAb [] [17] rfl ?_;refine len1 Nd.encs_eq a2H ?_;exact jD
  refine yEW ?_;refine zAf rfl h (fun hb h=>?_) (fun hb h=>?_)
  ·exact kH
  exact gB
 refine zAj hle<|zAa<|zAa ?_;obtain⟨x5,hj,h⟩:=zAc h;refine pL [(0,.s (.sl 4 (Nd.encs a1))),(3,.s (.pt (Za a2A a2E a2F a2V a2H a2W a2Ac a2C))),(6,nI x3),(40,nB x5)] ?_ (fun V' hle=>?_)
 ·replace h:=hj;refine zAb [] [25,29,32,35] rfl ?_;refine nbS h (fun hb h=>?_) (fun hb h=>?_)
  ·exact jJ
  refine len1 Nd.encs_eq a1 ?_;refine nbS h (fun hb h=>?_) (fun hb h=>?_)
  ·exact jD
  refine len1 Nd.encs_eq a1 ?_;exact jD
 refine zAj hle<|zAf rfl h (fun hb h=>?_) (fun hb h=>?_)
 ·exact jM
 refine zAe<|yEW ?_;refine zAa<|yEW ?_;refine zAk<|yEW ?_;refine zAf rfl h (fun hb h=>?_) (fun hb h=>?_)
 ·refine yEW ?_;obtain⟨y8,hy8,h⟩:=zAc h;refine⟨_,⟨_,_,_,_,_,hy8,rfl,rfl⟩,?_⟩;exact jA
 refine yEW ?_;refine zAf rfl h (fun hb h=>?_) (fun hb h=>?_)
 ·refine zAa<|zAa<|zAw [] [62] [] rfl (by decide +kernel) ?_;obtain⟨hq,h⟩:=zAs h;refine And.intro ⟨hq.1,hq.2.1,Int.le_trans hq.2.2 (bi.2 (bk (rlen Nd.encs_eq _).symm))⟩ ?_;intro r9 hr9;obtain rfl:Nd.encs ((a1.take (i64.wrap (a2F+x3)).toNat).drop a2F.toNat)=r9:=(hr9.trans (rcut Nd.encs_eq _ _ _)).symm;obtain⟨y10,hy10,h⟩:=zAc h;refine⟨_,⟨_,_,_,_,hy10,rfl,rfl⟩,?_⟩;refine zAf rfl h (fun hb h=>?_) (fun hb h=>?_)
  ·exact jM
  refine zAe<|yEW ?_;obtain⟨y11,hy11,h⟩:=zAc h;refine⟨_,⟨_,_,_,_,_,hy11,rfl,rfl⟩,?_⟩;exact jA
 refine yEW ?_;refine zAf rfl h (fun hb h=>?_) (fun hb h=>?_)
 ·refine zAa<|zAw [] [80,88,90] [] rfl (by decide +kernel) ?_;obtain⟨⟨e12A,e12C,e12D,e12B⟩,he12,h⟩:=zAc h;refine at1 (nN e12A e12C e12D e12B) Nd.encs_eq he12 ?_;obtain⟨hq,h⟩:=zAs h;refine And.intro ⟨hq.1,hq.2.1,Int.le_trans hq.2.2 (bi.2 (bk (rlen Nd.encs_eq _).symm))⟩ ?_;intro r14 hr14;obtain rfl:Nd.encs ((a1.take (i64.wrap (a2F+x3)).toNat).drop a2F.toNat)=r14:=(hr14.trans (rcut Nd.encs_eq _ _ _)).symm;obtain⟨⟨y15A,y15C,y15D,y15B⟩,hy15,h⟩:=zAc h;refine⟨_,⟨_,_,_,_,hy15,rfl,rfl⟩,?_⟩;intro r16 hr16;obtain rfl:Nd.encs [Nd.mk y15A y15C y15D y15B]=r16:=(hr16.trans zHW).symm;obtain⟨y17,hy17,h⟩:=zAc h;refine⟨_,⟨_,_,_,_,_,hy17,rfl,rfl⟩,?_⟩;exact jA
 refine zAe<|yCZ [8] [95] rfl ?_;obtain⟨⟨e18A,e18C,e18D,e18B⟩,he18,h⟩:=zAc h;refine at1 (nN e18A e18C e18D e18B) Nd.encs_eq he18 ?_;refine zAa<|yEW ?_;refine zAf rfl h (fun hb h=>?_) (fun hb h=>?_)
 ·refine zAa<|zAa ?_;obtain⟨x20,hj,h⟩:=zAc h;refine zAl ⟨ofL [(0,.s (.sl 4 (Nd.encs a1))),(3,.s (.pt (Za a2A a2E a2F a2V a2H a2W a2Ac a2C))),(7,nI (i64.wrap (a2F+x3))),(8,.op 0 0),(137,nB x20)],ofH [(0,.box 24 (Zr e18A e18C e18D e18B))],1⟩ ?_ (fun V' hle=>?_)
  ·replace h:=hj;refine zAw [] [104,106,111,114,119,123,131] [3,8,20,28] rfl (by decide +kernel) ?_;refine len1 Nd.encs_eq e18B ?_;refine nbS h (fun hb h=>?_) (fun hb h=>?_)
   ·exact kC
   obtain⟨⟨e22A,e22C,e22D,e22B⟩,he22,h⟩:=zAc h;refine at1 (nN e22A e22C e22D e22B) Nd.encs_eq he22 ?_;refine len1 Nd.encs_eq e22B ?_;refine nbS h (fun hb h=>?_) (fun hb h=>?_)
   ·exact jC
   obtain⟨⟨e25A,e25C,e25D,e25B⟩,he25,h⟩:=zAc h;refine at1 (nN e25A e25C e25D e25B) Nd.encs_eq he25 ?_;obtain⟨⟨e27A,e27C,e27D,e27B⟩,he27,h⟩:=zAc h;refine at1 (nN e27A e27C e27D e27B) Nd.encs_eq he27 ?_;obtain⟨⟨y29A,y29C,y29D,y29B⟩,hy29,h⟩:=zAc h;refine⟨_,⟨_,_,_,_,hy29,rfl,rfl⟩,?_⟩;obtain⟨y30,hy30,h⟩:=zAc h;refine⟨_,⟨_,_,_,_,hy30,rfl,rfl⟩,?_⟩;exact jC
  refine zAj hle<|zAf rfl h (fun hb h=>?_) (fun hb h=>?_)
  ·exact jM
  refine zAe<|zAa<|zAw [] [146] [5] rfl (by decide +kernel) ?_;obtain⟨⟨e31A,e31C,e31D,e31B⟩,he31,h⟩:=zAc h;refine at1 (nN e31A e31C e31D e31B) Nd.encs_eq he31 ?_;obtain⟨y33,hy33,h⟩:=zAc h;refine⟨_,⟨_,_,_,_,_,hy33,rfl,rfl⟩,?_⟩;exact jA
 refine zAe<|zAa<|yEW ?_;show Tri ..;obtain⟨fl,hj,ho1⟩:=zAc h;refine zBN (fl:=fl) (fun z=>match z with | _=>⟨ofL [],fun _=>none,0⟩) ?_ (fun z V' hz hle=>?_)
 ·replace h:=hj;refine zAk<|zAa<|yEW ?_;show Tri ..;obtain⟨x34,hj,h⟩:=zAc h;refine zAl ⟨ofL [(0,.s (.sl 4 (Nd.encs a1))),(3,.s (.pt (Za a2A a2E a2F a2V a2H a2W a2Ac a2C))),(7,nI (i64.wrap (a2F+x3))),(8,.op 0 0),(152,nB x34)],ofH [(0,.box 24 (Zr e18A e18C e18D e18B))],1⟩ ?_ (fun V' hle=>?_)
  ·replace h:=hj;refine zAf rfl h (fun hb h=>?_) (fun hb h=>?_)
   ·exact qN
   refine yEW ?_;refine zAf rfl h (fun hb h=>?_) (fun hb h=>?_)
   ·exact qN
   refine yEW ?_;refine zAf rfl h (fun hb h=>?_) (fun hb h=>?_)
   ·exact qN
   refine yEW ?_;refine zAf rfl h (fun hb h=>?_) (fun hb h=>?_)
   ·exact qN
   refine yEV ?_;exact jC
  refine zAj hle<|zAf rfl h (fun hb h=>?_) (fun hb h=>?_)
  ·refine yEW ?_;refine zAf rfl h (fun hb h=>?_) (fun hb h=>?_)
   ·refine yEW ?_;refine yCZ [] [171] rfl ?_;intro r35 hr35;obtain rfl:Nd.encs [Nd.mk e18A a2C e18D e18B]=r35:=(hr35.trans zHW).symm;obtain⟨y36,hy36,h⟩:=zAc h;refine⟨_,⟨_,_,_,_,_,hy36,rfl,rfl⟩,?_⟩;exact jK
   refine zAe ?_;cases h;exact⟨_,rfl,(Le.rnq [] _ [] 0)⟩
  refine zAe ?_;cases h;exact⟨_,rfl,(Le.rnq [] _ [] 0)⟩
 subst hz;obtain _:=z;replace h:=ho1;refine zAj hle<|yEW ?_;exact jA
def zH0:Prop:=∃ a0 a1 a2 y0,zFy n a0 a1 a2=some y0/\xs=[.agg ((Nd.enc a0).map .s),.s (.sl 1 (iL a1)),.s (.sl 4 (Nd.encs a2))]/\r = .val (.agg ((Nd.enc y0).map .s))
def zTG (n:Nat) (ih:PSound prog 156 (zAr (zH0 n))):PSound prog 156 (zAr (zH0 (n+1))):=by
 have gok:=gk1 zCS<|gk1 ih<|gk1 zEN<|gk0;refine psq tokW call156 func156 rfl ?_;rintro xs r w0 G0 ⟨⟨n1A,n1C,n1D,n1B⟩,path2,l3,y0,h,rfl,rfl⟩ _;rw[zFy]at h;refine yCZ [6] [] rfl ?_;refine zAa<|yCZ [] [9] rfl ?_;refine len1 (fun _=>rfl) path2 ?_;refine zAf rfl h (fun hb h=>?_) (fun hb h=>?_)
 ·refine yEW ?_;obtain⟨⟨y5A,y5C,y5D,y5B⟩,hy5,h⟩:=zAc h;refine⟨_,⟨_,_,hy5,rfl,rfl⟩,?_⟩;exact jN
 refine zAe<|zAa<|zCE [7] [16,18] [7,8] [] rfl (by decide +kernel) ?_;obtain⟨e6,he6,h⟩:=zAc h;refine at1 [.int .i64 e6] (fun _=>rfl) he6 ?_;obtain⟨⟨e8A,e8C,e8D,e8B⟩,he8,h⟩:=zAc h;refine at1 (nN e8A e8C e8D e8B) Nd.encs_eq he8 ?_;refine zAj (Le.giveBox 1 (nN e8A e8C e8D e8B) rfl rfl)<|zAa<|zAw [] [22,26,31,33,36] [21] rfl (by decide +kernel) ?_;obtain⟨e10,he10,h⟩:=zAc h;refine at1 [.int .i64 e10] (fun _=>rfl) he10 ?_;obtain⟨e12,he12,h⟩:=zAc h;refine at1 [.int .i64 e12] (fun _=>rfl) he12 ?_;obtain⟨e14,he14,h⟩:=zAc h;refine at1 [.int .i64 e14] (fun _=>rfl) he14 ?_;obtain⟨⟨e16A,e16C,e16D,e16B⟩,he16,h⟩:=zAc h;refine at1 (nN e16A e16C e16D e16B) Nd.encs_eq he16 ?_;obtain⟨hq,h⟩:=zAs h;refine And.intro ⟨hq.1,Int.le_trans hq.2.1 (bi.2 (bk (rlen (fun _=>rfl) _).symm)),Int.le_refl _⟩ ?_;intro r18 hr18;obtain rfl:iL ((path2.take (path2.length:Int).toNat).drop (2:Int).toNat)=r18:=(hr18.trans ((congrArg (fun m:Nat=>((iL path2).take m).drop (2:Int).toNat) (rlen (fun _=>rfl) _)).trans (rcut (fun _=>rfl) _ _ _))).symm;obtain⟨⟨y19A,y19C,y19D,y19B⟩,hy19,h⟩:=zAc h;refine⟨_,⟨_,_,_,_,hy19,rfl,rfl⟩,?_⟩;obtain⟨⟨y20A,y20C,y20D,y20B⟩,hy20,h⟩:=zAc h;refine⟨_,⟨_,_,_,_,hy20,rfl,rfl⟩,?_⟩
 obtain⟨⟨y21A,y21C,y21D,y21B⟩,hy21,h⟩:=zAc h;refine⟨_,⟨_,_,_,_,hy21,rfl,rfl⟩,?_⟩;exact jN
def zUa:∀ n,PSound prog 156 (zAr (zH0 n)):=by
 intro n;induction n with
 | zero=>exact zCz call156 (fun xs r h=>by obtain⟨_,_,_,_,h,_⟩:=h; cases h)
 | succ n ih=>exact zTG n ih
def zR6:zAq:=pG zH0
def zWU:PSound prog 156 zR6:=zDf zUa
def zT1:Prop:=∃ a0 a1 y0 y1,zEg n a0 a1=some (y0,y1)/\xs=[.agg ((Nd.enc a0).map .s),.agg ((zAm a1).map .s)]/\r = .val (.tup (Zo y0 y1))
def zJO:zAq:=pG zT1
def zMk:PSound prog 102 zJO:=by
 have gok:=gk1 zCT<|gk1 zKU<|gk1 zI2<|gk1 zQ4<|gk1 zWU<|gk0;refine psq tokW call102 func102 rfl ?_;rintro xs r w0 G0 ⟨n,⟨n1A,n1C,n1D,n1B⟩,⟨op2A,op2E,op2F,op2V,op2H,op2W,op2Ac,op2C⟩,y0,y1,h,rfl,rfl⟩ _;rw[zEg]at h;refine yCZ [4] [] rfl ?_;refine zAa<|yEW ?_;obtain⟨y3,hy3,h⟩:=zAc h;refine⟨_,⟨_,_,_,hy3,rfl,rfl⟩,?_⟩;refine zAf rfl h (fun hb h=>?_) (fun hb h=>?_)
 ·exact jM
 refine zAe<|zAa<|yEW ?_;obtain⟨y4,hy4,h⟩:=zAc h;refine⟨_,⟨_,_,_,hy4,rfl,rfl⟩,?_⟩;refine zAf rfl h (fun hb h=>?_) (fun hb h=>?_)
 ·exact jM
 refine zAe<|yCZ [6] [] rfl ?_;obtain⟨⟨⟨y5A,y5C,y5D,y5B⟩,y6⟩,hy5,h⟩:=zAc h;refine⟨_,⟨_,_,_,_,_,hy5,rfl,rfl⟩,?_⟩;refine zAj (Le.giveBox 1 (nN y5A y5C y5D y5B) rfl rfl)<|zAa<|yEW ?_;refine zAf rfl h (fun hb h=>?_) (fun hb h=>?_)
 ·exact jM
 refine zAe<|yEW ?_;obtain⟨⟨y7,y8⟩,hy7,h⟩:=zAc h;refine⟨_,⟨_,_,_,_,_,hy7,rfl,rfl⟩,?_⟩;refine zAa<|yEW ?_;refine zAf rfl h (fun hb h=>?_) (fun hb h=>?_)
 ·exact jM
 refine zAe<|yCZ [9] [] rfl ?_;obtain⟨⟨y9A,y9C,y9D,y9B⟩,hy9,h⟩:=zAc h;refine⟨_,⟨_,_,_,_,_,hy9,rfl,rfl⟩,?_⟩;refine zAj (Le.giveBox 2 (nN y9A y9C y9D y9B) rfl rfl)<|zAa<|yEW ?_;obtain⟨y10,hy10,h⟩:=zAc h;refine⟨_,⟨_,_,_,hy10,rfl,rfl⟩,?_⟩;refine zAf rfl h (fun hb h=>?_) (fun hb h=>?_)
 ·exact jM
 refine zAe<|yEW ?_;exact jA
def zOK:Prop:=∃ a0 a1 y0 y1 y2,zDe n a0 a1=some (y0,y1,y2)/\xs=[.agg ((Nd.enc a0).map .s),.s (.sl 8 ((List.map zAm) a1))]/\r = .val (.tup [.agg ((Nd.enc y0).map .s),nI y1,nI y2])
def zJp:zAq:=pG zOK
def zN6:PSound prog 148 zJp:=by
 have gok:=gk1 zCT<|gk1 zMk<|gk0;refine psq tokW call148 func148 rfl ?_;rintro xs r w0 G0 ⟨n,⟨n1A,n1C,n1D,n1B⟩,ops2,y0,y1,y2,h,rfl,rfl⟩ _;rw[zDe]at h;refine yCZ [2,4] [] rfl ?_;refine zAa<|yEW ?_;obtain⟨y3,hy3,h⟩:=zAc h;refine⟨_,⟨_,_,_,hy3,rfl,rfl⟩,?_⟩;refine zAf rfl h (fun hb h=>?_) (fun hb h=>?_)
 ·refine yEW ?_;refine zAd ?_;exact jI
 refine zAe<|zAa<|yEW ?_;show Tri ..;obtain⟨fl,hl,ho1⟩:=zAc h;refine zBN (fl:=fl) (fun z=>match z with | ⟨x10,x11,x12,x13⟩=>⟨ofL [(2,.op 0 0),(4,.op 1 0)],ofH (Zj x10 x11 x12 x13),2⟩) ?_ (fun z V' hz hle=>?_)
 ·refine zAk (zAv (X:=Nat×Int×(List UInt8)×Int×(List Nd)×Int) (fun y=>match y with | (k,x4,x5,x6,x7,i9)=>⟨ofL [(1,.s (.sl 8 ((List.map zAm) ops2))),(2,.op 0 0),(4,.op 1 0),(7,nI i9)],ofH (Zj x4 x5 x6 x7),2⟩) (fun y=>zBB n ops2 y.1 y.2.1 y.2.2.1 y.2.2.2.1 y.2.2.2.2.1 y.2.2.2.2.2=some fl) (fun y=>y.1) (n,n1A,n1C,n1D,n1B,0) hl ?_ ?_)
  ·exact kY
  rintro⟨k,x4,x5,x6,x7,i9⟩ h;cases k with
  | zero=>cases h
  | succ k=>
  replace h:zBB n ops2 (k+1) x4 x5 x6 x7 i9=some fl:=h;rw[zBB]at h;refine zAa<|yCZ [] [16] rfl ?_;refine len1 (fun _=>rfl) ops2 ?_;refine zAf rfl h (fun hb h=>?_) (fun hb h=>?_)
  ·refine zAe<|zAa<|zAk<|zAa<|zCE [8] [24] [0,9,10] [0] rfl (by decide +kernel) ?_;obtain⟨⟨e15A,e15E,e15F,e15V,e15H,e15W,e15Ac,e15C⟩,he15,h⟩:=zAc h;refine at1 (Za e15A e15E e15F e15V e15H e15W e15Ac e15C) (fun _=>rfl) he15 ?_;obtain⟨⟨⟨y17A,y17C,y17D,y17B⟩,y18⟩,hy17,h⟩:=zAc h;refine⟨_,⟨_,_,_,_,_,hy17,rfl,rfl⟩,?_⟩;refine zAj (Le.giveBox 2 (nN y17A y17C y17D y17B) rfl rfl)<|zAa<|yEW ?_;refine zAf rfl h (fun hb h=>?_) (fun hb h=>?_)
   ·refine yEW ?_;refine zAd ?_;cases h;replace h:some _=some _:=ho1;exact jI
   refine zAe<|yEV ?_;refine yEV ?_;refine⟨(k,y17A,y17C,y17D,y17B,i64.wrap (i9+1)),h,(Le.rnq [(0,0),(1,1)] _ _ _),ax k⟩
  exact gJ
 subst hz;obtain⟨x10,x11,x12,x13⟩:=z;replace h:=ho1;refine zAj hle<|yEW ?_;refine zAd ?_;exact jI
def zWj:Prop:=∃ a0 a1 a2 a3 y0 y1,zBl n a0 a1 a2 a3=some (y0,y1)/\xs=[.agg ((Nd.enc a0).map .s),.agg ((zAz a1).map .s),.s (.sl 8 ((List.map zAm) a2)),.s (.sl 1 (iL a3))]/\r = .val (.tup [.agg ((zAg y0).map .s),nI y1])
def zEm:zAq:=pG zWj
def zEk:PSound prog 89 zEm:=by
 have gok:=gk1 zN6<|gk0;refine psq tokW call89 func89 rfl ?_;rintro xs r w0 G0 ⟨n,⟨n1A,n1C,n1D,n1B⟩,⟨c2G,c2S⟩,ops3,pos4,y0,y1,h,rfl,rfl⟩ _;rw[zBl]at h;refine yCZ [8] [] rfl ?_;refine yCZ [10] [] rfl ?_;obtain⟨⟨⟨y5A,y5C,y5D,y5B⟩,y6,y7⟩,hy5,h⟩:=zAc h;refine⟨_,⟨_,_,_,_,_,_,hy5,rfl,rfl⟩,?_⟩;refine zAj (Le.giveBox 1 (nN y5A y5C y5D y5B) rfl rfl)<|zAa<|yEW ?_;refine zAf rfl h (fun hb h=>?_) (fun hb h=>?_)
 ·exact jM
 refine zAe<|yEW ?_;exact jA
def zRZ:Prop:=∃ a0 a1 a2 y0 y1,zCQ n a0 a1 a2=some (y0,y1)/\xs=[.agg ((Nd.enc a0).map .s),.agg ((zAz a1).map .s),.s (.sl 4 (Nd.encs a2))]/\r = .val (.tup [.agg ((zAg y0).map .s),nI y1])
def zL4:zAq:=pG zRZ
def kX {P:Prop} (h:P:=by cases h;exact(Le.rnq [(0,0),(2,1)] _ _ _)):P:=h
abbrev Zf a b:=(.pt [.sl 1 (iL a),.sl 1 (iL b)]:S)
abbrev Zg:List AV:=[.nl 8,.nl 1,.nl 1,.nl 1,.nl 1]
def zRa:PSound prog 51 zL4:=by
 have gok:=gk1 zCT<|gk1 zFa<|gk1 zDF<|gk1 zLv<|gk1 zIF<|gk1 zEk<|gk0;refine psq tokW call51 func51 rfl ?_;rintro xs r w0 G0 ⟨n,⟨n1A,n1C,n1D,n1B⟩,⟨c2G,c2S⟩,items3,y0,y1,h,rfl,rfl⟩ _;rw[zCQ]at h;refine yCZ [6] [] rfl ?_;refine zAa<|zAa ?_;obtain⟨x4,hj,h⟩:=zAc h;refine zAl ⟨ofL [(2,.s (.sl 4 (Nd.encs items3))),(3,pN n1A n1C n1D n1B),(4,.s (Zf c2G c2S)),(6,.op 0 0),(18,nB x4)],ofH [(0,.box 40 Zg)],1⟩ ?_ (fun V' hle=>?_)
 ·replace h:=hj;refine zAb [] [14] rfl ?_;obtain⟨y5,hy5,h⟩:=zAc h;refine⟨_,⟨_,_,_,hy5,rfl,rfl⟩,?_⟩;refine nbS h (fun hb h=>?_) (fun hb h=>?_)
  ·exact jC
  obtain⟨y6,hy6,h⟩:=zAc h;refine⟨_,⟨_,_,_,hy6,rfl,rfl⟩,?_⟩;exact jC
 refine zAj hle<|zAf rfl h (fun hb h=>?_) (fun hb h=>?_)
 ·exact jM
 refine zAe<|yCZ [8] [] rfl ?_;obtain⟨⟨⟨y7E,y7Ad,y7Ah⟩,y8⟩,hy7,h⟩:=zAc h;refine⟨_,⟨_,_,_,_,_,hy7,rfl,rfl⟩,?_⟩;refine zAj (Le.giveBox 1 (Zi y7E y7Ad y7Ah) rfl rfl)<|zAa<|yEW ?_;refine zAf rfl h (fun hb h=>?_) (fun hb h=>?_)
 ·exact jM
 refine zAe<|yCZ [32] [] rfl ?_;obtain⟨y9,hy9,h⟩:=zAc h;refine⟨_,⟨_,_,_,_,hy9,rfl,rfl⟩,?_⟩;refine zAa<|yCZ [] [34] rfl ?_;refine len1 Nd.encs_eq items3 ?_;show Tri ..;obtain⟨l11,hj,h⟩:=zAc h;refine zAl ⟨ofL [(2,.s (.sl 4 (Nd.encs items3))),(3,pN n1A n1C n1D n1B),(4,.s (Zf c2G c2S)),(6,.op 0 0),(8,.s (.pt (Zi y7E y7Ad y7Ah))),(10,.orow 1)],ofH [(0,.box 40 Zg),(1,.row 76 8 ((List.map zAm) l11))],2⟩ ?_ (fun V' hle=>?_)
 ·replace h:=hj;refine zAf rfl h (fun hb h=>?_) (fun hb h=>?_)
  ·refine zAb [44] [43] rfl ?_;intro r12 hr12;obtain rfl:(List.map zAm) [(1,y7E,y7Ad,0,items3,0,[],[])]=r12:=(hr12.trans zHW).symm;obtain⟨hq,h⟩:=zAs h;refine And.intro (lapE hq (rlen (fun _=>rfl) _) (rlen (fun _=>rfl) _)) ?_;cases h;exact(Le.trans (Le.rnq [(0,0),(3,1)] [(2,.s (.sl 4 (Nd.encs items3))),(3,pN n1A n1C n1D n1B),(4,.s (Zf c2G c2S)),(6,.op 0 0),(8,.s (.pt (Zi y7E y7Ad y7Ah))),(10,.orow 1)] [(0,.box 40 Zg),(1,.row 76 8 ((List.map zAm) (y9++[(1,y7E,y7Ad,0,items3,0,[],[])])))] 2 (h2:=⟨rfl,⟨_,rfl,rfl⟩,rfl,⟨_,rfl,congrArg (Ob.row 76 8) zHW⟩,trivial⟩)) (Le.rnq [(0,0),(1,1)] _ _ _))
  refine zAe ?_;exact kX
 refine zAj hle<|zAa<|zAw [] [53,55] [12,15] rfl (by decide +kernel) ?_;refine len1 Nd.encs_eq items3 ?_;intro r14 hr14;obtain rfl:iL [i64.wrap (y7Ad+(items3.length:Int))]=r14:=(hr14.trans zHW).symm;obtain⟨y15,hy15,h⟩:=zAc h;refine⟨_,⟨_,_,_,hy15,rfl,rfl⟩,?_⟩;obtain⟨⟨⟨y16X,⟨y16Y,y16Z⟩,⟨y16Aa,y16Ab⟩⟩,y17⟩,hy16,h⟩:=zAc h;refine⟨_,⟨_,_,_,_,_,_,_,hy16,rfl,rfl⟩,?_⟩;exact jA
def zT0 (xs:List AV) (r:Ret):Prop:=∃ a0 y0,zGn a0=some y0/\xs=[.agg ((zCk a0).map .s)]/\r = .row 3 1 (iL y0)
def zNj:zAq:=zAr fun xs r=>zT0 xs r
def zTg:PSound prog 91 zNj:=by
 have gok:=@gok0 prog;refine psq tokW call91 func91 rfl ?_;rintro xs r w0 G0 ⟨⟨r1E,r1Ad,r1Ah⟩,y0,h,rfl,rfl⟩ _;rw[zGn]at h;refine yCZ [2] [] rfl ?_;refine zAj (Le.rnq [] [(1,.s (.pt (Zi r1E r1Ad r1Ah)))] [] 0)<|zAa<|zCE [3,6,10] [9] [0,3,7] [] rfl (by decide +kernel) ?_;obtain⟨hq,h⟩:=zAs h;refine And.intro (lapE hq rfl (rlen (fun _=>rfl) _)) ?_;intro r2 hr2;obtain rfl:iL [r1Ad]=r2:=(hr2.trans zHW).symm;obtain⟨hq,h⟩:=zAs h;refine And.intro (lapE hq (by simp) (rlen (fun _=>rfl) _)) ?_;show Tri ..;refine zAj (Le.rnq [(2,0)] [(2,.orow 0)] [(0,.row 3 1 (iL (r1E++[r1Ad])))] 1 (h2:=⟨rfl,⟨_,rfl,congrArg (Ob.row 3 1) zHW⟩,trivial⟩))<|zAd ?_;exact jH
def zQq:Prop:=∃ a0 a1 y0,zDR n a0 a1=some y0/\xs=(Zo a0 a1)/\r = .val (nB y0)
def zKk:zAq:=pG zQq
def zO0:PSound prog 93 zKk:=by
 have gok:=@gok0 prog;refine psq tokW call93 func93 rfl ?_;rintro xs r w0 G0 ⟨n,⟨n1A,n1C,n1D,n1B⟩,but2,y0,h,rfl,rfl⟩ _;rw[zDR]at h;refine yEW ?_;refine zAa<|yEW ?_;show Tri ..;obtain⟨fl,hl,ho1⟩:=zAc h;refine zBN (fl:=fl) (fun z=>match z with | _=>⟨ofL [],fun _=>none,0⟩) ?_ (fun z V' hz hle=>?_)
 ·refine zAk (zAv (X:=Nat×Int) (fun y=>match y with | (k,i3)=>⟨ofL [(1,nI but2),(2,pN n1A n1C n1D n1B),(5,nI i3)],fun _=>none,0⟩) (fun y=>zBS n1B but2 y.1 y.2=some fl) (fun y=>y.1) (n,0) hl ?_ ?_)
  ·exact Le.fgt
  rintro⟨k,i3⟩ h;cases k with
  | zero=>cases h
  | succ k=>
  replace h:zBS n1B but2 (k+1) i3=some fl:=h;rw[zBS]at h;refine zAa<|yCZ [] [9] rfl ?_;refine len1 Nd.encs_eq n1B ?_;refine zAf rfl h (fun hb h=>?_) (fun hb h=>?_)
  ·refine zAe<|zAa<|zAk<|zAa ?_;obtain⟨x5,hj,h⟩:=zAc h;refine pL [(1,nI but2),(2,pN n1A n1C n1D n1B),(5,nI i3),(25,nB x5)] ?_ (fun V' hle=>?_)
   ·replace h:=hj;refine zAb [] [16,20,23] rfl ?_;refine nbS h (fun hb h=>?_) (fun hb h=>?_)
    ·obtain⟨⟨e6A,e6C,e6D,e6B⟩,he6,h⟩:=zAc h;refine at1 (nN e6A e6C e6D e6B) Nd.encs_eq he6 ?_;refine len1 Nd.encs_eq e6B ?_;exact jD
    exact jD
   refine zAj hle<|zAf rfl h (fun hb h=>?_) (fun hb h=>?_)
   ·exact jE
   exact gP
  exact gV
 exact jG
def zWa:Prop:=∃ a0 a1 a2 y0 y1,zFZ n a0 a1 a2=some (y0,y1)/\xs=[.agg ((Nd.enc a0).map .s),.s (.sl 1 (iL a1)),nI a2]/\r = .val (.tup (Zo y0 y1))
def zLi:zAq:=pG zWa
def zN4:PSound prog 101 zLi:=by
 have gok:=gk1 zI2<|gk0;refine psq tokW call101 func101 rfl ?_;rintro xs r w0 G0 ⟨n,⟨n1A,n1C,n1D,n1B⟩,path2,i3,y0,y1,h,rfl,rfl⟩ _;rw[zFZ]at h;refine yCZ [6] [] rfl ?_;refine yCZ [8] [] rfl ?_;obtain⟨⟨⟨y4A,y4C,y4D,y4B⟩,y5⟩,hy4,h⟩:=zAc h;refine⟨_,⟨_,_,_,_,_,hy4,rfl,rfl⟩,?_⟩;refine zAj (Le.giveBox 1 (nN y4A y4C y4D y4B) rfl rfl)<|zAa<|yEW ?_;refine zAf rfl h (fun hb h=>?_) (fun hb h=>?_)
 ·exact jM
 refine zAe<|zAa<|zAa ?_;obtain⟨x6,hj,h⟩:=zAc h;refine zAl ⟨ofL [(2,nI i3),(6,.op 0 0),(8,pN y4A y4C y4D y4B),(28,nB x6)],ofH [(0,.box 24 [nI 0,.s (.str []),nI 0,.nl 4])],1⟩ ?_ (fun V' hle=>?_)
 ·replace h:=hj;refine zAb [] [22,26] rfl ?_;refine nbS h (fun hb h=>?_) (fun hb h=>?_)
  ·exact jC
  refine len1 Nd.encs_eq y4B ?_;exact jC
 refine zAj hle<|zAf rfl h (fun hb h=>?_) (fun hb h=>?_)
 ·exact jM
 refine zAe<|yCZ [] [33] rfl ?_;obtain⟨⟨e8A,e8C,e8D,e8B⟩,he8,h⟩:=zAc h;refine at1 (nN e8A e8C e8D e8B) Nd.encs_eq he8 ?_;exact jA
def zCG:(List Int×Int×Int×Nd)->List S
| ⟨p_row,p_at,p_own,⟨p_item_kind,p_item_text,p_item_cols,p_item_kids⟩⟩=>[.sl 1 (iL p_row),.int .i64 p_at,.int .i64 p_own,.int .i64 p_item_kind,.str p_item_text,.int .i64 p_item_cols,.sl 4 (Nd.encs p_item_kids)]
def zR1:Prop:=∃ a0 a1 y0 y1,zB1 n a0 a1=some (y0,y1)/\xs=(Zq a0 a1)/\r = .val (.tup [.agg ((zCG y0).map .s),nB y1])
def zFi:zAq:=pG zR1
def zFR:PSound prog 94 zFi:=by
 have gok:=gk1 zN4<|gk0;refine psq tokW call94 func94 rfl ?_;rintro xs r w0 G0 ⟨n,⟨n1A,n1C,n1D,n1B⟩,pos2,y0,y1,h,rfl,rfl⟩ _;rw[zB1]at h;refine yCZ [4] [] rfl ?_;refine yCZ [] [10] rfl ?_;refine len1 (fun _=>rfl) pos2 ?_;refine zAa<|yEW ?_;refine zAf rfl h (fun hb h=>?_) (fun hb h=>?_)
 ·exact jM
 refine zAe<|zAa<|zCE [7] [19,23] [14,15] [] rfl (by decide +kernel) ?_;obtain⟨hq,h⟩:=zAs h;refine And.intro ⟨hq.1,hq.2.1,Int.le_trans hq.2.2 (bi.2 (bk (rlen (fun _=>rfl) _).symm))⟩ ?_;intro r4 hr4;obtain rfl:iL ((pos2.take (i64.wrap ((pos2.length:Int) - 3)).toNat).drop (0:Int).toNat)=r4:=(hr4.trans (rcut (fun _=>rfl) _ _ _)).symm;obtain⟨e5,he5,h⟩:=zAc h;refine at1 [.int .i64 e5] (fun _=>rfl) he5 ?_;obtain⟨⟨⟨y7A,y7C,y7D,y7B⟩,y8⟩,hy7,h⟩:=zAc h;refine⟨_,⟨_,_,_,_,_,_,hy7,rfl,rfl⟩,?_⟩;refine zAj (Le.giveBox 1 (nN y7A y7C y7D y7B) rfl rfl)<|zAa<|zAw [] [31,35,40] [16] rfl (by decide +kernel) ?_;obtain⟨hq,h⟩:=zAs h;refine And.intro ⟨hq.1,hq.2.1,Int.le_trans hq.2.2 (bi.2 (bk (rlen (fun _=>rfl) _).symm))⟩ ?_;intro r9 hr9;obtain rfl:iL ((pos2.take (i64.wrap ((pos2.length:Int) - 3)).toNat).drop (0:Int).toNat)=r9:=(hr9.trans (rcut (fun _=>rfl) _ _ _)).symm;obtain⟨e10,he10,h⟩:=zAc h;refine at1 [.int .i64 e10] (fun _=>rfl) he10 ?_;obtain⟨e12,he12,h⟩:=zAc h;refine at1 [.int .i64 e12] (fun _=>rfl) he12 ?_;exact jA
def zR2 (xs:List AV) (r:Ret):Prop:=∃ a0 y0,zEv a0=some y0/\xs=[.agg ((zCG a0).map .s)]/\r = .val (.agg ((zAm y0).map .s))
def zH9:zAq:=zAr fun xs r=>zR2 xs r
def zBm {α:Type}{a b:α} (h:a=b:=by simp[bn,map_take,map_drop,irow,brow,zGH,ba,map_nil,zGe,Nd.encs_eq,Nd.enc,zBv,zAW,zB3,zAQ,zAE,zAm,zBc,zAn,zAg,zEe,zBp,zCk,zAz,zCG]):a=b :=
 h
def zKV:PSound prog 95 zH9:=by
 have gok:=gk1 zCS<|gk1 zEN<|gk0;refine psq tokW call95 func95 rfl ?_;rintro xs r w0 G0 ⟨⟨x1E,x1F,x1Ak,⟨x1Ao,x1Ar,x1Ag,x1Al⟩⟩,y0,h,rfl,rfl⟩ _;rw[zEv]at h;refine yCZ [2] [] rfl ?_;refine zAa<|zAw [] [12,15,24] [23] rfl (by decide +kernel) ?_;obtain⟨⟨e2A,e2C,e2D,e2B⟩,he2,h⟩:=zAc h;refine at1 (nN e2A e2C e2D e2B) Nd.encs_eq he2 ?_;refine len1 Nd.encs_eq e2B ?_;obtain⟨⟨y5A,y5C,y5D,y5B⟩,hy5,h⟩:=zAc h;refine⟨_,⟨_,_,hy5,rfl,rfl⟩,?_⟩;obtain⟨⟨y6A,y6C,y6D,y6B⟩,hy6,h⟩:=zAc h;refine⟨_,⟨_,_,_,_,hy6,rfl,rfl⟩,?_⟩;intro r7 hr7;obtain rfl:Nd.encs [Nd.mk y6A y6C y6D y6B]=r7:=(hr7.trans zBm).symm;exact jN
def zZK:Prop:=∃ a0 a1 y0 y1,zKM n a0 a1=some (y0,y1)/\xs=(Zo a0 a1)/\r = .val (.tup [.s (.sl 1 (iL y0)),nI y1])
def zVb:zAq:=pG zZK
def zYu:PSound prog 150 zVb:=by
 have gok:=gk1 zLt<|gk0;refine psq tokW call150 func150 rfl ?_;rintro xs r w0 G0 ⟨n,⟨n1A,n1C,n1D,n1B⟩,i2,y0,y1,h,rfl,rfl⟩ _;rw[zKM]at h;refine yEW ?_;refine yEW ?_;obtain⟨⟨y3,y4⟩,hy3,h⟩:=zAc h;refine⟨_,⟨_,_,_,_,hy3,rfl,rfl⟩,?_⟩;refine zAa<|yEW ?_;refine zAf rfl h (fun hb h=>?_) (fun hb h=>?_)
 ·exact jM
 refine zAe<|zAa<|zAa ?_;obtain⟨x5,hj,h⟩:=zAc h;refine pL [(1,nI i2),(6,.s (.sl 1 ((List.map zBp) y3))),(23,nB x5)] ?_ (fun V' hle=>?_)
 ·replace h:=hj;refine zAb [] [18,21] rfl ?_;refine nbS h (fun hb h=>?_) (fun hb h=>?_)
  ·exact jD
  refine len1 (fun _=>rfl) y3 ?_;exact jD
 refine zAj hle<|zAf rfl h (fun hb h=>?_) (fun hb h=>?_)
 ·exact jM
 refine zAe<|yCZ [] [26] rfl ?_;obtain⟨e7,he7,h⟩:=zAc h;refine at1 [.sl 1 (iL e7)] (fun _=>rfl) he7 ?_;exact jA
def zWf:Prop:=∃ a0 a1 a2 y0 y1,zE5 n a0 a1 a2=some (y0,y1)/\xs=[.agg ((Nd.enc a0).map .s),.s (.sl 1 (iL a1)),nI a2]/\r = .val (.tup [.s (.sl 1 (iL y0)),nI y1])
def zPm:zAq:=pG zWf
def zUH:PSound prog 96 zPm:=by
 have gok:=gk1 zMi<|gk1 zYu<|gk0;refine psq tokW call96 func96 rfl ?_;rintro xs r w0 G0 ⟨n,⟨n1A,n1C,n1D,n1B⟩,pos2,by3,y0,y1,h,rfl,rfl⟩ _;rw[zE5]at h;refine yEW ?_;refine yEW ?_;obtain⟨⟨y4,y5⟩,hy4,h⟩:=zAc h;refine⟨_,⟨_,_,_,_,_,hy4,rfl,rfl⟩,?_⟩;refine zAa<|yEW ?_;refine zAf rfl h (fun hb h=>?_) (fun hb h=>?_)
 ·exact jM
 refine zAe<|yEW ?_;obtain⟨⟨y6,y7⟩,hy6,h⟩:=zAc h;refine⟨_,⟨_,_,_,_,_,hy6,rfl,rfl⟩,?_⟩;refine zAa<|yEW ?_;refine zAf rfl h (fun hb h=>?_) (fun hb h=>?_)
 ·exact jM
 refine zAe<|yEW ?_;exact jA
def zT2:Prop:=∃ a0 a1 a2 y0 y1,zE8 n a0 a1 a2=some (y0,y1)/\xs=[.agg ((Nd.enc a0).map .s),.agg ((zAz a1).map .s),nB a2]/\r = .val (.tup [.agg ((zAg y0).map .s),nI y1])
def zNk:zAq:=pG zT2
abbrev Zb a b c d e f g:=([.sl 1 (iL a),.int .i64 b,.int .i64 c,.int .i64 d,.str e,.int .i64 f,.sl 4 (Nd.encs g)]:List S)
def zTh:PSound prog 52 zNk:=by
 have gok:=gk1 zDF<|gk1 zLv<|gk1 zTg<|gk1 zEk<|gk1 zI2<|gk1 zO0<|gk1 zIF<|gk1 zFR<|gk1 zKV<|gk1 zUH<|gk0;refine psq tokW call52 func52 rfl ?_;rintro xs r w0 G0 ⟨n,⟨a1A,a1C,a1D,a1B⟩,⟨a2G,a2S⟩,a3,y0,y1,h,rfl,rfl⟩ _;rw[zE8]at h;refine yCZ [6] [] rfl ?_;refine yCZ [8] [] rfl ?_;obtain⟨⟨⟨y4E,y4Ad,y4Ah⟩,y5⟩,hy4,h⟩:=zAc h;refine⟨_,⟨_,_,_,_,_,hy4,rfl,rfl⟩,?_⟩;refine zAj (Le.giveBox 1 (Zi y4E y4Ad y4Ah) rfl rfl)<|zAa<|yEW ?_;refine zAf rfl h (fun hb h=>?_) (fun hb h=>?_)
 ·exact jM
 refine zAe<|zAa<|yEW ?_;refine zAf rfl h (fun hb h=>?_) (fun hb h=>?_)
 ·refine zAa<|zAw [] [] [10] rfl (by decide +kernel) ?_;obtain⟨y6,hy6,h⟩:=zAc h;refine⟨_,⟨_,_,_,_,hy6,rfl,rfl⟩,?_⟩;obtain⟨y7,hy7,h⟩:=zAc h;refine⟨_,⟨_,_,hy7,rfl,rfl⟩,?_⟩;obtain⟨⟨⟨y8X,⟨y8Y,y8Z⟩,⟨y8Aa,y8Ab⟩⟩,y9⟩,hy8,h⟩:=zAc h;refine⟨_,⟨_,_,_,_,_,_,_,hy8,rfl,rfl⟩,?_⟩;exact jA
 refine zAe<|zAa<|zAw [] [49,51,56,58] [] rfl (by decide +kernel) ?_;refine len1 (fun _=>rfl) a2G ?_;obtain⟨hq,h⟩:=zAs h;refine And.intro ⟨hq.1,hq.2.1,Int.le_trans hq.2.2 (bi.2 (bk (rlen (fun _=>rfl) _).symm))⟩ ?_;intro r11 hr11;obtain rfl:iL ((a2G.take (i64.wrap ((a2G.length:Int) - 1)).toNat).drop (0:Int).toNat)=r11:=(hr11.trans (rcut (fun _=>rfl) _ _ _)).symm;refine len1 (fun _=>rfl) a2G ?_;obtain⟨e13,he13,h⟩:=zAc h;refine at1 [.int .i64 e13] (fun _=>rfl) he13 ?_;refine yCZ [12] [] rfl ?_;obtain⟨⟨⟨y15A,y15C,y15D,y15B⟩,y16⟩,hy15,h⟩:=zAc h;refine⟨_,⟨_,_,_,_,_,hy15,rfl,rfl⟩,?_⟩;refine zAj (Le.giveBox 2 (nN y15A y15C y15D y15B) rfl rfl)<|yEW ?_;refine zAa<|yEW ?_;show Tri ..;obtain⟨⟨x17,x18⟩,hj,h⟩:=zAc h;refine zAl ⟨ofL [(2,nB a3),(3,pN a1A a1C a1D a1B),(4,.s (Zf a2G a2S)),(6,.op 0 0),(10,.s (.sl 1 (iL ((a2G.take (i64.wrap ((a2G.length:Int) - 1)).toNat).drop (0:Int).toNat)))),(12,pN y15A y15C y15D y15B),(14,nI x17),(15,nI x18)],ofH [(0,.box 40 Zg)],1⟩ ?_ (fun V' hle=>?_)
 ·replace h:=hj;refine zAf rfl h (fun hb h=>?_) (fun hb h=>?_)
  ·refine yEV ?_;exact jC
  exact qN
 refine zAj hle<|zAa<|zAa ?_;obtain⟨x19,hj,h⟩:=zAc h;refine zAl ⟨ofL [(2,nB a3),(3,pN a1A a1C a1D a1B),(4,.s (Zf a2G a2S)),(6,.op 0 0),(10,.s (.sl 1 (iL ((a2G.take (i64.wrap ((a2G.length:Int) - 1)).toNat).drop (0:Int).toNat)))),(12,pN y15A y15C y15D y15B),(14,nI x17),(15,nI x18),(78,nB x19)],ofH [(0,.box 40 Zg)],1⟩ ?_ (fun V' hle=>?_)
 ·replace h:=hj;refine zAb [] [72,76] rfl ?_;refine nbS h (fun hb h=>?_) (fun hb h=>?_)
  ·refine len1 Nd.encs_eq y15B ?_;exact jC
  exact jC
 refine zAj hle ?_;obtain⟨fl,hj,ho1⟩:=zAc h;refine zBN (fl:=fl) (fun z=>match z with | _=>⟨ofL [(3,pN a1A a1C a1D a1B),(4,.s (Zf a2G a2S)),(6,.op 0 0),(15,nI x18)],ofH [(0,.box 40 Zg)],1⟩) ?_ (fun z V' hz hle=>?_)
 ·replace h:=hj;refine zAf rfl h (fun hb h=>?_) (fun hb h=>?_)
  ·refine yCZ [] [82] rfl ?_;obtain⟨⟨e21A,e21C,e21D,e21B⟩,he21,h⟩:=zAc h;refine at1 (nN e21A e21C e21D e21B) Nd.encs_eq he21 ?_;obtain⟨y23,hy23,h⟩:=zAc h;refine⟨_,⟨_,_,_,_,hy23,rfl,rfl⟩,?_⟩;refine zAf rfl h (fun hb h=>?_) (fun hb h=>?_)
   ·refine zAa<|zAw [] [93,95,97,100] [19] rfl (by decide +kernel) ?_;obtain⟨⟨e24A,e24C,e24D,e24B⟩,he24,h⟩:=zAc h;refine at1 (nN e24A e24C e24D e24B) Nd.encs_eq he24 ?_;intro r26 hr26;obtain rfl:Nd.encs [Nd.mk e24A e24C e24D e24B]=r26:=(hr26.trans zBm).symm;intro r27 hr27;obtain rfl:(List.map zAm) [(2,(a2G.take (i64.wrap ((a2G.length:Int) - 1)).toNat).drop (0:Int).toNat,x17,0,[Nd.mk e24A e24C e24D e24B],0,[],[])]=r27:=(hr27.trans zBm).symm;intro r28 hr28;obtain rfl:iL [x17]=r28:=(hr28.trans zBm).symm;obtain⟨y29,hy29,h⟩:=zAc h;refine⟨_,⟨_,_,_,hy29,rfl,rfl⟩,?_⟩;obtain⟨⟨⟨y30X,⟨y30Y,y30Z⟩,⟨y30Aa,y30Ab⟩⟩,y31⟩,hy30,h⟩:=zAc h;refine⟨_,⟨_,_,_,_,_,_,_,hy30,rfl,rfl⟩,?_⟩;exact jK
   exact gU
  refine yCZ [16] [] rfl ?_;obtain⟨⟨⟨y32E,y32F,y32Ak,⟨y32Ao,y32Ar,y32Ag,y32Al⟩⟩,y33⟩,hy32,h⟩:=zAc h;refine⟨_,⟨_,_,_,_,_,hy32,rfl,rfl⟩,?_⟩;refine zAj (Le.giveBox 1 (Zb y32E y32F y32Ak y32Ao y32Ar y32Ag y32Al) rfl rfl)<|zAa ?_;obtain⟨x34,hj,h⟩:=zAc h;refine zAl ⟨ofL [(2,nB a3),(3,pN a1A a1C a1D a1B),(4,.s (Zf a2G a2S)),(6,.op 0 0),(15,nI x18),(16,.s (.pt (Zb y32E y32F y32Ak y32Ao y32Ar y32Ag y32Al))),(120,nB x34)],ofH [(0,.box 40 Zg)],1⟩ ?_ (fun V' hle=>?_)
  ·replace h:=hj;refine zAb [] [113] rfl ?_;refine nbS h (fun hb h=>?_) (fun hb h=>?_)
   ·obtain⟨y35,hy35,h⟩:=zAc h;refine⟨_,⟨_,_,_,_,hy35,rfl,rfl⟩,?_⟩;exact jC
   exact jC
  refine zAj hle<|zAf rfl h (fun hb h=>?_) (fun hb h=>?_)
  ·refine yCZ [18] [] rfl ?_;obtain⟨⟨y36A,y36E,y36F,y36V,y36H,y36W,y36Ac,y36C⟩,hy36,h⟩:=zAc h;refine⟨_,⟨_,_,hy36,rfl,rfl⟩,?_⟩;refine zAj (Le.giveBox 1 (Za y36A y36E y36F y36V y36H y36W y36Ac y36C) rfl rfl)<|zAa<|yEW ?_;refine zAf rfl h (fun hb h=>?_) (fun hb h=>?_)
   ·refine zAa<|zAw [] [127,132] [13] rfl (by decide +kernel) ?_;intro r37 hr37;obtain rfl:(List.map zAm) [(y36A,y36E,y36F,y36V,y36H,y36W,y36Ac,y36C)]=r37:=(hr37.trans zBm).symm;intro r38 hr38;obtain rfl:iL [y32F]=r38:=(hr38.trans zBm).symm;obtain⟨y39,hy39,h⟩:=zAc h;refine⟨_,⟨_,_,_,hy39,rfl,rfl⟩,?_⟩;obtain⟨⟨⟨y40X,⟨y40Y,y40Z⟩,⟨y40Aa,y40Ab⟩⟩,y41⟩,hy40,h⟩:=zAc h;refine⟨_,⟨_,_,_,_,_,_,_,hy40,rfl,rfl⟩,?_⟩;exact jK
   refine zAe<|zAa<|zAw [] [140,148] [16] rfl (by decide +kernel) ?_;intro r42 hr42;obtain rfl:(List.map zAm) [(y36A,y36E,y36F,y36V,y36H,y36W,y36Ac,y36C)]=r42:=(hr42.trans zBm).symm;intro r43 hr43;obtain rfl:iL [i64.wrap (y32F+y36V)]=r43:=(hr43.trans zBm).symm;obtain⟨y44,hy44,h⟩:=zAc h;refine⟨_,⟨_,_,_,hy44,rfl,rfl⟩,?_⟩;obtain⟨⟨⟨y45X,⟨y45Y,y45Z⟩,⟨y45Aa,y45Ab⟩⟩,y46⟩,hy45,h⟩:=zAc h;refine⟨_,⟨_,_,_,_,_,_,_,hy45,rfl,rfl⟩,?_⟩;exact jK
  exact gU
 subst hz;obtain _:=z;replace h:=ho1;refine zAj hle<|yEW ?_;obtain⟨⟨y47,y48⟩,hy47,h⟩:=zAc h;refine⟨_,⟨_,_,_,_,_,_,hy47,rfl,rfl⟩,?_⟩;refine zAa<|yEW ?_;refine zAf rfl h (fun hb h=>?_) (fun hb h=>?_)
 ·exact jM
 refine zAe<|yEW ?_;obtain⟨⟨⟨y49X,⟨y49Y,y49Z⟩,⟨y49Aa,y49Ab⟩⟩,y50⟩,hy49,h⟩:=zAc h;refine⟨_,⟨_,_,_,_,_,_,_,hy49,rfl,rfl⟩,?_⟩;exact jA
def zT5 (xs:List AV) (r:Ret):Prop:=∃ a0 y0,zGp a0=some y0/\xs=[.s (.sl 4 (Nd.encs a0))]/\r = .val (.agg ((Nd.enc y0).map .s))
def zNm:zAq:=zAr fun xs r=>zT5 xs r
def zTj:PSound prog 54 zNm:=by
 have gok:=@gok0 prog;refine psq tokW call54 func54 rfl ?_;rintro xs r w0 G0 ⟨l1,y0,h,rfl,rfl⟩ _;rw[zGp]at h;refine yCZ [2] [] rfl ?_;refine zAa<|yCZ [] [4] rfl ?_;refine len1 Nd.encs_eq l1 ?_;refine zAf rfl h (fun hb h=>?_) (fun hb h=>?_)
 ·exact gI
 refine zAe<|yCZ [] [8] rfl ?_;obtain⟨⟨e3A,e3C,e3D,e3B⟩,he3,h⟩:=zAc h;refine at1 (nN e3A e3C e3D e3B) Nd.encs_eq he3 ?_;exact jN
def zWi:Prop:=∃ a0 a1 a2 a3 y0 y1,zEu n a0 a1 a2 a3=some (y0,y1)/\xs=[.agg ((Nd.enc a0).map .s),.agg ((zAz a1).map .s),.agg ((Nd.enc a2).map .s),nI a3]/\r = .val (.tup [.agg ((zAg y0).map .s),nI y1])
def zPp:zAq:=pG zWi
abbrev Zm a b (c:IntKind) d e f g h i j:=([nI 3,.s (.sl 1 (iL a)),nI b,.s (.int .i64 (c.wrap (d - e))),.s (.sl 4 (Nd.encs [Nd.mk f g h i])),nI j,.s (.str []),.s (.str [])]:List AV)
def zUK:PSound prog 53 zPp:=by
 have gok:=gk1 zCT<|gk1 zKU<|gk1 zDF<|gk1 zIF<|gk1 zEk<|gk0;refine psq tokW call53 func53 rfl ?_;rintro xs r w0 G0 ⟨n,⟨a1A,a1C,a1D,a1B⟩,⟨a2G,a2S⟩,⟨a3A,a3C,a3D,a3B⟩,a4,y0,y1,h,rfl,rfl⟩ _;rw[zEu]at h;refine yCZ [8] [] rfl ?_;refine yCZ [10] [16] rfl ?_;intro r5 hr5;obtain rfl:Nd.encs [Nd.mk a3A a3C a3D a3B]=r5:=(hr5.trans zBm).symm;refine zAa<|zAa ?_;obtain⟨x6,hj,h⟩:=zAc h;refine zAl ⟨ofL [(3,nI a4),(4,pN a1A a1C a1D a1B),(5,.s (Zf a2G a2S)),(6,pN a3A a3C a3D a3B),(8,.op 0 0),(10,.op 1 0),(26,nB x6)],ofH [(0,.box 40 Zg),(1,.box 76 [nI 3,.nl 1,nI 0,nI 0,.s (.sl 4 (Nd.encs [Nd.mk a3A a3C a3D a3B])),nI a4,.s (.str []),.s (.str [])])],2⟩ ?_ (fun V' hle=>?_)
 ·replace h:=hj;refine zAb [] [22] rfl ?_;obtain⟨y7,hy7,h⟩:=zAc h;refine⟨_,⟨_,_,_,hy7,rfl,rfl⟩,?_⟩;refine nbS h (fun hb h=>?_) (fun hb h=>?_)
  ·exact jL
  obtain⟨y8,hy8,h⟩:=zAc h;refine⟨_,⟨_,_,_,hy8,rfl,rfl⟩,?_⟩;exact jL
 refine zAj hle<|zAf rfl h (fun hb h=>?_) (fun hb h=>?_)
 ·exact jM
 refine zAe<|yCZ [11] [] rfl ?_;obtain⟨⟨⟨y9E,y9Ad,y9Ah⟩,y10⟩,hy9,h⟩:=zAc h;refine⟨_,⟨_,_,_,_,_,hy9,rfl,rfl⟩,?_⟩;refine zAj (Le.giveBox 2 (Zi y9E y9Ad y9Ah) rfl rfl)<|zAa<|yEW ?_;refine zAf rfl h (fun hb h=>?_) (fun hb h=>?_)
 ·exact jM
 refine zAe<|zAa<|zAw [] [] [10,12,14] rfl (by decide +kernel) ?_;refine yCZ [] [55] rfl ?_;intro r11 hr11;obtain rfl:iL [i64.wrap (y9Ad+1)]=r11:=(hr11.trans zBm).symm;obtain⟨y12,hy12,h⟩:=zAc h;refine⟨_,⟨_,_,_,hy12,rfl,rfl⟩,?_⟩;refine zAa<|yCZ [] [59] rfl ?_;refine len1 Nd.encs_eq a3B ?_;show Tri ..;obtain⟨x21,hl,h⟩:=zAc h;refine zAl ⟨ofL [(4,pN a1A a1C a1D a1B),(5,.s (Zf a2G a2S)),(8,.op 0 0),(10,.op 1 0),(13,.s (.sl 1 (iL x21)))],ofH [(0,.box 40 Zg),(1,.box 76 (Zm y9E y9Ad i64 y9Ah y9Ad a3A a3C a3D a3B a4))],2⟩ ?_ (fun V' hle=>?_)
 ·refine zAk (zAv (X:=Nat×(List Int)×Int) (fun y=>match y with | (k,x19,x20)=>⟨ofL [(3,nI a4),(4,pN a1A a1C a1D a1B),(5,.s (Zf a2G a2S)),(6,pN a3A a3C a3D a3B),(8,.op 0 0),(10,.op 1 0),(11,.s (.pt (Zi y9E y9Ad y9Ah))),(13,.s (.sl 1 (iL x19))),(14,nI x20)],ofH [(0,.box 40 Zg),(1,.box 76 (Zm y9E y9Ad i64 y9Ah y9Ad a3A a3C a3D a3B a4))],2⟩) (fun y=>zCr a3B a4 y9E y9Ad y9Ah y.1 y.2.1 y.2.2=some x21) (fun y=>y.1) (n,y12,i64.wrap ((a3B.length:Int) - 1)) hl ?_ ?_)
  ·exact kY
  rintro⟨k,x19,x20⟩ h;cases k with
  | zero=>cases h
  | succ k=>
  replace h:zCr a3B a4 y9E y9Ad y9Ah (k+1) x19 x20=some x21:=h;rw[zCr]at h;refine zAa<|yEW ?_;refine zAf rfl h (fun hb h=>?_) (fun hb h=>?_)
  ·refine zAe<|zAa ?_;obtain⟨x22,hj,h⟩:=zAc h;refine zAl ⟨ofL [(3,nI a4),(4,pN a1A a1C a1D a1B),(5,.s (Zf a2G a2S)),(6,pN a3A a3C a3D a3B),(8,.op 0 0),(10,.op 1 0),(11,.s (.pt (Zi y9E y9Ad y9Ah))),(13,.s (.sl 1 (iL x22))),(14,nI x20)],ofH [(0,.box 40 Zg),(1,.box 76 (Zm y9E y9Ad i64 y9Ah y9Ad a3A a3C a3D a3B a4))],2⟩ ?_ (fun V' hle=>?_)
   ·replace h:=hj;refine zAk<|zAa ?_;obtain⟨x23,hj,h⟩:=zAc h;refine zAl ⟨ofL [(3,nI a4),(4,pN a1A a1C a1D a1B),(5,.s (Zf a2G a2S)),(6,pN a3A a3C a3D a3B),(8,.op 0 0),(10,.op 1 0),(11,.s (.pt (Zi y9E y9Ad y9Ah))),(13,.s (.sl 1 (iL x19))),(14,nI x20),(82,nB x23)],ofH [(0,.box 40 Zg),(1,.box 76 (Zm y9E y9Ad i64 y9Ah y9Ad a3A a3C a3D a3B a4))],2⟩ ?_ (fun V' hle=>?_)
    ·replace h:=hj;refine zAb [] [68,71,73,77] rfl ?_;obtain⟨⟨e24A,e24C,e24D,e24B⟩,he24,h⟩:=zAc h;refine at1 (nN e24A e24C e24D e24B) Nd.encs_eq he24 ?_;refine len1 Nd.encs_eq e24B ?_;refine nbS h (fun hb h=>?_) (fun hb h=>?_)
     ·refine nbS h (fun hb h=>?_) (fun hb h=>?_)
      ·exact jL
      exact jL
     exact jL
    refine zAj hle<|zAf rfl h (fun hb h=>?_) (fun hb h=>?_)
    ·refine zAb [] [88] rfl ?_;intro r27 hr27;obtain rfl:iL [y9Ad,x20,0]=r27:=(hr27.trans zBm).symm;obtain⟨y28,hy28,h⟩:=zAc h;refine⟨_,⟨_,_,_,hy28,rfl,rfl⟩,?_⟩;exact jL
    refine zAe ?_;exact jL
   refine zAj hle<|yEV ?_;refine⟨(k,x22,i64.wrap (x20 - 1)),h,(Le.rnq [(0,0),(1,1)] _ _ _),ax k⟩
  refine zAy ?_;exact jL
 refine zAj hle<|yCZ [] [93] rfl ?_;intro r29 hr29;obtain rfl:(List.map zAm) [(3,y9E,y9Ad,i64.wrap (y9Ah - y9Ad),[Nd.mk a3A a3C a3D a3B],a4,[],[])]=r29:=(hr29.trans zBm).symm;obtain⟨⟨⟨y30X,⟨y30Y,y30Z⟩,⟨y30Aa,y30Ab⟩⟩,y31⟩,hy30,h⟩:=zAc h;refine⟨_,⟨_,_,_,_,_,_,_,hy30,rfl,rfl⟩,?_⟩;exact jA
def zRY:Prop:=∃ a0 a1 y0,zFA n a0 a1=some y0/\xs=(Zt a0 a1)/\r = .val (nB y0)
def zL3:zAq:=pG zRY
def zQ9:PSound prog 152 zL3:=by
 have gok:=@gok0 prog;refine psq tokW call152 func152 rfl ?_;rintro xs r w0 G0 ⟨n,pos1,row2,y0,h,rfl,rfl⟩ _;rw[zFA]at h;refine yEW ?_;refine zAa<|yCZ [] [7,9] rfl ?_;refine len1 (fun _=>rfl) pos1 ?_;refine len1 (fun _=>rfl) row2 ?_;refine zAf rfl h (fun hb h=>?_) (fun hb h=>?_)
 ·exact gI
 refine zAe<|zAa<|yEW ?_;show Tri ..;obtain⟨fl,hl,ho1⟩:=zAc h;refine zBN (fl:=fl) (fun z=>match z with | _=>⟨ofL [(0,.s (.sl 1 (iL pos1))),(1,.s (.sl 1 (iL row2)))],fun _=>none,0⟩) ?_ (fun z V' hz hle=>?_)
 ·refine zAk (zAv (X:=Nat×Int) (fun y=>match y with | (k,i5)=>⟨ofL [(0,.s (.sl 1 (iL pos1))),(1,.s (.sl 1 (iL row2))),(5,nI i5)],fun _=>none,0⟩) (fun y=>zCb pos1 row2 y.1 y.2=some fl) (fun y=>y.1) (n,0) hl ?_ ?_)
  ·exact Le.fgt
  rintro⟨k,i5⟩ h;cases k with
  | zero=>cases h
  | succ k=>
  replace h:zCb pos1 row2 (k+1) i5=some fl:=h;rw[zCb]at h;refine zAa<|yCZ [] [13] rfl ?_;refine len1 (fun _=>rfl) row2 ?_;refine zAf rfl h (fun hb h=>?_) (fun hb h=>?_)
  ·refine zAe<|zAa<|zAk<|zAa<|zAw [] [19,23] [] rfl (by decide +kernel) ?_;obtain⟨e7,he7,h⟩:=zAc h;refine at1 [.int .i64 e7] (fun _=>rfl) he7 ?_;obtain⟨e9,he9,h⟩:=zAc h;refine at1 [.int .i64 e9] (fun _=>rfl) he9 ?_;refine zAf rfl h (fun hb h=>?_) (fun hb h=>?_)
   ·exact jE
   exact jW
  exact gV
 subst hz;obtain _:=z;replace h:=ho1;refine zAj hle<|yCZ [] [27,29] rfl ?_;refine len1 (fun _=>rfl) pos1 ?_;refine len1 (fun _=>rfl) row2 ?_;exact jN
def zRX (xs:List AV) (r:Ret):Prop:=∃ a0 a1 a2 y0,zIu a0 a1 a2=some y0/\xs=[.agg ((zAm a0).map .s),nI a1,nB a2]/\r = .val (.s (.sl 1 (iL y0)))
def zL2:zAq:=zAr fun xs r=>zRX xs r
def zQ8:PSound prog 153 zL2:=by
 have gok:=@gok0 prog;refine psq tokW call153 func153 rfl ?_;rintro xs r w0 G0 ⟨⟨a1A,a1E,a1F,a1V,a1H,a1W,a1Ac,a1C⟩,a2,a3,y0,h,rfl,rfl⟩ _;rw[zIu]at h;refine yEW ?_;refine yCZ [] [10] rfl ?_;refine len1 Nd.encs_eq a1H ?_;refine zAa<|yEW ?_;show Tri ..;obtain⟨fl,hj,ho1⟩:=zAc h;refine zBN (fl:=fl) (fun z=>match z with | _=>⟨ofL [(1,nI a2)],fun _=>none,0⟩) ?_ (fun z V' hz hle=>?_)
 ·replace h:=hj;refine zAk<|yEW ?_;refine zAf rfl h (fun hb h=>?_) (fun hb h=>?_)
  ·refine zAa ?_;obtain⟨x5,hj,h⟩:=zAc h;refine pL [(1,nI a2),(7,nI (a1H.length:Int)),(27,nB x5)] ?_ (fun V' hle=>?_)
   ·replace h:=hj;refine zAb [] [19,24] rfl ?_;refine nbS h (fun hb h=>?_) (fun hb h=>?_)
    ·exact jD
    refine nbS h (fun hb h=>?_) (fun hb h=>?_)
    ·exact jD
    exact jD
   refine zAj hle<|zAf rfl h (fun hb h=>?_) (fun hb h=>?_)
   ·refine yCZ [] [31] rfl ?_;intro r6 hr6;obtain rfl:iL [i64.wrap (a2+(a1H.length:Int))]=r6:=(hr6.trans zBm).symm;refine zAd ?_;cases h;replace h:some _=some _:=ho1;have hy:=osi h;subst hy;unfold zBF;exact gX
   exact kW
  refine yEW ?_;refine zAf rfl h (fun hb h=>?_) (fun hb h=>?_)
  ·refine zAa<|zAa ?_;obtain⟨x7,hj,h⟩:=zAc h;refine pL [(1,nI a2),(3,.s (.pt (Za a1A a1E a1F a1V a1H a1W a1Ac a1C))),(7,nI (a1H.length:Int)),(45,nB x7)] ?_ (fun V' hle=>?_)
   ·replace h:=hj;refine zAb [] [38] rfl ?_;refine nbS h (fun hb h=>?_) (fun hb h=>?_)
    ·exact jD
    exact jD
   refine zAj hle<|zAf rfl h (fun hb h=>?_) (fun hb h=>?_)
   ·refine yCZ [] [48] rfl ?_;intro r8 hr8;obtain rfl:iL [a1F]=r8:=(hr8.trans zBm).symm;refine zAd ?_;cases h;replace h:some _=some _:=ho1;exact jB
   refine zAe<|yEW ?_;refine zAf rfl h (fun hb h=>?_) (fun hb h=>?_)
   ·refine yCZ [] [56] rfl ?_;intro r9 hr9;obtain rfl:iL [i64.wrap (a2 - (a1H.length:Int))]=r9:=(hr9.trans zBm).symm;refine zAd ?_;cases h;replace h:some _=some _:=ho1;have hy:=osi h;subst hy;exact fin0 rfl rfl
   exact kW
  refine yEW ?_;refine zAf rfl h (fun hb h=>?_) (fun hb h=>?_)
  ·refine zAa<|zAa ?_;obtain⟨x10,hj,h⟩:=zAc h;refine pL [(1,nI a2),(2,nB a3),(3,.s (.pt (Za a1A a1E a1F a1V a1H a1W a1Ac a1C))),(71,nB x10)] ?_ (fun V' hle=>?_)
   ·replace h:=hj;refine zAb [] [63] rfl ?_;refine nbS h (fun hb h=>?_) (fun hb h=>?_)
    ·exact jD
    exact jD
   refine zAj hle<|zAf rfl h (fun hb h=>?_) (fun hb h=>?_)
   ·refine yCZ [] [80] rfl ?_;intro r11 hr11;obtain rfl:iL [a1F,a1W,i64.wrap (a2 - a1F)]=r11:=(hr11.trans zBm).symm;refine zAd ?_;cases h;replace h:some _=some _:=ho1;have hy:=osi h;subst hy;exact fin0 rfl rfl
   refine zAe<|zAa<|yEW ?_;refine zAf rfl h (fun hb h=>?_) (fun hb h=>?_)
   ·refine yCZ [] [90] rfl ?_;intro r12 hr12;obtain rfl:iL [i64.wrap ((i64.wrap (a2 - a1V))+1)]=r12:=(hr12.trans zBm).symm;refine zAd ?_;cases h;replace h:some _=some _:=ho1;have hy:=osi h;subst hy;exact fin0 rfl rfl
   refine zAe<|zAa ?_;obtain⟨x13,hj,h⟩:=zAc h;refine pL [(1,nI a2),(3,.s (.pt (Za a1A a1E a1F a1V a1H a1W a1Ac a1C))),(102,nB x13)] ?_ (fun V' hle=>?_)
   ·replace h:=hj;refine zAb [] [95,100] rfl ?_;refine nbS h (fun hb h=>?_) (fun hb h=>?_)
    ·refine nbS h (fun hb h=>?_) (fun hb h=>?_)
     ·exact jD
     exact jD
    exact jJ
   refine zAj hle<|zAf rfl h (fun hb h=>?_) (fun hb h=>?_)
   ·refine yCZ [] [106] rfl ?_;intro r14 hr14;obtain rfl:iL [i64.wrap (a1F+1)]=r14:=(hr14.trans zBm).symm;refine zAd ?_;cases h;replace h:some _=some _:=ho1;have hy:=osi h;subst hy;unfold zBF;exact gX
   exact kW
  refine yEW ?_;refine zAf rfl h (fun hb h=>?_) (fun hb h=>?_)
  ·refine yEW ?_;refine zAf rfl h (fun hb h=>?_) (fun hb h=>?_)
   ·refine yCZ [] [118] rfl ?_;intro r15 hr15;obtain rfl:iL [i64.wrap ((i64.wrap (a2 - 1))+a1V)]=r15:=(hr15.trans zBm).symm;refine zAd ?_;cases h;replace h:some _=some _:=ho1;have hy:=osi h;subst hy;exact fin0 rfl rfl
   exact kW
  exact kW
 subst hz;obtain _:=z;replace h:=ho1;refine zAj hle<|yCZ [] [120] rfl ?_;intro r16 hr16;obtain rfl:iL [a2]=r16:=(hr16.trans zBm).symm;refine zAd ?_;have hy:=osi h;subst hy;unfold zBF;exact gX
def zRW (xs:List AV) (r:Ret):Prop:=∃ a0 a1 a2 a3 y0,zFz a0 a1 a2 a3=some y0/\xs=[.agg ((zAm a0).map .s),nI a1,nI a2,.s (.sl 1 (iL a3))]/\r = .row 3 1 (iL y0)
def zL1:zAq:=zAr fun xs r=>zRW xs r
abbrev Zp a b:=([(2,nI a),(3,.s (.sl 1 (iL b))),(10,.orow 0)]:List (Nat×AV))
def zQ7:PSound prog 154 zL1:=by
 have gok:=@gok0 prog;refine psq tokW call154 func154 rfl ?_;rintro xs r w0 G0 ⟨⟨a1A,a1E,a1F,a1V,a1H,a1W,a1Ac,a1C⟩,a2,a3,a4,y0,h,rfl,rfl⟩ _;rw[zFz]at h;refine yCZ [8] [] rfl ?_;refine zAj (Le.rnq [] [(1,nI a2),(2,nI a3),(3,.s (.sl 1 (iL a4))),(4,.s (.pt (Za a1A a1E a1F a1V a1H a1W a1Ac a1C)))] [] 0)<|yCZ [] [13] rfl ?_;refine len1 Nd.encs_eq a1H ?_;show Tri ..;refine yCZ [15] [] rfl ?_;show Tri ..;refine zAj (Le.rnq [(0,0)] [(1,nI a2),(2,nI a3),(3,.s (.sl 1 (iL a4))),(4,.s (.pt (Za a1A a1E a1F a1V a1H a1W a1Ac a1C))),(9,nI (a1H.length:Int)),(10,.orow 0)] [(0,.row 3 1 (iL [a2]))] 1 (h2:=⟨rfl,⟨_,rfl,congrArg (Ob.row 3 1) zBm⟩,trivial⟩)) ?_;refine zAa ?_;obtain⟨fl,hj,ho1⟩:=zAc h;refine zBN (fl:=fl) (fun z=>match z with | l6=>⟨ofL (Zp a3 a4),ofH [(0,.row 3 1 (iL l6))],1⟩) ?_ (fun l6 V' hz hle=>?_)
 ·replace h:=hj;refine zAk<|yEW ?_;refine zAf rfl h (fun hb h=>?_) (fun hb h=>?_)
  ·exact gU
  refine yEW ?_;refine zAf rfl h (fun hb h=>?_) (fun hb h=>?_)
  ·refine zAb [28] [] rfl ?_;cases h;exact⟨_,rfl,(Le.trans (Le.rnq [(1,0)] (Zp a3 a4) [(0,.row 3 1 (iL [i64.wrap (a2+(a1H.length:Int))]))] 1 (h2:=⟨rfl,⟨_,rfl,congrArg (Ob.row 3 1) zBm⟩,trivial⟩)) (Le.rnq [(0,0)] _ _ _))⟩
  refine zAa ?_;obtain⟨x7,hj,h⟩:=zAc h;refine zAl ⟨ofL [(1,nI a2),(2,nI a3),(3,.s (.sl 1 (iL a4))),(4,.s (.pt (Za a1A a1E a1F a1V a1H a1W a1Ac a1C))),(9,nI (a1H.length:Int)),(10,.orow 0),(29,nB x7)],ofH [(0,.row 3 1 (iL [a2]))],1⟩ ?_ (fun V' hle=>?_)
  ·replace h:=hj;refine zAb [] [33] rfl ?_;refine nbS h (fun hb h=>?_) (fun hb h=>?_)
   ·exact jC
   exact jC
  refine zAj hle<|zAf rfl h (fun hb h=>?_) (fun hb h=>?_)
  ·refine yCZ [43] [] rfl ?_;refine zAj (Le.rnq [(1,0)] [(8,.orow 0)] [(0,.row 3 1 (iL [a1F]))] 1 (h2:=⟨rfl,⟨_,rfl,congrArg (Ob.row 3 1) zBm⟩,trivial⟩))<|zAd ?_;cases h;replace h:some _=some _:=ho1;exact jH
  refine yEW ?_;refine zAf rfl h (fun hb h=>?_) (fun hb h=>?_)
  ·refine zAb [51] [] rfl ?_;cases h;exact⟨_,rfl,(Le.trans (Le.rnq [(1,0)] (Zp a3 a4) [(0,.row 3 1 (iL [i64.wrap (a2 - (a1H.length:Int))]))] 1 (h2:=⟨rfl,⟨_,rfl,congrArg (Ob.row 3 1) zBm⟩,trivial⟩)) (Le.rnq [(0,0)] _ _ _))⟩
  refine zAa ?_;obtain⟨x8,hj,h⟩:=zAc h;refine zAl ⟨ofL [(1,nI a2),(2,nI a3),(3,.s (.sl 1 (iL a4))),(4,.s (.pt (Za a1A a1E a1F a1V a1H a1W a1Ac a1C))),(10,.orow 0),(52,nB x8)],ofH [(0,.row 3 1 (iL [a2]))],1⟩ ?_ (fun V' hle=>?_)
  ·replace h:=hj;refine zAb [] [56] rfl ?_;refine nbS h (fun hb h=>?_) (fun hb h=>?_)
   ·exact jC
   exact jC
  refine zAj hle<|zAf rfl h (fun hb h=>?_) (fun hb h=>?_)
  ·refine zAb [73] [] rfl ?_;cases h;exact⟨_,rfl,(Le.trans (Le.rnq [(1,0)] (Zp a3 a4) [(0,.row 3 1 (iL [a1F,a1W,i64.wrap (a2 - a1F)]))] 1 (h2:=⟨rfl,⟨_,rfl,congrArg (Ob.row 3 1) zBm⟩,trivial⟩)) (Le.rnq [(0,0)] _ _ _))⟩
  refine yEW ?_;refine zAf rfl h (fun hb h=>?_) (fun hb h=>?_)
  ·refine zAb [83] [] rfl ?_;cases h;exact⟨_,rfl,(Le.trans (Le.rnq [(1,0)] (Zp a3 a4) [(0,.row 3 1 (iL [i64.wrap ((i64.wrap (a2 - a1V))+1)]))] 1 (h2:=⟨rfl,⟨_,rfl,congrArg (Ob.row 3 1) zBm⟩,trivial⟩)) (Le.rnq [(0,0)] _ _ _))⟩
  refine zAa ?_;obtain⟨x9,hj,h⟩:=zAc h;refine zAl ⟨ofL [(1,nI a2),(2,nI a3),(3,.s (.sl 1 (iL a4))),(4,.s (.pt (Za a1A a1E a1F a1V a1H a1W a1Ac a1C))),(10,.orow 0),(84,nB x9)],ofH [(0,.row 3 1 (iL [a2]))],1⟩ ?_ (fun V' hle=>?_)
  ·replace h:=hj;refine zAb [] [88,94] rfl ?_;refine nbS h (fun hb h=>?_) (fun hb h=>?_)
   ·refine nbS h (fun hb h=>?_) (fun hb h=>?_)
    ·exact jC
    exact jC
   exact kC
  refine zAj hle<|zAf rfl h (fun hb h=>?_) (fun hb h=>?_)
  ·refine yCZ [102] [] rfl ?_;refine zAj (Le.rnq [(1,0)] [(8,.orow 0)] [(0,.row 3 1 (iL [a1F]))] 1 (h2:=⟨rfl,⟨_,rfl,congrArg (Ob.row 3 1) zBm⟩,trivial⟩))<|zAd ?_;cases h;replace h:some _=some _:=ho1;exact jH
  refine zAa ?_;obtain⟨x10,hj,h⟩:=zAc h;refine zAl ⟨ofL [(1,nI a2),(2,nI a3),(3,.s (.sl 1 (iL a4))),(4,.s (.pt (Za a1A a1E a1F a1V a1H a1W a1Ac a1C))),(10,.orow 0),(103,nB x10)],ofH [(0,.row 3 1 (iL [a2]))],1⟩ ?_ (fun V' hle=>?_)
  ·replace h:=hj;refine zAb [] [107,113] rfl ?_;refine nbS h (fun hb h=>?_) (fun hb h=>?_)
   ·refine nbS h (fun hb h=>?_) (fun hb h=>?_)
    ·exact jC
    exact jC
   exact kC
  refine zAj hle<|zAf rfl h (fun hb h=>?_) (fun hb h=>?_)
  ·refine yCZ [124] [] rfl ?_;refine zAj (Le.rnq [(1,0)] [(8,.orow 0)] [(0,.row 3 1 (iL [i64.wrap (a1F+a1V)]))] 1 (h2:=⟨rfl,⟨_,rfl,congrArg (Ob.row 3 1) zBm⟩,trivial⟩))<|zAd ?_;cases h;replace h:some _=some _:=ho1;exact jH
  refine zAa ?_;obtain⟨x11,hj,h⟩:=zAc h;refine zAl ⟨ofL [(1,nI a2),(2,nI a3),(3,.s (.sl 1 (iL a4))),(4,.s (.pt (Za a1A a1E a1F a1V a1H a1W a1Ac a1C))),(10,.orow 0),(125,nB x11)],ofH [(0,.row 3 1 (iL [a2]))],1⟩ ?_ (fun V' hle=>?_)
  ·replace h:=hj;refine zAb [] [129] rfl ?_;refine nbS h (fun hb h=>?_) (fun hb h=>?_)
   ·exact jC
   exact jC
  refine zAj hle<|zAf rfl h (fun hb h=>?_) (fun hb h=>?_)
  ·refine zAa<|zCE [141,144] [138,143] [6,9] [] rfl (by decide +kernel) ?_;obtain⟨e12,he12,h⟩:=zAc h;refine at1 [.int .i64 e12] (fun _=>rfl) he12 ?_;obtain⟨hq,h⟩:=zAs h;refine And.intro ⟨hq.1,Int.le_trans hq.2.1 (bi.2 (bk (rlen (fun _=>rfl) _).symm)),Int.le_refl _⟩ ?_;intro r14 hr14;obtain rfl:iL ((a4.take (a4.length:Int).toNat).drop (1:Int).toNat)=r14:=(hr14.trans ((congrArg (fun m:Nat=>((iL a4).take m).drop (1:Int).toNat) (rlen (fun _=>rfl) _)).trans (rcut (fun _=>rfl) _ _ _))).symm;obtain⟨hq,h⟩:=zAs h;refine And.intro (lapE hq (by simp) (rlen (fun _=>rfl) _)) ?_;show Tri ..;refine zAj (Le.rnq [(2,0)] [(8,.orow 0)] [(0,.row 3 1 (iL ([i64.wrap (a1F+e12)]++((a4.take (a4.length:Int).toNat).drop (1:Int).toNat))))] 1 (h2:=⟨rfl,⟨_,rfl,congrArg (Ob.row 3 1) zBm⟩,trivial⟩))<|zAd ?_;cases h;replace h:some _=some _:=ho1;exact jH
  refine yEW ?_;refine zAf rfl h (fun hb h=>?_) (fun hb h=>?_)
  ·refine zAb [154] [] rfl ?_;cases h;exact⟨_,rfl,(Le.trans (Le.rnq [(1,0)] (Zp a3 a4) [(0,.row 3 1 (iL [i64.wrap ((i64.wrap (a2 - 1))+a1V)]))] 1 (h2:=⟨rfl,⟨_,rfl,congrArg (Ob.row 3 1) zBm⟩,trivial⟩)) (Le.rnq [(0,0)] _ _ _))⟩
  exact gU
 subst hz;replace h:=ho1;refine zAj hle<|yCZ [158,160] [157] rfl ?_;intro r15 hr15;obtain rfl:iL [a3]=r15:=(hr15.trans zBm).symm;obtain⟨hq,h⟩:=zAs h;refine And.intro (lapE hq (rlen (fun _=>rfl) _) (rlen (fun _=>rfl) _)) ?_;obtain⟨hq,h⟩:=zAs h;refine And.intro (lapE hq (by simp) (rlen (fun _=>rfl) _)) ?_;show Tri ..;refine zAj (Le.rnq [(2,0)] [(8,.orow 0)] [(0,.row 3 1 (iL ((l6++[a3])++a4)))] 1 (h2:=⟨rfl,⟨_,rfl,congrArg (Ob.row 3 1) zBm⟩,trivial⟩))<|zAd ?_;exact jH
variable (n:Nat) (xs:List AV) (r:Ret)
def zXw:Prop:=∃ a0 a1 a2 y0,zIt n a0 a1 a2=some y0/\xs=[.agg ((zAm a0).map .s),.s (.sl 1 (iL a1)),nB a2]/\r = .row 3 1 (iL y0)
def zR7:zAq:=pG zXw
def zWV:PSound prog 98 zR7:=by
 have gok:=gk1 zQ9<|gk1 zQ8<|gk1 zQ7<|gk0;refine psq tokW call98 func98 rfl ?_;rintro xs r w0 G0 ⟨n,⟨op1A,op1E,op1F,op1V,op1H,op1W,op1Ac,op1C⟩,pos2,after3,y0,h,rfl,rfl⟩ _;rw[zIt]at h;refine yCZ [6] [] rfl ?_;refine zAj (Le.rnq [] [(1,.s (.sl 1 (iL pos2))),(2,nB after3),(3,.s (.pt (Za op1A op1E op1F op1V op1H op1W op1Ac op1C)))] [] 0)<|yCZ [] [11] rfl ?_;refine len1 (fun _=>rfl) op1E ?_;refine zAa<|zAa ?_;refine yEV ?_;obtain⟨y5,hy5,h⟩:=zAc h;refine⟨_,⟨_,_,_,_,hy5,rfl,rfl⟩,?_⟩;refine zAf rfl h (fun hb h=>?_) (fun hb h=>?_)
 ·refine yCZ [17,19] [] rfl ?_;obtain⟨hq,h⟩:=zAs h;refine And.intro (lapE hq rfl (rlen (fun _=>rfl) _)) ?_;show Tri ..;refine zAj (Le.rnq [(1,0)] [(6,.orow 0)] [(0,.row 3 1 (iL pos2))] 1 (h2:=⟨rfl,⟨_,rfl,congrArg (Ob.row 3 1) zBm⟩,trivial⟩))<|zAd ?_;exact jH
 refine zAe<|yCZ [20,23] [] rfl ?_;obtain⟨hq,h⟩:=zAs h;refine And.intro (lapE hq rfl (rlen (fun _=>rfl) _)) ?_;show Tri ..;refine zAj (Le.rnq [(1,0)] [(1,.s (.sl 1 (iL pos2))),(2,nB after3),(3,.s (.pt (Za op1A op1E op1F op1V op1H op1W op1Ac op1C))),(7,nI (op1E.length:Int)),(8,.orow 0)] [(0,.row 3 1 (iL op1E))] 1 (h2:=⟨rfl,⟨_,rfl,congrArg (Ob.row 3 1) zBm⟩,trivial⟩)) ?_;refine zAa<|yCZ [] [25] rfl ?_;refine len1 (fun _=>rfl) pos2 ?_;refine zAf rfl h (fun hb h=>?_) (fun hb h=>?_)
 ·refine zAa<|zAw [37] [33] [8] rfl (by decide +kernel) ?_;obtain⟨e7,he7,h⟩:=zAc h;refine at1 [.int .i64 e7] (fun _=>rfl) he7 ?_;obtain⟨y9,hy9,h⟩:=zAc h;refine⟨_,⟨_,_,_,_,hy9,rfl,rfl⟩,?_⟩;obtain⟨hq,h⟩:=zAs h;refine And.intro (lapE hq (rlen (fun _=>rfl) _) (rlen (fun _=>rfl) _)) ?_;refine zAj (Le.rnq [(1,0)] [(6,.orow 0)] [(0,.row 3 1 (iL (op1E++y9)))] 1 (h2:=⟨rfl,⟨_,rfl,congrArg (Ob.row 3 1) zBm⟩,trivial⟩)) ?_;refine zAd ?_;exact jH
 refine zAe<|zAa<|zAw [54] [42,47,52] [16] rfl (by decide +kernel) ?_;obtain⟨e10,he10,h⟩:=zAc h;refine at1 [.int .i64 e10] (fun _=>rfl) he10 ?_;obtain⟨e12,he12,h⟩:=zAc h;refine at1 [.int .i64 e12] (fun _=>rfl) he12 ?_;obtain⟨hq,h⟩:=zAs h;refine And.intro ⟨hq.1,Int.le_trans hq.2.1 (bi.2 (bk (rlen (fun _=>rfl) _).symm)),Int.le_refl _⟩ ?_;intro r14 hr14;obtain rfl:iL ((pos2.take (pos2.length:Int).toNat).drop (i64.wrap ((op1E.length:Int)+2)).toNat)=r14:=(hr14.trans ((congrArg (fun m:Nat=>((iL pos2).take m).drop (i64.wrap ((op1E.length:Int)+2)).toNat) (rlen (fun _=>rfl) _)).trans (rcut (fun _=>rfl) _ _ _))).symm;obtain⟨y15,hy15,h⟩:=zAc h;refine⟨_,⟨_,_,_,_,_,hy15,rfl,rfl⟩,?_⟩;obtain⟨hq,h⟩:=zAs h;refine And.intro (lapE hq (rlen (fun _=>rfl) _) (rlen (fun _=>rfl) _)) ?_;refine zAj (Le.rnq [(1,0)] [(6,.orow 0)] [(0,.row 3 1 (iL (op1E++y15)))] 1 (h2:=⟨rfl,⟨_,rfl,congrArg (Ob.row 3 1) zBm⟩,trivial⟩)) ?_;refine zAd ?_;exact jH
def zR0:Prop:=∃ a0 a1 y0 y1,zDD n a0 a1=some (y0,y1)/\xs=(Zu a0 a1)/\r = .val (.tup [.agg ((zAg y0).map .s),nI y1])
def zL5:zAq:=pG zR0
def zRb:PSound prog 55 zL5:=by
 have gok:=gk1 zDF<|gk1 zFR<|gk1 zKV<|gk1 zWV<|gk1 zEk<|gk0;refine psq tokW call55 func55 rfl ?_;rintro xs r w0 G0 ⟨n,⟨n1A,n1C,n1D,n1B⟩,⟨c2G,c2S⟩,y0,y1,h,rfl,rfl⟩ _;rw[zDD]at h;refine yCZ [4] [] rfl ?_;refine yCZ [6] [] rfl ?_;obtain⟨⟨⟨y3E,y3Ad,y3Ah⟩,y4⟩,hy3,h⟩:=zAc h;refine⟨_,⟨_,_,_,_,_,hy3,rfl,rfl⟩,?_⟩;refine zAj (Le.giveBox 1 (Zi y3E y3Ad y3Ah) rfl rfl)<|zAa<|yEW ?_;refine zAf rfl h (fun hb h=>?_) (fun hb h=>?_)
 ·exact jM
 refine zAe<|yCZ [8] [] rfl ?_;obtain⟨⟨⟨y5E,y5F,y5Ak,⟨y5Ao,y5Ar,y5Ag,y5Al⟩⟩,y6⟩,hy5,h⟩:=zAc h;refine⟨_,⟨_,_,_,_,_,hy5,rfl,rfl⟩,?_⟩;refine zAj (Le.giveBox 2 (Zb y5E y5F y5Ak y5Ao y5Ar y5Ag y5Al) rfl rfl)<|zAa<|yEW ?_;refine zAf rfl h (fun hb h=>?_) (fun hb h=>?_)
 ·exact jM
 refine zAe<|yCZ [10] [] rfl ?_;obtain⟨⟨y7A,y7E,y7F,y7V,y7H,y7W,y7Ac,y7C⟩,hy7,h⟩:=zAc h;refine⟨_,⟨_,_,hy7,rfl,rfl⟩,?_⟩;refine zAj (Le.giveBox 3 (Za y7A y7E y7F y7V y7H y7W y7Ac y7C) rfl rfl)<|zAa<|zAw [] [36] [11] rfl (by decide +kernel) ?_;intro r8 hr8;obtain rfl:(List.map zAm) [(y7A,y7E,y7F,y7V,y7H,y7W,y7Ac,y7C)]=r8:=(hr8.trans zBm).symm;obtain⟨y9,hy9,h⟩:=zAc h;refine⟨_,⟨_,_,_,_,_,hy9,rfl,rfl⟩,?_⟩;obtain⟨⟨⟨y10X,⟨y10Y,y10Z⟩,⟨y10Aa,y10Ab⟩⟩,y11⟩,hy10,h⟩:=zAc h;refine⟨_,⟨_,_,_,_,_,_,_,hy10,rfl,rfl⟩,?_⟩;exact jA
def zT3:Prop:=∃ a0 a1 y0 y1,zEh n a0 a1=some (y0,y1)/\xs=(Zu a0 a1)/\r = .val (.tup [.agg ((zAg y0).map .s),nI y1])
def zNl:zAq:=pG zT3
def zTi:PSound prog 56 zNl:=by
 have gok:=gk1 zDF<|gk1 zFR<|gk1 zIF<|gk1 zMj<|gk1 zCS<|gk1 zEN<|gk1 zLv<|gk1 zEk<|gk0;refine psq tokW call56 func56 rfl ?_;rintro xs r w0 G0 ⟨n,⟨a1A,a1C,a1D,a1B⟩,⟨a2G,a2S⟩,y0,y1,h,rfl,rfl⟩ _;rw[zEh]at h;refine yCZ [4] [] rfl ?_;refine yCZ [6] [] rfl ?_;obtain⟨⟨⟨y3E,y3Ad,y3Ah⟩,y4⟩,hy3,h⟩:=zAc h;refine⟨_,⟨_,_,_,_,_,hy3,rfl,rfl⟩,?_⟩;refine zAj (Le.giveBox 1 (Zi y3E y3Ad y3Ah) rfl rfl)<|zAa<|yEW ?_;refine zAf rfl h (fun hb h=>?_) (fun hb h=>?_)
 ·exact jM
 refine zAe<|yCZ [8] [] rfl ?_;obtain⟨⟨⟨y5E,y5F,y5Ak,⟨y5Ao,y5Ar,y5Ag,y5Al⟩⟩,y6⟩,hy5,h⟩:=zAc h;refine⟨_,⟨_,_,_,_,_,hy5,rfl,rfl⟩,?_⟩;refine zAj (Le.giveBox 2 (Zb y5E y5F y5Ak y5Ao y5Ar y5Ag y5Al) rfl rfl)<|zAa<|zAk<|yEW ?_;refine zAf rfl h (fun hb h=>?_) (fun hb h=>?_)
 ·exact jM
 refine zAa ?_;obtain⟨x7,hj,h⟩:=zAc h;refine zAl ⟨ofL [(2,pN a1A a1C a1D a1B),(3,.s (Zf a2G a2S)),(4,.op 0 0),(8,.s (.pt (Zb y5E y5F y5Ak y5Ao y5Ar y5Ag y5Al))),(37,nB x7)],ofH [(0,.box 40 Zg)],1⟩ ?_ (fun V' hle=>?_)
 ·replace h:=hj;refine zAb [] [43,48] rfl ?_;refine nbS h (fun hb h=>?_) (fun hb h=>?_)
  ·exact jC
  refine nbS h (fun hb h=>?_) (fun hb h=>?_)
  ·exact jC
  exact jC
 refine zAj hle<|zAf rfl h (fun hb h=>?_) (fun hb h=>?_)
 ·exact jM
 refine zAe<|yCZ [] [60,62] rfl ?_;refine len1 (fun _=>rfl) a2G ?_;obtain⟨e9,he9,h⟩:=zAc h;refine at1 [.int .i64 e9] (fun _=>rfl) he9 ?_;refine zAa<|zCE [11] [70,78,81] [19,20] [] rfl (by decide +kernel) ?_;intro r11 hr11;obtain rfl:iL [y5F,y5Ak]=r11:=(hr11.trans zBm).symm;obtain⟨y12,hy12,h⟩:=zAc h;refine⟨_,⟨_,_,_,hy12,rfl,rfl⟩,?_⟩;obtain⟨⟨e13A,e13C,e13D,e13B⟩,he13,h⟩:=zAc h;refine at1 (nN e13A e13C e13D e13B) Nd.encs_eq he13 ?_;refine len1 Nd.encs_eq e13B ?_;refine zAj (Le.giveBox 1 [.sl 1 (iL y12),.int .i64 e9,.int .i64 (e13B.length:Int)] rfl rfl)<|yEW ?_;obtain⟨⟨y16,y17⟩,hy16,h⟩:=zAc h;refine⟨_,⟨_,_,_,_,_,hy16,rfl,rfl⟩,?_⟩;refine zAa<|zCE [14] [] [7,8] [] rfl (by decide +kernel) ?_;obtain⟨⟨y18A,y18C,y18D,y18B⟩,hy18,h⟩:=zAc h;refine⟨_,⟨_,_,hy18,rfl,rfl⟩,?_⟩;obtain⟨⟨y19A,y19C,y19D,y19B⟩,hy19,h⟩:=zAc h;refine⟨_,⟨_,_,_,_,hy19,rfl,rfl⟩,?_⟩;refine zAj (Le.giveBox 2 (nN y19A y19C y19D y19B) rfl rfl)<|zAa<|zAw [98,108] [105,107] [2,12] rfl (by decide +kernel) ?_;obtain⟨y20,hy20,h⟩:=zAc h;refine⟨_,⟨_,_,_,_,hy20,rfl,rfl⟩,?_⟩;intro r21 hr21;obtain rfl:Nd.encs [Nd.mk y19A y19C y19D y19B]=r21:=(hr21.trans zBm).symm;intro r22 hr22
 obtain rfl:(List.map zAm) [(1,y5E,i64.wrap (y5F+1),0,[Nd.mk y19A y19C y19D y19B],0,[],[])]=r22:=(hr22.trans zBm).symm;obtain⟨hq,h⟩:=zAs h;refine And.intro (lapE hq (rlen (fun _=>rfl) _) (rlen (fun _=>rfl) _)) ?_;show Tri ..;refine zAj (Le.rnq [(0,0),(4,1)] [(2,pN a1A a1C a1D a1B),(3,.s (Zf a2G a2S)),(4,.op 0 0),(8,.s (.pt (Zb y5E y5F y5Ak y5Ao y5Ar y5Ag y5Al))),(15,.orow 1)] [(0,.box 40 Zg),(1,.row 76 8 ((List.map zAm) (y20++[(1,y5E,i64.wrap (y5F+1),0,[Nd.mk y19A y19C y19D y19B],0,[],[])])))] 2 (h2:=⟨rfl,⟨_,rfl,rfl⟩,rfl,⟨_,rfl,congrArg (Ob.row 76 8) zBm⟩,trivial⟩)) ?_;refine zAa<|zAw [] [119] [12,15] rfl (by decide +kernel) ?_;intro r23 hr23;obtain rfl:iL [i64.wrap (y5F+1),y5Ak,0]=r23:=(hr23.trans zBm).symm;obtain⟨y24,hy24,h⟩:=zAc h;refine⟨_,⟨_,_,_,hy24,rfl,rfl⟩,?_⟩;obtain⟨⟨⟨y25X,⟨y25Y,y25Z⟩,⟨y25Aa,y25Ab⟩⟩,y26⟩,hy25,h⟩:=zAc h;refine⟨_,⟨_,_,_,_,_,_,_,hy25,rfl,rfl⟩,?_⟩;exact jA
def zXz:Prop:=∃ a0 a1 a2 y0 y1,zHk n a0 a1 a2=some (y0,y1)/\xs=[.agg ((Nd.enc a0).map .s),.agg ((zAz a1).map .s),nS a2]/\r = .val (.tup [.agg ((zAg y0).map .s),nI y1])
def zSa:zAq:=pG zXz
def zWY:PSound prog 57 zSa:=by
 have gok:=gk1 zDF<|gk1 zN4<|gk1 zMk<|gk1 zEk<|gk0;refine psq tokW call57 func57 rfl ?_;rintro xs r w0 G0 ⟨n,⟨a1A,a1C,a1D,a1B⟩,⟨a2G,a2S⟩,a3,y0,y1,h,rfl,rfl⟩ _;rw[zHk]at h;refine yCZ [6] [] rfl ?_;refine yCZ [8] [] rfl ?_;obtain⟨⟨⟨y4E,y4Ad,y4Ah⟩,y5⟩,hy4,h⟩:=zAc h;refine⟨_,⟨_,_,_,_,_,hy4,rfl,rfl⟩,?_⟩;refine zAj (Le.giveBox 1 (Zi y4E y4Ad y4Ah) rfl rfl)<|zAa<|yEW ?_;refine zAf rfl h (fun hb h=>?_) (fun hb h=>?_)
 ·exact jM
 refine zAe<|zAa<|zAw [] [30,32,37,39] [] rfl (by decide +kernel) ?_;refine len1 (fun _=>rfl) a2G ?_;obtain⟨hq,h⟩:=zAs h;refine And.intro ⟨hq.1,hq.2.1,Int.le_trans hq.2.2 (bi.2 (bk (rlen (fun _=>rfl) _).symm))⟩ ?_;intro r7 hr7;obtain rfl:iL ((a2G.take (i64.wrap ((a2G.length:Int) - 1)).toNat).drop (0:Int).toNat)=r7:=(hr7.trans (rcut (fun _=>rfl) _ _ _)).symm;refine len1 (fun _=>rfl) a2G ?_;obtain⟨e9,he9,h⟩:=zAc h;refine at1 [.int .i64 e9] (fun _=>rfl) he9 ?_;refine zAa<|yEW ?_;refine zAf rfl h (fun hb h=>?_) (fun hb h=>?_)
 ·exact jM
 refine zAe<|yCZ [12] [] rfl ?_;obtain⟨⟨⟨y11A,y11C,y11D,y11B⟩,y12⟩,hy11,h⟩:=zAc h;refine⟨_,⟨_,_,_,_,_,_,hy11,rfl,rfl⟩,?_⟩;refine zAj (Le.giveBox 2 (nN y11A y11C y11D y11B) rfl rfl)<|yCZ [14] [] rfl ?_;refine zAj (Le.giveBox 3 [.int .i64 5,.sl 1 (iL ((a2G.take (i64.wrap ((a2G.length:Int) - 1)).toNat).drop (0:Int).toNat)),.int .i64 (i64.wrap (e9 - 1)),.int .i64 0,.sl 4 (Nd.encs []),.int .i64 0,.str y11C,.str a3] rfl rfl)<|yEW ?_;obtain⟨⟨⟨y13A,y13C,y13D,y13B⟩,y14⟩,hy13,h⟩:=zAc h;refine⟨_,⟨_,_,_,_,_,hy13,rfl,rfl⟩,?_⟩;refine zAa<|zAa ?_;obtain⟨x15,hj,h⟩:=zAc h;refine zAl ⟨ofL [(3,pN a1A a1C a1D a1B),(4,.s (Zf a2G a2S)),(6,.op 0 0),(14,.s (.pt [.int .i64 5,.sl 1 (iL ((a2G.take (i64.wrap ((a2G.length:Int) - 1)).toNat).drop (0:Int).toNat)),.int .i64 (i64.wrap (e9 - 1)),.int .i64 0,.sl 4 (Nd.encs []),.int .i64 0,.str y11C,.str a3])),(70,nB x15)],ofH [(0,.box 40 Zg)],1⟩ ?_ (fun V' hle=>?_)
 ·replace h:=hj;refine zAb [] [67] rfl ?_;refine nbS h (fun hb h=>?_) (fun hb h=>?_)
  ·exact jC
  exact jC
 refine zAj hle<|zAf rfl h (fun hb h=>?_) (fun hb h=>?_)
 ·exact jM
 refine zAe<|yCZ [15] [76] rfl ?_;intro r16 hr16;obtain rfl:(List.map zAm) [(5,(a2G.take (i64.wrap ((a2G.length:Int) - 1)).toNat).drop (0:Int).toNat,i64.wrap (e9 - 1),0,[],0,y11C,a3)]=r16:=(hr16.trans zBm).symm;obtain⟨⟨⟨y17X,⟨y17Y,y17Z⟩,⟨y17Aa,y17Ab⟩⟩,y18⟩,hy17,h⟩:=zAc h;refine⟨_,⟨_,_,_,_,_,_,_,hy17,rfl,rfl⟩,?_⟩;refine zAa<|yEW ?_;show Tri ..;obtain⟨⟨x19,x20⟩,hj,h⟩:=zAc h;refine zAl ⟨ofL [(6,.op 0 0),(9,nI y18),(15,.op 1 0)],ofH [(0,.box 40 Zg),(1,.box 40 [.s (.sl 8 ((List.map zAm) y17X)),.s (.sl 1 (iL y17Y)),.s (.sl 1 (iL y17Z)),.s (.sl 1 (iL x19)),.s (.sl 1 (iL x20))])],2⟩ ?_ (fun V' hle=>?_)
 ·replace h:=hj;refine zAf rfl h (fun hb h=>?_) (fun hb h=>?_)
  ·refine yEV ?_;exact jL
  refine zAe ?_;exact jL
 refine zAj hle<|yEW ?_;exact jA
def zWh:Prop:=∃ a0 a1 a2 y0 y1,zE9 n a0 a1 a2=some (y0,y1)/\xs=[.agg ((Nd.enc a0).map .s),.agg ((zAz a1).map .s),nB a2]/\r = .val (.tup [.agg ((zAg y0).map .s),nI y1])
def zPo:zAq:=pG zWh
def jU {P:Prop} (h:P:=by cases h;exact(Le.rnq [(0,0),(1,1),(2,2)] _ _ _)):P:=h
abbrev Ze a b:=([(0,.box 40 Zg),(1,.box 24 [nI 12,.s (.str []),nI a,.orow 2]),(2,.row 24 4 (Nd.encs b))]:List (Nat×Ob))
abbrev Zz a:=([nI 12,.s (.str []),nI a,.orow 2]:List AV)
def zUJ:PSound prog 58 zPo:=by
 have gok:=gk1 zDF<|gk1 zFR<|gk1 zCS<|gk1 zIF<|gk1 zEk<|gk0;refine psq tokW call58 func58 rfl ?_;rintro xs r w0 G0 ⟨n,⟨a1A,a1C,a1D,a1B⟩,⟨a2G,a2S⟩,a3,y0,y1,h,rfl,rfl⟩ _;rw[zE9]at h;refine yCZ [6] [] rfl ?_;refine yCZ [8] [] rfl ?_;obtain⟨⟨⟨y4E,y4Ad,y4Ah⟩,y5⟩,hy4,h⟩:=zAc h;refine⟨_,⟨_,_,_,_,_,hy4,rfl,rfl⟩,?_⟩;refine zAj (Le.giveBox 1 (Zi y4E y4Ad y4Ah) rfl rfl)<|zAa<|yEW ?_;refine zAf rfl h (fun hb h=>?_) (fun hb h=>?_)
 ·exact jM
 refine zAe<|yCZ [10] [] rfl ?_;obtain⟨⟨⟨y6E,y6F,y6Ak,⟨y6Ao,y6Ar,y6Ag,y6Al⟩⟩,y7⟩,hy6,h⟩:=zAc h;refine⟨_,⟨_,_,_,_,_,hy6,rfl,rfl⟩,?_⟩;refine zAj (Le.giveBox 2 (Zb y6E y6F y6Ak y6Ao y6Ar y6Ag y6Al) rfl rfl)<|zAa<|zAk<|yEW ?_;refine zAf rfl h (fun hb h=>?_) (fun hb h=>?_)
 ·exact jM
 refine yEW ?_;refine zAf rfl h (fun hb h=>?_) (fun hb h=>?_)
 ·exact jM
 refine zAe<|yEW ?_;refine yCZ [13] [] rfl ?_;refine zAa<|yEW ?_;show Tri ..;obtain⟨x8,hj,h⟩:=zAc h;refine zAl ⟨ofL [(2,nB a3),(3,pN a1A a1C a1D a1B),(4,.s (Zf a2G a2S)),(6,.op 0 0),(10,.s (.pt (Zb y6E y6F y6Ak y6Ao y6Ar y6Ag y6Al))),(12,nI y6Ag),(13,.op 1 0)],ofH [(0,.box 40 Zg),(1,.box 24 [nI 12,.s (.str []),nI x8,.nl 4])],2⟩ ?_ (fun V' hle=>?_)
 ·replace h:=hj;refine zAf rfl h (fun hb h=>?_) (fun hb h=>?_)
  ·refine yEV ?_;cases h;exact(Le.rnq [(0,0),(3,1)] _ _ _)
  refine zAe ?_;cases h;exact(Le.rnq [(0,0),(3,1)] _ _ _)
 refine zAj hle<|yEW ?_;refine zAa<|yEW ?_;show Tri ..;obtain⟨⟨x18,l19⟩,hl,h⟩:=zAc h;refine zAl ⟨ofL [(3,pN a1A a1C a1D a1B),(4,.s (Zf a2G a2S)),(6,.op 0 0),(10,.s (.pt (Zb y6E y6F y6Ak y6Ao y6Ar y6Ag y6Al))),(13,.op 1 0),(14,nI x18)],ofH (Ze x8 l19),3⟩ ?_ (fun V' hle=>?_)
 ·refine zAk (zAv (X:=Nat×Int×Int×(List Nd)) (fun y=>match y with | (k,x15,x16,l17)=>⟨ofL [(2,nB a3),(3,pN a1A a1C a1D a1B),(4,.s (Zf a2G a2S)),(6,.op 0 0),(10,.s (.pt (Zb y6E y6F y6Ak y6Ao y6Ar y6Ag y6Al))),(12,nI y6Ag),(13,.op 1 0),(14,nI x15),(15,nI x16)],ofH (Ze x8 l17),3⟩) (fun y=>zC4 n a3 y6Ak y6Ag y6Al y.1 y.2.1 y.2.2.1 y.2.2.2=some (x18,l19)) (fun y=>y.1) (n,0,0,[]) hl ?_ ?_)
  ·exact(Le.trans (Le.trans (Le.rnq [(0,0),(1,1)] [(2,nB a3),(3,pN a1A a1C a1D a1B),(4,.s (Zf a2G a2S)),(6,.op 0 0),(10,.s (.pt (Zb y6E y6F y6Ak y6Ao y6Ar y6Ag y6Al))),(12,nI y6Ag),(13,.op 1 0),(14,nI 0),(15,nI 0)] [(0,.box 40 Zg),(1,.box 24 [nI 12,.s (.str []),nI x8,.nl 4])] 2) (Le.takeNil 1 3 24 rfl rfl (by decide))) (Le.rnq [(0,0),(1,1),(2,2)] _ _ _ (h2:=⟨rfl,⟨_,rfl,rfl⟩,rfl,⟨_,rfl,rfl⟩,rfl,⟨_,rfl,congrArg (Ob.row 24 4) zBm⟩,trivial⟩)))
  rintro⟨k,x15,x16,l17⟩ h;cases k with
  | zero=>cases h
  | succ k=>
  replace h:zC4 n a3 y6Ak y6Ag y6Al (k+1) x15 x16 l17=some (x18,l19):=h;rw[zC4]at h;refine zAa<|yCZ [] [59] rfl ?_;refine len1 Nd.encs_eq y6Al ?_;refine zAf rfl h (fun hb h=>?_) (fun hb h=>?_)
  ·refine zAe<|zAa ?_;obtain⟨⟨x21,l22⟩,hj,h⟩:=zAc h;refine zAl ⟨ofL [(2,nB a3),(3,pN a1A a1C a1D a1B),(4,.s (Zf a2G a2S)),(6,.op 0 0),(10,.s (.pt (Zb y6E y6F y6Ak y6Ao y6Ar y6Ag y6Al))),(12,nI y6Ag),(13,.op 1 0),(14,nI x21),(15,nI x16)],ofH (Ze x8 l22),3⟩ ?_ (fun V' hle=>?_)
   ·replace h:=hj;refine zAk<|zAa<|yEW ?_;show Tri ..;obtain⟨x23,hj,h⟩:=zAc h;refine zAl ⟨ofL [(2,nB a3),(3,pN a1A a1C a1D a1B),(4,.s (Zf a2G a2S)),(6,.op 0 0),(10,.s (.pt (Zb y6E y6F y6Ak y6Ao y6Ar y6Ag y6Al))),(12,nI y6Ag),(13,.op 1 0),(14,nI x23),(15,nI x16)],ofH (Ze x8 l17),3⟩ ?_ (fun V' hle=>?_)
    ·replace h:=hj;refine zAf rfl h (fun hb h=>?_) (fun hb h=>?_)
     ·refine zAb [] [69] rfl ?_;refine len1 Nd.encs_eq l17 ?_;exact jU
     refine zAe ?_;exact jU
    refine zAj hle<|zAa<|zAw [79] [76,78] [1,9,11] rfl (by decide +kernel) ?_;obtain⟨⟨e25A,e25C,e25D,e25B⟩,he25,h⟩:=zAc h;refine at1 (nN e25A e25C e25D e25B) Nd.encs_eq he25 ?_;intro r27 hr27;obtain rfl:Nd.encs [Nd.mk e25A e25C e25D e25B]=r27:=(hr27.trans zBm).symm;obtain⟨hq,h⟩:=zAs h;refine And.intro (lapE hq (rlen Nd.encs_eq _) (rlen Nd.encs_eq _)) ?_;show Tri ..;refine zAj (Le.rnq [(0,0),(1,1),(3,2)] [(2,nB a3),(3,pN a1A a1C a1D a1B),(4,.s (Zf a2G a2S)),(6,.op 0 0),(10,.s (.pt (Zb y6E y6F y6Ak y6Ao y6Ar y6Ag y6Al))),(12,nI y6Ag),(13,.op 1 0),(14,nI x23),(15,nI x16)] [(0,.box 40 Zg),(1,.box 24 (Zz x8)),(2,.row 24 4 (Nd.encs (l17++[Nd.mk e25A e25C e25D e25B])))] 3 (h2:=⟨rfl,⟨_,rfl,rfl⟩,rfl,⟨_,rfl,rfl⟩,rfl,⟨_,rfl,congrArg (Ob.row 24 4) zBm⟩,trivial⟩)) ?_;refine zAa<|zAa ?_;obtain⟨x28,hj,h⟩:=zAc h;refine zAl ⟨ofL [(2,nB a3),(3,pN a1A a1C a1D a1B),(4,.s (Zf a2G a2S)),(6,.op 0 0),(10,.s (.pt (Zb y6E y6F y6Ak y6Ao y6Ar y6Ag y6Al))),(12,nI y6Ag),(13,.op 1 0),(14,nI x23),(15,nI x16),(91,nB x28)],ofH [(0,.box 40 Zg),(1,.box 24 (Zz x8)),(2,.row 24 4 (Nd.encs (l17++[Nd.mk e25A e25C e25D e25B])))],3⟩ ?_ (fun V' hle=>?_)
    ·replace h:=hj;refine zAw [] [82] [] rfl (by decide +kernel) ?_;refine nbS h (fun hb h=>?_) (fun hb h=>?_)
     ·obtain⟨hq,h⟩:=zAs h;refine And.intro hq ?_;obtain⟨hq,h⟩:=zAs h;refine And.intro hq ?_;exact jU
     exact jU
    refine zAj hle ?_;obtain⟨l29,hj,h⟩:=zAc h;refine zAl ⟨ofL [(2,nB a3),(3,pN a1A a1C a1D a1B),(4,.s (Zf a2G a2S)),(6,.op 0 0),(10,.s (.pt (Zb y6E y6F y6Ak y6Ao y6Ar y6Ag y6Al))),(12,nI y6Ag),(13,.op 1 0),(14,nI x23),(15,nI x16)],ofH (Ze x8 l29),3⟩ ?_ (fun V' hle=>?_)
    ·replace h:=hj;refine zAf rfl h (fun hb h=>?_) (fun hb h=>?_)
     ·refine zAw [96] [95] [1,4,6] rfl (by decide +kernel) ?_;obtain⟨⟨y30A,y30C,y30D,y30B⟩,hy30,h⟩:=zAc h;refine⟨_,⟨_,_,hy30,rfl,rfl⟩,?_⟩;intro r31 hr31;obtain rfl:Nd.encs [Nd.mk y30A y30C y30D y30B]=r31:=(hr31.trans zBm).symm;obtain⟨hq,h⟩:=zAs h;refine And.intro (lapE hq (rlen Nd.encs_eq _) (rlen Nd.encs_eq _)) ?_;cases h;exact(Le.trans (Le.rnq [(0,0),(1,1),(3,2)] [(2,nB a3),(3,pN a1A a1C a1D a1B),(4,.s (Zf a2G a2S)),(6,.op 0 0),(10,.s (.pt (Zb y6E y6F y6Ak y6Ao y6Ar y6Ag y6Al))),(12,nI y6Ag),(13,.op 1 0),(14,nI x23),(15,nI x16)] [(0,.box 40 Zg),(1,.box 24 (Zz x8)),(2,.row 24 4 (Nd.encs ((l17++[Nd.mk e25A e25C e25D e25B])++[Nd.mk y30A y30C y30D y30B])))] 3 (h2:=⟨rfl,⟨_,rfl,rfl⟩,rfl,⟨_,rfl,rfl⟩,rfl,⟨_,rfl,congrArg (Ob.row 24 4) zBm⟩,trivial⟩)) (Le.rnq [(0,0),(1,1),(2,2)] _ _ _))
     refine zAe ?_;exact jU
    refine zAj hle<|yEW ?_;show Tri ..;obtain⟨l40,hl,h⟩:=zAc h;refine zAl ⟨ofL [(2,nB a3),(3,pN a1A a1C a1D a1B),(4,.s (Zf a2G a2S)),(6,.op 0 0),(10,.s (.pt (Zb y6E y6F y6Ak y6Ao y6Ar y6Ag y6Al))),(12,nI y6Ag),(13,.op 1 0),(14,nI x23),(15,nI x16)],ofH (Ze x8 l40),3⟩ ?_ (fun V' hle=>?_)
    ·refine zAk (zAv (X:=Nat×Int×(List Nd)) (fun y=>match y with | (k,x38,l39)=>⟨ofL [(2,nB a3),(3,pN a1A a1C a1D a1B),(4,.s (Zf a2G a2S)),(6,.op 0 0),(10,.s (.pt (Zb y6E y6F y6Ak y6Ao y6Ar y6Ag y6Al))),(12,nI y6Ag),(13,.op 1 0),(14,nI x23),(15,nI x16),(16,nI x38)],ofH (Ze x8 l39),3⟩) (fun y=>zCq a3 y6Ak y6Ag x16 y.1 y.2.1 y.2.2=some l40) (fun y=>y.1) (n,0,l29) hl ?_ ?_)
     ·exact(Le.rnq [(0,0),(1,1),(2,2)] _ _ _)
     rintro⟨k,x38,l39⟩ h;cases k with
     | zero=>cases h
     | succ k=>
     replace h:zCq a3 y6Ak y6Ag x16 (k+1) x38 l39=some l40:=h;rw[zCq]at h;refine zAa<|zAa ?_;obtain⟨x41,hj,h⟩:=zAc h;refine zAl ⟨ofL [(2,nB a3),(3,pN a1A a1C a1D a1B),(4,.s (Zf a2G a2S)),(6,.op 0 0),(10,.s (.pt (Zb y6E y6F y6Ak y6Ao y6Ar y6Ag y6Al))),(12,nI y6Ag),(13,.op 1 0),(14,nI x23),(15,nI x16),(16,nI x38),(117,nB x41)],ofH (Ze x8 l39),3⟩ ?_ (fun V' hle=>?_)
     ·replace h:=hj;refine zAb [] [101,105] rfl ?_;refine nbS h (fun hb h=>?_) (fun hb h=>?_)
      ·refine nbS h (fun hb h=>?_) (fun hb h=>?_)
       ·obtain⟨hq,h⟩:=zAs h;refine And.intro hq ?_;exact jU
       exact jU
      intro b hb;subst hb;exact jU
     refine zAj hle<|zAf rfl h (fun hb h=>?_) (fun hb h=>?_)
     ·refine zAe<|zAa<|zAk<|zAw [124] [123] [1,4,6] rfl (by decide +kernel) ?_;obtain⟨⟨y42A,y42C,y42D,y42B⟩,hy42,h⟩:=zAc h;refine⟨_,⟨_,_,hy42,rfl,rfl⟩,?_⟩;intro r43 hr43;obtain rfl:Nd.encs [Nd.mk y42A y42C y42D y42B]=r43:=(hr43.trans zBm).symm;obtain⟨hq,h⟩:=zAs h;refine And.intro (lapE hq (rlen Nd.encs_eq _) (rlen Nd.encs_eq _)) ?_;show Tri ..;refine zAj (Le.rnq [(0,0),(1,1),(3,2)] [(2,nB a3),(3,pN a1A a1C a1D a1B),(4,.s (Zf a2G a2S)),(6,.op 0 0),(10,.s (.pt (Zb y6E y6F y6Ak y6Ao y6Ar y6Ag y6Al))),(12,nI y6Ag),(13,.op 1 0),(14,nI x23),(15,nI x16),(16,nI x38)] [(0,.box 40 Zg),(1,.box 24 (Zz x8)),(2,.row 24 4 (Nd.encs (l39++[Nd.mk y42A y42C y42D y42B])))] 3 (h2:=⟨rfl,⟨_,rfl,rfl⟩,rfl,⟨_,rfl,rfl⟩,rfl,⟨_,rfl,congrArg (Ob.row 24 4) zBm⟩,trivial⟩)) ?_;refine yEV ?_;refine⟨(k,i64.wrap (x38+1),l39++[Nd.mk y42A y42C y42D y42B]),h,(Le.rnq [(0,0),(1,1),(2,2)] _ _ _),ax k⟩
     refine zAy ?_;exact jU
    cases h;exact(Le.trans hle (Le.rnq [(0,0),(1,1),(2,2)] _ _ _))
   refine zAj hle<|yEV ?_;refine⟨(k,x21,i64.wrap (x16+1),l22),h,(Le.rnq [(0,0),(1,1),(2,2)] _ _ _),ax k⟩
  refine zAy ?_;exact jU
 refine zAj hle<|zAa ?_;refine zAj (Le.trans (Le.rnq [(0,0),(1,1),(2,2)] [(3,pN a1A a1C a1D a1B),(4,.s (Zf a2G a2S)),(6,.op 0 0),(10,.s (.pt (Zb y6E y6F y6Ak y6Ao y6Ar y6Ag y6Al))),(13,.op 1 0),(14,nI x18)] (Ze x8 l19) 3) (Le.giveRow 2 rfl)) ?_;refine zAj (Le.trans (Le.rnq [(0,0),(1,1)] [(3,pN a1A a1C a1D a1B),(4,.s (Zf a2G a2S)),(6,.op 0 0),(10,.s (.pt (Zb y6E y6F y6Ak y6Ao y6Ar y6Ag y6Al))),(13,.op 1 0),(14,nI x18)] [(0,.box 40 Zg),(1,.box 24 [nI 12,.s (.str []),nI x8,.s (.sl 4 (Nd.encs l19))])] 2) (Le.giveBox 1 [.int .i64 12,.str [],.int .i64 x8,.sl 4 (Nd.encs l19)] rfl rfl)) ?_;refine zAb [] [132,139,141] rfl ?_;intro r44 hr44;obtain rfl:Nd.encs [Nd.mk y6Ao y6Ar y6Ag y6Al]=r44:=(hr44.trans zBm).symm;intro r45 hr45;obtain rfl:Nd.encs [Nd.mk 12 [] x8 l19]=r45:=(hr45.trans zBm).symm;intro r46 hr46;obtain rfl:(List.map zAm) [(2,y6E,y6F,0,[Nd.mk y6Ao y6Ar y6Ag y6Al],0,[],[]),(1,y6E,y6F,0,[Nd.mk 12 [] x8 l19],0,[],[])]=r46:=(hr46.trans zBm).symm;refine zAa ?_
 refine zAw [] [154,156,158] [21] rfl (by decide +kernel) ?_;refine len1 (fun _=>rfl) a2G ?_;obtain⟨e48,he48,h⟩:=zAc h;refine at1 [.int .i64 e48] (fun _=>rfl) he48 ?_;intro r50 hr50;obtain rfl:iL [y6F,x18,e48]=r50:=(hr50.trans zBm).symm;obtain⟨y51,hy51,h⟩:=zAc h;refine⟨_,⟨_,_,_,hy51,rfl,rfl⟩,?_⟩;obtain⟨⟨⟨y52X,⟨y52Y,y52Z⟩,⟨y52Aa,y52Ab⟩⟩,y53⟩,hy52,h⟩:=zAc h;refine⟨_,⟨_,_,_,_,_,_,_,hy52,rfl,rfl⟩,?_⟩;exact jA
def zXy:Prop:=∃ a0 a1 a2 y0 y1,zIw n a0 a1 a2=some (y0,y1)/\xs=[.agg ((Nd.enc a0).map .s),.agg ((zAz a1).map .s),.agg ((zBc a2).map .s)]/\r = .val (.tup [.agg ((zAg y0).map .s),nI y1])
def zR9:zAq:=pG zXy
def zWX:PSound prog 29 zR9:=by
 have gok:=gk1 zRa<|gk1 zTh<|gk1 zTj<|gk1 zUK<|gk1 zRb<|gk1 zTi<|gk1 zWY<|gk1 zUJ<|gk0;refine psq tokW call29 func29 rfl ?_;rintro xs r w0 G0 ⟨n,⟨a1A,a1C,a1D,a1B⟩,⟨a2G,a2S⟩,⟨a3A,a3Ai,a3W,a3C,a3Ba⟩,y0,y1,h,rfl,rfl⟩ _;rw[zIw]at h;refine yCZ [6] [] rfl ?_;refine zAa<|yEW ?_;refine zAk<|yEW ?_;refine zAf rfl h (fun hb h=>?_) (fun hb h=>?_)
 ·refine yEW ?_;obtain⟨⟨⟨y4X,⟨y4Y,y4Z⟩,⟨y4Aa,y4Ab⟩⟩,y5⟩,hy4,h⟩:=zAc h;refine⟨_,⟨_,_,_,_,_,_,hy4,rfl,rfl⟩,?_⟩;exact jA
 refine yEW ?_;refine zAf rfl h (fun hb h=>?_) (fun hb h=>?_)
 ·refine yEW ?_;obtain⟨⟨⟨y6X,⟨y6Y,y6Z⟩,⟨y6Aa,y6Ab⟩⟩,y7⟩,hy6,h⟩:=zAc h;refine⟨_,⟨_,_,_,_,_,_,hy6,rfl,rfl⟩,?_⟩;exact jA
 refine yEW ?_;refine zAf rfl h (fun hb h=>?_) (fun hb h=>?_)
 ·refine zAa<|zAw [] [] [10] rfl (by decide +kernel) ?_;obtain⟨⟨y8A,y8C,y8D,y8B⟩,hy8,h⟩:=zAc h;refine⟨_,⟨_,_,hy8,rfl,rfl⟩,?_⟩;obtain⟨⟨⟨y9X,⟨y9Y,y9Z⟩,⟨y9Aa,y9Ab⟩⟩,y10⟩,hy9,h⟩:=zAc h;refine⟨_,⟨_,_,_,_,_,_,_,hy9,rfl,rfl⟩,?_⟩;exact jA
 refine yEW ?_;refine zAf rfl h (fun hb h=>?_) (fun hb h=>?_)
 ·refine yEW ?_;obtain⟨⟨⟨y11X,⟨y11Y,y11Z⟩,⟨y11Aa,y11Ab⟩⟩,y12⟩,hy11,h⟩:=zAc h;refine⟨_,⟨_,_,_,_,_,hy11,rfl,rfl⟩,?_⟩;exact jA
 refine yEW ?_;refine zAf rfl h (fun hb h=>?_) (fun hb h=>?_)
 ·refine yEW ?_;obtain⟨⟨⟨y13X,⟨y13Y,y13Z⟩,⟨y13Aa,y13Ab⟩⟩,y14⟩,hy13,h⟩:=zAc h;refine⟨_,⟨_,_,_,_,_,hy13,rfl,rfl⟩,?_⟩;exact jA
 refine yEW ?_;refine zAf rfl h (fun hb h=>?_) (fun hb h=>?_)
 ·refine yEW ?_;obtain⟨⟨⟨y15X,⟨y15Y,y15Z⟩,⟨y15Aa,y15Ab⟩⟩,y16⟩,hy15,h⟩:=zAc h;refine⟨_,⟨_,_,_,_,_,_,hy15,rfl,rfl⟩,?_⟩;exact jA
 refine yEW ?_;refine zAf rfl h (fun hb h=>?_) (fun hb h=>?_)
 ·refine yEW ?_;obtain⟨⟨⟨y17X,⟨y17Y,y17Z⟩,⟨y17Aa,y17Ab⟩⟩,y18⟩,hy17,h⟩:=zAc h;refine⟨_,⟨_,_,_,_,_,_,hy17,rfl,rfl⟩,?_⟩;exact jA
 refine zAe<|yEW ?_;exact jA
def zV8:Prop:=∃ a0 y0,zIY n a0=some y0/\xs=[.s (.sl 8 ((List.map zAm) a0))]/\r = .row 76 8 ((List.map zAm) y0)
def zPe:zAq:=pG zV8
def zUz:PSound prog 103 zPe:=by
 have gok:=gk1 zPR<|gk0;refine psq tokW call103 func103 rfl ?_;rintro xs r w0 G0 ⟨n,l1,y0,h,rfl,rfl⟩ _;rw[zIY]at h;refine yCZ [2] [] rfl ?_;refine zAj (Le.rnq [] [(0,.s (.sl 8 ((List.map zAm) l1)))] [] 0)<|yCZ [3] [] rfl ?_;show Tri ..;refine zAj (Le.rnq [(0,0)] [(0,.s (.sl 8 ((List.map zAm) l1))),(3,.orow 0)] [(0,.row 76 8 ((List.map zAm) []))] 1 (h2:=⟨rfl,⟨_,rfl,congrArg (Ob.row 76 8) zBm⟩,trivial⟩))<|zAa<|yCZ [] [7] rfl ?_;refine len1 (fun _=>rfl) l1 ?_;show Tri ..;obtain⟨l6,hl,h⟩:=zAc h;refine zAl ⟨ofL [(3,.orow 0)],ofH [(0,.row 76 8 ((List.map zAm) l6))],1⟩ ?_ (fun V' hle=>?_)
 ·refine zAk (zAv (X:=Nat×Int×(List zO8)) (fun y=>match y with | (k,x4,l5)=>⟨ofL [(3,.orow 0),(6,.s (.sl 8 ((List.map zAm) l1))),(7,nI (l1.length:Int)),(8,nI x4)],ofH [(0,.row 76 8 ((List.map zAm) l5))],1⟩) (fun y=>zCZ n l1 y.1 y.2.1 y.2.2=some l6) (fun y=>y.1) (n,0,[]) hl ?_ ?_)
  ·exact qD
  rintro⟨k,x4,l5⟩ h;cases k with
  | zero=>cases h
  | succ k=>
  replace h:zCZ n l1 (k+1) x4 l5=some l6:=h;rw[zCZ]at h;refine yEW ?_;refine zAa<|zAf rfl h (fun hb h=>?_) (fun hb h=>?_)
  ·refine zAe<|zAa<|zAk<|yCZ [5] [10] rfl ?_;obtain⟨⟨e7A,e7E,e7F,e7V,e7H,e7W,e7Ac,e7C⟩,he7,h⟩:=zAc h;refine at1 (Za e7A e7E e7F e7V e7H e7W e7Ac e7C) (fun _=>rfl) he7 ?_;refine zAj (Le.giveBox 1 (Za e7A e7E e7F e7V e7H e7W e7Ac e7C) rfl rfl)<|zAb [16] [15] rfl ?_;obtain⟨⟨y9A,y9E,y9F,y9V,y9H,y9W,y9Ac,y9C⟩,hy9,h⟩:=zAc h;refine⟨_,⟨_,_,_,hy9,rfl,rfl⟩,?_⟩;intro r10 hr10;obtain rfl:(List.map zAm) [(y9A,y9E,y9F,y9V,y9H,y9W,y9Ac,y9C)]=r10:=(hr10.trans zBm).symm;obtain⟨hq,h⟩:=zAs h;refine And.intro (lapE hq (rlen (fun _=>rfl) _) (rlen (fun _=>rfl) _)) ?_;show Tri ..;refine zAj (Le.rnq [(2,0)] [(3,.orow 0),(6,.s (.sl 8 ((List.map zAm) l1))),(7,nI (l1.length:Int)),(8,nI x4)] [(0,.row 76 8 ((List.map zAm) (l5++[(y9A,y9E,y9F,y9V,y9H,y9W,y9Ac,y9C)])))] 1 (h2:=⟨rfl,⟨_,rfl,congrArg (Ob.row 76 8) zBm⟩,trivial⟩)) ?_;refine yEV ?_;refine⟨(k,i64.wrap (x4+1),l5++[(y9A,y9E,y9F,y9V,y9H,y9W,y9Ac,y9C)]),h,(Le.rnq [(0,0)] _ _ _),ax k⟩
  refine zAy ?_;exact jC
 exact qE
def zQe (xs:List AV) (r:Ret):Prop:=∃ a0 y0,zBG a0=some y0/\xs=[.agg ((zAz a0).map .s)]/\r = .val (.agg ((zAz y0).map .s))
def zFO:zAq:=zAr fun xs r=>zQe xs r
def zG1:PSound prog 44 zFO:=by
 have gok:=gk1 zMg<|gk0;refine psq tokW call44 func44 rfl ?_;rintro xs r w0 G0 ⟨⟨c1G,c1S⟩,y0,h,rfl,rfl⟩ _;rw[zBG]at h;refine yCZ [2] [] rfl ?_;refine zAa<|zAw [] [] [7] rfl (by decide +kernel) ?_;obtain⟨y2,hy2,h⟩:=zAc h;refine⟨_,⟨_,_,hy2,rfl,rfl⟩,?_⟩;obtain⟨y3,hy3,h⟩:=zAc h;refine⟨_,⟨_,_,hy3,rfl,rfl⟩,?_⟩;exact jN
def zQf:Prop:=∃ a0 y0,zC0 n a0=some y0/\xs=[.agg ((zAg a0).map .s)]/\r = .val (.agg ((zAg y0).map .s))
def zHq:zAq:=pG zQf
def zJy:PSound prog 59 zHq:=by
 have gok:=gk1 zUz<|gk1 zG1<|gk0;refine psq tokW call59 func59 rfl ?_;rintro xs r w0 G0 ⟨n,⟨r1X,⟨r1Y,r1Z⟩,⟨r1Aa,r1Ab⟩⟩,y0,h,rfl,rfl⟩ _;rw[zC0]at h;refine yCZ [2] [] rfl ?_;refine zAa<|zAw [] [] [10] rfl (by decide +kernel) ?_;obtain⟨y2,hy2,h⟩:=zAc h;refine⟨_,⟨_,_,_,hy2,rfl,rfl⟩,?_⟩;obtain⟨⟨y3G,y3S⟩,hy3,h⟩:=zAc h;refine⟨_,⟨_,_,hy3,rfl,rfl⟩,?_⟩;obtain⟨⟨y4G,y4S⟩,hy4,h⟩:=zAc h;refine⟨_,⟨_,_,hy4,rfl,rfl⟩,?_⟩;exact jN
def zJb (n:Nat) (xs:List AV) (os:List Ob) (x:AV) (os':List (Option Ob)):Prop:=∃ (a0K:Int) (a0L:List UInt8) (a0M:Int) (a0N:List Nd) (a0O:Int) (a0P:List UInt8) (a0Q:Int) (a0R:List Nd) (a0J:List zRc) (a0I:Int) (a1:zRc) (y0:Int) (z0K:Int) (z0L:List UInt8) (z0M:Int) (z0N:List Nd) (z0O:Int) (z0P:List UInt8) (z0Q:Int) (z0R:List Nd) (z0J:List zRc) (z0I:Int),zBa n (Nd.mk a0K a0L a0M a0N,Nd.mk a0O a0P a0Q a0R,a0J,a0I) a1=some (y0,(Nd.mk z0K z0L z0M z0N,Nd.mk z0O z0P z0Q z0R,z0J,z0I))/\xs=[.op 0 0,.agg ((zAg a1).map .s)]/\os=[.box 68 (Zk a0K a0L a0M a0N a0O a0P a0Q a0R a0I),.row 40 5 ((List.map zAg) a0J)]/\x = .s (.int .i64 y0)/\os'=[some (.box 68 (Zc z0K z0L z0M z0N z0O z0P z0Q z0R z0I)),none,some (.row 40 5 ((List.map zAg) z0J))]
def zFL:zAq:=zD8 (fun xs os x os'=>∃ n,zJb n xs os x os')
def zIE:PSound prog 30 zFL:=by
 have gok:=gk1 zFF<|gk1 zJy<|gk0;refine PSound.withNil (osq tokW call30 func30 rfl ?_) _;rintro xs os x os' w0 G0 B0 ⟨n,o1K,o1L,o1M,o1N,o1O,o1P,o1Q,o1R,o1J,o1I,⟨r2X,⟨r2Y,r2Z⟩,⟨r2Aa,r2Ab⟩⟩,y0,z0K,z0L,z0M,z0N,z0O,z0P,z0Q,z0R,z0J,z0I,h,rfl,rfl,rfl,rfl⟩ _;rw[zBa]at h;refine yEW ?_;refine zAa<|yEW ?_;show Tri ..;refine zAx rfl (fun h=>by cases h) (fun _=>?_);refine zAe<|zAa<|zCE [5] [] [3,11,12] [3] rfl (by decide +kernel) ?_;obtain⟨⟨⟨y3A,y3C,y3D,y3B⟩,y4,y5⟩,hy3,h⟩:=zAc h;refine⟨_,⟨_,_,_,_,_,_,hy3,rfl,rfl⟩,?_⟩;refine zAj (Le.giveBox 2 (nN y3A y3C y3D y3B) rfl rfl)<|zAa<|yEW ?_;refine zAf rfl h (fun hb h=>?_) (fun hb h=>?_)
 ·refine yEW ?_;refine zAd ?_;have hj0:=osi h;obtain⟨hv0,hw0⟩:=ap hj0;subst hv0;obtain⟨he1T,hr1T⟩:=ap hw0;obtain⟨he1U,hr1U⟩:=ap hr1T;obtain⟨he1Ae,he1Af⟩:=ap hr1U;obtain⟨he2T,he2U,he2Ae,he2Af⟩:=Nd.mk.inj he1T;subst he2T;subst he2U;subst he2Ae;subst he2Af;obtain⟨he3T,he3U,he3Ae,he3Af⟩:=Nd.mk.inj he1U;subst he3T;subst he3U;subst he3Ae;subst he3Af;subst he1Ae;subst he1Af;unfold zCf;exact⟨_,(Le.rnq [(0,0),(1,2)] [(4,nI y5)] [(0,.box 68 (Zc o1K o1L o1M o1N o1O o1P o1Q o1R o1I)),(2,.row 40 5 ((List.map zAg) o1J))] 3),rfl,rfl,rfl,rfl,rfl,rfl,trivial⟩
 refine zAe<|zAa<|yEW ?_;refine zAf rfl h (fun hb h=>?_) (fun hb h=>?_)
 ·refine yEW ?_;refine zAd ?_;have hj0:=osi h;obtain⟨hv0,hw0⟩:=ap hj0;subst hv0;obtain⟨he1T,hr1T⟩:=ap hw0;obtain⟨he1U,hr1U⟩:=ap hr1T;obtain⟨he1Ae,he1Af⟩:=ap hr1U;obtain⟨he2T,he2U,he2Ae,he2Af⟩:=Nd.mk.inj he1T;subst he2T;subst he2U;subst he2Ae;subst he2Af;obtain⟨he3T,he3U,he3Ae,he3Af⟩:=Nd.mk.inj he1U;subst he3T;subst he3U;subst he3Ae;subst he3Af;subst he1Ae;subst he1Af;unfold zCf;exact⟨_,(Le.rnq [(0,0),(1,2)] [(4,nI 6)] [(0,.box 68 (Zc o1K o1L o1M o1N o1O o1P o1Q o1R o1I)),(2,.row 40 5 ((List.map zAg) o1J))] 3),rfl,rfl,rfl,rfl,rfl,rfl,trivial⟩
 refine zAe<|zAa<|zAw [38,42] [41] [4,8,9,13,16] rfl (by decide +kernel) ?_;obtain⟨hq,h⟩:=zAs h;refine And.intro ⟨hq.1,Int.le_trans hq.2 (bi.2 (bk (rlen (fun _=>rfl) _).symm))⟩ ?_;obtain⟨⟨y6X,⟨y6Y,y6Z⟩,⟨y6Aa,y6Ab⟩⟩,hy6,h⟩:=zAc h;refine⟨_,⟨_,_,_,hy6,rfl,rfl⟩,?_⟩;intro r7 hr7;obtain rfl:(List.map zAg) [(y6X,(y6Y,y6Z),(y6Aa,y6Ab))]=r7:=(hr7.trans zBm).symm;obtain⟨hq,h⟩:=zAs h;refine And.intro (lapE hq (by simp) (rlen (fun _=>rfl) _)) ?_;show Tri ..;refine zAj (Le.rnq [(0,0),(4,2)] [(0,.op 0 0),(5,pN y3A y3C y3D y3B)] [(0,.box 68 (Zc o1K o1L o1M o1N o1O o1P o1Q o1R o1I)),(2,.row 40 5 ((List.map zAg) ((o1J.take o1I.toNat)++[(y6X,(y6Y,y6Z),(y6Aa,y6Ab))])))] 3 (h2:=⟨rfl,⟨_,rfl,rfl⟩,rfl,⟨_,rfl,congrArg (Ob.row 40 5) zBm⟩,trivial⟩)) ?_;refine zAa<|zAw [] [] [6,10,13] rfl (by decide +kernel) ?_;refine yEW ?_;refine zAd ?_;have hj0:=osi h;obtain⟨hv0,hw0⟩:=ap hj0;subst hv0;obtain⟨he1T,hr1T⟩:=ap hw0;obtain⟨he1U,hr1U⟩:=ap hr1T;obtain⟨he1Ae,he1Af⟩:=ap hr1U;obtain⟨he2T,he2U,he2Ae,he2Af⟩:=Nd.mk.inj he1T;subst he2T;subst he2U;subst he2Ae;subst he2Af;obtain⟨he3T,he3U,he3Ae,he3Af⟩:=Nd.mk.inj he1U;subst he3T;subst he3U;subst he3Ae;subst he3Af;subst he1Ae;subst he1Af;unfold zCf
 exact⟨_,(Le.rnq [(0,0),(2,2)] [(4,nI 0)] [(0,.box 68 [nI o1K,nS o1L,nI o1M,.s (.sl 4 (Nd.encs o1N)),nI y3A,nS y3C,nI y3D,.s (.sl 4 (Nd.encs y3B)),.orow 2,.s (.int .i64 (i64.wrap (o1I+1)))]),(2,.row 40 5 ((List.map zAg) ((o1J.take o1I.toNat)++[(y6X,(y6Y,y6Z),(y6Aa,y6Ab))])))] 3),rfl,rfl,rfl,rfl,rfl,rfl,trivial⟩
def zOM (n:Nat) (xs:List AV) (os:List Ob) (x:AV) (os':List (Option Ob)):Prop:=∃ (a0K:Int) (a0L:List UInt8) (a0M:Int) (a0N:List Nd) (a0O:Int) (a0P:List UInt8) (a0Q:Int) (a0R:List Nd) (a0J:List zRc) (a0I:Int) (a1:List ((Int×List Nd×Int×List UInt8×Bool)×Int×Int)) (y0:Bool) (z0K:Int) (z0L:List UInt8) (z0M:Int) (z0N:List Nd) (z0O:Int) (z0P:List UInt8) (z0Q:Int) (z0R:List Nd) (z0J:List zRc) (z0I:Int),zFh n (Nd.mk a0K a0L a0M a0N,Nd.mk a0O a0P a0Q a0R,a0J,a0I) a1=some (y0,(Nd.mk z0K z0L z0M z0N,Nd.mk z0O z0P z0Q z0R,z0J,z0I))/\xs=[.op 0 0,.s (.sl 7 ((List.map zAn) a1))]/\os=[.box 68 (Zk a0K a0L a0M a0N a0O a0P a0Q a0R a0I),.row 40 5 ((List.map zAg) a0J)]/\x = .s (.bool y0)/\os'=[some (.box 68 (Zc z0K z0L z0M z0N z0O z0P z0Q z0R z0I)),none,some (.row 40 5 ((List.map zAg) z0J))]
def zJr:zAq:=zD8 (fun xs os x os'=>∃ n,zOM n xs os x os')
abbrev Zl a b c d e:=([.sl 8 ((List.map zAm) a),.sl 1 (iL b),.sl 1 (iL c),.sl 1 (iL d),.sl 1 (iL e)]:List S)
def zN8:PSound prog 8 zJr:=by
 have gok:=gk1 zEM<|gk1 zLt<|gk1 zWX<|gk1 zIE<|gk0;refine PSound.withNil (osq tokW call8 func8 rfl ?_) _;rintro xs os x os' w0 G0 B0 ⟨n,o1K,o1L,o1M,o1N,o1O,o1P,o1Q,o1R,o1J,o1I,a2,y0,z0K,z0L,z0M,z0N,z0O,z0P,z0Q,z0R,z0J,z0I,h,rfl,rfl,rfl,rfl⟩ _;rw[zFh]at h;refine yEW ?_;refine zAa<|yCZ [] [14] rfl ?_;refine len1 (fun _=>rfl) a2 ?_;show Tri ..;obtain⟨fl,hl,ho1⟩:=zAc h;refine zBN (fl:=fl) (fun z=>match z with | ⟨x16,x17,x18,x19,x20,x21,x22,x23,x24,l25⟩=>⟨ofL [],ofH [(0,.box 68 (Zc x16 x17 x18 x19 x20 x21 x22 x23 x24)),(2,.row 40 5 ((List.map zAg) l25))],3⟩) ?_ (fun z V' hz hle=>?_)
 ·refine zAk (zAv (X:=Nat×Int×(List UInt8)×Int×(List Nd)×Int×(List UInt8)×Int×(List Nd)×Int×Int×(List zRc)) (fun y=>match y with | (k,x4,x5,x6,x7,x8,x9,x10,x11,x13,x14,l15)=>⟨ofL [(0,.op 0 0),(13,.s (.sl 7 ((List.map zAn) a2))),(14,nI (a2.length:Int)),(15,nI x14)],ofH [(0,.box 68 (Zc x4 x5 x6 x7 x8 x9 x10 x11 x13)),(2,.row 40 5 ((List.map zAg) l15))],3⟩) (fun y=>zBD n a2 y.1 y.2.1 y.2.2.1 y.2.2.2.1 y.2.2.2.2.1 y.2.2.2.2.2.1 y.2.2.2.2.2.2.1 y.2.2.2.2.2.2.2.1 y.2.2.2.2.2.2.2.2.1 y.2.2.2.2.2.2.2.2.2.1 y.2.2.2.2.2.2.2.2.2.2.1 y.2.2.2.2.2.2.2.2.2.2.2=some fl) (fun y=>y.1) (n,o1K,o1L,o1M,o1N,o1O,o1P,o1Q,o1R,o1I,0,o1J) hl ?_ ?_)
  ·exact(Le.rnq [(0,0),(1,2)] _ _ _)
  rintro⟨k,x4,x5,x6,x7,x8,x9,x10,x11,x13,x14,l15⟩ h;cases k with
  | zero=>cases h
  | succ k=>
  replace h:zBD n a2 (k+1) x4 x5 x6 x7 x8 x9 x10 x11 x13 x14 l15=some fl:=h;rw[zBD]at h;refine yEW ?_;refine zAa<|zAf rfl h (fun hb h=>?_) (fun hb h=>?_)
  ·refine zAe<|zAa<|zAk<|yCZ [6] [17] rfl ?_;obtain⟨⟨⟨e26Aw,e26Av,e26Ax,e26Ay,e26Az⟩,e26G,e26S⟩,he26,h⟩:=zAc h;refine at1 (Zs e26Aw e26Av e26Ax e26Ay e26Az e26G e26S) (fun _=>rfl) he26 ?_;show Tri ..;refine zAj (Le.giveBox 3 (Zs e26Aw e26Av e26Ax e26Ay e26Az e26G e26S) rfl rfl)<|yCZ [7] [] rfl ?_;obtain⟨⟨⟨y28A,y28C,y28D,y28B⟩,⟨⟨w29K,w29L,w29M,w29N⟩,⟨w29O,w29P,w29Q,w29R⟩,w29J,w29I⟩⟩,hy28,h⟩:=zAc h;refine⟨_,_,⟨_,_,_,_,_,_,_,_,_,_,_,_,_,_,_,_,_,_,_,_,_,hy28,rfl,rfl,rfl,rfl⟩,?_⟩;refine zAj (Le.giveBox 5 (nN y28A y28C y28D y28B) rfl rfl)<|yEW ?_;obtain⟨⟨y30,y31⟩,hy30,h⟩:=zAc h;refine⟨_,⟨_,_,_,_,hy30,rfl,rfl⟩,?_⟩;refine zAa<|yCZ [] [27] rfl ?_;refine len1 (fun _=>rfl) y30 ?_;refine zAf rfl h (fun hb h=>?_) (fun hb h=>?_)
   ·refine yEW ?_;refine zAd ?_;cases h;replace h:some _=some _:=ho1;have hj0:=osi h;obtain⟨hv0,hw0⟩:=ap hj0;subst hv0;obtain⟨he1T,hr1T⟩:=ap hw0;obtain⟨he1U,hr1U⟩:=ap hr1T;obtain⟨he1Ae,he1Af⟩:=ap hr1U;obtain⟨he2T,he2U,he2Ae,he2Af⟩:=Nd.mk.inj he1T;subst he2T;subst he2U;subst he2Ae;subst he2Af;obtain⟨he3T,he3U,he3Ae,he3Af⟩:=Nd.mk.inj he1U;subst he3T;subst he3U;subst he3Ae;subst he3Af;subst he1Ae;subst he1Af;unfold zCf;exact⟨_,(Le.rnq [(0,0),(4,2)] [(4,nB false)] [(0,.box 68 (Zc w29K w29L w29M w29N w29O w29P w29Q w29R w29I)),(2,.row 40 5 ((List.map zAg) w29J))] 3),rfl,rfl,rfl,rfl,rfl,rfl,trivial⟩
   refine zAe<|zAa<|zCE [10] [34,36,43,45] [19,20] [] rfl (by decide +kernel) ?_;refine len1 (fun _=>rfl) y30 ?_;obtain⟨hq,h⟩:=zAs h;refine And.intro hq ?_;obtain⟨e34,he34,h⟩:=zAc h;refine at1 [.sl 1 (iL e34)] (fun _=>rfl) he34 ?_;refine len1 (fun _=>rfl) y30 ?_;obtain⟨hq,h⟩:=zAs h;refine And.intro hq ?_;obtain⟨e37,he37,h⟩:=zAc h;refine at1 [.sl 1 (iL e37)] (fun _=>rfl) he37 ?_;refine zAj (Le.giveBox 6 [.sl 1 (iL e34),.sl 1 (iL e37)] rfl rfl)<|zAa ?_;refine zAb [11] [] rfl ?_;obtain⟨⟨⟨y39X,⟨y39Y,y39Z⟩,⟨y39Aa,y39Ab⟩⟩,y40⟩,hy39,h⟩:=zAc h;refine⟨_,⟨_,_,_,_,_,_,hy39,rfl,rfl⟩,?_⟩;refine zAj (Le.giveBox 7 (Zl y39X y39Y y39Z y39Aa y39Ab) rfl rfl)<|zAa ?_;obtain⟨⟨x41,x42,x43,x44,x45,x46,x47,x48,x49,x50,l51⟩,hj,h⟩:=zAc h;refine zAl ⟨ofL [(0,.op 0 0),(13,.s (.sl 7 ((List.map zAn) a2))),(14,nI (a2.length:Int)),(15,nI x14),(63,nB x41)],ofH [(0,.box 68 (Zc x42 x43 x44 x45 x46 x47 x48 x49 x50)),(2,.row 40 5 ((List.map zAg) l51))],3⟩ ?_ (fun V' hle=>?_)
   ·replace h:=hj;refine zAb [] [58] rfl ?_;refine nbS h (fun hb h=>?_) (fun hb h=>?_)
    ·obtain⟨⟨y52,⟨⟨w53K,w53L,w53M,w53N⟩,⟨w53O,w53P,w53Q,w53R⟩,w53J,w53I⟩⟩,hy52,h⟩:=zAc h;refine⟨_,_,⟨_,_,_,_,_,_,_,_,_,_,_,_,_,_,_,_,_,_,_,_,_,_,_,hy52,rfl,rfl,rfl,rfl⟩,?_⟩;cases h;exact(Le.rnq [(0,0),(8,2)] _ _ _)
    cases h;exact(Le.rnq [(0,0),(4,2)] _ _ _)
   refine zAj hle<|zAf rfl h (fun hb h=>?_) (fun hb h=>?_)
   ·refine yEW ?_;refine zAd ?_;cases h;replace h:some _=some _:=ho1;have hj0:=osi h;obtain⟨hv0,hw0⟩:=ap hj0;subst hv0;obtain⟨he1T,hr1T⟩:=ap hw0;obtain⟨he1U,hr1U⟩:=ap hr1T;obtain⟨he1Ae,he1Af⟩:=ap hr1U;obtain⟨he2T,he2U,he2Ae,he2Af⟩:=Nd.mk.inj he1T;subst he2T;subst he2U;subst he2Ae;subst he2Af;obtain⟨he3T,he3U,he3Ae,he3Af⟩:=Nd.mk.inj he1U;subst he3T;subst he3U;subst he3Ae;subst he3Af;subst he1Ae;subst he1Af;unfold zCf;exact⟨_,(Le.rnq [(0,0),(2,2)] [(4,nB false)] [(0,.box 68 (Zc x42 x43 x44 x45 x46 x47 x48 x49 x50)),(2,.row 40 5 ((List.map zAg) l51))] 3),rfl,rfl,rfl,rfl,rfl,rfl,trivial⟩
   refine zAe<|yEV ?_;refine⟨(k,x42,x43,x44,x45,x46,x47,x48,x49,x50,i64.wrap (x14+1),l51),h,(Le.rnq [(0,0),(2,2)] _ _ _),ax k⟩
  refine zAy ?_;cases h;exact⟨_,rfl,(Le.rnq [(0,0),(2,2)] _ _ _)⟩
 subst hz;obtain⟨x16,x17,x18,x19,x20,x21,x22,x23,x24,l25⟩:=z;replace h:=ho1;refine zAj hle<|yEW ?_;refine zAd ?_;have hj0:=osi h;obtain⟨hv0,hw0⟩:=ap hj0;subst hv0;obtain⟨he1T,hr1T⟩:=ap hw0;obtain⟨he1U,hr1U⟩:=ap hr1T;obtain⟨he1Ae,he1Af⟩:=ap hr1U;obtain⟨he2T,he2U,he2Ae,he2Af⟩:=Nd.mk.inj he1T;subst he2T;subst he2U;subst he2Ae;subst he2Af;obtain⟨he3T,he3U,he3Ae,he3Af⟩:=Nd.mk.inj he1U;subst he3T;subst he3U;subst he3Ae;subst he3Af;subst he1Ae;subst he1Af;unfold zCf;exact⟨_,(Le.rnq [(0,0),(2,2)] [(4,nB true)] [(0,.box 68 (Zc x16 x17 x18 x19 x20 x21 x22 x23 x24)),(2,.row 40 5 ((List.map zAg) l25))] 3),rfl,rfl,rfl,rfl,rfl,rfl,trivial⟩
def zJ7 (n:Nat) (xs:List AV) (os:List Ob) (x:AV) (os':List (Option Ob)):Prop:=∃ a0 y0,zDl n a0=some y0/\xs=[.orow 0]/\os=[.row 40 5 ((List.map zAg) a0)]/\x = .orow 1/\os'=[some (.row 40 5 ((List.map zAg) a0)),some (.row 40 5 ((List.map zAg) y0))]
def zGB:zAq:=zD8 (fun xs os x os'=>∃ n,zJ7 n xs os x os')
abbrev Zv a b:=([(0,.row 40 5 ((List.map zAg) a)),(1,.row 40 5 ((List.map zAg) b))]:List (Nat×Ob))
def zJX:PSound prog 31 zGB:=by
 have gok:=gk1 zJy<|gk0;refine PSound.withNil (osq tokW call31 func31 rfl ?_) _;rintro xs os x os' w0 G0 B0 ⟨n,o1,y0,h,rfl,rfl,rfl,rfl⟩ _;rw[zDl]at h;refine yCZ [2] [] rfl ?_;refine zAj (Le.rnq [(0,0)] [(0,.orow 0)] [(0,.row 40 5 ((List.map zAg) o1))] 1)<|yCZ [3] [] rfl ?_;show Tri ..;refine zAj (Le.rnq [(0,0),(1,1)] [(0,.orow 0),(3,.orow 1)] [(0,.row 40 5 ((List.map zAg) o1)),(1,.row 40 5 ((List.map zAg) []))] 2 (h2:=⟨rfl,⟨_,rfl,rfl⟩,rfl,⟨_,rfl,congrArg (Ob.row 40 5) zBm⟩,trivial⟩))<|zAa<|zAa ?_;refine zAb [] [7] rfl ?_;refine len1 (fun _=>rfl) o1 ?_;show Tri ..;obtain⟨l6,hl,h⟩:=zAc h;refine zAl ⟨ofL [(3,.orow 1)],ofH (Zv o1 l6),2⟩ ?_ (fun V' hle=>?_)
 ·refine zAk (zAv (X:=Nat×Int×(List zRc)) (fun y=>match y with | (k,x4,l5)=>⟨ofL [(3,.orow 1),(6,.orow 0),(7,nI (o1.length:Int)),(8,nI x4)],ofH (Zv o1 l5),2⟩) (fun y=>zA3 n o1 y.1 y.2.1 y.2.2=some l6) (fun y=>y.1) (n,0,[]) hl ?_ ?_)
  ·exact kY
  rintro⟨k,x4,l5⟩ h;cases k with
  | zero=>cases h
  | succ k=>
  replace h:zA3 n o1 (k+1) x4 l5=some l6:=h;rw[zA3]at h;refine yEW ?_;refine zAa<|zAf rfl h (fun hb h=>?_) (fun hb h=>?_)
  ·refine zAe<|zAa<|zAk<|yCZ [5] [] rfl ?_;obtain⟨⟨e7X,⟨e7Y,e7Z⟩,⟨e7Aa,e7Ab⟩⟩,he7,h⟩:=zAc h;refine And.intro (zGU (fun _=>rfl) he7).1 ?_;refine And.intro (zGU (fun _=>rfl) he7).2.2 ?_;refine⟨_,(zGU (fun _=>rfl) he7).2.1,?_⟩;refine zAj (Le.giveBox 2 (Zl e7X e7Y e7Z e7Aa e7Ab) rfl rfl)<|zAb [16] [15] rfl ?_;obtain⟨⟨y8X,⟨y8Y,y8Z⟩,⟨y8Aa,y8Ab⟩⟩,hy8,h⟩:=zAc h;refine⟨_,⟨_,_,_,hy8,rfl,rfl⟩,?_⟩;intro r9 hr9;obtain rfl:(List.map zAg) [(y8X,(y8Y,y8Z),(y8Aa,y8Ab))]=r9:=(hr9.trans zBm).symm;obtain⟨hq,h⟩:=zAs h;refine And.intro (lapE hq (rlen (fun _=>rfl) _) (rlen (fun _=>rfl) _)) ?_;show Tri ..;refine zAj (Le.rnq [(0,0),(3,1)] [(3,.orow 1),(6,.orow 0),(7,nI (o1.length:Int)),(8,nI x4)] [(0,.row 40 5 ((List.map zAg) o1)),(1,.row 40 5 ((List.map zAg) (l5++[(y8X,(y8Y,y8Z),(y8Aa,y8Ab))])))] 2 (h2:=⟨rfl,⟨_,rfl,rfl⟩,rfl,⟨_,rfl,congrArg (Ob.row 40 5) zBm⟩,trivial⟩)) ?_;refine yEV ?_;refine⟨(k,i64.wrap (x4+1),l5++[(y8X,(y8Y,y8Z),(y8Aa,y8Ab))]),h,(Le.rnq [(0,0),(1,1)] _ _ _),ax k⟩
  refine zAy ?_;exact jL
 refine zAj hle<|yEW ?_;refine zAd ?_;have hy:=osi h;subst hy;unfold zCf;exact⟨_,(Le.rnq [(0,0),(1,1)] [(2,.orow 1)] (Zv o1 l6) 2),rfl,rfl,rfl,rfl,rfl,rfl,trivial⟩
def zGR (n:Nat) (xs:List AV) (os:List Ob) (x:AV) (os':List (Option Ob)):Prop:=∃ (a0K:Int) (a0L:List UInt8) (a0M:Int) (a0N:List Nd) (a0O:Int) (a0P:List UInt8) (a0Q:Int) (a0R:List Nd) (a0J:List zRc) (a0I:Int) (y0:List zRc) (z0K:Int) (z0L:List UInt8) (z0M:Int) (z0N:List Nd) (z0O:Int) (z0P:List UInt8) (z0Q:Int) (z0R:List Nd) (z0J:List zRc) (z0I:Int),zBf n (Nd.mk a0K a0L a0M a0N,Nd.mk a0O a0P a0Q a0R,a0J,a0I)=some (y0,(Nd.mk z0K z0L z0M z0N,Nd.mk z0O z0P z0Q z0R,z0J,z0I))/\xs=[.op 0 0]/\os=[.box 68 (Zk a0K a0L a0M a0N a0O a0P a0Q a0R a0I),.row 40 5 ((List.map zAg) a0J)]/\x = .s (.sl 5 ((List.map zAg) y0))/\os'=[some (.box 68 (Zc z0K z0L z0M z0N z0O z0P z0Q z0R z0I)),none,some (.row 40 5 ((List.map zAg) z0J))]
def zD0:zAq:=zD8 (fun xs os x os'=>∃ n,zGR n xs os x os')
def zGA:PSound prog 9 zD0:=by
 have gok:=gk1 zJX<|gk0;refine PSound.withNil (osq tokW call9 func9 rfl ?_) _;rintro xs os x os' w0 G0 B0 ⟨n,o1K,o1L,o1M,o1N,o1O,o1P,o1Q,o1R,o1J,o1I,y0,z0K,z0L,z0M,z0N,z0O,z0P,z0Q,z0R,z0J,z0I,h,rfl,rfl,rfl,rfl⟩ _;rw[zBf]at h;refine yEW ?_;refine zAa<|yEW ?_;refine zAx rfl (fun h=>by cases h) (fun _=>?_);refine zAe<|yEW ?_;obtain⟨y2,hy2,h⟩:=zAc h;refine⟨_,_,⟨_,_,_,hy2,rfl,rfl,rfl,rfl⟩,?_⟩;refine zAd ?_;have hj0:=osi h;obtain⟨hv0,hw0⟩:=ap hj0;subst hv0;obtain⟨he1T,hr1T⟩:=ap hw0;obtain⟨he1U,hr1U⟩:=ap hr1T;obtain⟨he1Ae,he1Af⟩:=ap hr1U;obtain⟨he2T,he2U,he2Ae,he2Af⟩:=Nd.mk.inj he1T;subst he2T;subst he2U;subst he2Ae;subst he2Af;obtain⟨he3T,he3U,he3Ae,he3Af⟩:=Nd.mk.inj he1U;subst he3T;subst he3U;subst he3Ae;subst he3Af;subst he1Ae;subst he1Af;unfold zCf;exact⟨_,(Le.trans (Le.rnq [(0,0),(1,2),(2,3)] [(2,.orow 3)] [(0,.box 68 (Zc o1K o1L o1M o1N o1O o1P o1Q o1R o1I)),(2,.row 40 5 ((List.map zAg) o1J)),(3,.row 40 5 ((List.map zAg) y2))] 4) (Le.giveRow 3 rfl)),rfl,rfl,rfl,rfl,rfl,rfl,trivial⟩
def zHS (n:Nat) (xs:List AV) (os:List Ob) (x:AV) (os':List (Option Ob)):Prop:=∃ (a0K:Int) (a0L:List UInt8) (a0M:Int) (a0N:List Nd) (a0O:Int) (a0P:List UInt8) (a0Q:Int) (a0R:List Nd) (a0J:List zRc) (a0I:Int) (y0:zCu) (y1:Int) (z0K:Int) (z0L:List UInt8) (z0M:Int) (z0N:List Nd) (z0O:Int) (z0P:List UInt8) (z0Q:Int) (z0R:List Nd) (z0J:List zRc) (z0I:Int),zBz n (Nd.mk a0K a0L a0M a0N,Nd.mk a0O a0P a0Q a0R,a0J,a0I)=some (y0,y1,(Nd.mk z0K z0L z0M z0N,Nd.mk z0O z0P z0Q z0R,z0J,z0I))/\xs=[.op 0 0]/\os=[.box 68 (Zk a0K a0L a0M a0N a0O a0P a0Q a0R a0I),.row 40 5 ((List.map zAg) a0J)]/\x = .tup [.agg ((zAz y0).map .s),nI y1]/\os'=[some (.box 68 (Zc z0K z0L z0M z0N z0O z0P z0Q z0R z0I)),none,some (.row 40 5 ((List.map zAg) z0J))]
def zEV:zAq:=zD8 (fun xs os x os'=>∃ n,zHS n xs os x os')
def jQ {P:Prop} (h:P:=by exact⟨_,(Le.rnq [(0,0),(1,2),(2,3)] [(2,.op 3 0),(3,nI y6)] [(0,.box 68 (Zc o1K o1L o1M o1N o1O o1P o1Q o1R o1I)),(2,.row 40 5 ((List.map zAg) o1J)),(3,.box 38 [.nl 1,.nl 1])] 4),rfl,rfl,rfl,rfl,rfl,rfl,trivial⟩):P:=h
def jR {P:Prop} (h:P:=by exact⟨_,(Le.rnq [(0,0),(1,2),(2,3)] [(2,.op 3 0),(3,nI 8)] [(0,.box 68 (Zc o1K o1L o1M o1N o1O o1P o1Q o1R o1I)),(2,.row 40 5 ((List.map zAg) o1J)),(3,.box 38 [.nl 1,.nl 1])] 4),rfl,rfl,rfl,rfl,rfl,rfl,trivial⟩):P:=h
def zHG:PSound prog 19 zEV:=by
 have gok:=gk1 zLp<|gk1 zFF<|gk1 zG1<|gk0;refine PSound.withNil (osq tokW call19 func19 rfl ?_) _;rintro xs os x os' w0 G0 B0 ⟨n,o1K,o1L,o1M,o1N,o1O,o1P,o1Q,o1R,o1J,o1I,y0,y1,z0K,z0L,z0M,z0N,z0O,z0P,z0Q,z0R,z0J,z0I,h,rfl,rfl,rfl,rfl⟩ _;rw[zBz]at h;refine yCZ [2] [] rfl ?_;refine zAa<|yEW ?_;refine zAx rfl (fun h=>by cases h) (fun _=>?_);refine zAe<|zAa<|yEW ?_;refine zAf rfl h (fun hb h=>?_) (fun hb h=>?_)
 ·refine yEW ?_;refine zAd ?_;have hj0:=osi h;obtain⟨hv0,hw0⟩:=ap hj0;subst hv0;obtain⟨hv1,hw1⟩:=ap hw0;subst hv1;obtain⟨he1T,hr1T⟩:=ap hw1;obtain⟨he1U,hr1U⟩:=ap hr1T;obtain⟨he1Ae,he1Af⟩:=ap hr1U;obtain⟨he2T,he2U,he2Ae,he2Af⟩:=Nd.mk.inj he1T;subst he2T;subst he2U;subst he2Ae;subst he2Af;obtain⟨he3T,he3U,he3Ae,he3Af⟩:=Nd.mk.inj he1U;subst he3T;subst he3U;subst he3Ae;subst he3Af;subst he1Ae;subst he1Af;unfold zCf;exact jR
 refine zAe<|zAa<|zCE [4] [] [3,7,9,10,11,12] [3,7,9,10] rfl (by decide +kernel) ?_;obtain⟨⟨e2X,⟨e2Y,e2Z⟩,⟨e2Aa,e2Ab⟩⟩,he2,h⟩:=zAc h;refine And.intro (zGU (fun _=>rfl) he2).1 ?_;refine And.intro (zGU (fun _=>rfl) he2).2.2 ?_;refine⟨_,(zGU (fun _=>rfl) he2).2.1,?_⟩;refine zAj (Le.giveBox 3 (Zl e2X e2Y e2Z e2Aa e2Ab) rfl rfl)<|zAa<|zCE [5] [] [3,12,13] [3] rfl (by decide +kernel) ?_;obtain⟨y3,hy3,h⟩:=zAc h;refine⟨_,⟨_,_,_,hy3,rfl,rfl⟩,?_⟩;obtain⟨⟨⟨y4A,y4C,y4D,y4B⟩,y5,y6⟩,hy4,h⟩:=zAc h;refine⟨_,⟨_,_,_,_,_,_,hy4,rfl,rfl⟩,?_⟩;refine zAj (Le.giveBox 4 (nN y4A y4C y4D y4B) rfl rfl)<|zAa<|yEW ?_;refine zAf rfl h (fun hb h=>?_) (fun hb h=>?_)
 ·refine yEW ?_;refine zAd ?_;have hj0:=osi h;obtain⟨hv0,hw0⟩:=ap hj0;subst hv0;obtain⟨hv1,hw1⟩:=ap hw0;subst hv1;obtain⟨he1T,hr1T⟩:=ap hw1;obtain⟨he1U,hr1U⟩:=ap hr1T;obtain⟨he1Ae,he1Af⟩:=ap hr1U;obtain⟨he2T,he2U,he2Ae,he2Af⟩:=Nd.mk.inj he1T;subst he2T;subst he2U;subst he2Ae;subst he2Af;obtain⟨he3T,he3U,he3Ae,he3Af⟩:=Nd.mk.inj he1U;subst he3T;subst he3U;subst he3Ae;subst he3Af;subst he1Ae;subst he1Af;unfold zCf;exact jQ
 refine zAe<|zAa<|zAw [] [] [6,10,13] rfl (by decide +kernel) ?_;refine yEW ?_;obtain⟨⟨y7G,y7S⟩,hy7,h⟩:=zAc h;refine⟨_,⟨_,_,hy7,rfl,rfl⟩,?_⟩;refine zAd ?_;have hj0:=osi h;obtain⟨hv0,hw0⟩:=ap hj0;subst hv0;obtain⟨hv1,hw1⟩:=ap hw0;subst hv1;obtain⟨he1T,hr1T⟩:=ap hw1;obtain⟨he1U,hr1U⟩:=ap hr1T;obtain⟨he1Ae,he1Af⟩:=ap hr1U;obtain⟨he2T,he2U,he2Ae,he2Af⟩:=Nd.mk.inj he1T;subst he2T;subst he2U;subst he2Ae;subst he2Af;obtain⟨he3T,he3U,he3Ae,he3Af⟩:=Nd.mk.inj he1U;subst he3T;subst he3U;subst he3Ae;subst he3Af;subst he1Ae;subst he1Af;unfold zCf;exact⟨_,(Le.rnq [(0,0),(1,2),(2,3)] [(2,.op 3 0),(3,nI 0)] [(0,.box 68 [nI o1K,nS o1L,nI o1M,.s (.sl 4 (Nd.encs o1N)),nI y4A,nS y4C,nI y4D,.s (.sl 4 (Nd.encs y4B)),.orow 2,.s (.int .i64 (i64.wrap (o1I - 1)))]),(2,.row 40 5 ((List.map zAg) o1J)),(3,.box 38 (Zt y7G y7S))] 4),rfl,rfl,rfl,rfl,rfl,rfl,trivial⟩
variable (n:Nat) (xs:List AV) (r:Ret)
def zWe:Prop:=∃ a0 a1 y0,zF0 n a0 a1=some y0/\xs=(Zt a0 a1)/\r = .val (nB y0)
def zPl:zAq:=pG zWe
def zUG:PSound prog 45 zPl:=by
 have gok:=gk1 zJB<|gk0;refine psq tokW call45 func45 rfl ?_;rintro xs r w0 G0 ⟨n,a1,b2,y0,h,rfl,rfl⟩ _;rw[zF0]at h;refine yEW ?_;refine yEW ?_;obtain⟨y3,hy3,h⟩:=zAc h;refine⟨_,⟨_,_,_,_,hy3,rfl,rfl⟩,?_⟩;exact jN
def zMA:Prop:=∃ a0 a1 y0,zCi n a0 a1=some y0/\xs=[.agg ((zAz a0).map .s),.agg ((zAz a1).map .s)]/\r = .val (nB y0)
def zHO:zAq:=pG zMA
def zLu:PSound prog 20 zHO:=by
 have gok:=gk1 zUG<|gk0;refine psq tokW call20 func20 rfl ?_;rintro xs r w0 G0 ⟨n,⟨a1G,a1S⟩,⟨b2G,b2S⟩,y0,h,rfl,rfl⟩ _;rw[zCi]at h;refine yEW ?_;refine zAa ?_;obtain⟨x3,hj,h⟩:=zAc h;refine pL [(4,nB x3)] ?_ (fun V' hle=>?_)
 ·replace h:=hj;refine zAb [] [10] rfl ?_;obtain⟨y4,hy4,h⟩:=zAc h;refine⟨_,⟨_,_,_,_,hy4,rfl,rfl⟩,?_⟩;refine nbS h (fun hb h=>?_) (fun hb h=>?_)
  ·obtain⟨y5,hy5,h⟩:=zAc h;refine⟨_,⟨_,_,_,_,hy5,rfl,rfl⟩,?_⟩;exact jD
  exact jD
 exact jP
def zHQ (n:Nat) (xs:List AV) (os:List Ob) (x:AV) (os':List (Option Ob)):Prop:=∃ (a0K:Int) (a0L:List UInt8) (a0M:Int) (a0N:List Nd) (a0O:Int) (a0P:List UInt8) (a0Q:Int) (a0R:List Nd) (a0J:List zRc) (a0I:Int) (y0:zCu) (y1:Int) (z0K:Int) (z0L:List UInt8) (z0M:Int) (z0N:List Nd) (z0O:Int) (z0P:List UInt8) (z0Q:Int) (z0R:List Nd) (z0J:List zRc) (z0I:Int),zBy n (Nd.mk a0K a0L a0M a0N,Nd.mk a0O a0P a0Q a0R,a0J,a0I)=some (y0,y1,(Nd.mk z0K z0L z0M z0N,Nd.mk z0O z0P z0Q z0R,z0J,z0I))/\xs=[.op 0 0]/\os=[.box 68 (Zk a0K a0L a0M a0N a0O a0P a0Q a0R a0I),.row 40 5 ((List.map zAg) a0J)]/\x = .tup [.agg ((zAz y0).map .s),nI y1]/\os'=[some (.box 68 (Zc z0K z0L z0M z0N z0O z0P z0Q z0R z0I)),none,some (.row 40 5 ((List.map zAg) z0J))]
def zEU:zAq:=zD8 (fun xs os x os'=>∃ n,zHQ n xs os x os')
def zHF:PSound prog 21 zEU:=by
 have gok:=gk1 zFF<|gk1 zG1<|gk0;refine PSound.withNil (osq tokW call21 func21 rfl ?_) _;rintro xs os x os' w0 G0 B0 ⟨n,o1K,o1L,o1M,o1N,o1O,o1P,o1Q,o1R,o1J,o1I,y0,y1,z0K,z0L,z0M,z0N,z0O,z0P,z0Q,z0R,z0J,z0I,h,rfl,rfl,rfl,rfl⟩ _;rw[zBy]at h;refine yCZ [2] [] rfl ?_;refine zAa<|yEW ?_;refine zAx rfl (fun h=>by cases h) (fun _=>?_);refine zAe<|zAa<|zAa<|zAw [] [19] [3,7,8] rfl (by decide +kernel) ?_;refine len1 (fun _=>rfl) o1J ?_;refine zAf rfl h (fun hb h=>?_) (fun hb h=>?_)
 ·refine yEW ?_;refine zAd ?_;have hj0:=osi h;obtain⟨hv0,hw0⟩:=ap hj0;subst hv0;obtain⟨hv1,hw1⟩:=ap hw0;subst hv1;obtain⟨he1T,hr1T⟩:=ap hw1;obtain⟨he1U,hr1U⟩:=ap hr1T;obtain⟨he1Ae,he1Af⟩:=ap hr1U;obtain⟨he2T,he2U,he2Ae,he2Af⟩:=Nd.mk.inj he1T;subst he2T;subst he2U;subst he2Ae;subst he2Af;obtain⟨he3T,he3U,he3Ae,he3Af⟩:=Nd.mk.inj he1U;subst he3T;subst he3U;subst he3Ae;subst he3Af;subst he1Ae;subst he1Af;unfold zCf;exact jR
 refine zAe<|zAa<|zCE [4] [] [3,7,8,9,10,11] [3,7,8,9] rfl (by decide +kernel) ?_;obtain⟨⟨e3X,⟨e3Y,e3Z⟩,⟨e3Aa,e3Ab⟩⟩,he3,h⟩:=zAc h;refine And.intro (zGU (fun _=>rfl) he3).1 ?_;refine And.intro (zGU (fun _=>rfl) he3).2.2 ?_;refine⟨_,(zGU (fun _=>rfl) he3).2.1,?_⟩;refine zAj (Le.giveBox 3 (Zl e3X e3Y e3Z e3Aa e3Ab) rfl rfl)<|zAa<|zCE [5] [] [3,11,12] [3] rfl (by decide +kernel) ?_;obtain⟨⟨⟨y4A,y4C,y4D,y4B⟩,y5,y6⟩,hy4,h⟩:=zAc h;refine⟨_,⟨_,_,_,_,_,_,hy4,rfl,rfl⟩,?_⟩;refine zAj (Le.giveBox 4 (nN y4A y4C y4D y4B) rfl rfl)<|zAa<|yEW ?_;refine zAf rfl h (fun hb h=>?_) (fun hb h=>?_)
 ·refine yEW ?_;refine zAd ?_;have hj0:=osi h;obtain⟨hv0,hw0⟩:=ap hj0;subst hv0;obtain⟨hv1,hw1⟩:=ap hw0;subst hv1;obtain⟨he1T,hr1T⟩:=ap hw1;obtain⟨he1U,hr1U⟩:=ap hr1T;obtain⟨he1Ae,he1Af⟩:=ap hr1U;obtain⟨he2T,he2U,he2Ae,he2Af⟩:=Nd.mk.inj he1T;subst he2T;subst he2U;subst he2Ae;subst he2Af;obtain⟨he3T,he3U,he3Ae,he3Af⟩:=Nd.mk.inj he1U;subst he3T;subst he3U;subst he3Ae;subst he3Af;subst he1Ae;subst he1Af;unfold zCf;exact jQ
 refine zAe<|zAa<|zAw [] [] [6,10,13] rfl (by decide +kernel) ?_;refine yEW ?_;obtain⟨⟨y7G,y7S⟩,hy7,h⟩:=zAc h;refine⟨_,⟨_,_,hy7,rfl,rfl⟩,?_⟩;refine zAd ?_;have hj0:=osi h;obtain⟨hv0,hw0⟩:=ap hj0;subst hv0;obtain⟨hv1,hw1⟩:=ap hw0;subst hv1;obtain⟨he1T,hr1T⟩:=ap hw1;obtain⟨he1U,hr1U⟩:=ap hr1T;obtain⟨he1Ae,he1Af⟩:=ap hr1U;obtain⟨he2T,he2U,he2Ae,he2Af⟩:=Nd.mk.inj he1T;subst he2T;subst he2U;subst he2Ae;subst he2Af;obtain⟨he3T,he3U,he3Ae,he3Af⟩:=Nd.mk.inj he1U;subst he3T;subst he3U;subst he3Ae;subst he3Af;subst he1Ae;subst he1Af;unfold zCf;exact⟨_,(Le.rnq [(0,0),(1,2),(2,3)] [(2,.op 3 0),(3,nI 0)] [(0,.box 68 [nI o1K,nS o1L,nI o1M,.s (.sl 4 (Nd.encs o1N)),nI y4A,nS y4C,nI y4D,.s (.sl 4 (Nd.encs y4B)),.orow 2,.s (.int .i64 (i64.wrap (o1I+1)))]),(2,.row 40 5 ((List.map zAg) o1J)),(3,.box 38 (Zt y7G y7S))] 4),rfl,rfl,rfl,rfl,rfl,rfl,trivial⟩
def zNa:Prop:=∃ a0 a1 y0,zCL n a0 a1=some y0/\xs=[.agg ((Nd.enc a0).map .s),.s (.sl 7 ((List.map zAn) a1))]/\r = .val (nB y0)
def zNn:zAq:=pG zNa
abbrev Zd a b c d e f g h i j:=([(0,.box 68 [nI a,nS b,nI c,.s (.sl 4 (Nd.encs d)),nI e,nS f,nI g,.s (.sl 4 (Nd.encs h)),.orow 1,nI i]),(1,.row 40 5 ((List.map zAg) j))]:List (Nat×Ob))
def zML:PSound prog 4 zNn:=by
 have gok:=gk1 zO2<|gk1 zWZ<|gk1 zOV<|gk1 zN8<|gk1 zGA<|gk1 zEM<|gk1 zMH<|gk1 zLr<|gk1 zMh<|gk1 zHG<|gk1 zLu<|gk1 zHF<|gk0;refine psq tokW call4 func4 rfl ?_;rintro xs r w0 G0 ⟨n,⟨a1A,a1C,a1D,a1B⟩,a2,y0,h,rfl,rfl⟩ _;rw[zCL]at h;refine yEW ?_;refine zAa<|zAa ?_;obtain⟨x3,hj,h⟩:=zAc h;refine pL [(1,.s (.sl 7 ((List.map zAn) a2))),(2,pN a1A a1C a1D a1B),(27,nB x3)] ?_ (fun V' hle=>?_)
 ·replace h:=hj;refine zAb [] [22] rfl ?_;obtain⟨y4,hy4,h⟩:=zAc h;refine⟨_,⟨_,hy4,rfl,rfl⟩,?_⟩;refine nbS h (fun hb h=>?_) (fun hb h=>?_)
  ·exact jD
  obtain⟨y5,hy5,h⟩:=zAc h;refine⟨_,⟨_,_,_,_,hy5,rfl,rfl⟩,?_⟩;exact jD
 refine zAj hle<|zAf rfl h (fun hb h=>?_) (fun hb h=>?_)
 ·refine yEW ?_;obtain⟨y6,hy6,h⟩:=zAc h;refine⟨_,⟨_,hy6,rfl,rfl⟩,?_⟩;exact jN
 refine zAe<|yEW ?_;obtain⟨⟨y7,y8⟩,hy7,h⟩:=zAc h;cases y7 with
 | none =>
  obtain⟨hq,h⟩:=zAs h;subst hq;refine⟨_,_,⟨_,_,_,_,hy7,rfl,rfl,rfl,rfl⟩,?_⟩;refine zAj (Le.rnq [] [(1,.s (.sl 7 ((List.map zAn) a2))),(2,pN a1A a1C a1D a1B),(5,.s (.np)),(6,nI 1)] [] 0)<|zAa<|yEW ?_;refine zAx rfl (fun _=>?_) (fun h=>by cases h);exact gI
 | some w9=>
 obtain⟨⟨w9K,w9L,w9M,w9N⟩,⟨w9O,w9P,w9Q,w9R⟩,w9J,w9I⟩:=w9;obtain⟨hq,h⟩:=zAs h;subst hq;refine⟨_,_,⟨_,_,_,_,hy7,rfl,rfl,rfl,rfl⟩,?_⟩;refine zAj (Le.rnq [(0,0),(1,1)] [(1,.s (.sl 7 ((List.map zAn) a2))),(2,pN a1A a1C a1D a1B),(5,.op 0 0),(6,nI 0)] (Zd w9K w9L w9M w9N w9O w9P w9Q w9R w9I w9J) 2)<|zAa<|yEW ?_;show Tri ..;refine zAx rfl (fun h=>by cases h) (fun _=>?_);refine zAe<|zAa<|yEW ?_;obtain⟨⟨y10,⟨⟨w11K,w11L,w11M,w11N⟩,⟨w11O,w11P,w11Q,w11R⟩,w11J,w11I⟩⟩,hy10,h⟩:=zAc h;refine⟨_,_,⟨_,_,_,_,_,_,_,_,_,_,_,_,_,_,_,_,_,_,_,_,_,_,_,hy10,rfl,rfl,rfl,rfl⟩,?_⟩;refine zAj (Le.rnq [(0,0),(2,1)] [(2,pN a1A a1C a1D a1B),(5,.op 0 0),(39,nB (!y10))] (Zd w11K w11L w11M w11N w11O w11P w11Q w11R w11I w11J) 2)<|zAf rfl h (fun hb h=>?_) (fun hb h=>?_)
 ·exact gI
 refine zAe<|yCZ [8] [] rfl ?_;obtain⟨⟨y12,⟨⟨w13K,w13L,w13M,w13N⟩,⟨w13O,w13P,w13Q,w13R⟩,w13J,w13I⟩⟩,hy12,h⟩:=zAc h;refine⟨_,_,⟨_,_,_,_,_,_,_,_,_,_,_,_,_,_,_,_,_,_,_,_,_,_,hy12,rfl,rfl,rfl,rfl⟩,?_⟩;obtain⟨⟨⟨y14A,y14C,y14D,y14B⟩,⟨⟨w15K,w15L,w15M,w15N⟩,⟨w15O,w15P,w15Q,w15R⟩,w15J,w15I⟩⟩,hy14,h⟩:=zAc h;refine⟨_,_,⟨_,_,_,_,_,_,_,_,_,_,_,_,_,_,_,_,_,_,_,_,_,hy14,rfl,rfl,rfl,rfl⟩,?_⟩;refine zAj (Le.giveBox 4 (nN y14A y14C y14D y14B) rfl rfl)<|zAa<|yCZ [] [45] rfl ?_;refine len1 (fun _=>rfl) y12 ?_;show Tri ..;obtain⟨fl,hl,ho1⟩:=zAc h;refine zBN (fl:=fl) (fun z=>match z with | ⟨x29,x30,x31,x32,x33,x34,x35,x36,x37,l38⟩=>⟨ofL [(2,pN a1A a1C a1D a1B),(5,.op 0 0),(7,.s (.sl 5 ((List.map zAg) y12))),(8,pN y14A y14C y14D y14B)],ofH (Zd x29 x30 x31 x32 x33 x34 x35 x36 x37 l38),2⟩) ?_ (fun z V' hz hle=>?_)
 ·refine zAk (zAv (X:=Nat×Int×(List UInt8)×Int×(List Nd)×Int×(List UInt8)×Int×(List Nd)×Int×Int×(List zRc)) (fun y=>match y with | (k,x17,x18,x19,x20,x21,x22,x23,x24,x26,x27,l28)=>⟨ofL [(2,pN a1A a1C a1D a1B),(5,.op 0 0),(7,.s (.sl 5 ((List.map zAg) y12))),(8,pN y14A y14C y14D y14B),(9,nI x27)],ofH (Zd x17 x18 x19 x20 x21 x22 x23 x24 x26 l28),2⟩) (fun y=>zBt n y12 y.1 y.2.1 y.2.2.1 y.2.2.2.1 y.2.2.2.2.1 y.2.2.2.2.2.1 y.2.2.2.2.2.2.1 y.2.2.2.2.2.2.2.1 y.2.2.2.2.2.2.2.2.1 y.2.2.2.2.2.2.2.2.2.1 y.2.2.2.2.2.2.2.2.2.2.1 y.2.2.2.2.2.2.2.2.2.2.2=some fl) (fun y=>y.1) (n,w15K,w15L,w15M,w15N,w15O,w15P,w15Q,w15R,w15I,i64.wrap ((y12.length:Int) - 1),w15J) hl ?_ ?_)
  ·exact(Le.rnq [(0,0),(3,1)] _ _ _)
  rintro⟨k,x17,x18,x19,x20,x21,x22,x23,x24,x26,x27,l28⟩ h;cases k with
  | zero=>cases h
  | succ k=>
  replace h:zBt n y12 (k+1) x17 x18 x19 x20 x21 x22 x23 x24 x26 x27 l28=some fl:=h;rw[zBt]at h;refine zAa<|yEW ?_;refine zAf rfl h (fun hb h=>?_) (fun hb h=>?_)
  ·refine zAe<|zAa<|zAk<|yEW ?_;obtain⟨⟨⟨y39A,y39C,y39D,y39B⟩,⟨⟨w40K,w40L,w40M,w40N⟩,⟨w40O,w40P,w40Q,w40R⟩,w40J,w40I⟩⟩,hy39,h⟩:=zAc h;refine⟨_,_,⟨_,_,_,_,_,_,_,_,_,_,_,_,_,_,_,_,_,_,_,_,_,hy39,rfl,rfl,rfl,rfl⟩,?_⟩;obtain⟨⟨y41,y42⟩,hy41,h⟩:=zAc h;refine⟨_,⟨_,_,_,hy41,rfl,rfl⟩,?_⟩;show Tri ..;refine zAj (Le.rnq [(0,0),(2,1)] [(2,pN a1A a1C a1D a1B),(5,.op 0 0),(7,.s (.sl 5 ((List.map zAg) y12))),(8,pN y14A y14C y14D y14B),(9,nI x27),(10,nS y41),(11,nI y42)] (Zd w40K w40L w40M w40N w40O w40P w40Q w40R w40I w40J) 2) ?_;refine yCZ [12] [] rfl ?_;obtain⟨⟨⟨y43A,y43C,y43D,y43B⟩,y44,y45⟩,hy43,h⟩:=zAc h;refine⟨_,⟨_,_,_,_,_,hy43,rfl,rfl⟩,?_⟩;refine zAj (Le.giveBox 2 (nN y43A y43C y43D y43B) rfl rfl)<|zAa<|zAa ?_;obtain⟨⟨x46,x47,x48,x49,x50,x51,x52,x53,x54,x55,l56⟩,hj,h⟩:=zAc h;refine zAl ⟨ofL [(2,pN a1A a1C a1D a1B),(5,.op 0 0),(7,.s (.sl 5 ((List.map zAg) y12))),(8,pN y14A y14C y14D y14B),(9,nI x27),(75,nB x46)],ofH (Zd x47 x48 x49 x50 x51 x52 x53 x54 x55 l56),2⟩ ?_ (fun V' hle=>?_)
   ·replace h:=hj;refine zAw [] [65,69] [9] rfl (by decide +kernel) ?_;refine nbS h (fun hb h=>?_) (fun hb h=>?_)
    ·intro b hb;subst hb;exact jL
    refine nbS h (fun hb h=>?_) (fun hb h=>?_)
    ·exact jL
    obtain⟨⟨⟨y57A,y57C,y57D,y57B⟩,⟨⟨w58K,w58L,w58M,w58N⟩,⟨w58O,w58P,w58Q,w58R⟩,w58J,w58I⟩⟩,hy57,h⟩:=zAc h;refine⟨_,_,⟨_,_,_,_,_,_,_,_,_,_,_,_,_,_,_,_,_,_,_,_,_,hy57,rfl,rfl,rfl,rfl⟩,?_⟩;obtain⟨y59,hy59,h⟩:=zAc h;refine⟨_,⟨_,_,_,_,hy59,rfl,rfl⟩,?_⟩;cases h;exact(Le.rnq [(0,0),(3,1)] _ _ _)
   refine zAj hle<|zAf rfl h (fun hb h=>?_) (fun hb h=>?_)
   ·exact jE
   refine zAe<|yCZ [15] [] rfl ?_;obtain⟨⟨⟨y60G,y60S⟩,y61,⟨⟨w62K,w62L,w62M,w62N⟩,⟨w62O,w62P,w62Q,w62R⟩,w62J,w62I⟩⟩,hy60,h⟩:=zAc h;refine⟨_,_,⟨_,_,_,_,_,_,_,_,_,_,_,_,_,_,_,_,_,_,_,_,_,_,_,hy60,rfl,rfl,rfl,rfl⟩,?_⟩;refine zAj (Le.giveBox 3 [.sl 1 (iL y60G),.sl 1 (iL y60S)] rfl rfl)<|zAa ?_;obtain⟨x63,hj,h⟩:=zAc h;refine zAl ⟨ofL [(2,pN a1A a1C a1D a1B),(5,.op 0 0),(7,.s (.sl 5 ((List.map zAg) y12))),(8,pN y14A y14C y14D y14B),(9,nI x27),(92,nB x63)],ofH (Zd w62K w62L w62M w62N w62O w62P w62Q w62R w62I w62J),2⟩ ?_ (fun V' hle=>?_)
   ·replace h:=hj;refine zAw [] [83,87] [] rfl (by decide +kernel) ?_;refine nbS h (fun hb h=>?_) (fun hb h=>?_)
    ·exact kX
    obtain⟨⟨e64X,⟨e64Y,e64Z⟩,⟨e64Aa,e64Ab⟩⟩,he64,h⟩:=zAc h;refine at1 (Zl e64X e64Y e64Z e64Aa e64Ab) (fun _=>rfl) he64 ?_;obtain⟨y66,hy66,h⟩:=zAc h;refine⟨_,⟨_,_,_,_,hy66,rfl,rfl⟩,?_⟩;exact kX
   refine zAj hle<|zAf rfl h (fun hb h=>?_) (fun hb h=>?_)
   ·exact jE
   refine zAe<|yEV ?_;refine⟨(k,w62K,w62L,w62M,w62N,w62O,w62P,w62Q,w62R,w62I,i64.wrap (x27 - 1),w62J),h,(Le.rnq [(0,0),(1,1)] _ _ _),ax k⟩
  exact gJ
 subst hz;obtain⟨x29,x30,x31,x32,x33,x34,x35,x36,x37,l38⟩:=z;replace h:=ho1;refine zAj hle<|zAa<|zAa<|zAw [] [] [1] rfl (by decide +kernel) ?_;obtain⟨⟨⟨y67A,y67C,y67D,y67B⟩,⟨⟨w68K,w68L,w68M,w68N⟩,⟨w68O,w68P,w68Q,w68R⟩,w68J,w68I⟩⟩,hy67,h⟩:=zAc h;refine⟨_,_,⟨_,_,_,_,_,_,_,_,_,_,_,_,_,_,_,_,_,_,_,_,_,hy67,rfl,rfl,rfl,rfl⟩,?_⟩;obtain⟨y69,hy69,h⟩:=zAc h;refine⟨_,⟨_,_,_,_,hy69,rfl,rfl⟩,?_⟩;refine zAj (Le.rnq [(0,0),(2,1)] [(5,.op 0 0),(7,.s (.sl 5 ((List.map zAg) y12))),(8,pN y14A y14C y14D y14B),(97,nB (!y69))] (Zd w68K w68L w68M w68N w68O w68P w68Q w68R w68I w68J) 2)<|zAf rfl h (fun hb h=>?_) (fun hb h=>?_)
 ·exact gI
 refine zAe<|zAa<|yCZ [] [99] rfl ?_;refine len1 (fun _=>rfl) y12 ?_;show Tri ..;obtain⟨fl,hl,ho1⟩:=zAc h;refine zBN (fl:=fl) (fun z=>match z with | ⟨x83,x84,x85,x86,x87,x88,x89,x90,x91,l92⟩=>⟨ofL [(5,.op 0 0),(8,pN y14A y14C y14D y14B)],ofH (Zd x83 x84 x85 x86 x87 x88 x89 x90 x91 l92),2⟩) ?_ (fun z V' hz hle=>?_)
 ·refine zAk (zAv (X:=Nat×Int×(List UInt8)×Int×(List Nd)×Int×(List UInt8)×Int×(List Nd)×Int×Int×(List zRc)) (fun y=>match y with | (k,x71,x72,x73,x74,x75,x76,x77,x78,x80,x81,l82)=>⟨ofL [(5,.op 0 0),(7,.s (.sl 5 ((List.map zAg) y12))),(8,pN y14A y14C y14D y14B),(99,nI (y12.length:Int)),(100,nI x81)],ofH (Zd x71 x72 x73 x74 x75 x76 x77 x78 x80 l82),2⟩) (fun y=>zBu n y12 y.1 y.2.1 y.2.2.1 y.2.2.2.1 y.2.2.2.2.1 y.2.2.2.2.2.1 y.2.2.2.2.2.2.1 y.2.2.2.2.2.2.2.1 y.2.2.2.2.2.2.2.2.1 y.2.2.2.2.2.2.2.2.2.1 y.2.2.2.2.2.2.2.2.2.2.1 y.2.2.2.2.2.2.2.2.2.2.2=some fl) (fun y=>y.1) (n,w68K,w68L,w68M,w68N,w68O,w68P,w68Q,w68R,w68I,0,w68J) hl ?_ ?_)
  ·exact kY
  rintro⟨k,x71,x72,x73,x74,x75,x76,x77,x78,x80,x81,l82⟩ h;cases k with
  | zero=>cases h
  | succ k=>
  replace h:zBu n y12 (k+1) x71 x72 x73 x74 x75 x76 x77 x78 x80 x81 l82=some fl:=h;rw[zBu]at h;refine yEW ?_;refine zAa<|zAf rfl h (fun hb h=>?_) (fun hb h=>?_)
  ·refine zAe<|zAa<|zAk<|yEW ?_;refine yCZ [18] [] rfl ?_;obtain⟨⟨⟨y93G,y93S⟩,y94,⟨⟨w95K,w95L,w95M,w95N⟩,⟨w95O,w95P,w95Q,w95R⟩,w95J,w95I⟩⟩,hy93,h⟩:=zAc h;refine⟨_,_,⟨_,_,_,_,_,_,_,_,_,_,_,_,_,_,_,_,_,_,_,_,_,_,_,hy93,rfl,rfl,rfl,rfl⟩,?_⟩;refine zAj (Le.giveBox 3 [.sl 1 (iL y93G),.sl 1 (iL y93S)] rfl rfl)<|zAa ?_;obtain⟨x96,hj,h⟩:=zAc h;refine zAl ⟨ofL [(5,.op 0 0),(7,.s (.sl 5 ((List.map zAg) y12))),(8,pN y14A y14C y14D y14B),(99,nI (y12.length:Int)),(100,nI x81),(119,nB x96)],ofH (Zd w95K w95L w95M w95N w95O w95P w95Q w95R w95I w95J),2⟩ ?_ (fun V' hle=>?_)
   ·replace h:=hj;refine zAw [] [110,114] [] rfl (by decide +kernel) ?_;refine nbS h (fun hb h=>?_) (fun hb h=>?_)
    ·exact kX
    obtain⟨⟨e97X,⟨e97Y,e97Z⟩,⟨e97Aa,e97Ab⟩⟩,he97,h⟩:=zAc h;refine at1 (Zl e97X e97Y e97Z e97Aa e97Ab) (fun _=>rfl) he97 ?_;obtain⟨y99,hy99,h⟩:=zAc h;refine⟨_,⟨_,_,_,_,hy99,rfl,rfl⟩,?_⟩;exact kX
   refine zAj hle<|zAf rfl h (fun hb h=>?_) (fun hb h=>?_)
   ·exact jE
   refine zAe<|yEV ?_;refine⟨(k,w95K,w95L,w95M,w95N,w95O,w95P,w95Q,w95R,w95I,i64.wrap (x81+1),w95J),h,(Le.rnq [(0,0),(1,1)] _ _ _),ax k⟩
  exact gJ
 subst hz;obtain⟨x83,x84,x85,x86,x87,x88,x89,x90,x91,l92⟩:=z;replace h:=ho1;refine zAj hle<|zAa<|zAw [] [] [1] rfl (by decide +kernel) ?_;obtain⟨⟨⟨y100A,y100C,y100D,y100B⟩,⟨⟨w101K,w101L,w101M,w101N⟩,⟨w101O,w101P,w101Q,w101R⟩,w101J,w101I⟩⟩,hy100,h⟩:=zAc h;refine⟨_,_,⟨_,_,_,_,_,_,_,_,_,_,_,_,_,_,_,_,_,_,_,_,_,hy100,rfl,rfl,rfl,rfl⟩,?_⟩;obtain⟨y102,hy102,h⟩:=zAc h;refine⟨_,⟨_,_,_,_,hy102,rfl,rfl⟩,?_⟩;refine zAj (Le.rnq [] [(4,nB y102)] [] 0)<|zAd ?_;exact jB
def Nd.text:Nd->List UInt8 | .mk _ t _ _=>t
def Nd.cols:Nd->Int | .mk _ _ c _=>c
theorem Nd.cnt_kids:∀ x:Nd,x.cnt=Nd.cnts x.kids+1
 | .mk _ _ _ _=>rfl
def yDd (x y:Nd):Bool:=(x.kind == y.kind)&&(((x.kids.length:Int) == (y.kids.length:Int))&&(x.cols == y.cols))
def rowD (P:Nd->Nd->Nat) (x:Nd) (f:List Nd->Nat):List Nd->Nat
 | []=>x.cnt+f []
 | y::ys=>if yDd x y then min (min (x.cnt+f (y::ys)) (y.cnt+rowD P x f ys)) (P x y+f ys) else min (x.cnt+f (y::ys)) (y.cnt+rowD P x f ys)
def TD (P:Nd->Nd->Nat):List Nd->List Nd->Nat
 | []=>Nd.cnts
 | x::xs=>rowD P x (TD P xs)
def sumD (f:List Nd->List Nd->Nat):List Nd->List Nd->Nat
 | u::us,v::vs=>f u.kids v.kids+sumD f us vs
 | _,_=>0
def txt (x y:Nd):Nat:=bif x.text == y.text then 0 else 1
def PD:Nat->Nd->Nd->Nat
 | 0,_,_=>0
 | n+1,x,y=>txt x y+sumD (TD (PD n)) x.kids y.kids
def D (x y:Nd):Nat:=PD x.cnt x y
def zGj {k:Int}:∀ {a:List Nd}{v:Nd},zBL k a=true->v∈a->zCI v=true/\((v.kind == 1) == (k == 1))=false
 | u::a,v,h,hm=>by
  simp only[zBL,af,Bool.not_eq_true']at h;rcases aR.1 hm with rfl | hm
  ·exact⟨h.1.2,h.1.1⟩
  ·exact zGj h.2 hm
def zVr {u:Nd} (h:zCI u=true) (hk:u.kind=1):u = .mk 1 [] 0 u.kids/\zBL 1 u.kids=true:=by
 obtain⟨k,t,c,ks⟩:=u;simp only[Nd.kind]at hk;subst hk;simp only[zCI,af]at h;obtain⟨⟨h1,h2⟩,h3⟩:=h;have h1':(t == [])=true:=h1;have h2':((c == 0)&&decide ((ks.length:Int)<=200))=true:=h2;simp only[af]at h2';rw[aE h1',aE h2'.1];exact⟨rfl,h3⟩
def zTA {F:Nd->Nd->Option Bool}{a b:List Nd} (hF:∀ u∈a,∀ v∈b,∃ y,F u v=some y/\(y=true↔u=v)) (hl:a.length=b.length) (hb:a.length<=1073741824) :
  ∀ (q i:Nat),a.length - i<q->i<=a.length->∃ y,zBr F a b q (i:Int)=some (if y then .go () else .ret false)/\(y=true↔a.drop i=b.drop i)
 | 0,_,h,_=>by omega
 | q+1,i,hq,hi=>by
  unfold zBr;by_cases h:i<a.length
  ·have h':i<b.length :=(by omega);rw[zAD (aK.2 h),ag,zAH h,zAH h'];obtain⟨y,f1,f2⟩:=hF _ (aV h) _ (aV h');have d1:=aO h;have d2:=aO h';rcases e:a[i] with ⟨x1,x2,x3,x4⟩
   rcases e':b[i] with ⟨y1,y2,y3,y4⟩
   rw[e,e']at f1 f2;rw[e]at d1;rw[e']at d2;simp only[obs,f1];cases y with
   | false =>
    refine⟨false,rfl,⟨(fun h=>by cases h),fun h=>?_⟩⟩;rw[d1,d2]at h;exact f2.2 (List.cons.inj h).1
   | true =>
    simp only[aB,ae];rw[zAG (by omega)];obtain⟨z,g1,g2⟩:=zTA hF hl hb q (i+1) (by omega) (by omega);refine⟨z,g1,?_⟩;rw[d1,d2,g2,f2.1 rfl];simp
  ·rw[zAC (by omega),ae];obtain rfl:i=a.length :=(by omega);refine⟨true,rfl,?_⟩;rw[drop_length,hl,drop_length];simp
def zMP:∀ N:Nat,(∀ x y:Nd,2 * x.cnt<N->x.cnt<=67108864->∃ r,zBi N x y=some r/\(r=true↔x=y)) /\
  (∀ a b:List Nd,2 * Nd.cnts a+1<N->Nd.cnts a<=67108864->∃ r,zCa N a b=some r/\(r=true↔a=b))
 | 0=>⟨fun _ _ h _=>by omega,fun _ _ h _=>by omega⟩
 | n+1=>by
  obtain⟨ih1,ih2⟩:=zMP n;refine⟨fun x y h hx=>?_,fun a b h ha=>?_⟩
  ·obtain⟨a,b,c,d⟩:=x;obtain⟨a',b',c',d'⟩:=y;simp only[Nd.cnt]at h hx;obtain⟨r,h1,h2⟩:=ih2 d d' (by omega) (by omega);unfold zBi;simp only[h1,obs];cases e1:a == a' with
   | false=>exact⟨false,rfl,⟨(fun h=>by cases h),fun h=>by cases h; simp at e1⟩⟩
   | true=>
   cases e2:b == b' with
   | false=>exact⟨false,rfl,⟨(fun h=>by cases h),fun h=>by cases h; simp at e2⟩⟩
   | true=>
   cases e3:c == c' with
   | false=>exact⟨false,rfl,⟨(fun h=>by cases h),fun h=>by cases h; simp at e3⟩⟩
   | true=>
   refine⟨r,rfl,h2.trans ⟨fun h=>?_,fun h=>by cases h; rfl⟩⟩;rw[aE e1,aE e2,aE e3,h]
  unfold zCa;have l1:=Nd.cnts_len a;by_cases hl:a.length=b.length
  ·obtain⟨y,g1,g2⟩:=zTA (F:=zBi n) (a:=a) (b:=b) (fun u hu v _=>ih1 u v (by have:=Nd.cnts_mem hu; omega) (by have:=Nd.cnts_mem hu; omega)) hl (by omega) n 0 (by omega) (by omega);rw[show((0:Nat):Int)=0 from rfl]at g1;rw[hl,bne_self_eq_false,ae,g1];refine⟨y,by cases y <;> rfl,g2⟩
  have:((a.length:Int) != (b.length:Int))=true:=by
   unfold bne;rw[zBA (by omega)]; rfl
  rw[this];exact⟨false,rfl,⟨(fun h=>by cases h),fun h=>absurd (congrArg List.length h) hl⟩⟩
def zLc {x:Nd} (h:zAu x=true):x = .mk 1 [] 0 x.kids/\zBL 1 x.kids=true:=by
 unfold zAu at h;simp only[af]at h;exact zVr h.2.1 (aE h.1)
inductive Fd:Nd->List Int->Nd->Prop
 | nil (t:Nd):Fd t [] t
 | step {k:Int} {tx:List UInt8} {c:Int} {ks:List Nd} {i:Nat} {k2:Int} {tx2:List UInt8} {c2:Int} {ks2:List Nd} {s:Nat} {z r:Nd} {p:List Int}
   (hi:ks[i]? = some (.mk k2 tx2 c2 ks2)) (hs:ks2[s]? = some z) (h:Fd z p r):Fd (.mk k tx c ks) ((i:Int)::(s:Int)::p) r
variable {p:List Int}{r t:Nd}
def Fd.find  (h:Fd t p r):zBn t p=some r:=by
 induction h with
 | nil t=>rw[zBn]
 | @step k tx c ks i k2 tx2 c2 ks2 s z r p hi hs _ ih=>
 have hl:=(aa.1 hi).1;have hl2:=(aa.1 hs).1;rw[zBn,if_pos ⟨by omega,show(i:Int)<(ks.length:Int) by omega⟩];simp only[Nd.kids,aL,au,hi,hs,aF];rw[if_pos ⟨by omega,show(s:Int)<(ks2.length:Int) by omega⟩];exact ih
def Fd.of:∀ (N:Nat) (p:List Int) (t r:Nd),p.length<N->zBn t p=some r->Fd t p r
 | 0,p,_,_,h,_=>by omega
 | N+1,[],t,r,_,h=>by
  rw[zBn]at h;cases h;exact .nil t
 | N+1,[_],t,r,_,h=>by
  rw[zBn]at h;cases h
 | N+1,i::s::p,.mk k tx c ks,r,hN,h=>by
  rw[zBn]at h;split at h
  ·rename_i hi;replace hi:0<=i/\i<ks.length:=hi;obtain⟨i,rfl⟩:=aM hi.1;have hx:ks[i]? = some ks[i]:=ac (by omega);generalize ks[i]=x at hx;obtain⟨k2,tx2,c2,ks2⟩:=x;simp only[Nd.kids,aL,au,hx,aF]at h;split at h
   ·rename_i hs;obtain⟨s,rfl⟩:=aM hs.1;have hz:ks2[s]? = some ks2[s]:=ac (by omega);generalize ks2[s]=z at hz;rw[au,hz,aF]at h;exact .step hx hz (Fd.of N p z r (by simp only[ah]at hN; omega) h)
   ·cases h
  ·cases h
def zZ5  (h:zBn t p=some r):Fd t p r:=Fd.of _ p t r (ax _) h
def zIJ:putL t [] r=r:=by cases t; rw[putL]; intros; contradiction
variable {z:Nd}{i:Nat}{ks:List Nd}{tx:List UInt8}
def zFb {k:Int}{c:Int}{k2:Int}{tx2:List UInt8}{c2:Int}{ks2:List Nd}{s:Nat} (hi:ks[i]? = some (.mk k2 tx2 c2 ks2)) (hs:ks2[s]? = some z) :
  putL (.mk k tx c ks) ((i:Int)::(s:Int)::p) r = .mk k tx c (ks.set i (.mk k2 tx2 c2 (ks2.set s (putL z p r)))):=by
 rw[putL,au,hi];dsimp only;rw[Int.toNat_natCast,hs]
def zJ5:∀ {ks:List Nd}{i:Nat}{x y:Nd},ks[i]? = some x->Nd.ws (ks.set i y)+x.w=Nd.ws ks+y.w
 | [],i,x,y,h=>by simp at h
 | v::ks,0,x,y,h=>by
  obtain rfl:v=x :=(by simpa using h);simp only[set_cons_zero,Nd.ws]; omega
 | v::ks,i+1,x,y,h=>by
  have:=zJ5 (ks:=ks) (i:=i) (x:=x) (y:=y) (by simpa using h);simp only[set_cons_succ,Nd.ws]; omega
def Fd.w  (h:Fd t p z) (r:Nd):(putL t p r).w+z.w=t.w+r.w:=by
 induction h with
 | nil t=>rw[zIJ]; omega
 | @step k tx c ks i k2 tx2 c2 ks2 s z r' p hi hs _ ih=>
 rw[zFb hi hs];have h1:=zJ5 (y:=.mk k2 tx2 c2 (ks2.set s (putL z p r))) hi;have h2:=zJ5 (y:=putL z p r) hs;simp only[Nd.w]at *;omega
variable {α:Type}
def zTC {l:List α}{x y:α} (h:l[i]? = some x):(l.set i y)[i]? = some y:=by
 rw[br,if_pos rfl,if_pos (aa.1 h).1]
def zM0 {l:List α}{x y:α} (h:l[i]? = some x):(l.set i y).set i x=l:=by
 refine ext_getElem? fun j=>?_
 rw[set_set,br];split
 ·rename_i e;subst e;rw[if_pos (aa.1 h).1,h]
 rfl
def Fd.put  (h:Fd t p z) (r:Nd):Fd (putL t p r) p r:=by
 induction h with
 | nil t=>rw[zIJ]; exact .nil r
 | @step k tx c ks i k2 tx2 c2 ks2 s z r' p hi hs _ ih=>
 rw[zFb hi hs];exact .step (zTC hi) (zTC hs) ih
def Fd.put_put  (h:Fd t p z) (r q:Nd):putL (putL t p r) p q=putL t p q:=by
 induction h with
 | nil t=>simp only[zIJ]
 | @step k tx c ks i k2 tx2 c2 ks2 s z r' p hi hs _ ih=>
 rw[zFb hi hs,zFb hi hs,zFb (zTC hi) (zTC hs),ih];simp only[set_set]
def Fd.put_self  (h:Fd t p z):putL t p z=t:=by
 induction h with
 | nil t=>rw[zIJ]
 | @step k tx c ks i k2 tx2 c2 ks2 s z r' p hi hs _ ih=>
 rw[zFb hi hs,ih];have e1:ks2.set s z=ks2:=by
  have:=zM0 (y:=z) hs;rwa [set_set]at this
 have e2:ks.set i (.mk k2 tx2 c2 ks2)=ks:=by
  have:=zM0 (y:=.mk k2 tx2 c2 ks2) hi;rwa [set_set]at this
 rw[e1,e2]
def Fd.back  (h:Fd t p z) (r:Nd):putL (putL t p r) p z=t:=by rw[h.put_put,h.put_self]
def zIf:∀ {ks:List Nd}{v:Nd},v∈ks->v.dep<=Nd.deps ks
 | u::ks,v,h=>by
  simp only[Nd.deps];rcases aR.1 h with rfl | h
  ·exact Nat.le_max_left _ _
  ·exact bc (zIf h) (Nat.le_max_right _ _)
def zKF {k:Int}{c:Int} (h:zCI (.mk k tx c ks)=true):zBL k ks=true:=by
 simp only[zCI,af]at h;exact h.2
def Fd.form  (h:Fd t p z) (hf:zCI t=true) (hk:t.kind=1):zCI z=true/\z.kind=1:=by
 induction h with
 | nil t=>exact⟨hf,hk⟩
 | @step k tx c ks i k2 tx2 c2 ks2 s z r' p hi hs _ ih=>
 obtain⟨f1,f2⟩:=zGj (zKF hf) (av hi);obtain⟨g1,g2⟩:=zGj (zKF f1) (av hs);have hk:k=1:=hk;subst hk;have f3:(k2 == 1)=false :=(by simpa [Nd.kind] using f2);rw[f3]at g2;refine ih g1 ?_;cases e:z.kind == 1 with
 | true=>exact aE e
 | false=>rw[e]at g2; cases g2
def Fd.small  (h:Fd t p z):z.cnt<=t.cnt/\z.dep<=t.dep/\z.w<=t.w:=by
 induction h with
 | nil t=>exact⟨ar _,ar _,ar _⟩
 | @step k tx c ks i k2 tx2 c2 ks2 s z r' p hi hs _ ih=>
 have m1:=Nd.w_mem (av hi);have m2:=Nd.w_mem (av hs);have n1:=Nd.cnts_mem (av hi);have n2:=Nd.cnts_mem (av hs);have d1:=zIf (av hi);have d2:=zIf (av hs);simp only[Nd.w,Nd.cnt,Nd.dep]at *;omega
def Fd.valid  (h:Fd t p z) (hv:zAu t=true):zAu z=true:=by
 unfold zAu at hv ⊢;simp only[af,ay]at hv ⊢;obtain⟨h1,h2,h3,h4⟩:=hv;obtain⟨f1,f2⟩:=h.form h2 (aE h1);obtain⟨s1,s2,_⟩:=h.small;exact⟨by rw[f2]; rfl,f1,by omega,by omega⟩
mutual
def posI:List Int->Nat->List Nd->List (List Int)
 | p,i,[]=>[p++[(i:Int)]]
 | p,i,x::xs=>(p++[(i:Int)])::(posX p i x++posI p (i+1) xs)
def posX:List Int->Nat->Nd->List (List Int)
 | p,i,.mk _ _ _ ks=>posS p i 0 ks
def posS:List Int->Nat->Nat->List Nd->List (List Int)
 | _,_,_,[]=>[]
 | p,i,s,u::us=>posU (p++[(i:Int),(s:Int)]) u++posS p i (s+1) us
def posU:List Int->Nd->List (List Int)
 | p,.mk _ _ _ ks=>posI p 0 ks
end
def inP:List Nd->List Int->Prop
 | l,[o]=>0<=o/\o<=(l.length:Int)
 | l,i::s::r=>0<=i/\∃ x,l[i.toNat]? = some x/\0<=s/\∃ u,x.kids[s.toNat]? = some u/\inP u.kids r
 | _,[]=>False
variable {l:List Nd}
def zNQ {o:Int}:inP l [o]↔0<=o/\o<=(l.length:Int):=Iff.rfl
def zE2 {i s:Int}{r:List Int}:inP l (i::s::r)↔0<=i/\∃ x,l[i.toNat]? = some x/\0<=s/\∃ u,x.kids[s.toNat]? = some u/\inP u.kids r:=by
 cases r <;> rfl
mutual
def zVF:∀ (p:List Int) (i:Nat) (xs:List Nd) (q:List Int),q∈posI p i xs↔∃ a r,q=p++a::r/\(i:Int)<=a/\inP xs ((a - i)::r)
 | p,i,[],q=>by
  rw[posI,mem_singleton]
  constructor
  ·rintro rfl
   exact⟨i,[],rfl,Int.le_refl _,by rw[Int.sub_self]; exact⟨Int.le_refl _,Int.le_refl _⟩⟩
  ·rintro⟨a,r,rfl,h1,h2⟩
   cases r with
   | nil =>
    have:=zNQ.1 h2
    have e:a=i:=by simp at this; omega
    rw[e]
   | cons s r =>
    obtain⟨_,x,h,_⟩:=zE2.1 h2
    simp at h
 | p,i,x::xs,q=>by
  rw[posI,mem_cons,mem_append,yAn p i x q,zVF p (i+1) xs q]
  constructor
  ·rintro(rfl | ⟨s,r,rfl,h0,u,h1,h2⟩ | ⟨a,r,rfl,h1,h2⟩)
   ·exact⟨i,[],rfl,Int.le_refl _,by rw[Int.sub_self]; exact⟨Int.le_refl _,by simp; omega⟩⟩
   ·refine⟨i,s::r,by simp,Int.le_refl _,?_⟩
    rw[Int.sub_self]
    exact zE2.2 ⟨Int.le_refl _,x,rfl,h0,u,h1,h2⟩
   ·refine⟨a,r,rfl,by omega,?_⟩
    have e:a - (i:Int)=(a - ((i+1:Nat):Int))+1:=by omega
    rw[e]
    cases r with
    | nil =>
     have:=zNQ.1 h2
     exact⟨by omega,by simp; omega⟩
    | cons s r =>
     obtain⟨g0,y,g1,g2⟩:=zE2.1 h2
     refine zE2.2 ⟨by omega,y,?_,g2⟩
     rw[show(a - ((i+1:Nat):Int)+1).toNat=(a - ((i+1:Nat):Int)).toNat+1 by omega]
     simpa using g1
  ·rintro⟨a,r,rfl,h1,h2⟩
   by_cases ha:a=i
   ·subst ha
    rw[Int.sub_self]at h2
    cases r with
    | nil=>exact .inl rfl
    | cons s r =>
     obtain⟨g0,y,g1,g2,u,g3,g4⟩:=zE2.1 h2
     obtain rfl:x=y:=by simpa using g1
     exact .inr (.inl ⟨s,r,by simp,g2,u,g3,g4⟩)
   ·refine .inr (.inr ⟨a,r,rfl,by omega,?_⟩)
    have e:a - (i:Int)=(a - ((i+1:Nat):Int))+1:=by omega
    rw[e]at h2
    cases r with
    | nil =>
     have:=zNQ.1 h2
     exact⟨by omega,by simp at this; omega⟩
    | cons s r =>
     obtain⟨g0,y,g1,g2⟩:=zE2.1 h2
     refine zE2.2 ⟨by omega,y,?_,g2⟩
     rw[show(a - ((i+1:Nat):Int)+1).toNat=(a - ((i+1:Nat):Int)).toNat+1 by omega]at g1
     simpa using g1
def yAn:∀ (p:List Int) (i:Nat) (x:Nd) (q:List Int),q∈posX p i x↔∃ s r,q=p++[(i:Int)]++s::r/\0<=s/\∃ u,x.kids[s.toNat]? = some u/\inP u.kids r
 | p,i,.mk k t c ks,q=>by
  rw[posX,zVG p i 0 ks q]
  constructor
  ·rintro⟨s,r,h1,h2,u,h3,h4⟩
   exact⟨s,r,h1,by omega,u,by simpa [Nd.kids] using h3,h4⟩
  ·rintro⟨s,r,h1,h2,u,h3,h4⟩
   exact⟨s,r,h1,by omega,u,by simpa [Nd.kids] using h3,h4⟩
def zVG:∀ (p:List Int) (i s:Nat) (us:List Nd) (q:List Int),q∈posS p i s us↔∃ b r,q=p++[(i:Int)]++b::r/\(s:Int)<=b/\∃ u,us[(b - s).toNat]? = some u/\inP u.kids r
 | p,i,s,[],q=>by
  rw[posS]
  constructor
  ·intro h; cases h
  ·rintro⟨b,r,_,_,u,h,_⟩; simp at h
 | p,i,s,u::us,q=>by
  rw[posS,mem_append,zVH (p++[(i:Int),(s:Int)]) u q,zVG p i (s+1) us q]
  constructor
  ·rintro(⟨r,rfl,h⟩ | ⟨b,r,rfl,h1,v,h2,h3⟩)
   ·exact⟨s,r,by simp,Int.le_refl _,u,by rw[Int.sub_self]; rfl,h⟩
   ·refine⟨b,r,rfl,by omega,v,?_,h3⟩
    rw[show(b - (s:Int)).toNat=(b - ((s+1:Nat):Int)).toNat+1 by omega]
    simpa using h2
  ·rintro⟨b,r,rfl,h1,v,h2,h3⟩
   by_cases hb:b=s
   ·subst hb
    rw[Int.sub_self]at h2
    obtain rfl:u=v:=by simpa using h2
    exact .inl ⟨r,by simp,h3⟩
   ·refine .inr ⟨b,r,rfl,by omega,v,?_,h3⟩
    rw[show(b - (s:Int)).toNat=(b - ((s+1:Nat):Int)).toNat+1 by omega]at h2
    simpa using h2
def zVH:∀ (p:List Int) (u:Nd) (q:List Int),q∈posU p u↔∃ r,q=p++r/\inP u.kids r
 | p,.mk k t c ks,q=>by
  rw[posU,zVF p 0 ks q]
  constructor
  ·rintro⟨a,r,rfl,h1,h2⟩
   exact⟨a::r,rfl,by simpa [Nd.kids] using h2⟩
  ·rintro⟨r,rfl,h⟩
   cases r with
   | nil=>exact h.elim
   | cons a r =>
    refine⟨a,r,rfl,?_,by simpa [Nd.kids] using h⟩
    cases r with
    | nil=>exact(zNQ.1 h).1
    | cons s r=>exact(zE2.1 h).1
end
def posT (t:Nd):List (List Int):=posU [] t
def zKP (t:Nd) (q:List Int):q∈posT t↔inP t.kids q:=by
 unfold posT;rw[zVH];constructor
 ·rintro⟨r,rfl,h⟩; exact h
 intro h; exact⟨q,rfl,h⟩
mutual
def zRi:∀ (p:List Int) (i:Nat) (xs:List Nd),(posI p i xs).length<=Nd.cnts xs+1
 | p,i,[]=>by rw[posI]; simp
 | p,i,x::xs=>by
  have h1:=yAC p i x
  have h2:=zRi p (i+1) xs
  rw[posI]
  simp only[ah,am,Nd.cnts]
  omega
def yAC:∀ (p:List Int) (i:Nat) (x:Nd),(posX p i x).length+1<=x.cnt
 | p,i,.mk k t c ks=>by
  have h:=zVS p i 0 ks
  rw[posX]
  simp only[Nd.cnt]
  omega
def zVS:∀ (p:List Int) (i s:Nat) (us:List Nd),(posS p i s us).length<=Nd.cnts us
 | p,i,s,[]=>by rw[posS]; simp
 | p,i,s,u::us=>by
  have h1:=zVT (p++[(i:Int),(s:Int)]) u
  have h2:=zVS p i (s+1) us
  rw[posS]
  simp only[am,Nd.cnts]
  omega
def zVT:∀ (p:List Int) (u:Nd),(posU p u).length<=u.cnt
 | p,.mk k t c ks=>by
  have h:=zRi p 0 ks
  rw[posU]
  simp only[Nd.cnt]
  omega
end
def yAB (t:Nd):(posT t).length<=t.cnt:=zVT [] t
def zX9:∀ (q:List Int) (l:List Nd),inP l q->q.length<=2 * Nd.deps l+1
 | [],_,h=>h.elim
 | [_],_,_=>by simp
 | i::s::r,l,h=>by
  obtain⟨_,x,h1,_,u,h2,h3⟩:=zE2.1 h;have ih:=zX9 r u.kids h3;have d1:=zIf (av h1);have d2:=zIf (av h2);have e1:x.dep=Nd.deps x.kids+1 :=(by cases x; rfl);have e2:u.dep=Nd.deps u.kids+1 :=(by cases u; rfl);simp only[ah];omega
def hd (l:List UInt8) (s:List UInt8):Prop:=∀ b r,l=b::r->b∈s
def zPP {F:Nd->Nd->Option Bool}{a b:List Nd} (hF:∀ u∈a,∀ v∈b,∃ y,F u v=some y/\(y=true↔u=v)) (hl:a.length=b.length) (hb:a.length<=1073741824) :
  ∀ (q i:Nat),a.length - i<q->i<=a.length->∃ y,zAF F a b q (i:Int)=some (if y then .go () else .ret false)/\(y=true↔a.drop i=b.drop i)
 | 0,_,h,_=>by omega
 | q+1,i,hq,hi=>by
  unfold zAF;by_cases h:i<a.length
  ·have h':i<b.length :=(by omega);rw[zAD (aK.2 h),ag,zAH h,zAH h'];obtain⟨y,f1,f2⟩:=hF _ (aV h) _ (aV h');have d1:=aO h;have d2:=aO h';rcases e:a[i] with ⟨x1,x2,x3,x4⟩
   rcases e':b[i] with ⟨y1,y2,y3,y4⟩
   rw[e,e']at f1 f2;rw[e]at d1;rw[e']at d2;simp only[obs,f1];cases y with
   | false =>
    refine⟨false,rfl,⟨(fun h=>by cases h),fun h=>?_⟩⟩;rw[d1,d2]at h;exact f2.2 (List.cons.inj h).1
   | true =>
    simp only[aB,ae];rw[zAG (by omega)];obtain⟨z,g1,g2⟩:=zPP hF hl hb q (i+1) (by omega) (by omega);refine⟨z,g1,?_⟩;rw[d1,d2,g2,f2.1 rfl];simp
  ·rw[zAC (by omega),ae];obtain rfl:i=a.length :=(by omega);refine⟨true,rfl,?_⟩;rw[drop_length,hl,drop_length];simp
def zHC:∀ N:Nat,(∀ x y:Nd,2 * x.cnt<N->x.cnt<=67108864->∃ r,zBY N x y=some r/\(r=true↔x=y)) /\
  (∀ a b:List Nd,2 * Nd.cnts a+1<N->Nd.cnts a<=67108864->∃ r,zAP N a b=some r/\(r=true↔a=b))
 | 0=>⟨fun _ _ h _=>by omega,fun _ _ h _=>by omega⟩
 | n+1=>by
  obtain⟨ih1,ih2⟩:=zHC n;refine⟨fun x y h hx=>?_,fun a b h ha=>?_⟩
  ·obtain⟨a,b,c,d⟩:=x;obtain⟨a',b',c',d'⟩:=y;simp only[Nd.cnt]at h hx;obtain⟨r,h1,h2⟩:=ih2 d d' (by omega) (by omega);unfold zBY;simp only[h1,obs];cases e1:a == a' with
   | false=>exact⟨false,rfl,⟨(fun h=>by cases h),fun h=>by cases h; simp at e1⟩⟩
   | true=>
   cases e2:b == b' with
   | false=>exact⟨false,rfl,⟨(fun h=>by cases h),fun h=>by cases h; simp at e2⟩⟩
   | true=>
   cases e3:c == c' with
   | false=>exact⟨false,rfl,⟨(fun h=>by cases h),fun h=>by cases h; simp at e3⟩⟩
   | true=>
   refine⟨r,rfl,h2.trans ⟨fun h=>?_,fun h=>by cases h; rfl⟩⟩;rw[aE e1,aE e2,aE e3,h]
  unfold zAP;have l1:=Nd.cnts_len a;by_cases hl:a.length=b.length
  ·obtain⟨y,g1,g2⟩:=zPP (F:=zBY n) (a:=a) (b:=b) (fun u hu v _=>ih1 u v (by have:=Nd.cnts_mem hu; omega) (by have:=Nd.cnts_mem hu; omega)) hl (by omega) n 0 (by omega) (by omega);rw[show((0:Nat):Int)=0 from rfl]at g1;rw[hl,bne_self_eq_false,ae,g1];refine⟨y,by cases y <;> rfl,g2⟩
  have:((a.length:Int) != (b.length:Int))=true:=by
   unfold bne;rw[zBA (by omega)]; rfl
  rw[this];exact⟨false,rfl,⟨(fun h=>by cases h),fun h=>absurd (congrArg List.length h) hl⟩⟩
variable {p:List Int}{n:Nd}
def zMc {i s:Int} (h:¬ (0<=i/\i<n.kids.length)):zBn n (i::s::p)=none:=by rw[zBn,if_neg h]
def zMd {x:Nd}{i:Nat}{s:Int} (hx:n.kids[i]? = some x) (h:¬ (0<=s/\s<x.kids.length)):zBn n ((i:Int)::s::p)=none:=by
 have hl:=(aa.1 hx).1;rw[zBn,if_pos ⟨by omega,by omega⟩];simp only[aL,au,hx,aF];rw[if_neg h]
def zNL {x z:Nd}{i s:Nat} (hx:n.kids[i]? = some x) (hz:x.kids[s]? = some z):zBn n ((i:Int)::(s:Int)::p)=zBn z p:=by
 have hl:=(aa.1 hx).1;have hl2:=(aa.1 hz).1;rw[zBn,if_pos ⟨by omega,by omega⟩];simp only[aL,au,hx,hz,aF];rw[if_pos ⟨by omega,by omega⟩]
def zUb {α:Type}{l:List α}{i:Int} (h0:0<=i) (h1:i<(l.length:Int)):∃ p:Nat,i=(p:Int)/\∃ h:p<l.length,at? l i=some l[p]:=by
 obtain⟨p,rfl⟩:=aM h0;exact⟨p,rfl,by omega,zAH (by omega)⟩
def zPA:∀ (k:Nat) (t:Nd) (path:List Int),path.length<k ->
  (zBn t path=none/\∃ r,zBX k t.kind t.text t.cols t.kids path=some (.ret (r,false))) ∨
  (zBn t path=none/\∃ (r:Nd) (p:List Int),p ≠ []/\zBX k t.kind t.text t.cols t.kids path=some (.go (p,r.kind,r.text,r.cols,r.kids))) ∨
  ∃ r,zBn t path=some r/\zBX k t.kind t.text t.cols t.kids path=some (.go ([],r.kind,r.text,r.cols,r.kids))
 | 0,_,_,h=>by omega
 | k+1,t,path,h=>by
  unfold zBX;match path,h with
  | [],h=>exact .inr (.inr ⟨t,rfl,rfl⟩)
  | [x],h=>exact .inr (.inl ⟨rfl,t,[x],by simp,rfl⟩)
  | x::y::p,h =>
   have e0:at? (x::y::p) (0:Int)=some x:=rfl;have e1:at? (x::y::p) (1:Int)=some y:=rfl;have e2:(((x::y::p).take (((x::y::p).length:Int)).toNat).drop (2:Int).toNat)=p:=by
    rw[au,take_length]; rfl
   rw[zAD (by simp only[ah]; omega),ag];simp only[e0,e1,obs,e2];by_cases h1:x<0
   ·rw[zAD h1]; exact .inl ⟨zMc (fun h=>by omega),_,rfl⟩
   rw[zAC h1];by_cases h2:(t.kids.length:Int)<=x
   ·rw[zAD h2]; exact .inl ⟨zMc (fun h=>by omega),_,rfl⟩
   rw[zAC h2];obtain⟨i,rfl,hi,hg⟩:=zUb (l:=t.kids) (i:=x) (by omega) (by omega);rw[hg];have hgi:t.kids[i]? = some t.kids[i]:=ac hi;generalize t.kids[i]=e at hgi;obtain⟨x1,x2,x3,x4⟩:=e;simp only[ae,obs];by_cases h3:y<0
   ·rw[zAD h3]; exact .inl ⟨zMd hgi (fun h=>by omega),_,rfl⟩
   rw[zAC h3];by_cases h4:(x4.length:Int)<=y
   ·rw[zAD h4]; exact .inl ⟨zMd hgi (fun h=>by have:y<x4.length:=h.2; omega),_,rfl⟩
   rw[zAC h4];obtain⟨j,rfl,hj,hg2⟩:=zUb (l:=x4) (i:=y) (by omega) (by omega);rw[hg2];have hgj:x4[j]? = some x4[j]:=ac hj;generalize x4[j]=f at hgj;obtain⟨y1,y2,y3,y4⟩:=f;simp only[ae,obs];rw[zA5 ⟨by omega,by simp only[ah]; omega,by omega⟩];rw[zNL hgi hgj];exact zPA k (.mk y1 y2 y3 y4) p (by simp only[ah]at h; omega)
def zUO (n:Nat) (t:Nd) (path:List Int) (h:path.length<n):∃ r ok,zHh n t path=some (r,ok)/\zBn t path=bif ok then some r else none:=by
 obtain⟨a,b,c,d⟩:=t;unfold zHh;dsimp only;rcases zPA n (.mk a b c d) path h with ⟨h0,r,h1⟩ | ⟨h0,r,p,hp,h1⟩ | ⟨r,h0,h1⟩
 ·simp only[Nd.kind,Nd.text,Nd.cols,Nd.kids]at h1;rw[h1];exact⟨r,false,rfl,h0⟩
 ·obtain⟨r1,r2,r3,r4⟩:=r;simp only[Nd.kind,Nd.text,Nd.cols,Nd.kids]at h1;rw[h1];refine⟨.mk r1 r2 r3 r4,false,?_,h0⟩;have:((p.length:Int) == 0)=false:=aw.2 fun e=>hp (eq_nil_of_length_eq_zero (by omega))
  simp only[obs,this]
 obtain⟨r1,r2,r3,r4⟩:=r;simp only[Nd.kind,Nd.text,Nd.cols,Nd.kids]at h1;rw[h1];exact⟨.mk r1 r2 r3 r4,true,rfl,h0⟩
def rowS (t:Nd) (p:List Int):Nd×Int:=if zAu t=true then (match zBn t p with | some r=>(r,0) | none=>(zCv,8)) else (zCv,1)
def zIj:∀ (N:Nat) (p:List Int) (t r:Nd),p.length<N->zBn t p=some r->r.w<=t.w/\r.cnt<=t.cnt
 | 0,p,_,_,h,_=>by omega
 | N+1,[],t,r,_,h=>by
  rw[zBn]at h;cases h;exact⟨ar _,ar _⟩
 | N+1,[_],t,r,_,h=>by
  rw[zBn]at h;cases h
 | N+1,i::s::p,.mk k tx c ks,r,hN,h=>by
  rw[zBn]at h;split at h
  ·rename_i hi;replace hi:0<=i/\i<ks.length:=hi;have hi0:i.toNat<ks.length :=(by omega);have hx:ks[i.toNat]? = some ks[i.toNat]:=ac hi0;generalize ks[i.toNat]=x at hx;obtain⟨k2,tx2,c2,ks2⟩:=x;simp only[Nd.kids,aL,hx,aF]at h;split at h
   ·rename_i hs;have hs0:s.toNat<ks2.length :=(by omega);have hz:ks2[s.toNat]? = some ks2[s.toNat]:=ac hs0;generalize ks2[s.toNat]=z at hz;rw[hz,aF]at h;obtain⟨q1,q2⟩:=zIj N p z r (by simp only[ah]at hN; omega) h;have m1:=Nd.w_mem (av hx);have m2:=Nd.w_mem (av hz);have n1:=Nd.cnts_mem (av hx);have n2:=Nd.cnts_mem (av hz);simp only[Nd.w,Nd.cnt]at m1 m2 n1 n2 ⊢;omega
   ·cases h
  ·cases h
def zI4 (n:Nat) (t:Nd) (p:List Int) (hp:p.length<n) (hv:zAM n t=some (zAu t)):zFv n t p=some (rowS t p):=by
 obtain⟨r,ok,h1,h2⟩:=zUO n t p hp;obtain⟨k,tx,c,ks⟩:=t;unfold zFv rowS;dsimp only;rw[hv];simp only[obs];cases hb:zAu (.mk k tx c ks) with
 | false=>rfl
 | true=>
 rw[h1,h2];obtain⟨r1,r2,r3,r4⟩:=r;cases ok <;> rfl
def zGV {t:Nd} (h:t.cnt<=1000000000):zAS t=some t:=zA5 h
def zUv (n:Nat) (t:Nd) (p:List Int) (hv:zAZ n t=some (zAu t)) (hc:t.cnt<=1000000000):zHg n t p=some (rowS t p):=by
 unfold zHg rowS;rw[hv];simp only[obs];split
 ·cases hf:zBn t p with
  | none=>rfl
  | some r=>have:=(zIj _ p t r (ax _) hf).2;simp only[zGV (bc this hc),obs]
 rfl
def zUl (t:Nd) (p:List Int) (i:Int):Nd×Int:=if zAu t=true then (match zBn t p with | some r=>if 0<=i/\i<r.kids.length then (r.kids.getD i.toNat r,0) else (zCv,2) | none=>(zCv,8)) else (zCv,1)
def zOe (n:Nat) (t:Nd) (p:List Int) (i:Int) (hp:p.length<n) (hv:zAM n t=some (zAu t)):zFZ n t p i=some (zUl t p i):=by
 have hr:=zI4 n t p hp hv;obtain⟨k,tx,c,ks⟩:=t;unfold zFZ;dsimp only;rw[hr];unfold rowS zUl;split
 ·cases hf:zBn (.mk k tx c ks) p with
  | none=>rfl
  | some r=>
  obtain⟨k2,tx2,c2,ks2⟩:=r;simp only[obs,show((0:Int) != 0)=false from rfl,ae];by_cases h1:i<0
  ·rw[zAD h1,if_neg (fun h=>by omega)]; rfl
  rw[zAC h1];by_cases h2:(ks2.length:Int)<=i
  ·rw[zAD h2,if_neg (fun h=>by have:i<(ks2.length:Int):=h.2; omega)]; rfl
  rw[zAC h2,if_pos ⟨by omega,show i<(ks2.length:Int) by omega⟩];obtain⟨j,rfl,hj,hg⟩:=zUb (l:=ks2) (i:=i) (by omega) (by omega);have hgg:(Nd.mk k2 tx2 c2 ks2).kids.getD ((j:Int)).toNat (Nd.mk k2 tx2 c2 ks2)=ks2[j]:=by
   show ks2.getD ((j:Int)).toNat _=_;rw[aL,au,ac hj,aF]
  rw[hgg];simp only[ae,obs];rw[hg];generalize ks2[j]=z;cases z; rfl
 rfl
def zNx {α:Type}{l:List α}{i:Nat}{x:α} (h:l[i]? = some x):at? l (i:Int)=some x:=by
 have hl:=(aa.1 h).1;rw[zAH hl,← ac hl,h]
def zEQ {k:Int}{tx:List UInt8}{c:Int}{ks:List Nd}{i:Nat}{x y:Nd} (hi:ks[i]? = some y) (hl:ks.length<=4294967296):zBg (.mk k tx c ks) (i:Int) x=some (.mk k tx c (ks.set i x)):=by
 obtain⟨x1,x2,x3,x4⟩:=x;obtain⟨y1,y2,y3,y4⟩:=y;unfold zBg;dsimp only;rw[zA5 (by simpa using hl),zNx hi];simp only[obs,au]
def zU8 (t:Nd) (p:List Int) (r:Nd):Nd×Int:=if zAu t=true then (match zBn t p with
 | some _=>if zAu r=true then (if zAu (putL t p r)=true then (putL t p r,0) else (zCv,6)) else (zCv,4)
 | none=>(zCv,8)) else (zCv,1)
def zS6 (n:Nat) (t:Nd) (p:List Int) (r:Nd) (hv:zAZ n t=some (zAu t)) (hr:zAZ n r=some (zAu r)) (hp:∀ z,Fd t p z->zAZ n (putL t p r)=some (zAu (putL t p r))) (hc:t.cnt<=1000000000) (hcr:r.cnt<=1000000000) :
  zE4 n t p r=some (zU8 t p r):=by
 unfold zE4 zU8;rw[hv,zGV hc,hr,zGV hcr];simp only[obs];split
 ·cases hf:zBn t p with
  | none=>rfl
  | some z=>
  dsimp only;rw[hp z (zZ5 hf)];simp only[obs];split
  ·split <;> rfl
  rfl
 rfl
def yBn {t z r:Nd}{p:List Int} (hv:zAu t=true) (h:zBn t p=some z) (hr:zAu r=true) (hp:zAu (putL t p r)=true):zU8 t p r=(putL t p r,0):=by unfold zU8; rw[if_pos hv,h]; dsimp only; rw[if_pos hr,if_pos hp]
abbrev Op8:=Int×List Int×Int×Int×List Nd×Int×List UInt8×List UInt8
def Op8.nodes (o:Op8):List Nd:=o.2.2.2.2.1
variable {α:Type}
def take3  (l:List α){p q:Nat} (h:p<=q):(l.take p++(l.take q).drop p)++l.drop q=l:=by
 have:l.take p=(l.take q).take p :=(by rw[take_take,Nat.min_eq_left h]);rw[this,take_append_drop,take_append_drop]
def zTM (l by':List Nd){p q:Nat} (h:p<=q):Nd.ws ((l.take p++by')++l.drop q)+Nd.ws ((l.take q).drop p)=Nd.ws l+Nd.ws by':=by
 have:=congrArg Nd.ws (take3 l h);rw[Nd.ws_append,Nd.ws_append]at this ⊢
 omega
def zZd (l by':List Nd) (p q:Nat) (hp:p<=l.length) (hq:q<=l.length) (hl:l.length<=1073741824) (hb:by'.length<=1073741824) :
  zB0 l (p:Int) (q:Int) by'=some ((l.take p++by')++l.drop q):=by
 unfold zB0;dsimp only;have e1:(l.take (p:Int).toNat).drop (0:Int).toNat=l.take p :=(by simp);have e2:(l.take (l.length:Int).toNat).drop (q:Int).toNat=l.drop q :=(by simp);rw[e1,e2,zA5 ⟨by omega,by omega,by omega⟩,zA5 (by simp; omega),zA5 (by simp; omega),zA5 ⟨by omega,by omega,by omega⟩,zA5 (by simp; omega)]
def zT7 (t:Nd) (i:Nat) (v:Nd) (h:i<t.kids.length) (hl:t.kids.length<=1073741824):zBg t (i:Int) v=some (.mk t.kind t.text t.cols (t.kids.set i v)):=by
 obtain⟨a,b,c,d⟩:=t;obtain⟨a',b',c',d'⟩:=v;simp only[Nd.kids]at h hl;unfold zBg;simp only;rw[zA5 (by simp; omega),zAH h];rcases e:d[i] with ⟨x1,x2,x3,x4⟩
 simp only[obs,au,Nd.kind,Nd.text,Nd.cols,Nd.kids]
def zSK (t:Nd) (i:Nat) (l:List Nd) (h:i<t.kids.length) (hl:t.kids.length<=1073741824) (hl2:l.length<=1073741824):zDC t (i:Int) l=some (.mk t.kind t.text t.cols (t.kids.set i (.mk 1 [] 0 l))):=by
 have:=zT7 t i (.mk 1 [] 0 l) h hl;obtain⟨a,b,c,d⟩:=t;unfold zDC;simp only[zAU,obs];rw[zA5 (by simp; omega),this];rfl
def yBq {l:List α}{i:Int} (h0:0<=i) (h1:i<(l.length:Int)):∃ p:Nat,i=(p:Int)/\∃ h:p<l.length,at? l i=some l[p]:=by
 obtain⟨p,rfl⟩:=aM h0;exact⟨p,rfl,by omega,zAH (by omega)⟩
def zGN (t:Nd):t.w=t.text.length+Nd.ws t.kids+1:=by cases t; rfl
def yBM (l:List Nd){p q:Nat} (h:p<=q):Nd.ws ((l.take q).drop p)<=Nd.ws l:=by
 have:=zTM l [] h;simp only[Nd.ws]at this; omega
def zU1 (l:List Nd){p:Nat} (h:p<l.length):(l.take (p+1)).drop p=[l[p]]:=by
 rw[take_succ_eq_append_getElem h,drop_append_of_le_length (by simp; omega),drop_take];simp
def splS (l:List Nd) (p q:Nat) (b:List Nd):List Nd:=(l.take p++b)++l.drop q
def segS (l:List Nd) (p q:Nat):List Nd:=(l.take q).drop p
def rowN (l:List Nd):Nd:=.mk 1 [] 0 l
def zHT (v:Nd) (s:Nat) (l:List Nd):Nd:=.mk v.kind v.text v.cols (v.kids.set s (rowN l))
def zWJ (k:Int):Bool:=(k == 2)||((k == 3)||((k == 4)||((k == 10)||(k == 11))))
def zDS (k m:Int) (nodes:List Nd):Int:=if k=1 then 0 else if k=2 then nodes.length else if k=3 then m else 1
def zVe (nodes:List Nd) (slot:Int):Prop:=∃ (v:Nd) (s:Nat) (z:Nd),nodes=[v]/\slot=(s:Int)/\zAu (rowN [v])=true/\v.kids[s]? = some z/\z.kids=[]
def FormP:Op8->Prop
 | (k,_,_,m,nodes,slot,old,text) =>
  ((k=1∨k=2)/\nodes ≠ []/\zAu (rowN nodes)=true/\m=0/\slot=0/\old=[]/\text=[]) ∨
  ((k=3∨k=4)/\0<=m/\zVe nodes slot/\old=[]/\text=[]) ∨
  (k=5/\old ≠ text/\nodes=[]/\m=0/\slot=0)
inductive Chg (l:List Nd):Op8->List Nd->Int->Prop
 | range {k:Int} {row:List Int} {a m:Int} {nodes:List Nd} {slot:Int} {old text:List UInt8} (h:a<0∨(l.length:Int)<a∨(l.length:Int) - a<zDS k m nodes):Chg l (k,row,a,m,nodes,slot,old,text) [] 2
 | ins {row:List Int} {p:Nat} {m:Int} {nodes:List Nd} {slot:Int} {old text:List UInt8} (h:p<=l.length):Chg l (1,row,(p:Int),m,nodes,slot,old,text) (splS l p p nodes) 0
 | del {row:List Int} {p:Nat} {m:Int} {nodes:List Nd} {slot:Int} {old text:List UInt8} (h:p+nodes.length<=l.length) (he:segS l p (p+nodes.length)=nodes):Chg l (2,row,(p:Int),m,nodes,slot,old,text) (splS l p (p+nodes.length) []) 0
 | del_no {row:List Int} {p:Nat} {m:Int} {nodes:List Nd} {slot:Int} {old text:List UInt8} (h:p+nodes.length<=l.length) (he:segS l p (p+nodes.length) ≠ nodes):Chg l (2,row,(p:Int),m,nodes,slot,old,text) [] 7
 | wrap {row:List Int} {p m:Nat} {v:Nd} {s:Nat} {old text:List UInt8} (h:p+m<=l.length):Chg l (3,row,(p:Int),(m:Int),[v],(s:Int),old,text) (splS l p (p+m) [zHT v s (segS l p (p+m))]) 0
 | unwrap {row:List Int} {p:Nat} {m:Int} {v it z:Nd} {s:Nat} {old text:List UInt8} (h:l[p]? = some it) (hz:it.kids[s]? = some z) (hm:(z.kids.length:Int)=m) (he:it=zHT v s z.kids):Chg l (4,row,(p:Int),m,[v],(s:Int),old,text) (splS l p (p+1) z.kids) 0
 | unwrap_no {row:List Int} {p:Nat} {m:Int} {v it:Nd} {s:Nat} {old text:List UInt8} (h:l[p]? = some it) (hz:∀ z,it.kids[s]? = some z->(z.kids.length:Int)=m->it ≠ zHT v s z.kids):Chg l (4,row,(p:Int),m,[v],(s:Int),old,text) [] 7
 | set {row:List Int} {p:Nat} {m:Int} {nodes:List Nd} {it:Nd} {slot:Int} {old text:List UInt8} (h:l[p]? = some it) (hl:zWJ it.kind=true) (he:it.text=old):Chg l (5,row,(p:Int),m,nodes,slot,old,text) (splS l p (p+1) [.mk it.kind text it.cols it.kids]) 0
 | set_no {row:List Int} {p:Nat} {m:Int} {nodes:List Nd} {it:Nd} {slot:Int} {old text:List UInt8} (h:l[p]? = some it) (hl:¬ (zWJ it.kind=true/\it.text=old)):Chg l (5,row,(p:Int),m,nodes,slot,old,text) [] 7
inductive App (t:Nd):Op8->Nd->Int->Prop
 | arg {o:Op8} (h:zAu t=false):App t o zCv 1
 | form {o:Op8} (h:zAu t=true) (hf:¬ FormP o):App t o zCv 4
 | none {o:Op8} (h:zAu t=true) (hf:FormP o) (hn:zBn t o.2.1=Option.none):App t o zCv 8
 | chg {o:Op8} {r:Nd} {l:List Nd} {e:Int} (h:zAu t=true) (hf:FormP o) (hr:Fd t o.2.1 r) (hc:Chg r.kids o l e) (he:e ≠ 0):App t o zCv e
 | limit {o:Op8} {r:Nd} {l:List Nd} (h:zAu t=true) (hf:FormP o) (hr:Fd t o.2.1 r) (hc:Chg r.kids o l 0) (hv:zAu (putL t o.2.1 (rowN l))=false):App t o zCv 6
 | ok {o:Op8} {r:Nd} {l:List Nd} (h:zAu t=true) (hf:FormP o) (hr:Fd t o.2.1 r) (hc:Chg r.kids o l 0) (hv:zAu (putL t o.2.1 (rowN l))=true):App t o (putL t o.2.1 (rowN l)) 0
def Op8.row (o:Op8):List Int:=o.2.1
def Op8.text (o:Op8):List UInt8:=o.2.2.2.2.2.2.2
variable {old text:List UInt8}{slot:Int}{nodes:List Nd}{row:List Int}
def kD {P:Prop} (h:P:=by have:=zU1 l (aa.1 h).1;rw[segS,this,(aa.1 h).2]):P:=h
theorem Chg.w {l l':List Nd}{k:Int}{a m:Int}{e:Int} (h:Chg l (k,row,a,m,nodes,slot,old,text) l' e):Nd.ws l'<=Nd.ws l+Nd.ws nodes+text.length+3/\l'.length<=l.length+Nd.ws nodes+Nd.ws l+1:=by
 have key:∀ p q b,p<=q->Nd.ws (splS l p q b)+Nd.ws (segS l p q)=Nd.ws l+Nd.ws b:=fun p q b h=>zTM l b h
 have hlen:∀ l':List Nd,l'.length<=Nd.ws l':=Nd.ws_len;have h1:Nd.ws l'<=Nd.ws l+Nd.ws nodes+text.length+3:=by
  cases h with
  | range=>simp only[Nd.ws]; omega
  | @ins _ p _ _ _ _ _ h=>have:=key p p nodes (ar _); omega
  | @del _ p _ _ _ _ _ h he=>have:=key p (p+nodes.length) [] (Nat.le_add_right _ _); simp only[Nd.ws]at this; omega
  | del_no=>simp only[Nd.ws]; omega
  | @wrap _ p m v s _ _ h =>
   have:=key p (p+m) [zHT v s (segS l p (p+m))] (Nat.le_add_right _ _);have hf:(zHT v s (segS l p (p+m))).w<=v.w+Nd.ws (segS l p (p+m))+1:=by
    rw[zGN v];simp only[zHT,rowN,Nd.w];by_cases hs:s<v.kids.length
    ·have:=zJ5 (ks:=v.kids) (i:=s) (y:=.mk 1 [] 0 (segS l p (p+m))) (ac hs);simp only[Nd.w,an]at this;omega
    rw[set_eq_of_length_le (by omega)]; omega
   simp only[Nd.ws]at this ⊢;omega
  | @unwrap _ p _ v it z s _ _ h hz hm he =>
   have:=key p (p+1) z.kids (Nat.le_add_right _ _);have hsg:segS l p (p+1)=[it]:=by
    exact kD
   have w1:=Nd.w_mem (av hz);have w2:=zGN z;have w3:=zGN it;rw[hsg]at this;simp only[Nd.ws]at this;omega
  | unwrap_no=>simp only[Nd.ws]; omega
  | @set _ p _ _ it _ _ _ h hl he =>
   have:=key p (p+1) [.mk it.kind text it.cols it.kids] (Nat.le_add_right _ _);have hsg:segS l p (p+1)=[it]:=by
    exact kD
   have w3:=zGN it;rw[hsg]at this;simp only[Nd.ws,Nd.w]at this;omega
  | set_no=>simp only[Nd.ws]; omega
 refine⟨h1,?_⟩;cases h with
 | range=>simp
 | @ins _ p _ _ _ _ _ h=>have:=hlen nodes; simp only[splS,am,bg,bA]; omega
 | @del _ p _ _ _ _ _ h he=>simp only[splS,am,bg,bA,an]; omega
 | del_no=>simp
 | @wrap _ p m v s _ _ h=>simp only[splS,am,bg,bA,ah,an]; omega
 | @unwrap _ p _ v it z s _ _ h hz hm he =>
  have w1:=Nd.w_mem (av hz);have w4:=Nd.w_mem (av h);have w2:=zGN z;have w3:=zGN it;have:=hlen z.kids;simp only[splS,am,bg,bA]; omega
 | unwrap_no=>simp
 | @set _ p _ _ it _ _ _ h hl he=>simp only[splS,am,bg,bA,ah,an]; omega
 | set_no=>simp
def zFV (n:Nat) (nodes:List Nd) (h:Nd.ws nodes+50<n) (hb:Nd.ws nodes<=67000000):zBP n nodes=some (zAu (rowN nodes)):=by
 unfold zBP;simp only[zAU,obs];rw[zEy n _ (by simp only[Nd.w,an]; omega) (by simp only[Nd.w,an]; omega)]; rfl
def zOg (n:Nat) (l:List Nd) (slot:Int) (h:Nd.ws l+50<n) (hb:Nd.ws l<=67000000):∃ b,zD7 n l slot=some b/\(b=true↔zVe l slot):=by
 unfold zD7;dsimp only;cases e1:((l.length:Int) == 1) with
 | false=>exact⟨false,rfl,(fun h=>by cases h),fun⟨v,s,z,h,_⟩=>by rw[h]at e1; cases e1⟩
 | true=>
 have hl:l.length=1 :=(by have:=aE e1; omega);obtain⟨v,rfl⟩:=aT.1 hl;have hv:=zFV n [v] h hb;obtain⟨a,b,c,d⟩:=v;have h0:at? [Nd.mk a b c d] (0:Int)=some (Nd.mk a b c d):=rfl;simp only[ag,hv,obs,h0];cases hvb:zAu (rowN [.mk a b c d]) with
 | false=>exact⟨false,rfl,(fun h=>by cases h),fun⟨v,s,z,h,_,h2,_⟩=>by cases h; rw[hvb]at h2; cases h2⟩
 | true=>
 by_cases h1:0<=slot
 ·by_cases h2:slot<(d.length:Int)
  ·obtain⟨p,rfl,hp,hg⟩:=yBq h1 h2;simp only[ag,zAD h1,zAD h2,hg,obs];have hz:d[p]? = some d[p]:=ac hp;generalize d[p]=z at hz;obtain⟨x1,x2,x3,x4⟩:=z;refine⟨_,rfl,fun h=>⟨_,p,_,rfl,rfl,hvb,hz,?_⟩,fun⟨v,s,z,h,hs,_,hz',hk⟩=>?_⟩
   ·have:=aE h;exact eq_nil_of_length_eq_zero (by simp only[Nd.kids]; omega)
   cases h;obtain rfl:p=s :=(by omega);simp only[Nd.kids]at hz';rw[hz]at hz';cases hz';simp only[Nd.kids]at hk;subst hk;rfl
  simp only[ag,zAD h1,zAC h2];refine⟨false,rfl,(fun h=>by cases h),fun⟨v,s,z,h,hs,_,hz,_⟩=>?_⟩;cases h;have:=(aa.1 hz).1;simp only[Nd.kids]at this;omega
 simp only[ag,zAC h1];refine⟨false,rfl,(fun h=>by cases h),fun⟨v,s,z,h,hs,_⟩=>?_⟩;omega
def kQ {P:Prop} (h:P:=by exact⟨false,rfl,by simp[aw.1 e1]⟩):P:=h
def kS {P:Prop} (h:P:=by exact⟨false,rfl,by simp[aw.1 e3]⟩):P:=h
theorem zHI (n:Nat) (k:Int) (row:List Int) (at' m:Int) (nodes:List Nd) (slot:Int) (old text:List UInt8) (h:Nd.ws nodes+50<n) (hb:Nd.ws nodes<=67000000) :
  ∃ b,zEt n (k,row,at',m,nodes,slot,old,text)=some b/\(b=true↔FormP (k,row,at',m,nodes,slot,old,text)):=by
 have hv:=zFV n nodes h hb;obtain⟨tb,t1,t2⟩:=zOg n nodes slot h hb;have hlen:decide (0<(nodes.length:Int))=true↔nodes ≠ [] :=(by cases nodes <;> simp);have hlen0:((nodes.length:Int) == 0)=true↔nodes=[] :=(by cases nodes <;> simp <;> omega);unfold zEt;simp only[hv,t1,obs,FormP];by_cases k12:k=1∨k=2
 ·have e:(bif (k == 1) then some (k == 1) else some (k == 2):Option Bool)=some true:=by rcases k12 with rfl | rfl <;> rfl
  have hk:¬ (k=3∨k=4)/\¬ k=5 :=(by omega);rw[e];simp only[obs,ag,k12,hk.1,hk.2,true_and,false_and,or_false];rw[← hlen];generalize decide (0<(nodes.length:Int))=b1;generalize zAu (rowN nodes)=b2;cases b1 <;> cases b2 <;> simp only[ag,ae,obs] <;> try exact⟨false,rfl,by simp⟩
  cases e1:m == 0 <;> simp only[ag,ae,obs]
  ·exact kQ
  cases e2:slot == 0 <;> simp only[ag,ae,obs]
  ·exact⟨false,rfl,by simp[aw.1 e2]⟩
  cases e3:old == [] <;> simp only[ag,ae,obs]
  ·exact kS
  refine⟨_,rfl,?_⟩;rw[aE e1,aE e2,aE e3];simp
 have e:(bif (k == 1) then some (k == 1) else some (k == 2):Option Bool)=some false:=by
  rw[zBA (fun h=>k12 (.inl h)),zBA (fun h=>k12 (.inr h))]; rfl
 rw[e];simp only[obs,ae,k12,false_and,false_or];by_cases k34:k=3∨k=4
 ·have e:(bif (k == 3) then some (k == 3) else some (k == 4):Option Bool)=some true:=by rcases k34 with rfl | rfl <;> rfl
  have hk:¬ k=5 :=(by omega);rw[e];simp only[obs,ag,k34,hk,true_and,false_and,or_false];rw[← t2];by_cases hm:0<=m
  ·rw[zAD hm];cases tb <;> simp only[ag,ae,obs]
   ·exact⟨false,rfl,by simp⟩
   cases e3:old == [] <;> simp only[ag,ae,obs]
   ·exact kS
   refine⟨_,rfl,?_⟩;rw[aE e3];simp[hm]
  rw[zAC hm];exact⟨false,rfl,by simp[hm]⟩
 have e:(bif (k == 3) then some (k == 3) else some (k == 4):Option Bool)=some false:=by
  rw[zBA (fun h=>k34 (.inl h)),zBA (fun h=>k34 (.inr h))]; rfl
 rw[e];simp only[obs,ae,k34,false_and,false_or];by_cases k5:k=5
 ·subst k5;simp only[aZ,ag,obs,true_and];rw[← hlen0];generalize ((nodes.length:Int) == 0)=b1;cases e0:old == text <;> simp only[aB,bf,ag,ae,obs]
  ·have:=aw.1 e0;cases b1 <;> simp only[ag,ae,obs]
   ·exact⟨false,rfl,by simp⟩
   cases e1:m == 0 <;> simp only[ag,ae,obs]
   ·exact kQ
   refine⟨_,rfl,?_⟩;rw[aE e1];simp[this]
  exact⟨false,rfl,by simp[aE e0]⟩
 rw[zBA k5];exact⟨false,rfl,by simp[k5]⟩
def zVA (k:Int):(bif (k == 2) then some (k == 2) else bif (k == 3) then some (k == 3) else bif (k == 4) then some (k == 4) else bif (k == 10) then some (k == 10) else some (k == 11):Option Bool)=some (zWJ k):=by
 unfold zWJ;cases e1:k == 2 <;> cases e2:k == 3 <;> cases e3:k == 4 <;> cases e4:k == 10 <;> rfl
def zVI (k m:Int) (nodes:List Nd):(bif (k == 1) then some 0 else bif (k == 2) then some (nodes.length:Int) else bif (k == 3) then some m else some 1:Option Int)=some (zDS k m nodes):=by
 unfold zDS;by_cases k1:k=1
 ·subst k1; rfl
 by_cases k2:k=2
 ·subst k2; rfl
 by_cases k3:k=3
 ·subst k3; rfl
 rw[zBA k1,zBA k2,zBA k3,if_neg k1,if_neg k2,if_neg k3]; rfl
theorem zUs {k:Int}{a m:Int} (hf:FormP (k,row,a,m,nodes,slot,old,text)):0<=zDS k m nodes:=by
 unfold zDS;rcases hf with ⟨rfl | rfl,_⟩ | ⟨rfl | rfl,hm,_⟩ | ⟨rfl,_⟩ <;> simp <;> omega
theorem zRm (n:Nat) (l:List Nd) (k:Int) (row:List Int) (a m:Int) (nodes:List Nd) (slot:Int) (old text:List UInt8) (hf:FormP (k,row,a,m,nodes,slot,old,text)) (hn:2 * Nd.ws l+2 * Nd.ws nodes+50<n) (ha:Nd.ws l<=60000000) (hb:Nd.ws nodes<=2000000) :
  ∃ l' e,zFx n l (k,row,a,m,nodes,slot,old,text)=some (l',e)/\Chg l (k,row,a,m,nodes,slot,old,text) l' e:=by
 have la:=Nd.ws_len l;have lb:=Nd.ws_len nodes;have cl:=Nd.cnts_ws l;have cb:=Nd.cnts_ws nodes;have hnn:=zUs hf;unfold zFx;dsimp only;rw[zVI];simp only[obs];by_cases h1:a<0
 ·rw[zAD h1]; exact⟨[],2,rfl,.range (.inl h1)⟩
 rw[zAC h1];by_cases h2:(l.length:Int)<a
 ·rw[zAD h2]; exact⟨[],2,rfl,.range (.inr (.inl h2))⟩
 rw[zAC h2,wrap64_in (n:=(l.length:Int) - a) (by omega) (by omega)];by_cases h3:(l.length:Int) - a<zDS k m nodes
 ·rw[zAD h3]; exact⟨[],2,rfl,.range (.inr (.inr h3))⟩
 rw[zAC h3];simp only[ae,obs];obtain⟨p,rfl⟩:=aM (show 0<=a by omega);obtain⟨y,hy⟩:=aM hnn;rw[hy]at h3 ⊢;rw[wrap64_in (n:=(p:Int)+(y:Int)) (by omega) (by omega),← Int.natCast_add];have hseg:=yBM l (Nat.le_add_right p y);have lseg:=Nd.ws_len ((l.take (p+y)).drop p);have cseg:=Nd.cnts_ws ((l.take (p+y)).drop p);have hsp:∀ by':List Nd,by'.length<=1073741824->zB0 l (p:Int) ((p+y:Nat):Int) by'=some (splS l p (p+y) by'):=fun by' hby=>zZd l by' p (p+y) (by omega) (by omega) (by omega) hby
 rcases hf with ⟨rfl | rfl,h0⟩ | ⟨rfl | rfl,hm,⟨v,s,z,rfl,rfl,hvv,hz,hzk⟩,_⟩ | ⟨rfl,h0⟩
 ·obtain rfl:y=0 :=(by have:zDS 1 m nodes=0:=rfl; omega);simp only[aZ,ag,bz]at hsp ⊢;rw[hsp nodes (by omega)];exact⟨_,0,rfl,.ins (by omega)⟩
 ·obtain rfl:y=nodes.length :=(by have:zDS 2 m nodes=(nodes.length:Int):=rfl; omega);simp only[show((2:Int) == 1)=false from rfl,ae,aZ,ag,au];rw[zA5 ⟨by omega,by omega,by omega⟩];obtain⟨r,g1,g2⟩:=(zMP n).2 ((l.take (p+nodes.length)).drop p) nodes (by omega) (by omega);rw[g1];simp only[obs];cases r with
  | false=>exact⟨[],7,rfl,.del_no (by omega) fun e=>by have:=g2.2 e; cases this⟩
  | true=>
  simp only[aB,ae,hsp [] (by simp),obs];exact⟨_,0,rfl,.del (by omega) (g2.1 rfl)⟩
 ·obtain rfl:m=(y:Int):=hy;have hs:=(aa.1 hz).1;have hfe:=zSK v s ((l.take (p+y)).drop p) hs (by have:=Nd.ws_len v.kids; have:=zGN v; simp only[Nd.ws]at lb hb; omega) (by omega);have hv0:at? [v] (0:Int)=some v:=rfl;obtain⟨v1,v2,v3,v4⟩:=v;simp only[show((3:Int) == 1)=false from rfl,show((3:Int) == 2)=false from rfl,ae,aZ,ag,au,hv0,obs];rw[zA5 ⟨by omega,by omega,by omega⟩,hfe];simp only[obs];rw[hsp _ (by simp)];exact⟨_,0,rfl,.wrap (by omega)⟩
 ·obtain rfl:y=1 :=(by have:zDS 4 m [v]=1:=rfl; omega);have hs:=(aa.1 hz).1;have hv0:at? [v] (0:Int)=some v:=rfl;have hpl:p<l.length :=(by omega);have hit:l[p]? = some l[p]:=ac hpl;have hia:at? l (p:Int)=some l[p]:=zAH hpl;generalize l[p]=it at hit hia;have hiw:=Nd.w_mem (av hit);have hic:=Nd.cnt_w it;have hlk:=Nd.ws_len v.kids;have hwv:=zGN v;simp only[Nd.ws]at hb hn;have hfe:∀ l':List Nd,l'.length<=1073741824->zDC v (s:Int) l'=some (zHT v s l'):=fun l' hl'=>zSK v s l' hs (by omega) hl'
  have heq:∀ x:Nd,∃ r,zBi n it x=some r/\(r=true↔it=x):=fun x=>(zMP n).1 it x (by omega) (by omega)
  obtain⟨i1,i2,i3,i4⟩:=it;have hwi:(Nd.mk i1 i2 i3 i4).w=i2.length+Nd.ws i4+1:=rfl;have hlk4:=Nd.ws_len i4;obtain⟨v1,v2,v3,v4⟩:=v;simp only[show((4:Int) == 1)=false from rfl,show((4:Int) == 2)=false from rfl,show((4:Int) == 3)=false from rfl,ae,aZ,ag,hia,obs,hv0];by_cases hsl:(i4.length:Int)<=(s:Int)
  ·rw[zAD hsl];refine⟨[],7,rfl,.unwrap_no hit fun z' hz'=>?_⟩;have:=(aa.1 hz').1;simp only[Nd.kids]at this;omega
  rw[zAC hsl];have hsi:s<i4.length :=(by omega);have hzi:i4[s]? = some i4[s]:=ac hsi;have hza:at? i4 (s:Int)=some i4[s]:=zAH hsi;generalize i4[s]=z' at hzi hza;have hzw:=Nd.w_mem (av hzi);have hzw2:=zGN z';have hzl:=Nd.ws_len z'.kids;have hfe':=hfe z'.kids (by omega);obtain⟨rb,g1,g2⟩:=heq (zHT (.mk v1 v2 v3 v4) s z'.kids);have hsp':=hsp z'.kids (by omega);obtain⟨z1,z2,z3,z4⟩:=z';simp only[Nd.kids]at hfe' hsp' g1 g2;simp only[ae,hza,obs];by_cases hmz:(z4.length:Int)=m
  ·have:((z4.length:Int) != m)=false :=(by unfold bne; rw[bD.2 hmz]; rfl);rw[this];simp only[ae,hfe',obs];have hfx:zHT (.mk v1 v2 v3 v4) s z4 = .mk v1 v2 v3 (v4.set s (rowN z4)):=rfl;rw[hfx]at g1 g2 ⊢;simp only[obs,g1];cases rb with
   | false =>
    refine⟨[],7,rfl,.unwrap_no hit fun z'' hz'' hm'' he=>?_⟩;simp only[Nd.kids]at hz'';rw[hzi]at hz'';cases hz'';have:=g2.2 he;cases this
   | true=>
   simp only[aB,ae,hsp',obs];exact⟨_,0,rfl,.unwrap (z:=.mk z1 z2 z3 z4) hit hzi hmz (g2.1 rfl)⟩
  have:((z4.length:Int) != m)=true:=bne_iff_ne.2 hmz;rw[this];refine⟨[],7,rfl,.unwrap_no hit fun z'' hz'' hm'' he=>?_⟩;simp only[Nd.kids]at hz'';rw[hzi]at hz'';cases hz'';exact hmz hm''
 obtain rfl:y=1 :=(by have:zDS 5 m nodes=1:=rfl; omega);have hpl:p<l.length :=(by omega);have hit:l[p]? = some l[p]:=ac hpl;have hia:at? l (p:Int)=some l[p]:=zAH hpl;generalize l[p]=it at hit hia;obtain⟨i1,i2,i3,i4⟩:=it;simp only[show((5:Int) == 1)=false from rfl,show((5:Int) == 2)=false from rfl,show((5:Int) == 3)=false from rfl,show((5:Int) == 4)=false from rfl,ae,hia,obs,zVA];cases hlf:zWJ i1 with
 | false=>exact⟨[],7,rfl,.set_no hit fun h=>by have:=h.1; simp only[Nd.kind]at this; rw[hlf]at this; cases this⟩
 | true=>
 simp only[ag];cases ht:i2 == old with
 | false=>exact⟨[],7,rfl,.set_no hit fun h=>aw.1 ht h.2⟩
 | true=>
 simp only[ag,hsp [Nd.mk i1 text i3 i4] (by simp),obs];exact⟨_,0,rfl,.set (it:=.mk i1 i2 i3 i4) hit hlf (aE ht)⟩
def zW8 {t z:Nd}{p:List Int} (h:Fd t p z) (l:List Nd):∀ n,p.length<n->t.cnt<=4294967296->zFy n t p l=some (putL t p (rowN l)):=by
 induction h with
 | nil t =>
  intro n hn _;obtain⟨n,rfl⟩:∃ m,n=m+1:=⟨n - 1,by omega⟩;rw[zIJ];obtain⟨t1,t2,t3,t4⟩:=t;unfold zFy;rfl
 | @step k tx c ks i k2 tx2 c2 ks2 s z r' p hi hs _ ih=>
 intro n hn hc;obtain⟨n,rfl⟩:∃ m,n=m+1:=⟨n - 1,by omega⟩;have n1:=Nd.cnts_mem (av hi);have n2:=Nd.cnts_mem (av hs);have l1:=Nd.cnts_len ks;have l2:=Nd.cnts_len ks2;simp only[Nd.cnt]at hc n1;have ih:=ih n (by simp only[ah]at hn; omega) (by omega);rw[zFb hi hs];have e1:((((i:Int)::(s:Int)::p).length:Int) == 0)=false:=zBA (by simp only[ah]; omega);have e2:at? ((i:Int)::(s:Int)::p) (0:Int)=some (i:Int):=rfl;have e3:at? ((i:Int)::(s:Int)::p) (1:Int)=some (s:Int):=rfl;have e4:(((((i:Int)::(s:Int)::p)).take ((((i:Int)::(s:Int)::p)).length:Int).toNat).drop (2:Int).toNat)=p:=by
  rw[au,take_length]; rfl
 obtain⟨z1,z2,z3,z4⟩:=z;unfold zFy;simp only[e1,e2,e3,ae,obs,zNx hi,zNx hs,e4];rw[zA5 ⟨by omega,by simp only[ah]; omega,by omega⟩,ih];generalize putL (Nd.mk z1 z2 z3 z4) p (rowN l)=Z;obtain⟨q1,q2,q3,q4⟩:=Z;simp only[obs];rw[zEQ hs (by omega)];simp only[obs];rw[zEQ hi (by omega)];rfl
theorem zMq (n:Nat) (t:Nd) (o:Op8) (hn:200000000<n) (ht:t.w<=50000000) (hb:Nd.ws o.nodes<=2000000) (hx:o.2.2.2.2.2.2.2.length<=2000000) (hr:o.2.1.length<=2000000):∃ t' e,zEg n t o=some (t',e)/\App t o t' e:=by
 obtain⟨k,row,a,m,nodes,slot,old,text⟩:=o;simp only[Op8.nodes]at hb;dsimp only at hx hr;have v1:=zEy n t (by omega) (by omega);obtain⟨b,f1,f2⟩:=zHI n k row a m nodes slot old text (by omega) (by omega);have e1:=zI4 n t row (by omega) v1;have hput:∀ r l,Fd t row r->zFy n t row l=some (putL t row (rowN l)):=fun r l h=>zW8 h l n (by omega) (by have:=Nd.cnt_w t; omega)
 have hval:∀ r l,Fd t row r->Nd.ws l<=5000000+r.w->zAM n (putL t row (rowN l))=some (zAu (putL t row (rowN l))):=fun r l h hl=>by
  have:=h.w (rowN l);have e:(rowN l).w=Nd.ws l+1 :=(by simp[rowN,Nd.w]);exact zEy n _ (by omega) (by omega)
 obtain⟨t1,t2,t3,t4⟩:=t;unfold zEg;simp only[v1,f1,e1,obs];cases hv:zAu (.mk t1 t2 t3 t4) with
 | false=>exact⟨_,1,rfl,.arg hv⟩
 | true=>
 simp only[aB,ae];cases b with
 | false=>exact⟨_,4,rfl,.form hv fun h=>by have:=f2.2 h; cases this⟩
 | true=>
 have hf:=f2.1 rfl;simp only[aB,ae,rowS,if_pos hv];cases hfd:zBn (.mk t1 t2 t3 t4) row with
 | none=>exact⟨_,8,rfl,.none hv hf hfd⟩
 | some r=>
 have hr':=zZ5 hfd;have hsm:=hr'.small;have hwr:=zGN r;obtain⟨l',e,c1,c2⟩:=zRm n r.kids k row a m nodes slot old text hf (by omega) (by omega) (by omega);obtain⟨r1,r2,r3,r4⟩:=r;simp only[Nd.kids]at c1 c2 hwr;simp only[obs,show((0:Int) != 0)=false from rfl,ae,c1];by_cases he:e=0
 ·subst he;have hcw:=c2.w;have hv2:=hval _ l' hr' (by omega);simp only[show((0:Int) != 0)=false from rfl,ae,hput _ l' hr',obs];cases hvo:zAu (putL (.mk t1 t2 t3 t4) row (rowN l')) with
  | false =>
   have hL:=App.limit (t:=.mk t1 t2 t3 t4) (o:=(k,row,a,m,nodes,slot,old,text)) hv hf hr' c2 hvo;generalize putL (Nd.mk t1 t2 t3 t4) row (rowN l')=Z at *;obtain⟨q1,q2,q3,q4⟩:=Z;simp only[obs,hv2,hvo,bf,ag];exact⟨_,6,rfl,hL⟩
  | true=>
  have hO:=App.ok (t:=.mk t1 t2 t3 t4) (o:=(k,row,a,m,nodes,slot,old,text)) hv hf hr' c2 hvo;dsimp only at hO;generalize putL (Nd.mk t1 t2 t3 t4) row (rowN l')=Z at *;obtain⟨q1,q2,q3,q4⟩:=Z;simp only[obs,hv2,hvo,Bool.not_true,cond_false];exact⟨_,0,rfl,hO⟩
 have:(e != 0)=true:=bne_iff_ne.2 he;simp only[this,ag];exact⟨_,e,rfl,.chg (t:=.mk t1 t2 t3 t4) (o:=(k,row,a,m,nodes,slot,old,text)) hv hf hr' c2 he⟩
variable {e1 e2:Int}{l:List Nd}
def Chg.det {l1 l2:List Nd}{o:Op8} (hf:FormP o) (h1:Chg l o l1 e1) (h2:Chg l o l2 e2):l1=l2/\e1=e2:=by
 obtain⟨k,row,a,m,nodes,slot,old,text⟩:=o;have hnn:=zUs hf;cases h1 with
 | range h =>
  cases h2 with
  | range=>exact⟨rfl,rfl⟩
  | ins h'=>simp only[zDS,if_true]at h; omega
  | del h'=>simp only[zDS]at h; simp at h; omega
  | del_no h'=>simp only[zDS]at h; simp at h; omega
  | wrap h'=>simp only[zDS]at h; simp at h; omega
  | unwrap h'=>have:=(aa.1 h').1; simp only[zDS]at h; simp at h; omega
  | unwrap_no h'=>exact⟨rfl,by have:=(aa.1 h').1; simp only[zDS]at h; simp at h; omega⟩
  | set h'=>have:=(aa.1 h').1; simp only[zDS]at h; simp at h; omega
  | set_no h'=>exact⟨rfl,by have:=(aa.1 h').1; simp only[zDS]at h; simp at h; omega⟩
 | ins h' =>
  generalize ha:((_:Nat):Int)=a' at h2;cases h2 with
  | range h=>simp only[zDS,if_true]at h; omega
  | ins h=>obtain rfl:=Int.ofNat.inj ha; exact⟨rfl,rfl⟩
 | del h' he =>
  generalize ha:((_:Nat):Int)=a' at h2;cases h2 with
  | range h=>simp only[zDS]at h; simp at h; omega
  | del h=>obtain rfl:=Int.ofNat.inj ha; exact⟨rfl,rfl⟩
  | del_no h he'=>obtain rfl:=Int.ofNat.inj ha; exact absurd he he'
 | del_no h' he =>
  generalize ha:((_:Nat):Int)=a' at h2;cases h2 with
  | range h=>simp only[zDS]at h; simp at h; omega
  | del h he'=>obtain rfl:=Int.ofNat.inj ha; exact absurd he' he
  | del_no h he'=>exact⟨rfl,rfl⟩
 | wrap h' =>
  generalize ha:((_:Nat):Int)=a' at h2;generalize hm:((_:Nat):Int)=m' at h2;generalize hs:((_:Nat):Int)=s' at h2;cases h2 with
  | range h=>simp only[zDS]at h; simp at h; omega
  | wrap h=>obtain rfl:=Int.ofNat.inj ha; obtain rfl:=Int.ofNat.inj hm; obtain rfl:=Int.ofNat.inj hs; exact⟨rfl,rfl⟩
 | unwrap h' hz hm he =>
  generalize ha:((_:Nat):Int)=a' at h2;generalize hs:((_:Nat):Int)=s' at h2;cases h2 with
  | range h=>have:=(aa.1 h').1; simp only[zDS]at h; simp at h; omega
  | unwrap h hz2 =>
   obtain rfl:=Int.ofNat.inj ha; obtain rfl:=Int.ofNat.inj hs;rw[h']at h; cases h;rw[hz]at hz2; cases hz2;exact qQ
  | unwrap_no h hz2=>
  obtain rfl:=Int.ofNat.inj ha; obtain rfl:=Int.ofNat.inj hs;rw[h']at h; cases h;exact absurd he (hz2 _ hz hm)
 | unwrap_no h' hz =>
  generalize ha:((_:Nat):Int)=a' at h2;generalize hs:((_:Nat):Int)=s' at h2;cases h2 with
  | range h=>exact⟨rfl,by have:=(aa.1 h').1; simp only[zDS]at h; simp at h; omega⟩
  | unwrap h hz2 hm he =>
   obtain rfl:=Int.ofNat.inj ha; obtain rfl:=Int.ofNat.inj hs;rw[h']at h; cases h;exact absurd he (hz _ hz2 hm)
  | unwrap_no h hz2=>exact⟨rfl,rfl⟩
 | set h' hl he =>
  generalize ha:((_:Nat):Int)=a' at h2;cases h2 with
  | range h=>have:=(aa.1 h').1; simp only[zDS]at h; simp at h; omega
  | set h=>obtain rfl:=Int.ofNat.inj ha; rw[h']at h; cases h; exact⟨rfl,rfl⟩
  | set_no h hl2=>obtain rfl:=Int.ofNat.inj ha; rw[h']at h; cases h; exact absurd ⟨hl,he⟩ hl2
 | set_no h' hl=>
 generalize ha:((_:Nat):Int)=a' at h2;cases h2 with
 | range h=>exact⟨rfl,by have:=(aa.1 h').1; simp only[zDS]at h; simp at h; omega⟩
 | set h hl2 he=>obtain rfl:=Int.ofNat.inj ha; rw[h']at h; cases h; exact absurd ⟨hl2,he⟩ hl
 | set_no h hl2=>exact⟨rfl,rfl⟩
def Fd.det {t r1 r2:Nd}{p:List Int} (h1:Fd t p r1) (h2:Fd t p r2):r1=r2:=Option.some.inj (h1.find.symm.trans h2.find)
def App.det {t t1 t2:Nd}{o:Op8} (h1:App t o t1 e1) (h2:App t o t2 e2):t1=t2/\e1=e2:=by
 have tf:∀ {b:Bool},b=true->b=false->False:=fun h h'=>by rw[h]at h'; cases h'
 have fn:∀ {r:Nd} {p:List Int},Fd t p r->zBn t p=Option.none->False:=fun h h'=>by rw[h.find]at h'; cases h'
 cases h1 with
 | arg h=>cases h2 with
  | arg h'=>exact⟨rfl,rfl⟩
  | form h'=>exact(tf h' h).elim
  | none h'=>exact(tf h' h).elim
  | chg h'=>exact(tf h' h).elim
  | limit h'=>exact(tf h' h).elim
  | ok h'=>exact(tf h' h).elim
 | form h hf=>cases h2 with
  | arg h'=>exact(tf h h').elim
  | form h'=>exact⟨rfl,rfl⟩
  | none h' hf'=>exact absurd hf' hf
  | chg h' hf'=>exact absurd hf' hf
  | limit h' hf'=>exact absurd hf' hf
  | ok h' hf'=>exact absurd hf' hf
 | none h hf hn=>cases h2 with
  | arg h'=>exact(tf h h').elim
  | form h' hf'=>exact absurd hf hf'
  | none=>exact⟨rfl,rfl⟩
  | chg h' hf' hr=>exact(fn hr hn).elim
  | limit h' hf' hr=>exact(fn hr hn).elim
  | ok h' hf' hr=>exact(fn hr hn).elim
 | chg h hf hr hc he=>cases h2 with
  | arg h'=>exact(tf h h').elim
  | form h' hf'=>exact absurd hf hf'
  | none h' hf' hn=>exact(fn hr hn).elim
  | chg h' hf' hr' hc' he'=>obtain rfl:=hr.det hr'; exact⟨rfl,(hc.det hf hc').2⟩
  | limit h' hf' hr' hc'=>obtain rfl:=hr.det hr'; exact absurd (hc.det hf hc').2 he
  | ok h' hf' hr' hc'=>obtain rfl:=hr.det hr'; exact absurd (hc.det hf hc').2 he
 | limit h hf hr hc hv=>cases h2 with
  | arg h'=>exact(tf h h').elim
  | form h' hf'=>exact absurd hf hf'
  | none h' hf' hn=>exact(fn hr hn).elim
  | chg h' hf' hr' hc' he'=>obtain rfl:=hr.det hr'; exact absurd (hc'.det hf hc).2 he'
  | limit h' hf' hr' hc'=>exact⟨rfl,rfl⟩
  | ok h' hf' hr' hc' hv'=>obtain rfl:=hr.det hr'; obtain rfl:=(hc.det hf hc').1; exact(tf hv' hv).elim
 | ok h hf hr hc hv=>cases h2 with
  | arg h'=>exact(tf h h').elim
  | form h' hf'=>exact absurd hf hf'
  | none h' hf' hn=>exact(fn hr hn).elim
  | chg h' hf' hr' hc' he'=>obtain rfl:=hr.det hr'; exact absurd (hc'.det hf hc).2 he'
  | limit h' hf' hr' hc' hv'=>obtain rfl:=hr.det hr'; obtain rfl:=(hc.det hf hc').1; exact(tf hv hv').elim
  | ok h' hf' hr' hc' hv'=>obtain rfl:=hr.det hr'; obtain rfl:=(hc.det hf hc').1; exact⟨rfl,rfl⟩
def lens:List (List Nd)->Nat
 | []=>0
 | a::L=>a.length+lens L
def zSX {L:List (List Nd)}{i:Nat} (h:i<L.length):lens (L.drop i)=(L[i]).length+lens (L.drop (i+1)):=by
 exact kP
def zXS {L:List (List Nd)} (hl:L.length<=1073741824):∀ (k i s:Nat),L.length - i<k->i<=L.length->s+lens (L.drop i)<=1073741824->zAN L k (i:Int) (s:Int)=some ((s+lens (L.drop i):Nat):Int)
 | 0,i,s,h,_,_=>by omega
 | k+1,i,s,hk,hi,hs=>by
  unfold zAN;by_cases h:i<L.length
  ·have hd:=zSX h;rw[zAD (aK.2 h),ag,zAH h];simp only[obs];rw[wrap64_in (n:=(s:Int)+((L[i]).length:Int)) (by omega) (by omega),zAC (by omega),ae,zAG (by omega),← Int.natCast_add,zXS hl k (i+1) _ (by omega) (by omega) (by omega),hd];congr 2; omega
  ·rw[zAC (by omega),ae];have:L.drop i=[]:=bB.2 (by omega);rw[this]; rfl
def zXT {L:List (List Nd)} (hl:L.length<=1073741824):∀ (k i:Nat) (s:List Nd),L.length - i<k->i<=L.length->s.length+lens (L.drop i)<=1073741824->zAO L k (i:Int) s=some (s++(L.drop i).flatten)
 | 0,i,s,h,_,_=>by omega
 | k+1,i,s,hk,hi,hs=>by
  unfold zAO;by_cases h:i<L.length
  ·have hd:=zSX h;rw[zAD (aK.2 h),ag,zAH h];simp only[obs];rw[zA5 (by omega),zAG (by omega),zXT hl k (i+1) _ (by omega) (by omega) (by rw[am]; omega),aO h,flatten_cons,aX]
  ·rw[zAC (by omega),ae];have:L.drop i=[]:=bB.2 (by omega);rw[this]; simp
def zXU (n:Nat) (L:List (List Nd)) (hn:L.length<n) (hl:L.length<=1073741824) (hs:lens L<=1073741824):zBJ n L=some L.flatten:=by
 have e1:=zXS hl n 0 0 (by omega) (by omega) (by simpa using hs);have e2:=zXT hl n 0 [] (by omega) (by omega) (by simpa using hs);rw[show((0:Nat):Int)=0 from rfl]at e1 e2;unfold zBJ zEi;simp only[e1,obs,drop_zero,a8];simp only[drop_zero,bE]at e2;rw[zA5 ⟨by omega,by omega⟩];simp only[obs,e2]
def yCq (n:Nat) (k:Int) (row:List Int) (p y:Nat) (m:Int) (nodes:List Nd) (slot:Int) (old text:List UInt8) (l b:List Nd) (hn:10<n) (hp:p+y<=l.length) (hl:l.length<=500000000) (hb:b.length<=500000000) :
  zAR n ((k,row,(p:Int),m,nodes,slot,old,text),l) (y:Int) b=some (splS l p (p+y) b):=by
 unfold zAR;dsimp only;rw[zA5 ⟨by omega,by omega,by omega⟩,wrap64_in (n:=(p:Int)+(y:Int)) (by omega) (by omega),← Int.natCast_add,zA5 ⟨by omega,by omega,by omega⟩];have e1:(l.take (p:Int).toNat).drop (0:Int).toNat=l.take p :=(by simp);have e2:(l.take (l.length:Int).toNat).drop ((p+y:Nat):Int).toNat=l.drop (p+y) :=(by rw[au,au,take_length]);rw[e1,e2,zXU n _ (by simp; omega) (by simp) (by simp only[lens,bg,bA]; omega)];simp only[obs,splS,flatten_cons,flatten_nil,bs,aX]
def zRr {it z:Nd}{s:Nat} (hl:zBL 1 l=true) (hit:it∈l) (hz:it.kids[s]? = some z):it.kind ≠ 1/\z=rowN z.kids:=by
 obtain⟨f1,f2⟩:=zGj hl hit;have hk:(it.kind == 1)=false :=(by simpa using f2);obtain⟨i1,i2,i3,i4⟩:=it;simp only[Nd.kind]at hk;simp only[Nd.kids]at hz;obtain⟨g1,g2⟩:=zGj (zKF f1) (av hz);rw[hk]at g2;have hz1:z.kind=1:=by
  cases e:z.kind == 1 with
  | true=>exact aE e
  | false=>rw[e]at g2; cases g2
 exact⟨aw.1 hk,(zVr g1 hz1).1⟩
def zSP {it:Nd} (hl:zBL 1 l=true) (hit:it∈l):it.kind ≠ 1:=by
 obtain⟨_,f2⟩:=zGj hl hit;exact aw.1 (by simpa using f2)
def zJ4  (h:zAu (rowN l)=true):zBL 1 l=true:=by
 have:=(zLc h).2;exact this
def zVd (v:Nd) (h:v.kind ≠ 1):zDu v=some (v.kids.length:Int):=by
 obtain⟨a,b,c,d⟩:=v;unfold zDu;simp only[Nd.kind]at h;simp only[zBA h,ae,Nd.kids]
def zGK (n:Nat) (nodes:List Nd) (h:Nd.ws nodes+50<n) (hb:Nd.ws nodes<=67000000):zB4 n nodes=some (zAu (rowN nodes)):=by
 unfold zB4;dsimp only;rw[zCs n _ (by simp only[Nd.w,length_nil]; omega) (by simp only[Nd.w,length_nil]; omega)]; rfl
def zSv (n:Nat) (l:List Nd) (slot:Int) (h:Nd.ws l+50<n) (hb:Nd.ws l<=67000000):∃ b,zC9 n l slot=some b/\(b=true↔zVe l slot):=by
 unfold zC9;dsimp only;cases e1:((l.length:Int) != 1) with
 | true=>exact⟨false,rfl,(fun h=>by cases h),fun⟨v,s,z,h,_⟩=>by rw[h]at e1; cases e1⟩
 | false=>
 have hl:l.length=1:=by
  by_cases h:(l.length:Int)=1
  ·omega
  rw[bne_iff_ne.2 h]at e1; cases e1
 obtain⟨v,rfl⟩:=aT.1 hl;have hv:=zGK n [v] h hb;have h0:at? [v] (0:Int)=some v:=rfl;simp only[ae,hv,obs];cases hvb:zAu (rowN [v]) with
 | false=>exact⟨false,rfl,(fun h=>by cases h),fun⟨v',s,z,h,_,h2,_⟩=>by cases h; rw[hvb]at h2; cases h2⟩
 | true=>
 have hsl:=zVd v (zSP (zJ4 hvb) ak);obtain⟨a,b,c,d⟩:=v;simp only[Nd.kids]at hsl;simp only[aB,ae];by_cases h1:slot<0
 ·rw[zAD h1];exact⟨false,rfl,(fun h=>by cases h),fun⟨v,s,z,h,hs,_⟩=>by omega⟩
 rw[zAC h1];simp only[ae,h0,obs,hsl];by_cases h2:(d.length:Int)<=slot
 ·rw[zAD h2];refine⟨false,rfl,(fun h=>by cases h),fun⟨v,s,z,h,hs,_,hz,_⟩=>?_⟩;cases h;have:=(aa.1 hz).1;simp only[Nd.kids]at this;omega
 rw[zAC h2];obtain⟨p,rfl,hp,hg⟩:=yBq (l:=d) (i:=slot) (by omega) (by omega);have hz:d[p]? = some d[p]:=ac hp;rw[hg];generalize d[p]=z at hz;obtain⟨x1,x2,x3,x4⟩:=z;simp only[ae,obs];refine⟨_,rfl,fun h=>⟨_,p,_,rfl,rfl,hvb,hz,?_⟩,fun⟨v,s,z,h,hs,_,hz',hk⟩=>?_⟩
 ·have:=aE h;exact eq_nil_of_length_eq_zero (by simp only[Nd.kids]; omega)
 cases h;obtain rfl:p=s :=(by omega);simp only[Nd.kids]at hz';rw[hz]at hz';cases hz';simp only[Nd.kids]at hk;subst hk;rfl
def zOO (n:Nat) (k:Int) (row:List Int) (a m:Int) (nodes:List Nd) (slot:Int) (old text:List UInt8) (h:Nd.ws nodes+50<n) (hb:Nd.ws nodes<=67000000) :
  ∃ b,zEG n (k,row,a,m,nodes,slot,old,text)=some b/\(b=true↔FormP (k,row,a,m,nodes,slot,old,text)):=by
 have hv:=zGK n nodes h hb;obtain⟨tb,t1,t2⟩:=zSv n nodes slot h hb;have hlen:decide (0<(nodes.length:Int))=true↔nodes ≠ [] :=(by cases nodes <;> simp);have hlen0:((nodes.length:Int) == 0)=true↔nodes=[] :=(by cases nodes <;> simp <;> omega);have htx:(bif (!(old == [])) then some true else some (!(text == [])):Option Bool)=some (!((old == [])&&(text == []))) :=(by cases old == [] <;> cases text == [] <;> rfl);unfold zEG;simp only[hv,t1,htx,obs,FormP];by_cases k12:k=1∨k=2
 ·have e:(bif (k == 1) then some (k == 1) else some (k == 2):Option Bool)=some true:=by rcases k12 with rfl | rfl <;> rfl
  have hk:¬ (k=3∨k=4)/\¬ k=5 :=(by omega);rw[e];simp only[obs,ag,k12,hk.1,hk.2,true_and,false_and,or_false];rw[← hlen];generalize decide (0<(nodes.length:Int))=b1;generalize zAu (rowN nodes)=b2;cases e1:m == 0 <;> simp only[ag,ae,obs]
  ·exact kQ
  cases e2:slot == 0 <;> simp only[ag,ae,obs]
  ·exact⟨false,rfl,by simp[aw.1 e2]⟩
  cases e3:old == [] <;> simp only[Bool.false_and,Bool.true_and,bf,Bool.not_not,ag,ae,obs]
  ·exact kS
  cases e4:text == [] <;> simp only[aB,bf,ag,ae,obs]
  ·exact⟨false,rfl,by simp[aw.1 e4]⟩
  rw[aE e1,aE e2,aE e3,aE e4];cases b1 <;> cases b2 <;> exact⟨_,rfl,by simp⟩
 have e:(bif (k == 1) then some (k == 1) else some (k == 2):Option Bool)=some false:=by
  rw[zBA (fun h=>k12 (.inl h)),zBA (fun h=>k12 (.inr h))]; rfl
 rw[e];simp only[obs,ae,k12,false_and,false_or];by_cases k34:k=3∨k=4
 ·have e:(bif (k == 3) then some (k == 3) else some (k == 4):Option Bool)=some true:=by rcases k34 with rfl | rfl <;> rfl
  have hk:¬ k=5 :=(by omega);rw[e];simp only[obs,ag,k34,hk,true_and,false_and,or_false];rw[← t2];by_cases hm:0<=m
  ·rw[zAD hm];simp only[ag];cases e3:old == [] <;> simp only[Bool.false_and,Bool.true_and,bf,Bool.not_not,ag,ae,obs]
   ·exact kS
   cases e4:text == [] <;> simp only[aB,bf,ag,ae,obs]
   ·exact⟨false,rfl,by simp[aw.1 e4]⟩
   rw[aE e3,aE e4];exact⟨_,rfl,by simp[hm]⟩
  rw[zAC hm];exact⟨false,rfl,by simp[hm]⟩
 have e:(bif (k == 3) then some (k == 3) else some (k == 4):Option Bool)=some false:=by
  rw[zBA (fun h=>k34 (.inl h)),zBA (fun h=>k34 (.inr h))]; rfl
 rw[e];simp only[obs,ae,k34,false_and,false_or];by_cases k5:k=5
 ·subst k5;simp only[aZ,ag,obs,true_and];rw[← hlen0];generalize ((nodes.length:Int) == 0)=b1;cases e1:m == 0 <;> simp only[ag,ae,obs]
  ·exact kQ
  cases e2:slot == 0 <;> simp only[ag,ae,obs]
  ·exact⟨false,rfl,by simp[aw.1 e2]⟩
  rw[aE e1,aE e2];cases b1 <;> simp only[ag,ae,obs]
  ·exact⟨false,rfl,by simp⟩
  cases e0:old == text <;> simp only[aB,bf]
  ·exact⟨true,rfl,by simp[aw.1 e0]⟩
  exact⟨false,rfl,by simp[aE e0]⟩
 rw[zBA k5];exact⟨false,rfl,by simp[k5]⟩
def zX2 (k:Int) (row:List Int) (a m:Int) (nodes:List Nd) (slot:Int) (old text:List UInt8) (l:List Nd) (hl:l.length<=1073741824) :
  zBT ((k,row,a,m,nodes,slot,old,text),l)=some (if a<0∨(l.length:Int)<a∨(l.length:Int) - a<zDS k m nodes then 2 else 0):=by
 unfold zBT;dsimp only;rw[zVI];simp only[obs];by_cases h1:a<0
 ·rw[zAD h1,if_pos (.inl h1)]; rfl
 rw[zAC h1];by_cases h2:(l.length:Int)<a
 ·rw[zAD h2,if_pos (.inr (.inl h2))]; rfl
 rw[zAC h2,wrap64_in (n:=(l.length:Int) - a) (by omega) (by omega)];by_cases h3:(l.length:Int) - a<zDS k m nodes
 ·rw[zAD h3,if_pos (.inr (.inr h3))]; rfl
 rw[zAC h3,if_neg (fun h=>h.elim h1 fun h=>h.elim h2 h3)]; rfl
def zZ6 {v it z:Nd}{s:Nat}{y:Nd} (hv:v.kids[s]? = some y) (hy:y=rowN []) (hz:it.kids[s]? = some z) (hzr:z=rowN z.kids):Nd.mk it.kind it.text it.cols (it.kids.set s (rowN []))=v↔it=zHT v s z.kids:=by
 obtain⟨v1,v2,v3,v4⟩:=v;obtain⟨i1,i2,i3,i4⟩:=it;obtain⟨z1,z2,z3,z4⟩:=z;obtain⟨rfl,rfl,rfl,-⟩:=Nd.mk.inj hzr;clear hzr;simp only[Nd.kids]at hv hz;simp only[zHT,Nd.kind,Nd.text,Nd.cols,Nd.kids];subst hy;constructor
 ·intro h;obtain⟨rfl,rfl,rfl,rfl⟩:=Nd.mk.inj h;rw[set_set];congr 1;have:=zM0 (y:=.mk 1 [] 0 z4) hz;rw[set_set]at this;exact this.symm
 intro h;obtain⟨rfl,rfl,rfl,rfl⟩:=Nd.mk.inj h;rw[set_set];congr 1;have:=zM0 (y:=rowN []) hv;rw[set_set]at this;exact this
def zNF (n:Nat) (l:List Nd) (k:Int) (row:List Int) (a m:Int) (nodes:List Nd) (slot:Int) (old text:List UInt8) (hf:FormP (k,row,a,m,nodes,slot,old,text)) (hv:zBL 1 l=true) (hn:2 * Nd.ws l+2 * Nd.ws nodes+50<n) (ha:Nd.ws l<=60000000) (hb:Nd.ws nodes<=2000000) :
  ∃ l' e,zB8 n ((k,row,a,m,nodes,slot,old,text),l)=some (l',e)/\Chg l (k,row,a,m,nodes,slot,old,text) l' e:=by
 have la:=Nd.ws_len l;have lb:=Nd.ws_len nodes;have cl:=Nd.cnts_ws l;have cb:=Nd.cnts_ws nodes;have hnn:=zUs hf;unfold zB8;simp only[zX2 _ _ _ _ _ _ _ _ l (show l.length<=1073741824 by omega),obs];by_cases hr:a<0∨(l.length:Int)<a∨(l.length:Int) - a<zDS k m nodes
 ·rw[if_pos hr]; exact⟨[],2,rfl,.range hr⟩
 rw[if_neg hr];simp only[show((0:Int) != 0)=false from rfl,ae];have h1:¬ a<0:=fun h=>hr (.inl h)
 have h2:¬ (l.length:Int)<a:=fun h=>hr (.inr (.inl h))
 have h3:¬ (l.length:Int) - a<zDS k m nodes:=fun h=>hr (.inr (.inr h))
 obtain⟨p,rfl⟩:=aM (show 0<=a by omega);obtain⟨y,hy⟩:=aM hnn;rw[hy]at h3;have hseg:=yBM l (Nat.le_add_right p y);have lseg:=Nd.ws_len ((l.take (p+y)).drop p);have cseg:=Nd.cnts_ws ((l.take (p+y)).drop p);have hj:∀ by':List Nd,by'.length<=500000000->zAR n ((k,row,(p:Int),m,nodes,slot,old,text),l) (y:Int) by'=some (splS l p (p+y) by'):=fun by' hby=>yCq n k row p y m nodes slot old text l by' (by omega) (by omega) (by omega) hby
 rcases hf with ⟨rfl | rfl,h0⟩ | ⟨rfl | rfl,hm,⟨v,s,z,rfl,rfl,hvv,hz,hzk⟩,_⟩ | ⟨rfl,h0⟩
 ·obtain rfl:y=0 :=(by have:zDS 1 m nodes=0:=rfl; omega);rw[show((0:Nat):Int)=0 from rfl]at hj;simp only[aZ,ag,zCC,hj nodes (by omega),obs];exact⟨_,0,rfl,.ins (by omega)⟩
 ·obtain rfl:y=nodes.length :=(by have:zDS 2 m nodes=(nodes.length:Int):=rfl; omega);obtain⟨r,g1,g2⟩:=(zHC n).2 ((l.take (p+nodes.length)).drop p) nodes (by omega) (by omega);simp only[show((2:Int) == 1)=false from rfl,ae,aZ,ag,zCD];rw[wrap64_in (n:=(p:Int)+(nodes.length:Int)) (by omega) (by omega),← Int.natCast_add,zA5 ⟨by omega,by omega,by omega⟩,au,au,g1];simp only[obs];cases r with
  | false=>exact⟨[],7,rfl,.del_no (by omega) fun e=>by have:=g2.2 e; cases this⟩
  | true=>
  simp only[aB,ae,hj [] (by simp),obs];exact⟨_,0,rfl,.del (by omega) (g2.1 rfl)⟩
 ·obtain rfl:m=(y:Int):=hy;obtain⟨hvk,hzr⟩:=zRr (zJ4 hvv) ak hz;rw[hzk]at hzr;have hv0:at? [v] (0:Int)=some v:=rfl;have hcv:=Nd.cnts_mem (ak (a:=v) (l:=[]));have hd:zCJ v=some v:=zA5 ⟨by omega,fun e=>by rw[e]at hz; simp at hz⟩;have hza:=zNx hz;have hcl:zDY ((l.take (p+y)).drop p)=some ((l.take (p+y)).drop p):=zA5 (by omega);have hj':=hj [zHT v s ((l.take (p+y)).drop p)] (by simp);have hfx:zHT v s ((l.take (p+y)).drop p)=Nd.mk v.kind v.text v.cols (v.kids.set s (rowN ((l.take (p+y)).drop p))):=rfl;rw[hfx]at hj';have hC:=Chg.wrap (l:=l) (row:=row) (p:=p) (m:=y) (v:=v) (s:=s) (old:=old) (text:=text) (by omega);have hfx2:zHT v s (segS l p (p+y))=Nd.mk v.kind v.text v.cols (v.kids.set s (rowN ((l.take (p+y)).drop p))):=rfl;rw[hfx2]at hC;subst hzr;obtain⟨v1,v2,v3,v4⟩:=v;simp only[Nd.kind,Nd.text,Nd.cols,Nd.kids]at hza hj' hC;unfold rowN at hza;simp only[show((3:Int) == 1)=false from rfl,show((3:Int) == 2)=false from rfl,ae,aZ,ag,zDm,hv0,hd,obs];rw[wrap64_in (n:=(p:Int)+(y:Int)) (by omega) (by omega),← Int.natCast_add,zA5 ⟨by omega,by omega,by omega⟩,au,au,hcl];simp only[obs,hza,au];unfold rowN at hj' hC;rw[hj'];exact⟨_,0,rfl,hC⟩
 ·obtain rfl:y=1 :=(by have:zDS 4 m [v]=1:=rfl; omega);obtain⟨hvk,hzr⟩:=zRr (zJ4 hvv) ak hz;rw[hzk]at hzr;have hv0:at? [v] (0:Int)=some v:=rfl;have hpl:p<l.length :=(by omega);have hit:l[p]? = some l[p]:=ac hpl;have hia:at? l (p:Int)=some l[p]:=zAH hpl;have hmem:=aV hpl;generalize l[p]=it at hit hia hmem;have hiw:=Nd.w_mem hmem;have hic:=Nd.cnt_w it;have hik:=zSP hv hmem;have hslots:=zVd it hik;have hdn:zAS it=some it:=zGV (by omega);have hwi:=zGN it;have hlk4:=Nd.ws_len it.kids;simp only[show((4:Int) == 1)=false from rfl,show((4:Int) == 2)=false from rfl,show((4:Int) == 3)=false from rfl,ae,aZ,ag];have hnone:zBe ((4,row,(p:Int),m,[v],(s:Int),old,text),l)=if (it.kids.length:Int)<=(s:Int) then some ([],7) else none:=by
   unfold zBe;simp only[hia];by_cases h:(it.kids.length:Int)<=(s:Int)
   ·rw[if_pos h];obtain⟨i1,i2,i3,i4⟩:=it;simp only[Nd.kids]at h hslots;simp only[obs,hdn,hslots,zAD h]; rfl
   rw[if_neg h];obtain⟨i1,i2,i3,i4⟩:=it;simp only[Nd.kids]at h hslots;simp only[obs,hdn,hslots,zAC h]; rfl
  by_cases hsl:(it.kids.length:Int)<=(s:Int)
  ·have:zA9 n ((4,row,(p:Int),m,[v],(s:Int),old,text),l)=some ([],7):=by
    unfold zA9;rw[hnone,if_pos hsl]
   rw[this];refine⟨[],7,rfl,.unwrap_no hit fun z' hz'=>?_⟩;have:=(aa.1 hz').1;omega
  have hsi:s<it.kids.length :=(by omega);have hzi:it.kids[s]? = some it.kids[s]:=ac hsi;generalize it.kids[s]=z' at hzi;obtain⟨_,hzr'⟩:=zRr hv hmem hzi;have hzw:=Nd.w_mem (av hzi);have hzw2:=zGN z';have hzl:=Nd.ws_len z'.kids;have hfi:=zZ6 hz hzr hzi hzr';have hws:=zJ5 (y:=rowN []) hzi;have hj':=hj z'.kids (by omega);rw[show((1:Nat):Int)=1 from rfl]at hj';have hcs:(Nd.mk it.kind it.text it.cols (it.kids.set s (rowN []))).cnt<=it.w+1:=by
   have h1:=Nd.cnt_w (Nd.mk it.kind it.text it.cols (it.kids.set s (rowN [])));have e:(rowN []).w=1:=rfl;simp only[Nd.w]at h1;omega
  obtain⟨rb,g1,g2⟩:=(zHC n).1 (Nd.mk it.kind it.text it.cols (it.kids.set s (rowN []))) v (by omega) (by omega);have hdo:zCJ it=some it:=zA5 ⟨by omega,fun e=>by rw[e]at hzi; simp at hzi⟩;have hza:=zNx hzi;have hkids:∃ l' e,zBd n ((4,row,(p:Int),m,[v],(s:Int),old,text),l)=some (l',e)/\Chg l (4,row,(p:Int),m,[v],(s:Int),old,text) l' e:=by
   unfold zBd;obtain⟨i1,i2,i3,i4⟩:=it;obtain⟨v1,v2,v3,v4⟩:=v;obtain⟨z1,z2,z3,z4⟩:=z';obtain⟨rfl,rfl,rfl,-⟩:=Nd.mk.inj hzr';simp only[Nd.kind,Nd.text,Nd.cols,Nd.kids]at hza g1 hslots hj' hsl;simp only[hia,obs,hdo,hslots,zAC hsl,ae,hza,hv0,au];by_cases hmz:(z4.length:Int)=m
   ·have:((z4.length:Int) != m)=false :=(by unfold bne; rw[bD.2 hmz]; rfl);unfold rowN at g1;rw[this];simp only[ae,g1,obs];cases rb with
    | false =>
     refine⟨[],7,rfl,.unwrap_no hit fun z'' hz'' hm'' he=>?_⟩;rw[hzi]at hz'';cases hz'';have:=g2.2 (hfi.2 he);cases this
    | true=>
    simp only[aB,ae,hj',obs];exact⟨_,0,rfl,.unwrap (z:=.mk 1 [] 0 z4) hit hzi hmz (hfi.1 (g2.1 rfl))⟩
   have:((z4.length:Int) != m)=true:=bne_iff_ne.2 hmz;rw[this];refine⟨[],7,rfl,.unwrap_no hit fun z'' hz'' hm'' he=>?_⟩;rw[hzi]at hz'';cases hz'';exact hmz hm''
  obtain⟨l',e,h4,h5⟩:=hkids;have:zA9 n ((4,row,(p:Int),m,[v],(s:Int),old,text),l)=some (l',e):=by
   unfold zA9;rw[hnone,if_neg hsl];exact h4
  rw[this];exact⟨l',e,rfl,h5⟩
 obtain rfl:y=1 :=(by have:zDS 5 m nodes=1:=rfl; omega);have hpl:p<l.length :=(by omega);have hit:l[p]? = some l[p]:=ac hpl;have hia:at? l (p:Int)=some l[p]:=zAH hpl;generalize l[p]=it at hit hia;obtain⟨i1,i2,i3,i4⟩:=it;rw[show((1:Nat):Int)=1 from rfl]at hj;simp only[show((5:Int) == 1)=false from rfl,show((5:Int) == 2)=false from rfl,show((5:Int) == 3)=false from rfl,show((5:Int) == 4)=false from rfl,ae,zDI,hia,obs,zVA];cases hlf:zWJ i1 with
 | false=>exact⟨[],7,rfl,.set_no hit fun h=>by have:=h.1; simp only[Nd.kind]at this; rw[hlf]at this; cases this⟩
 | true=>
 simp only[ag,obs];cases ht:i2 == old with
 | false=>exact⟨[],7,rfl,.set_no hit fun h=>aw.1 ht h.2⟩
 | true=>
 simp only[aB,ae,hj [Nd.mk i1 text i3 i4] (by simp),obs];exact⟨_,0,rfl,.set (it:=.mk i1 i2 i3 i4) hit hlf (aE ht)⟩
def zKB (n:Nat) (t:Nd) (o:Op8) (hn:200000000<n) (ht:t.w<=50000000) (hb:Nd.ws o.nodes<=2000000) (hx:o.2.2.2.2.2.2.2.length<=2000000):∃ t' e,zEr n t o=some (t',e)/\App t o t' e:=by
 obtain⟨k,row,a,m,nodes,slot,old,text⟩:=o;simp only[Op8.nodes]at hb;dsimp only at hx;have v1:=zCs n t (by omega) (by omega);have ct:=Nd.cnt_w t;obtain⟨b,f1,f2⟩:=zOO n k row a m nodes slot old text (by omega) (by omega);have e1:=zUv n t row v1 (by omega);have hwith:∀ r l,Fd t row r->Nd.ws l<=5000000+r.w->zE4 n t row (rowN l)=some (zU8 t row (rowN l)):=fun r l h hl=>by
  have hs:=h.small;have hc:(rowN l).w=Nd.ws l+1 :=(by simp[rowN,Nd.w]);refine zS6 n t row (rowN l) v1 (zCs n _ (by omega) (by omega)) (fun z hz=>?_) (by omega) (by have:=Nd.cnt_w (rowN l); omega);obtain rfl:=h.det hz;have:=h.w (rowN l);exact zCs n _ (by omega) (by omega)
 obtain⟨t1,t2,t3,t4⟩:=t;unfold zEr;simp only[v1,f1,e1,obs];cases hv:zAu (.mk t1 t2 t3 t4) with
 | false=>exact⟨_,1,rfl,.arg hv⟩
 | true=>
 simp only[aB,ae];cases b with
 | false=>exact⟨_,4,rfl,.form hv fun h=>by have:=f2.2 h; cases this⟩
 | true=>
 have hf:=f2.1 rfl;simp only[aB,ae,rowS,if_pos hv];cases hfd:zBn (.mk t1 t2 t3 t4) row with
 | none=>exact⟨_,8,rfl,.none hv hf hfd⟩
 | some r=>
 have hr':=zZ5 hfd;have hsm:=hr'.small;have hwr:=zGN r;have hvr:=hr'.valid hv;have hrr:=(zLc hvr).1;have hfr:=(zLc hvr).2;obtain⟨l',e,c1,c2⟩:=zNF n r.kids k row a m nodes slot old text hf hfr (by omega) (by omega) (by omega);obtain⟨r1,r2,r3,r4⟩:=r;obtain⟨rfl,rfl,rfl,-⟩:=Nd.mk.inj hrr;simp only[Nd.kids]at c1 c2 hwr;simp only[obs,show((0:Int) != 0)=false from rfl,ae,c1];by_cases he:e=0
 ·subst he;have hcw:=c2.w;have hw:=hwith _ l' hr' (by omega);unfold rowN at hw;simp only[show((0:Int) != 0)=false from rfl,ae,hw,obs];cases hvo:zAu (putL (.mk t1 t2 t3 t4) row (rowN l')) with
  | false =>
   have hL:=App.limit (t:=.mk t1 t2 t3 t4) (o:=(k,row,a,m,nodes,slot,old,text)) hv hf hr' c2 hvo;have hws:∃ q,zU8 (.mk t1 t2 t3 t4) row (.mk 1 [] 0 l')=(zCv,q)/\q ≠ 0:=by
    unfold zU8;rw[if_pos hv,hfd];dsimp only;by_cases h:zAu (.mk 1 [] 0 l')=true
    ·rw[if_pos h];unfold rowN at hvo;rw[hvo,if_neg (by decide)];exact⟨6,rfl,by decide⟩
    rw[if_neg h]; exact⟨4,rfl,by decide⟩
   obtain⟨q,hq,hq0⟩:=hws;rw[hq];have:(q != 0)=true:=bne_iff_ne.2 hq0;simp only[zCv,this,ag];exact⟨_,6,rfl,hL⟩
  | true=>
  have hO:=App.ok (t:=.mk t1 t2 t3 t4) (o:=(k,row,a,m,nodes,slot,old,text)) hv hf hr' c2 hvo;have hvl:=(hr'.put (rowN l')).valid hvo;have hws:=yBn (r:=rowN l') hv hfd hvl hvo;unfold rowN at hws;rw[hws];dsimp only at hO;unfold rowN at hO;generalize putL (Nd.mk t1 t2 t3 t4) row (Nd.mk 1 [] 0 l')=Z at *;obtain⟨q1,q2,q3,q4⟩:=Z;exact⟨_,0,rfl,hO⟩
 have:(e != 0)=true:=bne_iff_ne.2 he;simp only[this,ag];exact⟨_,e,rfl,.chg (t:=.mk t1 t2 t3 t4) (o:=(k,row,a,m,nodes,slot,old,text)) hv hf hr' c2 he⟩
def App.w {t t':Nd}{o:Op8}{e:Int} (h:App t o t' e):t'.w<=t.w+Nd.ws o.nodes+o.2.2.2.2.2.2.2.length+4:=by
 have hz:zCv.w=1:=rfl;obtain⟨k,row,a,m,nodes,slot,old,text⟩:=o;simp only[Op8.nodes];cases h with
 | arg=>omega
 | form=>omega
 | none=>omega
 | chg=>omega
 | limit=>omega
 | @ok r l h hf hr hc hv=>
 have h1:=hr.w (rowN l);have h2:=hc.w;have h3:=zGN r;have h4:(rowN l).w=Nd.ws l+1 :=(by simp[rowN,Nd.w]);dsimp only at h1 ⊢;omega
def yB9 (n:Nat) (t:Nd) (o:Op8) (hn:200000000<n) (ht:t.w<=50000000) (hb:Nd.ws o.nodes<=2000000) (hx:o.text.length<=2000000) (hr:o.row.length<=2000000) :
  ∃ t' e,zEr n t o=some (t',e)/\zEg n t o=some (t',e)/\App t o t' e:=by
 obtain⟨t1,e1,f1,g1⟩:=zKB n t o hn ht hb hx;obtain⟨t2,e2,f2,g2⟩:=zMq n t o hn ht hb hx hr;obtain⟨rfl,rfl⟩:=g1.det g2;exact⟨_,_,f1,f2,g1⟩
inductive Runs:Nd->List Op8->Nd->Int->Prop
 | nil (t:Nd):Runs t [] t 0
 | stop {t t':Nd} {o:Op8} {ops:List Op8} {e:Int} (h:App t o t' e) (he:e ≠ 0):Runs t (o::ops) zCv e
 | next {t t' u:Nd} {o:Op8} {ops:List Op8} {e:Int} (h:App t o t' 0) (hr:Runs t' ops u e):Runs t (o::ops) u e
def endOf (f:Fl (Nd×Int×Int) (Int×List UInt8×Int×List Nd)):Nd×Int×Int:=match f with
 | .ret r=>r
 | .go (a,b,c,d)=>(.mk a b c d,0,0)
def zVg (n:Nat) (hn:200000000<n){ops:List Op8} (ho:∀ o∈ops,Nd.ws o.nodes+o.text.length+o.row.length<=1048576) (hl:ops.length<=12):∀ (k i:Nat) (t:Nd),ops.length - i<k->i<=ops.length->t.w<=17000000+i * 1048580 ->
  ∃ f,zA0 n ops k t.kind t.text t.cols t.kids (i:Int)=some f/\zBB n ops k t.kind t.text t.cols t.kids (i:Int)=some f/\Runs t (ops.drop i) (endOf f).1 (endOf f).2.2/\(endOf f).1.w<=36000000
 | 0,i,t,h,_,_=>by omega
 | k+1,i,t,h,hi,hw=>by
  unfold zA0 zBB;by_cases hj:i<ops.length
  ·have hb:=ho _ (aV hj);have hd:=aO hj;obtain⟨t',e,g1,g2,g3⟩:=yB9 n t ops[i] hn (by omega) (by omega) (by omega) (by omega);have hw':=g3.w;rw[zAD (aK.2 hj),zAH hj,hd];simp only[ag];generalize ops[i]=o at *;obtain⟨q1,q2,q3,q4,q5,q6,q7,q8⟩:=o;obtain⟨t1,t2,t3,t4⟩:=t;have ih:=zVg n hn ho hl k (i+1) t' (by omega) (by omega) (by simp only[Op8.text]at hb; dsimp only at hw' hb; simp only[Nat.add_mul]; omega);obtain⟨u1,u2,u3,u4⟩:=t';simp only[Nd.kind,Nd.text,Nd.cols,Nd.kids]at ih ⊢;simp only[obs,g1,g2];by_cases he:e=0
   ·subst he;simp only[show((0:Int) != 0)=false from rfl,ae,zAG (show i<9223372036854775807 by omega)];obtain⟨f,h1,h2,h3,h4⟩:=ih;exact⟨f,h1,h2,.next g3 h3,h4⟩
   ·have hne:(e != 0)=true:=bne_iff_ne.2 he;simp only[hne,ag];exact⟨_,rfl,rfl,.stop g3 he,by show zCv.w<=36000000; decide⟩
  ·rw[zAC (by omega),bB.2 (by omega)];obtain⟨t1,t2,t3,t4⟩:=t;simp only[ae];refine⟨_,rfl,rfl,.nil _,?_⟩;show(Nd.mk t1 t2 t3 t4).w<=36000000;have:i * 1048580<=12 * 1048580:=bh _ (by omega);omega
inductive zZN (t:Nd) (ops:List Op8):Nd->Int->Prop
 | bad (h:zAu t=false):zZN t ops zCv 1
 | go {u:Nd} {e:Int} (h:zAu t=true) (hr:Runs t ops u e):zZN t ops u e
def yDe (n:Nat) (t:Nd) (ops:List Op8) (hn:200000000<n) (ht:t.w<=17000000) (ho:∀ o∈ops,Nd.ws o.nodes+o.text.length+o.row.length<=1048576) (hl:ops.length<=12) :
  ∃ u i e,zA4 n t ops=some (u,i,e)/\zDe n t ops=some (u,i,e)/\zZN t ops u e/\u.w<=36000000:=by
 have ct:=Nd.cnt_w t;have v1:=zCs n t (by omega) (by omega);have v2:=zEy n t (by omega) (by omega);have hd:zAS t=some t:=zGV (by omega);obtain⟨f,h1,h2,h3,h4⟩:=zVg n hn ho hl n 0 t (by omega) (by omega) (by omega);rw[show((0:Nat):Int)=0 from rfl]at h1 h2;rw[drop_zero]at h3;obtain⟨t1,t2,t3,t4⟩:=t;simp only[Nd.kind,Nd.text,Nd.cols,Nd.kids]at h1 h2;unfold zA4 zDe;simp only[v1,v2,obs,hd,h1,h2];cases hv:zAu (.mk t1 t2 t3 t4) with
 | false=>exact⟨_,0,1,rfl,rfl,.bad hv,by decide⟩
 | true=>
 simp only[aB,ae];cases f with
 | ret r=>obtain⟨u,i,e⟩:=r;exact⟨u,i,e,rfl,rfl,.go hv h3,h4⟩
 | go g=>obtain⟨a,b,c,d⟩:=g;exact⟨_,0,0,rfl,rfl,.go hv h3,h4⟩
end
end Go.Proofs.YtbfnjnljboncgaaGreat
