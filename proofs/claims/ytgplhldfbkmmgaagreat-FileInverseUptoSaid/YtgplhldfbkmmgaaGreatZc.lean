/-
  Joined out of: AbsQ, MTyp, MCv, MLib, MNod, MCnt, AbsS, AbsT, AbsU, AbsV, AbsW, AbsX, MOwn, FzA, LibS, LibD, LibF, MEd, MEh, MEe, MEj, MDe, MHs, MCo, MFi.
-/
import Derived.Lib.Strings
import Derived.Lib.Slices
import Derived.Lib.Bytealg
import Derived.Lib.ItoaNum
import Derived.Test.YtgplhldfbkmmgaaGreatProg
import Derived.KernelRfl
import Derived.Lib.Walk
import Derived.Test.YtgplhldfbkmmgaaGreatZb
set_option linter.unusedVariables false
set_option linter.unusedSimpArgs false
set_option maxHeartbeats 2000000
set_option maxRecDepth 100000
namespace Go.Abs
def req {α:Type} (φ:Prop) [Decidable φ] (K:Option α):Option α:=if φ then K else none
theorem zAI {α:Type}{φ:Prop} [Decidable φ] {K:Option α}{r:α} (h:req φ K=some r):φ/\K=some r:=by
 unfold req at h;split at h
 ·exact⟨by assumption,h⟩
 ·cases h
theorem zAK {α:Type}{φ:Prop} [Decidable φ] {K:Option α} (h:φ):req φ K=K:=if_pos h
theorem zAc {α β:Type}{o:Option α}{f:α->Option β}{r:β} (h:o.bind f=some r):∃ x,o=some x/\f x=some r:=by
 cases o with
 | none=>cases h
 | some x=>exact⟨x,rfl,h⟩
theorem zAF {α:Type}{b:Bool}{A B:Option α}{r:α} (hb:b=true) (h:(bif b then A else B)=some r):A=some r:=by subst hb; exact h
theorem zAE {α:Type}{b:Bool}{A B:Option α}{r:α} (hb:b=false) (h:(bif b then A else B)=some r):B=some r:=by subst hb; exact h
theorem obs {α β:Type} (a:α) (f:α->Option β):(some a).bind f=f a :=
 rfl
theorem osi {α:Type}{a b:α} (h:some a=some b):a=b :=
 Option.some.inj h
theorem zAh {c:Cx}{σ:St}{Q:End->St->Prop}{x y:Code}{t:Nat}{b:Bool}{α:Type}{A B:Option α}{r:α} (hb:σ.env t = .s (.bool b)) (h:(bif b then A else B)=some r) (h1:b=true->A=some r->Tri c x σ Q) (h2:b=false->B=some r->Tri c y σ Q):Tri c (.cond (.tmp t) x y) σ Q :=
 zA0 hb (fun e=>h1 e (zAF e h)) (fun e=>h2 e (zAE e h))
theorem pij {α β:Type}{a c:α}{b d:β} (h:some (a,b)=some (c,d)):a=c/\b=d :=
 Prod.mk.inj (Option.some.inj h)
inductive Fl (R G:Type) where
 | ret (r:R)
 | go (g:G)
def at? {α:Type} (l:List α) (i:Int):Option α:=if 0<=i then l[i.toNat]? else none
theorem zAt {α:Type}{R:List α->List (List S)}{f:α->List S} (hR:∀ l,R l=l.map f){l:List α}{i:Int}{y:α} (h:at? l i=some y) :
  (0<=i/\i<((R l).length:Int))/\(R l).getD i.toNat []=f y/\i.toNat<(R l).length:=by
 unfold at? at h;split at h
 ·rename_i h0
  obtain⟨hl,hy⟩:=List.getElem?_eq_some_iff.1 h;rw[hR,List.length_map]
  exact⟨⟨h0,by omega⟩,by simp[h],hl⟩
 ·cases h
theorem zAv {α:Type}{l:List α}{i:Nat} (h:i<l.length):at? l (i:Int)=some l[i]:=by
 simp[at?,h]
theorem rlen {α:Type}{R:List α->List (List S)}{f:α->List S} (hR:∀ l,R l=l.map f) (l:List α):(R l).length=l.length:=by rw[hR,List.length_map]
theorem rcut {α:Type}{R:List α->List (List S)}{f:α->List S} (hR:∀ l,R l=l.map f) (l:List α) (a b:Nat):((R l).take b).drop a=R ((l.take b).drop a):=by
 rw[hR,hR,List.map_drop,List.map_take]
theorem at_set {α:Type}{l:List α}{i:Int}{y:α} (h:at? l i=some y) (y':α):at? (l.set i.toNat y') i=some y':=by
 unfold at? at h ⊢;split at h
 ·rename_i h0
  rw[if_pos h0]
  rw[List.getElem?_set_self (List.getElem?_eq_some_iff.1 h).1]
 ·cases h
theorem rset {α:Type}{R:List α->List (List S)}{f:α->List S} (hR:∀ l,R l=l.map f){l:List α}{i:Int}{y:α} (h:at? l i=some y) (y':α) (o n:Nat) (ss:List S) (hs:(f y).take o++ss++(f y).drop n=f y') :
  (R l).set i.toNat (((R l).getD i.toNat []).take o++ss++((R l).getD i.toNat []).drop n)=R (l.set i.toNat y'):=by
 rw[(zAt hR h).2.1,hs,hR,hR,List.map_set]
def b8of (n:Int):UInt8:=UInt8.ofNat n.toNat
theorem zGp {n:Int} (h0:0<=n) (h1:n<=255):[S.int .u8 n]=brow (b8of n):=by
 have:(b8of n).toNat=n.toNat :=(by simp[b8of,UInt8.toNat_ofNat']; omega);simp only[brow,this,Int.toNat_of_nonneg h0]
theorem zPj (n:Int):0<=IntKind.u8.wrap n/\IntKind.u8.wrap n<=255:=by
 have:IntKind.u8.wrap n=n % 256:=by
  simp only[IntKind.wrap,IntKind.bits,IntKind.signed]
  simp
 rw[this]; omega
theorem zFV (n:Int):[S.int .u8 (IntKind.u8.wrap n)]=brow (b8of (IntKind.u8.wrap n)):=zGp (zPj n).1 (zPj n).2
theorem zEB (l:List UInt8):(l.map brow).map zHv=l:=by
 induction l with
 | nil=>rfl
 | cons c l ih =>
  have:zHv (brow c)=c :=(by simp[zHv,brow]);simp only[List.map_cons,this,ih]
theorem zAo {c:Cx}{σ:St}{Q:End->St->Prop}{x:Code} (σ1:St) (h1:Tri c x σ (fun e σ'=>match e with | .normal=>Le c σ' σ1 | e=>Q e σ')) (h2:∀ σ',Le c σ' σ1->Q .normal σ'):Tri c x σ Q :=
 zRK h1 fun e σ' hq=>by
  cases e with
  | normal=>exact h2 σ' hq
  | exit id=>exact hq
  | ret=>exact hq
theorem zDe {c:Cx}{σ:St}{Q:End->St->Prop}{x:Code}{R Z:Type}{fl:Fl R Z} (E:Z->St) (h1:Tri c x σ (fun e σ'=>match e with | .normal=>∃ z,fl = .go z/\Le c σ' (E z) | e=>Q e σ'))
  (h2:∀ z σ',fl = .go z->Le c σ' (E z)->Q .normal σ'):Tri c x σ Q :=
 zRK h1 fun e σ' hq=>by
  cases e with
  | normal=>obtain⟨z,h3,h4⟩:=hq; exact h2 z σ' h3 h4
  | exit id=>exact hq
  | ret=>exact hq
theorem zFv {l:List UInt8}{i:Int}{y:UInt8} (h:at? l i=some y):(0<=i/\i<(l.length:Int))/\((l.getD i.toNat 0).toNat:Int)=(y.toNat:Int):=by
 unfold at? at h;split at h
 ·rename_i h0
  obtain⟨hl,hy⟩:=List.getElem?_eq_some_iff.1 h;exact⟨⟨h0,by omega⟩,by simp[h]⟩
 ·cases h
theorem PSound.withNil {P:Program}{f:Nat}{R:List AV->List Ob->AV->List (Option Ob)->Prop} (h:PSound P f (zBK R)) (k:Option Nat):PSound P f (zBK R k):=⟨h.1,h.2.1,h.2.2.1,fun R hR=>by cases hR⟩
theorem zHb {P:Program}{f:Nat}{R:List AV->List Ob->AV->List (Option Ob)->Prop} (hcall:∀ args w,(callFunc f args).run P w = .ok (.enter f args) w) (h:∀ xs os x os',¬ R xs os x os') (k:Option Nat):PSound P f (zBK R k) :=
 ⟨hcall,fun G w xs vs r _ _ _ _ hs=>hs.elim,fun R' hR'=>(by
  obtain rfl:R=R' :=(by simpa [zBK] using hR');exact fun G w β xs vs os x os' _ _ _ _ _ hs=>absurd hs (h xs os x os')),fun R hR=>(by cases hR)⟩
theorem zIl {P:Program}{f:Nat}{s:Nat->List AV->List Ob->AV->List (Option Ob)->Prop}{k:Option Nat} (h:∀ n,PSound P f (zBK (s n) k)) (k':Option Nat):PSound P f (zBK (fun xs os x os'=>∃ n,s n xs os x os') k') :=
 ⟨(h 0).1,fun G w xs vs r _ _ _ _ hs=>hs.elim,fun R' hR'=>(by
  obtain rfl:(fun xs os x os'=>∃ n,s n xs os x os')=R' :=(by simpa [zBK] using hR');exact fun G w β xs vs os x os' h1 h2 h3 h4 h5 ⟨n,hs⟩=>(h n).2.2.1 (s n) rfl G w β xs vs os x os' h1 h2 h3 h4 h5 hs),fun R hR=>(by cases hR)⟩
theorem zKY {α:Type}{l:List α}{i:Nat}{v:α}{r:List α} (h:l.drop i=v::r):at? l (i:Int)=some v:=by
 have hi:i<l.length:=by
  rcases Nat.lt_or_ge i l.length with h1 | h1
  ·exact h1
  ·rw[List.drop_eq_nil_of_le h1]at h; cases h
 rw[zAv hi]
 rw[List.drop_eq_getElem_cons hi]at h;exact congrArg some (List.cons.inj h).1
theorem zJf {α:Type}{l:List α}{i:Nat}{v:α}{r:List α} (h:l.drop i=v::r):i<l.length:=by
 rcases Nat.lt_or_ge i l.length with h1 | h1
 ·exact h1
 ·rw[List.drop_eq_nil_of_le h1]at h; cases h
theorem zK1 {α:Type}{l:List α}{i:Nat}{v:α}{r:List α} (h:l.drop i=v::r):l.drop (i+1)=r:=by
 rw[List.drop_eq_getElem_cons (zJf h)]at h;exact(List.cons.inj h).2
theorem zRa {α:Type}{l:List α}{i:Nat}{v:α}{r:List α} (h:l.drop i=v::r):decide ((i:Int)<(l.length:Int))=true:=by
 have:=zJf h
 simpa using this
theorem zNO {α:Type}{l:List α}{i:Nat} (h:l.drop i=[]):decide ((i:Int)<(l.length:Int))=false:=by
 have:=List.drop_eq_nil_iff.1 h
 simpa using this
theorem zAy {i:Nat} (h:i<9223372036854775807):IntKind.i64.wrap ((i:Int)+1)=((i+1:Nat):Int):=by
 rw[wrap64_in (by omega) (by omega)]; rfl
end Go.Abs
namespace Go.Proofs.YtgplhldfbkmmgaaGreat
open Go.Abs
inductive Nd where
 | mk (kind:Int) (text:List UInt8) (cols:Int) (kids:List Nd)
abbrev zO8:=Int×List Int×Int×Int×List Nd×Int×List UInt8×List UInt8
abbrev zCu:=List Int×List Int
abbrev zRc:=List zO8×zCu×zCu
mutual
def Nd.enc:Nd->List S
 | .mk k t c ks=>[.int .i64 k,.str t,.int .i64 c,.sl 4 (Nd.encs ks)]
def Nd.encs:List Nd->List (List S)
 | []=>[]
 | v::vs=>v.enc::Nd.encs vs
end
mutual
def Nd.w:Nd->Nat
 | .mk _ t _ ks=>t.length+Nd.ws ks+1
def Nd.ws:List Nd->Nat
 | []=>0
 | v::vs=>v.w+Nd.ws vs+1
end
def zIX (n:Int):Prop:=-9223372036854775808<=n/\n<=9223372036854775807
mutual
def Nd.rng:Nd->Prop
 | .mk k _ c ks=>zIX k/\zIX c/\Nd.rngs ks
def Nd.rngs:List Nd->Prop
 | []=>True
 | v::vs=>v.rng/\Nd.rngs vs
end
theorem Nd.encs_eq:∀ (vs:List Nd),Nd.encs vs=vs.map Nd.enc
 | []=>rfl
 | v::vs=>by simp[Nd.encs,Nd.encs_eq vs]
theorem Nd.rngAll:∀ {vs:List Nd},(∀ v∈vs,v.rng)->Nd.rngs vs
 | [],_=>trivial
 | v::vs,h=>⟨h v List.mem_cons_self,Nd.rngAll fun u hu=>h u (List.mem_cons_of_mem _ hu)⟩
theorem Nd.w_mem:∀ {vs:List Nd}{v:Nd},v∈vs->v.w<Nd.ws vs
 | u::vs,v,hm=>by
  simp only[Nd.ws]
  rcases List.mem_cons.1 hm with rfl | hm
  ·omega
  ·have:=Nd.w_mem hm; omega
theorem Nd.ws_len:∀ (vs:List Nd),vs.length<=Nd.ws vs
 | []=>Nat.le_refl _
 | v::vs=>by have:=Nd.ws_len vs; simp only[Nd.ws,List.length_cons]; omega
theorem Nd.ws_append:∀ (a b:List Nd),Nd.ws (a++b)=Nd.ws a+Nd.ws b
 | [],b=>by simp[Nd.ws]
 | v::a,b=>by simp only[List.cons_append,Nd.ws,Nd.ws_append a b]; omega
mutual
theorem Nd.w_bulk:∀ (v:Nd),v.w+1<=zCS v.enc
 | .mk k t c vs=>by
  have:=Nd.ws_bulk vs
  simp only[Nd.w,Nd.enc,zCS,S.bulk]; omega
theorem Nd.ws_bulk:∀ (vs:List Nd),Nd.ws vs<=zD1 (Nd.encs vs)
 | []=>Nat.zero_le _
 | v::vs=>by
  have h1:=Nd.w_bulk v
  have h2:=Nd.ws_bulk vs
  simp only[Nd.ws,Nd.encs,zD1]; omega
end
theorem zQG {T:Nat->Option TI}{e s ki st:Nat}{i j k1 k2:TI} (he:T e=some i) (hk:i.k = .struct [(0,ki),(1,st),(2,ki),(3,s)]) (hs:T s=some j) (hj:j.k = .slice e) (hz:szOf T e=4)
  (hi:T ki=some k1) (hki:k1.k = .int .i64) (ht:T st=some k2) (hkt:k2.k = .str) :
  ∀ (n:Nat) {ss:List S},Typed T n e ss->∃ t:Nd,ss=t.enc/\t.rng:=by
 intro n
 induction n using Nat.strongRecOn with
 | _ n ih =>
  intro ss h;obtain⟨m,rfl,a0,q0,rfl,u0,a1,q1,rfl,u1,a2,q2,rfl,u2,a3,q3,rfl,u3,rfl⟩:=zF8 (T:=T) he hk h;obtain⟨k,rfl,k1,k2⟩:=zFo (T:=T) (k:=.i64) hi hki u0;obtain⟨t,rfl,_⟩:=zMl (T:=T) ht hkt u1;obtain⟨c,rfl,c1,c2⟩:=zFo (T:=T) (k:=.i64) hi hki u2;obtain⟨m',rows,rfl,rfl,_,hr⟩:=zFL (T:=T) hs hj u3;obtain⟨ks,rfl,hks⟩:=zKX (f:=Nd.enc) (q:=Nd.rng) (l:=rows) fun r hr'=>ih m' (by omega) (hr r hr')
  refine⟨.mk k t c ks,by simp only[Nd.enc,Nd.encs_eq,hz]; rfl,?_⟩
  have e1:IntKind.i64.min = -9223372036854775808/\IntKind.i64.max=9223372036854775807 :=(by decide);rw[e1.1]at k1 c1; rw[e1.2]at k2 c2
  exact⟨⟨k1,k2⟩,⟨c1,c2⟩,Nd.rngAll hks⟩
inductive CV where
 | mk (kind int:Int) (text:List UInt8) (list:List CV)
mutual
def CV.enc:CV->List S
 | .mk k n t vs=>[.int .i64 k,.int .i64 n,.str t,.sl 4 (CV.encs vs)]
def CV.encs:List CV->List (List S)
 | []=>[]
 | v::vs=>v.enc::CV.encs vs
end
mutual
def CV.w:CV->Nat
 | .mk _ _ t vs=>t.length+CV.ws vs+1
def CV.ws:List CV->Nat
 | []=>0
 | v::vs=>v.w+CV.ws vs+1
end
mutual
def CV.rng:CV->Prop
 | .mk k n t vs=>zIX k/\zIX n/\CV.rngs vs
def CV.rngs:List CV->Prop
 | []=>True
 | v::vs=>v.rng/\CV.rngs vs
end
theorem CV.encs_eq:∀ (vs:List CV),CV.encs vs=vs.map CV.enc
 | []=>rfl
 | v::vs=>by simp[CV.encs,CV.encs_eq vs]
theorem CV.rngAll:∀ {vs:List CV},(∀ v∈vs,v.rng)->CV.rngs vs
 | [],_=>trivial
 | v::vs,h=>⟨h v List.mem_cons_self,CV.rngAll fun u hu=>h u (List.mem_cons_of_mem _ hu)⟩
theorem CV.rng_mem:∀ {vs:List CV}{v:CV},CV.rngs vs->v∈vs->v.rng
 | u::vs,v,h,hm=>by
  rcases List.mem_cons.1 hm with rfl | hm
  ·exact h.1
  ·exact CV.rng_mem h.2 hm
theorem CV.w_mem:∀ {vs:List CV}{v:CV},v∈vs->v.w<CV.ws vs
 | u::vs,v,hm=>by
  simp only[CV.ws]
  rcases List.mem_cons.1 hm with rfl | hm
  ·omega
  ·have:=CV.w_mem hm; omega
theorem CV.ws_len:∀ (vs:List CV),vs.length<=CV.ws vs
 | []=>Nat.le_refl _
 | v::vs=>by have:=CV.ws_len vs; simp only[CV.ws,List.length_cons]; omega
def zBD:Option CV:=some (.mk 3 0 [] [])
def zES (s p:List UInt8):Option Int:=req (p.length=1) <| some (Lib.indexByte s (p.headD 0))
def zFm (s p:List UInt8):Option Bool:=req (p.length=1) <| some (decide (0<=Lib.indexByte s (p.headD 0)))
def zDG (s:List UInt8) (c:Int):Option Int:=some (Lib.indexByte s c.toNat.toUInt8)
def zER (n:Int):Option (List Nd):=req (0<=n/\n<=1073741824) (some [])
def zEz (l:List Nd):Option (List Nd):=req (l.length<=4294967296) (some l)
def zCC:(List UInt8)->Option Bool
| s1=>some (s1 == [])
def zBI (s1:List UInt8):Nat->Int->Option (Fl Bool Unit)
| 0,_=>none
| k+1,i2=>bif decide (i2<(s1.length:Int)) then ((at? s1 i2).bind fun c3=>(bif decide ((zCD .or .u8 (c3.toNat:Int) 32)<97) then (some true) else (some (decide (122<(zCD .or .u8 (c3.toNat:Int) 32)))):Option (Bool)).bind fun x5=>bif x5 then (some (.ret false)) else (zBI s1 k (IntKind.i64.wrap (i2+1)))) else (some (.go ()))
def zDV (n:Nat):(List UInt8)->Option Bool
| s1=>(zBI s1 n 0).bind fun fl=>match fl with
 | .ret r=>some r
 | .go _=>some true
def zEI:(List UInt8)->Option Bool
| s1=>((bif (s1 == [102,114,97,99]) then (some (s1 == [102,114,97,99])) else (bif (s1 == [114,111,111,116]) then (some (s1 == [114,111,111,116])) else (bif (s1 == [109,97,116,114,105,120]) then (some (s1 == [109,97,116,114,105,120])) else (some (s1 == [102,101,110,99,101])))):Option (Bool)).bind fun x2=>bif x2 then (some (.ret true)) else (some (.go ())):Option (Fl Bool Unit)).bind fun fl=>match fl with
 | .ret r=>some r
 | .go _=>some false
def zEn:(List UInt8)->Option Bool
| s1=>((bif (s1 == [104,97,116]) then (some (s1 == [104,97,116])) else (bif (s1 == [98,97,114]) then (some (s1 == [98,97,114])) else (bif (s1 == [118,101,99]) then (some (s1 == [118,101,99])) else (bif (s1 == [100,111,116]) then (some (s1 == [100,111,116])) else (bif (s1 == [116,105,108,100,101]) then (some (s1 == [116,105,108,100,101])) else (some (s1 == [99,104,101,99,107])))))):Option (Bool)).bind fun x2=>bif x2 then (some (.ret true)) else (some (.go ())):Option (Fl Bool Unit)).bind fun fl=>match fl with
 | .ret r=>some r
 | .go _=>some false
def zFe (n:Nat):(List UInt8)->Option Bool
| s1=>bif ((s1.length:Int) == 1) then (((zDV n s1).bind fun y3=>bif y3 then (some true) else ((zFm [43,45,42,47,61,60,62,44,59,58,33,124,39,63,126,64] s1).bind fun y4=>some y4):Option (Bool)).bind fun x2=>some x2) else ((bif decide (2<=(s1.length:Int)) then (bif decide ((s1.length:Int)<=16) then ((zDV n s1).bind fun y6=>bif y6 then ((zEI s1).bind fun y7=>bif (!y7) then ((zEn s1).bind fun y8=>some (!y8)) else (some false)) else (some false)) else (some false)) else (some false):Option (Bool)).bind fun x5=>some x5)
def zDv:(List UInt8)->(List UInt8)->Option ((List UInt8)×(List UInt8)×Bool)
| s1,sep2=>(zES s1 sep2).bind fun y3=>bif decide (0<=y3) then (req (0<=(0:Int)/\(0:Int)<=y3/\y3<=(s1.length:Int)) <| req (0<=(IntKind.i64.wrap (y3+(sep2.length:Int)))/\(IntKind.i64.wrap (y3+(sep2.length:Int)))<=(s1.length:Int)/\(s1.length:Int)<=(s1.length:Int)) <| some ((s1.take y3.toNat).drop (0:Int).toNat,(s1.take (s1.length:Int).toNat).drop (IntKind.i64.wrap (y3+(sep2.length:Int))).toNat,true)) else (some (s1,[],false))
def zFn:(List UInt8)->(List UInt8)->Option ((List UInt8)×(List UInt8)×Bool)
| s1,sep2=>(zDv s1 sep2).bind fun⟨y3,y4,y5⟩=>some (y3,y4,y5)
def zBV (s1:List UInt8):Nat->Int->Option (Fl Bool Unit)
| 0,_=>none
| k+1,i2=>bif decide (i2<(s1.length:Int)) then (((at? s1 i2).bind fun c4=>bif decide ((c4.toNat:Int)<48) then (some true) else ((at? s1 i2).bind fun c6=>some (decide (57<(c6.toNat:Int)))):Option (Bool)).bind fun x3=>bif x3 then (some (.ret false)) else (zBV s1 k (IntKind.i64.wrap (i2+1)))) else (some (.go ()))
def zEo (n:Nat):(List UInt8)->Option Bool
| s1=>(zBV s1 n 0).bind fun fl=>match fl with
 | .ret r=>some r
 | .go _=>some (!(s1 == []))
def zEm (n:Nat):(List UInt8)->Option Bool
| s1=>(zFn s1 [46]).bind fun⟨y2,y3,y4⟩=>(bif decide ((s1.length:Int)<=20) then ((zEo n y2).bind fun y6=>bif y6 then (bif (!y4) then (some true) else ((zEo n y3).bind fun y7=>some y7)) else (some false)) else (some false):Option (Bool)).bind fun x5=>some x5
def zCd (s1:List UInt8):Nat->Int->Option (Fl Bool Unit)
| 0,_=>none
| k+1,i2=>bif decide (i2<(s1.length:Int)) then (((at? s1 i2).bind fun c4=>bif decide ((c4.toNat:Int)<32) then (some true) else ((at? s1 i2).bind fun c6=>some (decide (126<(c6.toNat:Int)))):Option (Bool)).bind fun x3=>bif x3 then (some (.ret false)) else (zCd s1 k (IntKind.i64.wrap (i2+1)))) else (some (.go ()))
def zF1 (n:Nat):(List UInt8)->Option Bool
| s1=>(zCd s1 n 0).bind fun fl=>match fl with
 | .ret r=>some r
 | .go _=>some (decide ((s1.length:Int)<=200))
def zF0:(List UInt8)->Option Bool
| s1=>(bif ((s1.length:Int) == 2) then ((at? s1 0).bind fun c3=>(zDG [40,41,91,93,123,125,60,62,47,124,46] (c3.toNat:Int)).bind fun y5=>bif decide (0<=y5) then ((at? s1 1).bind fun c6=>(zDG [40,41,91,93,123,125,60,62,47,124,46] (c6.toNat:Int)).bind fun y8=>some (decide (0<=y8))) else (some false)) else (some false):Option (Bool)).bind fun x2=>some x2
def zHz:Option Unit
:= some ()
def zC5 (n:Nat):(Unit×Int)->Nd->Option (Bool×(Unit×Int))
| ⟨_,o1G⟩,⟨a2A,a2B,a2F,a2E⟩=>(bif decide (a2A<1) then (some true) else (bif decide (12<a2A) then (some true) else (bif (a2A == 1) then ((zCC a2B).bind fun y4=>some (!y4)) else (bif (a2A == 2) then ((zFe n a2B).bind fun y5=>some (!y5)) else (bif (a2A == 3) then ((zEm n a2B).bind fun y6=>some (!y6)) else (bif (a2A == 4) then ((zF1 n a2B).bind fun y7=>some (!y7)) else (bif (a2A == 5) then ((zCC a2B).bind fun y8=>some (!y8)) else (bif (a2A == 6) then ((zCC a2B).bind fun y9=>some (!y9)) else (bif (a2A == 7) then ((zCC a2B).bind fun y10=>some (!y10)) else (bif (a2A == 8) then ((zCC a2B).bind fun y11=>some (!y11)) else (bif (a2A == 9) then ((zCC a2B).bind fun y12=>some (!y12)) else (
             bif (a2A == 10) then ((zEn a2B).bind fun y13=>some (!y13)) else (bif (a2A == 11) then ((zF0 a2B).bind fun y14=>some (!y14)) else (bif (a2A == 12) then ((zCC a2B).bind fun y15=>some (!y15)) else (none)))))))))))))):Option (Bool)).bind fun x3=>bif x3 then (some (false,((),o1G))) else (bif (a2A == 1) then ((bif (a2F == 0) then (some (decide ((a2E.length:Int)<=200))) else (some false):Option (Bool)).bind fun x16=>some (x16,((),o1G))) else (bif (a2A == 12) then ((bif decide (1<=a2F) then (bif decide (a2F<=16) then (bif decide (1<=(a2E.length:Int)) then (bif decide ((a2E.length:Int)<=256) then (req (a2F ≠ 0) <| some (((a2E.length:Int).tmod a2F) == 0)) else (some false)) else (some false)) else (some false)) else (some false)
     : Option (Bool)).bind fun x18=>some (x18,((),o1G))) else ((bif (a2F == 0) then (bif (a2A == 1) then (some ((a2E.length:Int) == 0)) else (bif (a2A == 2) then (some ((a2E.length:Int) == 0)) else (bif (a2A == 3) then (some ((a2E.length:Int) == 0)) else (bif (a2A == 4) then (some ((a2E.length:Int) == 0)) else (bif (a2A == 5) then (some ((a2E.length:Int) == 2)) else (bif (a2A == 6) then (some ((a2E.length:Int) == 2)) else (bif (a2A == 7) then (some ((a2E.length:Int) == 2)) else (bif (a2A == 8) then (some ((a2E.length:Int) == 2)) else (bif (a2A == 9) then (some ((a2E.length:Int) == 3)) else (bif (a2A == 10) then (some ((a2E.length:Int) == 1)) else (bif (a2A == 11) then (some ((a2E.length:Int) == 1)) else (bif (a2A == 12) then (some ((a2E.length:Int) == 0)
                 ) else (none))))))))))))) else (some false):Option (Bool)).bind fun x22=>some (x22,((),o1G)))))
def zAY (F_node_checker_node:(Unit×Int)->Nd->Int->Option (Bool×(Unit×Int))) (a2A:Int) (a2E:List Nd) (a3:Int):Nat->Int->Int->Option (Fl (Bool×(Unit×Int)) (Int))
| 0,_,_=>none
| k+1,x9,x10=>bif decide (x10<(a2E.length:Int)) then (((at? a2E x10).bind fun⟨e14A,e14B,e14F,e14E⟩=>bif ((a2A == 1) == (e14A == 1)) then (some (true,x9)) else ((at? a2E x10).bind fun⟨e16A,e16B,e16F,e16E⟩=>(F_node_checker_node ((),x9) (Nd.mk e16A e16B e16F e16E) (IntKind.i64.wrap (a3+1))).bind fun⟨y18,⟨_,w19G⟩⟩=>some ((!y18),w19G)):Option (Bool×Int)).bind fun⟨x12,x13⟩=>bif x12 then (some (.ret (false,((),x13)))) else (zAY F_node_checker_node a2A a2E a3 k x13 (IntKind.i64.wrap (x10+1)))) else (some (.go x9))
def zBc:Nat->(Unit×Int)->Nd->Int->Option (Bool×(Unit×Int))
| 0,_,_,_=>none
| n+1,⟨_,o1G⟩,⟨a2A,a2B,a2F,a2E⟩,a3=>(bif decide (1000<(IntKind.i64.wrap (o1G+1))) then (some (true,IntKind.i64.wrap (o1G+1))) else (bif decide (24<a3) then (some (true,IntKind.i64.wrap (o1G+1))) else ((zC5 n ((),IntKind.i64.wrap (o1G+1)) (Nd.mk a2A a2B a2F a2E)).bind fun⟨y6,⟨_,w7G⟩⟩=>some ((!y6),w7G))):Option (Bool×Int)).bind fun⟨x4,x5⟩=>bif x4 then (some (false,((),x5))) else ((zAY (zBc n) a2A a2E a3 n x5 0).bind fun fl=>match fl with
  | .ret r=>some r
  | .go x11=>some (true,((),x11)))
def zBb (n:Nat):Nd->Option Bool
| ⟨n1A,n1B,n1F,n1E⟩=>(zHz ).bind fun _=>(bif (n1A == 1) then ((zBc n ((),0) (Nd.mk n1A n1B n1F n1E) 1).bind fun⟨y4,⟨_,w5G⟩⟩=>some y4) else (some false):Option (Bool)).bind fun x3=>some x3
def zHB:Int->Option Bool
| c1=>(bif decide (97<=c1) then (bif decide (c1<=122) then (some true) else (bif decide (65<=c1) then (some (decide (c1<=90))) else (some false))) else (bif decide (65<=c1) then (some (decide (c1<=90))) else (some false)):Option (Bool)).bind fun x2=>some x2
def zF3 (s1:List UInt8) (c2:Int):Nat->Int->Option (Fl Bool Unit)
| 0,_=>none
| k+1,i3=>bif decide (i3<(s1.length:Int)) then ((at? s1 i3).bind fun c4=>bif ((c4.toNat:Int) == c2) then (some (.ret true)) else (zF3 s1 c2 k (IntKind.i64.wrap (i3+1)))) else (some (.go ()))
def zFi (n:Nat):(List UInt8)->Int->Option Bool
| s1,c2=>(zF3 s1 c2 n 0).bind fun fl=>match fl with
 | .ret r=>some r
 | .go _=>some false
def zJl (n:Nat):Int->Option Bool
| c1=>((zHB c1).bind fun y3=>bif y3 then (some true) else ((zFi n [43,45,42,47,61,60,62,44,59,58,33,124,39,63,126,64] c1).bind fun y4=>some y4):Option (Bool)).bind fun x2=>some x2
def zKG:Option (List (List UInt8))
:= some [[102,114,97,99],[114,111,111,116],[109,97,116,114,105,120],[102,101,110,99,101]]
def zG8 (l1:List (List UInt8)) (s2:List UInt8):Nat->Int->Option (Fl Bool Unit)
| 0,_=>none
| k+1,i3=>bif decide (i3<(l1.length:Int)) then ((at? l1 i3).bind fun e5=>bif (e5 == s2) then (some (.ret true)) else (zG8 l1 s2 k (IntKind.i64.wrap (i3+1)))) else (some (.go ()))
def zHA (n:Nat):(List (List UInt8))->(List UInt8)->Option Bool
| l1,s2=>(zG8 l1 s2 n 0).bind fun fl=>match fl with
 | .ret r=>some r
 | .go _=>some false
def zGt:Option (List (List UInt8))
:= some [[104,97,116],[98,97,114],[118,101,99],[100,111,116],[116,105,108,100,101],[99,104,101,99,107]]
def zDs (s1:List UInt8):Nat->Int->Option (Fl Bool Unit)
| 0,_=>none
| k+1,i5=>bif decide (i5<(s1.length:Int)) then ((at? s1 i5).bind fun c6=>(zHB (c6.toNat:Int)).bind fun y8=>bif (!y8) then (some (.ret false)) else (zDs s1 k (IntKind.i64.wrap (i5+1)))) else (some (.go ()))
def zJn (n:Nat):(List UInt8)->Option Bool
| s1=>bif ((s1.length:Int) == 1) then ((at? s1 0).bind fun c2=>(zJl n (c2.toNat:Int)).bind fun y4=>some y4) else ((zDs s1 n 0).bind fun fl=>match fl with
  | .ret r=>some r
  | .go _=>(bif decide (2<=(s1.length:Int)) then (bif decide ((s1.length:Int)<=16) then ((zKG ).bind fun y10=>(zHA n y10 s1).bind fun y11=>bif (!y11) then ((zGt ).bind fun y12=>(zHA n y12 s1).bind fun y13=>some (!y13)) else (some false)) else (some false)) else (some false):Option (Bool)).bind fun x9=>some x9)
def zK8:Int->Option Bool
| c1=>(bif decide (48<=c1) then (some (decide (c1<=57))) else (some false):Option (Bool)).bind fun x2=>some x2
def zFg (s1:List UInt8):Nat->Int->Int->Option (Fl Bool (Int))
| 0,_,_=>none
| k+1,points2,i3=>bif decide (i3<(s1.length:Int)) then ((((at? s1 i3).bind fun c7=>bif ((c7.toNat:Int) == 46) then (bif decide (0<i3) then (some (decide (i3<(IntKind.i64.wrap ((s1.length:Int) - 1))))) else (some false)) else (some false):Option (Bool)).bind fun x6=>bif x6 then (some (.go (IntKind.i64.wrap (points2+1)))) else ((at? s1 i3).bind fun c9=>(zK8 (c9.toNat:Int)).bind fun y11=>bif (!y11) then (some (.ret false)) else (some (.go points2))):Option (Fl Bool (Int))).bind fun fl=>match fl with
  | .ret r=>some (.ret r)
  | .go points5=>zFg s1 k points5 (IntKind.i64.wrap (i3+1))) else (some (.go points2))
def zJm (n:Nat):(List UInt8)->Option Bool
| s1=>(zFg s1 n 0 0).bind fun fl=>match fl with
 | .ret r=>some r
 | .go points4=>(bif decide (0<(s1.length:Int)) then (bif decide ((s1.length:Int)<=20) then (some (decide (points4<=1))) else (some false)) else (some false):Option (Bool)).bind fun x12=>some x12
def zC6 (s1:List UInt8):Nat->Int->Option (Fl Bool Unit)
| 0,_=>none
| k+1,i2=>bif decide (i2<(s1.length:Int)) then (((at? s1 i2).bind fun c4=>bif decide ((c4.toNat:Int)<32) then (some true) else ((at? s1 i2).bind fun c6=>some (decide (126<(c6.toNat:Int)))):Option (Bool)).bind fun x3=>bif x3 then (some (.ret false)) else (zC6 s1 k (IntKind.i64.wrap (i2+1)))) else (some (.go ()))
def zFh (n:Nat):(List UInt8)->Option Bool
| s1=>(zC6 s1 n 0).bind fun fl=>match fl with
 | .ret r=>some r
 | .go _=>some true
def zMD (n:Nat):Nd->Option Bool
| ⟨n1A,n1B,n1F,n1E⟩=>bif (n1A == 2) then ((zJn n n1B).bind fun y2=>some y2) else (bif (n1A == 3) then ((zJm n n1B).bind fun y3=>some y3) else (bif (n1A == 4) then ((bif decide ((n1B.length:Int)<=200) then ((zFh n n1B).bind fun y5=>some y5) else (some false):Option (Bool)).bind fun x4=>some x4) else (bif (n1A == 10) then ((zGt ).bind fun y6=>(zHA n y6 n1B).bind fun y7=>some y7) else (bif (n1A == 11) then ((bif ((n1B.length:Int) == 2) then ((at? n1B 0).bind fun c9=>(zFi n [40,41,91,93,123,125,124,60,62,47,46] (c9.toNat:Int)).bind fun y11=>bif y11 then ((at? n1B 1).bind fun c12=>(zFi n [40,41,91,93,123,125,124,60,62,47,46] (c12.toNat:Int)).bind fun y14=>some y14) else (some false)) else (some false)
       : Option (Bool)).bind fun x8=>some x8) else (some (n1B == []))))))
def zMC:Nd->Option Bool
| ⟨n1A,n1B,n1F,n1E⟩=>bif (n1A == 12) then ((bif decide (1<=n1F) then (bif decide (n1F<=16) then (bif decide (1<=(n1E.length:Int)) then (bif decide ((n1E.length:Int)<=256) then (req (n1F ≠ 0) <| some (((n1E.length:Int).tmod n1F) == 0)) else (some false)) else (some false)) else (some false)) else (some false):Option (Bool)).bind fun x3=>some x3) else (bif (n1F != 0) then (some false) else ((bif (n1A == 1) then (some (.ret (decide ((n1E.length:Int)<=200)))) else ((bif (n1A == 2) then (some (n1A == 2)) else (bif (n1A == 3) then (some (n1A == 3)) else (some (n1A == 4))):Option (Bool)).bind fun x4=>bif x4 then (some (.ret ((n1E.length:Int) == 0))) else ((bif (n1A == 5) then (some (n1A == 5)) else (bif (n1A == 6) then (some (n1A == 6)) else (bif (n1A == 7) then (
          some (n1A == 7)) else (some (n1A == 8)))):Option (Bool)).bind fun x5=>bif x5 then (some (.ret ((n1E.length:Int) == 2))) else (bif (n1A == 9) then (some (.ret ((n1E.length:Int) == 3))) else ((bif (n1A == 10) then (some (n1A == 10)) else (some (n1A == 11)):Option (Bool)).bind fun x6=>bif x6 then (some (.ret ((n1E.length:Int) == 1))) else (some (.go ())))))):Option (Fl Bool Unit)).bind fun fl=>match fl with
   | .ret r=>some r
   | .go _=>some false))
def zGu (F_r09_form:Nd->Option Bool) (n1A:Int) (n1E:List Nd):Nat->Int->Option (Fl Bool Unit)
| 0,_=>none
| k+1,i5=>bif decide (i5<(n1E.length:Int)) then (((at? n1E i5).bind fun⟨e8A,e8B,e8F,e8E⟩=>bif ((e8A == 1) == (n1A == 1)) then (some true) else ((at? n1E i5).bind fun⟨e10A,e10B,e10F,e10E⟩=>(F_r09_form (Nd.mk e10A e10B e10F e10E)).bind fun y12=>some (!y12)):Option (Bool)).bind fun x7=>bif x7 then (some (.ret false)) else (zGu F_r09_form n1A n1E k (IntKind.i64.wrap (i5+1)))) else (some (.go ()))
def zIg:Nat->Nd->Option Bool
| 0,_=>none
| n+1,⟨n1A,n1B,n1F,n1E⟩=>((zMD n (Nd.mk n1A n1B n1F n1E)).bind fun y3=>bif (!y3) then (some true) else ((zMC (Nd.mk n1A n1B n1F n1E)).bind fun y4=>some (!y4)):Option (Bool)).bind fun x2=>bif x2 then (some false) else ((zGu (zIg n) n1A n1E n 0).bind fun fl=>match fl with
  | .ret r=>some r
  | .go _=>some true)
def zFP (F_r09_Count:Nd->Option Int) (n1E:List Nd):Nat->Int->Int->Option (Int)
| 0,_,_=>none
| k+1,out2,i3=>bif decide (i3<(n1E.length:Int)) then ((at? n1E i3).bind fun⟨e6A,e6B,e6F,e6E⟩=>(F_r09_Count (Nd.mk e6A e6B e6F e6E)).bind fun y8=>zFP F_r09_Count n1E k (IntKind.i64.wrap (out2+y8)) (IntKind.i64.wrap (i3+1))) else (some out2)
def zG6:Nat->Nd->Option Int
| 0,_=>none
| n+1,⟨n1A,n1B,n1F,n1E⟩=>(zFP (zG6 n) n1E n 1 0).bind fun out4=>some out4
def zFQ (F_r09_Depth:Nd->Option Int) (n1E:List Nd):Nat->Int->Int->Option (Int)
| 0,_,_=>none
| k+1,out2,i3=>bif decide (i3<(n1E.length:Int)) then ((at? n1E i3).bind fun⟨e6A,e6B,e6F,e6E⟩=>(F_r09_Depth (Nd.mk e6A e6B e6F e6E)).bind fun y8=>zFQ F_r09_Depth n1E k (if out2<y8 then y8 else out2) (IntKind.i64.wrap (i3+1))) else (some out2)
def zG7:Nat->Nd->Option Int
| 0,_=>none
| n+1,⟨n1A,n1B,n1F,n1E⟩=>(zFQ (zG7 n) n1E n 0 0).bind fun out4=>some (IntKind.i64.wrap (out4+1))
def zBQ (n:Nat):Nd->Option Bool
| ⟨n1A,n1B,n1F,n1E⟩=>(bif (n1A == 1) then ((zIg n (Nd.mk n1A n1B n1F n1E)).bind fun y3=>bif y3 then ((zG6 n (Nd.mk n1A n1B n1F n1E)).bind fun y4=>bif decide (y4<=1000) then ((zG7 n (Nd.mk n1A n1B n1F n1E)).bind fun y5=>some (decide (y5<=24))) else (some false)) else (some false)) else (some false):Option (Bool)).bind fun x2=>some x2
def zBP (F_r09_Equal:Nd->Nd->Option Bool) (a1:List Nd) (b2:List Nd):Nat->Int->Option (Fl Bool Unit)
| 0,_=>none
| k+1,i5=>bif decide (i5<(a1.length:Int)) then ((at? a1 i5).bind fun⟨e7A,e7B,e7F,e7E⟩=>(at? b2 i5).bind fun⟨e9A,e9B,e9F,e9E⟩=>(F_r09_Equal (Nd.mk e7A e7B e7F e7E) (Nd.mk e9A e9B e9F e9E)).bind fun y11=>bif (!y11) then (some (.ret false)) else (zBP F_r09_Equal a1 b2 k (IntKind.i64.wrap (i5+1)))) else (some (.go ()))
mutual
def zBO:Nat->Nd->Nd->Option Bool
| 0,_,_=>none
| n+1,⟨a1A,a1B,a1F,a1E⟩,⟨b2A,b2B,b2F,b2E⟩ =>
 (
  bif (a1A == b2A) then (
   bif (a1B == b2B) then (
    bif (a1F == b2F) then (
     (zCe n a1E b2E).bind fun y4 =>
     some y4
    ) else (
     some false
    )
   ) else (
    some false
   )
  ) else (
   some false
  )
  : Option (Bool)).bind fun x3 =>
 some x3
def zCe:Nat->(List Nd)->(List Nd)->Option Bool
| 0,_,_=>none
| n+1,a1,b2 =>
 bif ((a1.length:Int) != (b2.length:Int)) then (
  some false
 ) else (
  (zBP (zBO n) a1 b2 n 0).bind fun fl=>match fl with
  | .ret r=>some r
  | .go _ =>
   some true
 )
end
def zC7 (F_r09_left:Nd->Int->Option Int) (n1E:List Nd):Nat->Int->Int->Option (Int)
| 0,_,_=>none
| k+1,most3,i4=>(bif decide (i4<(n1E.length:Int)) then (some (decide (0<=most3))) else (some false):Option (Bool)).bind fun x6=>bif x6 then ((at? n1E i4).bind fun⟨e8A,e8B,e8F,e8E⟩=>(F_r09_left (Nd.mk e8A e8B e8F e8E) most3).bind fun y10=>zC7 F_r09_left n1E k y10 (IntKind.i64.wrap (i4+1))) else (some most3)
def zEr:Nat->Nd->Int->Option Int
| 0,_,_=>none
| n+1,⟨n1A,n1B,n1F,n1E⟩,most2=>(zC7 (zEr n) n1E n (IntKind.i64.wrap (most2 - 1)) 0).bind fun most5=>some most5
def zIf (n:Nat):Nd->Int->Option Bool
| ⟨n1A,n1B,n1F,n1E⟩,most2=>(zEr n (Nd.mk n1A n1B n1F n1E) most2).bind fun y3=>some (decide (0<=y3))
def zDE:(List Nd)->Option Nd
| l1=>some (Nd.mk 1 [] 0 l1)
def zJp (n:Nat):zO8->Option Bool
| ⟨op1A,op1I,op1J,op1L,op1G,op1K,op1M,op1B⟩=>((zDE op1G).bind fun⟨y3A,y3B,y3F,y3E⟩=>(zIf n (Nd.mk y3A y3B y3F y3E) 100).bind fun y4=>bif y4 then (some (decide ((op1I.length:Int)<=60))) else (some false):Option (Bool)).bind fun x2=>some x2
def zEM (n:Nat):(List Nd)->Option Bool
| l1=>(zDE l1).bind fun⟨y2A,y2B,y2F,y2E⟩=>(zBQ n (Nd.mk y2A y2B y2F y2E)).bind fun y3=>some y3
def zHR (n:Nat):(List Nd)->Int->Option Bool
| l1,slot2=>(bif ((l1.length:Int) == 1) then ((zEM n l1).bind fun y5=>bif y5 then (bif decide (0<=slot2) then ((at? l1 0).bind fun⟨e6A,e6B,e6F,e6E⟩=>bif decide (slot2<(e6E.length:Int)) then ((at? l1 0).bind fun⟨e9A,e9B,e9F,e9E⟩=>(at? e9E slot2).bind fun⟨e11A,e11B,e11F,e11E⟩=>some ((e11E.length:Int) == 0)) else (some false)) else (some false)) else (some false)) else (some false):Option (Bool)).bind fun x3=>some x3
def zJq (n:Nat):zO8->Option Bool
| ⟨a1A,a1I,a1J,a1L,a1G,a1K,a1M,a1B⟩=>((bif (a1A == 1) then (some (a1A == 1)) else (some (a1A == 2)):Option (Bool)).bind fun x2=>bif x2 then ((bif decide (0<(a1G.length:Int)) then ((zEM n a1G).bind fun y5=>bif y5 then (bif (a1L == 0) then (bif (a1K == 0) then (bif (a1M == []) then (some (a1B == [])) else (some false)) else (some false)) else (some false)) else (some false)) else (some false):Option (Bool)).bind fun x3=>some (.ret x3)) else ((bif (a1A == 3) then (some (a1A == 3)) else (some (a1A == 4)):Option (Bool)).bind fun x6=>bif x6 then ((bif decide (0<=a1L) then ((zHR n a1G a1K).bind fun y8=>bif y8 then (bif (a1M == []) then (some (a1B == [])) else (some false)) else (some false)) else (some false):Option (Bool)).bind fun x7 =>
    some (.ret x7)) else (bif (a1A == 5) then ((bif (!(a1M == a1B)) then (bif ((a1G.length:Int) == 0) then (bif (a1L == 0) then (some (a1K == 0)) else (some false)) else (some false)) else (some false):Option (Bool)).bind fun x9=>some (.ret x9)) else (some (.go ())))):Option (Fl Bool Unit)).bind fun fl=>match fl with
 | .ret r=>some r
 | .go _=>some false
def zEq  : Nat->Int->(List UInt8)->Int->(List Nd)->(List Int)->Option (Fl (Nd×Bool) ((List Int)×Int×(List UInt8)×Int×(List Nd)))
| 0,_,_,_,_,_=>none
| k+1,x3,x4,x5,x6,path8=>bif decide (2<=(path8.length:Int)) then (((at? path8 0).bind fun e16=>bif decide (e16<0) then (some true) else ((at? path8 0).bind fun e18=>some (decide ((x6.length:Int)<=e18))):Option (Bool)).bind fun x15=>bif x15 then (some (.ret (Nd.mk 0 [] 0 [],false))) else ((at? path8 0).bind fun e21=>(at? x6 e21).bind fun⟨e23A,e23B,e23F,e23E⟩=>((at? path8 1).bind fun e26=>bif decide (e26<0) then (some true) else ((at? path8 1).bind fun e28=>some (decide ((e23E.length:Int)<=e28))):Option (Bool)).bind fun x25=>bif x25 then (some (.ret (Nd.mk 0 [] 0 [],false))) else ((at? path8 1).bind fun e31=>(at? e23E e31).bind fun⟨e33A,e33B,e33F,e33E⟩=>req (0<=(2:Int)/\(2:Int)<=(path8.length:Int)/\(path8.length:Int)<=(path8.length:Int)) <|
    zEq k e33A e33B e33F e33E ((path8.take (path8.length:Int).toNat).drop (2:Int).toNat)))) else (some (.go (path8,x3,x4,x5,x6)))
def zMB (n:Nat):Nd->(List Int)->Option (Nd×Bool)
| ⟨n1A,n1B,n1F,n1E⟩,path2=>(zEq  n n1A n1B n1F n1E path2).bind fun fl=>match fl with
 | .ret r=>some r
 | .go ⟨path9,x10,x11,x12,x13⟩=>some (Nd.mk x10 x11 x12 x13,((path9.length:Int) == 0))
def zOy (n:Nat):Nd->(List Int)->Option (Nd×Int)
| ⟨n1A,n1B,n1F,n1E⟩,path2=>(zBQ n (Nd.mk n1A n1B n1F n1E)).bind fun y3=>bif (!y3) then (some (Nd.mk 0 [] 0 [],1)) else ((zMB n (Nd.mk n1A n1B n1F n1E) path2).bind fun⟨⟨y4A,y4B,y4F,y4E⟩,y5⟩=>bif (!y5) then (some (Nd.mk 0 [] 0 [],8)) else (some (Nd.mk y4A y4B y4F y4E,0)))
def zDy:(List Nd)->Int->Int->(List Nd)->Option (List Nd)
| l1,at2,to3,by4=>req (0<=(0:Int)/\(0:Int)<=at2/\at2<=(l1.length:Int)) <| req (([]:List Nd).length+((l1.take at2.toNat).drop (0:Int).toNat).length<=4294967296) <| req (((l1.take at2.toNat).drop (0:Int).toNat).length+by4.length<=4294967296) <| req (0<=to3/\to3<=(l1.length:Int)/\(l1.length:Int)<=(l1.length:Int)) <| req ((((l1.take at2.toNat).drop (0:Int).toNat)++by4).length+((l1.take (l1.length:Int).toNat).drop to3.toNat).length<=4294967296) <| some ((((l1.take at2.toNat).drop (0:Int).toNat)++by4)++((l1.take (l1.length:Int).toNat).drop to3.toNat))
def zDj:Nd->Int->Nd->Option Nd
| ⟨n1A,n1B,n1F,n1E⟩,i2,⟨kid3A,kid3B,kid3F,kid3E⟩=>req (([]:List Nd).length+n1E.length<=4294967296) <| (at? n1E i2).bind fun⟨e4A,e4B,e4F,e4E⟩=>some (Nd.mk n1A n1B n1F (n1E.set i2.toNat (Nd.mk kid3A kid3B kid3F kid3E)))
def zF4:Nd->Int->(List Nd)->Option Nd
| ⟨n1A,n1B,n1F,n1E⟩,slot2,l3=>req (([]:List Nd).length+l3.length<=4294967296) <| (zDE l3).bind fun⟨y4A,y4B,y4F,y4E⟩=>(zDj (Nd.mk n1A n1B n1F n1E) slot2 (Nd.mk y4A y4B y4F y4E)).bind fun⟨y5A,y5B,y5F,y5E⟩=>some (Nd.mk y5A y5B y5F y5E)
def zJr (n:Nat):(List Nd)->zO8->Option ((List Nd)×Int)
| a1,⟨a2A,a2I,a2J,a2L,a2G,a2K,a2M,a2B⟩=>(bif (a2A == 1) then (some 0) else (bif (a2A == 2) then (some (a2G.length:Int)) else (bif (a2A == 3) then (some a2L) else (some 1))):Option (Int)).bind fun x3=>(bif decide (a2J<0) then (some true) else (bif decide ((a1.length:Int)<a2J) then (some true) else (some (decide ((IntKind.i64.wrap ((a1.length:Int) - a2J))<x3)))):Option (Bool)).bind fun x5=>bif x5 then (some ([],2)) else (bif (a2A == 1) then ((zDy a1 a2J (IntKind.i64.wrap (a2J+x3)) a2G).bind fun y8=>some (y8,0)) else (bif (a2A == 2) then (req (0<=a2J/\a2J<=IntKind.i64.wrap (a2J+x3)/\IntKind.i64.wrap (a2J+x3)<=(a1.length:Int)) <| (zCe n ((a1.take (IntKind.i64.wrap (a2J+x3)).toNat).drop a2J.toNat) a2G).bind fun y10=>bif (!y10) then (
     some ([],7)) else ((zDy a1 a2J (IntKind.i64.wrap (a2J+x3)) []).bind fun y11=>some (y11,0))) else (bif (a2A == 3) then ((at? a2G 0).bind fun⟨e12A,e12B,e12F,e12E⟩=>req (0<=a2J/\a2J<=IntKind.i64.wrap (a2J+x3)/\IntKind.i64.wrap (a2J+x3)<=(a1.length:Int)) <| (zF4 (Nd.mk e12A e12B e12F e12E) a2K ((a1.take (IntKind.i64.wrap (a2J+x3)).toNat).drop a2J.toNat)).bind fun⟨y15A,y15B,y15F,y15E⟩=>(zDy a1 a2J (IntKind.i64.wrap (a2J+x3)) [Nd.mk y15A y15B y15F y15E]).bind fun y17=>some (y17,0)) else ((at? a1 a2J).bind fun⟨e18A,e18B,e18F,e18E⟩=>bif (a2A == 4) then ((bif decide ((e18E.length:Int)<=a2K) then (some true) else ((at? e18E a2K).bind fun⟨e22A,e22B,e22F,e22E⟩ =>
        bif ((e22E.length:Int) != a2L) then (some true) else ((at? a2G 0).bind fun⟨e25A,e25B,e25F,e25E⟩=>(at? e18E a2K).bind fun⟨e27A,e27B,e27F,e27E⟩=>(zF4 (Nd.mk e25A e25B e25F e25E) a2K e27E).bind fun⟨y29A,y29B,y29F,y29E⟩=>(zBO n (Nd.mk e18A e18B e18F e18E) (Nd.mk y29A y29B y29F y29E)).bind fun y30=>some (!y30))):Option (Bool)).bind fun x20=>bif x20 then (some ([],7)) else ((at? e18E a2K).bind fun⟨e31A,e31B,e31F,e31E⟩=>(zDy a1 a2J (IntKind.i64.wrap (a2J+x3)) e31E).bind fun y33=>some (y33,0))) else (((bif (e18A == 2) then (some (e18A == 2)) else (bif (e18A == 3) then (some (e18A == 3)) else (bif (e18A == 4) then (some (e18A == 4)) else (
           bif (e18A == 10) then (some (e18A == 10)) else (some (e18A == 11))))):Option (Bool)).bind fun x34=>bif x34 then (bif (e18B == a2M) then ((zDy a1 a2J (IntKind.i64.wrap (a2J+x3)) [Nd.mk e18A a2B e18F e18E]).bind fun y36=>some (.ret (y36,0))) else (some (.go ()))) else (some (.go ())):Option (Fl ((List Nd)×Int) Unit)).bind fun fl=>match fl with
      | .ret r=>some r
      | .go _=>some ([],7))))))
def zIh:Nat->Nd->(List Int)->(List Nd)->Option Nd
| 0,_,_,_=>none
| n+1,⟨n1A,n1B,n1F,n1E⟩,path2,l3=>bif ((path2.length:Int) == 0) then ((zDE l3).bind fun⟨y5A,y5B,y5F,y5E⟩=>some (Nd.mk y5A y5B y5F y5E)) else ((at? path2 0).bind fun e6=>(at? n1E e6).bind fun⟨e8A,e8B,e8F,e8E⟩=>(at? path2 0).bind fun e10=>(at? path2 1).bind fun e12=>(at? path2 1).bind fun e14=>(at? e8E e14).bind fun⟨e16A,e16B,e16F,e16E⟩=>req (0<=(2:Int)/\(2:Int)<=(path2.length:Int)/\(path2.length:Int)<=(path2.length:Int)) <| (zIh n (Nd.mk e16A e16B e16F e16E) ((path2.take (path2.length:Int).toNat).drop (2:Int).toNat) l3).bind fun⟨y19A,y19B,y19F,y19E⟩ =>
  (zDj (Nd.mk e8A e8B e8F e8E) e12 (Nd.mk y19A y19B y19F y19E)).bind fun⟨y20A,y20B,y20F,y20E⟩=>(zDj (Nd.mk n1A n1B n1F n1E) e10 (Nd.mk y20A y20B y20F y20E)).bind fun⟨y21A,y21B,y21F,y21E⟩=>some (Nd.mk y21A y21B y21F y21E))
def zIz (n:Nat):Nd->zO8->Option (Nd×Int)
| ⟨n1A,n1B,n1F,n1E⟩,⟨op2A,op2I,op2J,op2L,op2G,op2K,op2M,op2B⟩=>(zBQ n (Nd.mk n1A n1B n1F n1E)).bind fun y3=>bif (!y3) then (some (Nd.mk 0 [] 0 [],1)) else ((zJq n (op2A,op2I,op2J,op2L,op2G,op2K,op2M,op2B)).bind fun y4=>bif (!y4) then (some (Nd.mk 0 [] 0 [],4)) else ((zOy n (Nd.mk n1A n1B n1F n1E) op2I).bind fun⟨⟨y5A,y5B,y5F,y5E⟩,y6⟩=>bif (y6 != 0) then (some (Nd.mk 0 [] 0 [],y6)) else ((zJr n y5E (op2A,op2I,op2J,op2L,op2G,op2K,op2M,op2B)).bind fun⟨y7,y8⟩=>bif (y8 != 0) then (some (Nd.mk 0 [] 0 [],y8)) else ((zIh n (Nd.mk n1A n1B n1F n1E) op2I y7).bind fun⟨y9A,y9B,y9F,y9E⟩ =>
     (zBQ n (Nd.mk y9A y9B y9F y9E)).bind fun y10=>bif (!y10) then (some (Nd.mk 0 [] 0 [],6)) else (some (Nd.mk y9A y9B y9F y9E,0))))))
def zCH (n:Nat) (ops2:List zO8):Nat->Int->(List UInt8)->Int->(List Nd)->Int->Option (Fl (Nd×Int×Int) (Int×(List UInt8)×Int×(List Nd)))
| 0,_,_,_,_,_=>none
| k+1,x4,x5,x6,x7,i9=>bif decide (i9<(ops2.length:Int)) then ((at? ops2 i9).bind fun⟨e15A,e15I,e15J,e15L,e15G,e15K,e15M,e15B⟩=>(zIz n (Nd.mk x4 x5 x6 x7) (e15A,e15I,e15J,e15L,e15G,e15K,e15M,e15B)).bind fun⟨⟨y17A,y17B,y17F,y17E⟩,y18⟩=>bif (y18 != 0) then (some (.ret (Nd.mk 0 [] 0 [],i9,y18))) else (zCH n ops2 k y17A y17B y17F y17E (IntKind.i64.wrap (i9+1)))) else (some (.go (x4,x5,x6,x7)))
def zDk (n:Nat):Nd->(List zO8)->Option (Nd×Int×Int)
| ⟨n1A,n1B,n1F,n1E⟩,ops2=>(zBQ n (Nd.mk n1A n1B n1F n1E)).bind fun y3=>bif (!y3) then (some (Nd.mk 0 [] 0 [],0,1)) else ((zCH n ops2 n n1A n1B n1F n1E 0).bind fun fl=>match fl with
  | .ret r=>some r
  | .go ⟨x10,x11,x12,x13⟩=>some (Nd.mk x10 x11 x12 x13,0,0))
def zEd:Nd->Option Int
| ⟨n1A,n1B,n1F,n1E⟩=>bif (n1A == 1) then (some 0) else (some (n1E.length:Int))
def zCF (n:Nat):(List Nd)->Option Bool
| l1=>(zBb n (Nd.mk 1 [] 0 l1)).bind fun y2=>some y2
def zAO (F_node_Equal:Nd->Nd->Option Bool) (s11:List Nd) (s22:List Nd):Nat->Int->Option (Fl Bool Unit)
| 0,_=>none
| k+1,x6=>bif decide (x6<(s11.length:Int)) then ((at? s11 x6).bind fun⟨e7A,e7B,e7F,e7E⟩=>(at? s22 x6).bind fun⟨e9A,e9B,e9F,e9E⟩=>(F_node_Equal (Nd.mk e7A e7B e7F e7E) (Nd.mk e9A e9B e9F e9E)).bind fun y11=>bif (!y11) then (some (.ret false)) else (zAO F_node_Equal s11 s22 k (IntKind.i64.wrap (x6+1)))) else (some (.go ()))
mutual
def zCB:Nat->Nd->Nd->Option Bool
| 0,_,_=>none
| n+1,⟨a1A,a1B,a1F,a1E⟩,⟨b2A,b2B,b2F,b2E⟩ =>
 (
  bif (a1A == b2A) then (
   bif (a1B == b2B) then (
    bif (a1F == b2F) then (
     (zA4 n a1E b2E).bind fun y4 =>
     some y4
    ) else (
     some false
    )
   ) else (
    some false
   )
  ) else (
   some false
  )
  : Option (Bool)).bind fun x3 =>
 some x3
def zA4:Nat->(List Nd)->(List Nd)->Option Bool
| 0,_,_=>none
| n+1,s11,s22 =>
 bif ((s11.length:Int) != (s22.length:Int)) then (
  some false
 ) else (
  (zAO (zCB n) s11 s22 n 0).bind fun fl=>match fl with
  | .ret r=>some r
  | .go _ =>
   some true
 )
end
mutual
def Nd.cnt:Nd->Nat
 | .mk _ _ _ ks=>Nd.cnts ks+1
def Nd.cnts:List Nd->Nat
 | []=>0
 | v::vs=>v.cnt+Nd.cnts vs
end
theorem Nd.cnt_pos:∀ v:Nd,1<=v.cnt
 | .mk _ _ _ ks=>by simp only[Nd.cnt]; omega
theorem Nd.cnts_len:∀ a:List Nd,a.length<=Nd.cnts a
 | []=>Nat.le_refl _
 | v::a=>by have:=Nd.cnts_len a; have:=v.cnt_pos; simp only[Nd.cnts,List.length_cons]; omega
theorem Nd.cnts_mem:∀ {a:List Nd}{v:Nd},v∈a->v.cnt<=Nd.cnts a
 | u::a,v,h=>by
  simp only[Nd.cnts]
  rcases List.mem_cons.1 h with rfl | h
  ·omega
  ·have:=Nd.cnts_mem h; omega
theorem Nd.cnts_drop {a:List Nd}{i:Nat} (h:i<a.length):Nd.cnts (a.drop i)=(a[i]).cnt+Nd.cnts (a.drop (i+1)):=by
 rw[List.drop_eq_getElem_cons h]; rfl
def zB2 (n:Nd):Option Nd:=req (n.cnt<=1000000000) (some n)
def Nd.kids:Nd->List Nd
 | .mk _ _ _ ks=>ks
theorem zXi (n:Nd):n.kids ≠ []↔n.kids.isEmpty=false:=by cases n.kids <;> simp
instance (n:Nd):Decidable (n.kids ≠ []):=decidable_of_iff _ (zXi n).symm
def zDr (n:Nd):Option Nd:=req (n.cnt<=1000000000/\n.kids ≠ []) (some n)
def zB1:Nd->List Int->Option Nd
 | n,[]=>some n
 | _,[_]=>none
 | n,i::s::path=>if 0<=i/\i<n.kids.length then
   let item:=n.kids.getD i.toNat n
   if 0<=s/\s<item.kids.length then zB1 (item.kids.getD s.toNat n) path else none
  else none
def zD6:Nd:=.mk 0 [] 0 []
def putL:Nd->List Int->Nd->Nd
 | .mk k t c ks,i::s::path,r=>.mk k t c (ks.set i.toNat (match ks[i.toNat]? with
  | some (.mk k2 t2 c2 ks2)=>.mk k2 t2 c2 (ks2.set s.toNat (match ks2[s.toNat]? with
   | some z=>putL z path r
   | none=>r))
  | none=>r))
 | _,_,r=>r
def zIe (f:Nat) (n:Nd) (path:List Int):Option (Nd×Int) :=
 (zBb f n).bind fun b=>if b=true then (match zB1 n path with
  | some r=>(zB2 r).bind fun r=>some (r,0)
  | none=>some (zD6,8)) else some (zD6,1)
def zFD (f:Nat) (n:Nd) (path:List Int) (row:Nd):Option (Nd×Int) :=
 (zBb f n).bind fun b=>if b=true then (zB2 n).bind fun n=>(match zB1 n path with
  | some _=>(zBb f row).bind fun b=>if b=true then (zB2 row).bind fun row=>(zBb f (putL n path row)).bind fun b=>if b=true then some (putL n path row,0) else some (zD6,6) else some (zD6,4)
  | none=>some (zD6,8)) else some (zD6,1)
end Go.Proofs.YtgplhldfbkmmgaaGreat
namespace Go.Abs
section
variable {T:Nat->Option TI} {Γ:Nat->Option zAq} {M nm L:List Nat} {N k:Nat} {n:Nat->Bool} {all os:List Oper} {o:Oper} {σ σ':St} {K:St->Prop} {φ:Option Prop} {x:AV} {d:Nat}
theorem zVQ {φ:Option Prop}{K:Prop} (h1:φ.getD True) (h2:K):andO φ K:=by
 cases φ with
 | none=>exact h2
 | some p=>exact⟨h1,h2⟩
theorem zSz (h:K (σ.putN d x)):lay false (some d) x σ K:=by
 simp only[lay,zLZ]; exact h
theorem zAd (hg:o.guard=none) (hd:o.dst=some d) (hN:Nat.blt d N=true) (hc:callOf T Γ o σ.env=none) (hn:dIn (some d) nm=false) (hs:step1 T (dIn (some d) M) o σ=some (φ,x,σ')) (hφ:φ.getD True)
  (h:zDY T Γ M nm N all os (σ'.putN d x) K):zDY T Γ M nm N all (o::os) σ K:=by
 unfold zDY;rw[hg,hd]
 dsimp only;rw[hN,hc,hn,hs]
 exact zVQ hφ (zSz h)
theorem zG0 (hg:o.guard=none) (hd:o.dst=none) (hc:callOf T Γ o σ.env=none) (hs:step1 T (dIn none M) o σ=some (φ,x,σ')) (hφ:φ.getD True)
  (h:zDY T Γ M nm N all os σ' K):zDY T Γ M nm N all (o::os) σ K:=by
 unfold zDY;rw[hg,hd,hc,hs]
 exact zVQ hφ h
theorem zRG {own:Bool}{t e q sz kk:Nat}{j ti:TI}{y i:Operand}{n:Int}{ki:IntKind}{rows:List (List AV)} (ho:o.op = .indexAddr t y i) (ht:T t=some ti) (hk:ti.k = .slice e) (hj:T e=some j) (hy:opd T σ.env t y = .orow q)
  (hi:opd T σ.env 0 i = .s (.int ki n)) (hh:σ.hp q=some (.arow kk sz rows)) (hz:Nat.beq sz j.size=true):step1 T own o σ=some (some (0<=n/\n<rows.length),.rp q sz n.toNat 0,σ):=by
 have e1:zDd T own o σ.env=none :=(by simp only[zDd,ho,zGG,hy,hi,AV.nrm,ht,hk]);simp only[step1,e1,zCv,zD7,zDM,ho,elemOf,ht,hk,hj,hy,hi,hh,hz]
theorem zS8 {own:Bool}{t q sz r off kk:Nat}{ti:TI}{y z:Operand}{rows:List (List AV)} (ho:o.op = .store t y z) (ht:T t=some ti) (hy:opd T σ.env 0 y = .rp q sz r off)
  (hh:σ.hp q=some (.arow kk sz rows)) (h1:Nat.beq sz sz=true) (h2:Nat.beq (opd T σ.env t z).cellsA.length ti.size=true) (h3:Nat.ble (off+ti.size) sz=true) (h4:((opd T σ.env t z).cellsA).all AV.one=true) :
  step1 T own o σ=some (some (r<rows.length),.junk,zGy σ q (.arow kk sz (rows.set r ((rows.getD r []).take off++(opd T σ.env t z).cellsA++(rows.getD r []).drop (off+ti.size))))):=by
 have e1:zDd T own o σ.env=none :=(by simp only[zDd,ho]);have e2:zD7 T own o σ=none:=by
  simp only[zD7,ho,hy,ht,hh]
 simp only[step1,e1,zCv,e2,zDM,ho,ht,hy,hh,h1,h2,h3,h4]
theorem zO7 {own:Bool}{t q off:Nat}{ti:TI}{y z:Operand}{bt:Nat}{cells:List AV} (ho:o.op = .store t y z) (ht:T t=some ti) (hy:opd T σ.env 0 y = .op q off)
  (hh:σ.hp q=some (.box bt cells)) (h2:Nat.beq (opd T σ.env t z).cellsA.length ti.size=true) (h3:Nat.ble (off+ti.size) cells.length=true) (h4:((opd T σ.env t z).cellsA).all AV.one=true) (h5:AV.ltAll σ.nx (opd T σ.env t z).cellsA=true) :
  step1 T own o σ=some (none,.junk,zGy σ q (.box bt (cells.take off++(opd T σ.env t z).cellsA++cells.drop (off+ti.size)))):=by
 have e1:zDd T own o σ.env=none :=(by simp only[zDd,ho]);simp only[step1,e1,zCv,zD7,ho,ht,hy,hh,h2,h3,h4,h5,zD5]
theorem zXQ {own:Bool}{t q off:Nat}{ti:TI}{y:Operand}{bt:Nat}{cells:List AV}{c:AV} (ho:o.op = .load t y) (ht:T t=some ti) (ha:ti.k.agg=false) (hy:opd T σ.env 0 y = .op q off) (hh:σ.hp q=some (.box bt cells)) (hc:cells[off]? = some c) :
  step1 T own o σ=some (none,c,σ):=by
 have e1:zDd T own o σ.env=none :=(by simp only[zDd,ho,hy]);simp only[step1,e1,zCv,zD7,ho,ht,hy,hh,ha,hc]
theorem zWR {own:Bool}{t q off:Nat}{ti:TI}{y:Operand}{bt:Nat}{cells:List AV} (ho:o.op = .load t y) (ht:T t=some ti) (ha:ti.k.agg=true) (hy:opd T σ.env 0 y = .op q off) (hh:σ.hp q=some (.box bt cells)) (hc:Nat.ble (off+ti.size) cells.length=true) :
  step1 T own o σ=some (none,.agg ((cells.drop off).take ti.size),σ):=by
 have e1:zDd T own o σ.env=none :=(by simp only[zDd,ho,hy]);simp only[step1,e1,zCv,zD7,ho,ht,hy,hh,ha,hc]
theorem zO6 {own:Bool}{t q kk sz:Nat}{e:Nat}{args:Array Operand}{ts:Array Nat}{y:Operand}{rows:List (List AV)} (ho:o.op = .call { callee:=.builtin .len,args:=args,argTypes:=ts }) (ha:args.toList=[y]) (hts:ts.toList=[t]) (ht:tk T t = .slice e)
  (hy:opd T σ.env t y = .orow q) (hh:σ.hp q=some (.arow kk sz rows)):step1 T own o σ=some (none,.s (.int .i64 (rows.length:Int)),σ):=by
 have e1:zDd T own o σ.env=none :=(by simp only[zDd,ho,ha,hts,pLen,ht,hy]);have e2:zD7 T own o σ=none :=(by simp only[zD7,ho,ha,hts,ht,hy,hh]);simp only[step1,e1,zCv,e2,zDM,ho,ha,hts,ht,hy,hh]
theorem zXR {own:Bool}{t q sz r off:Nat}{y:Operand} (ho:o.op = .load t y) (hy:opd T σ.env 0 y = .rp q sz r off):step1 T own o σ=none/\callOf T Γ o σ.env=none/\zB5 T o σ.env=none:=by
 have e1:zDd T own o σ.env=none :=(by simp only[zDd,ho,hy]);have e2:zD7 T own o σ=none :=(by simp only[zD7,ho,hy]);have e3:zDM T o σ=none :=(by simp only[zDM,ho]);exact⟨by simp only[step1,e1,zCv,e2,e3],by simp only[callOf,ho],by simp only[zB5,ho]⟩
theorem zYF {t:Nat}{y:Operand} (ho:o.op = .load t y):nilQ T o σ.env=none:=by simp only[nilQ,ho]
theorem zSm {t q sz r off kk:Nat}{y:Operand}{rows:List (List AV)}{c:AV} (hg:o.guard=none) (hd:o.dst=some d) (hN:Nat.blt d N=true) (hn:dIn (some d) nm=false) (ho:o.op = .load t y) (hy:opd T σ.env 0 y = .rp q sz r off)
  (hh:σ.hp q=some (.arow kk sz rows)) (hr:r<rows.length) (hc:zQ7 T t ((rows.getD r []).drop off)=some c) (h:zDY T Γ M nm N all os (σ.putN d c) K):zDY T Γ M nm N all (o::os) σ K:=by
 obtain⟨e1,e2,e3⟩:=zXR (Γ:=Γ) (own:=dIn (some d) M) ho hy;unfold zDY;rw[hg,hd]
 dsimp only;rw[hN,e2,hn,e1,zYF ho]
 have hz:Nat.beq sz sz=true:=Nat.beq_refl sz;simp only[zQ0,zHi,e3,zJh,ho,hy,hh,hz]
 exact⟨hr,_,rfl,by rw[hc]; exact zSz h⟩
end
inductive Rd (hp:Nat->Option Ob):AV->S->Prop
 | s (x:S):Rd hp (.s x) x
 | nl (sz:Nat):Rd hp (.nl sz) (.sl sz [])
 | row {k e sz:Nat} {rows:List (List S)} (h:hp k=some (.row e sz rows)):Rd hp (.orow k) (.sl sz rows)
 | arow {k e sz:Nat} {rows:List (List AV)} {rs:List (List S)} (h:hp k=some (.arow e sz rows)) (hl:rows.length=rs.length) (hr:∀ r∈rs,r.length=sz)
   (hc:∀ (i:Nat) x s,rows.flatten[i]? = some x->rs.flatten[i]? = some s->Rd hp x s):Rd hp (.orow k) (.sl sz rs)
 | box {k off bt:Nat} {cells:List AV} {ss:List S} (h:hp k=some (.box bt cells)) (hl:cells.length=ss.length)
   (hc:∀ (i:Nat) x s,cells[i]? = some x->ss[i]? = some s->Rd hp x s):Rd hp (.op k off) (.pt (ss.drop off))
 | el {k e sz i off:Nat} {rows:List (List AV)} {rs:List (List S)} (h:hp k=some (.arow e sz rows)) (hl:rows.length=rs.length) (hr:∀ r∈rs,r.length=sz) (hi:i<rs.length)
   (hc:∀ (i:Nat) x s,rows.flatten[i]? = some x->rs.flatten[i]? = some s->Rd hp x s):Rd hp (.rp k sz i off) (.pt ((rs.getD i []).drop off))
def allG (G:Nat->Prop) (β:Nat->Value) (hp:Nat->Option Ob) (b:Nat):Prop:=G b∨∃ k ob,hp k=some ob/\blk (β k)=some b
theorem Rd.rep {c:Cx}{G:Nat->Prop}{β:Nat->Value}{σ:St}{a:Act}{w:World} (hc:Conc c G β σ a w){x:AV}{s:S} (h:Rd σ.hp x s):∀ {v:Value},AVal G w β x v->Rep (allG G β σ.hp) w s v:=by
 have hk:Keep G (allG G β σ.hp) w w:=⟨fun _ h=>.inl h,fun _ _=>rfl⟩
 induction h with
 | s x=>intro v hv; simp only[AVal]at hv; exact hv.keep hk
 | nl sz=>intro v hv; simp only[AVal]at hv; subst hv; simp[Rep]
 | @row k e sz rows h =>
  intro v hv;simp only[AVal]at hv;obtain⟨hlen,hsz,ho⟩:=hc.hp k _ h;rw[hv.1]
  rcases ho with ⟨h1,rfl⟩ | ⟨b,cap,cur,h1,h2,h3,⟨mk,hmk,h4⟩,h5,h6,h7⟩
  ·rw[h1]; simp[Rep]
  ·rw[h1]
   simp only[Rep]
   refine .inr ⟨b,0,cap,rfl,h2,zDx hlen (RepRow.mk fun i s hi=>⟨.inr ⟨k,_,h,by rw[h1]; rfl⟩,?_⟩)⟩
   obtain⟨u,hu,hr⟩:=h7 i s hi;exact⟨u,by simp[World.cell?,h4,hu],hr.keep hk⟩
 | @arow k e sz rows rs h hl hr hcc ih =>
  intro v hv;simp only[AVal]at hv;obtain⟨hlen,hsz,ho⟩:=hc.hp k _ h;rw[hv.1]
  rcases ho with ⟨h1,rfl⟩ | ⟨b,cap,cur,h1,h2,h3,⟨mk,hmk,h4⟩,h5,h6,h7⟩
  ·obtain rfl:rs=[]:=List.length_eq_zero_iff.1 (by simpa using hl.symm)
   rw[h1]; simp[Rep]
  ·rw[h1]
   simp only[Rep]
   refine .inr ⟨b,0,cap,by rw[hl],by rw[← hl]; exact h2,zDx hr (RepRow.mk fun i s hi=>⟨.inr ⟨k,_,h,by rw[h1]; rfl⟩,?_⟩)⟩
   have hfl:=zA1 hlen;have hfs:=zA1 hr;have hil:i<rows.flatten.length :=(by rw[hfl,hl,← hfs]; exact(List.getElem?_eq_some_iff.1 hi).1);obtain⟨u,hu,hr',_⟩:=h7 i _ (List.getElem?_eq_getElem hil)
   exact⟨u,by simp[World.cell?,h4,hu],ih i _ s (List.getElem?_eq_getElem hil) hi hr'⟩
 | @box k off bt cells ss h hl hcc ih =>
  intro v hv;simp only[AVal]at hv;obtain⟨b,e,cur,h1,h2,h3,h4,h5,h6⟩:=hc.hp k _ h;obtain⟨b',hβ,rfl⟩:=hv;rw[h1]at hβ; cases hβ
  simp only[Rep]
  have hrow:RepRow (allG G β σ.hp) w b ss 0:=RepRow.mk fun i s hi=>by
   refine⟨.inr ⟨k,_,h,by rw[h1]; rfl⟩,?_⟩
   have hil:i<cells.length :=(by rw[hl]; exact(List.getElem?_eq_some_iff.1 hi).1);obtain⟨u,hu,hr⟩:=h5.get (List.getElem?_eq_getElem hil)
   rw[Array.getElem?_toList]at hu;exact⟨u,by simp[World.cell?,h2,hu],ih i _ s (List.getElem?_eq_getElem hil) hi hr⟩
  exact⟨b,off,rfl,by simpa using hrow.drop off⟩
 | @el k e sz i off rows rs h hl hr hi hcc ih =>
  intro v hv;simp only[AVal]at hv;obtain⟨b,n,cp,hβ,rfl⟩:=hv;obtain⟨hlen,hsz,ho⟩:=hc.hp k _ h;rcases ho with ⟨h1,rfl⟩ | ⟨b',cap,cur,h1,h2,h3,h4,h5,h6,h7⟩
  ·simp at hl; omega
  rw[hβ]at h1; cases h1
  simp only[Rep]
  refine⟨b,i * sz+off,rfl,?_⟩
  have hfl:=zA1 hlen;have hfs:=zA1 hr;have hrow:RepRow (allG G β σ.hp) w b rs.flatten 0:=RepRow.mk fun q s hq=>by
   refine⟨.inr ⟨k,_,h,by rw[hβ]; rfl⟩,?_⟩
   have hil:q<rows.flatten.length :=(by rw[hfl,hl,← hfs]; exact(List.getElem?_eq_some_iff.1 hq).1);obtain⟨u,hu,hr',_⟩:=h7 q _ (List.getElem?_eq_getElem hil)
   obtain⟨mk,hmk,h4⟩:=h4;exact⟨u,by simp[World.cell?,h4,hu],ih q _ s (List.getElem?_eq_getElem hil) hq hr'⟩
  have hrows:=(zDx hr hrow).get (i:=i) (r:=rs[i]) (List.getElem?_eq_getElem hi)
  have hg:rs.getD i []=rs[i] :=(by simp[List.getElem?_eq_getElem hi]);rw[hg]
  have:=hrows.2.drop off
  simpa using this
def RdV (hp:Nat->Option Ob):AV->AV->Prop
 | x,.s y=>Rd hp x y
 | .agg xs,.agg ys=>xs.length=ys.length/\∀ (i:Nat) x y,xs[i]? = some x->ys[i]? = some y->∃ s,y = .s s/\Rd hp x s
 | _,.junk=>True
 | _,_=>False
theorem RdV.aval {c:Cx}{G:Nat->Prop}{β:Nat->Value}{σ:St}{a:Act}{w:World} (hc:Conc c G β σ a w){x y:AV} (h:RdV σ.hp x y){v:Value} (hv:AVal G w β x v):AVal (allG G β σ.hp) w β y v:=by
 unfold RdV at h;split at h
 ·simp only[AVal]; exact h.rep hc hv
 ·simp only[AVal]at hv ⊢;obtain⟨vs,rfl,hvs⟩:=hv;refine⟨vs,rfl,AVals.mk (by rw[← h.1]; exact hvs.length) fun i y u hy hu=>?_⟩
  rename_i xs ys
  have hil:i<xs.length :=(by rw[h.1]; exact(List.getElem?_eq_some_iff.1 hy).1);obtain⟨s,rfl,hs⟩:=h.2 i _ y (List.getElem?_eq_getElem hil) hy;obtain⟨u',hu',hr⟩:=hvs.get (List.getElem?_eq_getElem hil)
  rw[hu]at hu'; cases hu'
  simp only[AVal]; exact hs.rep hc hr
 ·simp only[AVal]
 ·exact h.elim
def nils (k:Nat):List (List AV):=List.replicate k [.s (.sl 1 [])]
theorem Le.forgetH {c:Cx}{σ:St} (l:List (Nat×AV)) (hp':Nat->Option Ob) (n:Nat) (h:holds σ.env l) (hh:∀ k,σ.hp k=hp' k) (hn:σ.nx=n):Le c σ ⟨ofL l,hp',n⟩:=by
 obtain rfl:σ.hp=hp':=funext hh;subst hn;exact Le.forget l h
theorem PSound.ofOwn {P:Program}{f:Nat}{R:List AV->List Ob->AV->List (Option Ob)->Prop} (hcall:∀ args w,(callFunc f args).run P w = .ok (.enter f args) w) (h:zUe P f R):PSound P f (zBK R) :=
 ⟨hcall,fun _ _ _ _ _ _ _ _ _ hs=>hs.elim,fun R' hR'=>(by
  obtain rfl:R=R' :=(by simpa [zBK] using hR');exact h),fun R hR=>(by cases hR)⟩
section
variable {T:Nat->Option TI} {Γ:Nat->Option zAq} {M nm L:List Nat} {N k n:Nat} {all os:List Oper} {o:Oper} {σ σ':St} {K:St->Prop} {φ:Option Prop} {x:AV} {d:Nat}
theorem zWS {own:Bool}{t e q kk sz:Nat}{j ti:TI}{y hi:Operand}{n:Int}{ki:IntKind}{rows:List (List AV)} (ho:o.op = .slice t y none (some hi) none) (ht:T t=some ti) (hk:ti.k = .slice e) (hj:T e=some j) (hy:opd T σ.env t y = .orow q)
  (hi':opd T σ.env 0 hi = .s (.int ki n)) (hh:σ.hp q=some (.arow kk sz rows)) (hz:Nat.beq sz j.size=true) :
  step1 T own o σ=some (some (0<=n/\n<=rows.length),.orow σ.nx,zBL (zIJ σ q) (.arow kk sz (rows.take n.toNat))):=by
 have e1:zDd T own o σ.env=none :=(by simp only[zDd,ho,zOS,hy,AV.nrm,ht,hk,Option.map_none,Option.map_some,hi']);have e2:zD7 T own o σ=none :=(by simp only[zD7,ho,elemOf,ht,hk,hj,hy,hi',hh]);simp only[step1,e1,zCv,e2,zDM,ho,elemOf,ht,hk,hj,hy,hi',hh,hz]
theorem zYV {own:Bool}{t tx e q q2 kk kk2 sz sz2:Nat}{j ti:TI}{args:Array Operand}{ts:Array Nat}{y z:Operand}{rows rows2:List (List AV)} (ho:o.op = .call { callee:=.builtin .append,args:=args,argTypes:=ts }) (ha:args.toList=[y,z]) (hts:ts.toList=[t,tx])
  (ht:T t=some ti) (hk:ti.k = .slice e) (hj:T e=some j) (htx:tk T tx = .slice e) (hy:opd T σ.env t y = .orow q) (hz:opd T σ.env tx z = .orow q2) (hh:σ.hp q=some (.arow kk sz rows)) (hh2:σ.hp q2=some (.arow kk2 sz2 rows2))
  (h1:Nat.beq sz j.size=true) (h2:Nat.beq sz2 j.size=true) (h3:Nat.beq e kk=true) :
  step1 T own o σ=some (some ((rows.length+rows2.length) * j.bytes<=140737488355328/\rows.length+rows2.length<=9223372036854775807),.orow σ.nx,zBL (zIJ σ q) (.arow e sz (rows++rows2))):=by
 have e1:zDd T own o σ.env=none :=(by simp only[zDd,ho]);have e2:zD7 T own o σ=none :=(by simp only[zD7,ho,ha,hts,zK5,elemOf,ht,hk,hj,hy,zNb,hh]);simp only[step1,e1,zCv,e2,zDM,ho,ha,hts,elemOf,ht,hk,hj,hy,hz,zNy,hh,zNG,htx,hh2,h1,h2,h3]
theorem zXP {own:Bool}{t tx e q kk sz sz2 e2:Nat}{j ti:TI}{args:Array Operand}{ts:Array Nat}{y z:Operand}{rows:List (List AV)}{rows2:List (List S)} (ho:o.op = .call { callee:=.builtin .copy,args:=args,argTypes:=ts }) (ha:args.toList=[y,z]) (hts:ts.toList=[t,tx])
  (ht:T t=some ti) (hk:ti.k = .slice e) (hj:T e=some j) (htx:tk T tx = .slice e2) (hy:opd T σ.env t y = .orow q) (hz:opd T σ.env tx z = .s (.sl sz2 rows2)) (hh:σ.hp q=some (.arow kk sz rows))
  (h1:Nat.beq sz j.size=true) (h2:Nat.beq sz2 j.size=true) :
  step1 T own o σ=some (some ((rows2.map (·.map AV.s)).length=rows.length),.s (.int .i64 (rows.length:Int)),zGy σ q (.arow kk sz (rows2.map (·.map AV.s)))):=by
 have e1:zDd T own o σ.env=none :=(by simp only[zDd,ho,ha,hts,zWu,hy]);have e2:zD7 T own o σ=none :=(by simp only[zD7,ho]);simp only[step1,e1,zCv,e2,zDM,ho,ha,hts,elemOf,ht,hk,hj,hy,hz,zNy,hh,zNG,htx,h1,h2]
theorem zZM {own:Bool}{t e:Nat}{j ti:TI}{y z:Operand}{n m:Int}{k1 k2:IntKind} (hw:own=true) (ho:o.op = .makeSlice t y z) (ht:T t=some ti) (hk:ti.k = .slice e) (hj:T e=some j) (hy:opd T σ.env 0 y = .s (.int k1 n)) (hz:opd T σ.env 0 z = .s (.int k2 m)) (h1:Nat.ble 1 j.size=true)
  (hp:zDd T own o σ.env=none) :
  step1 T own o σ=some (some (0<=n/\n<=m/\m * j.bytes<=281474976710656/\m<=281474976710656),.orow σ.nx,zBL σ (.row e j.size (List.replicate n.toNat j.zero))):=by
 simp only[step1,hp,zCv,zD7,ho,elemOf,ht,hk,hj,hy,hz,h1]
end
def isL (sz:Nat) (p:AV):Prop:=(∃ q i,p = .rp q sz i 0)∨(∃ q,p = .op q 0)
def zBE:AV->Nat
 | .op q _=>q
 | .rp q _ _ _=>q
 | _=>0
def locO (p:AV) (off:Nat):AV:=match p with
 | .op q _=>.op q off
 | .rp q sz i _=>.rp q sz i off
 | x=>x
def zAX (hp:Nat->Option Ob):AV->Option (List AV)
 | .op q 0=>match hp q with | some (.box _ cs)=>some cs | _=>none
 | .rp q sz i 0=>match hp q with | some (.arow _ sz' rows)=>bif Nat.beq sz sz' then rows[i]? else none | _=>none
 | _=>none
def putC (hp:Nat->Option Ob) (p:AV) (c:List AV) (k:Nat):Option Ob:=match p with
 | .op q _=>match hp q with | some (.box bt _)=>bif Nat.beq k q then some (.box bt c) else hp k | _=>hp k
 | .rp q _ i _=>match hp q with | some (.arow e sz rows)=>bif Nat.beq k q then some (.arow e sz (rows.set i c)) else hp k | _=>hp k
 | _=>hp k
theorem zEX {k q:Nat} (h:k ≠ q):Nat.beq k q=false:=by
 cases e:Nat.beq k q with
 | true=>exact absurd (Nat.eq_of_beq_eq_true e) h
 | false=>rfl
theorem zCm {hp:Nat->Option Ob}{p:AV}{c:List AV}{k:Nat} (h:k ≠ zBE p):putC hp p c k=hp k:=by
 unfold putC;split
 ·rename_i q _
  have h:k ≠ q:=h;split
  ·rw[zEX h,cond_false]
  ·rfl
 ·rename_i q _ _ _
  have h:k ≠ q:=h;split
  ·rw[zEX h,cond_false]
  ·rfl
 ·rfl
theorem zHd {hp:Nat->Option Ob}{q o bt:Nat}{cs c:List AV} (h:hp q=some (.box bt cs)):putC hp (.op q o) c=fun k=>bif Nat.beq k q then some (.box bt c) else hp k:=by
 funext k; simp only[putC,h]
theorem zLj {hp:Nat->Option Ob}{q s i o e sz:Nat}{rows:List (List AV)}{c:List AV} (h:hp q=some (.arow e sz rows)):putC hp (.rp q s i o) c=fun k=>bif Nat.beq k q then some (.arow e sz (rows.set i c)) else hp k:=by
 funext k; simp only[putC,h]
theorem zEY {hp:Nat->Option Ob}{q bt:Nat}{cs:List AV} (h:hp q=some (.box bt cs)):zAX hp (.op q 0)=some cs:=by simp only[zAX,h]
theorem zGz {hp:Nat->Option Ob}{q e sz i:Nat}{rows:List (List AV)} (h:hp q=some (.arow e sz rows)):zAX hp (.rp q sz i 0)=rows[i]?:=by simp only[zAX,h,Nat.beq_refl,cond_true]
theorem zDA {hp:Nat->Option Ob}{sz:Nat}{p:AV}{cs:List AV} (hl:isL sz p) (h:zAX hp p=some cs):(∃ q i e rows,p = .rp q sz i 0/\hp q=some (.arow e sz rows)/\rows[i]? = some cs)∨∃ q bt,p = .op q 0/\hp q=some (.box bt cs):=by
 rcases hl with ⟨q,i,rfl⟩ | ⟨q,rfl⟩
 ·simp only[zAX]at h;split at h
  ·rename_i e sz' rows hq
   cases hb:Nat.beq sz sz' with
   | false=>rw[hb]at h; cases h
   | true =>
    rw[hb,cond_true]at h;obtain rfl:=Nat.eq_of_beq_eq_true hb;exact .inl ⟨q,i,e,rows,rfl,hq,h⟩
  ·cases h
 ·simp only[zAX]at h;split at h
  ·rename_i bt cs' hq
   cases h;exact .inr ⟨q,bt,rfl,hq⟩
  ·cases h
theorem zKZ {hp:Nat->Option Ob}{sz:Nat}{p:AV}{c cs:List AV} (hl:isL sz p) (h:zAX hp p=some cs):zAX (putC hp p c) p=some c:=by
 rcases zDA hl h with ⟨q,i,e,rows,rfl,hq,hi⟩ | ⟨q,bt,rfl,hq⟩
 ·rw[zLj hq,zGz (e:=e) (rows:=rows.set i c) (by simp only[Nat.beq_refl,cond_true]),List.getElem?_set,if_pos rfl,if_pos (List.getElem?_eq_some_iff.1 hi).1]
 ·rw[zHd hq,zEY (bt:=bt) (cs:=c) (by simp only[Nat.beq_refl,cond_true])]
theorem zCX {hp hp':Nat->Option Ob}{sz:Nat}{p:AV} (hl:isL sz p) (h:hp' (zBE p)=hp (zBE p)):zAX hp' p=zAX hp p:=by
 rcases hl with ⟨q',i',rfl⟩ | ⟨q',rfl⟩ <;> (simp only[zBE]at h; simp only[zAX,h])
theorem zWz {hp:Nat->Option Ob}{sz:Nat}{p p':AV}{c cs:List AV} (hl:isL sz p) (hc:zAX hp p=some cs) (hl':isL sz p') (hne:p' ≠ p):zAX (putC hp p c) p'=zAX hp p':=by
 by_cases hb:zBE p'=zBE p
 ·rcases zDA hl hc with ⟨q,i,e,rows,rfl,hq,hi⟩ | ⟨q,bt,rfl,hq⟩
  ·have hp2:putC hp (.rp q sz i 0) c q=some (.arow e sz (rows.set i c)) :=(by rw[zLj hq]; simp only[Nat.beq_refl,cond_true]);rcases hl' with ⟨q',i',rfl⟩ | ⟨q',rfl⟩ <;> (simp only[zBE]at hb; subst hb)
   ·have hi:i' ≠ i:=fun e=>hne (by rw[e])
    rw[zGz hp2,zGz hq,List.getElem?_set,if_neg (Ne.symm hi)]
   ·simp only[zAX,hp2,hq]
  ·have hp2:putC hp (.op q 0) c q=some (.box bt c) :=(by rw[zHd hq]; simp only[Nat.beq_refl,cond_true]);rcases hl' with ⟨q',i',rfl⟩ | ⟨q',rfl⟩ <;> (simp only[zBE]at hb; subst hb)
   ·simp only[zAX,hp2,hq]
   ·exact absurd rfl hne
 ·exact zCX hl' (zCm hb)
theorem zXy {hp:Nat->Option Ob}{sz':Nat}{p:AV}{c cs:List AV} (hl:isL sz' p) (hc:zAX hp p=some cs){q e sz:Nat}{rows:List (List AV)} (h:hp q=some (.arow e sz rows)):∃ rows',putC hp p c q=some (.arow e sz rows')/\rows'.length=rows.length:=by
 by_cases hb:q=zBE p
 ·subst hb;rcases zDA hl hc with ⟨q,i,e',rows',rfl,hq,hi⟩ | ⟨q,bt,rfl,hq⟩
  ·simp only[zBE]at h ⊢;rw[hq]at h; cases h
   rw[zLj hq]; exact⟨_,by simp only[Nat.beq_refl,cond_true]; rfl,List.length_set ..⟩
  ·simp only[zBE]at h;rw[hq]at h; cases h
 ·rw[zCm hb]; exact⟨rows,h,rfl⟩
section
variable {T:Nat->Option TI} {Γ:Nat->Option zAq} {M nm L:List Nat} {N k n:Nat} {all os:List Oper} {o:Oper} {σ σ':St} {K:St->Prop} {φ:Option Prop} {x:AV} {d:Nat}
theorem zFK {own:Bool}{sz:Nat}{p:AV}{y:Operand} (hl:isL sz p) (ho:o.op = .nilCheck y) (hy:opd T σ.env 0 y=p):step1 T own o σ=some (none,p,σ):=by
 have e1:zDd T own o σ.env=some (none,p):=by
  rcases hl with ⟨q,i,rfl⟩ | ⟨q,rfl⟩ <;> simp only[zDd,ho,hy]
 simp only[step1,e1]
theorem zGa {own:Bool}{sz:Nat}{p:AV}{t f off ft:Nat}{ti j:TI}{fs:List (Nat×Nat)}{y:Operand} (hl:isL sz p) (ho:o.op = .fieldAddr t y f) (hy:opd T σ.env 0 y=p) (ht:T t=some ti) (hk:ti.k = .struct fs) (hf:fs[f]? = some (off,ft)) (hj:T ft=some j) (hz:Nat.ble 1 j.size=true) :
  step1 T own o σ=some (none,locO p off,σ):=by
 have e1:zDd T own o σ.env=some (none,locO p off):=by
  rcases hl with ⟨q,i,rfl⟩ | ⟨q,rfl⟩ <;> simp only[zDd,ho,hy,zIm,ht,hk,hf,hj,hz,zPR,locO,Nat.zero_add]
 simp only[step1,e1]
theorem zED {sz t off:Nat}{ti:TI}{y:Operand}{p c:AV}{cs:List AV} (hg:o.guard=none) (hd:o.dst=some d) (hN:Nat.blt d N=true) (hn:dIn (some d) nm=false) (ho:o.op = .load t y) (ht:T t=some ti) (ha:ti.k.agg=false) (hl:isL sz p) (hy:opd T σ.env 0 y=locO p off)
  (hcs:zAX σ.hp p=some cs) (hc:cs[off]? = some c) (h:zDY T Γ M nm N all os (σ.putN d c) K):zDY T Γ M nm N all (o::os) σ K:=by
 rcases zDA hl hcs with ⟨q,i,e,rows,rfl,hq,hi⟩ | ⟨q,bt,rfl,hq⟩
 ·have hgd:rows.getD i []=cs :=(by rw[List.getD_eq_getElem?_getD,hi]; rfl);refine zSm hg hd hN hn ho hy hq (List.getElem?_eq_some_iff.1 hi).1 (c:=c) ?_ h;simp only[zQ7,ht,ha,hgd]
  rw[List.drop_eq_getElem_cons (List.getElem?_eq_some_iff.1 hc).1]
  simp only[(List.getElem?_eq_some_iff.1 hc).2]
 ·have hcall:callOf T Γ o σ.env=none :=(by simp only[callOf,ho]);exact zAd hg hd hN hcall hn (zXQ ho ht ha hy hq hc) trivial h
theorem zSn {sz t off:Nat}{ti:TI}{y z:Operand}{p c:AV}{cs:List AV} (hg:o.guard=none) (hd:o.dst=none) (ho:o.op = .store t y z) (ht:T t=some ti) (hs:ti.size=1) (hl:isL sz p) (hy:opd T σ.env 0 y=locO p off)
  (hcs:zAX σ.hp p=some cs) (hlen:cs.length=sz) (hoff:off<sz) (hz:(opd T σ.env t z).cellsA=[c]) (ho1:c.one=true) (hlt:c.lt σ.nx=true)
  (h:zDY T Γ M nm N all os { σ with hp:=putC σ.hp p (cs.set off c) } K):zDY T Γ M nm N all (o::os) σ K:=by
 have hcall:callOf T Γ o σ.env=none :=(by simp only[callOf,ho]);have hset:cs.take off++[c]++cs.drop (off+1)=cs.set off c:=by
  rw[List.set_eq_take_append_cons_drop,if_pos (by omega)]; simp
 have h1:Nat.ble (off+1) sz=true:=Nat.ble_eq_true_of_le hoff;rcases zDA hl hcs with ⟨q,i,e,rows,rfl,hq,hi⟩ | ⟨q,bt,rfl,hq⟩
 ·have hgd:rows.getD i []=cs :=(by rw[List.getD_eq_getElem?_getD,hi]; rfl);have hst:=zS8 (T:=T) (own:=dIn none M) (o:=o) (σ:=σ) ho ht hy hq (Nat.beq_refl _) (by rw[hz,hs]; rfl) (by rw[hs]; exact h1) (by rw[hz]; simp[ho1])
  refine zG0 hg hd hcall hst (List.getElem?_eq_some_iff.1 hi).1 ?_;rw[hgd,hz,hs,hset]
  rw[zLj hq]at h;exact h
 ·have hst:=zO7 (T:=T) (own:=dIn none M) (o:=o) (σ:=σ) ho ht hy hq (by rw[hz,hs]; rfl) (by rw[hs,hlen]; exact h1) (by rw[hz]; simp[ho1]) (by rw[hz]; simp[AV.ltAll,hlt])
  refine zG0 hg hd hcall hst trivial ?_;rw[hz,hs,hset]
  rw[zHd hq]at h;exact h
theorem zH8 {sz t:Nat}{ti:TI}{y z:Operand}{p:AV}{cs cs':List AV} (hg:o.guard=none) (hd:o.dst=none) (ho:o.op = .store t y z) (ht:T t=some ti) (hs:ti.size=sz) (hl:isL sz p) (hy:opd T σ.env 0 y=p)
  (hcs:zAX σ.hp p=some cs) (hlen:cs.length=sz) (hz:(opd T σ.env t z).cellsA=cs') (hlen':cs'.length=sz) (ho1:cs'.all AV.one=true) (hlt:AV.ltAll σ.nx cs'=true)
  (h:zDY T Γ M nm N all os { σ with hp:=putC σ.hp p cs' } K):zDY T Γ M nm N all (o::os) σ K:=by
 have hcall:callOf T Γ o σ.env=none :=(by simp only[callOf,ho]);have hset:cs.take 0++cs'++cs.drop (0+sz)=cs':=by
  rw[List.drop_eq_nil_of_le (by omega)]; simp
 have h1:Nat.ble (0+sz) sz=true:=Nat.ble_eq_true_of_le (by omega)
 have h2:Nat.beq cs'.length ti.size=true :=(by rw[hlen',hs]; exact Nat.beq_refl _);rcases zDA hl hcs with ⟨q,i,e,rows,rfl,hq,hi⟩ | ⟨q,bt,rfl,hq⟩
 ·have hgd:rows.getD i []=cs :=(by rw[List.getD_eq_getElem?_getD,hi]; rfl);have hst:=zS8 (T:=T) (own:=dIn none M) (o:=o) (σ:=σ) ho ht hy hq (Nat.beq_refl _) (by rw[hz]; exact h2) (by rw[hs]; exact h1) (by rw[hz]; exact ho1)
  refine zG0 hg hd hcall hst (List.getElem?_eq_some_iff.1 hi).1 ?_;rw[hgd,hz,hs,hset]
  rw[zLj hq]at h;exact h
 ·have hst:=zO7 (T:=T) (own:=dIn none M) (o:=o) (σ:=σ) ho ht hy hq (by rw[hz]; exact h2) (by rw[hs,hlen]; exact h1) (by rw[hz]; exact ho1) (by rw[hz]; exact hlt)
  refine zG0 hg hd hcall hst trivial ?_;rw[hz,hs,hset]
  rw[zHd hq]at h;exact h
theorem zD2 {j g:Nat}{want:Bool} (hg:o.guard=some (j,want)) (hj:(all[j]?).bind (·.dst)=some g) (hv:σ.env g = .s (.bool want)) (h:zDY T Γ M nm N all ({ o with guard:=none }::os) σ K):zDY T Γ M nm N all (o::os) σ K:=by
 unfold zDY at h ⊢;dsimp only at h ⊢;split
 ·rename_i h0
  rw[h0]at h;exact h
 ·rename_i h0
  rw[h0]at h;rw[hg]
  dsimp only;rw[hj]
  dsimp only;rw[hv]
  cases want <;> exact h
end
theorem PSound.giveAll {P:Program}{f:Nat}{R:List AV->(Nat->Option Ob)->Nat->(AV->(Nat->Option Ob)->Nat->Prop)->Prop}{S:List AV->Ret->Prop} (h:PSound P f (zSv R))
  (hS:∀ xs r,S xs r->∃ y,r = .val y/\y.pers=true/\R xs (fun _=>none) 0 fun x hp n=>RdV hp x y):PSound P f (zAw S):=by
 refine⟨h.1,fun G w xs vs r hlt hgl hp hv hs=>?_,fun R hR=>(by cases hR),fun R hR=>(by cases hR)⟩
 obtain⟨y,rfl,hy,hR⟩:=hS xs r hs;refine(h.2.2.2 R rfl G w (fun _=>.tuple #[]) xs vs (fun _=>none) 0 _ hlt hgl hv (AV.persAll_lt hp) ⟨fun k ob hk=>(by cases hk),fun k ob hk=>(by cases hk),fun k k' ob ob' hk=>(by cases hk)⟩ hR).mono ?_;rintro e w' ⟨v,G',β',x,hp',n',rfl,hΦ,hn,hfr,hsub,hnew,hlt',hx,hxl,hob,hst⟩
 let c:Cx:=zFY P w (fun _=>.tuple #[]) (fun _=>none) 0 G 0
 have hk:Keep G G' w w':=⟨hsub,fun b hb=>hfr.old b (hlt b hb) (by rintro⟨k,ob,h,_⟩; cases h)⟩
 have hc:Conc c G' β' ⟨fun _=>.junk,hp',n'⟩ { tmps:=#[],defers:=[] } w':={
  defers:=rfl
  size:=rfl
  env:=fun t=>by simp only[AVal]
  envlt:=fun t=>rfl
  hp:=hob.obs
  hplt:=hob.lts
  inj:=hob.inj
  lt:=hlt'
  sub:=hsub
  new:=hnew
  fr:=hfr
  stay:=⟨hn,hst⟩
  glob:=hgl.keep hk }
 have hmine:∀ b,c.mine b->w.heap.size<=b:=fun b hb=>by
  rcases hb with ⟨k,ob,h,_⟩ | h
  ·cases h
  ·exact h
 refine⟨v,allG G' β' hp',rfl,⟨hfr.os,hfr.tape,hfr.output,hfr.size,fun b hb=>hfr.old b hb (by rintro⟨k,ob,h,_⟩; cases h),fun b hb=>.inl (hsub b hb),fun b hb=>?_,fun b hb=>?_⟩,hy,(hΦ.aval hc hx).pers hy⟩
 ·rcases hb with hb | ⟨k,ob,h1,h2⟩
  ·exact(hnew b hb).imp id (hmine b)
  ·exact .inr (hmine b (row_block (hc.hp k ob h1) b h2).2)
 ·rcases hb with hb | ⟨k,ob,h1,h2⟩
  ·exact hlt' b hb
  ·exact hc.blk_lt h1 h2
theorem ObAt.give {c:Cx}{G G':Nat->Prop}{w:World}{β:Nat->Value}{v:Value}{ob:Ob} (hs:∀ b,G b->G' b) (hng:∀ b,blk v=some b->¬ G' b) (h:ObAt c G w β v ob):ObAt c G' w β v ob:=by
 have hk:Keep G G' w w:=⟨hs,fun _ _=>rfl⟩
 cases ob with
 | box t xs =>
  obtain⟨b,e,cur,q1,q2,q3,q4,q5,q6⟩:=h;exact⟨b,e,cur,q1,q2,hng b (by rw[q1]; rfl),q4,q5.keep hk,q6⟩
 | row e sz rows =>
  obtain⟨q1,q2,q3⟩:=h;refine⟨q1,q2,q3.imp id ?_⟩
  rintro⟨b,cap,cur,g1,g2,g3,g4,g5,g6,g7⟩
  exact⟨b,cap,cur,g1,g2,g3,g4,hng b (by rw[g1]; rfl),g6,fun i s hi=>let ⟨u,hu,hr'⟩:=g7 i s hi; ⟨u,hu,hr'.keep hk⟩⟩
 | arow e sz rows =>
  obtain⟨q1,q2,q3⟩:=h;refine⟨q1,q2,q3.imp id ?_⟩
  rintro⟨b,cap,cur,g1,g2,g3,g4,g5,g6,g7⟩
  exact⟨b,cap,cur,g1,g2,g3,g4,hng b (by rw[g1]; rfl),g6,fun i x hi=>let ⟨u,hu,hr',h1⟩:=g7 i x hi; ⟨u,hu,hr'.keep hk,h1⟩⟩
theorem RdV.lt {hp:Nat->Option Ob}{x y:AV} (h:RdV hp x y) (n:Nat):y.lt n=true:=by
 unfold RdV at h;split at h
 ·rfl
 ·rename_i xs ys
  simp only[AV.lt]
  refine zOx fun q y hq=>?_
  have hil:q<xs.length :=(by rw[h.1]; exact(List.getElem?_eq_some_iff.1 hq).1);obtain⟨s,rfl,_⟩:=h.2 q _ y (List.getElem?_eq_getElem hil) hq
  rfl
 ·rfl
 ·exact h.elim
def RdK (hp:Nat->Option Ob) (env:Nat->AV):List (Nat×AV)->Prop
 | []=>True
 | (t,y)::r=>(y=env t∨RdV hp (env t) y)/\RdK hp env r
theorem RdK.lt {hp:Nat->Option Ob}{env:Nat->AV}{n:Nat} (he:∀ t,(env t).lt n=true):∀ {l:List (Nat×AV)},RdK hp env l->∀ t,(ofL l t).lt n=true
 | [],_,t=>rfl
 | (u,y)::r,h,t=>by
  simp only[ofL]
  cases Nat.beq t u with
  | true =>
   rcases h.1 with h1 | h1
   ·rw[h1]; exact he u
   ·exact h1.lt n
  | false=>exact RdK.lt he h.2 t
theorem Le.givePart {c:Cx}{σ:St} (l:List (Nat×AV)) (hpD hpK:Nat->Option Ob) (hD:∀ k ob,hpD k=some ob->σ.hp k=some ob) (hK:∀ k ob,hpK k=some ob->σ.hp k=some ob) (dis:∀ k ob ob',hpD k=some ob->hpK k=some ob'->False)
  (h:RdK hpD σ.env l):Le c σ ⟨ofL l,hpK,σ.nx⟩:=by
 unfold Le;intro G β a w hc;have hk:Keep G (allG G β hpD) w w:=⟨fun _ h=>.inl h,fun _ _=>rfl⟩
 have hcD:Conc c G β ⟨σ.env,hpD,σ.nx⟩ a w:={ hc with hp:=fun k ob hk=>hc.hp k ob (hD k ob hk),hplt:=fun k ob hk=>hc.hplt k ob (hD k ob hk),inj:=fun k k' ob ob' hk hk'=>hc.inj k k' ob ob' (hD k ob hk) (hD k' ob' hk') }
 refine⟨allG G β hpD,β,{ defers:=hc.defers,size:=hc.size,env:=?_,envlt:=RdK.lt hc.envlt h,hp:=fun k ob hk'=>?_,hplt:=fun k ob hk=>hc.hplt k ob (hK k ob hk),inj:=fun k k' ob ob' hk hk'=>hc.inj k k' ob ob' (hK k ob hk) (hK k' ob' hk'),lt:=fun b hb=>?_,sub:=fun b hb=>.inl (hc.sub b hb),new:=fun b hb=>?_,fr:=hc.fr,stay:=hc.stay,glob:=hc.glob.keep hk }⟩
 ·intro t;show AVal (allG G β hpD) w β (ofL l t) (a.tmps.getD t undef)
  induction l with
  | nil=>simp only[ofL,AVal]
  | cons p r ih =>
   obtain⟨u,y⟩:=p;simp only[ofL]
   cases e:Nat.beq t u with
   | true =>
    obtain rfl:=Nat.eq_of_beq_eq_true e;rcases h.1 with h1 | h1
    ·rw[h1]; exact(hc.env t).keep hk
    ·exact h1.aval hcD (hc.env t)
   | false=>exact ih h.2
 ·refine(hc.hp k ob (hK k ob hk')).give (fun b h=>.inl h) fun b hb hg=>?_
  rcases hg with hg | ⟨k',ob',h1,h2⟩
  ·exact(row_block (hc.hp k ob (hK k ob hk')) b hb).1 hg
  ·by_cases e:k=k'
   ·subst e; exact dis k ob' ob h1 hk'
   ·exact hc.inj k k' ob ob' (hK k ob hk') (hD k' ob' h1) e b hb h2
 ·rcases hb with hb | ⟨k,ob,h1,h2⟩
  ·exact hc.lt b hb
  ·exact hc.blk_lt (hD k ob h1) h2
 ·rcases hb with hb | ⟨k,ob,h1,h2⟩
  ·exact hc.new b hb
  ·exact .inr (row_block (hc.hp k ob (hD k ob h1)) b h2).2
end Go.Abs
namespace Go.Proofs.YtgplhldfbkmmgaaGreat
open Go.Abs
def zBs (k:Int) (t:List UInt8) (c:Int) (v:AV):List AV:=[.s (.int .i64 k),.s (.str t),.s (.int .i64 c),v]
mutual
def At (hp:Nat->Option Ob) (e:Nat) (p:AV):Nd->List Nat->List AV->Nat->Prop
 | .mk k t c ks,keys,pd,w=>∃ v,zAX hp p=some (zBs k t c v) /\
   ((v = .s (.sl 4 (Nd.encs ks))/\keys=[]/\pd=[p]/\w=Nd.cnts ks+1)∨(ks=[]/\v = .s (.sl 4 [])/\keys=[]/\pd=[]/\w=0) ∨
    ∃ q rows keys',v = .orow q/\hp q=some (.arow e 4 rows)/\rows.length=ks.length/\keys=q::keys'/\LAt hp e q 0 ks keys' pd w)
def LAt (hp:Nat->Option Ob) (e q i:Nat):List Nd->List Nat->List AV->Nat->Prop
 | [],keys,pd,w=>keys=[]/\pd=[]/\w=0
 | t::ts,keys,pd,w=>∃ k1 k2 p1 p2 w1 w2,keys=k1++k2/\pd=p1++p2/\w=w1+w2/\At hp e (.rp q 4 i 0) t k1 p1 w1/\LAt hp e q (i+1) ts k2 p2 w2
end
mutual
theorem At.len {hp:Nat->Option Ob}{e:Nat}{p:AV}:∀ {t:Nd}{keys:List Nat}{pd:List AV}{w:Nat},At hp e p t keys pd w->pd.length<=w/\w<=t.cnt
 | .mk k t c ks,keys,pd,w,h=>by
  simp only[At]at h
  obtain⟨v,_,⟨_,_,rfl,rfl⟩ | ⟨_,_,_,rfl,rfl⟩ | ⟨q,rows,keys',_,_,_,_,h⟩⟩:=h
  ·simp[Nd.cnt]
  ·simp
  ·have:=LAt.len h
   simp only[Nd.cnt]; omega
theorem LAt.len {hp:Nat->Option Ob}{e q i:Nat}:∀ {ts:List Nd}{keys:List Nat}{pd:List AV}{w:Nat},LAt hp e q i ts keys pd w->pd.length<=w/\w<=Nd.cnts ts
 | [],keys,pd,w,h=>by
  simp only[LAt]at h
  obtain⟨_,rfl,rfl⟩:=h
  simp
 | t::ts,keys,pd,w,h=>by
  simp only[LAt]at h
  obtain⟨k1,k2,p1,p2,w1,w2,_,rfl,rfl,h1,h2⟩:=h
  have:=At.len h1
  have:=LAt.len h2
  simp only[Nd.cnts,List.length_append]; omega
end
structure Sim (hp hp':Nat->Option Ob) (e:Nat) (D:Nat->Prop) (p0:AV):Prop where
 row:∀ q rows,D q->hp q=some (.arow e 4 rows)->∃ rows',hp' q=some (.arow e 4 rows')/\rows'.length=rows.length
 cell:∀ p,D (zBE p)->p ≠ p0->isL 4 p->zAX hp' p=zAX hp p
theorem Sim.sub {hp hp':Nat->Option Ob}{e:Nat}{D D':Nat->Prop}{p0:AV} (h:Sim hp hp' e D p0) (hd:∀ q,D' q->D q):Sim hp hp' e D' p0 :=
 ⟨fun q rows hq=>h.row q rows (hd q hq),fun p hp=>h.cell p (hd _ hp)⟩
mutual
theorem At.sameQ {hp hp':Nat->Option Ob}{e:Nat}{p p0:AV}:∀ {t:Nd}{keys:List Nat}{pd:List AV}{w:Nat},At hp e p t keys pd w->isL 4 p->Sim hp hp' e (fun k=>k=zBE p∨k∈keys) p0->p ≠ p0->(∀ q j,q∈keys->AV.rp q 4 j 0 ≠ p0)->At hp' e p t keys pd w
 | .mk k t c ks,keys,pd,w,h,hl,hs,hne,hb=>by
  simp only[At]at h ⊢
  obtain⟨v,hc,h⟩:=h
  refine⟨v,by rw[hs.cell p (.inl rfl) hne hl,hc],?_⟩
  rcases h with h | h | ⟨q,rows,keys',h1,h2,h3,rfl,h5⟩
  ·exact .inl h
  ·exact .inr (.inl h)
  ·obtain⟨rows',h6,h7⟩:=hs.row q rows (.inr List.mem_cons_self) h2
   exact .inr (.inr ⟨q,rows',keys',h1,h6,h7.trans h3,rfl,LAt.sameQ h5 (hs.sub fun k hk=>.inr (List.mem_cons.2 hk)) (fun j _=>hb q j List.mem_cons_self) (fun q' j hm=>hb q' j (List.mem_cons_of_mem _ hm))⟩)
theorem LAt.sameQ {hp hp':Nat->Option Ob}{e q i:Nat}{p0:AV}:∀ {ts:List Nd}{keys:List Nat}{pd:List AV}{w:Nat},LAt hp e q i ts keys pd w->Sim hp hp' e (fun k=>k=q∨k∈keys) p0->(∀ j,i<=j->AV.rp q 4 j 0 ≠ p0)->(∀ q' j,q'∈keys->AV.rp q' 4 j 0 ≠ p0)->LAt hp' e q i ts keys pd w
 | [],_,_,_,h,_,_,_=>h
 | t::ts,keys,pd,w,h,hs,hne,hb=>by
  simp only[LAt]at h ⊢
  obtain⟨k1,k2,p1,p2,w1,w2,rfl,rfl,rfl,h1,h2⟩:=h
  exact⟨k1,k2,p1,p2,w1,w2,rfl,rfl,rfl,
   At.sameQ h1 (.inl ⟨q,i,rfl⟩) (hs.sub fun k hk=>hk.imp id (List.mem_append_left _)) (hne i (Nat.le_refl _)) (fun q' j hm=>hb q' j (List.mem_append_left _ hm)),
   LAt.sameQ h2 (hs.sub fun k hk=>hk.imp id (List.mem_append_right _)) (fun j hj=>hne j (by omega)) (fun q' j hm=>hb q' j (List.mem_append_right _ hm))⟩
end
theorem At.same {hp hp':Nat->Option Ob}{e:Nat}{p p0:AV}{t:Nd}{keys:List Nat}{pd:List AV}{w:Nat} (h:At hp e p t keys pd w) (hl:isL 4 p) (hs:Sim hp hp' e (fun k=>k=zBE p∨k∈keys) p0) (hne:p ≠ p0) (hb:zBE p0 ∉ keys):At hp' e p t keys pd w :=
 h.sameQ hl hs hne fun q j hm e=>hb (by rw[← e]; exact hm)
theorem LAt.same {hp hp':Nat->Option Ob}{e q i:Nat}{p0:AV}{ts:List Nd}{keys:List Nat}{pd:List AV}{w:Nat} (h:LAt hp e q i ts keys pd w) (hs:Sim hp hp' e (fun k=>k=q∨k∈keys) p0) (hne:∀ j,i<=j->AV.rp q 4 j 0 ≠ p0) (hb:zBE p0 ∉ keys):LAt hp' e q i ts keys pd w :=
 h.sameQ hs hne fun q j hm e=>hb (by rw[← e]; exact hm)
theorem Sim.same {hp hp':Nat->Option Ob}{e:Nat}{D:Nat->Prop}{p0:AV} (h:∀ k,D k->hp' k=hp k):Sim hp hp' e D p0 :=
 ⟨fun q rows hq hr=>⟨rows,(h q hq).trans hr,rfl⟩,fun p hp _ hl=>zCX hl (h _ hp)⟩
theorem At.frame {hp hp':Nat->Option Ob}{e:Nat}{p:AV}{t:Nd}{keys:List Nat}{pd:List AV}{w:Nat} (h:At hp e p t keys pd w) (hl:isL 4 p) (hs:∀ k,k=zBE p∨k∈keys->hp' k=hp k):At hp' e p t keys pd w :=
 h.sameQ hl (Sim.same (p0:=.junk) hs) (fun e=>by rcases hl with ⟨_,_,rfl⟩ | ⟨_,rfl⟩ <;> cases e) (fun q j _ e=>by cases e)
mutual
theorem At.base {hp:Nat->Option Ob}{e:Nat}{p p0:AV}:∀ {t:Nd}{keys:List Nat}{pd:List AV}{w:Nat},At hp e p t keys pd w->p0∈pd->p0=p∨zBE p0∈keys
 | .mk k t c ks,keys,pd,w,h,hm=>by
  simp only[At]at h
  obtain⟨v,_,⟨_,_,rfl,_⟩ | ⟨_,_,_,rfl,_⟩ | ⟨q,rows,keys',_,_,_,rfl,h⟩⟩:=h
  ·exact .inl (List.mem_singleton.1 hm)
  ·cases hm
  ·rcases LAt.base h hm with ⟨j,_,rfl⟩ | h
   ·exact .inr List.mem_cons_self
   ·exact .inr (List.mem_cons_of_mem _ h)
theorem LAt.base {hp:Nat->Option Ob}{e q i:Nat}{p0:AV}:∀ {ts:List Nd}{keys:List Nat}{pd:List AV}{w:Nat},LAt hp e q i ts keys pd w->p0∈pd->(∃ j,i<=j/\p0 = .rp q 4 j 0)∨zBE p0∈keys
 | [],keys,pd,w,h,hm=>by
  simp only[LAt]at h
  obtain⟨_,rfl,_⟩:=h
  cases hm
 | t::ts,keys,pd,w,h,hm=>by
  simp only[LAt]at h
  obtain⟨k1,k2,p1,p2,w1,w2,rfl,rfl,rfl,h1,h2⟩:=h
  rcases List.mem_append.1 hm with hm | hm
  ·rcases At.base h1 hm with rfl | hm
   ·exact .inl ⟨i,Nat.le_refl _,rfl⟩
   ·exact .inr (List.mem_append_left _ hm)
  ·rcases LAt.base h2 hm with ⟨j,hj,hm⟩ | hm
   ·exact .inl ⟨j,by omega,hm⟩
   ·exact .inr (List.mem_append_right _ hm)
end
mutual
theorem At.loc {hp:Nat->Option Ob}{e:Nat}{p p0:AV}:∀ {t:Nd}{keys:List Nat}{pd:List AV}{w:Nat},At hp e p t keys pd w->isL 4 p->p0∈pd->isL 4 p0
 | .mk k t c ks,keys,pd,w,h,hl,hm=>by
  simp only[At]at h
  obtain⟨v,_,⟨_,_,rfl,_⟩ | ⟨_,_,_,rfl,_⟩ | ⟨q,rows,keys',_,_,_,rfl,h⟩⟩:=h
  ·rw[List.mem_singleton.1 hm]; exact hl
  ·cases hm
  ·exact LAt.loc h hm
theorem LAt.loc {hp:Nat->Option Ob}{e q i:Nat}{p0:AV}:∀ {ts:List Nd}{keys:List Nat}{pd:List AV}{w:Nat},LAt hp e q i ts keys pd w->p0∈pd->isL 4 p0
 | [],keys,pd,w,h,hm=>by
  simp only[LAt]at h
  obtain⟨_,rfl,_⟩:=h
  cases hm
 | t::ts,keys,pd,w,h,hm=>by
  simp only[LAt]at h
  obtain⟨k1,k2,p1,p2,w1,w2,rfl,rfl,rfl,h1,h2⟩:=h
  rcases List.mem_append.1 hm with hm | hm
  ·exact At.loc h1 (.inl ⟨q,i,rfl⟩) hm
  ·exact LAt.loc h2 hm
end
theorem zW7 {α:Type}{a b S:List α}{x:α} (h:a++b=S++[x]):(b=[]/\a=S++[x])∨∃ S2,b=S2++[x]/\S=a++S2:=by
 rcases List.eq_nil_or_concat b with rfl | ⟨b',y,rfl⟩
 ·exact .inl ⟨rfl,by simpa using h⟩
 ·rw[List.concat_eq_append,← List.append_assoc]at h;have:=List.append_inj' h rfl;obtain⟨h1,h2⟩:=this;cases h2;exact .inr ⟨b',List.concat_eq_append,h1.symm⟩
def Repl (hp:Nat->Option Ob) (e:Nat) (p0:AV) (S:List AV) (w:Nat) (D:Nat->Prop) (keys:List Nat) (P:(Nat->Option Ob)->List Nat->List AV->Nat->Prop):Prop :=
 ∃ t0 w0,At hp e p0 t0 [] [p0] t0.cnt/\w=w0+t0.cnt/\∀ hp' new ch w',Sim hp hp' e D p0->At hp' e p0 t0 new ch w'->∃ keys2,keys2.Perm (keys++new)/\P hp' keys2 (S++ch) (w0+w')
theorem zXu {a b n:List Nat}{k2:List Nat} (h:k2.Perm (a++n)):(k2++b).Perm (a++b++n) :=
 (h.append_right b).trans (by rw[List.append_assoc,List.append_assoc]; exact(List.perm_append_comm).append_left a)
mutual
theorem At.repl {hp:Nat->Option Ob}{e:Nat}{p p0:AV}{S:List AV}:∀ {t:Nd}{keys:List Nat}{w:Nat},At hp e p t keys (S++[p0]) w->isL 4 p->(zBE p::keys).Nodup ->
  Repl hp e p0 S w (fun k=>k=zBE p∨k∈keys) keys fun hp' keys2 pd w=>At hp' e p t keys2 pd w
 | .mk k t c ks,keys,w,h,hl,hn=>by
  have h0:=h
  simp only[At]at h
  obtain⟨v,hc,⟨rfl,rfl,h2,rfl⟩ | ⟨_,_,_,h2,_⟩ | ⟨q,rows,keys',rfl,hq,hlen,rfl,h⟩⟩:=h
  ·cases S with
   | cons x S=>cases S <;> simp at h2
   | nil =>
    obtain rfl:p0=p:=by simpa using h2
    refine⟨.mk k t c ks,0,h0,by simp[Nd.cnt],fun hp' new ch w' _ ha=>⟨new,by simp,by simpa using ha⟩⟩
  ·simp at h2
  ·have hn2:=List.nodup_cons.1 hn
   have hb:zBE p0∈q::keys':=by
    rcases LAt.base h (p0:=p0) (by simp) with ⟨j,_,rfl⟩ | h
    ·exact List.mem_cons_self
    ·exact List.mem_cons_of_mem _ h
   have hne:p ≠ p0:=fun e=>hn2.1 (by rw[e]; exact hb)
   obtain⟨t0,w0,r1,r2,r3⟩:=LAt.repl h hn2.2
   refine⟨t0,w0,r1,r2,fun hp' new ch w' hs ha=>?_⟩
   obtain⟨rows',h6,h7⟩:=hs.row q rows (.inr List.mem_cons_self) hq
   obtain⟨keys2,hp2,hl2⟩:=r3 hp' new ch w' (hs.sub fun k hk=>.inr (List.mem_cons.2 hk)) ha
   refine⟨q::keys2,by simpa using hp2,?_⟩
   simp only[At]
   exact⟨.orow q,by rw[hs.cell p (.inl rfl) hne hl,hc],.inr (.inr ⟨q,rows',keys2,rfl,h6,h7.trans hlen,rfl,hl2⟩)⟩
theorem LAt.repl {hp:Nat->Option Ob}{e q i:Nat}{p0:AV}{S:List AV}:∀ {ts:List Nd}{keys:List Nat}{w:Nat},LAt hp e q i ts keys (S++[p0]) w->(q::keys).Nodup ->
  Repl hp e p0 S w (fun k=>k=q∨k∈keys) keys fun hp' keys2 pd w=>LAt hp' e q i ts keys2 pd w
 | [],keys,w,h,hn=>by
  simp only[LAt]at h
  simp at h
 | t::ts,keys,w,h,hn=>by
  simp only[LAt]at h
  obtain⟨k1,k2,p1,p2,w1,w2,rfl,hpd,rfl,h1,h2⟩:=h
  obtain⟨hq,hn2⟩:=List.nodup_cons.1 hn
  obtain⟨n1,n2,n12⟩:=List.nodup_append.1 hn2
  have hq1:q ∉ k1:=fun h=>hq (List.mem_append_left _ h)
  have hq2:q ∉ k2:=fun h=>hq (List.mem_append_right _ h)
  rcases zW7 hpd.symm with ⟨rfl,rfl⟩ | ⟨S2,rfl,rfl⟩
  ·have hb:=At.base h1 (p0:=p0) (by simp)
   obtain⟨t0,w0,r1,r2,r3⟩:=At.repl h1 (.inl ⟨q,i,rfl⟩) (List.nodup_cons.2 ⟨hq1,n1⟩)
   refine⟨t0,w0+w2,r1,by omega,fun hp' new ch w' hs ha=>?_⟩
   obtain⟨keys2,hp2,hl2⟩:=r3 hp' new ch w' (hs.sub fun k hk=>hk.imp id (List.mem_append_left _)) ha
   refine⟨keys2++k2,zXu hp2,?_⟩
   simp only[LAt]
   refine⟨keys2,k2,S++ch,[],w0+w',w2,rfl,by simp,by omega,hl2,?_⟩
   refine LAt.same h2 (hs.sub fun k hk=>hk.imp id (List.mem_append_right _)) (fun j hj e=>?_) (fun hm=>?_)
   ·rcases hb with rfl | hb
    ·cases e; omega
    ·rw[← e]at hb; exact hq1 hb
   ·rcases hb with rfl | hb
    ·exact hq2 hm
    ·exact n12 _ hb _ hm rfl
  ·have hb:=LAt.base h2 (p0:=p0) (by simp)
   obtain⟨t0,w0,r1,r2,r3⟩:=LAt.repl h2 (List.nodup_cons.2 ⟨hq2,n2⟩)
   refine⟨t0,w1+w0,r1,by omega,fun hp' new ch w' hs ha=>?_⟩
   obtain⟨keys2,hp2,hl2⟩:=r3 hp' new ch w' (hs.sub fun k hk=>hk.imp id (List.mem_append_right _)) ha
   refine⟨k1++keys2,by rw[List.append_assoc]; exact hp2.append_left k1,?_⟩
   simp only[LAt]
   refine⟨k1,keys2,p1,S2++ch,w1,w0+w',rfl,by simp,by omega,?_,hl2⟩
   refine At.same h1 (.inl ⟨q,i,rfl⟩) (hs.sub fun k hk=>hk.imp id (List.mem_append_left _)) (fun e=>?_) (fun hm=>?_)
   ·rcases hb with ⟨j,hj,hb⟩ | hb
    ·rw[hb]at e; cases e; omega
    ·rw[← e]at hb; exact hq2 hb
   ·rcases hb with ⟨j,hj,rfl⟩ | hb
    ·exact hq1 hm
    ·exact n12 _ hm _ hb rfl
end
theorem Sim.put {hp hp':Nat->Option Ob}{e:Nat}{D:Nat->Prop}{p0:AV}{c cs:List AV} (hl:isL 4 p0) (hc:zAX hp p0=some cs) (h:∀ k,D k->hp' k=putC hp p0 c k):Sim hp hp' e D p0 :=
 ⟨fun q rows hq hr=>by rw[h q hq]; exact zXy hl hc hr,fun p hp hne hl'=>(zCX hl' (h _ hp)).trans (zWz hl hc hl' hne)⟩
def locs (q i n:Nat):List AV:=(List.range' i n).map fun j=>.rp q 4 j 0
theorem LAt.fresh {hp:Nat->Option Ob}{e q:Nat}:∀ {ts:List Nd}{i:Nat},(∀ j x,ts[j]? = some x->zAX hp (.rp q 4 (i+j) 0)=some (x.enc.map AV.s))->LAt hp e q i ts [] (locs q i ts.length) (Nd.cnts ts)
 | [],i,_=>by simp[LAt,locs,Nd.cnts]
 | .mk k t c ks::ts,i,h=>by
  simp only[LAt]
  refine⟨[],[],[.rp q 4 i 0],locs q (i+1) ts.length,Nd.cnts ks+1,Nd.cnts ts,rfl,by simp[locs,List.range'_succ],by simp[Nd.cnts,Nd.cnt],?_,LAt.fresh fun j x hj=>?_⟩
  ·simp only[At]
   exact⟨.s (.sl 4 (Nd.encs ks)),h 0 (.mk k t c ks) rfl,.inl (by simp)⟩
  ·rw[show i+1+j=i+(j+1) by omega]; exact h (j+1) x (by simpa using hj)
theorem LAt.copied {hp:Nat->Option Ob}{e q:Nat}{ts:List Nd} (h:hp q=some (.arow e 4 ((Nd.encs ts).map (·.map AV.s)))):LAt hp e q 0 ts [] (locs q 0 ts.length) (Nd.cnts ts) :=
 LAt.fresh fun j x hj=>by
  rw[zGz h,Nat.zero_add,Nd.encs_eq,List.map_map,List.getElem?_map,hj]; rfl
theorem zTZ {hp:Nat->Option Ob}:∀ {rows:List (List AV)}{rs:List (List S)},(∀ (j:Nat) r s,rows[j]? = some r->rs[j]? = some s->r.length=s.length/\∀ (i:Nat) x y,r[i]? = some x->s[i]? = some y->Rd hp x y)->∀ (i:Nat) x y,rows.flatten[i]? = some x->rs.flatten[i]? = some y->Rd hp x y
 | [],_,_,_,_,_,h,_=>by simp at h
 | _::_,[],_,_,_,_,_,h=>by simp at h
 | r::rows,s::rs,h,i,x,y,hx,hy=>by
  obtain⟨hl,h0⟩:=h 0 r s (by simp) (by simp)
  rw[List.flatten_cons,List.getElem?_append]at hx hy
  by_cases hi:i<r.length
  ·rw[if_pos hi]at hx;rw[if_pos (hl ▸ hi)]at hy;exact h0 i x y hx hy
  ·rw[if_neg hi]at hx;rw[if_neg (hl ▸ hi),← hl]at hy;exact zTZ (fun j r s hr hs=>h (j+1) r s (by simpa using hr) (by simpa using hs)) _ x y hx hy
def RdC (hp:Nat->Option Ob) (cs:List AV) (ss:List S):Prop:=cs.length=ss.length/\∀ (i:Nat) x y,cs[i]? = some x->ss[i]? = some y->Rd hp x y
theorem RdC.node {hp:Nat->Option Ob}{k:Int}{t:List UInt8}{c:Int}{ks:List Nd}{v:AV} (h:Rd hp v (.sl 4 (Nd.encs ks))):RdC hp (zBs k t c v) (Nd.enc (.mk k t c ks)) :=
 ⟨rfl,fun i x y hx hy=>by
  match i with
  | 0=>cases hx; cases hy; exact .s _
  | 1=>cases hx; cases hy; exact .s _
  | 2=>cases hx; cases hy; exact .s _
  | 3=>cases hx; cases hy; exact h
  | i+4=>simp[zBs]at hx⟩
theorem Rd.rows {hp:Nat->Option Ob}{q e:Nat}{rows:List (List AV)}{ks:List Nd} (hq:hp q=some (.arow e 4 rows)) (hl:rows.length=ks.length) (h:∀ j x,ks[j]? = some x->∃ cs,zAX hp (.rp q 4 j 0)=some cs/\RdC hp cs x.enc):Rd hp (.orow q) (.sl 4 (Nd.encs ks)):=by
 rw[Nd.encs_eq]
 refine .arow hq (by simpa using hl) (fun r hr=>?_) (zTZ fun j r s hr hs=>?_)
 ·obtain⟨x,_,rfl⟩:=List.mem_map.1 hr;cases x; rfl
 ·rw[List.getElem?_map]at hs;cases hx:ks[j]? with
  | none=>rw[hx]at hs; cases hs
  | some x =>
   rw[hx]at hs; cases hs
   obtain⟨cs,h1,h2⟩:=h j x hx;rw[zGz hq,hr]at h1;cases h1;exact h2
mutual
theorem At.rd {hp:Nat->Option Ob}{e:Nat}{p:AV}:∀ {t:Nd}{keys:List Nat}{pd:List AV}{w:Nat},At hp e p t keys pd w->∃ cs,zAX hp p=some cs/\RdC hp cs t.enc
 | .mk k t c ks,keys,pd,w,h=>by
  simp only[At]at h
  obtain⟨v,hc,⟨rfl,_⟩ | ⟨rfl,rfl,_⟩ | ⟨q,rows,keys',rfl,hq,hlen,rfl,h⟩⟩:=h
  ·exact⟨_,hc,.node (.s _)⟩
  ·exact⟨_,hc,.node (.s _)⟩
  ·exact⟨_,hc,.node (Rd.rows hq hlen fun j x hj=>(by have:=LAt.rd h j x hj; rwa [Nat.zero_add]at this))⟩
theorem LAt.rd {hp:Nat->Option Ob}{e q i:Nat}:∀ {ts:List Nd}{keys:List Nat}{pd:List AV}{w:Nat},LAt hp e q i ts keys pd w->∀ j x,ts[j]? = some x->∃ cs,zAX hp (.rp q 4 (i+j) 0)=some cs/\RdC hp cs x.enc
 | [],keys,pd,w,h,j,x,hj=>by simp at hj
 | t::ts,keys,pd,w,h,0,x,hj=>by
  simp only[LAt]at h
  obtain⟨k1,k2,p1,p2,w1,w2,rfl,rfl,rfl,h1,h2⟩:=h
  cases hj
  exact At.rd h1
 | t::ts,keys,pd,w,h,j+1,x,hj=>by
  simp only[LAt]at h
  obtain⟨k1,k2,p1,p2,w1,w2,rfl,rfl,rfl,h1,h2⟩:=h
  rw[show i+(j+1)=i+1+j by omega]
  exact LAt.rd h2 j x (by simpa using hj)
end
theorem zXB {hp:Nat->Option Ob}{cs:List AV}{t:Nd} (h:RdC hp cs t.enc):RdV hp (.agg cs) (.agg (t.enc.map AV.s)):=by
 refine⟨by simpa using h.1,fun i x y hx hy=>?_⟩
 rw[List.getElem?_map]at hy;cases hs:t.enc[i]? with
 | none=>rw[hs]at hy; cases hy
 | some s=>rw[hs]at hy; cases hy; exact⟨s,rfl,h.2 i x s hx hs⟩
def Hole (hp:Nat->Option Ob) (e:Nat) (p:AV) (keys:List Nat) (p1:AV) (y:Nd) (F:Nd->Nd):Prop :=
 ∃ keys0 rest w0,keys.Perm (keys0++rest)/\At hp e p1 y keys0 [] w0/\isL 4 p1/\(p1=p∨zBE p1∈rest) /\
  ∀ hp' t1 new w1,Sim hp hp' e (fun k=>k=zBE p∨k∈rest) p1->At hp' e p1 t1 new [] w1->∃ keys2 w2,keys2.Perm (rest++new)/\At hp' e p (F t1) keys2 [] w2
theorem Hole.refl {hp:Nat->Option Ob}{e w:Nat}{p:AV}{t:Nd}{keys:List Nat} (h:At hp e p t keys [] w) (hl:isL 4 p):Hole hp e p keys p t id :=
 ⟨keys,[],w,by simp,h,hl,.inl rfl,fun hp' t1 new w1 _ h1=>⟨new,w1,by simp,h1⟩⟩
theorem LAt.hole {hp:Nat->Option Ob}{e q:Nat}{x:Nd}:∀ {ts:List Nd}{keys:List Nat}{w i j:Nat},LAt hp e q i ts keys [] w->(q::keys).Nodup->ts[j]? = some x ->
  ∃ keys0 rest w0,keys.Perm (keys0++rest)/\At hp e (.rp q 4 (i+j) 0) x keys0 [] w0/\∀ hp' t1 new w1,Sim hp hp' e (fun k=>k=q∨k∈rest) (.rp q 4 (i+j) 0)->At hp' e (.rp q 4 (i+j) 0) t1 new [] w1 ->
   ∃ keys2 w2,keys2.Perm (rest++new)/\LAt hp' e q i (ts.set j t1) keys2 [] w2
 | [],keys,w,i,j,h,hn,hx=>by simp at hx
 | t::ts,keys,w,i,0,h,hn,hx=>by
  simp only[LAt]at h;obtain⟨k1,k2,p1,p2,w1,w2,rfl,hpd,rfl,h1,h2⟩:=h;obtain⟨rfl,rfl⟩:=List.append_eq_nil_iff.1 hpd.symm;cases hx;have hq:=(List.nodup_cons.1 hn).1;refine⟨k1,k2,w1,List.Perm.refl _,h1,fun hp' t1 new w3 hs h3=>⟨new++k2,w3+w2,List.perm_append_comm,?_⟩⟩
  simp only[List.set_cons_zero,LAt]
  exact⟨new,k2,[],[],w3,w2,rfl,rfl,rfl,h3,LAt.same h2 hs (fun j hj e=>by cases e; omega) (fun hm=>hq (List.mem_append_right _ hm))⟩
 | t::ts,keys,w,i,j+1,h,hn,hx=>by
  simp only[LAt]at h;obtain⟨k1,k2,p1,p2,w1,w2,rfl,hpd,rfl,h1,h2⟩:=h;obtain⟨rfl,rfl⟩:=List.append_eq_nil_iff.1 hpd.symm;obtain⟨hq,hn2⟩:=List.nodup_cons.1 hn;obtain⟨n1,n2,_⟩:=List.nodup_append.1 hn2;obtain⟨keys0,rest,w0,r1,r2,r3⟩:=LAt.hole (i:=i+1) (j:=j) h2 (List.nodup_cons.2 ⟨fun hm=>hq (List.mem_append_right _ hm),n2⟩) (by simpa using hx)
  rw[show i+1+j=i+(j+1) by omega]at r2 r3;refine⟨keys0,k1++rest,w0,List.perm_iff_count.2 fun a=>?_,r2,fun hp' t1 new w3 hs h3=>?_⟩
  ·have:=r1.count_eq a;simp only[List.count_append]at this ⊢
   omega
  ·obtain⟨keys2,w4,q1,q2⟩:=r3 hp' t1 new w3 (hs.sub fun k hk=>hk.imp id (List.mem_append_right _)) h3;refine⟨k1++keys2,w1+w4,by rw[List.append_assoc]; exact q1.append_left k1,?_⟩
   simp only[List.set_cons_succ,LAt]
   exact⟨k1,keys2,[],[],w1,w4,rfl,rfl,rfl,At.same h1 (.inl ⟨q,i,rfl⟩) (hs.sub fun k hk=>hk.imp id (List.mem_append_left _)) (fun e=>by injection e with e1 e2 e3 e4; omega) (fun hm=>hq (List.mem_append_left _ hm)),q2⟩
theorem Hole.kid {hp:Nat->Option Ob}{e w i:Nat}{p:AV}{k c:Int}{tx:List UInt8}{ks:List Nd}{x:Nd}{keys:List Nat} (h:At hp e p (.mk k tx c ks) keys [] w) (hl:isL 4 p) (hn:(zBE p::keys).Nodup) (hx:ks[i]? = some x) :
  ∃ q rows,zAX hp p=some (zBs k tx c (.orow q))/\hp q=some (.arow e 4 rows)/\rows.length=ks.length/\Hole hp e p keys (.rp q 4 i 0) x (fun x'=>.mk k tx c (ks.set i x')):=by
 simp only[At]at h;obtain⟨v,hc,⟨_,_,h,_⟩ | ⟨rfl,_⟩ | ⟨q,rows,keys',rfl,hq,hlen,rfl,h⟩⟩:=h
 ·cases h
 ·simp at hx
 ·obtain⟨hb,hn2⟩:=List.nodup_cons.1 hn;obtain⟨keys0,rest,w0,r1,r2,r3⟩:=LAt.hole h hn2 hx;rw[Nat.zero_add]at r2 r3;refine⟨q,rows,hc,hq,hlen,keys0,q::rest,w0,List.perm_iff_count.2 fun a=>?_,r2,.inl ⟨q,i,rfl⟩,.inr List.mem_cons_self,fun hp' t1 new w1 hs h1=>?_⟩
  ·have:=r1.count_eq a;simp only[List.count_append,List.count_cons]at this ⊢
   omega
  ·obtain⟨rows',g1,g2⟩:=hs.row q rows (.inr List.mem_cons_self) hq;obtain⟨keys2,w2,q1,q2⟩:=r3 hp' t1 new w1 (hs.sub fun k hk=>.inr (List.mem_cons.2 hk)) h1;refine⟨q::keys2,w2,by simpa using q1,?_⟩
   simp only[At]
   refine⟨.orow q,by rw[hs.cell p (.inl rfl) (fun e=>hb (by rw[e]; exact List.mem_cons_self)) hl,hc],.inr (.inr ⟨q,rows',keys2,rfl,g1,by rw[g2,hlen,List.length_set],rfl,q2⟩)⟩
theorem Hole.trans {hp:Nat->Option Ob}{e:Nat}{p p1 p2:AV}{y z:Nd}{keys:List Nat}{F F2:Nd->Nd} (hn:(zBE p::keys).Nodup) (h:Hole hp e p keys p1 y F) (k:∀ keys0 w0,At hp e p1 y keys0 [] w0->isL 4 p1->(zBE p1::keys0).Nodup->Hole hp e p1 keys0 p2 z F2):Hole hp e p keys p2 z (fun x=>F (F2 x)):=by
 obtain⟨keys0,rest,w0,a1,a2,a3,a4,a5⟩:=h;obtain⟨hb,hnk⟩:=List.nodup_cons.1 hn;obtain⟨n0,n1,n01⟩:=List.nodup_append.1 (a1.nodup_iff.1 hnk)
 have hb1:zBE p1 ∉ keys0:=fun hm=>by
  rcases a4 with rfl | a4
  ·exact hb (a1.mem_iff.2 (List.mem_append_left _ hm))
  ·exact n01 _ hm _ a4 rfl
 obtain⟨keys1,rest1,w1,b1,b2,b3,b4,b5⟩:=k keys0 w0 a2 a3 (List.nodup_cons.2 ⟨hb1,n0⟩)
 refine⟨keys1,rest1++rest,w1,List.perm_iff_count.2 fun a=>?_,b2,b3,?_,fun hp' t1 new w2 hs h2=>?_⟩
 ·have:=a1.count_eq a;have:=b1.count_eq a;simp only[List.count_append]at *
  omega
 ·rcases b4 with rfl | b4
  ·exact a4.imp id (List.mem_append_right _)
  ·exact .inr (List.mem_append_left _ b4)
 ·have hp1:zBE p1=zBE p∨zBE p1∈rest:=a4.imp (fun e=>by rw[e]) id;obtain⟨keysA,wA,q1,q2⟩:=b5 hp' t1 new w2 (hs.sub fun k hk=>by
   rcases hk with rfl | hk
   ·exact hp1.imp id (List.mem_append_right _)
   ·exact .inr (List.mem_append_left _ hk)) h2
  have hs1:Sim hp hp' e (fun k=>k=zBE p∨k∈rest) p1:=⟨fun q rows hq=>hs.row q rows (hq.imp id (List.mem_append_right _)),fun p' hp' hne hl'=>by
   by_cases e2:p'=p2
   ·subst e2;rcases b4 with b4 | b4
    ·exact absurd b4 hne
    ·exfalso
     have hm:zBE p'∈keys0:=b1.mem_iff.2 (List.mem_append_right _ b4)
     rcases hp' with h3 | h3
     ·exact hb (a1.mem_iff.2 (List.mem_append_left _ (by rw[← h3]; exact hm)))
     ·exact n01 _ hm _ h3 rfl
   ·exact hs.cell p' (hp'.imp id (List.mem_append_right _)) e2 hl'⟩
  obtain⟨keysB,wB,q3,q4⟩:=a5 hp' (F2 t1) keysA wA hs1 q2;refine⟨keysB,wB,List.perm_iff_count.2 fun a=>?_,q4⟩
  have:=q1.count_eq a;have:=q3.count_eq a;simp only[List.count_append]at *
  omega
def tab:List (Nat×TI):=[
 (3,⟨.int .i64,1,8,[.int .i64 0]⟩),
 (4,⟨.bool,1,1,[.bool false]⟩),
 (5,⟨.int .u8,1,1,[.int .u8 0]⟩),
 (9,⟨.str,1,16,[.str []]⟩),
 (22,⟨.slice 24,1,24,[.sl 4 []]⟩),
 (24,⟨.struct [(0,3),(1,9),(2,3),(3,22)],4,56,[.int .i64 0,.str [],.int .i64 0,.sl 4 []]⟩),
 (25,⟨.slice 60,1,24,[.sl 5 []]⟩),
 (27,⟨.struct [(0,9),(1,24),(5,25),(6,3)],7,104,[.str [],.int .i64 0,.str [],.int .i64 0,.sl 4 [],.sl 5 [],.int .i64 0]⟩),
 (30,⟨.slice 5,1,24,[.sl 1 []]⟩),
 (55,⟨.slice 63,1,24,[.sl 8 []]⟩),
 (56,⟨.slice 3,1,24,[.sl 1 []]⟩),
 (58,⟨.struct [(0,56),(1,56)],2,48,[.sl 1 [],.sl 1 []]⟩),
 (60,⟨.struct [(0,55),(1,58),(3,58)],5,120,[.sl 8 [],.sl 1 [],.sl 1 [],.sl 1 [],.sl 1 []]⟩),
 (63,⟨.struct [(0,3),(1,56),(2,3),(3,3),(4,22),(5,3),(6,9),(7,9)],8,112,[.int .i64 0,.sl 1 [],.int .i64 0,.int .i64 0,.sl 4 [],.int .i64 0,.str [],.str []]⟩)]
def T (t:Nat):Option TI:=look? t tab
theorem zZB:∀ p∈tab,okT Tryz.prog p.1 p.2:=by
 simp only[tab,List.forall_mem_cons]
 refine⟨?_,?_,?_,?_,?_,?_,?_,?_,?_,?_,?_,?_,?_,?_,by simp⟩
 ·exact⟨_,Tryz.t3,_,Tryz.underlying3,rfl,by kernel_rfl,rfl,rfl,rfl,rfl,rfl,fun _=>rfl,rfl⟩
 ·exact⟨_,Tryz.t4,_,Tryz.underlying4,rfl,by kernel_rfl,rfl,rfl,rfl,rfl,rfl,fun _=>rfl,rfl⟩
 ·exact⟨_,Tryz.t5,_,Tryz.underlying5,rfl,by kernel_rfl,rfl,rfl,rfl,rfl,rfl,fun _=>rfl,rfl⟩
 ·exact⟨_,Tryz.t9,_,Tryz.underlying9,rfl,by kernel_rfl,rfl,rfl,rfl,rfl,rfl,fun _=>rfl,rfl⟩
 ·exact⟨_,Tryz.t22,_,Tryz.underlying22,rfl,by kernel_rfl,rfl,rfl,rfl,rfl,rfl,fun _=>rfl,rfl⟩
 ·exact⟨_,Tryz.t24,_,Tryz.underlying24,rfl,by kernel_rfl,rfl,rfl,rfl,rfl,rfl,(fun h=>by cases h),rfl⟩
 ·exact⟨_,Tryz.t25,_,Tryz.underlying25,rfl,by kernel_rfl,rfl,rfl,rfl,rfl,rfl,fun _=>rfl,rfl⟩
 ·exact⟨_,Tryz.t27,_,Tryz.underlying27,rfl,by kernel_rfl,rfl,rfl,rfl,rfl,rfl,(fun h=>by cases h),rfl⟩
 ·exact⟨_,Tryz.t30,_,Tryz.underlying30,rfl,by kernel_rfl,rfl,rfl,rfl,rfl,rfl,fun _=>rfl,rfl⟩
 ·exact⟨_,Tryz.t55,_,Tryz.underlying55,rfl,by kernel_rfl,rfl,rfl,rfl,rfl,rfl,fun _=>rfl,rfl⟩
 ·exact⟨_,Tryz.t56,_,Tryz.underlying56,rfl,by kernel_rfl,rfl,rfl,rfl,rfl,rfl,fun _=>rfl,rfl⟩
 ·exact⟨_,Tryz.t58,_,Tryz.underlying58,rfl,by kernel_rfl,rfl,rfl,rfl,rfl,rfl,(fun h=>by cases h),rfl⟩
 ·exact⟨_,Tryz.t60,_,Tryz.underlying60,rfl,by kernel_rfl,rfl,rfl,rfl,rfl,rfl,(fun h=>by cases h),rfl⟩
 ·exact⟨_,Tryz.t63,_,Tryz.underlying63,rfl,by kernel_rfl,rfl,rfl,rfl,rfl,rfl,(fun h=>by cases h),rfl⟩
theorem tok:TOk Tryz.prog T:=zX9 zZB
theorem tcl:∀ t i,T t=some i->zEj T i=true:=zVX (by rfl)
def tabX:List (Nat×TI):=[
 (31,⟨.int .i64,1,8,[.int .i64 0]⟩),
 (34,⟨.struct [(0,9),(1,24),(5,25),(6,3)],7,104,[.str [],.int .i64 0,.str [],.int .i64 0,.sl 4 [],.sl 5 [],.int .i64 0]⟩),
 (40,⟨.fn,1,8,[.nf]⟩),
 (49,⟨.ptr 104,1,8,[.np]⟩),
 (66,⟨.slice 68,1,24,[.sl 4 []]⟩),
 (68,⟨.struct [(0,3),(1,3),(2,9),(3,66)],4,56,[.int .i64 0,.int .i64 0,.str [],.sl 4 []]⟩),
 (70,⟨.int .u64,1,8,[.int .u64 0]⟩),
 (73,⟨.slice 75,1,24,[.sl 4 []]⟩),
 (75,⟨.struct [(0,3),(1,3),(2,9),(3,73)],4,56,[.int .i64 0,.int .i64 0,.str [],.sl 4 []]⟩),
 (80,⟨.fn,1,8,[.nf]⟩),
 (87,⟨.int .u64,1,8,[.int .u64 0]⟩),
 (90,⟨.ptr 92,1,8,[.np]⟩),
 (92,⟨.struct [(0,31)],1,8,[.int .i64 0]⟩),
 (104,⟨.struct [(0,24),(4,24),(8,25),(9,3)],10,144,[.int .i64 0,.str [],.int .i64 0,.sl 4 [],.int .i64 0,.str [],.int .i64 0,.sl 4 [],.sl 5 [],.int .i64 0]⟩),
 (112,⟨.ptr 68,1,8,[.np]⟩),
 (115,⟨.fn,1,8,[.nf]⟩),
 (116,⟨.fn,1,8,[.nf]⟩),
 (118,⟨.fn,1,8,[.nf]⟩),
 (128,⟨.ptr 130,1,8,[.np]⟩),
 (130,⟨.struct [(0,30)],1,24,[.sl 1 []]⟩),
 (135,⟨.fn,1,8,[.nf]⟩),
 (136,⟨.fn,1,8,[.nf]⟩),
 (139,⟨.fn,1,8,[.nf]⟩),
 (150,⟨.ptr 24,1,8,[.np]⟩),
 (151,⟨.slice 150,1,24,[.sl 1 []]⟩),
 (155,⟨.fn,1,8,[.nf]⟩),
 (161,⟨.ptr 167,1,8,[.np]⟩),
 (163,⟨.struct [(0,9),(1,3),(2,80)],3,32,[.str [],.int .i64 0,.nf]⟩),
 (164,⟨.arr 13 163,39,416,[.str [],.int .i64 0,.nf,.str [],.int .i64 0,.nf,.str [],.int .i64 0,.nf,.str [],.int .i64 0,.nf,.str [],.int .i64 0,.nf,.str [],.int .i64 0,.nf,.str [],.int .i64 0,.nf,.str [],.int .i64 0,.nf,.str [],.int .i64 0,.nf,.str [],.int .i64 0,.nf,.str [],.int .i64 0,.nf,.str [],.int .i64 0,.nf,.str [],.int .i64 0,.nf]⟩),
 (167,⟨.struct [(0,164),(39,3)],40,424,[.str [],.int .i64 0,.nf,.str [],.int .i64 0,.nf,.str [],.int .i64 0,.nf,.str [],.int .i64 0,.nf,.str [],.int .i64 0,.nf,.str [],.int .i64 0,.nf,.str [],.int .i64 0,.nf,.str [],.int .i64 0,.nf,.str [],.int .i64 0,.nf,.str [],.int .i64 0,.nf,.str [],.int .i64 0,.nf,.str [],.int .i64 0,.nf,.str [],.int .i64 0,.nf,.int .i64 0]⟩),
 (175,⟨.fn,1,8,[.nf]⟩),
 (182,⟨.fn,1,8,[.nf]⟩),
 (186,⟨.fn,1,8,[.nf]⟩),
 (187,⟨.fn,1,8,[.nf]⟩),
 (196,⟨.struct [(0,63),(8,22)],9,136,[.int .i64 0,.sl 1 [],.int .i64 0,.int .i64 0,.sl 4 [],.int .i64 0,.str [],.str [],.sl 4 []]⟩),
 (200,⟨.slice 9,1,24,[.sl 1 []]⟩),
 (209,⟨.slice 56,1,24,[.sl 1 []]⟩),
 (216,⟨.fn,1,8,[.nf]⟩),
 (233,⟨.slice 22,1,24,[.sl 1 []]⟩),
 (235,⟨.int .u32,1,4,[.int .u32 0]⟩)]
theorem zZA:∀ p∈tabX,okT Tryz.prog p.1 p.2:=by
 simp only[tabX,List.forall_mem_cons]
 refine⟨?_,?_,?_,?_,?_,?_,?_,?_,?_,?_,?_,?_,?_,?_,?_,?_,?_,?_,?_,?_,?_,?_,?_,?_,?_,?_,?_,?_,?_,?_,?_,?_,?_,?_,?_,?_,?_,?_,?_,?_,by simp⟩
 ·exact⟨_,Tryz.t31,_,Tryz.underlying31,rfl,by kernel_rfl,rfl,rfl,rfl,rfl,rfl,fun _=>rfl,rfl⟩
 ·exact⟨_,Tryz.t34,_,Tryz.underlying34,rfl,by kernel_rfl,rfl,rfl,rfl,rfl,rfl,(fun h=>by cases h),rfl⟩
 ·exact⟨_,Tryz.t40,_,Tryz.underlying40,rfl,by kernel_rfl,rfl,rfl,rfl,rfl,rfl,fun _=>rfl,rfl⟩
 ·exact⟨_,Tryz.t49,_,Tryz.underlying49,rfl,by kernel_rfl,rfl,rfl,rfl,rfl,rfl,fun _=>rfl,rfl⟩
 ·exact⟨_,Tryz.t66,_,Tryz.underlying66,rfl,by kernel_rfl,rfl,rfl,rfl,rfl,rfl,fun _=>rfl,rfl⟩
 ·exact⟨_,Tryz.t68,_,Tryz.underlying68,rfl,by kernel_rfl,rfl,rfl,rfl,rfl,rfl,(fun h=>by cases h),rfl⟩
 ·exact⟨_,Tryz.t70,_,Tryz.underlying70,rfl,by kernel_rfl,rfl,rfl,rfl,rfl,rfl,fun _=>rfl,rfl⟩
 ·exact⟨_,Tryz.t73,_,Tryz.underlying73,rfl,by kernel_rfl,rfl,rfl,rfl,rfl,rfl,fun _=>rfl,rfl⟩
 ·exact⟨_,Tryz.t75,_,Tryz.underlying75,rfl,by kernel_rfl,rfl,rfl,rfl,rfl,rfl,(fun h=>by cases h),rfl⟩
 ·exact⟨_,Tryz.t80,_,Tryz.underlying80,rfl,by kernel_rfl,rfl,rfl,rfl,rfl,rfl,fun _=>rfl,rfl⟩
 ·exact⟨_,Tryz.t87,_,Tryz.underlying87,rfl,by kernel_rfl,rfl,rfl,rfl,rfl,rfl,fun _=>rfl,rfl⟩
 ·exact⟨_,Tryz.t90,_,Tryz.underlying90,rfl,by kernel_rfl,rfl,rfl,rfl,rfl,rfl,fun _=>rfl,rfl⟩
 ·exact⟨_,Tryz.t92,_,Tryz.underlying92,rfl,by kernel_rfl,rfl,rfl,rfl,rfl,rfl,(fun h=>by cases h),rfl⟩
 ·exact⟨_,Tryz.t104,_,Tryz.underlying104,rfl,by kernel_rfl,rfl,rfl,rfl,rfl,rfl,(fun h=>by cases h),rfl⟩
 ·exact⟨_,Tryz.t112,_,Tryz.underlying112,rfl,by kernel_rfl,rfl,rfl,rfl,rfl,rfl,fun _=>rfl,rfl⟩
 ·exact⟨_,Tryz.t115,_,Tryz.underlying115,rfl,by kernel_rfl,rfl,rfl,rfl,rfl,rfl,fun _=>rfl,rfl⟩
 ·exact⟨_,Tryz.t116,_,Tryz.underlying116,rfl,by kernel_rfl,rfl,rfl,rfl,rfl,rfl,fun _=>rfl,rfl⟩
 ·exact⟨_,Tryz.t118,_,Tryz.underlying118,rfl,by kernel_rfl,rfl,rfl,rfl,rfl,rfl,fun _=>rfl,rfl⟩
 ·exact⟨_,Tryz.t128,_,Tryz.underlying128,rfl,by kernel_rfl,rfl,rfl,rfl,rfl,rfl,fun _=>rfl,rfl⟩
 ·exact⟨_,Tryz.t130,_,Tryz.underlying130,rfl,by kernel_rfl,rfl,rfl,rfl,rfl,rfl,(fun h=>by cases h),rfl⟩
 ·exact⟨_,Tryz.t135,_,Tryz.underlying135,rfl,by kernel_rfl,rfl,rfl,rfl,rfl,rfl,fun _=>rfl,rfl⟩
 ·exact⟨_,Tryz.t136,_,Tryz.underlying136,rfl,by kernel_rfl,rfl,rfl,rfl,rfl,rfl,fun _=>rfl,rfl⟩
 ·exact⟨_,Tryz.t139,_,Tryz.underlying139,rfl,by kernel_rfl,rfl,rfl,rfl,rfl,rfl,fun _=>rfl,rfl⟩
 ·exact⟨_,Tryz.t150,_,Tryz.underlying150,rfl,by kernel_rfl,rfl,rfl,rfl,rfl,rfl,fun _=>rfl,rfl⟩
 ·exact⟨_,Tryz.t151,_,Tryz.underlying151,rfl,by kernel_rfl,rfl,rfl,rfl,rfl,rfl,fun _=>rfl,rfl⟩
 ·exact⟨_,Tryz.t155,_,Tryz.underlying155,rfl,by kernel_rfl,rfl,rfl,rfl,rfl,rfl,fun _=>rfl,rfl⟩
 ·exact⟨_,Tryz.t161,_,Tryz.underlying161,rfl,by kernel_rfl,rfl,rfl,rfl,rfl,rfl,fun _=>rfl,rfl⟩
 ·exact⟨_,Tryz.t163,_,Tryz.underlying163,rfl,by kernel_rfl,rfl,rfl,rfl,rfl,rfl,(fun h=>by cases h),rfl⟩
 ·exact⟨_,Tryz.t164,_,Tryz.underlying164,rfl,by kernel_rfl,rfl,rfl,rfl,rfl,rfl,(fun h=>by cases h),rfl⟩
 ·exact⟨_,Tryz.t167,_,Tryz.underlying167,rfl,by kernel_rfl,rfl,rfl,rfl,rfl,rfl,(fun h=>by cases h),rfl⟩
 ·exact⟨_,Tryz.t175,_,Tryz.underlying175,rfl,by kernel_rfl,rfl,rfl,rfl,rfl,rfl,fun _=>rfl,rfl⟩
 ·exact⟨_,Tryz.t182,_,Tryz.underlying182,rfl,by kernel_rfl,rfl,rfl,rfl,rfl,rfl,fun _=>rfl,rfl⟩
 ·exact⟨_,Tryz.t186,_,Tryz.underlying186,rfl,by kernel_rfl,rfl,rfl,rfl,rfl,rfl,fun _=>rfl,rfl⟩
 ·exact⟨_,Tryz.t187,_,Tryz.underlying187,rfl,by kernel_rfl,rfl,rfl,rfl,rfl,rfl,fun _=>rfl,rfl⟩
 ·exact⟨_,Tryz.t196,_,Tryz.underlying196,rfl,by kernel_rfl,rfl,rfl,rfl,rfl,rfl,(fun h=>by cases h),rfl⟩
 ·exact⟨_,Tryz.t200,_,Tryz.underlying200,rfl,by kernel_rfl,rfl,rfl,rfl,rfl,rfl,fun _=>rfl,rfl⟩
 ·exact⟨_,Tryz.t209,_,Tryz.underlying209,rfl,by kernel_rfl,rfl,rfl,rfl,rfl,rfl,fun _=>rfl,rfl⟩
 ·exact⟨_,Tryz.t216,_,Tryz.underlying216,rfl,by kernel_rfl,rfl,rfl,rfl,rfl,rfl,fun _=>rfl,rfl⟩
 ·exact⟨_,Tryz.t233,_,Tryz.underlying233,rfl,by kernel_rfl,rfl,rfl,rfl,rfl,rfl,fun _=>rfl,rfl⟩
 ·exact⟨_,Tryz.t235,_,Tryz.underlying235,rfl,by kernel_rfl,rfl,rfl,rfl,rfl,rfl,fun _=>rfl,rfl⟩
def TW (t:Nat):Option TI:=look? t (tab++tabX)
theorem tokW:TOk Tryz.prog TW:=zX9 fun p hp=>(List.mem_append.1 hp).elim (zZB p) (zZA p)
theorem mixed:Tryz.prog.follows .mixedOrders=true:=by kernel_rfl
end Go.Proofs.YtgplhldfbkmmgaaGreat
namespace Go.Proofs
set_option maxHeartbeats 1000000 in
theorem Tryz.stringslite_IndexByte (s:ByteArray) (c:Int) (w:World) :
  Calls Tryz.prog 194 #[.string s,.int .u8 c] w fun e w'=>e = .returned (.int .i64 (Lib.indexByte s.data.toList c.toNat.toUInt8))/\w'=w:=by
 go_enter Tryz.func194,Tryz.ntmps194
 go_wp2
 rw[run_callFunc_extern Tryz.func201 (by kernel_rfl) (by kernel_rfl) (by kernel_rfl) (e:=Extern.BytealgIndexByte.indexByte) (by kernel_rfl),Lib.run_indexByteString]
 simp only[Result.andThen]
 rw[Oper.upon_value]
 go_wp2
 go_ret
 exact⟨rfl,rfl⟩
theorem Tryz.stringslite_Index_one (s:ByteArray) (c:UInt8) (w:World) :
  Calls Tryz.prog 200 #[.string s,.string ⟨#[c]⟩] w fun e w'=>e = .returned (.int .i64 (Lib.indexByte s.data.toList c))/\w'=w:=by
 go_enter Tryz.func200,Tryz.ntmps200
 go_wp2_with (go_at_call 194; refine(Tryz.stringslite_IndexByte _ _ _).mono ?_; rintro e w' ⟨rfl,rfl⟩)
 ·have h:([c] == s.toList)=true:=by assumption
  go_ret
  refine⟨?_,rfl⟩
  have e:s.data.toList=[c] :=(by rw[← Lib.toList_data]; exact(beq_iff_eq.1 h).symm);rw[e]
  simp[Lib.indexByte]
 ·go_ret
  exact⟨rfl,rfl⟩
set_option maxHeartbeats 1000000 in
theorem Tryz.strings_IndexByte (s:ByteArray) (c:Int) (w:World) :
  Calls Tryz.prog 175 #[.string s,.int .u8 c] w fun e w'=>e = .returned (.int .i64 (Lib.indexByte s.data.toList c.toNat.toUInt8))/\w'=w:=by
 go_enter Tryz.func175,Tryz.ntmps175
 go_wp2_with (go_at_call 194; refine(Tryz.stringslite_IndexByte _ _ _).mono ?_; rintro e w' ⟨rfl,rfl⟩)
 go_ret
 exact⟨rfl,rfl⟩
set_option maxHeartbeats 1000000 in
theorem Tryz.strings_Index_one (s:ByteArray) (c:UInt8) (w:World) :
  Calls Tryz.prog 192 #[.string s,.string ⟨#[c]⟩] w fun e w'=>e = .returned (.int .i64 (Lib.indexByte s.data.toList c))/\w'=w:=by
 go_enter Tryz.func192,Tryz.ntmps192
 go_wp2_with (go_at_call 200; refine(Tryz.stringslite_Index_one _ _ _).mono ?_; rintro e w' ⟨rfl,rfl⟩)
 go_ret
 exact⟨rfl,rfl⟩
set_option maxHeartbeats 1000000 in
theorem Tryz.strings_Contains_one (s:ByteArray) (c:UInt8) (w:World) :
  Calls Tryz.prog 171 #[.string s,.string ⟨#[c]⟩] w fun e w'=>e = .returned (.bool (decide (0<=Lib.indexByte s.data.toList c)))/\w'=w:=by
 go_enter Tryz.func171,Tryz.ntmps171
 go_wp2_with (go_at_call 192; refine(Tryz.strings_Index_one _ _ _).mono ?_; rintro e w' ⟨rfl,rfl⟩)
 go_ret
 exact⟨rfl,rfl⟩
end Go.Proofs
namespace Go.Proofs.YtgplhldfbkmmgaaGreat
open Go.Abs
theorem zMQ {f:Nat}{s:List AV->Ret->Prop} (hcall:∀ args w,(callFunc f args).run Tryz.prog w = .ok (.enter f args) w)
  (h:∀ (G:Nat->Prop) (w:World) (xs:List AV) (vs:List Value) (r:Ret),AVals G w (fun _=>.tuple #[]) xs vs->s xs r->Calls Tryz.prog f vs.toArray w fun e w'=>w'=w/\∃ v,e = .returned v/\RetAt G w w r v):PSound Tryz.prog f (zAw s) :=
 ⟨hcall,fun G w xs vs r hl _ _ hv hs=>(h G w xs vs r hv hs).mono fun e w' ⟨h1,v,h2,h3⟩=>(by subst h1; exact⟨v,G,h2,Ext.refl hl,h3⟩),fun R hR=>(by cases hR),fun R hR=>(by cases hR)⟩
def zKU (xs:List AV) (r:Ret):Prop:=∃ (a0 a1:List UInt8) (y0:Int),zES a0 a1=some y0/\xs=[.s (.str a0),.s (.str a1)]/\r = .val (.s (.int .i64 y0))
def zGT:zAq:=zAw fun xs r=>zKU xs r
theorem zKo:PSound Tryz.prog 200 zGT:=zMQ Tryz.call200 fun G w xs vs r hv ⟨a,p,y,h,hx,hr⟩=>by
 subst hx; subst hr
 obtain⟨hp,h⟩:=zAI h;have hy:=Option.some.inj h;subst hy;obtain⟨c,rfl⟩:∃ c,p=[c]:=by
  match p,hp with
  | [c],_=>exact⟨c,rfl⟩
 simp only[AVals,AVal,Rep]at hv;obtain⟨_,_,rfl,rfl,_,_,rfl,rfl,rfl⟩:=hv;exact(Tryz.stringslite_Index_one ⟨a.toArray⟩ c w).mono fun e w' ⟨h1,h2⟩=>⟨h2,_,h1,rfl,by simp only[AVal,Rep]; rfl⟩
def zLE (xs:List AV) (r:Ret):Prop:=∃ (a0 a1:List UInt8) (y0:Bool),zFm a0 a1=some y0/\xs=[.s (.str a0),.s (.str a1)]/\r = .val (.s (.bool y0))
def zHu:zAq:=zAw fun xs r=>zLE xs r
theorem zLh:PSound Tryz.prog 171 zHu:=zMQ Tryz.call171 fun G w xs vs r hv ⟨a,p,y,h,hx,hr⟩=>by
 subst hx; subst hr
 obtain⟨hp,h⟩:=zAI h;have hy:=Option.some.inj h;subst hy;obtain⟨c,rfl⟩:∃ c,p=[c]:=by
  match p,hp with
  | [c],_=>exact⟨c,rfl⟩
 simp only[AVals,AVal,Rep]at hv;obtain⟨_,_,rfl,rfl,_,_,rfl,rfl,rfl⟩:=hv;exact(Tryz.strings_Contains_one ⟨a.toArray⟩ c w).mono fun e w' ⟨h1,h2⟩=>⟨h2,_,h1,rfl,by simp only[AVal,Rep]; rfl⟩
def zKT (xs:List AV) (r:Ret):Prop:=∃ (a0:List UInt8) (a1:Int) (y0:Int),zDG a0 a1=some y0/\xs=[.s (.str a0),.s (.int .u8 a1)]/\r = .val (.s (.int .i64 y0))
def zGS:zAq:=zAw fun xs r=>zKT xs r
theorem zKn:PSound Tryz.prog 175 zGS:=zMQ Tryz.call175 fun G w xs vs r hv ⟨a,c,y,h,hx,hr⟩=>by
 subst hx; subst hr
 have hy:=Option.some.inj h;subst hy;simp only[AVals,AVal,Rep]at hv;obtain⟨_,_,rfl,rfl,_,_,rfl,rfl,rfl⟩:=hv;exact(Tryz.strings_IndexByte ⟨a.toArray⟩ c w).mono fun e w' ⟨h1,h2⟩=>⟨h2,_,h1,rfl,by simp only[AVal,Rep]⟩
def VAt (hp:Nat->Option Ob) (e:Nat) (v:AV) (ks:List Nd) (keys:List Nat):Prop :=
 (ks=[]/\v = .s (.sl 4 [])/\keys=[])∨∃ q rows keys' w,v = .orow q/\hp q=some (.arow e 4 rows)/\rows.length=ks.length/\keys=q::keys'/\LAt hp e q 0 ks keys' [] w
theorem At.full {hp:Nat->Option Ob}{e:Nat}{p:AV}{k c:Int}{t:List UInt8}{ks:List Nd}{keys:List Nat}{w:Nat} (h:At hp e p (.mk k t c ks) keys [] w):∃ v,zAX hp p=some (zBs k t c v)/\VAt hp e v ks keys:=by
 simp only[At]at h;obtain⟨v,hc,⟨_,_,h,_⟩ | ⟨rfl,rfl,rfl,_,_⟩ | ⟨q,rows,keys',rfl,hq,hlen,rfl,h⟩⟩:=h
 ·cases h
 ·exact⟨_,hc,.inl ⟨rfl,rfl,rfl⟩⟩
 ·exact⟨_,hc,.inr ⟨q,rows,keys',w,rfl,hq,hlen,rfl,h⟩⟩
def zRP (xs:List AV) (hp:Nat->Option Ob) (n:Nat) (Φ:AV->(Nat->Option Ob)->Nat->Prop):Prop :=
 ∃ (k c:Int) (tx:List UInt8) (ks:List Nd),(Nd.mk k tx c ks).cnt<=1000000000/\xs=[.agg (zBs k tx c (.s (.sl 4 (Nd.encs ks))))] /\
  ∀ v hp' n' keys,n<=n'->(∀ k,k<n->hp' k=hp k)->VAt hp' 24 v ks keys->keys.Nodup->(∀ k∈keys,n<=k/\k<n')->Φ (.agg (zBs k tx c v)) hp' n'
def zNV:zAq:=zSv zRP
theorem zWJ {T:Nat->Option TI}{σ:St}{t ty q bt:Nat}{i:TI}{cells:List AV} (h1:σ.env t = .op q 0) (h2:σ.hp q=some (.box bt cells)) (h3:T ty=some i) (ha:i.k.agg=true) (hz:i.size=cells.length):zMU T σ [.cell t ty]=some (AV.deep (.agg cells)):=by
 have hb:Nat.ble i.size cells.length=true :=(by rw[hz]; exact Nat.ble_eq_true_of_le (Nat.le_refl _));simp only[zMU,zJP,zS4,h1,h2,h3,ha,hb]
 rw[hz,List.take_length]
theorem zWZ {σ:St}{q:Nat}{ob:Ob}:(zGy σ q ob).hp q=some ob:=by simp only[zGy,Nat.beq_refl,cond_true]
theorem upd_ne {σ:St}{q k:Nat}{ob:Ob} (h:k ≠ q):(zGy σ q ob).hp k=σ.hp k:=by simp only[zGy,zEX h,cond_false]
theorem VAt.frame {hp hp':Nat->Option Ob}{e:Nat}{v:AV}{ks:List Nd}{keys:List Nat} (h:VAt hp e v ks keys) (hs:∀ k∈keys,hp' k=hp k):VAt hp' e v ks keys:=by
 rcases h with h | ⟨q,rows,keys',w,h1,h2,h3,rfl,h4⟩
 ·exact .inl h
 ·exact .inr ⟨q,rows,keys',w,h1,(hs q List.mem_cons_self).trans h2,h3,rfl,h4.sameQ (Sim.same (p0:=.junk) fun k hk=>hs k (List.mem_cons.2 hk)) (fun j _ e=>by cases e) (fun q j _ e=>by cases e)⟩
theorem zDZ {T:Nat->Option TI}{own:Bool}{o:Oper}{σ:St}{p:AV}{y:Operand} (hl:isL 4 p) (ho:o.op = .assign y∨o.op = .move y) (hy:opd T σ.env o.type y=p) (hn:(own&&zCY y)=false):step1 T own o σ=some (none,p,σ):=by
 have e0:p.nrm=p:=by rcases hl with ⟨_,_,rfl⟩ | ⟨_,rfl⟩ <;> rfl
 have e1:zDd T own o σ.env=some (none,p):=by
  rcases ho with ho | ho <;> simp only[zDd,ho,hn,hy,e0]
 simp only[step1,e1]
theorem zJW {c:Cx}{x:Code}{σ:St}{Q:Abs.End->St->Prop} (l:List (Nat×AV)) (n':Nat) (h:holds σ.env l) (hn:σ.nx=n') (hk:∀ H,(∀ k,H k=σ.hp k)->Tri c x ⟨ofL l,H,n'⟩ Q):Tri c x σ Q:=by
 subst hn;exact zAj (Le.forget l h) (hk σ.hp fun _=>rfl)
theorem At.pend {hp:Nat->Option Ob}{e w:Nat}{p:AV}{k c:Int}{tx:List UInt8}{ks:List Nd} (h:At hp e p (.mk k tx c ks) [] [p] w):zAX hp p=some (zBs k tx c (.s (.sl 4 (Nd.encs ks)))):=by
 simp only[At]at h;obtain⟨v,hc,⟨rfl,_⟩ | ⟨_,_,_,h,_⟩ | ⟨q,rows,keys',_,_,_,h,_⟩⟩:=h
 ·exact hc
 ·cases h
 ·cases h
theorem zJ4 {hp hp':Nat->Option Ob}{sz k:Nat}{p:AV}{c:List AV} (hl:isL sz p) (h1:hp' k=hp k) (h2:hp' (zBE p)=hp (zBE p)):putC hp' p c k=putC hp p c k:=by
 rcases hl with ⟨q,i,rfl⟩ | ⟨q,rfl⟩ <;> (simp only[zBE]at h2; simp only[putC,h1,h2])
theorem zVr {hp hp':Nat->Option Ob}{sz k:Nat}{p:AV}{c c' cs:List AV} (hl:isL sz p) (hc:zAX hp p=some cs) (h:hp' (zBE p)=putC hp p c' (zBE p)) (hk:k ≠ zBE p->hp' k=hp k):putC hp' p c k=putC hp p c k:=by
 by_cases hb:k=zBE p
 ·subst hb;rcases zDA hl hc with ⟨q,i,e,rows,rfl,hq,hi⟩ | ⟨q,bt,rfl,hq⟩
  ·simp only[zBE]at h ⊢;rw[zLj hq]at h ⊢;simp only[Nat.beq_refl,cond_true]at h ⊢;rw[zLj h]
   simp only[Nat.beq_refl,cond_true,List.set_set]
  ·simp only[zBE]at h ⊢;rw[zHd hq]at h ⊢;simp only[Nat.beq_refl,cond_true]at h ⊢;rw[zHd h]
   simp only[Nat.beq_refl,cond_true]
 ·rw[zCm hb,zCm hb,hk hb]
theorem zWh {q j:Nat}:locs q 0 (j+1)=locs q 0 j++[.rp q 4 j 0]:=by
 simp[locs,List.range'_concat]
theorem zXj {α:Type}{S:List α}{p:α}:((S++[p]).map fun p=>[p]).getD S.length []=[p]:=by
 simp[List.getD_eq_getElem?_getD]
structure DInv (hp:Nat->Option Ob) (n e pe:Nat) (t:Nd) (H:Nat->Option Ob) (ls nx:Nat) (S:List AV) (keys:List Nat) (w:Nat):Prop where
 low:∀ k,k<n->H k=hp k
 res:∃ a b c d,H (n+1)=some (.box e [a,b,c,d])
 stk:H ls=some (.arow pe 1 (S.map fun p=>[p]))
 tree:At H e (.op n 0) t keys S w
 nd:(n::keys).Nodup
 kb:∀ k∈keys,n+1<k/\k<nx/\k ≠ ls
 l1:n+1<ls
 l2:ls<nx
set_option maxHeartbeats 4000000 in
theorem zIw:PSound Tryz.prog 53 zNV:=by
 have gok:=@gok0 Tryz.prog;refine zQg tokW Tryz.call53 Tryz.func53 rfl (fun xs hp n Φ h=>by obtain⟨_,_,_,_,_,rfl,_⟩:=h; show 1<=_; decide) _ rfl ?_;rintro xs hp n Φ w0 G0 B0 ⟨k0,c,tx,ks,hcnt,rfl,hΦ⟩ _ hhp;refine zYZ [1,2] [] rfl ?_;refine zYZ [7] [] rfl ?_;show Tri ..
 refine zAj (Le.forgetH [(1,.op n 0),(2,.op (n+1) 0),(3,.orow (n+2))] (fun k=>bif Nat.beq k (n+2) then some (.arow 150 1 [[.op n 0]]) else bif Nat.beq k (n+1) then some (.box 24 [.s (.int .i64 0),.s (.str []),.s (.int .i64 0),.nl 4]) else bif Nat.beq k n then some (.box 24 (zBs k0 tx c (.s (.sl 4 (Nd.encs ks))))) else hp k) (n+3) ⟨rfl,rfl,rfl,trivial⟩ (fun k=>rfl) rfl) ?_
 have hI:DInv hp n 24 150 (.mk k0 tx c ks) (fun k=>bif Nat.beq k (n+2) then some (.arow 150 1 [[.op n 0]]) else bif Nat.beq k (n+1) then some (.box 24 [.s (.int .i64 0),.s (.str []),.s (.int .i64 0),.nl 4]) else bif Nat.beq k n then some (.box 24 (zBs k0 tx c (.s (.sl 4 (Nd.encs ks))))) else hp k) (n+2) (n+3) [.op n 0] [] (Nd.mk k0 tx c ks).cnt:={
  low:=fun k hk=>by
   have h1:k ≠ n+2 :=(by omega);have h2:k ≠ n+1 :=(by omega);have h3:k ≠ n :=(by omega);simp only[zEX h1,zEX h2,zEX h3,cond_false]
  res:=⟨.s (.int .i64 0),.s (.str []),.s (.int .i64 0),.nl 4,by
   have h1:n+1 ≠ n+2 :=(by omega);simp only[zEX h1,Nat.beq_refl,cond_false,cond_true]⟩
  stk:=by simp only[Nat.beq_refl,cond_true]; rfl
  tree:=by
   have h1:n ≠ n+2 :=(by omega);have h2:n ≠ n+1 :=(by omega);simp only[At]
   exact⟨.s (.sl 4 (Nd.encs ks)),zEY (bt:=24) (by simp only[zEX h1,zEX h2,Nat.beq_refl,cond_false,cond_true]),.inl (by simp[Nd.cnt])⟩
  nd:=by simp
  kb:=fun k hk=>by cases hk
  l1:=by omega
  l2:=by omega }
 generalize hH:(fun k=>bif Nat.beq k (n+2) then some (Ob.arow 150 1 [[AV.op n 0]]) else bif Nat.beq k (n+1) then some (Ob.box 24 [AV.s (.int .i64 0),AV.s (.str []),AV.s (.int .i64 0),AV.nl 4]) else bif Nat.beq k n then some (Ob.box 24 (zBs k0 tx c (.s (.sl 4 (Nd.encs ks))))) else hp k)=H0 at hI ⊢
 clear hH
 refine zAa ?_;refine zAk (zAD (X:=(Nat->Option Ob)×Nat×Nat×List AV×List Nat×Nat) (fun y=>match y with | (H,ls,nx,S,keys,w)=>⟨ofL [(1,.op n 0),(2,.op (n+1) 0),(3,.orow ls)],H,nx⟩)
  (fun y=>match y with | (H,ls,nx,S,keys,w)=>DInv hp n 24 150 (.mk k0 tx c ks) H ls nx S keys w) (fun y=>match y with | (H,ls,nx,S,keys,w)=>w) (H0,n+2,n+3,[.op n 0],[],(Nd.mk k0 tx c ks).cnt) hI (Le.refl _ _) ?_)
 rintro⟨H,ls,nx,S,keys,w⟩ hI;have hI:DInv hp n 24 150 (.mk k0 tx c ks) H ls nx S keys w:=hI;refine zAa ?_;refine zZO ?_;refine zAd rfl rfl rfl rfl rfl rfl trivial ?_;refine zAd rfl rfl rfl rfl rfl (zO6 rfl rfl rfl rfl rfl hI.stk) trivial ?_;refine zAd rfl rfl rfl rfl rfl rfl trivial ?_;refine zA0 rfl (fun hb=>?_) (fun hb=>?_)
 rotate_left
 ·refine zAJ ?_;refine zAj (Le.forget [(1,.op n 0),(2,.op (n+1) 0),(3,.orow ls)] ⟨rfl,rfl,rfl,trivial⟩) ?_;have hS:S=[]:=by
   cases S with
   | nil=>rfl
   | cons x S =>
    have:=of_decide_eq_false hb;simp only[List.length_map,List.length_cons]at this
    omega
  subst hS;obtain⟨v,hc,hv⟩:=hI.tree.full;rcases zDA (sz:=4) (.inr ⟨n,rfl⟩) hc with ⟨q,i,e,rows,h1,_⟩ | ⟨q,bt,h1,hq⟩
  ·cases h1
  cases h1;obtain⟨ra,rb,rc,rd,hr1⟩:=hI.res;refine zZO ?_;refine zAd rfl rfl rfl rfl rfl (zWR rfl rfl rfl rfl hq rfl) trivial ?_;have hvl:v.one=true/\v.lt nx=true:=by
   rcases hv with ⟨_,rfl,_⟩ | ⟨q,_,_,_,rfl,_,_,hk,_⟩
   ·exact⟨rfl,rfl⟩
   ·exact⟨rfl,decide_eq_true (hI.kb q (by rw[hk]; exact List.mem_cons_self)).2.1⟩
  refine zG0 rfl rfl rfl (zO7 rfl rfl rfl hr1 rfl rfl (by show([AV.s _,AV.s _,AV.s _,v]:List AV).all AV.one=true; simp only[List.all_cons,List.all_nil,hvl.1]; rfl) (by show AV.ltAll nx [AV.s _,AV.s _,AV.s _,v]=true; simp only[AV.ltAll,hvl.2]; rfl)) trivial ?_;refine zAe ?_;have hln:n<nx:=Nat.lt_trans (Nat.lt_trans (Nat.lt_succ_self n) hI.l1) hI.l2;have hdeep:AV.deep (.agg (zBs k0 tx c v)) = .agg (zBs k0 tx c v):=by
   rcases hv with ⟨_,rfl,_⟩ | ⟨q,_,_,_,rfl,_⟩ <;> rfl
  unfold zKq;refine⟨_,Le.refl _ _,.agg (zBs k0 tx c v),?_,hΦ v _ _ keys (Nat.le_of_lt hln) (fun k hk=>?_) ?_ (List.nodup_cons.1 hI.nd).2 fun k hk=>⟨Nat.le_of_lt (Nat.lt_trans (Nat.lt_succ_self n) (hI.kb k hk).1),(hI.kb k hk).2.1⟩⟩
  ·exact(zWJ (cells:=zBs k0 tx c v) rfl zWZ rfl rfl rfl).trans (congrArg some hdeep)
  ·exact(upd_ne (by omega)).trans (hI.low k hk)
  ·exact hv.frame fun k hk=>upd_ne (by have:=(hI.kb k hk).1; omega)
 refine zAf ?_;show Tri ..;obtain⟨S',p,rfl⟩:∃ S' p,S=S'++[p]:=by
  rcases List.eq_nil_or_concat S with rfl | ⟨S',p,rfl⟩
  ·cases hb
  ·exact⟨S',p,List.concat_eq_append⟩
 have hl0:isL 4 p:=hI.tree.loc (.inr ⟨n,rfl⟩) (by simp)
 obtain⟨⟨k1,tx1,c1,ks1⟩,w1,hp0,hw,hrep⟩:=hI.tree.repl (.inr ⟨n,rfl⟩) hI.nd;have hcell:=hp0.pend;have hwl:=hI.tree.len;have hSl:S'.length<1000000000:=by
  have:=hwl.1;have:=hwl.2;simp only[List.length_append,List.length_singleton]at *
  omega
 have hz:IntKind.i64.wrap (((((S'++[p]).map fun p=>[p]).length:Nat):Int) - 1)=(S'.length:Int):=by
  rw[wrap64_in (by simp only[List.length_map,List.length_append,List.length_singleton]; omega) (by simp only[List.length_map,List.length_append,List.length_singleton]; omega)]
  simp only[List.length_map,List.length_append,List.length_singleton]; omega
 have hlt1:S'.length<((S'++[p]).map fun p=>[p]).length :=(by simp);refine zAj (Le.forget [(1,.op n 0),(2,.op (n+1) 0),(3,.orow ls)] ⟨rfl,rfl,rfl,trivial⟩) ?_;refine zAk ?_;refine zZO ?_;refine zAd rfl rfl rfl rfl rfl rfl trivial ?_;refine zAd rfl rfl rfl rfl rfl rfl trivial ?_;refine zAd rfl rfl rfl rfl rfl (zO6 rfl rfl rfl rfl rfl hI.stk) trivial ?_;refine zAd rfl rfl rfl rfl rfl rfl trivial ?_;rw[hz]
 refine zAd rfl rfl rfl rfl rfl (zRG rfl rfl rfl rfl rfl rfl hI.stk rfl) ⟨Int.natCast_nonneg _,Int.ofNat_lt.2 hlt1⟩ ?_;refine zSm (c:=p) rfl rfl rfl rfl rfl rfl hI.stk hlt1 (by rw[Int.toNat_natCast,zXj]; rfl) ?_;refine zAd rfl rfl rfl rfl rfl (zDZ hl0 (.inl rfl) rfl rfl) trivial ?_;refine zAj (Le.forget [(1,.op n 0),(2,.op (n+1) 0),(3,.orow ls),(4,p)] ⟨rfl,rfl,rfl,rfl,trivial⟩) ?_;refine zYZ [21] [] rfl ?_;refine zAd rfl rfl rfl rfl rfl rfl trivial ?_;refine zAd rfl rfl rfl rfl rfl rfl trivial ?_;refine zAd rfl rfl rfl rfl rfl (zO6 rfl rfl rfl rfl rfl hI.stk) trivial ?_
 refine zAd rfl rfl rfl rfl rfl rfl trivial ?_;rw[hz]
 refine zAd rfl rfl rfl rfl rfl (zWS rfl rfl rfl rfl rfl rfl hI.stk rfl) ⟨Int.natCast_nonneg _,Int.ofNat_le.2 (Nat.le_of_lt hlt1)⟩ ?_;refine zAd rfl rfl rfl rfl rfl rfl trivial ?_;show Tri ..;refine zJW [(1,.op n 0),(2,.op (n+1) 0),(3,.orow nx),(4,p)] (nx+1) ⟨rfl,rfl,rfl,rfl,trivial⟩ rfl fun H1 hH1=>?_
 have g1:H1 nx=some (.arow 150 1 (S'.map fun p=>[p])):=(hH1 nx).trans (by
  show(bif Nat.beq nx nx then some (Ob.arow 150 1 (((S'++[p]).map fun p=>[p]).take ((S'.length:Int)).toNat)) else _)=_;rw[Nat.beq_refl,cond_true,Int.toNat_natCast]
  simp)
 have g2:∀ k,k ≠ nx->k ≠ ls->H1 k=H k:=fun k h1 h2=>(hH1 k).trans (by
  show(bif Nat.beq k nx then _ else bif Nat.beq k ls then none else H k)=_;rw[zEX h1,zEX h2]; rfl)
 clear hH1
 have hbase:zBE p=n∨zBE p∈keys:=by
  rcases hI.tree.base (p0:=p) (by simp) with h | h
  ·exact .inl (by rw[h]; rfl)
  ·exact .inr h
 have hln:n<nx:=Nat.lt_trans (Nat.lt_trans (Nat.lt_succ_self n) hI.l1) hI.l2;have hbl:zBE p ≠ nx/\zBE p ≠ ls/\zBE p ≠ n+1/\zBE p<nx:=by
  have h1:=hI.l1;have h2:=hI.l2;rcases hbase with h | h
  ·rw[h]; omega
  ·have:=hI.kb _ h; omega
 have fin:∀ (cs:List AV) (Hj:Nat->Option Ob) (lsj nxj:Nat) (new:List Nat) (ch:List AV) (w':Nat),(∀ k,k ≠ ls->k<nx->Hj k=putC H p cs k)->Hj lsj=some (.arow 150 1 ((S'++ch).map fun p=>[p]))->At Hj 24 p (.mk k1 tx1 c1 ks1) new ch w' ->
   new.Nodup->(∀ k∈new,nx<=k/\k<nxj/\k ≠ lsj)->nx<=lsj->lsj<nxj->w'<(Nd.mk k1 tx1 c1 ks1).cnt->∃ keys2,DInv hp n 24 150 (.mk k0 tx c ks) Hj lsj nxj (S'++ch) keys2 (w1+w')/\w1+w'<w:=by
  intro cs Hj lsj nxj new ch w' f1 f2 f3 f4 f5 f6 f7 f8;have l1:=hI.l1;have l2:=hI.l2;have hD:∀ k,k=n∨k∈keys->k ≠ ls/\k<nx:=fun k hk=>by
   rcases hk with rfl | hk
   ·omega
   ·have:=hI.kb k hk; omega
  obtain⟨keys2,hperm,hat⟩:=hrep Hj new ch w' (Sim.put hl0 hcell fun k hk=>f1 k (hD k hk).1 (hD k hk).2) f3;have hmem:∀ k,k∈keys2->k∈keys∨k∈new:=fun k hk=>List.mem_append.1 (hperm.mem_iff.1 hk)
  have hkn:=List.nodup_cons.1 hI.nd;refine⟨keys2,{
   low:=fun k hk=>(f1 k (by omega) (by omega)).trans ((zCm (by
    rcases hbase with h | h
    ·omega
    ·have:=hI.kb _ h; omega)).trans (hI.low k hk))
   res:=by
    obtain⟨a,b,c,d,hr⟩:=hI.res;exact⟨a,b,c,d,(f1 (n+1) (by omega) (by omega)).trans ((zCm (Ne.symm hbl.2.2.1)).trans hr)⟩
   stk:=f2
   tree:=hat
   nd:=List.nodup_cons.2 ⟨fun hm=>by
    rcases hmem n hm with h | h
    ·exact hkn.1 h
    ·have:=f5 n h; omega,hperm.nodup_iff.2 (List.nodup_append.2 ⟨hkn.2,f4,fun a ha b hb e=>by
     have:=hI.kb a ha;have:=f5 b hb
     omega⟩)⟩
   kb:=fun k hk=>by
    rcases hmem k hk with h | h
    ·have:=hI.kb k h; omega
    ·have:=f5 k h; omega
   l1:=by omega
   l2:=f7 },by omega⟩
 have hc1:zAX H1 p=some (zBs k1 tx1 c1 (.s (.sl 4 (Nd.encs ks1)))):=(zCX hl0 (g2 _ hbl.1 hbl.2.1)).trans hcell;refine zZO ?_;refine zAd rfl rfl rfl rfl rfl (zDZ hl0 (.inr rfl) rfl rfl) trivial ?_;refine zAd rfl rfl rfl rfl rfl (zFK hl0 rfl rfl) trivial ?_;refine zAd rfl rfl rfl rfl rfl (zGa hl0 rfl rfl rfl rfl rfl rfl rfl) trivial ?_;refine zED (off:=3) (sz:=4) rfl rfl rfl rfl rfl rfl rfl hl0 rfl hc1 rfl ?_;refine zAd rfl rfl rfl rfl rfl rfl trivial ?_;show Tri ..
 refine zAj (Le.forget [(1,.op n 0),(2,.op (n+1) 0),(3,.orow nx),(4,p),(5,.s (.sl 4 (Nd.encs ks1)))] ⟨rfl,rfl,rfl,rfl,rfl,trivial⟩) ?_;refine zZO ?_;refine zAd rfl rfl rfl rfl rfl (zDZ hl0 (.inr rfl) rfl rfl) trivial ?_;refine zAd rfl rfl rfl rfl rfl (zFK hl0 rfl rfl) trivial ?_;refine zAd rfl rfl rfl rfl rfl (zGa hl0 rfl rfl rfl rfl rfl rfl rfl) trivial ?_;refine zSn (off:=3) (sz:=4) (c:=.s (.sl 4 [])) rfl rfl rfl rfl rfl hl0 rfl hc1 rfl (by decide) rfl rfl rfl ?_;show Tri ..
 refine zJW [(1,.op n 0),(2,.op (n+1) 0),(3,.orow nx),(4,p),(5,.s (.sl 4 (Nd.encs ks1)))] (nx+1) ⟨rfl,rfl,rfl,rfl,rfl,trivial⟩ rfl fun H2 hH2=>?_
 have hH2:∀ k,H2 k=putC H1 p (zBs k1 tx1 c1 (.s (.sl 4 []))) k:=hH2
 have hc2:zAX H2 p=some (zBs k1 tx1 c1 (.s (.sl 4 []))):=(zCX hl0 (hH2 _)).trans (zKZ hl0 hc1)
 refine zAa ?_;refine zZO ?_;refine zAd rfl rfl rfl rfl rfl rfl trivial ?_;refine zAd rfl rfl rfl rfl rfl rfl trivial ?_;refine zAd rfl rfl rfl rfl rfl rfl trivial ?_;refine zA0 rfl (fun hb=>?_) (fun hb=>?_)
 rotate_left
 ·obtain rfl:ks1=[]:=by
   cases ks1 with
   | nil=>rfl
   | cons x l =>
    have:=of_decide_eq_false hb;simp only[Nd.encs,List.length_cons]at this
    omega
  refine zAf ?_;refine zAj (Le.forget [(1,.op n 0),(2,.op (n+1) 0),(3,.orow nx),(4,p),(5,.s (.sl 4 []))] ⟨rfl,rfl,rfl,rfl,rfl,trivial⟩) ?_;refine zZO ?_;refine zAd rfl rfl rfl rfl rfl (zDZ hl0 (.inr rfl) rfl rfl) trivial ?_;refine zAd rfl rfl rfl rfl rfl (zFK hl0 rfl rfl) trivial ?_;refine zAd rfl rfl rfl rfl rfl (zGa hl0 rfl rfl rfl rfl rfl rfl rfl) trivial ?_;refine zED (off:=3) (sz:=4) rfl rfl rfl rfl rfl rfl rfl hl0 rfl hc2 rfl ?_;refine zAd rfl rfl rfl rfl rfl rfl trivial ?_;refine zAd rfl rfl rfl rfl rfl rfl trivial ?_;show Tri ..
  refine zAj (Le.forget [(1,.op n 0),(2,.op (n+1) 0),(3,.orow nx),(4,p),(5,.s (.sl 4 []))] ⟨rfl,rfl,rfl,rfl,rfl,trivial⟩) ?_;refine zZO ?_;refine zAd rfl rfl rfl rfl rfl (zDZ hl0 (.inr rfl) rfl rfl) trivial ?_;refine zAd rfl rfl rfl rfl rfl (zFK hl0 rfl rfl) trivial ?_;refine zAd rfl rfl rfl rfl rfl (zGa hl0 rfl rfl rfl rfl rfl rfl rfl) trivial ?_;refine zED (off:=3) (sz:=4) rfl rfl rfl rfl rfl rfl rfl hl0 rfl hc2 rfl ?_;refine zAd rfl rfl rfl rfl rfl rfl trivial ?_;refine zAd rfl rfl rfl rfl rfl rfl trivial ?_;show Tri ..
  refine zAk (zAD (X:=Unit) (fun _=>⟨ofL [(1,.op n 0),(2,.op (n+1) 0),(3,.orow nx),(48,.s (.int .i64 0)),(49,.s (.int .i64 0))],H2,nx+1⟩) (fun _=>True) (fun _=>0) () trivial (Le.forget [(1,.op n 0),(2,.op (n+1) 0),(3,.orow nx),(48,.s (.int .i64 0)),(49,.s (.int .i64 0))] ⟨rfl,rfl,rfl,rfl,rfl,trivial⟩) ?_)
  rintro⟨⟩ _;refine zZO ?_;refine zAd rfl rfl rfl rfl rfl rfl trivial ?_;refine zAa ?_;refine zA0 rfl (fun hb=>by cases hb) (fun hb=>?_)
  refine zAJ ?_;obtain⟨keys2,hz1,hz2⟩:=fin (zBs k1 tx1 c1 (.s (.sl 4 []))) H2 nx (nx+1) [] [] 0
   (fun k h1 h2=>(hH2 k).trans (zJ4 hl0 (g2 k (by omega) h1) (g2 _ hbl.1 hbl.2.1)))
   (by rw[List.append_nil]; exact(hH2 nx).trans ((zCm (Ne.symm hbl.1)).trans g1))
   (by simp only[At]; exact⟨.s (.sl 4 []),hc2,.inr (.inl (by simp))⟩) (by simp) (fun k hk=>by cases hk) (Nat.le_refl _) (Nat.lt_succ_self _) (by simp[Nd.cnt])
  exact⟨(H2,nx,nx+1,S'++[],keys2,w1+0),hz1,Le.forget [(1,.op n 0),(2,.op (n+1) 0),(3,.orow nx)] ⟨rfl,rfl,rfl,trivial⟩,hz2⟩
 ·have hm:0<ks1.length:=by
   have:=of_decide_eq_true hb;rw[Nd.encs_eq,List.length_map]at this
   omega
  have hkl:ks1.length<1000000000:=by
   have h1:=Nd.cnts_len ks1;have h2:=hwl.2;simp only[Nd.cnt]at hw hcnt h2
   omega
  have hel:(Nd.encs ks1).length=ks1.length :=(by rw[Nd.encs_eq,List.length_map]);refine zAj (Le.forget [(1,.op n 0),(2,.op (n+1) 0),(3,.orow nx),(4,p),(5,.s (.sl 4 (Nd.encs ks1)))] ⟨rfl,rfl,rfl,rfl,rfl,trivial⟩) ?_;refine zAb [35] [] rfl ?_;refine zAd rfl rfl rfl rfl rfl (zDZ hl0 (.inr rfl) rfl rfl) trivial ?_;refine zAd rfl rfl rfl rfl rfl rfl trivial ?_;refine zAd rfl rfl rfl rfl rfl rfl trivial ?_
  refine zAd rfl rfl rfl rfl rfl (zZM rfl rfl rfl rfl rfl rfl rfl rfl rfl) (show 0<=_/\_ from⟨Int.natCast_nonneg _,Int.le_refl _,show(((Nd.encs ks1).length:Nat):Int) * ((56:Nat):Int)<=281474976710656 by omega,show(((Nd.encs ks1).length:Nat):Int)<=281474976710656 by omega⟩) ?_;refine zAd rfl rfl rfl rfl rfl (zFK hl0 rfl rfl) trivial ?_;refine zAd rfl rfl rfl rfl rfl (zGa hl0 rfl rfl rfl rfl rfl rfl rfl) trivial ?_;have hbn:zBE p ≠ nx+1:=by have:=hbl.2.2.2; omega
  refine zSn (off:=3) (sz:=4) (c:=.orow (nx+1)) rfl rfl rfl rfl rfl hl0 rfl ((zCX hl0 (by show(bif Nat.beq (zBE p) (nx+1) then _ else H2 (zBE p))=_; rw[zEX hbn]; rfl)).trans hc2) rfl (by decide) rfl rfl (decide_eq_true (Nat.lt_succ_self _)) ?_;show Tri ..;refine zJW [(1,.op n 0),(2,.op (n+1) 0),(3,.orow nx),(4,p),(5,.s (.sl 4 (Nd.encs ks1)))] (nx+2) ⟨rfl,rfl,rfl,rfl,rfl,trivial⟩ rfl fun H3 hH3=>?_
  have hH3:∀ k,H3 k=putC (fun k=>bif Nat.beq k (nx+1) then some (.row 24 4 (List.replicate (((Nd.encs ks1).length:Int)).toNat [.int .i64 0,.str [],.int .i64 0,.sl 4 []])) else H2 k) p (zBs k1 tx1 c1 (.orow (nx+1))) k:=hH3
  have a1:H3 (nx+1)=some (.row 24 4 (List.replicate (((Nd.encs ks1).length:Int)).toNat [.int .i64 0,.str [],.int .i64 0,.sl 4 []])):=(hH3 _).trans ((zCm (Ne.symm hbn)).trans (by simp only[Nat.beq_refl,cond_true]))
  have a2:∀ k,k ≠ nx+1->H3 k=putC H2 p (zBs k1 tx1 c1 (.orow (nx+1))) k:=fun k hk=>(hH3 k).trans (zJ4 hl0 (by simp only[zEX hk,cond_false]) (by simp only[zEX hbn,cond_false]))
  have hc3:zAX H3 p=some (zBs k1 tx1 c1 (.orow (nx+1))):=(zCX hl0 (a2 _ hbn)).trans (zKZ hl0 hc2)
  refine zAj (Le.toA (nx+1) a1) ?_;refine zZO ?_;refine zAd rfl rfl rfl rfl rfl (zDZ hl0 (.inr rfl) rfl rfl) trivial ?_;refine zAd rfl rfl rfl rfl rfl (zFK hl0 rfl rfl) trivial ?_;refine zAd rfl rfl rfl rfl rfl (zGa hl0 rfl rfl rfl rfl rfl rfl rfl) trivial ?_;refine zED (off:=3) (sz:=4) rfl rfl rfl rfl rfl rfl rfl hl0 rfl ((zCX hl0 (upd_ne hbn)).trans hc3) rfl ?_;refine zAd rfl rfl rfl rfl rfl rfl trivial ?_;refine zAd rfl rfl rfl rfl rfl (zXP rfl rfl rfl rfl rfl rfl rfl rfl rfl zWZ rfl rfl) (show(List.map _ _).length=List.length _ by simp) ?_;show Tri ..
  refine zJW [(1,.op n 0),(2,.op (n+1) 0),(3,.orow nx),(4,p),(5,.s (.sl 4 (Nd.encs ks1)))] (nx+2) ⟨rfl,rfl,rfl,rfl,rfl,trivial⟩ rfl fun H4 hH4=>?_
  have r1:H4 (nx+1)=some (.arow 24 4 ((Nd.encs ks1).map (·.map AV.s))):=(hH4 _).trans zWZ;have r2:∀ k,k ≠ nx+1->H4 k=H3 k:=fun k hk=>(hH4 k).trans ((upd_ne hk).trans (upd_ne hk))
  clear hH4
  have hc4:zAX H4 p=some (zBs k1 tx1 c1 (.orow (nx+1))):=(zCX hl0 (r2 _ hbn)).trans hc3;refine zZO ?_;refine zAd rfl rfl rfl rfl rfl (zDZ hl0 (.inr rfl) rfl rfl) trivial ?_;refine zAd rfl rfl rfl rfl rfl (zFK hl0 rfl rfl) trivial ?_;refine zAd rfl rfl rfl rfl rfl (zGa hl0 rfl rfl rfl rfl rfl rfl rfl) trivial ?_;refine zED (off:=3) (sz:=4) rfl rfl rfl rfl rfl rfl rfl hl0 rfl hc4 rfl ?_;refine zAd rfl rfl rfl rfl rfl (zO6 rfl rfl rfl rfl rfl r1) trivial ?_;refine zAd rfl rfl rfl rfl rfl rfl trivial ?_;show Tri ..
  have hlen4:((Nd.encs ks1).map (·.map AV.s)).length=ks1.length :=(by rw[List.length_map,hel]);refine zAk (zAD (X:=(Nat->Option Ob)×Nat×Nat×Nat) (fun y=>match y with | (Hj,lsj,nxj,j)=>⟨ofL [(1,.op n 0),(2,.op (n+1) 0),(3,.orow lsj),(4,p),(48,.s (.int .i64 (ks1.length:Int))),(49,.s (.int .i64 (j:Int)))],Hj,nxj⟩)
   (fun y=>match y with | (Hj,lsj,nxj,j)=>j<=ks1.length/\(∀ k,k ≠ nx->k<nx+2->Hj k=H4 k)/\Hj lsj=some (.arow 150 1 ((S'++locs (nx+1) 0 j).map fun p=>[p]))/\(lsj=nx∨nx+2<=lsj)/\lsj<nxj/\nx+2<=nxj) (fun y=>match y with | (Hj,lsj,nxj,j)=>ks1.length - j) (H4,nx,nx+2,0)
   ⟨Nat.zero_le _,fun k _ _=>rfl,by
    refine(r2 nx (by omega)).trans ((a2 nx (by omega)).trans ((zCm (Ne.symm hbl.1)).trans ((hH2 nx).trans ((zCm (Ne.symm hbl.1)).trans (g1.trans ?_)))))
    simp[locs],.inl rfl,by omega,Nat.le_refl _⟩
   (Le.forget [(1,.op n 0),(2,.op (n+1) 0),(3,.orow nx),(4,p),(48,.s (.int .i64 (ks1.length:Int))),(49,.s (.int .i64 ((0:Nat):Int)))] ⟨rfl,rfl,rfl,rfl,congrArg (fun m:Nat=>AV.s (.int .i64 (m:Int))) hlen4,rfl,trivial⟩) ?_)
  rintro⟨Hj,lsj,nxj,j⟩ ⟨i1,i2,i3,i4,i5,i6⟩
  have hbj:zBE p ≠ nx/\zBE p<nx+2:=⟨hbl.1,by have:=hbl.2.2.2; omega⟩
  have hcj:zAX Hj p=some (zBs k1 tx1 c1 (.orow (nx+1))):=(zCX hl0 (i2 _ hbj.1 hbj.2)).trans hc4;have hrj:Hj (nx+1)=some (.arow 24 4 ((Nd.encs ks1).map (·.map AV.s))):=(i2 (nx+1) (by omega) (by omega)).trans r1;refine zZO ?_;refine zAd rfl rfl rfl rfl rfl rfl trivial ?_;refine zAa ?_;refine zA0 rfl (fun hb=>?_) (fun hb=>?_)
  ·refine zAf ?_;show Tri ..;have hj:j<ks1.length:=Int.ofNat_lt.1 (of_decide_eq_true hb)
   have hsl:((S'++locs (nx+1) 0 j).map fun p=>[p]).length=S'.length+j :=(by simp[locs]);refine zAj (Le.forget [(1,.op n 0),(2,.op (n+1) 0),(3,.orow lsj),(4,p),(48,.s (.int .i64 (ks1.length:Int))),(49,.s (.int .i64 (j:Int)))] ⟨rfl,rfl,rfl,rfl,rfl,rfl,trivial⟩) ?_;refine zAa ?_;refine zAk ?_;refine zZO ?_;refine zAd rfl rfl rfl rfl rfl rfl trivial ?_;refine zAd rfl rfl rfl rfl rfl rfl trivial ?_;refine zAb [59,60] [] rfl ?_;refine zAd rfl rfl rfl rfl rfl rfl trivial ?_;refine zAd rfl rfl rfl rfl rfl (zDZ hl0 (.inr rfl) rfl rfl) trivial ?_
   refine zAd rfl rfl rfl rfl rfl (zFK hl0 rfl rfl) trivial ?_;refine zAd rfl rfl rfl rfl rfl (zGa hl0 rfl rfl rfl rfl rfl rfl rfl) trivial ?_;refine zED (off:=3) (sz:=4) rfl rfl rfl rfl rfl rfl rfl hl0 rfl hcj rfl ?_;refine zAd rfl rfl rfl rfl rfl rfl trivial ?_;refine zAd rfl rfl rfl rfl rfl (zRG rfl rfl rfl rfl rfl rfl hrj rfl) ⟨Int.natCast_nonneg _,Int.ofNat_lt.2 (by rw[hlen4]; exact hj)⟩ ?_;rw[Int.toNat_natCast]
   refine zAd rfl rfl rfl rfl rfl rfl trivial ?_;refine zAd rfl rfl rfl rfl rfl (zYV (rows:=(S'++locs (nx+1) 0 j).map fun p=>[p]) (rows2:=[[.rp (nx+1) 4 j 0]]) rfl rfl rfl rfl rfl rfl rfl rfl rfl (by show(bif Nat.beq lsj nxj then _ else Hj lsj)=_; rw[zEX (by omega)]; exact i3) (by show(bif Nat.beq nxj nxj then _ else Hj nxj)=_; rw[Nat.beq_refl]; rfl) rfl rfl rfl) (show(((S'++locs (nx+1) 0 j).map fun p=>[p]).length+1) * 8<=140737488355328/\((S'++locs (nx+1) 0 j).map fun p=>[p]).length+1<=9223372036854775807 by rw[hsl]; omega) ?_;refine zAd rfl rfl rfl rfl rfl rfl trivial ?_;show Tri ..
   refine zJW [(1,.op n 0),(2,.op (n+1) 0),(3,.orow (nxj+1)),(4,p),(48,.s (.int .i64 (ks1.length:Int))),(49,.s (.int .i64 (j:Int)))] (nxj+2) ⟨rfl,rfl,rfl,rfl,rfl,rfl,trivial⟩ rfl fun H5 hH5=>?_
   have e1:H5 (nxj+1)=some (.arow 150 1 ((S'++locs (nx+1) 0 (j+1)).map fun p=>[p])):=(hH5 _).trans (by
    show(bif Nat.beq (nxj+1) (nxj+1) then some (Ob.arow 150 1 (((S'++locs (nx+1) 0 j).map fun p=>[p])++[[.rp (nx+1) 4 j 0]])) else _)=_;rw[Nat.beq_refl,cond_true,zWh]
    simp)
   have e2:∀ k,k ≠ nxj+1->k ≠ lsj->k ≠ nxj->H5 k=Hj k:=fun k h1 h2 h3=>(hH5 k).trans (by
    show(bif Nat.beq k (nxj+1) then _ else bif Nat.beq k lsj then none else bif Nat.beq k nxj then _ else Hj k)=_;rw[zEX h1,zEX h2,zEX h3]; rfl)
   clear hH5
   refine zZN ?_;refine zAd rfl rfl rfl rfl rfl rfl trivial ?_;refine zAd rfl rfl rfl rfl rfl rfl trivial ?_;exact⟨(H5,nxj+1,nxj+2,j+1),⟨hj,fun k h1 h2=>(e2 k (by omega) (by omega) (by omega)).trans (i2 k h1 h2),e1,.inr (by omega),by omega,by omega⟩,
    Le.forget [(1,.op n 0),(2,.op (n+1) 0),(3,.orow (nxj+1)),(4,p),(48,.s (.int .i64 (ks1.length:Int))),(49,.s (.int .i64 ((j+1:Nat):Int)))] ⟨rfl,rfl,rfl,rfl,rfl,congrArg (fun z=>AV.s (.int .i64 z)) (zAy (by omega)),trivial⟩,by show ks1.length - (j+1)<ks1.length - j; omega⟩
  ·refine zAJ ?_;have hj:j=ks1.length:=by
    have:=of_decide_eq_false hb
    omega
   subst hj;obtain⟨keys2,hz1,hz2⟩:=fin (zBs k1 tx1 c1 (.orow (nx+1))) Hj lsj nxj [nx+1] (locs (nx+1) 0 ks1.length) (Nd.cnts ks1)
    (fun k h1 h2=>(i2 k (by omega) (by omega)).trans ((r2 k (by omega)).trans ((a2 k (by omega)).trans (zVr hl0 hcell ((hH2 _).trans (zJ4 hl0 (g2 _ hbl.1 hbl.2.1) (g2 _ hbl.1 hbl.2.1))) fun hk=>(hH2 k).trans ((zCm hk).trans (g2 k (by omega) h1))))))
    i3 (by simp only[At]; exact⟨.orow (nx+1),hcj,.inr (.inr ⟨nx+1,_,[],rfl,hrj,hlen4,rfl,LAt.copied hrj⟩)⟩) (by simp) (fun k hk=>by
     have:=List.mem_singleton.1 hk
     omega) (by omega) i5 (by simp[Nd.cnt])
   exact⟨(Hj,lsj,nxj,S'++locs (nx+1) 0 ks1.length,keys2,w1+Nd.cnts ks1),hz1,Le.forget [(1,.op n 0),(2,.op (n+1) 0),(3,.orow lsj)] ⟨rfl,rfl,rfl,trivial⟩,hz2⟩
def zTi (xs:List AV) (r:Ret):Prop:=∃ (a0:Nd) (y0:Nd),zB2 a0=some y0/\xs=[.agg ((Nd.enc a0).map .s)]/\r = .val (.agg ((Nd.enc y0).map .s))
def zGL:zAq:=zAw fun xs r=>zTi xs r
theorem zHF:PSound Tryz.prog 53 zGL :=
 PSound.giveAll zIw fun xs r h=>by
  obtain⟨⟨k,t,c,ks⟩,y,hm,rfl,rfl⟩:=h;obtain⟨hq,hm⟩:=zAI hm;obtain rfl:=Option.some.inj hm;refine⟨_,rfl,rfl,k,c,t,ks,hq,rfl,fun v hp' n' keys _ _ hv _ _=>?_⟩
  refine zXB (t:=.mk k t c ks) (RdC.node ?_)
  rcases hv with ⟨rfl,rfl,_⟩ | ⟨q,rows,keys',w,rfl,hq,hlen,rfl,h⟩
  ·exact .s _
  ·exact Rd.rows hq hlen fun j x hj=>(by have:=LAt.rd h j x hj; rwa [Nat.zero_add]at this)
theorem zIu {n:Nd}{i s:Int}{p:List Int} (h:¬ (0<=i/\i<n.kids.length)):zB1 n (i::s::p)=none:=by rw[zB1,if_neg h]
theorem zIv {n x:Nd}{i s:Int}{p:List Int} (h0:0<=i) (hx:n.kids[i.toNat]? = some x) (h:¬ (0<=s/\s<x.kids.length)):zB1 n (i::s::p)=none:=by
 have hl:=(List.getElem?_eq_some_iff.1 hx).1;rw[zB1,if_pos ⟨h0,by omega⟩]
 simp only[List.getD_eq_getElem?_getD,hx,Option.getD_some]
 rw[if_neg h]
theorem zQd {n x z:Nd}{i s:Int}{p:List Int} (h0:0<=i) (hx:n.kids[i.toNat]? = some x) (h1:0<=s) (hz:x.kids[s.toNat]? = some z):zB1 n (i::s::p)=zB1 z p:=by
 have hl:=(List.getElem?_eq_some_iff.1 hx).1;have hl2:=(List.getElem?_eq_some_iff.1 hz).1;rw[zB1,if_pos ⟨h0,by omega⟩]
 simp only[List.getD_eq_getElem?_getD,hx,hz,Option.getD_some]
 rw[if_pos ⟨h1,by omega⟩]
theorem zV8 {l:List Nd}{i:Nat}{x:Nd} (h:l[i]? = some x):(Nd.encs l).getD i []=Nd.enc x:=by
 simp[Nd.encs_eq,List.getD_eq_getElem?_getD,h]
theorem zJZ (l:List Nd):(Nd.encs l).length=l.length:=by rw[Nd.encs_eq,List.length_map]
def zV7:Option Nd->AV
 | some y=>.s (.pt (Nd.enc y))
 | none=>.junk
def zTp (xs:List AV) (r:Ret):Prop:=∃ (a0:Nd) (a1:List Int),xs=[.s (.pt (Nd.enc a0)),.s (.sl 1 (a1.map (irow .i64)))]/\r = .val (.tup [zV7 (zB1 a0 a1),.s (.bool (zB1 a0 a1).isSome)])
def zN6:zAq:=zAw fun xs r=>zTp xs r
theorem zSO:PSound Tryz.prog 178 zN6:=by
 have gok:=@gok0 Tryz.prog;refine zAC tokW Tryz.call178 Tryz.func178 rfl (fun xs r h=>by obtain⟨_,_,rfl,_⟩:=h; show 2<=_; decide) _ rfl ?_;rintro xs r w0 G0 ⟨n0,p0,rfl,rfl⟩ _;generalize hy:zB1 n0 p0=y;refine zZO ?_;refine zAa ?_;refine zAk (zAD (X:=Nd×List Int) (fun x=>match x with | (n,p)=>⟨ofL [(0,.s (.pt (Nd.enc n))),(1,.s (.sl 1 (p.map (irow .i64)))),(4,.s .np),(5,.s (.bool false))],fun _=>none,0⟩)
  (fun x=>match x with | (n,p)=>zB1 n p=y) (fun x=>match x with | (n,p)=>p.length) (n0,p0) hy (Le.forget [(0,.s (.pt (Nd.enc n0))),(1,.s (.sl 1 (p0.map (irow .i64)))),(4,.s .np),(5,.s (.bool false))] ⟨rfl,rfl,rfl,rfl,trivial⟩) ?_)
 rintro⟨⟨k,t,c,ks⟩,p⟩ hI;have hI:zB1 (.mk k t c ks) p=y:=hI;refine zAa ?_;refine zZO ?_;refine zA0 rfl (fun hb=>?_) (fun hb=>?_)
 ·refine zAf ?_;show Tri ..
  match p,hI,hb with
  | [],_,hb=>cases hb
  | [_],_,hb=>cases hb
  | i::s::p,hI,hb =>
   refine zAj (Le.forget [(0,.s (.pt (Nd.enc (.mk k t c ks)))),(1,.s (.sl 1 ((i::s::p).map (irow .i64)))),(4,.s .np),(5,.s (.bool false))] ⟨rfl,rfl,rfl,rfl,trivial⟩) ?_;refine zAa ?_;refine zAk ?_;refine zAa ?_;refine zPh (by exact tokW) (by exact gok) (by exact mixed) [] [] [1,2,4,5] rfl (by decide +kernel) ?_;refine And.intro (show(0:Int)<=0/\(0:Int)<((((i::s::p).map (irow .i64)).length:Nat):Int) by simp only[List.map_cons,List.length_cons]; omega) ?_;refine And.intro (show(0:Int)<=1/\(1:Int)<((((i::s::p).map (irow .i64)).length:Nat):Int) by simp only[List.map_cons,List.length_cons]; omega) ?_
   refine zAj (Le.forget [(0,.s (.pt [.int .i64 k,.str t,.int .i64 c,.sl 4 (Nd.encs ks)])),(1,.s (.sl 1 ((i::s::p).map (irow .i64)))),(4,.s .np),(5,.s (.bool false)),(6,.s (.int .i64 i)),(7,.s (.int .i64 s))] ⟨rfl,rfl,rfl,rfl,rfl,rfl,trivial⟩) ?_;refine zAa ?_;refine zAa ?_
   by_cases hi:i<0
   ·refine zAb [] [21] rfl ?_;intro b hb;obtain rfl:true=b:=(hb.trans (decide_eq_true hi)).symm;refine zA0 rfl (fun _=>?_) (fun h=>by cases h)
    refine zZO ?_;refine zAe ?_;obtain rfl:none=y:=(zIu (fun h=>by omega)).symm.trans hI;unfold zE4;exact⟨_,Le.forget [(5,.s (.bool false))] ⟨rfl,trivial⟩,rfl,rfl⟩
   by_cases hi2:(ks.length:Int)<=i
   ·refine zAb [] [21,29] rfl ?_;intro b hb;obtain rfl:false=b:=(hb.trans (decide_eq_false hi)).symm;intro b hb;obtain rfl:true=b:=(hb.trans (decide_eq_true (show(((Nd.encs ks).length:Nat):Int)<=i by rw[zJZ]; exact hi2))).symm;refine zA0 rfl (fun _=>?_) (fun h=>by cases h)
    refine zZO ?_;refine zAe ?_;obtain rfl:none=y:=(zIu (n:=.mk k t c ks) (fun h=>by have:i<ks.length:=h.2; omega)).symm.trans hI;unfold zE4;exact⟨_,Le.forget [(5,.s (.bool false))] ⟨rfl,trivial⟩,rfl,rfl⟩
   refine zAb [] [21,29] rfl ?_;intro b hb;obtain rfl:false=b:=(hb.trans (decide_eq_false hi)).symm;intro b hb;obtain rfl:false=b:=(hb.trans (decide_eq_false (show ¬ (((Nd.encs ks).length:Nat):Int)<=i by rw[zJZ]; exact hi2))).symm;refine zA0 rfl (fun h=>by cases h) (fun _=>?_)
   refine zAf ?_;show Tri ..;have hi0:i.toNat<ks.length :=(by omega);obtain⟨⟨k2,t2,c2,ks2⟩,hx⟩:∃ x,ks[i.toNat]? = some x:=⟨_,List.getElem?_eq_getElem hi0⟩
   refine zAj (Le.forget [(0,.s (.pt [.int .i64 k,.str t,.int .i64 c,.sl 4 (Nd.encs ks)])),(1,.s (.sl 1 ((i::s::p).map (irow .i64)))),(4,.s .np),(5,.s (.bool false)),(6,.s (.int .i64 i)),(7,.s (.int .i64 s))] ⟨rfl,rfl,rfl,rfl,rfl,rfl,trivial⟩) ?_;refine zZO ?_;refine And.intro (show(0:Int)<=i/\i<(((Nd.encs ks).length:Nat):Int) by rw[zJZ]; omega) ?_;show Tri ..
   refine zAj (Le.forget [(0,.s (.pt [.int .i64 k,.str t,.int .i64 c,.sl 4 (Nd.encs ks)])),(1,.s (.sl 1 ((i::s::p).map (irow .i64)))),(4,.s .np),(5,.s (.bool false)),(6,.s (.int .i64 i)),(7,.s (.int .i64 s)),(8,.s (.pt [.int .i64 k2,.str t2,.int .i64 c2,.sl 4 (Nd.encs ks2)]))] ⟨rfl,rfl,rfl,rfl,rfl,rfl,congrArg (fun z=>AV.s (.pt z)) (zV8 hx),trivial⟩) ?_;refine zAa ?_;refine zAa ?_
   by_cases hs:s<0
   ·refine zAb [] [38] rfl ?_;intro b hb;obtain rfl:true=b:=(hb.trans (decide_eq_true hs)).symm;refine zA0 rfl (fun _=>?_) (fun h=>by cases h)
    refine zZO ?_;refine zAe ?_;obtain rfl:none=y:=(zIv (n:=.mk k t c ks) (by omega) hx (fun h=>by omega)).symm.trans hI;unfold zE4;exact⟨_,Le.forget [(5,.s (.bool false))] ⟨rfl,trivial⟩,rfl,rfl⟩
   by_cases hs2:(ks2.length:Int)<=s
   ·refine zAb [] [38,46] rfl ?_;intro b hb;obtain rfl:false=b:=(hb.trans (decide_eq_false hs)).symm;intro b hb;obtain rfl:true=b:=(hb.trans (decide_eq_true (show(((Nd.encs ks2).length:Nat):Int)<=s by rw[zJZ]; exact hs2))).symm;refine zA0 rfl (fun _=>?_) (fun h=>by cases h)
    refine zZO ?_;refine zAe ?_;obtain rfl:none=y:=(zIv (n:=.mk k t c ks) (by omega) hx (fun h=>by have:s<ks2.length:=h.2; omega)).symm.trans hI;unfold zE4;exact⟨_,Le.forget [(5,.s (.bool false))] ⟨rfl,trivial⟩,rfl,rfl⟩
   refine zAb [] [38,46] rfl ?_;intro b hb;obtain rfl:false=b:=(hb.trans (decide_eq_false hs)).symm;intro b hb;obtain rfl:false=b:=(hb.trans (decide_eq_false (show ¬ (((Nd.encs ks2).length:Nat):Int)<=s by rw[zJZ]; exact hs2))).symm;refine zA0 rfl (fun h=>by cases h) (fun _=>?_)
   refine zAf ?_;show Tri ..;have hs0:s.toNat<ks2.length :=(by omega);obtain⟨z,hz⟩:∃ z,ks2[s.toNat]? = some z:=⟨_,List.getElem?_eq_getElem hs0⟩
   refine zAj (Le.forget [(0,.s (.pt [.int .i64 k,.str t,.int .i64 c,.sl 4 (Nd.encs ks)])),(1,.s (.sl 1 ((i::s::p).map (irow .i64)))),(4,.s .np),(5,.s (.bool false)),(6,.s (.int .i64 i)),(7,.s (.int .i64 s)),(8,.s (.pt [.int .i64 k2,.str t2,.int .i64 c2,.sl 4 (Nd.encs ks2)]))] ⟨rfl,rfl,rfl,rfl,rfl,rfl,rfl,trivial⟩) ?_;refine zZN ?_;refine And.intro (show(0:Int)<=s/\s<(((Nd.encs ks2).length:Nat):Int) by rw[zJZ]; omega) ?_;show Tri ..
   refine zAj (Le.forget [(0,.s (.pt (Nd.enc z))),(1,.s (.sl 1 ((i::s::p).map (irow .i64)))),(4,.s .np),(5,.s (.bool false))] ⟨congrArg (fun z=>AV.s (.pt z)) (zV8 hz),rfl,rfl,rfl,trivial⟩) ?_;refine zZN ?_;refine And.intro (show(0:Int)<=2/\(2:Int)<=((((i::s::p).map (irow .i64)).length:Nat):Int)/\_<=_ from⟨by decide,by simp only[List.map_cons,List.length_cons]; omega,Int.le_refl _⟩) ?_
   exact⟨(z,p),(zQd (n:=.mk k t c ks) (by omega) hx (by omega) hz).symm.trans hI,Le.forget [(0,.s (.pt (Nd.enc z))),(1,.s (.sl 1 (p.map (irow .i64)))),(4,.s .np),(5,.s (.bool false))] ⟨rfl,congrArg (fun z=>AV.s (.sl 1 z)) (by rw[Int.toNat_natCast,List.take_length]; rfl),rfl,rfl,trivial⟩,by show p.length<p.length+1+1; omega⟩
 ·refine zAJ ?_;refine zAa ?_
  match p,hI,hb with
  | [],hI,_ =>
   refine zZN ?_;refine zAe ?_;obtain rfl:some (.mk k t c ks)=y:=hI;unfold zE4;exact⟨_,Le.refl _ _,rfl,rfl⟩
  | [i],hI,_ =>
   refine zZN ?_;refine zAe ?_;obtain rfl:none=y:=hI;unfold zE4;exact⟨_,Le.forget [(5,.s (.bool false))] ⟨rfl,trivial⟩,rfl,rfl⟩
  | i::s::p,_,hb=>exact absurd (of_decide_eq_false hb) (by simp only[List.map_cons,List.length_cons]; omega)
def zA2 (slices1:List (List Nd)):Nat->Int->Int->Option (Int)
| 0,_,_=>none
| k+1,x3,size4=>bif decide (x3<(slices1.length:Int)) then ((at? slices1 x3).bind fun e6=>bif decide ((IntKind.i64.wrap (size4+(e6.length:Int)))<0) then (none) else (zA2 slices1 k (IntKind.i64.wrap (x3+1)) (IntKind.i64.wrap (size4+(e6.length:Int))))) else (some size4)
def zA3 (slices1:List (List Nd)):Nat->Int->(List Nd)->Option ((List Nd))
| 0,_,_=>none
| k+1,x11,l13=>bif decide (x11<(slices1.length:Int)) then ((at? slices1 x11).bind fun e15=>req (l13.length+e15.length<=4294967296) <| zA3 slices1 k (IntKind.i64.wrap (x11+1)) (l13++e15)) else (some l13)
def zCf (n:Nat):(List (List Nd))->Option (List Nd)
| slices1=>(zA2 slices1 n 0 0).bind fun size5=>(zER size5).bind fun y9=>(zA3 slices1 n 0 y9).bind fun l14=>some l14
def zA7 (n:Nat):(zO8×List Nd)->Int->(List Nd)->Option (List Nd)
| ⟨⟨c1Ac,c1Ag,c1N,c1Ad,c1Aa,c1Ab,c1Af,c1Ae⟩,c1O⟩,n2,nodes3=>req (0<=(0:Int)/\(0:Int)<=c1N/\c1N<=(c1O.length:Int)) <| req (0<=(IntKind.i64.wrap (c1N+n2))/\(IntKind.i64.wrap (c1N+n2))<=(c1O.length:Int)/\(c1O.length:Int)<=(c1O.length:Int)) <| (zCf n [(c1O.take c1N.toNat).drop (0:Int).toNat,nodes3,(c1O.take (c1O.length:Int).toNat).drop (IntKind.i64.wrap (c1N+n2)).toNat]).bind fun y7=>some y7
def zBB (n:Nat):(zO8×List Nd)->Option ((List Nd)×Int)
| ⟨⟨c1Ac,c1Ag,c1N,c1Ad,c1Aa,c1Ab,c1Af,c1Ae⟩,c1O⟩=>(at? c1O c1N).bind fun⟨e2A,e2B,e2F,e2E⟩=>(zDr (Nd.mk e2A e2B e2F e2E)).bind fun⟨y4A,y4B,y4F,y4E⟩=>(zEd (Nd.mk y4A y4B y4F y4E)).bind fun y5=>bif decide (y5<=c1Ab) then (some ([],7)) else ((at? y4E c1Ab).bind fun⟨e6A,e6B,e6F,e6E⟩=>(at? y4E c1Ab).bind fun⟨e7A,e7B,e7F,e7E⟩=>(bif ((e6E.length:Int) != c1Ad) then (some true) else ((at? c1Aa 0).bind fun⟨e11A,e11B,e11F,e11E⟩=>(zCB n (Nd.mk y4A y4B y4F (y4E.set c1Ab.toNat (Nd.mk e7A e7B e7F []))) (Nd.mk e11A e11B e11F e11E)).bind fun y13=>some (!y13))
   : Option (Bool)).bind fun x9=>bif x9 then (some ([],7)) else ((zA7 n ((c1Ac,c1Ag,c1N,c1Ad,c1Aa,c1Ab,c1Af,c1Ae),c1O) 1 e6E).bind fun y14=>some (y14,0)))
def zD3 (n:Nat):(zO8×List Nd)->Option ((List Nd)×Int)
| ⟨⟨c1Ac,c1Ag,c1N,c1Ad,c1Aa,c1Ab,c1Af,c1Ae⟩,c1O⟩=>(at? c1Aa 0).bind fun⟨e2A,e2B,e2F,e2E⟩=>(zDr (Nd.mk e2A e2B e2F e2E)).bind fun⟨y4A,y4B,y4F,y4E⟩=>req (0<=c1N/\c1N<=IntKind.i64.wrap (c1N+c1Ad)/\IntKind.i64.wrap (c1N+c1Ad)<=(c1O.length:Int)) <| (zEz ((c1O.take (IntKind.i64.wrap (c1N+c1Ad)).toNat).drop c1N.toNat)).bind fun y6=>(at? y4E c1Ab).bind fun⟨e7A,e7B,e7F,e7E⟩=>(zA7 n ((c1Ac,c1Ag,c1N,c1Ad,c1Aa,c1Ab,c1Af,c1Ae),c1O) c1Ad [Nd.mk y4A y4B y4F (y4E.set c1Ab.toNat (Nd.mk e7A e7B e7F y6))]).bind fun y10=>some (y10,0)
def zDm (n:Nat):(zO8×List Nd)->Option ((List Nd)×Int)
| ⟨⟨c1Ac,c1Ag,c1N,c1Ad,c1Aa,c1Ab,c1Af,c1Ae⟩,c1O⟩=>(zA7 n ((c1Ac,c1Ag,c1N,c1Ad,c1Aa,c1Ab,c1Af,c1Ae),c1O) 0 c1Aa).bind fun y2=>some (y2,0)
def zDn (n:Nat):(zO8×List Nd)->Option ((List Nd)×Int)
| ⟨⟨c1Ac,c1Ag,c1N,c1Ad,c1Aa,c1Ab,c1Af,c1Ae⟩,c1O⟩=>req (0<=c1N/\c1N<=IntKind.i64.wrap (c1N+(c1Aa.length:Int))/\IntKind.i64.wrap (c1N+(c1Aa.length:Int))<=(c1O.length:Int)) <| (zA4 n ((c1O.take (IntKind.i64.wrap (c1N+(c1Aa.length:Int))).toNat).drop c1N.toNat) c1Aa).bind fun y4=>bif (!y4) then (some ([],7)) else ((zA7 n ((c1Ac,c1Ag,c1N,c1Ad,c1Aa,c1Ab,c1Af,c1Ae),c1O) (c1Aa.length:Int) []).bind fun y5=>some (y5,0))
def zEl (n:Nat):(zO8×List Nd)->Option ((List Nd)×Int)
| ⟨⟨c1Ac,c1Ag,c1N,c1Ad,c1Aa,c1Ab,c1Af,c1Ae⟩,c1O⟩=>(at? c1O c1N).bind fun⟨e2A,e2B,e2F,e2E⟩=>((bif (e2A == 2) then (some (e2A == 2)) else (bif (e2A == 3) then (some (e2A == 3)) else (bif (e2A == 4) then (some (e2A == 4)) else (bif (e2A == 10) then (some (e2A == 10)) else (some (e2A == 11))))):Option (Bool)).bind fun x4=>bif x4 then (some (.go ())) else (some (.ret ([],7))):Option (Fl ((List Nd)×Int) Unit)).bind fun fl=>match fl with
 | .ret r=>some r
 | .go _=>bif (!(e2B == c1Af)) then (some ([],7)) else ((zA7 n ((c1Ac,c1Ag,c1N,c1Ad,c1Aa,c1Ab,c1Af,c1Ae),c1O) 1 [Nd.mk e2A c1Ae e2F e2E]).bind fun y6=>some (y6,0))
def zCw:(zO8×List Nd)->Option Int
| ⟨⟨c1Ac,c1Ag,c1N,c1Ad,c1Aa,c1Ab,c1Af,c1Ae⟩,c1O⟩=>(bif (c1Ac == 1) then (some 0) else (bif (c1Ac == 2) then (some (c1Aa.length:Int)) else (bif (c1Ac == 3) then (some c1Ad) else (some 1))):Option (Int)).bind fun need2=>(bif decide (c1N<0) then (some true) else (bif decide ((c1O.length:Int)<c1N) then (some true) else (some (decide ((IntKind.i64.wrap ((c1O.length:Int) - c1N))<need2)))):Option (Bool)).bind fun x4=>bif x4 then (some 2) else (some 0)
def zDN (n:Nat):(List Nd)->Int->Option Bool
| l1,slot2=>(bif ((l1.length:Int) != 1) then (some true) else ((zCF n l1).bind fun y5=>bif (!y5) then (some true) else (bif decide (slot2<0) then (some true) else ((at? l1 0).bind fun⟨e6A,e6B,e6F,e6E⟩=>(zEd (Nd.mk e6A e6B e6F e6E)).bind fun y8=>some (decide (y8<=slot2))))):Option (Bool)).bind fun x3=>bif x3 then (some false) else ((at? l1 0).bind fun⟨e9A,e9B,e9F,e9E⟩=>(at? e9E slot2).bind fun⟨e11A,e11B,e11F,e11E⟩=>some ((e11E.length:Int) == 0))
def zFc (n:Nat):zO8->Option Bool
| ⟨a1A,a1I,a1J,a1L,a1G,a1K,a1M,a1B⟩=>(bif (!(a1M == [])) then (some true) else (some (!(a1B == []))):Option (Bool)).bind fun x2=>((bif (a1A == 1) then (some (a1A == 1)) else (some (a1A == 2)):Option (Bool)).bind fun x3=>bif x3 then ((bif (a1L == 0) then (bif (a1K == 0) then (bif (!x2) then (bif decide (0<(a1G.length:Int)) then ((zCF n a1G).bind fun y6=>some y6) else (some false)) else (some false)) else (some false)) else (some false):Option (Bool)).bind fun x4=>some (.ret x4)) else ((bif (a1A == 3) then (some (a1A == 3)) else (some (a1A == 4)):Option (Bool)).bind fun x7=>bif x7 then ((bif decide (0<=a1L) then (bif (!x2) then ((zDN n a1G a1K).bind fun y9=>some y9) else (some false)) else (some false):Option (Bool)).bind fun x8=>some (.ret x8)
   ) else (bif (a1A == 5) then ((bif (a1L == 0) then (bif (a1K == 0) then (bif ((a1G.length:Int) == 0) then (some (!(a1M == a1B))) else (some false)) else (some false)) else (some false):Option (Bool)).bind fun x10=>some (.ret x10)) else (some (.go ())))):Option (Fl Bool Unit)).bind fun fl=>match fl with
 | .ret r=>some r
 | .go _=>some false
def zBC:(zO8×List Nd)->Option ((List Nd)×Int)
| ⟨⟨c1Ac,c1Ag,c1N,c1Ad,c1Aa,c1Ab,c1Af,c1Ae⟩,c1O⟩=>(at? c1O c1N).bind fun⟨e2A,e2B,e2F,e2E⟩=>(zB2 (Nd.mk e2A e2B e2F e2E)).bind fun⟨y4A,y4B,y4F,y4E⟩=>(zEd (Nd.mk y4A y4B y4F y4E)).bind fun y5=>bif decide (y5<=c1Ab) then (some ([],7)) else (none)
def zBu (n:Nat) (c:zO8×List Nd):Option (List Nd×Int) :=
 match zBC c with
 | some r=>some r
 | none=>zBB n c
def zCK (n:Nat):(zO8×List Nd)->Option ((List Nd)×Int)
| ⟨⟨c1Ac,c1Ag,c1N,c1Ad,c1Aa,c1Ab,c1Af,c1Ae⟩,c1O⟩=>(zCw ((c1Ac,c1Ag,c1N,c1Ad,c1Aa,c1Ab,c1Af,c1Ae),c1O)).bind fun y2=>bif (y2 != 0) then (some ([],y2)) else (bif (c1Ac == 1) then ((zDm n ((c1Ac,c1Ag,c1N,c1Ad,c1Aa,c1Ab,c1Af,c1Ae),c1O)).bind fun⟨y3,y4⟩=>some (y3,y4)) else (bif (c1Ac == 2) then ((zDn n ((c1Ac,c1Ag,c1N,c1Ad,c1Aa,c1Ab,c1Af,c1Ae),c1O)).bind fun⟨y5,y6⟩=>some (y5,y6)) else (bif (c1Ac == 3) then ((zD3 n ((c1Ac,c1Ag,c1N,c1Ad,c1Aa,c1Ab,c1Af,c1Ae),c1O)).bind fun⟨y7,y8⟩=>some (y7,y8)) else (
     bif (c1Ac == 4) then ((zBu n ((c1Ac,c1Ag,c1N,c1Ad,c1Aa,c1Ab,c1Af,c1Ae),c1O)).bind fun⟨y9,y10⟩=>some (y9,y10)) else ((zEl n ((c1Ac,c1Ag,c1N,c1Ad,c1Aa,c1Ab,c1Af,c1Ae),c1O)).bind fun⟨y11,y12⟩=>some (y11,y12))))))
def zE0 (n:Nat):Nd->zO8->Option (Nd×Int)
| ⟨n1A,n1B,n1F,n1E⟩,⟨op2A,op2I,op2J,op2L,op2G,op2K,op2M,op2B⟩=>(zBb n (Nd.mk n1A n1B n1F n1E)).bind fun y3=>bif (!y3) then (some (Nd.mk 0 [] 0 [],1)) else ((zFc n (op2A,op2I,op2J,op2L,op2G,op2K,op2M,op2B)).bind fun y4=>bif (!y4) then (some (Nd.mk 0 [] 0 [],4)) else ((zIe n (Nd.mk n1A n1B n1F n1E) op2I).bind fun⟨⟨y5A,y5B,y5F,y5E⟩,y6⟩=>bif (y6 != 0) then (some (Nd.mk 0 [] 0 [],y6)) else ((zCK n ((op2A,op2I,op2J,op2L,op2G,op2K,op2M,op2B),y5E)).bind fun⟨y7,y8⟩=>bif (y8 != 0) then (some (Nd.mk 0 [] 0 [],y8)) else (
     (zFD n (Nd.mk n1A n1B n1F n1E) op2I (Nd.mk y5A y5B y5F y7)).bind fun⟨⟨y9A,y9B,y9F,y9E⟩,y10⟩=>bif (y10 != 0) then (some (Nd.mk 0 [] 0 [],6)) else (some (Nd.mk y9A y9B y9F y9E,0))))))
def zBf (n:Nat) (ops2:List zO8):Nat->Int->(List UInt8)->Int->(List Nd)->Int->Option (Fl (Nd×Int×Int) (Int×(List UInt8)×Int×(List Nd)))
| 0,_,_,_,_,_=>none
| k+1,x7,x8,x9,x10,x11=>bif decide (x11<(ops2.length:Int)) then ((at? ops2 x11).bind fun⟨e16A,e16I,e16J,e16L,e16G,e16K,e16M,e16B⟩=>(zE0 n (Nd.mk x7 x8 x9 x10) (e16A,e16I,e16J,e16L,e16G,e16K,e16M,e16B)).bind fun⟨⟨y18A,y18B,y18F,y18E⟩,y19⟩=>bif (y19 != 0) then (some (.ret (Nd.mk 0 [] 0 [],x11,y19))) else (zBf n ops2 k y18A y18B y18F y18E (IntKind.i64.wrap (x11+1)))) else (some (.go (x7,x8,x9,x10)))
def zCc (n:Nat):Nd->(List zO8)->Option (Nd×Int×Int)
| ⟨n1A,n1B,n1F,n1E⟩,ops2=>(zBb n (Nd.mk n1A n1B n1F n1E)).bind fun y3=>bif (!y3) then (some (Nd.mk 0 [] 0 [],0,1)) else ((zB2 (Nd.mk n1A n1B n1F n1E)).bind fun⟨y4A,y4B,y4F,y4E⟩=>(zBf n ops2 n y4A y4B y4F y4E 0).bind fun fl=>match fl with
  | .ret r=>some r
  | .go ⟨x12,x13,x14,x15⟩=>some (Nd.mk x12 x13 x14 x15,0,0))
def zDF (a1I:List Int) (a2I:List Int):Nat->Int->Option (Fl Bool Unit)
| 0,_=>none
| k+1,x6=>bif decide (x6<(a1I.length:Int)) then ((at? a1I x6).bind fun e8=>(at? a2I x6).bind fun e10=>bif (e8 != e10) then (some (.ret false)) else (zDF a1I a2I k (IntKind.i64.wrap (x6+1)))) else (some (.go ()))
def zGF (n:Nat):zO8->zO8->Option Bool
| ⟨a1A,a1I,a1J,a1L,a1G,a1K,a1M,a1B⟩,⟨a2A,a2I,a2J,a2L,a2G,a2K,a2M,a2B⟩=>(bif (a1A != a2A) then (some true) else (bif (a1J != a2J) then (some true) else (bif (a1L != a2L) then (some true) else (bif (a1K != a2K) then (some true) else (bif (!(a1M == a2M)) then (some true) else (bif (!(a1B == a2B)) then (some true) else (some ((a1I.length:Int) != (a2I.length:Int)))))))):Option (Bool)).bind fun x3=>bif x3 then (some false) else ((zDF a1I a2I n 0).bind fun fl=>match fl with
  | .ret r=>some r
  | .go _=>(zCe n a1G a2G).bind fun y12=>some y12)
def zCs (n:Nat) (a1:List zO8) (b2:List zO8):Nat->Int->Option (Fl Bool Unit)
| 0,_=>none
| k+1,i5=>bif decide (i5<(a1.length:Int)) then ((at? a1 i5).bind fun⟨e7A,e7I,e7J,e7L,e7G,e7K,e7M,e7B⟩=>(at? b2 i5).bind fun⟨e9A,e9I,e9J,e9L,e9G,e9K,e9M,e9B⟩=>(zGF n (e7A,e7I,e7J,e7L,e7G,e7K,e7M,e7B) (e9A,e9I,e9J,e9L,e9G,e9K,e9M,e9B)).bind fun y11=>bif (!y11) then (some (.ret false)) else (zCs n a1 b2 k (IntKind.i64.wrap (i5+1)))) else (some (.go ()))
def zFj (n:Nat):(List zO8)->(List zO8)->Option Bool
| a1,b2=>bif ((a1.length:Int) != (b2.length:Int)) then (some false) else ((zCs n a1 b2 n 0).bind fun fl=>match fl with
  | .ret r=>some r
  | .go _=>some true)
def zOA:List Int->List Int->Option (List Int)
| p,q=>req (p.length+q.length<=4294967296) <| some (p++q)
def zHD (F_r10_all:Nd->(List Int)->Option (List (List Int))) (row1E:List Nd) (path2:List Int) (i4:Int):Nat->Int->(List (List Int))->Option ((List (List Int)))
| 0,_,_=>none
| k+1,k13,l14=>(at? row1E i4).bind fun⟨e16A,e16B,e16F,e16E⟩=>bif decide (k13<(e16E.length:Int)) then ((at? row1E i4).bind fun⟨e19A,e19B,e19F,e19E⟩=>(at? e19E k13).bind fun⟨e21A,e21B,e21F,e21E⟩=>req (([]:List Int).length+path2.length<=4294967296) <| req (path2.length + [i4,k13].length<=4294967296) <| (F_r10_all (Nd.mk e21A e21B e21F e21E) (path2++[i4,k13])).bind fun y24=>req (l14.length+y24.length<=4294967296) <| zHD F_r10_all row1E path2 i4 k (IntKind.i64.wrap (k13+1)) (l14++y24)) else (some l14)
def zHC (F_r10_all:Nd->(List Int)->Option (List (List Int))) (n:Nat) (row1E:List Nd) (path2:List Int):Nat->Int->(List (List Int))->Option ((List (List Int)))
| 0,_,_=>none
| k+1,i4,l5=>bif decide (i4<=(row1E.length:Int)) then ((zOA path2 [i4]).bind fun y9=>req (l5.length + [y9].length<=4294967296) <| bif (i4 == (row1E.length:Int)) then (some (l5++[y9])) else ((zHD F_r10_all row1E path2 i4 n 0 (l5++[y9])).bind fun l15=>zHC F_r10_all n row1E path2 k (IntKind.i64.wrap (i4+1)) l15)) else (some l5)
def zJo:Nat->Nd->(List Int)->Option (List (List Int))
| 0,_,_=>none
| n+1,⟨row1A,row1B,row1F,row1E⟩,path2=>(zHC (zJo n) n row1E path2 n 0 []).bind fun l6=>some l6
def zOz (n:Nat):Nd->Option ((List (List Int))×Int)
| ⟨n1A,n1B,n1F,n1E⟩=>(zBQ n (Nd.mk n1A n1B n1F n1E)).bind fun y2=>bif (!y2) then (some ([],1)) else ((zJo n (Nd.mk n1A n1B n1F n1E) []).bind fun y3=>some (y3,0))
def zCr (a1:List Int) (b2:List Int):Nat->Int->Option (Fl Int Unit)
| 0,_=>none
| k+1,i3=>(bif decide (i3<(a1.length:Int)) then (some (decide (i3<(b2.length:Int)))) else (some false):Option (Bool)).bind fun x4=>bif x4 then ((at? a1 i3).bind fun e7=>(at? b2 i3).bind fun e9=>bif decide (e7<e9) then (some (.ret (-1))) else ((at? a1 i3).bind fun e11=>(at? b2 i3).bind fun e13=>bif decide (e13<e11) then (some (.ret 1)) else (zCr a1 b2 k (IntKind.i64.wrap (i3+1))))) else (some (.go ()))
def zEs (n:Nat):(List Int)->(List Int)->Option Int
| a1,b2=>(zCr a1 b2 n 0).bind fun fl=>match fl with
 | .ret r=>some r
 | .go _=>bif decide ((a1.length:Int)<(b2.length:Int)) then (some (-1)) else (bif decide ((b2.length:Int)<(a1.length:Int)) then (some 1) else (some 0))
def zFR (n:Nat) (pos2:List Int) (y3:List (List Int)):Nat->Int->Option (Fl (Int×Int) Unit)
| 0,_=>none
| k+1,i5=>bif decide (i5<(y3.length:Int)) then ((at? y3 i5).bind fun e7=>(zEs n e7 pos2).bind fun y9=>bif (y9 == 0) then (some (.ret (i5,0))) else (zFR n pos2 y3 k (IntKind.i64.wrap (i5+1)))) else (some (.go ()))
def zIy (n:Nat):Nd->(List Int)->Option (Int×Int)
| ⟨n1A,n1B,n1F,n1E⟩,pos2=>(zOz n (Nd.mk n1A n1B n1F n1E)).bind fun⟨y3,y4⟩=>bif (y4 != 0) then (some (0,y4)) else ((zFR n pos2 y3 n 0).bind fun fl=>match fl with
  | .ret r=>some r
  | .go _=>some (0,2))
def zG9 (n:Nat):Nd->(List Int)->Option Bool
| ⟨n1A,n1B,n1F,n1E⟩,pos2=>(zIy n (Nd.mk n1A n1B n1F n1E) pos2).bind fun⟨y3,y4⟩=>some (y4 == 0)
def zGE (n:Nat):(List Int)->(List Int)->Option Bool
| a1,b2=>(zEs n a1 b2).bind fun y3=>some (y3 == 0)
def zC1 (n:Nat):zCu->zCu->Option Bool
| ⟨a1Ai,a1Ah⟩,⟨b2Ai,b2Ah⟩=>((zGE n a1Ai b2Ai).bind fun y4=>bif y4 then ((zGE n a1Ah b2Ah).bind fun y5=>some y5) else (some false):Option (Bool)).bind fun x3=>some x3
def zFF (n:Nat):zRc->zRc->Option Bool
| ⟨a1P,⟨a1W,a1X⟩,⟨a1Y,a1Z⟩⟩,⟨b2P,⟨b2W,b2X⟩,⟨b2Y,b2Z⟩⟩=>((zFj n a1P b2P).bind fun y4=>bif y4 then ((zC1 n (a1W,a1X) (b2W,b2X)).bind fun y5=>bif y5 then ((zC1 n (a1Y,a1Z) (b2Y,b2Z)).bind fun y6=>some y6) else (some false)) else (some false):Option (Bool)).bind fun x3=>some x3
def zBF (F_codec_valid:CV->Int->Option Bool) (a1C:List CV) (a2:Int):Nat->Int->Option (Fl Bool Unit)
| 0,_=>none
| k+1,x9=>bif decide (x9<(a1C.length:Int)) then ((at? a1C x9).bind fun⟨e10A,e10D,e10B,e10C⟩=>(F_codec_valid (CV.mk e10A e10D e10B e10C) (IntKind.i64.wrap (a2+1))).bind fun y12=>bif (!y12) then (some (.ret false)) else (zBF F_codec_valid a1C a2 k (IntKind.i64.wrap (x9+1)))) else (some (.go ()))
def zCy:Nat->CV->Int->Option Bool
| 0,_,_=>none
| n+1,⟨a1A,a1D,a1B,a1C⟩,a2=>bif decide (64<a2) then (some false) else (bif (a1A == 1) then ((bif (a1B == []) then (some ((a1C.length:Int) == 0)) else (some false):Option (Bool)).bind fun x3=>some x3) else (bif (a1A == 2) then ((bif (a1D == 0) then (some ((a1C.length:Int) == 0)) else (some false):Option (Bool)).bind fun x5=>some x5) else (bif (a1A == 3) then ((bif (a1D != 0) then (some true) else (some (!(a1B == []))):Option (Bool)).bind fun x7=>bif x7 then (some false) else ((zBF (zCy n) a1C a2 n 0).bind fun fl=>match fl with
      | .ret r=>some r
      | .go _=>some true)) else (some false))))
def zFb (n:Nat):CV->Option Bool
| ⟨v1A,v1D,v1B,v1C⟩=>(zCy n (CV.mk v1A v1D v1B v1C) 1).bind fun y2=>some y2
def zEF:CV->Option Int
| ⟨v1A,v1D,v1B,v1C⟩=>bif (v1A == 2) then (some (IntKind.u64.wrap (v1B.length:Int))) else (bif (v1A == 3) then (some (IntKind.u64.wrap (v1C.length:Int))) else (bif decide (v1D<0) then (some (IntKind.u64.wrap ((IntKind.u64.wrap (2 * (IntKind.u64.wrap (IntKind.i64.wrap (0 - (IntKind.i64.wrap (v1D+1)))))))+1))) else (some (IntKind.u64.wrap (2 * (IntKind.u64.wrap v1D))))))
def zBe  : Nat->Int->Int->Option (Int)
| 0,_,_=>none
| k+1,n2,k3=>bif (n2 != 0) then (zBe k (n2.fdiv (2 ^ (min (8:Int).toNat IntKind.u64.bits))) (IntKind.i64.wrap (k3+1))) else (some k3)
def zDq (n:Nat):Int->Option Int
| n1=>(zBe  n (n1.fdiv (2 ^ (min (8:Int).toNat IntKind.u64.bits))) 1).bind fun k4=>some k4
def zCa (y3:Int):Nat->Int->(List UInt8)->Option ((List UInt8))
| 0,_,_=>none
| k+1,i8,l9=>bif decide (0<=i8) then (req (0<=IntKind.i64.wrap (8 * i8)) <| req (l9.length + [b8of (IntKind.u8.wrap (y3.fdiv (2 ^ (min (IntKind.i64.wrap (8 * i8)).toNat IntKind.u64.bits))))].length<=4294967296) <| zCa y3 k (IntKind.i64.wrap (i8 - 1)) (l9++[b8of (IntKind.u8.wrap (y3.fdiv (2 ^ (min (IntKind.i64.wrap (8 * i8)).toNat IntKind.u64.bits))))])) else (some l9)
def zFZ (n:Nat):(List UInt8)->CV->Option (List UInt8)
| b1,⟨v2A,v2D,v2B,v2C⟩=>(zEF (CV.mk v2A v2D v2B v2C)).bind fun y3=>bif decide (y3<56) then (req (b1.length + [b8of (IntKind.u8.wrap ((IntKind.u8.wrap (IntKind.i64.wrap (64 * v2A)))+(IntKind.u8.wrap y3)))].length<=4294967296) <| some (b1++[b8of (IntKind.u8.wrap ((IntKind.u8.wrap (IntKind.i64.wrap (64 * v2A)))+(IntKind.u8.wrap y3)))])) else ((zDq n y3).bind fun y5=>req (b1.length + [b8of (IntKind.u8.wrap (IntKind.i64.wrap ((IntKind.i64.wrap ((IntKind.i64.wrap ((IntKind.i64.wrap (64 * v2A))+56)) - 1))+y5)))].length<=4294967296) <| (zCa y3 n (IntKind.i64.wrap (y5 - 1)) (b1++[b8of (IntKind.u8.wrap (IntKind.i64.wrap ((IntKind.i64.wrap ((IntKind.i64.wrap ((IntKind.i64.wrap (64 * v2A))+56)) - 1))+y5)))])).bind fun l10=>some l10)
def zBr (F_codec_encode:(List UInt8)->CV->Option (List UInt8)) (v2C:List CV):Nat->Int->(List UInt8)->Option (Fl (List UInt8) ((List UInt8)))
| 0,_,_=>none
| k+1,x6,l7=>bif decide (x6<(v2C.length:Int)) then (bif decide (1048576<(l7.length:Int)) then (some (.ret l7)) else ((at? v2C x6).bind fun⟨e10A,e10D,e10B,e10C⟩=>(F_codec_encode l7 (CV.mk e10A e10D e10B e10C)).bind fun y12=>zBr F_codec_encode v2C k (IntKind.i64.wrap (x6+1)) y12)) else (some (.go l7))
def zBz:Nat->(List UInt8)->CV->Option (List UInt8)
| 0,_,_=>none
| n+1,b1,⟨v2A,v2D,v2B,v2C⟩=>(zFZ n b1 (CV.mk v2A v2D v2B v2C)).bind fun y3=>bif decide (1048576<(v2B.length:Int)) then (req (0<=(0:Int)/\(0:Int)<=(1048577:Int)/\(1048577:Int)<=(v2B.length:Int)) <| req (y3.length+((v2B.take (1048577:Int).toNat).drop (0:Int).toNat).length<=4294967296) <| some (y3++((v2B.take (1048577:Int).toNat).drop (0:Int).toNat))) else (req (y3.length+v2B.length<=4294967296) <| (zBr (zBz n) v2C n 0 (y3++v2B)).bind fun fl=>match fl with
  | .ret r=>some r
  | .go l8=>some l8)
def zDU (n:Nat):CV->Option ((List UInt8)×Int)
| ⟨v1A,v1D,v1B,v1C⟩=>(zFb n (CV.mk v1A v1D v1B v1C)).bind fun y2=>bif (!y2) then (some ([],1)) else ((zBz n [] (CV.mk v1A v1D v1B v1C)).bind fun y3=>bif decide (1048576<(y3.length:Int)) then (some ([],6)) else (some (y3,0)))
def zAP (o1:List UInt8) (e5:UInt8):Nat->Int->Int->Option (Int)
| 0,_,_=>none
| k+1,x11,x12=>bif decide (x12<(((((o1.take (o1.length:Int).toNat).drop (1:Int).toNat).take (IntKind.i64.wrap ((IntKind.i64.wrap ((IntKind.i64.wrap (IntKind.u64.wrap (zCD .and .u8 (e5.toNat:Int) 63))) - 56))+1)).toNat).drop (0:Int).toNat).length:Int)) then ((at? ((((o1.take (o1.length:Int).toNat).drop (1:Int).toNat).take (IntKind.i64.wrap ((IntKind.i64.wrap ((IntKind.i64.wrap (IntKind.u64.wrap (zCD .and .u8 (e5.toNat:Int) 63))) - 56))+1)).toNat).drop (0:Int).toNat) x12).bind fun e14=>zAP o1 e5 k (zCD .or .u64 (IntKind.u64.wrap (x11 * 2 ^ (min (8:Int).toNat IntKind.u64.bits))) (IntKind.u64.wrap (e14.toNat:Int))) (IntKind.i64.wrap (x12+1))) else (some x11)
def zBm (n:Nat):(List UInt8)->Option (Int×Int×Bool×(List UInt8))
| o1=>bif ((o1.length:Int) == 0) then (some (0,0,false,o1)) else ((at? o1 0).bind fun e3=>(at? o1 0).bind fun e5=>req (0<=(1:Int)/\(1:Int)<=(o1.length:Int)/\(o1.length:Int)<=(o1.length:Int)) <| bif ((IntKind.i64.wrap ((e3.toNat:Int).fdiv (2 ^ (min (6:Int).toNat IntKind.u8.bits)))) == 0) then (some (0,0,false,(o1.take (o1.length:Int).toNat).drop (1:Int).toNat)) else (bif decide ((IntKind.u64.wrap (zCD .and .u8 (e5.toNat:Int) 63))<56) then (some (IntKind.i64.wrap ((e3.toNat:Int).fdiv (2 ^ (min (6:Int).toNat IntKind.u8.bits))),IntKind.u64.wrap (zCD .and .u8 (e5.toNat:Int) 63),true,(o1.take (o1.length:Int).toNat).drop (1:Int).toNat)) else (
    bif decide ((((o1.take (o1.length:Int).toNat).drop (1:Int).toNat).length:Int)<(IntKind.i64.wrap ((IntKind.i64.wrap ((IntKind.i64.wrap (IntKind.u64.wrap (zCD .and .u8 (e5.toNat:Int) 63))) - 56))+1))) then (some (0,0,false,(o1.take (o1.length:Int).toNat).drop (1:Int).toNat)) else (req (0<=(0:Int)/\(0:Int)<=IntKind.i64.wrap ((IntKind.i64.wrap ((IntKind.i64.wrap (IntKind.u64.wrap (zCD .and .u8 (e5.toNat:Int) 63))) - 56))+1)/\IntKind.i64.wrap ((IntKind.i64.wrap ((IntKind.i64.wrap (IntKind.u64.wrap (zCD .and .u8 (e5.toNat:Int) 63))) - 56))+1)<=(((o1.take (o1.length:Int).toNat).drop (1:Int).toNat).length:Int)) <| (zAP o1 e5 n 0 0).bind fun x13 =>
     req (0<=(IntKind.i64.wrap ((IntKind.i64.wrap ((IntKind.i64.wrap (IntKind.u64.wrap (zCD .and .u8 (e5.toNat:Int) 63))) - 56))+1))/\(IntKind.i64.wrap ((IntKind.i64.wrap ((IntKind.i64.wrap (IntKind.u64.wrap (zCD .and .u8 (e5.toNat:Int) 63))) - 56))+1))<=(((o1.take (o1.length:Int).toNat).drop (1:Int).toNat).length:Int)/\(((o1.take (o1.length:Int).toNat).drop (1:Int).toNat).length:Int)<=(((o1.take (o1.length:Int).toNat).drop (1:Int).toNat).length:Int)) <| (bif decide (56<=x13) then ((zDq n x13).bind fun y18=>some (y18 == (IntKind.i64.wrap ((IntKind.i64.wrap ((IntKind.i64.wrap (IntKind.u64.wrap (zCD .and .u8 (e5.toNat:Int) 63))) - 56))+1)))) else (some false):Option (Bool)).bind fun x17 =>
     some (IntKind.i64.wrap ((e3.toNat:Int).fdiv (2 ^ (min (6:Int).toNat IntKind.u8.bits))),x13,x17,(((o1.take (o1.length:Int).toNat).drop (1:Int).toNat).take (((o1.take (o1.length:Int).toNat).drop (1:Int).toNat).length:Int).toNat).drop (IntKind.i64.wrap ((IntKind.i64.wrap ((IntKind.i64.wrap (IntKind.u64.wrap (zCD .and .u8 (e5.toNat:Int) 63))) - 56))+1)).toNat)))))
def zCJ:(List UInt8)->Int->Option ((List UInt8)×Bool×(List UInt8))
| r1,n2=>bif decide ((IntKind.u64.wrap (r1.length:Int))<n2) then (some ([],false,r1)) else (req (0<=(0:Int)/\(0:Int)<=n2/\n2<=(r1.length:Int)) <| req (0<=n2/\n2<=(r1.length:Int)/\(r1.length:Int)<=(r1.length:Int)) <| some ((r1.take n2.toNat).drop (0:Int).toNat,true,(r1.take (r1.length:Int).toNat).drop n2.toNat))
def zAr (F_codec_reader_value_1:Int->(List UInt8)->Option (CV×Bool×(List UInt8))) (a1:Int) (y4:Int):Nat->(List UInt8)->Int->(List CV)->Option (Fl (CV×Bool×(List UInt8)) ((List UInt8)×(List CV)))
| 0,_,_,_=>none
| k+1,x13,x17,l18=>bif decide (x17<y4) then ((F_codec_reader_value_1 (IntKind.i64.wrap (a1+1)) x13).bind fun⟨⟨y21A,y21D,y21B,y21C⟩,y22,w23⟩=>bif (!y22) then (some (.ret (CV.mk 0 0 [] [],false,w23))) else (req (l18.length + [CV.mk y21A y21D y21B y21C].length<=4294967296) <| zAr F_codec_reader_value_1 a1 y4 k w23 (IntKind.u64.wrap (x17+1)) (l18++[CV.mk y21A y21D y21B y21C]))) else (some (.go (x13,l18)))
def zAs:Nat->Int->(List UInt8)->Option (CV×Bool×(List UInt8))
| 0,_,_=>none
| n+1,a1,o2=>bif decide (64<a1) then (some (CV.mk 0 0 [] [],false,o2)) else ((zBm n o2).bind fun⟨y3,y4,y5,w6⟩=>bif (!y5) then (some (CV.mk 0 0 [] [],false,w6)) else (bif (y3 == 1) then ((bif ((zCD .and .u64 y4 1) == 1) then (some (IntKind.i64.wrap ((IntKind.i64.wrap (0 - (IntKind.i64.wrap (y4.fdiv (2 ^ (min (1:Int).toNat IntKind.u64.bits)))))) - 1))) else (some (IntKind.i64.wrap (y4.fdiv (2 ^ (min (1:Int).toNat IntKind.u64.bits))))):Option (Int)).bind fun x7=>some (CV.mk y3 x7 [] [],true,w6)) else (bif (y3 == 2) then ((zCJ w6 y4).bind fun⟨y8,y9,w10⟩=>some (CV.mk y3 0 y8 [],y9,w10)) else (bif decide ((IntKind.u64.wrap (w6.length:Int))<y4) then (some (CV.mk 0 0 [] [],false,w6)) else ((zAr (zAs n) a1 y4 n w6 0 []).bind fun fl=>match fl with
      | .ret r=>some r
      | .go ⟨x19,l20⟩=>some (CV.mk y3 0 [] l20,true,x19))))))
def zBt (n:Nat):(List UInt8)->Option (CV×Bool×(List UInt8))
| r1=>(zAs n 1 r1).bind fun⟨⟨y2A,y2D,y2B,y2C⟩,y3,w4⟩=>some (CV.mk y2A y2D y2B y2C,y3,w4)
def zEE (n:Nat):(List UInt8)->Option (CV×Int)
| b1=>bif decide (1048576<(b1.length:Int)) then (some (CV.mk 0 0 [] [],4)) else ((zBt n b1).bind fun⟨⟨y3A,y3D,y3B,y3C⟩,y4,w5⟩=>(bif (!y4) then (some true) else (some (decide (0<(w5.length:Int)))):Option (Bool)).bind fun x6=>bif x6 then (some (CV.mk 0 0 [] [],4)) else (some (CV.mk y3A y3D y3B y3C,0)))
def zDW (F_r03_Equal:CV->CV->Option Bool) (a1C:List CV) (b2C:List CV):Nat->Int->Option (Fl Bool Unit)
| 0,_=>none
| k+1,i6=>bif decide (i6<(a1C.length:Int)) then ((at? a1C i6).bind fun⟨e8A,e8D,e8B,e8C⟩=>(at? b2C i6).bind fun⟨e10A,e10D,e10B,e10C⟩=>(F_r03_Equal (CV.mk e8A e8D e8B e8C) (CV.mk e10A e10D e10B e10C)).bind fun y12=>bif (!y12) then (some (.ret false)) else (zDW F_r03_Equal a1C b2C k (IntKind.i64.wrap (i6+1)))) else (some (.go ()))
def zFE:Nat->CV->CV->Option Bool
| 0,_,_=>none
| n+1,⟨a1A,a1D,a1B,a1C⟩,⟨b2A,b2D,b2B,b2C⟩=>(bif (a1A != b2A) then (some true) else (bif (a1D != b2D) then (some true) else (bif (!(a1B == b2B)) then (some true) else (some ((a1C.length:Int) != (b2C.length:Int))))):Option (Bool)).bind fun x3=>bif x3 then (some false) else ((zDW (zFE n) a1C b2C n 0).bind fun fl=>match fl with
  | .ret r=>some r
  | .go _=>some true)
def zEp (a1:List UInt8) (e9:UInt8):Nat->Int->Int->Option (Int)
| 0,_,_=>none
| k+1,x17,x18=>bif decide (x17<=(IntKind.i64.wrap ((IntKind.i64.wrap (IntKind.u64.wrap ((e9.toNat:Int).tmod 64))) - 55))) then ((at? a1 x17).bind fun e20=>zEp a1 e9 k (IntKind.i64.wrap (x17+1)) (IntKind.u64.wrap ((IntKind.u64.wrap (256 * x18))+(IntKind.u64.wrap (e20.toNat:Int))))) else (some x18)
def zB7 (F_r03_Read:(List UInt8)->Int->Option (CV×Int)) (a1:List UInt8) (a2:Int) (x11:Int):Nat->Int->Int->(List CV)->Option (Fl (CV×Int) (Int×(List CV)))
| 0,_,_,_=>none
| k+1,x32,x33,l34=>bif decide (x32<(IntKind.i64.wrap x11)) then (req (0<=x33/\x33<=(a1.length:Int)/\(a1.length:Int)<=(a1.length:Int)) <| (F_r03_Read ((a1.take (a1.length:Int).toNat).drop x33.toNat) (IntKind.i64.wrap (a2 - 1))).bind fun⟨⟨y38A,y38D,y38B,y38C⟩,y39⟩=>bif (y39 == 0) then (some (.ret (CV.mk 0 0 [] [],0))) else (req (l34.length + [CV.mk y38A y38D y38B y38C].length<=4294967296) <| zB7 F_r03_Read a1 a2 x11 k (IntKind.i64.wrap (x32+1)) (IntKind.i64.wrap (x33+y39)) (l34++[CV.mk y38A y38D y38B y38C]))) else (some (.go (x33,l34)))
def zCG:Nat->(List UInt8)->Int->Option (CV×Int)
| 0,_,_=>none
| n+1,a1,a2=>(bif ((a1.length:Int) == 0) then (some true) else (bif (a2 == 0) then (some true) else ((at? a1 0).bind fun e5=>some (decide ((e5.toNat:Int)<64)))):Option (Bool)).bind fun x3=>bif x3 then (some (CV.mk 0 0 [] [],0)) else ((at? a1 0).bind fun e7=>(at? a1 0).bind fun e9=>(bif decide (56<=(IntKind.u64.wrap ((e9.toNat:Int).tmod 64))) then ((bif decide ((a1.length:Int)<(IntKind.i64.wrap (1+(IntKind.i64.wrap ((IntKind.i64.wrap (IntKind.u64.wrap ((e9.toNat:Int).tmod 64))) - 55))))) then (some true) else ((at? a1 1).bind fun e15=>some ((e15.toNat:Int) == 0)):Option (Bool)).bind fun x13=>bif x13 then (some (.ret (CV.mk 0 0 [] [],0))) else ((zEp a1 e9 n 1 0).bind fun x19=>bif decide (x19<56) then (some (.ret (CV.mk 0 0 [] [],0))) else (
      some (.go (x19,IntKind.i64.wrap (1+(IntKind.i64.wrap ((IntKind.i64.wrap (IntKind.u64.wrap ((e9.toNat:Int).tmod 64))) - 55)))))))) else (some (.go (IntKind.u64.wrap ((e9.toNat:Int).tmod 64),1))):Option (Fl (CV×Int) (Int×Int))).bind fun fl=>match fl with
  | .ret r=>some r
  | .go ⟨x11,x12⟩=>(bif ((IntKind.i64.wrap ((IntKind.i64.wrap (e7.toNat:Int)).tdiv 64)) == 1) then (bif ((x11.tmod 2) == 1) then (some (.go (x12,IntKind.i64.wrap ((IntKind.i64.wrap (0 - (IntKind.i64.wrap (IntKind.u64.wrap (x11.tdiv 2))))) - 1),[],[]))) else (some (.go (x12,IntKind.i64.wrap (IntKind.u64.wrap (x11.tdiv 2)),[],[])))) else (bif ((IntKind.i64.wrap ((IntKind.i64.wrap (e7.toNat:Int)).tdiv 64)) == 2) then (bif decide ((IntKind.u64.wrap (IntKind.i64.wrap ((a1.length:Int) - x12)))<x11) then (some (.ret (CV.mk 0 0 [] [],0))) else (req (0<=x12/\x12<=IntKind.i64.wrap (x12+(IntKind.i64.wrap x11))/\IntKind.i64.wrap (x12+(IntKind.i64.wrap x11))<=(a1.length:Int)) <| some (.go (IntKind.i64.wrap (x12+(IntKind.i64.wrap x11)),0,(a1.take (IntKind.i64.wrap (x12+(IntKind.i64.wrap x11))).toNat).drop x12.toNat,[])))) else (
      bif decide ((IntKind.u64.wrap (IntKind.i64.wrap ((a1.length:Int) - x12)))<x11) then (some (.ret (CV.mk 0 0 [] [],0))) else ((zB7 (zCG n) a1 a2 x11 n 0 x12 []).bind fun fl=>match fl with
       | .ret r=>some (.ret r)
       | .go ⟨x35,l36⟩=>some (.go (x35,0,[],l36))))):Option (Fl (CV×Int) (Int×Int×(List UInt8)×(List CV)))).bind fun fl=>match fl with
   | .ret r=>some r
   | .go ⟨x22,x23,x24,l25⟩=>some (CV.mk (IntKind.i64.wrap ((IntKind.i64.wrap (e7.toNat:Int)).tdiv 64)) x23 x24 l25,x22))
def zJk (n:Nat):(List UInt8)->Option (CV×Int)
| b1=>(zCG n b1 64).bind fun⟨⟨y2A,y2D,y2B,y2C⟩,y3⟩=>(bif (y3 == 0) then (some true) else (bif (y3 != (b1.length:Int)) then (some true) else (some (decide (1048576<y3)))):Option (Bool)).bind fun x4=>bif x4 then (some (CV.mk 0 0 [] [],4)) else (some (CV.mk y2A y2D y2B y2C,0))
def zAT (b2:List UInt8):Nat->Int->Int->Option (Int)
| 0,_,_=>none
| k+1,h4,x5=>bif decide (x5<(b2.length:Int)) then ((at? b2 x5).bind fun e7=>zAT b2 k (IntKind.u64.wrap ((zCD .xor .u64 h4 (IntKind.u64.wrap (e7.toNat:Int))) * 1099511628211)) (IntKind.i64.wrap (x5+1))) else (some h4)
def zCb (n:Nat):Int->(List UInt8)->Option Int
| h1,b2=>(zAT b2 n h1 0).bind fun h6=>some h6
def zBA (n:Nat):(List UInt8)->Option Int
| b1=>(zCb n 14695981039346656037 b1).bind fun y2=>some y2
def zEe (b2:List UInt8):Nat->Int->Int->Option (Int)
| 0,_,_=>none
| k+1,h3,i4=>bif decide (i4<(b2.length:Int)) then ((at? b2 i4).bind fun e7=>zEe b2 k (IntKind.u64.wrap ((zCD .xor .u64 h3 (IntKind.u64.wrap (e7.toNat:Int))) * 1099511628211)) (IntKind.i64.wrap (i4+1))) else (some h3)
def zF2 (n:Nat):Int->(List UInt8)->Option Int
| h1,b2=>(zEe b2 n h1 0).bind fun h5=>some h5
def zG5 (n:Nat):(List UInt8)->Option Int
| b1=>(zF2 n 14695981039346656037 b1).bind fun y2=>some y2
def zFO (n1:Int):Nat->Int->(List UInt8)->Option ((List UInt8))
| 0,_,_=>none
| k+1,i3,l4=>bif decide (i3<8) then (req (0<=IntKind.i64.wrap (56 - (IntKind.i64.wrap (8 * i3)))) <| req (l4.length + [b8of (IntKind.u8.wrap (n1.fdiv (2 ^ (min (IntKind.i64.wrap (56 - (IntKind.i64.wrap (8 * i3)))).toNat IntKind.u64.bits))))].length<=4294967296) <| zFO n1 k (IntKind.i64.wrap (i3+1)) (l4++[b8of (IntKind.u8.wrap (n1.fdiv (2 ^ (min (IntKind.i64.wrap (56 - (IntKind.i64.wrap (8 * i3)))).toNat IntKind.u64.bits))))])) else (some l4)
def zK7 (n:Nat):Int->Option (List UInt8)
| n1=>(zFO n1 n 0 []).bind fun l5=>some l5
def zBU (s1:List UInt8):Nat->Int->Option (Fl Bool Unit)
| 0,_=>none
| k+1,i2=>bif decide (i2<(s1.length:Int)) then (((at? s1 i2).bind fun c4=>bif decide ((c4.toNat:Int)<32) then (some true) else ((at? s1 i2).bind fun c6=>some (decide (126<(c6.toNat:Int)))):Option (Bool)).bind fun x3=>bif x3 then (some (.ret false)) else (zBU s1 k (IntKind.i64.wrap (i2+1)))) else (some (.go ()))
def zFd (n:Nat):(List UInt8)->Option Bool
| s1=>(zBU s1 n 0).bind fun fl=>match fl with
 | .ret r=>some r
 | .go _=>some (decide ((s1.length:Int)<=200))
def zCq  : Nat->(List Int)->Nd->Option (Fl Bool ((List Int)×Nd))
| 0,_,_=>none
| k+1,x3,⟨x4A,x4B,x4F,x4E⟩=>bif decide (3<=(x3.length:Int)) then ((at? x3 0).bind fun e8=>(at? x3 1).bind fun e10=>(bif decide (e8<0) then (some true) else (bif decide ((x4E.length:Int)<=e8) then (some true) else (bif decide (e10<0) then (some true) else ((at? x4E e8).bind fun⟨e14A,e14B,e14F,e14E⟩=>some (decide ((e14E.length:Int)<=e10))))):Option (Bool)).bind fun x12=>bif x12 then (some (.ret false)) else ((at? x4E e8).bind fun⟨e17A,e17B,e17F,e17E⟩=>(at? e17E e10).bind fun⟨e19A,e19B,e19F,e19E⟩=>req (0<=(2:Int)/\(2:Int)<=(x3.length:Int)/\(x3.length:Int)<=(x3.length:Int)) <| zCq k ((x3.take (x3.length:Int).toNat).drop (2:Int).toNat) (Nd.mk e19A e19B e19F e19E))) else (
  some (.go (x3,Nd.mk x4A x4B x4F x4E)))
def zFf (n:Nat):Nd->(List Int)->Option Bool
| ⟨a1A,a1B,a1F,a1E⟩,a2=>(zCq  n a2 (Nd.mk a1A a1B a1F a1E)).bind fun fl=>match fl with
 | .ret r=>some r
 | .go ⟨x5,⟨x6A,x6B,x6F,x6E⟩⟩=>(bif ((x5.length:Int) == 1) then ((at? x5 0).bind fun e24=>bif decide (0<=e24) then ((at? x5 0).bind fun e26=>some (decide (e26<=(x6E.length:Int)))) else (some false)) else (some false):Option (Bool)).bind fun x22=>some x22
def zC0 (n:Nat):Nd->(List Int)->Option Bool
| ⟨n1A,n1B,n1F,n1E⟩,pos2=>((zBb n (Nd.mk n1A n1B n1F n1E)).bind fun y4=>bif y4 then ((zFf n (Nd.mk n1A n1B n1F n1E) pos2).bind fun y5=>some y5) else (some false):Option (Bool)).bind fun x3=>some x3
def zDh (n:Nat):Nd->zCu->Option Bool
| ⟨n1A,n1B,n1F,n1E⟩,⟨c2Ai,c2Ah⟩=>((zC0 n (Nd.mk n1A n1B n1F n1E) c2Ai).bind fun y4=>bif y4 then (bif ((c2Ah.length:Int) == 0) then (some true) else ((zC0 n (Nd.mk n1A n1B n1F n1E) c2Ah).bind fun y6=>some y6)) else (some false):Option (Bool)).bind fun x3=>some x3
def zB4 (n:Nat) (a1H:List zRc) (a2:Int):Nat->Int->(List UInt8)->Int->(List Nd)->Int->(List UInt8)->Int->(List Nd)->Int->Option (Fl (Nd×Bool) (Int×(List UInt8)×Int×(List Nd)))
| 0,_,_,_,_,_,_,_,_,_=>none
| k+1,x11,x12,x13,x14,x15,x16,x17,x18,x19=>bif decide (x19<(a1H.length:Int)) then (((at? a1H x19).bind fun⟨e32P,⟨e32W,e32X⟩,⟨e32Y,e32Z⟩⟩=>(zCc n (Nd.mk x11 x12 x13 x14) e32P).bind fun⟨⟨y34A,y34B,y34F,y34E⟩,y35,y36⟩=>(bif (y36 != 0) then (some true) else ((zDh n (Nd.mk x11 x12 x13 x14) (e32W,e32X)).bind fun y38=>bif (!y38) then (some true) else ((zDh n (Nd.mk y34A y34B y34F y34E) (e32Y,e32Z)).bind fun y39=>some (!y39))):Option (Bool)).bind fun x37=>bif x37 then (some (.ret (Nd.mk 0 [] 0 [],false))) else (bif ((IntKind.i64.wrap (x19+1)) == a2) then (some (.go (y34A,y34B,y34F,y34E,y34A,y34B,y34F,y34E))) else (
     some (.go (y34A,y34B,y34F,y34E,x15,x16,x17,x18)))):Option (Fl (Nd×Bool) (Int×(List UInt8)×Int×(List Nd)×Int×(List UInt8)×Int×(List Nd)))).bind fun fl=>match fl with
  | .ret r=>some (.ret r)
  | .go ⟨x24,x25,x26,x27,x28,x29,x30,x31⟩=>zB4 n a1H a2 k x24 x25 x26 x27 x28 x29 x30 x31 (IntKind.i64.wrap (x19+1))) else (some (.go (x15,x16,x17,x18)))
def zDi (n:Nat):(List UInt8×Nd×List zRc×Int)->Int->Option (Nd×Bool)
| ⟨a1U,⟨a1Q,a1R,a1S,a1T⟩,a1H,a1V⟩,a2=>((zFd n a1U).bind fun y4=>bif (!y4) then (some true) else ((zBb n (Nd.mk a1Q a1R a1S a1T)).bind fun y5=>bif (!y5) then (some true) else (bif decide (1000<(a1H.length:Int)) then (some true) else (bif decide (a1V<0) then (some true) else (some (decide ((a1H.length:Int)<a1V)))))):Option (Bool)).bind fun x3=>bif x3 then (some (Nd.mk 0 [] 0 [],false)) else ((zB2 (Nd.mk a1Q a1R a1S a1T)).bind fun⟨y8A,y8B,y8F,y8E⟩=>(zB4 n a1H a2 n y8A y8B y8F y8E y8A y8B y8F y8E 0).bind fun fl=>match fl with
  | .ret r=>some r
  | .go ⟨x20,x21,x22,x23⟩=>some (Nd.mk x20 x21 x22 x23,true))
def zCA (n:Nat):(List UInt8×Nd×List zRc×Int)->Option Bool
| ⟨d1U,⟨d1Q,d1R,d1S,d1T⟩,d1H,d1V⟩=>(zDi n (d1U,Nd.mk d1Q d1R d1S d1T,d1H,d1V) 0).bind fun⟨⟨y2A,y2B,y2F,y2E⟩,y3⟩=>some y3
def zDD:(List UInt8)->Option CV
| s1=>some (CV.mk 2 0 s1 [])
def zCp:(List CV)->Option CV
| l1=>some (CV.mk 3 0 [] l1)
def zBg:Int->Option CV
| n1=>some (CV.mk 1 n1 [] [])
def zBn (F_file_writeTree:Nd->Option CV) (l1:List Nd):Nat->Int->(List CV)->Option ((List CV))
| 0,_,_=>none
| k+1,x6,l7=>bif decide (x6<(l1.length:Int)) then ((at? l1 x6).bind fun⟨e9A,e9B,e9F,e9E⟩=>(F_file_writeTree (Nd.mk e9A e9B e9F e9E)).bind fun⟨y11A,y11D,y11B,y11C⟩=>req (l7.length + [CV.mk y11A y11D y11B y11C].length<=4294967296) <| zBn F_file_writeTree l1 k (IntKind.i64.wrap (x6+1)) (l7++[CV.mk y11A y11D y11B y11C])) else (some l7)
mutual
def zCo:Nat->(List Nd)->Option CV
| 0,_=>none
| n+1,l1 =>
 (zBD ).bind fun⟨y2A,y2D,y2B,y2C⟩ =>
 (zBn (zBq n) l1 n 0 y2C).bind fun l8 =>
 some (CV.mk y2A y2D y2B l8)
def zBq:Nat->Nd->Option CV
| 0,_=>none
| n+1,⟨n1A,n1B,n1F,n1E⟩ =>
 (zCo n n1E).bind fun⟨y2A,y2D,y2B,y2C⟩ =>
 (zBg n1A).bind fun⟨y3A,y3D,y3B,y3C⟩ =>
 (zDD n1B).bind fun⟨y4A,y4D,y4B,y4C⟩ =>
 (zBg n1F).bind fun⟨y5A,y5D,y5B,y5C⟩ =>
 req ([CV.mk y3A y3D y3B y3C,CV.mk y4A y4D y4B y4C,CV.mk y5A y5D y5B y5C].length+y2C.length<=4294967296) <|
 (zCp ([CV.mk y3A y3D y3B y3C,CV.mk y4A y4D y4B y4C,CV.mk y5A y5D y5B y5C]++y2C)).bind fun⟨y6A,y6D,y6B,y6C⟩ =>
 some (CV.mk y6A y6D y6B y6C)
end
def zBx (l1:List Int):Nat->Int->(List CV)->Option ((List CV))
| 0,_,_=>none
| k+1,x6,l7=>bif decide (x6<(l1.length:Int)) then ((at? l1 x6).bind fun e9=>(zBg e9).bind fun⟨y11A,y11D,y11B,y11C⟩=>req (l7.length + [CV.mk y11A y11D y11B y11C].length<=4294967296) <| zBx l1 k (IntKind.i64.wrap (x6+1)) (l7++[CV.mk y11A y11D y11B y11C])) else (some l7)
def zEc (n:Nat):(List Int)->Option CV
| l1=>(zBD ).bind fun⟨y2A,y2D,y2B,y2C⟩=>(zBx l1 n 0 y2C).bind fun l8=>some (CV.mk y2A y2D y2B l8)
def zDg (n:Nat):(List Int)->Option CV
| l1=>(zEc n l1).bind fun⟨y2A,y2D,y2B,y2C⟩=>some (CV.mk y2A y2D y2B y2C)
def zEH (n:Nat):zO8->Option CV
| ⟨op1A,op1I,op1J,op1L,op1G,op1K,op1M,op1B⟩=>(zCo n op1G).bind fun⟨y2A,y2D,y2B,y2C⟩=>(zBg op1A).bind fun⟨y3A,y3D,y3B,y3C⟩=>(zDg n op1I).bind fun⟨y4A,y4D,y4B,y4C⟩=>(zBg op1J).bind fun⟨y5A,y5D,y5B,y5C⟩=>(zBg op1L).bind fun⟨y6A,y6D,y6B,y6C⟩=>(zBg op1K).bind fun⟨y7A,y7D,y7B,y7C⟩=>(zDD op1M).bind fun⟨y8A,y8D,y8B,y8C⟩=>(zDD op1B).bind fun⟨y9A,y9D,y9B,y9C⟩ =>
 (zCp [CV.mk y3A y3D y3B y3C,CV.mk y4A y4D y4B y4C,CV.mk y5A y5D y5B y5C,CV.mk y6A y6D y6B y6C,CV.mk y2A y2D y2B y2C,CV.mk y7A y7D y7B y7C,CV.mk y8A y8D y8B y8C,CV.mk y9A y9D y9B y9C]).bind fun⟨y11A,y11D,y11B,y11C⟩=>some (CV.mk y11A y11D y11B y11C)
def zBH (n:Nat) (l1:List zO8):Nat->Int->(List CV)->Option ((List CV))
| 0,_,_=>none
| k+1,x6,l7=>bif decide (x6<(l1.length:Int)) then ((at? l1 x6).bind fun⟨e9A,e9I,e9J,e9L,e9G,e9K,e9M,e9B⟩=>(zEH n (e9A,e9I,e9J,e9L,e9G,e9K,e9M,e9B)).bind fun⟨y11A,y11D,y11B,y11C⟩=>req (l7.length + [CV.mk y11A y11D y11B y11C].length<=4294967296) <| zBH n l1 k (IntKind.i64.wrap (x6+1)) (l7++[CV.mk y11A y11D y11B y11C])) else (some l7)
def zEG (n:Nat):(List zO8)->Option CV
| l1=>(zBD ).bind fun⟨y2A,y2D,y2B,y2C⟩=>(zBH n l1 n 0 y2C).bind fun l8=>some (CV.mk y2A y2D y2B l8)
def zCl (n:Nat):zCu->Option CV
| ⟨c1Ai,c1Ah⟩=>(zDg n c1Ai).bind fun⟨y2A,y2D,y2B,y2C⟩=>(zDg n c1Ah).bind fun⟨y3A,y3D,y3B,y3C⟩=>(zCp [CV.mk y2A y2D y2B y2C,CV.mk y3A y3D y3B y3C]).bind fun⟨y5A,y5D,y5B,y5C⟩=>some (CV.mk y5A y5D y5B y5C)
def zC4 (n:Nat):zRc->Option CV
| ⟨r1P,⟨r1W,r1X⟩,⟨r1Y,r1Z⟩⟩=>(zEG n r1P).bind fun⟨y2A,y2D,y2B,y2C⟩=>(zCl n (r1W,r1X)).bind fun⟨y3A,y3D,y3B,y3C⟩=>(zCl n (r1Y,r1Z)).bind fun⟨y4A,y4D,y4B,y4C⟩=>(zCp [CV.mk y2A y2D y2B y2C,CV.mk y3A y3D y3B y3C,CV.mk y4A y4D y4B y4C]).bind fun⟨y6A,y6D,y6B,y6C⟩=>some (CV.mk y6A y6D y6B y6C)
def zA9 (n:Nat) (l1:List zRc):Nat->Int->(List CV)->Option ((List CV))
| 0,_,_=>none
| k+1,x6,l7=>bif decide (x6<(l1.length:Int)) then ((at? l1 x6).bind fun⟨e9P,⟨e9W,e9X⟩,⟨e9Y,e9Z⟩⟩=>(zC4 n (e9P,(e9W,e9X),(e9Y,e9Z))).bind fun⟨y11A,y11D,y11B,y11C⟩=>req (l7.length + [CV.mk y11A y11D y11B y11C].length<=4294967296) <| zA9 n l1 k (IntKind.i64.wrap (x6+1)) (l7++[CV.mk y11A y11D y11B y11C])) else (some l7)
def zD4 (n:Nat):(List zRc)->Option CV
| l1=>(zBD ).bind fun⟨y2A,y2D,y2B,y2C⟩=>(zA9 n l1 n 0 y2C).bind fun l8=>some (CV.mk y2A y2D y2B l8)
def zCx (n:Nat):(List UInt8×Nd×List zRc×Int)->Option CV
| ⟨d1U,⟨d1Q,d1R,d1S,d1T⟩,d1H,d1V⟩=>(zDD d1U).bind fun⟨y2A,y2D,y2B,y2C⟩=>(zBq n (Nd.mk d1Q d1R d1S d1T)).bind fun⟨y3A,y3D,y3B,y3C⟩=>(zBg d1V).bind fun⟨y4A,y4D,y4B,y4C⟩=>(zD4 n d1H).bind fun⟨y5A,y5D,y5B,y5C⟩=>(zCp [CV.mk y2A y2D y2B y2C,CV.mk y3A y3D y3B y3C,CV.mk y4A y4D y4B y4C,CV.mk y5A y5D y5B y5C]).bind fun⟨y7A,y7D,y7B,y7C⟩=>some (CV.mk y7A y7D y7B y7C)
def zDf (y7:Int):Nat->Int->(List UInt8)->Option ((List UInt8))
| 0,_,_=>none
| k+1,shift9,l10=>bif decide (0<=shift9) then (req (0<=shift9) <| req (l10.length + [b8of (IntKind.u8.wrap (y7.fdiv (2 ^ (min shift9.toNat IntKind.u64.bits))))].length<=4294967296) <| zDf y7 k (IntKind.i64.wrap (shift9 - 8)) (l10++[b8of (IntKind.u8.wrap (y7.fdiv (2 ^ (min shift9.toNat IntKind.u64.bits))))])) else (some l10)
def zCL (n:Nat):(List UInt8×Nd×List zRc×Int)->Option ((List UInt8)×Int)
| ⟨d1U,⟨d1Q,d1R,d1S,d1T⟩,d1H,d1V⟩=>(zCA n (d1U,Nd.mk d1Q d1R d1S d1T,d1H,d1V)).bind fun y2=>bif (!y2) then (some ([],1)) else ((zCx n (d1U,Nd.mk d1Q d1R d1S d1T,d1H,d1V)).bind fun⟨y3A,y3D,y3B,y3C⟩=>(zDU n (CV.mk y3A y3D y3B y3C)).bind fun⟨y4,y5⟩=>bif (y5 != 0) then (some ([],6)) else (req (0<=(0:Int)/\(0:Int)<=(IntKind.i64.wrap (12+(y4.length:Int)))/\(IntKind.i64.wrap (12+(y4.length:Int)))<=4294967296) <| req ((List.replicate (0:Int).toNat (b8of 0)).length + [86,67,76,49].length<=4294967296) <| (zBA n y4).bind fun y7 =>
   (zDf y7 n 56 ((List.replicate (0:Int).toNat (b8of 0))++[86,67,76,49])).bind fun l11=>req (l11.length+y4.length<=4294967296) <| some (l11++y4,0)))
def zFC (n:Nat):Option Bool
:= (zCL n ([],Nd.mk 1 [] 0 [],[],0)).bind fun⟨y1,y2⟩=>(bif (y2 == 0) then (bif ((y1.length:Int) == 20) then (req (0<=(12:Int)/\(12:Int)<=(y1.length:Int)/\(y1.length:Int)<=(y1.length:Int)) <| some (((y1.take (y1.length:Int).toNat).drop (12:Int).toNat) == [196,128,195,66,128,64,64,192])) else (some false)) else (some false):Option (Bool)).bind fun x3=>some x3
def zEf (n:Nat) (e4P:List zO8):Nat->Int->Option (Fl Bool Unit)
| 0,_=>none
| k+1,x12=>bif decide (x12<(e4P.length:Int)) then ((at? e4P x12).bind fun⟨e14A,e14I,e14J,e14L,e14G,e14K,e14M,e14B⟩=>(zJp n (e14A,e14I,e14J,e14L,e14G,e14K,e14M,e14B)).bind fun y16=>bif (!y16) then (some (.ret false)) else (zEf n e4P k (IntKind.i64.wrap (x12+1)))) else (some (.go ()))
def zDz (n:Nat) (a1H:List zRc):Nat->Int->Option (Fl Bool Unit)
| 0,_=>none
| k+1,x2=>bif decide (x2<(a1H.length:Int)) then ((at? a1H x2).bind fun⟨e4P,⟨e4W,e4X⟩,⟨e4Y,e4Z⟩⟩=>(bif decide (8<(e4P.length:Int)) then (some true) else (some (decide (200<(IntKind.i64.wrap ((IntKind.i64.wrap ((IntKind.i64.wrap ((e4W.length:Int)+(e4X.length:Int)))+(e4Y.length:Int)))+(e4Z.length:Int)))))):Option (Bool)).bind fun x6=>bif x6 then (some (.ret false)) else ((zEf n e4P n 0).bind fun fl=>match fl with
   | .ret r=>some (.ret r)
   | .go _=>zDz n a1H k (IntKind.i64.wrap (x2+1)))) else (some (.go ()))
def zJs (n:Nat):(List UInt8×Nd×List zRc×Int)->Option Bool
| ⟨a1U,⟨a1Q,a1R,a1S,a1T⟩,a1H,a1V⟩=>(zDz n a1H n 0).bind fun fl=>match fl with
 | .ret r=>some r
 | .go _=>((zIf n (Nd.mk a1Q a1R a1S a1T) 200).bind fun y18=>bif y18 then (bif decide ((a1H.length:Int)<=20) then (some (decide ((a1U.length:Int)<=300))) else (some false)) else (some false):Option (Bool)).bind fun x17=>some x17
def zF5 (n:Nat):Nd->zCu->Option Bool
| ⟨n1A,n1B,n1F,n1E⟩,⟨c2Ai,c2Ah⟩=>((zG9 n (Nd.mk n1A n1B n1F n1E) c2Ai).bind fun y4=>bif y4 then (bif ((c2Ah.length:Int) == 0) then (some true) else ((zG9 n (Nd.mk n1A n1B n1F n1E) c2Ah).bind fun y6=>some y6)) else (some false):Option (Bool)).bind fun x3=>some x3
def zFS (n:Nat) (a1H:List zRc):Nat->Int->(List UInt8)->Int->(List Nd)->Int->Option (Fl Bool Unit)
| 0,_,_,_,_,_=>none
| k+1,x7,x8,x9,x10,x11=>bif decide (x11<(a1H.length:Int)) then ((at? a1H x11).bind fun⟨e13P,⟨e13W,e13X⟩,⟨e13Y,e13Z⟩⟩=>(zDk n (Nd.mk x7 x8 x9 x10) e13P).bind fun⟨⟨y15A,y15B,y15F,y15E⟩,y16,y17⟩=>(bif (y17 != 0) then (some true) else ((zF5 n (Nd.mk x7 x8 x9 x10) (e13W,e13X)).bind fun y19=>bif (!y19) then (some true) else ((zF5 n (Nd.mk y15A y15B y15F y15E) (e13Y,e13Z)).bind fun y20=>some (!y20))):Option (Bool)).bind fun x18=>bif x18 then (some (.ret false)) else (zFS n a1H k y15A y15B y15F y15E (IntKind.i64.wrap (x11+1)))) else (some (.go ()))
def zHa (n:Nat):(List UInt8×Nd×List zRc×Int)->Option Bool
| ⟨a1U,⟨a1Q,a1R,a1S,a1T⟩,a1H,a1V⟩=>(bif decide (200<(a1U.length:Int)) then (some true) else ((zFh n a1U).bind fun y3=>bif (!y3) then (some true) else ((zBQ n (Nd.mk a1Q a1R a1S a1T)).bind fun y4=>bif (!y4) then (some true) else (bif decide (1000<(a1H.length:Int)) then (some true) else (bif decide (a1V<0) then (some true) else (some (decide ((a1H.length:Int)<a1V))))))):Option (Bool)).bind fun x2=>bif x2 then (some false) else ((zFS n a1H n a1Q a1R a1S a1T 0).bind fun fl=>match fl with
  | .ret r=>some r
  | .go _=>some true)
def zCz:(List UInt8)->(List UInt8)->Option Bool
| s1,prefix2=>(bif decide ((prefix2.length:Int)<=(s1.length:Int)) then (req (0<=(0:Int)/\(0:Int)<=(prefix2.length:Int)/\(prefix2.length:Int)<=(s1.length:Int)) <| some (((s1.take (prefix2.length:Int).toNat).drop (0:Int).toNat) == prefix2)) else (some false):Option (Bool)).bind fun x3=>some x3
def zCN:(List UInt8)->(List UInt8)->Option Bool
| s1,prefix2=>(zCz s1 prefix2).bind fun y3=>some y3
def zBh:(Int)->Option (Int)
| r1=>bif (r1 == 0) then (some 4) else (some r1)
def zBi:(Int)->CV->Option ((List CV)×(Int))
| r1,⟨v2A,v2D,v2B,v2C⟩=>(bif (v2A != 3) then ((zBh r1).bind fun w4=>some w4) else (some r1):Option (Int)).bind fun x3=>some (v2C,x3)
def zB3:(Int)->CV->Int->Option ((List CV)×(Int))
| r1,⟨v2A,v2D,v2B,v2C⟩,size3=>(zBi r1 (CV.mk v2A v2D v2B v2C)).bind fun⟨y4,w5⟩=>bif decide ((y4.length:Int)<size3) then ((zBh w5).bind fun w7=>req (0<=size3/\size3<=4294967296) <| some (List.replicate size3.toNat (CV.mk 0 0 [] []),w7)) else (some (y4,w5))
def zBa:(Int)->CV->Int->Option ((List CV)×(Int))
| r1,⟨v2A,v2D,v2B,v2C⟩,size3=>(zB3 r1 (CV.mk v2A v2D v2B v2C) size3).bind fun⟨y4,w5⟩=>(bif ((y4.length:Int) != size3) then ((zBh w5).bind fun w8=>some w8) else (some w5):Option (Int)).bind fun x7=>some (y4,x7)
def zBy:(Int)->CV->Option ((List UInt8)×(Int))
| r1,⟨v2A,v2D,v2B,v2C⟩=>(bif (v2A != 2) then ((zBh r1).bind fun w4=>some w4) else (some r1):Option (Int)).bind fun x3=>some (v2B,x3)
def zAG:(Int)->CV->Option (Int×(Int))
| r1,⟨v2A,v2D,v2B,v2C⟩=>(bif (v2A != 1) then ((zBh r1).bind fun w4=>some w4) else (some r1):Option (Int)).bind fun x3=>some (v2D,x3)
def zAM (F_file_reader_tree:(Int)->CV->Option (Nd×(Int))) (l2:List CV):Nat->Int->Int->(List Nd)->Option (Fl ((List Nd)×(Int)) (Int×(List Nd)))
| 0,_,_,_=>none
| k+1,x4,x5,l7=>bif decide (x5<(l2.length:Int)) then ((at? l2 x5).bind fun⟨e10A,e10D,e10B,e10C⟩=>bif (x4 != 0) then (some (.ret ([],x4))) else ((F_file_reader_tree x4 (CV.mk e10A e10D e10B e10C)).bind fun⟨⟨y12A,y12B,y12F,y12E⟩,w13⟩=>req (l7.length + [Nd.mk y12A y12B y12F y12E].length<=4294967296) <| zAM F_file_reader_tree l2 k w13 (IntKind.i64.wrap (x5+1)) (l7++[Nd.mk y12A y12B y12F y12E]))) else (some (.go (x4,l7)))
mutual
def zBv:Nat->(Int)->(List CV)->Option ((List Nd)×(Int))
| 0,_,_=>none
| n+1,r1,l2 =>
 (zAM (zAW n) l2 n r1 0 []).bind fun fl=>match fl with
 | .ret r=>some r
 | .go ⟨x8,l9⟩ =>
  some (l9,x8)
def zAW:Nat->(Int)->CV->Option (Nd×(Int))
| 0,_,_=>none
| n+1,r1,⟨v2A,v2D,v2B,v2C⟩ =>
 (zB3 r1 (CV.mk v2A v2D v2B v2C) 3).bind fun⟨y3,w4⟩ =>
 (at? y3 0).bind fun⟨e5A,e5D,e5B,e5C⟩ =>
 (zAG w4 (CV.mk e5A e5D e5B e5C)).bind fun⟨y7,w8⟩ =>
 (at? y3 1).bind fun⟨e9A,e9D,e9B,e9C⟩ =>
 (zBy w8 (CV.mk e9A e9D e9B e9C)).bind fun⟨y11,w12⟩ =>
 (at? y3 2).bind fun⟨e13A,e13D,e13B,e13C⟩ =>
 (zAG w12 (CV.mk e13A e13D e13B e13C)).bind fun⟨y15,w16⟩ =>
 req (0<=(3:Int)/\(3:Int)<=(y3.length:Int)/\(y3.length:Int)<=(y3.length:Int)) <|
 (zBv n w16 ((y3.take (y3.length:Int).toNat).drop (3:Int).toNat)).bind fun⟨y18,w19⟩ =>
 some (Nd.mk y7 y11 y15 y18,w19)
end
def zAQ (l2:List CV):Nat->Int->Int->(List Int)->Option (Fl ((List Int)×(Int)) (Int×(List Int)))
| 0,_,_,_=>none
| k+1,x4,x5,l7=>bif decide (x5<(l2.length:Int)) then ((at? l2 x5).bind fun⟨e10A,e10D,e10B,e10C⟩=>bif (x4 != 0) then (some (.ret ([],x4))) else ((zAG x4 (CV.mk e10A e10D e10B e10C)).bind fun⟨y12,w13⟩=>req (l7.length + [y12].length<=4294967296) <| zAQ l2 k w13 (IntKind.i64.wrap (x5+1)) (l7++[y12]))) else (some (.go (x4,l7)))
def zCM (n:Nat):(Int)->(List CV)->Option ((List Int)×(Int))
| r1,l2=>(zAQ l2 n r1 0 []).bind fun fl=>match fl with
 | .ret r=>some r
 | .go ⟨x8,l9⟩=>some (l9,x8)
def zBo (n:Nat):(Int)->CV->Option ((List Int)×(Int))
| r1,⟨v2A,v2D,v2B,v2C⟩=>(zBi r1 (CV.mk v2A v2D v2B v2C)).bind fun⟨y3,w4⟩=>(zCM n w4 y3).bind fun⟨y5,w6⟩=>some (y5,w6)
def zCZ (n:Nat):(Int)->CV->Option (zO8×(Int))
| r1,⟨v2A,v2D,v2B,v2C⟩=>(zBa r1 (CV.mk v2A v2D v2B v2C) 8).bind fun⟨y3,w4⟩=>(at? y3 0).bind fun⟨e5A,e5D,e5B,e5C⟩=>(zAG w4 (CV.mk e5A e5D e5B e5C)).bind fun⟨y7,w8⟩=>(at? y3 1).bind fun⟨e9A,e9D,e9B,e9C⟩=>(zBo n w8 (CV.mk e9A e9D e9B e9C)).bind fun⟨y11,w12⟩=>(at? y3 2).bind fun⟨e13A,e13D,e13B,e13C⟩=>(zAG w12 (CV.mk e13A e13D e13B e13C)).bind fun⟨y15,w16⟩=>(at? y3 3).bind fun⟨e17A,e17D,e17B,e17C⟩=>(zAG w16 (CV.mk e17A e17D e17B e17C)).bind fun⟨y19,w20⟩=>(at? y3 4).bind fun⟨e21A,e21D,e21B,e21C⟩=>(zBi w20 (CV.mk e21A e21D e21B e21C)).bind fun⟨y23,w24⟩ =>
 (zBv n w24 y23).bind fun⟨y25,w26⟩=>(at? y3 5).bind fun⟨e27A,e27D,e27B,e27C⟩=>(zAG w26 (CV.mk e27A e27D e27B e27C)).bind fun⟨y29,w30⟩=>(at? y3 6).bind fun⟨e31A,e31D,e31B,e31C⟩=>(zBy w30 (CV.mk e31A e31D e31B e31C)).bind fun⟨y33,w34⟩=>(at? y3 7).bind fun⟨e35A,e35D,e35B,e35C⟩=>(zBy w34 (CV.mk e35A e35D e35B e35C)).bind fun⟨y37,w38⟩=>some ((y7,y11,y15,y19,y25,y29,y33,y37),w38)
def zAU (n:Nat) (l2:List CV):Nat->Int->Int->(List zO8)->Option (Fl ((List zO8)×(Int)) (Int×(List zO8)))
| 0,_,_,_=>none
| k+1,x4,x5,l7=>bif decide (x5<(l2.length:Int)) then ((at? l2 x5).bind fun⟨e10A,e10D,e10B,e10C⟩=>bif (x4 != 0) then (some (.ret ([],x4))) else ((zCZ n x4 (CV.mk e10A e10D e10B e10C)).bind fun⟨⟨y12A,y12I,y12J,y12L,y12G,y12K,y12M,y12B⟩,w13⟩=>req (l7.length + [(y12A,y12I,y12J,y12L,y12G,y12K,y12M,y12B)].length<=4294967296) <| zAU n l2 k w13 (IntKind.i64.wrap (x5+1)) (l7++[(y12A,y12I,y12J,y12L,y12G,y12K,y12M,y12B)]))) else (some (.go (x4,l7)))
def zC3 (n:Nat):(Int)->(List CV)->Option ((List zO8)×(Int))
| r1,l2=>(zAU n l2 n r1 0 []).bind fun fl=>match fl with
 | .ret r=>some r
 | .go ⟨x8,l9⟩=>some (l9,x8)
def zBS (n:Nat):(Int)->CV->Option (zCu×(Int))
| r1,⟨v2A,v2D,v2B,v2C⟩=>(zBa r1 (CV.mk v2A v2D v2B v2C) 2).bind fun⟨y3,w4⟩=>(at? y3 0).bind fun⟨e5A,e5D,e5B,e5C⟩=>(zBo n w4 (CV.mk e5A e5D e5B e5C)).bind fun⟨y7,w8⟩=>(at? y3 1).bind fun⟨e9A,e9D,e9B,e9C⟩=>(zBo n w8 (CV.mk e9A e9D e9B e9C)).bind fun⟨y11,w12⟩=>some ((y7,y11),w12)
def zBT (n:Nat):(Int)->CV->Option (zRc×(Int))
| r1,⟨v2A,v2D,v2B,v2C⟩=>(zBa r1 (CV.mk v2A v2D v2B v2C) 3).bind fun⟨y3,w4⟩=>(at? y3 0).bind fun⟨e5A,e5D,e5B,e5C⟩=>(zBi w4 (CV.mk e5A e5D e5B e5C)).bind fun⟨y7,w8⟩=>(zC3 n w8 y7).bind fun⟨y9,w10⟩=>(at? y3 1).bind fun⟨e11A,e11D,e11B,e11C⟩=>(zBS n w10 (CV.mk e11A e11D e11B e11C)).bind fun⟨⟨y13Ai,y13Ah⟩,w14⟩=>(at? y3 2).bind fun⟨e15A,e15D,e15B,e15C⟩=>(zBS n w14 (CV.mk e15A e15D e15B e15C)).bind fun⟨⟨y17Ai,y17Ah⟩,w18⟩=>some ((y9,(y13Ai,y13Ah),(y17Ai,y17Ah)),w18)
def zAH (n:Nat) (l2:List CV):Nat->Int->Int->(List zRc)->Option (Fl ((List zRc)×(Int)) (Int×(List zRc)))
| 0,_,_,_=>none
| k+1,x4,x5,l7=>bif decide (x5<(l2.length:Int)) then ((at? l2 x5).bind fun⟨e10A,e10D,e10B,e10C⟩=>bif (x4 != 0) then (some (.ret ([],x4))) else ((zBT n x4 (CV.mk e10A e10D e10B e10C)).bind fun⟨⟨y12P,⟨y12W,y12X⟩,⟨y12Y,y12Z⟩⟩,w13⟩=>req (l7.length + [(y12P,(y12W,y12X),(y12Y,y12Z))].length<=4294967296) <| zAH n l2 k w13 (IntKind.i64.wrap (x5+1)) (l7++[(y12P,(y12W,y12X),(y12Y,y12Z))]))) else (some (.go (x4,l7)))
def zBZ (n:Nat):(Int)->(List CV)->Option ((List zRc)×(Int))
| r1,l2=>(zAH n l2 n r1 0 []).bind fun fl=>match fl with
 | .ret r=>some r
 | .go ⟨x8,l9⟩=>some (l9,x8)
def zB0 (n:Nat):(Int)->CV->Option ((List UInt8×Nd×List zRc×Int)×(Int))
| r1,⟨v2A,v2D,v2B,v2C⟩=>(zBa r1 (CV.mk v2A v2D v2B v2C) 4).bind fun⟨y3,w4⟩=>(at? y3 0).bind fun⟨e5A,e5D,e5B,e5C⟩=>(zBy w4 (CV.mk e5A e5D e5B e5C)).bind fun⟨y7,w8⟩=>(at? y3 1).bind fun⟨e9A,e9D,e9B,e9C⟩=>(zAW n w8 (CV.mk e9A e9D e9B e9C)).bind fun⟨⟨y11A,y11B,y11F,y11E⟩,w12⟩=>(at? y3 2).bind fun⟨e13A,e13D,e13B,e13C⟩=>(zAG w12 (CV.mk e13A e13D e13B e13C)).bind fun⟨y15,w16⟩=>(at? y3 3).bind fun⟨e17A,e17D,e17B,e17C⟩=>(zBi w16 (CV.mk e17A e17D e17B e17C)).bind fun⟨y19,w20⟩=>(zBZ n w20 y19).bind fun⟨y21,w22⟩=>some ((y7,Nd.mk y11A y11B y11F y11E,y21,y15),w22)
def zBM (a1:List UInt8):Nat->Int->Int->Option (Int)
| 0,_,_=>none
| k+1,x9,x10=>bif decide (x9<(((a1.take (12:Int).toNat).drop (4:Int).toNat).length:Int)) then ((at? ((a1.take (12:Int).toNat).drop (4:Int).toNat) x9).bind fun e12=>zBM a1 k (IntKind.i64.wrap (x9+1)) (zCD .or .u64 (IntKind.u64.wrap (x10 * 2 ^ (min (8:Int).toNat IntKind.u64.bits))) (IntKind.u64.wrap (e12.toNat:Int)))) else (some x10)
def zBG (n:Nat):(List UInt8)->Option ((List UInt8×Nd×List zRc×Int)×Int)
| a1=>(bif decide ((a1.length:Int)<12) then (some true) else (req (0<=(0:Int)/\(0:Int)<=(12:Int)/\(12:Int)<=(a1.length:Int)) <| (zCN ((a1.take (12:Int).toNat).drop (0:Int).toNat) [86,67,76,49]).bind fun y6=>some (!y6)):Option (Bool)).bind fun x2=>bif x2 then (some (([],Nd.mk 0 [] 0 [],[],0),4)) else (req (0<=(4:Int)/\(4:Int)<=(12:Int)/\(12:Int)<=(a1.length:Int)) <| (zBM a1 n 0 0).bind fun x11=>req (0<=(12:Int)/\(12:Int)<=(a1.length:Int)/\(a1.length:Int)<=(a1.length:Int)) <| (zBA n ((a1.take (a1.length:Int).toNat).drop (12:Int).toNat)).bind fun y15=>bif (x11 != y15) then (some (([],Nd.mk 0 [] 0 [],[],0),5)) else (req (0<=(12:Int)/\(12:Int)<=(a1.length:Int)/\(a1.length:Int)<=(a1.length:Int)) <|
   (zEE n ((a1.take (a1.length:Int).toNat).drop (12:Int).toNat)).bind fun⟨⟨y17A,y17D,y17B,y17C⟩,y18⟩=>bif (y18 != 0) then (some (([],Nd.mk 0 [] 0 [],[],0),4)) else ((zB0 n 0 (CV.mk y17A y17D y17B y17C)).bind fun⟨⟨y19U,⟨y19Q,y19R,y19S,y19T⟩,y19H,y19V⟩,w20⟩=>bif (w20 != 0) then (some (([],Nd.mk 0 [] 0 [],[],0),w20)) else ((zCA n (y19U,Nd.mk y19Q y19R y19S y19T,y19H,y19V)).bind fun y21=>bif (!y21) then (some (([],Nd.mk 0 [] 0 [],[],0),7)) else (some ((y19U,Nd.mk y19Q y19R y19S y19T,y19H,y19V),0))))))
def zAL:CV->Int->Option CV
| ⟨v1A,v1D,v1B,v1C⟩,i2=>bif decide (i2<(v1C.length:Int)) then ((at? v1C i2).bind fun⟨e4A,e4D,e4B,e4C⟩=>some (CV.mk e4A e4D e4B e4C)) else (some (CV.mk 0 0 [] []))
def zBJ:(List CV)->Option CV
| l1=>some (CV.mk 3 0 [] l1)
def zDl (F_r56_nodes:CV->Int->Option (List Nd)) (v1C:List CV):Nat->Int->(List Nd)->Option ((List Nd))
| 0,_,_=>none
| k+1,i4,l5=>bif decide (i4<(v1C.length:Int)) then ((at? v1C i4).bind fun⟨e8A,e8D,e8B,e8C⟩=>(zAL (CV.mk e8A e8D e8B e8C) 0).bind fun⟨y10A,y10D,y10B,y10C⟩=>(zAL (CV.mk e8A e8D e8B e8C) 1).bind fun⟨y11A,y11D,y11B,y11C⟩=>(zAL (CV.mk e8A e8D e8B e8C) 2).bind fun⟨y12A,y12D,y12B,y12C⟩=>(F_r56_nodes (CV.mk e8A e8D e8B e8C) 3).bind fun y13=>req (l5.length + [Nd.mk y10D y11B y12D y13].length<=4294967296) <| zDl F_r56_nodes v1C k (IntKind.i64.wrap (i4+1)) (l5++[Nd.mk y10D y11B y12D y13])) else (some l5)
def zEQ:Nat->CV->Int->Option (List Nd)
| 0,_,_=>none
| n+1,⟨v1A,v1D,v1B,v1C⟩,from2=>(zDl (zEQ n) v1C n from2 []).bind fun l6=>some l6
def zFk (v1C:List CV):Nat->Int->(List Int)->Option ((List Int))
| 0,_,_=>none
| k+1,i3,l4=>bif decide (i3<(v1C.length:Int)) then ((at? v1C i3).bind fun⟨e7A,e7D,e7B,e7C⟩=>req (l4.length + [e7D].length<=4294967296) <| zFk v1C k (IntKind.i64.wrap (i3+1)) (l4++[e7D])) else (some l4)
def zFG (n:Nat):CV->Option (List Int)
| ⟨v1A,v1D,v1B,v1C⟩=>(zFk v1C n 0 []).bind fun l5=>some l5
def zC9 (n:Nat) (e19A:Int) (e19D:Int) (e19B:List UInt8) (e19C:List CV):Nat->Int->(List zO8)->Option ((List zO8))
| 0,_,_=>none
| k+1,x29,l30=>(zAL (CV.mk e19A e19D e19B e19C) 0).bind fun⟨y32A,y32D,y32B,y32C⟩=>bif decide (x29<(y32C.length:Int)) then ((zAL (CV.mk e19A e19D e19B e19C) 0).bind fun⟨y34A,y34D,y34B,y34C⟩=>(at? y34C x29).bind fun⟨e35A,e35D,e35B,e35C⟩=>(zAL (CV.mk e35A e35D e35B e35C) 0).bind fun⟨y37A,y37D,y37B,y37C⟩=>(zAL (CV.mk e35A e35D e35B e35C) 1).bind fun⟨y38A,y38D,y38B,y38C⟩=>(zFG n (CV.mk y38A y38D y38B y38C)).bind fun y39=>(zAL (CV.mk e35A e35D e35B e35C) 2).bind fun⟨y40A,y40D,y40B,y40C⟩=>(zAL (CV.mk e35A e35D e35B e35C) 3).bind fun⟨y41A,y41D,y41B,y41C⟩ =>
  (zAL (CV.mk e35A e35D e35B e35C) 4).bind fun⟨y42A,y42D,y42B,y42C⟩=>(zEQ n (CV.mk y42A y42D y42B y42C) 0).bind fun y43=>(zAL (CV.mk e35A e35D e35B e35C) 5).bind fun⟨y44A,y44D,y44B,y44C⟩=>(zAL (CV.mk e35A e35D e35B e35C) 6).bind fun⟨y45A,y45D,y45B,y45C⟩=>(zAL (CV.mk e35A e35D e35B e35C) 7).bind fun⟨y46A,y46D,y46B,y46C⟩=>req (l30.length + [(y37D,y39,y40D,y41D,y43,y44D,y45B,y46B)].length<=4294967296) <| zC9 n e19A e19D e19B e19C k (IntKind.i64.wrap (x29+1)) (l30++[(y37D,y39,y40D,y41D,y43,y44D,y45B,y46B)])) else (some l30)
def zC8 (n:Nat) (a1A:Int) (a1D:Int) (a1B:List UInt8) (a1C:List CV):Nat->Int->(List zRc)->Option ((List zRc))
| 0,_,_=>none
| k+1,x13,l14=>(zAL (CV.mk a1A a1D a1B a1C) 3).bind fun⟨y16A,y16D,y16B,y16C⟩=>bif decide (x13<(y16C.length:Int)) then ((zAL (CV.mk a1A a1D a1B a1C) 3).bind fun⟨y18A,y18D,y18B,y18C⟩=>(at? y18C x13).bind fun⟨e19A,e19D,e19B,e19C⟩=>(zC9 n e19A e19D e19B e19C n 0 []).bind fun l31=>(zAL (CV.mk e19A e19D e19B e19C) 1).bind fun⟨y48A,y48D,y48B,y48C⟩=>(zAL (CV.mk y48A y48D y48B y48C) 0).bind fun⟨y49A,y49D,y49B,y49C⟩=>(zFG n (CV.mk y49A y49D y49B y49C)).bind fun y50=>(zAL (CV.mk e19A e19D e19B e19C) 1).bind fun⟨y51A,y51D,y51B,y51C⟩ =>
  (zAL (CV.mk y51A y51D y51B y51C) 1).bind fun⟨y52A,y52D,y52B,y52C⟩=>(zFG n (CV.mk y52A y52D y52B y52C)).bind fun y53=>(zAL (CV.mk e19A e19D e19B e19C) 2).bind fun⟨y54A,y54D,y54B,y54C⟩=>(zAL (CV.mk y54A y54D y54B y54C) 0).bind fun⟨y55A,y55D,y55B,y55C⟩=>(zFG n (CV.mk y55A y55D y55B y55C)).bind fun y56=>(zAL (CV.mk e19A e19D e19B e19C) 2).bind fun⟨y57A,y57D,y57B,y57C⟩=>(zAL (CV.mk y57A y57D y57B y57C) 1).bind fun⟨y58A,y58D,y58B,y58C⟩=>(zFG n (CV.mk y58A y58D y58B y58C)).bind fun y59=>req (l14.length + [(l31,(y50,y53),(y56,y59))].length<=4294967296) <|
  zC8 n a1A a1D a1B a1C k (IntKind.i64.wrap (x13+1)) (l14++[(l31,(y50,y53),(y56,y59))])) else (some l14)
def zME (n:Nat):CV->Option (List UInt8×Nd×List zRc×Int)
| ⟨a1A,a1D,a1B,a1C⟩=>(zAL (CV.mk a1A a1D a1B a1C) 0).bind fun⟨y2A,y2D,y2B,y2C⟩=>(zAL (CV.mk a1A a1D a1B a1C) 2).bind fun⟨y3A,y3D,y3B,y3C⟩=>(zAL (CV.mk a1A a1D a1B a1C) 1).bind fun⟨y4A,y4D,y4B,y4C⟩=>(zBJ [CV.mk y4A y4D y4B y4C]).bind fun⟨y6A,y6D,y6B,y6C⟩=>(zEQ n (CV.mk y6A y6D y6B y6C) 0).bind fun y7=>(at? y7 0).bind fun⟨e8A,e8B,e8F,e8E⟩=>(zC8 n a1A a1D a1B a1C n 0 []).bind fun l15=>some (y2B,Nd.mk e8A e8B e8F e8E,l15,y3D)
def zBW:Int->Option CV
| n1=>some (CV.mk 1 n1 [] [])
def zDO (l1:List Int):Nat->Int->(List CV)->Option ((List CV))
| 0,_,_=>none
| k+1,i4,l5=>bif decide (i4<(l1.length:Int)) then ((at? l1 i4).bind fun e8=>(zBW e8).bind fun⟨y10A,y10D,y10B,y10C⟩=>req (l5.length + [CV.mk y10A y10D y10B y10C].length<=4294967296) <| zDO l1 k (IntKind.i64.wrap (i4+1)) (l5++[CV.mk y10A y10D y10B y10C])) else (some l5)
def zFl (n:Nat):(List Int)->Option CV
| l1=>(zDO l1 n 0 []).bind fun l6=>(zBJ l6).bind fun⟨y12A,y12D,y12B,y12C⟩=>some (CV.mk y12A y12D y12B y12C)
def zFH:(List UInt8)->Option CV
| s1=>some (CV.mk 2 0 s1 [])
def zEJ (F_r56_tree:Nd->Option CV) (l1:List Nd):Nat->Int->(List CV)->Option ((List CV))
| 0,_,_=>none
| k+1,i3,l4=>bif decide (i3<(l1.length:Int)) then ((at? l1 i3).bind fun⟨e7A,e7B,e7F,e7E⟩=>(F_r56_tree (Nd.mk e7A e7B e7F e7E)).bind fun⟨y9A,y9D,y9B,y9C⟩=>req (l4.length + [CV.mk y9A y9D y9B y9C].length<=4294967296) <| zEJ F_r56_tree l1 k (IntKind.i64.wrap (i3+1)) (l4++[CV.mk y9A y9D y9B y9C])) else (some l4)
mutual
def zIi:Nat->Nd->Option CV
| 0,_=>none
| n+1,⟨n1A,n1B,n1F,n1E⟩ =>
 (zBW n1A).bind fun⟨y2A,y2D,y2B,y2C⟩ =>
 (zFH n1B).bind fun⟨y3A,y3D,y3B,y3C⟩ =>
 (zBW n1F).bind fun⟨y4A,y4D,y4B,y4C⟩ =>
 (zIB n n1E).bind fun y5 =>
 req ([CV.mk y2A y2D y2B y2C,CV.mk y3A y3D y3B y3C,CV.mk y4A y4D y4B y4C].length+y5.length<=4294967296) <|
 (zBJ ([CV.mk y2A y2D y2B y2C,CV.mk y3A y3D y3B y3C,CV.mk y4A y4D y4B y4C]++y5)).bind fun⟨y6A,y6D,y6B,y6C⟩ =>
 some (CV.mk y6A y6D y6B y6C)
def zIB:Nat->(List Nd)->Option (List CV)
| 0,_=>none
| n+1,l1 =>
 (zEJ (zIi n) l1 n 0 []).bind fun l5 =>
 some l5
end
def zIA (n:Nat):zCu->Option CV
| ⟨c1Ai,c1Ah⟩=>(zFl n c1Ai).bind fun⟨y2A,y2D,y2B,y2C⟩=>(zFl n c1Ah).bind fun⟨y3A,y3D,y3B,y3C⟩=>(zBJ [CV.mk y2A y2D y2B y2C,CV.mk y3A y3D y3B y3C]).bind fun⟨y5A,y5D,y5B,y5C⟩=>some (CV.mk y5A y5D y5B y5C)
def zEg (n:Nat) (r1P:List zO8):Nat->Int->(List CV)->Option ((List CV))
| 0,_,_=>none
| k+1,i4,l5=>bif decide (i4<(r1P.length:Int)) then ((at? r1P i4).bind fun⟨e8A,e8I,e8J,e8L,e8G,e8K,e8M,e8B⟩=>(zBW e8A).bind fun⟨y10A,y10D,y10B,y10C⟩=>(zFl n e8I).bind fun⟨y11A,y11D,y11B,y11C⟩=>(zBW e8J).bind fun⟨y12A,y12D,y12B,y12C⟩=>(zBW e8L).bind fun⟨y13A,y13D,y13B,y13C⟩=>(zIB n e8G).bind fun y14=>(zBJ y14).bind fun⟨y15A,y15D,y15B,y15C⟩=>(zBW e8K).bind fun⟨y16A,y16D,y16B,y16C⟩=>(zFH e8M).bind fun⟨y17A,y17D,y17B,y17C⟩=>(zFH e8B).bind fun⟨y18A,y18D,y18B,y18C⟩ =>
  (zBJ [CV.mk y10A y10D y10B y10C,CV.mk y11A y11D y11B y11C,CV.mk y12A y12D y12B y12C,CV.mk y13A y13D y13B y13C,CV.mk y15A y15D y15B y15C,CV.mk y16A y16D y16B y16C,CV.mk y17A y17D y17B y17C,CV.mk y18A y18D y18B y18C]).bind fun⟨y20A,y20D,y20B,y20C⟩=>req (l5.length + [CV.mk y20A y20D y20B y20C].length<=4294967296) <| zEg n r1P k (IntKind.i64.wrap (i4+1)) (l5++[CV.mk y20A y20D y20B y20C])) else (some l5)
def zJt (n:Nat):zRc->Option CV
| ⟨r1P,⟨r1W,r1X⟩,⟨r1Y,r1Z⟩⟩=>(zEg n r1P n 0 []).bind fun l6=>(zBJ l6).bind fun⟨y22A,y22D,y22B,y22C⟩=>(zIA n (r1W,r1X)).bind fun⟨y23A,y23D,y23B,y23C⟩=>(zIA n (r1Y,r1Z)).bind fun⟨y24A,y24D,y24B,y24C⟩=>(zBJ [CV.mk y22A y22D y22B y22C,CV.mk y23A y23D y23B y23C,CV.mk y24A y24D y24B y24C]).bind fun⟨y26A,y26D,y26B,y26C⟩=>some (CV.mk y26A y26D y26B y26C)
def zEK (n:Nat) (d1H:List zRc):Nat->Int->(List CV)->Option ((List CV))
| 0,_,_=>none
| k+1,i4,l5=>bif decide (i4<(d1H.length:Int)) then ((at? d1H i4).bind fun⟨e8P,⟨e8W,e8X⟩,⟨e8Y,e8Z⟩⟩=>(zJt n (e8P,(e8W,e8X),(e8Y,e8Z))).bind fun⟨y10A,y10D,y10B,y10C⟩=>req (l5.length + [CV.mk y10A y10D y10B y10C].length<=4294967296) <| zEK n d1H k (IntKind.i64.wrap (i4+1)) (l5++[CV.mk y10A y10D y10B y10C])) else (some l5)
def zK9 (n:Nat):(List UInt8×Nd×List zRc×Int)->Option CV
| ⟨d1U,⟨d1Q,d1R,d1S,d1T⟩,d1H,d1V⟩=>(zEK n d1H n 0 []).bind fun l6=>(zFH d1U).bind fun⟨y12A,y12D,y12B,y12C⟩=>(zIi n (Nd.mk d1Q d1R d1S d1T)).bind fun⟨y13A,y13D,y13B,y13C⟩=>(zBW d1V).bind fun⟨y14A,y14D,y14B,y14C⟩=>(zBJ l6).bind fun⟨y15A,y15D,y15B,y15C⟩=>(zBJ [CV.mk y12A y12D y12B y12C,CV.mk y13A y13D y13B y13C,CV.mk y14A y14D y14B y14C,CV.mk y15A y15D y15B y15C]).bind fun⟨y17A,y17D,y17B,y17C⟩=>some (CV.mk y17A y17D y17B y17C)
def zE1 (n:Nat):(List UInt8)->Option ((List UInt8×Nd×List zRc×Int)×Int)
| b1=>(bif decide ((b1.length:Int)<12) then (some true) else (req (0<=(0:Int)/\(0:Int)<=(4:Int)/\(4:Int)<=(b1.length:Int)) <| some (!(((b1.take (4:Int).toNat).drop (0:Int).toNat) == [86,67,76,49]))):Option (Bool)).bind fun x2=>bif x2 then (some (([],Nd.mk 0 [] 0 [],[],0),4)) else (req (0<=(12:Int)/\(12:Int)<=(b1.length:Int)/\(b1.length:Int)<=(b1.length:Int)) <| (zG5 n ((b1.take (b1.length:Int).toNat).drop (12:Int).toNat)).bind fun y7=>(zK7 n y7).bind fun y8=>req (0<=(4:Int)/\(4:Int)<=(12:Int)/\(12:Int)<=(b1.length:Int)) <| bif (!(y8 == ((b1.take (12:Int).toNat).drop (4:Int).toNat))) then (some (([],Nd.mk 0 [] 0 [],[],0),5)) else (req (0<=(12:Int)/\(12:Int)<=(b1.length:Int)/\(b1.length:Int)<=(b1.length:Int)) <|
   (zJk n ((b1.take (b1.length:Int).toNat).drop (12:Int).toNat)).bind fun⟨⟨y13A,y13D,y13B,y13C⟩,y14⟩=>bif (y14 != 0) then (some (([],Nd.mk 0 [] 0 [],[],0),4)) else ((zME n (CV.mk y13A y13D y13B y13C)).bind fun⟨y15U,⟨y15Q,y15R,y15S,y15T⟩,y15H,y15V⟩=>(zK9 n (y15U,Nd.mk y15Q y15R y15S y15T,y15H,y15V)).bind fun⟨y16A,y16D,y16B,y16C⟩=>(zFE n (CV.mk y16A y16D y16B y16C) (CV.mk y13A y13D y13B y13C)).bind fun y17=>bif (!y17) then (some (([],Nd.mk 0 [] 0 [],[],0),4)) else ((zHa n (y15U,Nd.mk y15Q y15R y15S y15T,y15H,y15V)).bind fun y18=>bif (!y18) then (
      some (([],Nd.mk 0 [] 0 [],[],0),7)) else (some ((y15U,Nd.mk y15Q y15R y15S y15T,y15H,y15V),0))))))
def zAZ (n:Nat) (a1:List zRc) (b2:List zRc):Nat->Int->Option (Fl Bool Unit)
| 0,_=>none
| k+1,i5=>bif decide (i5<(a1.length:Int)) then ((at? a1 i5).bind fun⟨e7P,⟨e7W,e7X⟩,⟨e7Y,e7Z⟩⟩=>(at? b2 i5).bind fun⟨e9P,⟨e9W,e9X⟩,⟨e9Y,e9Z⟩⟩=>(zFF n (e7P,(e7W,e7X),(e7Y,e7Z)) (e9P,(e9W,e9X),(e9Y,e9Z))).bind fun y11=>bif (!y11) then (some (.ret false)) else (zAZ n a1 b2 k (IntKind.i64.wrap (i5+1)))) else (some (.go ()))
def zDu (n:Nat):(List zRc)->(List zRc)->Option Bool
| a1,b2=>bif ((a1.length:Int) != (b2.length:Int)) then (some false) else ((zAZ n a1 b2 n 0).bind fun fl=>match fl with
  | .ret r=>some r
  | .go _=>some true)
def zDt (n:Nat):(List UInt8×Nd×List zRc×Int)->(List UInt8×Nd×List zRc×Int)->Option Bool
| ⟨a1U,⟨a1Q,a1R,a1S,a1T⟩,a1H,a1V⟩,⟨b2U,⟨b2Q,b2R,b2S,b2T⟩,b2H,b2V⟩=>(bif (a1U == b2U) then (bif (a1V == b2V) then ((zBO n (Nd.mk a1Q a1R a1S a1T) (Nd.mk b2Q b2R b2S b2T)).bind fun y4=>bif y4 then ((zDu n a1H b2H).bind fun y5=>some y5) else (some false)) else (some false)) else (some false):Option (Bool)).bind fun x3=>some x3
def zCE (n:Nat):(List UInt8×Nd×List zRc×Int)->(List UInt8)->Option Bool
| ⟨a1U,⟨a1Q,a1R,a1S,a1T⟩,a1H,a1V⟩,a2=>((zFC n ).bind fun y4=>bif (!y4) then (some true) else ((zJs n (a1U,Nd.mk a1Q a1R a1S a1T,a1H,a1V)).bind fun y5=>bif (!y5) then (some true) else (some (decide (3000<(a2.length:Int))))):Option (Bool)).bind fun x3=>bif x3 then ((zFC n ).bind fun y7=>some y7) else ((zCL n (a1U,Nd.mk a1Q a1R a1S a1T,a1H,a1V)).bind fun⟨y8,y9⟩=>(bif (y9 == 0) then ((zBG n y8).bind fun⟨⟨y10U,⟨y10Q,y10R,y10S,y10T⟩,y10H,y10V⟩,y11⟩=>(bif (y11 != 0) then (some true) else (
      (zDt n (y10U,Nd.mk y10Q y10R y10S y10T,y10H,y10V) (a1U,Nd.mk a1Q a1R a1S a1T,a1H,a1V)).bind fun y13=>some (!y13)):Option (Bool)).bind fun x12=>bif x12 then (some (.ret false)) else (some (.go ()))) else (some (.go ())):Option (Fl Bool Unit)).bind fun fl=>match fl with
  | .ret r=>some r
  | .go _=>(zBG n a2).bind fun⟨⟨y14U,⟨y14Q,y14R,y14S,y14T⟩,y14H,y14V⟩,y15⟩=>bif (y15 != 0) then ((zDt n (y14U,Nd.mk y14Q y14R y14S y14T,y14H,y14V) ([],Nd.mk 0 [] 0 [],[],0)).bind fun y16=>some y16) else ((zCL n (y14U,Nd.mk y14Q y14R y14S y14T,y14H,y14V)).bind fun⟨y17,y18⟩=>(bif (y18 == 0) then (some (y17 == a2)) else (some false):Option (Bool)).bind fun x19=>some x19))
end Go.Proofs.YtgplhldfbkmmgaaGreat
