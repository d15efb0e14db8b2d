/-
  Joined out of: AbsQ, MTyp, MCv, MLib, MNod, MCnt, AbsS, AbsT, AbsU, AbsV, AbsW, AbsX, MOwn, HnA, LibS, LibD, LibF, MEd, MEh, MEe, MEi, MHi, MHs.
-/
import Derived.Lib.Strings
import Derived.Lib.Slices
import Derived.Lib.Bytealg
import Derived.Lib.ItoaNum
import Derived.Test.YtffhjiplcfncdaaProg
import Derived.KernelRfl
import Derived.Lib.Walk
import Derived.Test.YtffhjiplcfncdaaZb
set_option linter.unusedVariables false
set_option linter.unusedSimpArgs false
set_option maxHeartbeats 2000000
set_option maxRecDepth 100000
namespace Go.Abs
def req {α:Type} (φ:Prop) [Decidable φ] (K:Option α):Option α:=if φ then K else none
theorem zAy {α:Type}{φ:Prop} [Decidable φ] {K:Option α}{r:α} (h:req φ K=some r):φ/\K=some r:=by
 unfold req at h;split at h
 ·exact⟨by assumption,h⟩
 ·cases h
theorem zDh {α:Type}{φ:Prop} [Decidable φ] {K:Option α} (h:φ):req φ K=K:=if_pos h
theorem zAc {α β:Type}{o:Option α}{f:α->Option β}{r:β} (h:o.bind f=some r):∃ x,o=some x/\f x=some r:=by
 cases o with
 | none=>cases h
 | some x=>exact⟨x,rfl,h⟩
theorem zAu {α:Type}{b:Bool}{A B:Option α}{r:α} (hb:b=true) (h:(bif b then A else B)=some r):A=some r:=by subst hb; exact h
theorem zAt {α:Type}{b:Bool}{A B:Option α}{r:α} (hb:b=false) (h:(bif b then A else B)=some r):B=some r:=by subst hb; exact h
theorem obs {α β:Type} (a:α) (f:α->Option β):(some a).bind f=f a :=
 rfl
theorem osi {α:Type}{a b:α} (h:some a=some b):a=b :=
 Option.some.inj h
theorem zAj {c:Cx}{σ:St}{Q:End->St->Prop}{x y:Code}{t:Nat}{b:Bool}{α:Type}{A B:Option α}{r:α} (hb:σ.env t = .s (.bool b)) (h:(bif b then A else B)=some r) (h1:b=true->A=some r->Tri c x σ Q) (h2:b=false->B=some r->Tri c y σ Q):Tri c (.cond (.tmp t) x y) σ Q :=
 zAl hb (fun e=>h1 e (zAu e h)) (fun e=>h2 e (zAt e h))
theorem pij {α β:Type}{a c:α}{b d:β} (h:some (a,b)=some (c,d)):a=c/\b=d :=
 Prod.mk.inj (Option.some.inj h)
inductive Fl (R G:Type) where
 | ret (r:R)
 | go (g:G)
def at? {α:Type} (l:List α) (i:Int):Option α:=if 0<=i then l[i.toNat]? else none
theorem zAO {α:Type}{R:List α->List (List S)}{f:α->List S} (hR:∀ l,R l=l.map f){l:List α}{i:Int}{y:α} (h:at? l i=some y) :
  (0<=i/\i<((R l).length:Int))/\(R l).getD i.toNat []=f y/\i.toNat<(R l).length:=by
 unfold at? at h;split at h
 ·rename_i h0
  obtain⟨hl,hy⟩:=List.getElem?_eq_some_iff.1 h;rw[hR,List.length_map]
  exact⟨⟨h0,by omega⟩,by simp[h],hl⟩
 ·cases h
theorem zDF {α:Type}{l:List α}{i:Nat} (h:i<l.length):at? l (i:Int)=some l[i]:=by
 simp[at?,h]
theorem rlen {α:Type}{R:List α->List (List S)}{f:α->List S} (hR:∀ l,R l=l.map f) (l:List α):(R l).length=l.length:=by rw[hR,List.length_map]
theorem rcut {α:Type}{R:List α->List (List S)}{f:α->List S} (hR:∀ l,R l=l.map f) (l:List α) (a b:Nat):((R l).take b).drop a=R ((l.take b).drop a):=by
 rw[hR,hR,List.map_drop,List.map_take]
theorem at_set {α:Type}{l:List α}{i:Int}{y:α} (h:at? l i=some y) (y':α):at? (l.set i.toNat y') i=some y':=by
 unfold at? at h ⊢;split at h
 ·rename_i h0
  rw[if_pos h0]
  rw[List.getElem?_set_self (List.getElem?_eq_some_iff.1 h).1]
 ·cases h
theorem rset {α:Type}{R:List α->List (List S)}{f:α->List S} (hR:∀ l,R l=l.map f){l:List α}{i:Int}{y:α} (h:at? l i=some y) (y':α) (o n:Nat) (ss:List S) (hs:(f y).take o++ss++(f y).drop n=f y') :
  (R l).set i.toNat (((R l).getD i.toNat []).take o++ss++((R l).getD i.toNat []).drop n)=R (l.set i.toNat y'):=by
 rw[(zAO hR h).2.1,hs,hR,hR,List.map_set]
def b8of (n:Int):UInt8:=UInt8.ofNat n.toNat
theorem zGq {n:Int} (h0:0<=n) (h1:n<=255):[S.int .u8 n]=brow (b8of n):=by
 have:(b8of n).toNat=n.toNat :=(by simp[b8of,UInt8.toNat_ofNat']; omega);simp only[brow,this,Int.toNat_of_nonneg h0]
theorem zKw (n:Int):0<=IntKind.u8.wrap n/\IntKind.u8.wrap n<=255:=by
 have:IntKind.u8.wrap n=n % 256:=by
  simp only[IntKind.wrap,IntKind.bits,IntKind.signed]
  simp
 rw[this]; omega
theorem zF2 (n:Int):[S.int .u8 (IntKind.u8.wrap n)]=brow (b8of (IntKind.u8.wrap n)):=zGq (zKw n).1 (zKw n).2
theorem zDG (l:List UInt8):(l.map brow).map zEW=l:=by
 induction l with
 | nil=>rfl
 | cons c l ih =>
  have:zEW (brow c)=c :=(by simp[zEW,brow]);simp only[List.map_cons,this,ih]
theorem zAo {c:Cx}{σ:St}{Q:End->St->Prop}{x:Code} (σ1:St) (h1:Tri c x σ (fun e σ'=>match e with | .normal=>Le c σ' σ1 | e=>Q e σ')) (h2:∀ σ',Le c σ' σ1->Q .normal σ'):Tri c x σ Q :=
 zMD h1 fun e σ' hq=>by
  cases e with
  | normal=>exact h2 σ' hq
  | exit id=>exact hq
  | ret=>exact hq
theorem zDf {c:Cx}{σ:St}{Q:End->St->Prop}{x:Code}{R Z:Type}{fl:Fl R Z} (E:Z->St) (h1:Tri c x σ (fun e σ'=>match e with | .normal=>∃ z,fl = .go z/\Le c σ' (E z) | e=>Q e σ'))
  (h2:∀ z σ',fl = .go z->Le c σ' (E z)->Q .normal σ'):Tri c x σ Q :=
 zMD h1 fun e σ' hq=>by
  cases e with
  | normal=>obtain⟨z,h3,h4⟩:=hq; exact h2 z σ' h3 h4
  | exit id=>exact hq
  | ret=>exact hq
theorem zA3 {l:List UInt8}{i:Int}{y:UInt8} (h:at? l i=some y):(0<=i/\i<(l.length:Int))/\((l.getD i.toNat 0).toNat:Int)=(y.toNat:Int):=by
 unfold at? at h;split at h
 ·rename_i h0
  obtain⟨hl,hy⟩:=List.getElem?_eq_some_iff.1 h;exact⟨⟨h0,by omega⟩,by simp[h]⟩
 ·cases h
theorem PSound.withNil {P:Program}{f:Nat}{R:List AV->List Ob->AV->List (Option Ob)->Prop} (h:PSound P f (zA5 R)) (k:Option Nat):PSound P f (zA5 R k):=⟨h.1,h.2.1,h.2.2.1,fun R hR=>by cases hR⟩
theorem zOy {P:Program}{f:Nat}{R:List AV->List Ob->AV->List (Option Ob)->Prop} (hcall:∀ args w,(callFunc f args).run P w = .ok (.enter f args) w) (h:∀ xs os x os',¬ R xs os x os') (k:Option Nat):PSound P f (zA5 R k) :=
 ⟨hcall,fun G w xs vs r _ _ _ _ hs=>hs.elim,fun R' hR'=>(by
  obtain rfl:R=R' :=(by simpa [zA5] using hR');exact fun G w β xs vs os x os' _ _ _ _ _ hs=>absurd hs (h xs os x os')),fun R hR=>(by cases hR)⟩
theorem zPA {P:Program}{f:Nat}{s:Nat->List AV->List Ob->AV->List (Option Ob)->Prop}{k:Option Nat} (h:∀ n,PSound P f (zA5 (s n) k)) (k':Option Nat):PSound P f (zA5 (fun xs os x os'=>∃ n,s n xs os x os') k') :=
 ⟨(h 0).1,fun G w xs vs r _ _ _ _ hs=>hs.elim,fun R' hR'=>(by
  obtain rfl:(fun xs os x os'=>∃ n,s n xs os x os')=R' :=(by simpa [zA5] using hR');exact fun G w β xs vs os x os' h1 h2 h3 h4 h5 ⟨n,hs⟩=>(h n).2.2.1 (s n) rfl G w β xs vs os x os' h1 h2 h3 h4 h5 hs),fun R hR=>(by cases hR)⟩
def Ev (p:Nat->Prop):Prop:=∃ N,∀ n,N<=n->p n
theorem Ev.and {p q:Nat->Prop} (h:Ev p) (k:Ev q):Ev fun n=>p n/\q n:=by
 obtain⟨a,ha⟩:=h;obtain⟨b,hb⟩:=k;exact⟨a+b,fun n hn=>⟨ha n (by omega),hb n (by omega)⟩⟩
theorem Ev.mono {p q:Nat->Prop} (h:Ev p) (k:∀ n,p n->q n):Ev q:=by
 obtain⟨a,ha⟩:=h;exact⟨a,fun n hn=>k n (ha n hn)⟩
theorem Ev.ge (m:Nat):Ev fun n=>m<=n:=⟨m,fun _ h=>h⟩
theorem Ev.all {p:Nat->Prop} (h:∀ n,p n):Ev p:=⟨0,fun n _=>h n⟩
theorem Ev.succ {p:Nat->Prop} (h:Ev fun n=>p (n+1)):Ev p:=by
 obtain⟨a,ha⟩:=h;refine⟨a+1,fun n hn=>?_⟩
 obtain⟨m,rfl⟩:∃ m,n=m+1:=⟨n - 1,by omega⟩
 exact ha m (by omega)
theorem Ev.list {α:Type}{p:α->Nat->Prop}:∀ {l:List α},(∀ x∈l,Ev (p x))->Ev fun n=>∀ x∈l,p x n
 | [],_=>.all fun n x h=>by cases h
 | y::l,h=>((h y List.mem_cons_self).and (Ev.list fun x hx=>h x (List.mem_cons_of_mem _ hx))).mono fun n ⟨h1,h2⟩ x hx=>by
  rcases List.mem_cons.1 hx with rfl | hx
  ·exact h1
  ·exact h2 x hx
theorem zBy {i:Nat} (h:i<9223372036854775807):IntKind.i64.wrap ((i:Int)+1)=((i+1:Nat):Int):=by
 rw[wrap64_in (by omega) (by omega)]; rfl
end Go.Abs
namespace Go.Proofs.Ytffhjiplcfncdaa
open Go.Abs
inductive Nd where
 | mk (kind:Int) (text:List UInt8) (cols:Int) (kids:List Nd)
abbrev zO8:=Int×List Int×Int×Int×List Nd×Int×List UInt8×List UInt8
abbrev zCu:=List Int×List Int
abbrev zRc:=List zO8×zCu×zCu
mutual
def Nd.enc:Nd->List S
 | .mk k t c ks=>[.int .i64 k,.str t,.int .i64 c,.sl 4 (Nd.encs ks)]
def Nd.encs:List Nd->List (List S)
 | []=>[]
 | v::vs=>v.enc::Nd.encs vs
end
mutual
def Nd.w:Nd->Nat
 | .mk _ t _ ks=>t.length+Nd.ws ks+1
def Nd.ws:List Nd->Nat
 | []=>0
 | v::vs=>v.w+Nd.ws vs+1
end
def zIg (n:Int):Prop:=-9223372036854775808<=n/\n<=9223372036854775807
mutual
def Nd.rng:Nd->Prop
 | .mk k _ c ks=>zIg k/\zIg c/\Nd.rngs ks
def Nd.rngs:List Nd->Prop
 | []=>True
 | v::vs=>v.rng/\Nd.rngs vs
end
theorem Nd.encs_eq:∀ (vs:List Nd),Nd.encs vs=vs.map Nd.enc
 | []=>rfl
 | v::vs=>by simp[Nd.encs,Nd.encs_eq vs]
theorem Nd.rngAll:∀ {vs:List Nd},(∀ v∈vs,v.rng)->Nd.rngs vs
 | [],_=>trivial
 | v::vs,h=>⟨h v List.mem_cons_self,Nd.rngAll fun u hu=>h u (List.mem_cons_of_mem _ hu)⟩
theorem Nd.rng_mem:∀ {vs:List Nd}{v:Nd},Nd.rngs vs->v∈vs->v.rng
 | u::vs,v,h,hm=>by
  rcases List.mem_cons.1 hm with rfl | hm
  ·exact h.1
  ·exact Nd.rng_mem h.2 hm
theorem Nd.w_mem:∀ {vs:List Nd}{v:Nd},v∈vs->v.w<Nd.ws vs
 | u::vs,v,hm=>by
  simp only[Nd.ws]
  rcases List.mem_cons.1 hm with rfl | hm
  ·omega
  ·have:=Nd.w_mem hm; omega
theorem Nd.ws_len:∀ (vs:List Nd),vs.length<=Nd.ws vs
 | []=>Nat.le_refl _
 | v::vs=>by have:=Nd.ws_len vs; simp only[Nd.ws,List.length_cons]; omega
theorem Nd.ws_append:∀ (a b:List Nd),Nd.ws (a++b)=Nd.ws a+Nd.ws b
 | [],b=>by simp[Nd.ws]
 | v::a,b=>by simp only[List.cons_append,Nd.ws,Nd.ws_append a b]; omega
mutual
theorem Nd.w_bulk:∀ (v:Nd),v.w+1<=zDH v.enc
 | .mk k t c vs=>by
  have:=Nd.ws_bulk vs
  simp only[Nd.w,Nd.enc,zDH,S.bulk]; omega
theorem Nd.ws_bulk:∀ (vs:List Nd),Nd.ws vs<=zEv (Nd.encs vs)
 | []=>Nat.zero_le _
 | v::vs=>by
  have h1:=Nd.w_bulk v
  have h2:=Nd.ws_bulk vs
  simp only[Nd.ws,Nd.encs,zEv]; omega
end
theorem zPK {T:Nat->Option TI}{e s ki st:Nat}{i j k1 k2:TI} (he:T e=some i) (hk:i.k = .struct [(0,ki),(1,st),(2,ki),(3,s)]) (hs:T s=some j) (hj:j.k = .slice e) (hz:szOf T e=4)
  (hi:T ki=some k1) (hki:k1.k = .int .i64) (ht:T st=some k2) (hkt:k2.k = .str) :
  ∀ (n:Nat) {ss:List S},Typed T n e ss->∃ t:Nd,ss=t.enc/\t.rng:=by
 intro n
 induction n using Nat.strongRecOn with
 | _ n ih =>
  intro ss h;obtain⟨m,rfl,a0,q0,rfl,u0,a1,q1,rfl,u1,a2,q2,rfl,u2,a3,q3,rfl,u3,rfl⟩:=zN3 (T:=T) he hk h;obtain⟨k,rfl,k1,k2⟩:=zN1 (T:=T) (k:=.i64) hi hki u0;obtain⟨t,rfl,_⟩:=zN2 (T:=T) ht hkt u1;obtain⟨c,rfl,c1,c2⟩:=zN1 (T:=T) (k:=.i64) hi hki u2;obtain⟨m',rows,rfl,rfl,_,hr⟩:=zOK (T:=T) hs hj u3;obtain⟨ks,rfl,hks⟩:=zPS (f:=Nd.enc) (q:=Nd.rng) (l:=rows) fun r hr'=>ih m' (by omega) (hr r hr')
  refine⟨.mk k t c ks,by simp only[Nd.enc,Nd.encs_eq,hz]; rfl,?_⟩
  have e1:IntKind.i64.min = -9223372036854775808/\IntKind.i64.max=9223372036854775807 :=(by decide);rw[e1.1]at k1 c1; rw[e1.2]at k2 c2
  exact⟨⟨k1,k2⟩,⟨c1,c2⟩,Nd.rngAll hks⟩
inductive CV where
 | mk (kind int:Int) (text:List UInt8) (list:List CV)
mutual
def CV.enc:CV->List S
 | .mk k n t vs=>[.int .i64 k,.int .i64 n,.str t,.sl 4 (CV.encs vs)]
def CV.encs:List CV->List (List S)
 | []=>[]
 | v::vs=>v.enc::CV.encs vs
end
mutual
def CV.w:CV->Nat
 | .mk _ _ t vs=>t.length+CV.ws vs+1
def CV.ws:List CV->Nat
 | []=>0
 | v::vs=>v.w+CV.ws vs+1
end
mutual
def CV.rng:CV->Prop
 | .mk k n t vs=>zIg k/\zIg n/\CV.rngs vs
def CV.rngs:List CV->Prop
 | []=>True
 | v::vs=>v.rng/\CV.rngs vs
end
theorem CV.encs_eq:∀ (vs:List CV),CV.encs vs=vs.map CV.enc
 | []=>rfl
 | v::vs=>by simp[CV.encs,CV.encs_eq vs]
theorem CV.rngAll:∀ {vs:List CV},(∀ v∈vs,v.rng)->CV.rngs vs
 | [],_=>trivial
 | v::vs,h=>⟨h v List.mem_cons_self,CV.rngAll fun u hu=>h u (List.mem_cons_of_mem _ hu)⟩
theorem CV.rng_mem:∀ {vs:List CV}{v:CV},CV.rngs vs->v∈vs->v.rng
 | u::vs,v,h,hm=>by
  rcases List.mem_cons.1 hm with rfl | hm
  ·exact h.1
  ·exact CV.rng_mem h.2 hm
theorem CV.w_mem:∀ {vs:List CV}{v:CV},v∈vs->v.w<CV.ws vs
 | u::vs,v,hm=>by
  simp only[CV.ws]
  rcases List.mem_cons.1 hm with rfl | hm
  ·omega
  ·have:=CV.w_mem hm; omega
theorem CV.ws_len:∀ (vs:List CV),vs.length<=CV.ws vs
 | []=>Nat.le_refl _
 | v::vs=>by have:=CV.ws_len vs; simp only[CV.ws,List.length_cons]; omega
theorem CV.ws_append:∀ (a b:List CV),CV.ws (a++b)=CV.ws a+CV.ws b
 | [],b=>by simp[CV.ws]
 | v::a,b=>by simp only[List.cons_append,CV.ws,CV.ws_append a b]; omega
mutual
theorem CV.w_bulk:∀ (v:CV),v.w+1<=zDH v.enc
 | .mk k n t vs=>by
  have:=CV.ws_bulk vs
  simp only[CV.w,CV.enc,zDH,S.bulk]; omega
theorem CV.ws_bulk:∀ (vs:List CV),CV.ws vs<=zEv (CV.encs vs)
 | []=>Nat.zero_le _
 | v::vs=>by
  have h1:=CV.w_bulk v
  have h2:=CV.ws_bulk vs
  simp only[CV.ws,CV.encs,zEv]; omega
end
def zCT (s p:List UInt8):Option Int:=req (p.length=1) <| some (Lib.indexByte s (p.headD 0))
def zDd (s p:List UInt8):Option Bool:=req (p.length=1) <| some (decide (0<=Lib.indexByte s (p.headD 0)))
def zB2 (s:List UInt8) (c:Int):Option Int:=some (Lib.indexByte s c.toNat.toUInt8)
def zB1 (n:Int):Option (List Nd):=req (0<=n/\n<=1073741824) (some [])
def zD6 (l:List Nd):Option (List Nd):=req (l.length<=4294967296) (some l)
def zEE (l:List Int):Option (List Int):=req (l.length<=4294967296) (some l)
def zBk:(List UInt8)->Option Bool
| s1=>some (s1 == [])
def zAS (s1:List UInt8):Nat->Int->Option (Fl Bool Unit)
| 0,_=>none
| k+1,i2=>bif decide (i2<(s1.length:Int)) then ((at? s1 i2).bind fun c3=>(bif decide ((zJL .or .u8 (c3.toNat:Int) 32)<97) then (some true) else (some (decide (122<(zJL .or .u8 (c3.toNat:Int) 32)))):Option (Bool)).bind fun x5=>bif x5 then (some (.ret false)) else (zAS s1 k (IntKind.i64.wrap (i2+1)))) else (some (.go ()))
def zB9 (n:Nat):(List UInt8)->Option Bool
| s1=>(zAS s1 n 0).bind fun fl=>match fl with
 | .ret r=>some r
 | .go _=>some true
def zCN:(List UInt8)->Option Bool
| s1=>((bif (s1 == [102,114,97,99]) then (some (s1 == [102,114,97,99])) else (bif (s1 == [114,111,111,116]) then (some (s1 == [114,111,111,116])) else (bif (s1 == [109,97,116,114,105,120]) then (some (s1 == [109,97,116,114,105,120])) else (some (s1 == [102,101,110,99,101])))):Option (Bool)).bind fun x2=>bif x2 then (some (.ret true)) else (some (.go ())):Option (Fl Bool Unit)).bind fun fl=>match fl with
 | .ret r=>some r
 | .go _=>some false
def zCv:(List UInt8)->Option Bool
| s1=>((bif (s1 == [104,97,116]) then (some (s1 == [104,97,116])) else (bif (s1 == [98,97,114]) then (some (s1 == [98,97,114])) else (bif (s1 == [118,101,99]) then (some (s1 == [118,101,99])) else (bif (s1 == [100,111,116]) then (some (s1 == [100,111,116])) else (bif (s1 == [116,105,108,100,101]) then (some (s1 == [116,105,108,100,101])) else (some (s1 == [99,104,101,99,107])))))):Option (Bool)).bind fun x2=>bif x2 then (some (.ret true)) else (some (.go ())):Option (Fl Bool Unit)).bind fun fl=>match fl with
 | .ret r=>some r
 | .go _=>some false
def zDa (n:Nat):(List UInt8)->Option Bool
| s1=>bif ((s1.length:Int) == 1) then (((zB9 n s1).bind fun y3=>bif y3 then (some true) else ((zDd [43,45,42,47,61,60,62,44,59,58,33,124,39,63,126,64] s1).bind fun y4=>some y4):Option (Bool)).bind fun x2=>some x2) else ((bif decide (2<=(s1.length:Int)) then (bif decide ((s1.length:Int)<=16) then ((zB9 n s1).bind fun y6=>bif y6 then ((zCN s1).bind fun y7=>bif (!y7) then ((zCv s1).bind fun y8=>some (!y8)) else (some false)) else (some false)) else (some false)) else (some false):Option (Bool)).bind fun x5=>some x5)
def zBP:(List UInt8)->(List UInt8)->Option ((List UInt8)×(List UInt8)×Bool)
| s1,sep2=>(zCT s1 sep2).bind fun y3=>bif decide (0<=y3) then (req (0<=(0:Int)/\(0:Int)<=y3/\y3<=(s1.length:Int)) <| req (0<=(IntKind.i64.wrap (y3+(sep2.length:Int)))/\(IntKind.i64.wrap (y3+(sep2.length:Int)))<=(s1.length:Int)/\(s1.length:Int)<=(s1.length:Int)) <| some ((s1.take y3.toNat).drop (0:Int).toNat,(s1.take (s1.length:Int).toNat).drop (IntKind.i64.wrap (y3+(sep2.length:Int))).toNat,true)) else (some (s1,[],false))
def zDe:(List UInt8)->(List UInt8)->Option ((List UInt8)×(List UInt8)×Bool)
| s1,sep2=>(zBP s1 sep2).bind fun⟨y3,y4,y5⟩=>some (y3,y4,y5)
def zA2 (s1:List UInt8):Nat->Int->Option (Fl Bool Unit)
| 0,_=>none
| k+1,i2=>bif decide (i2<(s1.length:Int)) then (((at? s1 i2).bind fun c4=>bif decide ((c4.toNat:Int)<48) then (some true) else ((at? s1 i2).bind fun c6=>some (decide (57<(c6.toNat:Int)))):Option (Bool)).bind fun x3=>bif x3 then (some (.ret false)) else (zA2 s1 k (IntKind.i64.wrap (i2+1)))) else (some (.go ()))
def zCw (n:Nat):(List UInt8)->Option Bool
| s1=>(zA2 s1 n 0).bind fun fl=>match fl with
 | .ret r=>some r
 | .go _=>some (!(s1 == []))
def zCr (n:Nat):(List UInt8)->Option Bool
| s1=>(zDe s1 [46]).bind fun⟨y2,y3,y4⟩=>(bif decide ((s1.length:Int)<=20) then ((zCw n y2).bind fun y6=>bif y6 then (bif (!y4) then (some true) else ((zCw n y3).bind fun y7=>some y7)) else (some false)) else (some false):Option (Bool)).bind fun x5=>some x5
def zA8 (s1:List UInt8):Nat->Int->Option (Fl Bool Unit)
| 0,_=>none
| k+1,i2=>bif decide (i2<(s1.length:Int)) then (((at? s1 i2).bind fun c4=>bif decide ((c4.toNat:Int)<32) then (some true) else ((at? s1 i2).bind fun c6=>some (decide (126<(c6.toNat:Int)))):Option (Bool)).bind fun x3=>bif x3 then (some (.ret false)) else (zA8 s1 k (IntKind.i64.wrap (i2+1)))) else (some (.go ()))
def zDM (n:Nat):(List UInt8)->Option Bool
| s1=>(zA8 s1 n 0).bind fun fl=>match fl with
 | .ret r=>some r
 | .go _=>some (decide ((s1.length:Int)<=200))
def zDL:(List UInt8)->Option Bool
| s1=>(bif ((s1.length:Int) == 2) then ((at? s1 0).bind fun c3=>(zB2 [40,41,91,93,123,125,60,62,47,124,46] (c3.toNat:Int)).bind fun y5=>bif decide (0<=y5) then ((at? s1 1).bind fun c6=>(zB2 [40,41,91,93,123,125,60,62,47,124,46] (c6.toNat:Int)).bind fun y8=>some (decide (0<=y8))) else (some false)) else (some false):Option (Bool)).bind fun x2=>some x2
def zEZ:Option Unit
:= some ()
def zBE (n:Nat):(Unit×Int)->Nd->Option (Bool×(Unit×Int))
| ⟨_,o1G⟩,⟨a2A,a2C,a2D,a2B⟩=>(bif decide (a2A<1) then (some true) else (bif decide (12<a2A) then (some true) else (bif (a2A == 1) then ((zBk a2C).bind fun y4=>some (!y4)) else (bif (a2A == 2) then ((zDa n a2C).bind fun y5=>some (!y5)) else (bif (a2A == 3) then ((zCr n a2C).bind fun y6=>some (!y6)) else (bif (a2A == 4) then ((zDM n a2C).bind fun y7=>some (!y7)) else (bif (a2A == 5) then ((zBk a2C).bind fun y8=>some (!y8)) else (bif (a2A == 6) then ((zBk a2C).bind fun y9=>some (!y9)) else (bif (a2A == 7) then ((zBk a2C).bind fun y10=>some (!y10)) else (bif (a2A == 8) then ((zBk a2C).bind fun y11=>some (!y11)) else (bif (a2A == 9) then ((zBk a2C).bind fun y12=>some (!y12)) else (
             bif (a2A == 10) then ((zCv a2C).bind fun y13=>some (!y13)) else (bif (a2A == 11) then ((zDL a2C).bind fun y14=>some (!y14)) else (bif (a2A == 12) then ((zBk a2C).bind fun y15=>some (!y15)) else (none)))))))))))))):Option (Bool)).bind fun x3=>bif x3 then (some (false,((),o1G))) else (bif (a2A == 1) then ((bif (a2D == 0) then (some (decide ((a2B.length:Int)<=200))) else (some false):Option (Bool)).bind fun x16=>some (x16,((),o1G))) else (bif (a2A == 12) then ((bif decide (1<=a2D) then (bif decide (a2D<=16) then (bif decide (1<=(a2B.length:Int)) then (bif decide ((a2B.length:Int)<=256) then (req (a2D ≠ 0) <| some (((a2B.length:Int).tmod a2D) == 0)) else (some false)) else (some false)) else (some false)) else (some false)
     : Option (Bool)).bind fun x18=>some (x18,((),o1G))) else ((bif (a2D == 0) then (bif (a2A == 1) then (some ((a2B.length:Int) == 0)) else (bif (a2A == 2) then (some ((a2B.length:Int) == 0)) else (bif (a2A == 3) then (some ((a2B.length:Int) == 0)) else (bif (a2A == 4) then (some ((a2B.length:Int) == 0)) else (bif (a2A == 5) then (some ((a2B.length:Int) == 2)) else (bif (a2A == 6) then (some ((a2B.length:Int) == 2)) else (bif (a2A == 7) then (some ((a2B.length:Int) == 2)) else (bif (a2A == 8) then (some ((a2B.length:Int) == 2)) else (bif (a2A == 9) then (some ((a2B.length:Int) == 3)) else (bif (a2A == 10) then (some ((a2B.length:Int) == 1)) else (bif (a2A == 11) then (some ((a2B.length:Int) == 1)) else (bif (a2A == 12) then (some ((a2B.length:Int) == 0)
                 ) else (none))))))))))))) else (some false):Option (Bool)).bind fun x22=>some (x22,((),o1G)))))
def zAB (F_node_checker_node:(Unit×Int)->Nd->Int->Option (Bool×(Unit×Int))) (a2A:Int) (a2B:List Nd) (a3:Int):Nat->Int->Int->Option (Fl (Bool×(Unit×Int)) (Int))
| 0,_,_=>none
| k+1,x9,x10=>bif decide (x10<(a2B.length:Int)) then (((at? a2B x10).bind fun⟨e14A,e14C,e14D,e14B⟩=>bif ((a2A == 1) == (e14A == 1)) then (some (true,x9)) else ((at? a2B x10).bind fun⟨e16A,e16C,e16D,e16B⟩=>(F_node_checker_node ((),x9) (Nd.mk e16A e16C e16D e16B) (IntKind.i64.wrap (a3+1))).bind fun⟨y18,⟨_,w19G⟩⟩=>some ((!y18),w19G)):Option (Bool×Int)).bind fun⟨x12,x13⟩=>bif x12 then (some (.ret (false,((),x13)))) else (zAB F_node_checker_node a2A a2B a3 k x13 (IntKind.i64.wrap (x10+1)))) else (some (.go x9))
def zAF:Nat->(Unit×Int)->Nd->Int->Option (Bool×(Unit×Int))
| 0,_,_,_=>none
| n+1,⟨_,o1G⟩,⟨a2A,a2C,a2D,a2B⟩,a3=>(bif decide (1000<(IntKind.i64.wrap (o1G+1))) then (some (true,IntKind.i64.wrap (o1G+1))) else (bif decide (24<a3) then (some (true,IntKind.i64.wrap (o1G+1))) else ((zBE n ((),IntKind.i64.wrap (o1G+1)) (Nd.mk a2A a2C a2D a2B)).bind fun⟨y6,⟨_,w7G⟩⟩=>some ((!y6),w7G))):Option (Bool×Int)).bind fun⟨x4,x5⟩=>bif x4 then (some (false,((),x5))) else ((zAB (zAF n) a2A a2B a3 n x5 0).bind fun fl=>match fl with
  | .ret r=>some r
  | .go x11=>some (true,((),x11)))
def zAv (n:Nat):Nd->Option Bool
| ⟨n1A,n1C,n1D,n1B⟩=>(zEZ ).bind fun _=>(bif (n1A == 1) then ((zAF n ((),0) (Nd.mk n1A n1C n1D n1B) 1).bind fun⟨y4,⟨_,w5G⟩⟩=>some y4) else (some false):Option (Bool)).bind fun x3=>some x3
def zCY:Int->Option Bool
| c1=>(bif decide (97<=c1) then (bif decide (c1<=122) then (some true) else (bif decide (65<=c1) then (some (decide (c1<=90))) else (some false))) else (bif decide (65<=c1) then (some (decide (c1<=90))) else (some false)):Option (Bool)).bind fun x2=>some x2
def zBR (s1:List UInt8) (c2:Int):Nat->Int->Option (Fl Bool Unit)
| 0,_=>none
| k+1,i3=>bif decide (i3<(s1.length:Int)) then ((at? s1 i3).bind fun c4=>bif ((c4.toNat:Int) == c2) then (some (.ret true)) else (zBR s1 c2 k (IntKind.i64.wrap (i3+1)))) else (some (.go ()))
def zCn (n:Nat):(List UInt8)->Int->Option Bool
| s1,c2=>(zBR s1 c2 n 0).bind fun fl=>match fl with
 | .ret r=>some r
 | .go _=>some false
def zDb (n:Nat):Int->Option Bool
| c1=>((zCY c1).bind fun y3=>bif y3 then (some true) else ((zCn n [43,45,42,47,61,60,62,44,59,58,33,124,39,63,126,64] c1).bind fun y4=>some y4):Option (Bool)).bind fun x2=>some x2
def zDB:Option (List (List UInt8))
:= some [[102,114,97,99],[114,111,111,116],[109,97,116,114,105,120],[102,101,110,99,101]]
def zCl (l1:List (List UInt8)) (s2:List UInt8):Nat->Int->Option (Fl Bool Unit)
| 0,_=>none
| k+1,i3=>bif decide (i3<(l1.length:Int)) then ((at? l1 i3).bind fun e5=>bif (e5 == s2) then (some (.ret true)) else (zCl l1 s2 k (IntKind.i64.wrap (i3+1)))) else (some (.go ()))
def zDA (n:Nat):(List (List UInt8))->(List UInt8)->Option Bool
| l1,s2=>(zCl l1 s2 n 0).bind fun fl=>match fl with
 | .ret r=>some r
 | .go _=>some false
def zCx:Option (List (List UInt8))
:= some [[104,97,116],[98,97,114],[118,101,99],[100,111,116],[116,105,108,100,101],[99,104,101,99,107]]
def zA1 (s1:List UInt8):Nat->Int->Option (Fl Bool Unit)
| 0,_=>none
| k+1,i5=>bif decide (i5<(s1.length:Int)) then ((at? s1 i5).bind fun c6=>(zCY (c6.toNat:Int)).bind fun y8=>bif (!y8) then (some (.ret false)) else (zA1 s1 k (IntKind.i64.wrap (i5+1)))) else (some (.go ()))
def zDP (n:Nat):(List UInt8)->Option Bool
| s1=>bif ((s1.length:Int) == 1) then ((at? s1 0).bind fun c2=>(zDb n (c2.toNat:Int)).bind fun y4=>some y4) else ((zA1 s1 n 0).bind fun fl=>match fl with
  | .ret r=>some r
  | .go _=>(bif decide (2<=(s1.length:Int)) then (bif decide ((s1.length:Int)<=16) then ((zDB ).bind fun y10=>(zDA n y10 s1).bind fun y11=>bif (!y11) then ((zCx ).bind fun y12=>(zDA n y12 s1).bind fun y13=>some (!y13)) else (some false)) else (some false)) else (some false):Option (Bool)).bind fun x9=>some x9)
def zEC:Int->Option Bool
| c1=>(bif decide (48<=c1) then (some (decide (c1<=57))) else (some false):Option (Bool)).bind fun x2=>some x2
def zBs (s1:List UInt8):Nat->Int->Int->Option (Fl Bool (Int))
| 0,_,_=>none
| k+1,points2,i3=>bif decide (i3<(s1.length:Int)) then ((((at? s1 i3).bind fun c7=>bif ((c7.toNat:Int) == 46) then (bif decide (0<i3) then (some (decide (i3<(IntKind.i64.wrap ((s1.length:Int) - 1))))) else (some false)) else (some false):Option (Bool)).bind fun x6=>bif x6 then (some (.go (IntKind.i64.wrap (points2+1)))) else ((at? s1 i3).bind fun c9=>(zEC (c9.toNat:Int)).bind fun y11=>bif (!y11) then (some (.ret false)) else (some (.go points2))):Option (Fl Bool (Int))).bind fun fl=>match fl with
  | .ret r=>some (.ret r)
  | .go points5=>zBs s1 k points5 (IntKind.i64.wrap (i3+1))) else (some (.go points2))
def zDN (n:Nat):(List UInt8)->Option Bool
| s1=>(zBs s1 n 0 0).bind fun fl=>match fl with
 | .ret r=>some r
 | .go points4=>(bif decide (0<(s1.length:Int)) then (bif decide ((s1.length:Int)<=20) then (some (decide (points4<=1))) else (some false)) else (some false):Option (Bool)).bind fun x12=>some x12
def zAN (s1:List UInt8):Nat->Int->Option (Fl Bool Unit)
| 0,_=>none
| k+1,i2=>bif decide (i2<(s1.length:Int)) then (((at? s1 i2).bind fun c4=>bif decide ((c4.toNat:Int)<32) then (some true) else ((at? s1 i2).bind fun c6=>some (decide (126<(c6.toNat:Int)))):Option (Bool)).bind fun x3=>bif x3 then (some (.ret false)) else (zAN s1 k (IntKind.i64.wrap (i2+1)))) else (some (.go ()))
def zCm (n:Nat):(List UInt8)->Option Bool
| s1=>(zAN s1 n 0).bind fun fl=>match fl with
 | .ret r=>some r
 | .go _=>some true
def zFp (n:Nat):Nd->Option Bool
| ⟨n1A,n1C,n1D,n1B⟩=>bif (n1A == 2) then ((zDP n n1C).bind fun y2=>some y2) else (bif (n1A == 3) then ((zDN n n1C).bind fun y3=>some y3) else (bif (n1A == 4) then ((bif decide ((n1C.length:Int)<=200) then ((zCm n n1C).bind fun y5=>some y5) else (some false):Option (Bool)).bind fun x4=>some x4) else (bif (n1A == 10) then ((zCx ).bind fun y6=>(zDA n y6 n1C).bind fun y7=>some y7) else (bif (n1A == 11) then ((bif ((n1C.length:Int) == 2) then ((at? n1C 0).bind fun c9=>(zCn n [40,41,91,93,123,125,124,60,62,47,46] (c9.toNat:Int)).bind fun y11=>bif y11 then ((at? n1C 1).bind fun c12=>(zCn n [40,41,91,93,123,125,124,60,62,47,46] (c12.toNat:Int)).bind fun y14=>some y14) else (some false)) else (some false)
       : Option (Bool)).bind fun x8=>some x8) else (some (n1C == []))))))
def zFo:Nd->Option Bool
| ⟨n1A,n1C,n1D,n1B⟩=>bif (n1A == 12) then ((bif decide (1<=n1D) then (bif decide (n1D<=16) then (bif decide (1<=(n1B.length:Int)) then (bif decide ((n1B.length:Int)<=256) then (req (n1D ≠ 0) <| some (((n1B.length:Int).tmod n1D) == 0)) else (some false)) else (some false)) else (some false)) else (some false):Option (Bool)).bind fun x3=>some x3) else (bif (n1D != 0) then (some false) else ((bif (n1A == 1) then (some (.ret (decide ((n1B.length:Int)<=200)))) else ((bif (n1A == 2) then (some (n1A == 2)) else (bif (n1A == 3) then (some (n1A == 3)) else (some (n1A == 4))):Option (Bool)).bind fun x4=>bif x4 then (some (.ret ((n1B.length:Int) == 0))) else ((bif (n1A == 5) then (some (n1A == 5)) else (bif (n1A == 6) then (some (n1A == 6)) else (bif (n1A == 7) then (
          some (n1A == 7)) else (some (n1A == 8)))):Option (Bool)).bind fun x5=>bif x5 then (some (.ret ((n1B.length:Int) == 2))) else (bif (n1A == 9) then (some (.ret ((n1B.length:Int) == 3))) else ((bif (n1A == 10) then (some (n1A == 10)) else (some (n1A == 11)):Option (Bool)).bind fun x6=>bif x6 then (some (.ret ((n1B.length:Int) == 1))) else (some (.go ())))))):Option (Fl Bool Unit)).bind fun fl=>match fl with
   | .ret r=>some r
   | .go _=>some false))
def zB0 (F_r09_form:Nd->Option Bool) (n1A:Int) (n1B:List Nd):Nat->Int->Option (Fl Bool Unit)
| 0,_=>none
| k+1,i5=>bif decide (i5<(n1B.length:Int)) then (((at? n1B i5).bind fun⟨e8A,e8C,e8D,e8B⟩=>bif ((e8A == 1) == (n1A == 1)) then (some true) else ((at? n1B i5).bind fun⟨e10A,e10C,e10D,e10B⟩=>(F_r09_form (Nd.mk e10A e10C e10D e10B)).bind fun y12=>some (!y12)):Option (Bool)).bind fun x7=>bif x7 then (some (.ret false)) else (zB0 F_r09_form n1A n1B k (IntKind.i64.wrap (i5+1)))) else (some (.go ()))
def zCz:Nat->Nd->Option Bool
| 0,_=>none
| n+1,⟨n1A,n1C,n1D,n1B⟩=>((zFp n (Nd.mk n1A n1C n1D n1B)).bind fun y3=>bif (!y3) then (some true) else ((zFo (Nd.mk n1A n1C n1D n1B)).bind fun y4=>some (!y4)):Option (Bool)).bind fun x2=>bif x2 then (some false) else ((zB0 (zCz n) n1A n1B n 0).bind fun fl=>match fl with
  | .ret r=>some r
  | .go _=>some true)
def zBJ (F_r09_Count:Nd->Option Int) (n1B:List Nd):Nat->Int->Int->Option (Int)
| 0,_,_=>none
| k+1,out2,i3=>bif decide (i3<(n1B.length:Int)) then ((at? n1B i3).bind fun⟨e6A,e6C,e6D,e6B⟩=>(F_r09_Count (Nd.mk e6A e6C e6D e6B)).bind fun y8=>zBJ F_r09_Count n1B k (IntKind.i64.wrap (out2+y8)) (IntKind.i64.wrap (i3+1))) else (some out2)
def zBX:Nat->Nd->Option Int
| 0,_=>none
| n+1,⟨n1A,n1C,n1D,n1B⟩=>(zBJ (zBX n) n1B n 1 0).bind fun out4=>some out4
def zBK (F_r09_Depth:Nd->Option Int) (n1B:List Nd):Nat->Int->Int->Option (Int)
| 0,_,_=>none
| k+1,out2,i3=>bif decide (i3<(n1B.length:Int)) then ((at? n1B i3).bind fun⟨e6A,e6C,e6D,e6B⟩=>(F_r09_Depth (Nd.mk e6A e6C e6D e6B)).bind fun y8=>zBK F_r09_Depth n1B k (if out2<y8 then y8 else out2) (IntKind.i64.wrap (i3+1))) else (some out2)
def zBY:Nat->Nd->Option Int
| 0,_=>none
| n+1,⟨n1A,n1C,n1D,n1B⟩=>(zBK (zBY n) n1B n 0 0).bind fun out4=>some (IntKind.i64.wrap (out4+1))
def zED (n:Nat):Nd->Option Bool
| ⟨n1A,n1C,n1D,n1B⟩=>(bif (n1A == 1) then ((zCz n (Nd.mk n1A n1C n1D n1B)).bind fun y3=>bif y3 then ((zBX n (Nd.mk n1A n1C n1D n1B)).bind fun y4=>bif decide (y4<=1000) then ((zBY n (Nd.mk n1A n1C n1D n1B)).bind fun y5=>some (decide (y5<=24))) else (some false)) else (some false)) else (some false):Option (Bool)).bind fun x2=>some x2
def zA0 (F_r09_Equal:Nd->Nd->Option Bool) (a1:List Nd) (b2:List Nd):Nat->Int->Option (Fl Bool Unit)
| 0,_=>none
| k+1,i5=>bif decide (i5<(a1.length:Int)) then ((at? a1 i5).bind fun⟨e7A,e7C,e7D,e7B⟩=>(at? b2 i5).bind fun⟨e9A,e9C,e9D,e9B⟩=>(F_r09_Equal (Nd.mk e7A e7C e7D e7B) (Nd.mk e9A e9C e9D e9B)).bind fun y11=>bif (!y11) then (some (.ret false)) else (zA0 F_r09_Equal a1 b2 k (IntKind.i64.wrap (i5+1)))) else (some (.go ()))
mutual
def zBr:Nat->Nd->Nd->Option Bool
| 0,_,_=>none
| n+1,⟨a1A,a1C,a1D,a1B⟩,⟨b2A,b2C,b2D,b2B⟩ =>
 (
  bif (a1A == b2A) then (
   bif (a1C == b2C) then (
    bif (a1D == b2D) then (
     (zBO n a1B b2B).bind fun y4 =>
     some y4
    ) else (
     some false
    )
   ) else (
    some false
   )
  ) else (
   some false
  )
  : Option (Bool)).bind fun x3 =>
 some x3
def zBO:Nat->(List Nd)->(List Nd)->Option Bool
| 0,_,_=>none
| n+1,a1,b2 =>
 bif ((a1.length:Int) != (b2.length:Int)) then (
  some false
 ) else (
  (zA0 (zBr n) a1 b2 n 0).bind fun fl=>match fl with
  | .ret r=>some r
  | .go _ =>
   some true
 )
end
def zBF (F_r09_left:Nd->Int->Option Int) (n1B:List Nd):Nat->Int->Int->Option (Int)
| 0,_,_=>none
| k+1,most3,i4=>(bif decide (i4<(n1B.length:Int)) then (some (decide (0<=most3))) else (some false):Option (Bool)).bind fun x6=>bif x6 then ((at? n1B i4).bind fun⟨e8A,e8C,e8D,e8B⟩=>(F_r09_left (Nd.mk e8A e8C e8D e8B) most3).bind fun y10=>zBF F_r09_left n1B k y10 (IntKind.i64.wrap (i4+1))) else (some most3)
def zCA:Nat->Nd->Int->Option Int
| 0,_,_=>none
| n+1,⟨n1A,n1C,n1D,n1B⟩,most2=>(zBF (zCA n) n1B n (IntKind.i64.wrap (most2 - 1)) 0).bind fun most5=>some most5
def zGb (n:Nat):Nd->Int->Option Bool
| ⟨n1A,n1C,n1D,n1B⟩,most2=>(zCA n (Nd.mk n1A n1C n1D n1B) most2).bind fun y3=>some (decide (0<=y3))
def zA9  : Nat->Int->(List UInt8)->Option (Int×(List UInt8))
| 0,_,_=>none
| k+1,n5,s6=>bif decide (10<=n5) then (req ([b8of (IntKind.u8.wrap (IntKind.i64.wrap (48+(n5.tmod 10))))].length+s6.length<=1099511627776) <| zA9 k (IntKind.i64.wrap (n5.tdiv 10)) ([b8of (IntKind.u8.wrap (IntKind.i64.wrap (48+(n5.tmod 10))))]++s6)) else (some (n5,s6))
def zDc:Nat->Int->Option (List UInt8)
| 0,_=>none
| n+1,n1=>bif decide (n1<0) then (bif ((IntKind.i64.wrap (n1.tdiv 10)) != 0) then ((zDc n (IntKind.i64.wrap (0 - (IntKind.i64.wrap (n1.tdiv 10))))).bind fun y4=>req ([45].length+y4.length<=1099511627776) <| req (([45]++y4).length + [b8of (IntKind.u8.wrap (IntKind.i64.wrap (48 - (n1.tmod 10))))].length<=1099511627776) <| some (([45]++y4)++[b8of (IntKind.u8.wrap (IntKind.i64.wrap (48 - (n1.tmod 10))))])) else (req ([45].length + [b8of (IntKind.u8.wrap (IntKind.i64.wrap (48 - (n1.tmod 10))))].length<=1099511627776) <| some ([45]++[b8of (IntKind.u8.wrap (IntKind.i64.wrap (48 - (n1.tmod 10))))]))) else ((zA9  n n1 []).bind fun⟨n7,s8⟩=>req ([b8of (IntKind.u8.wrap (IntKind.i64.wrap (48+n7)))].length+s8.length<=1099511627776) <| some ([b8of (IntKind.u8.wrap (IntKind.i64.wrap (48+n7)))]++s8))
def zBa (s1:List UInt8):Nat->Int->(List UInt8)->Option ((List UInt8))
| 0,_,_=>none
| k+1,i3,l4=>bif decide (i3<(s1.length:Int)) then ((((at? s1 i3).bind fun c8=>bif ((c8.toNat:Int) == 34) then (some true) else ((at? s1 i3).bind fun c10=>some ((c10.toNat:Int) == 92)):Option (Bool)).bind fun x7=>(bif x7 then (req (l4.length + [b8of 92].length<=4294967296) <| some (l4++[b8of 92])) else (some l4):Option ((List UInt8))).bind fun l12=>(at? s1 i3).bind fun c14=>req (l12.length + [c14].length<=4294967296) <| some (l12++[c14]):Option ((List UInt8))).bind fun l6=>zBa s1 k (IntKind.i64.wrap (i3+1)) l6) else (some l4)
def zDO (n:Nat):(List UInt8)->Option (List UInt8)
| s1=>(zBa s1 n 0 [b8of 34]).bind fun l5=>req (l5.length + [b8of 34].length<=4294967296) <| some (l5++[b8of 34])
def zBZ (F_r09_Dump:Nd->Option (List UInt8)) (a1B:List Nd):Nat->(List UInt8)->Int->Option ((List UInt8))
| 0,_,_=>none
| k+1,x10,x11=>bif decide (x11<(a1B.length:Int)) then (((bif decide (0<x11) then (req (x10.length + [32].length<=1099511627776) <| some (x10++[32])) else (some x10):Option ((List UInt8))).bind fun x15=>(at? a1B x11).bind fun⟨e16A,e16C,e16D,e16B⟩=>(F_r09_Dump (Nd.mk e16A e16C e16D e16B)).bind fun y18=>req (x15.length+y18.length<=1099511627776) <| some (x15++y18):Option ((List UInt8))).bind fun x14=>zBZ F_r09_Dump a1B k x14 (IntKind.i64.wrap (x11+1))) else (some x10)
def zCy:Nat->Nd->Option (List UInt8)
| 0,_=>none
| n+1,⟨a1A,a1C,a1D,a1B⟩=>(zDc n a1A).bind fun y2=>req ([110,111,100,101].length+y2.length<=1099511627776) <| (bif decide (1<=a1A) then (some (decide (a1A<=12))) else (some false):Option (Bool)).bind fun x3=>(bif x3 then (bif (a1A == 1) then (some [114,111,119]) else (bif (a1A == 2) then (some [115,121,109]) else (bif (a1A == 3) then (some [110,117,109]) else (bif (a1A == 4) then (some [116,101,120,116]) else (bif (a1A == 5) then (some [102,114,97,99]) else (bif (a1A == 6) then (some [114,111,111,116]) else (bif (a1A == 7) then (some [115,117,98]) else (bif (a1A == 8) then (some [115,117,112]) else (bif (a1A == 9) then (some [98,111,116,104]) else (bif (a1A == 10) then (some [97,99,99,101,110,116]) else (bif (a1A == 11) then (some [102,101,110,99,101]) else (
              bif (a1A == 12) then (some [109,97,116,114,105,120]) else (none))))))))))))) else (some ([110,111,100,101]++y2)):Option ((List UInt8))).bind fun x4=>(bif (!(a1C == [])) then (req (x4.length + [58].length<=1099511627776) <| (zDO n a1C).bind fun y6=>req ((x4++[58]).length+y6.length<=1099511627776) <| some ((x4++[58])++y6)) else (some x4):Option ((List UInt8))).bind fun x5=>(bif (a1D != 0) then (req (x5.length + [42].length<=1099511627776) <| (zDc n a1D).bind fun y8=>req ((x5++[42]).length+y8.length<=1099511627776) <| some ((x5++[42])++y8)) else (some x5):Option ((List UInt8))).bind fun x7=>bif ((a1B.length:Int) == 0) then (some x7) else (req (x7.length + [40].length<=1099511627776) <| (zBZ (zCy n) a1B n (x7++[40]) 0).bind fun x12 =>
  req (x12.length + [41].length<=1099511627776) <| some (x12++[41]))
def zDK:Nd->Option Int
| ⟨n1A,n1C,n1D,n1B⟩=>bif (n1A == 1) then (some 0) else (some (n1B.length:Int))
def zCt (n:Nat):(List Nd)->Option Bool
| l1=>(zAv n (Nd.mk 1 [] 0 l1)).bind fun y2=>some y2
def zAJ (F_node_Equal:Nd->Nd->Option Bool) (s11:List Nd) (s22:List Nd):Nat->Int->Option (Fl Bool Unit)
| 0,_=>none
| k+1,x6=>bif decide (x6<(s11.length:Int)) then ((at? s11 x6).bind fun⟨e7A,e7C,e7D,e7B⟩=>(at? s22 x6).bind fun⟨e9A,e9C,e9D,e9B⟩=>(F_node_Equal (Nd.mk e7A e7C e7D e7B) (Nd.mk e9A e9C e9D e9B)).bind fun y11=>bif (!y11) then (some (.ret false)) else (zAJ F_node_Equal s11 s22 k (IntKind.i64.wrap (x6+1)))) else (some (.go ()))
mutual
def zCk:Nat->Nd->Nd->Option Bool
| 0,_,_=>none
| n+1,⟨a1A,a1C,a1D,a1B⟩,⟨b2A,b2C,b2D,b2B⟩ =>
 (
  bif (a1A == b2A) then (
   bif (a1C == b2C) then (
    bif (a1D == b2D) then (
     (zAW n a1B b2B).bind fun y4 =>
     some y4
    ) else (
     some false
    )
   ) else (
    some false
   )
  ) else (
   some false
  )
  : Option (Bool)).bind fun x3 =>
 some x3
def zAW:Nat->(List Nd)->(List Nd)->Option Bool
| 0,_,_=>none
| n+1,s11,s22 =>
 bif ((s11.length:Int) != (s22.length:Int)) then (
  some false
 ) else (
  (zAJ (zCk n) s11 s22 n 0).bind fun fl=>match fl with
  | .ret r=>some r
  | .go _ =>
   some true
 )
end
mutual
def Nd.cnt:Nd->Nat
 | .mk _ _ _ ks=>Nd.cnts ks+1
def Nd.cnts:List Nd->Nat
 | []=>0
 | v::vs=>v.cnt+Nd.cnts vs
end
theorem Nd.cnt_pos:∀ v:Nd,1<=v.cnt
 | .mk _ _ _ ks=>by simp only[Nd.cnt]; omega
theorem Nd.cnts_len:∀ a:List Nd,a.length<=Nd.cnts a
 | []=>Nat.le_refl _
 | v::a=>by have:=Nd.cnts_len a; have:=v.cnt_pos; simp only[Nd.cnts,List.length_cons]; omega
theorem Nd.cnts_mem:∀ {a:List Nd}{v:Nd},v∈a->v.cnt<=Nd.cnts a
 | u::a,v,h=>by
  simp only[Nd.cnts]
  rcases List.mem_cons.1 h with rfl | h
  ·omega
  ·have:=Nd.cnts_mem h; omega
theorem Nd.cnts_drop {a:List Nd}{i:Nat} (h:i<a.length):Nd.cnts (a.drop i)=(a[i]).cnt+Nd.cnts (a.drop (i+1)):=by
 rw[List.drop_eq_getElem_cons h]; rfl
def zAE (n:Nd):Option Nd:=req (n.cnt<=1000000000) (some n)
def Nd.kids:Nd->List Nd
 | .mk _ _ _ ks=>ks
theorem zQ4 (n:Nd):n.kids ≠ []↔n.kids.isEmpty=false:=by cases n.kids <;> simp
instance (n:Nd):Decidable (n.kids ≠ []):=decidable_of_iff _ (zQ4 n).symm
def zBN (n:Nd):Option Nd:=req (n.cnt<=1000000000/\n.kids ≠ []) (some n)
def zBc:Nd->List Int->Option Nd
 | n,[]=>some n
 | _,[_]=>none
 | n,i::s::path=>if 0<=i/\i<n.kids.length then
   let item:=n.kids.getD i.toNat n
   if 0<=s/\s<item.kids.length then zBc (item.kids.getD s.toNat n) path else none
  else none
def zDg:Nd:=.mk 0 [] 0 []
def putL:Nd->List Int->Nd->Nd
 | .mk k t c ks,i::s::path,r=>.mk k t c (ks.set i.toNat (match ks[i.toNat]? with
  | some (.mk k2 t2 c2 ks2)=>.mk k2 t2 c2 (ks2.set s.toNat (match ks2[s.toNat]? with
   | some z=>putL z path r
   | none=>r))
  | none=>r))
 | _,_,r=>r
def zCs (f:Nat) (n:Nd) (path:List Int):Option (Nd×Int) :=
 (zAv f n).bind fun b=>if b=true then (match zBc n path with
  | some r=>(zAE r).bind fun r=>some (r,0)
  | none=>some (zDg,8)) else some (zDg,1)
def zBW (f:Nat) (n:Nd) (path:List Int) (row:Nd):Option (Nd×Int) :=
 (zAv f n).bind fun b=>if b=true then (zAE n).bind fun n=>(match zBc n path with
  | some _=>(zAv f row).bind fun b=>if b=true then (zAE row).bind fun row=>(zAv f (putL n path row)).bind fun b=>if b=true then some (putL n path row,0) else some (zDg,6) else some (zDg,4)
  | none=>some (zDg,8)) else some (zDg,1)
end Go.Proofs.Ytffhjiplcfncdaa
namespace Go.Abs
section
variable {T:Nat->Option TI} {Γ:Nat->Option zAp} {M nm L:List Nat} {N k:Nat} {n:Nat->Bool} {all os:List Oper} {o:Oper} {σ σ':St} {K:St->Prop} {φ:Option Prop} {x:AV} {d:Nat}
theorem zPT {φ:Option Prop}{K:Prop} (h1:φ.getD True) (h2:K):andO φ K:=by
 cases φ with
 | none=>exact h2
 | some p=>exact⟨h1,h2⟩
theorem zNp (h:K (σ.putN d x)):lay false (some d) x σ K:=by
 simp only[lay,zHN]; exact h
theorem zAd (hg:o.guard=none) (hd:o.dst=some d) (hN:Nat.blt d N=true) (hc:callOf T Γ o σ.env=none) (hn:dIn (some d) nm=false) (hs:step1 T (dIn (some d) M) o σ=some (φ,x,σ')) (hφ:φ.getD True)
  (h:zCb T Γ M nm N all os (σ'.putN d x) K):zCb T Γ M nm N all (o::os) σ K:=by
 unfold zCb;rw[hg,hd]
 dsimp only;rw[hN,hc,hn,hs]
 exact zPT hφ (zNp h)
theorem zEx (hg:o.guard=none) (hd:o.dst=none) (hc:callOf T Γ o σ.env=none) (hs:step1 T (dIn none M) o σ=some (φ,x,σ')) (hφ:φ.getD True)
  (h:zCb T Γ M nm N all os σ' K):zCb T Γ M nm N all (o::os) σ K:=by
 unfold zCb;rw[hg,hd,hc,hs]
 exact zPT hφ h
theorem zMy {own:Bool}{t e q sz kk:Nat}{j ti:TI}{y i:Operand}{n:Int}{ki:IntKind}{rows:List (List AV)} (ho:o.op = .indexAddr t y i) (ht:T t=some ti) (hk:ti.k = .slice e) (hj:T e=some j) (hy:opd T σ.env t y = .orow q)
  (hi:opd T σ.env 0 i = .s (.int ki n)) (hh:σ.hp q=some (.arow kk sz rows)) (hz:Nat.beq sz j.size=true):step1 T own o σ=some (some (0<=n/\n<rows.length),.rp q sz n.toNat 0,σ):=by
 have e1:zBw T own o σ.env=none :=(by simp only[zBw,ho,zEj,hy,hi,AV.nrm,ht,hk]);simp only[step1,e1,zBf,zCg,zB6,ho,elemOf,ht,hk,hj,hy,hi,hh,hz]
theorem zNX {own:Bool}{t q sz r off kk:Nat}{ti:TI}{y z:Operand}{rows:List (List AV)} (ho:o.op = .store t y z) (ht:T t=some ti) (hy:opd T σ.env 0 y = .rp q sz r off)
  (hh:σ.hp q=some (.arow kk sz rows)) (h1:Nat.beq sz sz=true) (h2:Nat.beq (opd T σ.env t z).cellsA.length ti.size=true) (h3:Nat.ble (off+ti.size) sz=true) (h4:((opd T σ.env t z).cellsA).all AV.one=true) :
  step1 T own o σ=some (some (r<rows.length),.junk,zDi σ q (.arow kk sz (rows.set r ((rows.getD r []).take off++(opd T σ.env t z).cellsA++(rows.getD r []).drop (off+ti.size))))):=by
 have e1:zBw T own o σ.env=none :=(by simp only[zBw,ho]);have e2:zCg T own o σ=none:=by
  simp only[zCg,ho,hy,ht,hh]
 simp only[step1,e1,zBf,e2,zB6,ho,ht,hy,hh,h1,h2,h3,h4]
theorem zKs {own:Bool}{t q off:Nat}{ti:TI}{y z:Operand}{bt:Nat}{cells:List AV} (ho:o.op = .store t y z) (ht:T t=some ti) (hy:opd T σ.env 0 y = .op q off)
  (hh:σ.hp q=some (.box bt cells)) (h2:Nat.beq (opd T σ.env t z).cellsA.length ti.size=true) (h3:Nat.ble (off+ti.size) cells.length=true) (h4:((opd T σ.env t z).cellsA).all AV.one=true) (h5:AV.ltAll σ.nx (opd T σ.env t z).cellsA=true) :
  step1 T own o σ=some (none,.junk,zDi σ q (.box bt (cells.take off++(opd T σ.env t z).cellsA++cells.drop (off+ti.size)))):=by
 have e1:zBw T own o σ.env=none :=(by simp only[zBw,ho]);simp only[step1,e1,zBf,zCg,ho,ht,hy,hh,h2,h3,h4,h5,zCf]
theorem zRv {own:Bool}{t q off:Nat}{ti:TI}{y:Operand}{bt:Nat}{cells:List AV}{c:AV} (ho:o.op = .load t y) (ht:T t=some ti) (ha:ti.k.agg=false) (hy:opd T σ.env 0 y = .op q off) (hh:σ.hp q=some (.box bt cells)) (hc:cells[off]? = some c) :
  step1 T own o σ=some (none,c,σ):=by
 have e1:zBw T own o σ.env=none :=(by simp only[zBw,ho,hy]);simp only[step1,e1,zBf,zCg,ho,ht,hy,hh,ha,hc]
theorem zQK {own:Bool}{t q off:Nat}{ti:TI}{y:Operand}{bt:Nat}{cells:List AV} (ho:o.op = .load t y) (ht:T t=some ti) (ha:ti.k.agg=true) (hy:opd T σ.env 0 y = .op q off) (hh:σ.hp q=some (.box bt cells)) (hc:Nat.ble (off+ti.size) cells.length=true) :
  step1 T own o σ=some (none,.agg ((cells.drop off).take ti.size),σ):=by
 have e1:zBw T own o σ.env=none :=(by simp only[zBw,ho,hy]);simp only[step1,e1,zBf,zCg,ho,ht,hy,hh,ha,hc]
theorem zKr {own:Bool}{t q kk sz:Nat}{e:Nat}{args:Array Operand}{ts:Array Nat}{y:Operand}{rows:List (List AV)} (ho:o.op = .call { callee:=.builtin .len,args:=args,argTypes:=ts }) (ha:args.toList=[y]) (hts:ts.toList=[t]) (ht:tk T t = .slice e)
  (hy:opd T σ.env t y = .orow q) (hh:σ.hp q=some (.arow kk sz rows)):step1 T own o σ=some (none,.s (.int .i64 (rows.length:Int)),σ):=by
 have e1:zBw T own o σ.env=none :=(by simp only[zBw,ho,ha,hts,pLen,ht,hy]);have e2:zCg T own o σ=none :=(by simp only[zCg,ho,ha,hts,ht,hy,hh]);simp only[step1,e1,zBf,e2,zB6,ho,ha,hts,ht,hy,hh]
theorem zRw {own:Bool}{t q sz r off:Nat}{y:Operand} (ho:o.op = .load t y) (hy:opd T σ.env 0 y = .rp q sz r off):step1 T own o σ=none/\callOf T Γ o σ.env=none/\zA6 T o σ.env=none:=by
 have e1:zBw T own o σ.env=none :=(by simp only[zBw,ho,hy]);have e2:zCg T own o σ=none :=(by simp only[zCg,ho,hy]);have e3:zB6 T o σ=none :=(by simp only[zB6,ho]);exact⟨by simp only[step1,e1,zBf,e2,e3],by simp only[callOf,ho],by simp only[zA6,ho]⟩
theorem zR4 {t:Nat}{y:Operand} (ho:o.op = .load t y):nilQ T o σ=none:=by simp only[nilQ,ho]
theorem zNe {t q sz r off kk:Nat}{y:Operand}{rows:List (List AV)}{c:AV} (hg:o.guard=none) (hd:o.dst=some d) (hN:Nat.blt d N=true) (hn:dIn (some d) nm=false) (ho:o.op = .load t y) (hy:opd T σ.env 0 y = .rp q sz r off)
  (hh:σ.hp q=some (.arow kk sz rows)) (hr:r<rows.length) (hc:zL3 T t ((rows.getD r []).drop off)=some c) (h:zCb T Γ M nm N all os (σ.putN d c) K):zCb T Γ M nm N all (o::os) σ K:=by
 obtain⟨e1,e2,e3⟩:=zRw (Γ:=Γ) (own:=dIn (some d) M) ho hy;unfold zCb;rw[hg,hd]
 dsimp only;rw[hN,e2,hn,e1,zR4 ho]
 have hz:Nat.beq sz sz=true:=Nat.beq_refl sz;simp only[zLT,zEL,e3,zF6,ho,hy,hh,hz]
 exact⟨hr,_,rfl,by rw[hc]; exact zNp h⟩
end
inductive Rd (hp:Nat->Option Ob):AV->S->Prop
 | s (x:S):Rd hp (.s x) x
 | nl (sz:Nat):Rd hp (.nl sz) (.sl sz [])
 | row {k e sz:Nat} {rows:List (List S)} (h:hp k=some (.row e sz rows)):Rd hp (.orow k) (.sl sz rows)
 | arow {k e sz:Nat} {rows:List (List AV)} {rs:List (List S)} (h:hp k=some (.arow e sz rows)) (hl:rows.length=rs.length) (hr:∀ r∈rs,r.length=sz)
   (hc:∀ (i:Nat) x s,rows.flatten[i]? = some x->rs.flatten[i]? = some s->Rd hp x s):Rd hp (.orow k) (.sl sz rs)
 | box {k off bt:Nat} {cells:List AV} {ss:List S} (h:hp k=some (.box bt cells)) (hl:cells.length=ss.length)
   (hc:∀ (i:Nat) x s,cells[i]? = some x->ss[i]? = some s->Rd hp x s):Rd hp (.op k off) (.pt (ss.drop off))
 | el {k e sz i off:Nat} {rows:List (List AV)} {rs:List (List S)} (h:hp k=some (.arow e sz rows)) (hl:rows.length=rs.length) (hr:∀ r∈rs,r.length=sz) (hi:i<rs.length)
   (hc:∀ (i:Nat) x s,rows.flatten[i]? = some x->rs.flatten[i]? = some s->Rd hp x s):Rd hp (.rp k sz i off) (.pt ((rs.getD i []).drop off))
def allG (G:Nat->Prop) (β:Nat->Value) (hp:Nat->Option Ob) (b:Nat):Prop:=G b∨∃ k ob,hp k=some ob/\blk (β k)=some b
theorem Rd.rep {c:Cx}{G:Nat->Prop}{β:Nat->Value}{σ:St}{a:Act}{w:World} (hc:Conc c G β σ a w){x:AV}{s:S} (h:Rd σ.hp x s):∀ {v:Value},AVal G w β x v->Rep (allG G β σ.hp) w s v:=by
 have hk:Keep G (allG G β σ.hp) w w:=⟨fun _ h=>.inl h,fun _ _=>rfl⟩
 induction h with
 | s x=>intro v hv; simp only[AVal]at hv; exact hv.keep hk
 | nl sz=>intro v hv; simp only[AVal]at hv; subst hv; simp[Rep]
 | @row k e sz rows h =>
  intro v hv;simp only[AVal]at hv;obtain⟨hlen,hsz,ho⟩:=hc.hp k _ h;rw[hv.1]
  rcases ho with ⟨h1,rfl⟩ | ⟨b,cap,cur,h1,h2,h3,⟨mk,hmk,h4⟩,h5,h6,h7⟩
  ·rw[h1]; simp[Rep]
  ·rw[h1]
   simp only[Rep]
   refine .inr ⟨b,0,cap,rfl,h2,zBQ hlen (RepRow.mk fun i s hi=>⟨.inr ⟨k,_,h,by rw[h1]; rfl⟩,?_⟩)⟩
   obtain⟨u,hu,hr⟩:=h7 i s hi;exact⟨u,by simp[World.cell?,h4,hu],hr.keep hk⟩
 | @arow k e sz rows rs h hl hr hcc ih =>
  intro v hv;simp only[AVal]at hv;obtain⟨hlen,hsz,ho⟩:=hc.hp k _ h;rw[hv.1]
  rcases ho with ⟨h1,rfl⟩ | ⟨b,cap,cur,h1,h2,h3,⟨mk,hmk,h4⟩,h5,h6,h7⟩
  ·obtain rfl:rs=[]:=List.length_eq_zero_iff.1 (by simpa using hl.symm)
   rw[h1]; simp[Rep]
  ·rw[h1]
   simp only[Rep]
   refine .inr ⟨b,0,cap,by rw[hl],by rw[← hl]; exact h2,zBQ hr (RepRow.mk fun i s hi=>⟨.inr ⟨k,_,h,by rw[h1]; rfl⟩,?_⟩)⟩
   have hfl:=zAD hlen;have hfs:=zAD hr;have hil:i<rows.flatten.length :=(by rw[hfl,hl,← hfs]; exact(List.getElem?_eq_some_iff.1 hi).1);obtain⟨u,hu,hr',_⟩:=h7 i _ (List.getElem?_eq_getElem hil)
   exact⟨u,by simp[World.cell?,h4,hu],ih i _ s (List.getElem?_eq_getElem hil) hi hr'⟩
 | @box k off bt cells ss h hl hcc ih =>
  intro v hv;simp only[AVal]at hv;obtain⟨b,e,cur,h1,h2,h3,h4,h5,h6⟩:=hc.hp k _ h;obtain⟨b',hβ,rfl⟩:=hv;rw[h1]at hβ; cases hβ
  simp only[Rep]
  have hrow:RepRow (allG G β σ.hp) w b ss 0:=RepRow.mk fun i s hi=>by
   refine⟨.inr ⟨k,_,h,by rw[h1]; rfl⟩,?_⟩
   have hil:i<cells.length :=(by rw[hl]; exact(List.getElem?_eq_some_iff.1 hi).1);obtain⟨u,hu,hr⟩:=h5.get (List.getElem?_eq_getElem hil)
   rw[Array.getElem?_toList]at hu;exact⟨u,by simp[World.cell?,h2,hu],ih i _ s (List.getElem?_eq_getElem hil) hi hr⟩
  exact⟨b,off,rfl,by simpa using hrow.drop off⟩
 | @el k e sz i off rows rs h hl hr hi hcc ih =>
  intro v hv;simp only[AVal]at hv;obtain⟨b,n,cp,hβ,rfl⟩:=hv;obtain⟨hlen,hsz,ho⟩:=hc.hp k _ h;rcases ho with ⟨h1,rfl⟩ | ⟨b',cap,cur,h1,h2,h3,h4,h5,h6,h7⟩
  ·simp at hl; omega
  rw[hβ]at h1; cases h1
  simp only[Rep]
  refine⟨b,i * sz+off,rfl,?_⟩
  have hfl:=zAD hlen;have hfs:=zAD hr;have hrow:RepRow (allG G β σ.hp) w b rs.flatten 0:=RepRow.mk fun q s hq=>by
   refine⟨.inr ⟨k,_,h,by rw[hβ]; rfl⟩,?_⟩
   have hil:q<rows.flatten.length :=(by rw[hfl,hl,← hfs]; exact(List.getElem?_eq_some_iff.1 hq).1);obtain⟨u,hu,hr',_⟩:=h7 q _ (List.getElem?_eq_getElem hil)
   obtain⟨mk,hmk,h4⟩:=h4;exact⟨u,by simp[World.cell?,h4,hu],ih q _ s (List.getElem?_eq_getElem hil) hq hr'⟩
  have hrows:=(zBQ hr hrow).get (i:=i) (r:=rs[i]) (List.getElem?_eq_getElem hi)
  have hg:rs.getD i []=rs[i] :=(by simp[List.getElem?_eq_getElem hi]);rw[hg]
  have:=hrows.2.drop off
  simpa using this
def RdV (hp:Nat->Option Ob):AV->AV->Prop
 | x,.s y=>Rd hp x y
 | .agg xs,.agg ys=>xs.length=ys.length/\∀ (i:Nat) x y,xs[i]? = some x->ys[i]? = some y->∃ s,y = .s s/\Rd hp x s
 | _,.junk=>True
 | _,_=>False
theorem RdV.aval {c:Cx}{G:Nat->Prop}{β:Nat->Value}{σ:St}{a:Act}{w:World} (hc:Conc c G β σ a w){x y:AV} (h:RdV σ.hp x y){v:Value} (hv:AVal G w β x v):AVal (allG G β σ.hp) w β y v:=by
 unfold RdV at h;split at h
 ·simp only[AVal]; exact h.rep hc hv
 ·simp only[AVal]at hv ⊢;obtain⟨vs,rfl,hvs⟩:=hv;refine⟨vs,rfl,AVals.mk (by rw[← h.1]; exact hvs.length) fun i y u hy hu=>?_⟩
  rename_i xs ys
  have hil:i<xs.length :=(by rw[h.1]; exact(List.getElem?_eq_some_iff.1 hy).1);obtain⟨s,rfl,hs⟩:=h.2 i _ y (List.getElem?_eq_getElem hil) hy;obtain⟨u',hu',hr⟩:=hvs.get (List.getElem?_eq_getElem hil)
  rw[hu]at hu'; cases hu'
  simp only[AVal]; exact hs.rep hc hr
 ·simp only[AVal]
 ·exact h.elim
def RdL (hp:Nat->Option Ob) (env:Nat->AV):List (Nat×AV)->Prop
 | []=>True
 | (t,y)::r=>RdV hp (env t) y/\RdL hp env r
theorem RdL.get {c:Cx}{G:Nat->Prop}{β:Nat->Value}{σ:St}{a:Act}{w:World} (hc:Conc c G β σ a w):∀ {l:List (Nat×AV)},RdL σ.hp σ.env l->∀ t,AVal (allG G β σ.hp) w β (ofL l t) (a.tmps.getD t undef)
 | [],_,t=>by simp only[ofL,AVal]
 | (u,y)::r,h,t=>by
  simp only[ofL]
  cases e:Nat.beq t u with
  | true=>obtain rfl:=Nat.eq_of_beq_eq_true e; exact h.1.aval hc (hc.env t)
  | false=>exact RdL.get hc h.2 t
def nils (k:Nat):List (List AV):=List.replicate k [.s (.sl 1 [])]
theorem Le.forgetH {c:Cx}{σ:St} (l:List (Nat×AV)) (hp':Nat->Option Ob) (n:Nat) (h:holds σ.env l) (hh:∀ k,σ.hp k=hp' k) (hn:σ.nx=n):Le c σ ⟨ofL l,hp',n⟩:=by
 obtain rfl:σ.hp=hp':=funext hh;subst hn;exact Le.forget l h
theorem PSound.ofOwn {P:Program}{f:Nat}{R:List AV->List Ob->AV->List (Option Ob)->Prop} (hcall:∀ args w,(callFunc f args).run P w = .ok (.enter f args) w) (h:zOM P f R):PSound P f (zA5 R) :=
 ⟨hcall,fun _ _ _ _ _ _ _ _ _ hs=>hs.elim,fun R' hR'=>(by
  obtain rfl:R=R' :=(by simpa [zA5] using hR');exact h),fun R hR=>(by cases hR)⟩
def zRe (s:zAp):List AV->List Ob->AV->List (Option Ob)->Prop:=match s.own with | some R=>R | none=>fun _ _ _ _=>False
def orS (s t:zAp):zAp:=zA5 fun xs os x os'=>zRe s xs os x os'∨zRe t xs os x os'
theorem zNN {P:Program}{f:Nat}{s t:zAp} (hs:PSound P f s) (ht:PSound P f t):PSound P f (orS s t) :=
 PSound.ofOwn hs.1 fun G w β xs vs os x os' h1 h2 h3 h4 h5 h6=>by
  rcases h6 with h6 | h6
  ·unfold zRe at h6;cases hR:s.own with
   | none=>rw[hR]at h6; exact h6.elim
   | some R=>rw[hR]at h6; exact hs.2.2.1 R hR G w β xs vs os x os' h1 h2 h3 h4 h5 h6
  ·unfold zRe at h6;cases hR:t.own with
   | none=>rw[hR]at h6; exact h6.elim
   | some R=>rw[hR]at h6; exact ht.2.2.1 R hR G w β xs vs os x os' h1 h2 h3 h4 h5 h6
def ownS (s:zAp):zAp:=zA5 fun xs os x os'=>AV.persAll xs=true/\s.spec xs (.val x)/\os=[]/\os'=[]
theorem PSound.toOwn {P:Program}{f:Nat}{s:zAp} (h:PSound P f s):PSound P f (ownS s) :=
 PSound.ofOwn h.1 fun G w β xs vs os x os' h1 h2 h3 _ _ h6=>by
  obtain⟨hp,hs,rfl,rfl⟩:=h6;refine(h.2.1 G w xs vs (.val x) h1 h2 hp (AVals.pers hp h3) hs).mono fun e w' he=>?_
  obtain⟨v,G',rfl,hx,hv1,hv2⟩:=he;exact⟨v,G',β,rfl,⟨hx.os,hx.tape,hx.output,hx.size,fun b hb _=>hx.old b hb⟩,hx.sub,fun b hb=>(hx.new b hb).imp id .inr,hx.lt,AVal.pers hv1 hv2,AV.pers_lt hv1,Nat.le_refl _,⟨fun i ob hi=>by simp at hi,fun i j ob ob' hi=>by simp at hi⟩,fun i ob hi=>by simp at hi⟩
structure Wrote (b off:Nat) (v:Value) (cur:Array Value) (e:Nat) (w w':World):Prop where
 os:w'.os=w.os
 tape:w'.tape=w.tape
 output:w'.output=w.output
 size:w'.heap.size=w.heap.size
 old:∀ i,i ≠ b->w'.heap[i]? = w.heap[i]?
 new:w'.heap[b]? = some (.cells (cur.setIfInBounds off v) e (0,0))
theorem Wrote.cell {b off e:Nat}{v:Value}{cur:Array Value}{w:World} (h:w.heap[b]? = some (.cells cur e (0,0))):Wrote b off v cur e w (w.setCell ⟨b,off,none⟩ v) :=
 ⟨rfl,rfl,rfl,by simp[World.setCell],fun i hi=>by
  simp only[World.setCell,Array.getElem?_modify]
  rw[if_neg (Ne.symm hi)],by simp[World.setCell,Array.getElem?_modify,h]⟩
theorem Wrote.same {b off e:Nat}{v:Value}{cur:Array Value}{w:World} (h:w.heap[b]? = some (.cells cur e (0,0))) (hc:cur[off]? = some v):Wrote b off v cur e w w :=
 ⟨rfl,rfl,rfl,rfl,fun _ _=>rfl,by
  rw[h]
  have:cur.setIfInBounds off v=cur:=by
   apply Array.ext
   ·simp
   ·intro i h1 h2;rw[Array.getElem_setIfInBounds (by simpa using h2)]
    split
    ·rename_i e; subst e
     rw[Array.getElem?_eq_getElem h2]at hc;exact(Option.some.inj hc).symm
    ·rfl
  rw[this]⟩
section
variable {T:Nat->Option TI} {Γ:Nat->Option zAp} {M nm L:List Nat} {N k n:Nat} {all os:List Oper} {o:Oper} {σ σ':St} {K:St->Prop} {φ:Option Prop} {x:AV} {d:Nat}
theorem zQL {own:Bool}{t e q kk sz:Nat}{j ti:TI}{y hi:Operand}{n:Int}{ki:IntKind}{rows:List (List AV)} (ho:o.op = .slice t y none (some hi) none) (ht:T t=some ti) (hk:ti.k = .slice e) (hj:T e=some j) (hy:opd T σ.env t y = .orow q)
  (hi':opd T σ.env 0 hi = .s (.int ki n)) (hh:σ.hp q=some (.arow kk sz rows)) (hz:Nat.beq sz j.size=true) :
  step1 T own o σ=some (some (0<=n/\n<=rows.length),.orow σ.nx,zAX (zFI σ q) (.arow kk sz (rows.take n.toNat))):=by
 have e1:zBw T own o σ.env=none :=(by simp only[zBw,ho,zKe,hy,AV.nrm,ht,hk,Option.map_none,Option.map_some,hi']);have e2:zCg T own o σ=none :=(by simp only[zCg,ho,elemOf,ht,hk,hj,hy,hi',hh]);simp only[step1,e1,zBf,e2,zB6,ho,elemOf,ht,hk,hj,hy,hi',hh,hz]
theorem zSe {own:Bool}{t tx e q q2 kk kk2 sz sz2:Nat}{j ti:TI}{args:Array Operand}{ts:Array Nat}{y z:Operand}{rows rows2:List (List AV)} (ho:o.op = .call { callee:=.builtin .append,args:=args,argTypes:=ts }) (ha:args.toList=[y,z]) (hts:ts.toList=[t,tx])
  (ht:T t=some ti) (hk:ti.k = .slice e) (hj:T e=some j) (htx:tk T tx = .slice e) (hy:opd T σ.env t y = .orow q) (hz:opd T σ.env tx z = .orow q2) (hh:σ.hp q=some (.arow kk sz rows)) (hh2:σ.hp q2=some (.arow kk2 sz2 rows2))
  (h1:Nat.beq sz j.size=true) (h2:Nat.beq sz2 j.size=true) (h3:Nat.beq e kk=true) :
  step1 T own o σ=some (some ((rows.length+rows2.length) * j.bytes<=140737488355328/\rows.length+rows2.length<=9223372036854775807),.orow σ.nx,zAX (zFI σ q) (.arow e sz (rows++rows2))):=by
 have e1:zBw T own o σ.env=none :=(by simp only[zBw,ho]);have e2:zCg T own o σ=none :=(by simp only[zCg,ho,ha,hts,zHj,elemOf,ht,hk,hj,hy,zIL,hh]);simp only[step1,e1,zBf,e2,zB6,ho,ha,hts,elemOf,ht,hk,hj,hy,hz,zI4,hh,zJd,htx,hh2,h1,h2,h3]
theorem zRu {own:Bool}{t tx e q kk sz sz2 e2:Nat}{j ti:TI}{args:Array Operand}{ts:Array Nat}{y z:Operand}{rows:List (List AV)}{rows2:List (List S)} (ho:o.op = .call { callee:=.builtin .copy,args:=args,argTypes:=ts }) (ha:args.toList=[y,z]) (hts:ts.toList=[t,tx])
  (ht:T t=some ti) (hk:ti.k = .slice e) (hj:T e=some j) (htx:tk T tx = .slice e2) (hy:opd T σ.env t y = .orow q) (hz:opd T σ.env tx z = .s (.sl sz2 rows2)) (hh:σ.hp q=some (.arow kk sz rows))
  (h1:Nat.beq sz j.size=true) (h2:Nat.beq sz2 j.size=true) :
  step1 T own o σ=some (some ((rows2.map (·.map AV.s)).length=rows.length),.s (.int .i64 (rows.length:Int)),zDi σ q (.arow kk sz (rows2.map (·.map AV.s)))):=by
 have e1:zBw T own o σ.env=none :=(by simp only[zBw,ho,ha,hts,zQr,hy]);have e2:zCg T own o σ=none :=(by simp only[zCg,ho]);simp only[step1,e1,zBf,e2,zB6,ho,ha,hts,elemOf,ht,hk,hj,hy,hz,zI4,hh,zJd,htx,h1,h2]
theorem zST {own:Bool}{t e:Nat}{j ti:TI}{y z:Operand}{n m:Int}{k1 k2:IntKind} (hw:own=true) (ho:o.op = .makeSlice t y z) (ht:T t=some ti) (hk:ti.k = .slice e) (hj:T e=some j) (hy:opd T σ.env 0 y = .s (.int k1 n)) (hz:opd T σ.env 0 z = .s (.int k2 m)) (h1:Nat.ble 1 j.size=true)
  (hp:zBw T own o σ.env=none) :
  step1 T own o σ=some (some (0<=n/\n<=m/\m * j.bytes<=281474976710656/\m<=281474976710656),.orow σ.nx,zAX σ (.row e j.size (List.replicate n.toNat j.zero))):=by
 simp only[step1,hp,zBf,zCg,ho,elemOf,ht,hk,hj,hy,hz,h1]
end
def cellSim (tr2:Nat->Option Ob) (a b:AV):Prop:=b=a∨∃ y,a = .s y/\Rd tr2 b y
def zSE (tr2:Nat->Option Ob):Ob->Ob->Prop
 | .box t cs,o=>∃ cs2,o = .box t cs2/\cs2.length=cs.length/\∀ (i:Nat) a b,cs[i]? = some a->cs2[i]? = some b->cellSim tr2 a b
 | .row e sz rows,o=>o = .row e sz rows
 | .arow e sz rows,o=>∃ rows2,o = .arow e sz rows2/\rows2.length=rows.length/\rows2.flatten.length=rows.flatten.length/\∀ (i:Nat) a b,rows.flatten[i]? = some a->rows2.flatten[i]? = some b->cellSim tr2 a b
theorem Rd.s_inv {hp:Nat->Option Ob}{y s:S} (h:Rd hp (.s y) s):s=y:=by cases h; rfl
theorem cellSim.go {tr tr2:Nat->Option Ob}{a b:AV}{s:S} (h:cellSim tr2 a b) (hr:Rd tr a s) (ih:Rd tr2 a s):Rd tr2 b s:=by
 rcases h with rfl | ⟨y,rfl,h⟩
 ·exact ih
 ·rw[hr.s_inv]; exact h
theorem Rd.upd {tr tr2:Nat->Option Ob} (h:∀ k ob,tr k=some ob->∃ ob2,tr2 k=some ob2/\zSE tr2 ob ob2){x:AV}{s:S} (hr:Rd tr x s):Rd tr2 x s:=by
 induction hr with
 | s x=>exact .s x
 | nl sz=>exact .nl sz
 | row hk =>
  obtain⟨ob2,h1,h2⟩:=h _ _ hk;simp only[zSE]at h2;subst h2;exact .row h1
 | arow hk hl hrr hc ih =>
  obtain⟨ob2,h1,rows2,rfl,h2,h3,h4⟩:=h _ _ hk;refine .arow h1 (h2.trans hl) hrr fun i x2 s hx hs=>?_
  have hil:=(List.getElem?_eq_some_iff.1 hx).1;rw[h3]at hil;have ha:=List.getElem?_eq_getElem hil;exact(h4 i _ x2 ha hx).go (hc i _ s ha hs) (ih i _ s ha hs)
 | box hk hl hc ih =>
  obtain⟨ob2,h1,cs2,rfl,h2,h4⟩:=h _ _ hk;refine .box h1 (h2.trans hl) fun i x2 s hx hs=>?_
  have hil:=(List.getElem?_eq_some_iff.1 hx).1;rw[h2]at hil;have ha:=List.getElem?_eq_getElem hil;exact(h4 i _ x2 ha hx).go (hc i _ s ha hs) (ih i _ s ha hs)
 | el hk hl hrr hi hc ih =>
  obtain⟨ob2,h1,rows2,rfl,h2,h3,h4⟩:=h _ _ hk;refine .el h1 (h2.trans hl) hrr hi fun i x2 s hx hs=>?_
  have hil:=(List.getElem?_eq_some_iff.1 hx).1;rw[h3]at hil;have ha:=List.getElem?_eq_getElem hil;exact(h4 i _ x2 ha hx).go (hc i _ s ha hs) (ih i _ s ha hs)
theorem Rd.mono {tr tr2:Nat->Option Ob} (h:∀ k ob,tr k=some ob->tr2 k=some ob){x:AV}{s:S} (hr:Rd tr x s):Rd tr2 x s:=by
 refine hr.upd fun k ob hk=>⟨ob,h k ob hk,?_⟩
 cases ob with
 | box t cs=>exact⟨cs,rfl,rfl,fun i a b h1 h2=>.inl (by rw[h1]at h2; exact(Option.some.inj h2).symm)⟩
 | row=>rfl
 | arow e sz rows=>exact⟨rows,rfl,rfl,rfl,fun i a b h1 h2=>.inl (by rw[h1]at h2; exact(Option.some.inj h2).symm)⟩
def isL (sz:Nat) (p:AV):Prop:=(∃ q i,p = .rp q sz i 0)∨(∃ q,p = .op q 0)
def zAP:AV->Nat
 | .op q _=>q
 | .rp q _ _ _=>q
 | _=>0
def locO (p:AV) (off:Nat):AV:=match p with
 | .op q _=>.op q off
 | .rp q sz i _=>.rp q sz i off
 | x=>x
def zAA (hp:Nat->Option Ob):AV->Option (List AV)
 | .op q 0=>match hp q with | some (.box _ cs)=>some cs | _=>none
 | .rp q sz i 0=>match hp q with | some (.arow _ sz' rows)=>bif Nat.beq sz sz' then rows[i]? else none | _=>none
 | _=>none
def putC (hp:Nat->Option Ob) (p:AV) (c:List AV) (k:Nat):Option Ob:=match p with
 | .op q _=>match hp q with | some (.box bt _)=>bif Nat.beq k q then some (.box bt c) else hp k | _=>hp k
 | .rp q _ i _=>match hp q with | some (.arow e sz rows)=>bif Nat.beq k q then some (.arow e sz (rows.set i c)) else hp k | _=>hp k
 | _=>hp k
theorem zCW {k q:Nat} (h:k ≠ q):Nat.beq k q=false:=by
 cases e:Nat.beq k q with
 | true=>exact absurd (Nat.eq_of_beq_eq_true e) h
 | false=>rfl
theorem zBe {hp:Nat->Option Ob}{p:AV}{c:List AV}{k:Nat} (h:k ≠ zAP p):putC hp p c k=hp k:=by
 unfold putC;split
 ·rename_i q _
  have h:k ≠ q:=h;split
  ·rw[zCW h,cond_false]
  ·rfl
 ·rename_i q _ _ _
  have h:k ≠ q:=h;split
  ·rw[zCW h,cond_false]
  ·rfl
 ·rfl
theorem zEH {hp:Nat->Option Ob}{q o bt:Nat}{cs c:List AV} (h:hp q=some (.box bt cs)):putC hp (.op q o) c=fun k=>bif Nat.beq k q then some (.box bt c) else hp k:=by
 funext k; simp only[putC,h]
theorem zHr {hp:Nat->Option Ob}{q s i o e sz:Nat}{rows:List (List AV)}{c:List AV} (h:hp q=some (.arow e sz rows)):putC hp (.rp q s i o) c=fun k=>bif Nat.beq k q then some (.arow e sz (rows.set i c)) else hp k:=by
 funext k; simp only[putC,h]
theorem zCX {hp:Nat->Option Ob}{q bt:Nat}{cs:List AV} (h:hp q=some (.box bt cs)):zAA hp (.op q 0)=some cs:=by simp only[zAA,h]
theorem zDp {hp:Nat->Option Ob}{q e sz i:Nat}{rows:List (List AV)} (h:hp q=some (.arow e sz rows)):zAA hp (.rp q sz i 0)=rows[i]?:=by simp only[zAA,h,Nat.beq_refl,cond_true]
theorem zBS {hp:Nat->Option Ob}{sz:Nat}{p:AV}{cs:List AV} (hl:isL sz p) (h:zAA hp p=some cs):(∃ q i e rows,p = .rp q sz i 0/\hp q=some (.arow e sz rows)/\rows[i]? = some cs)∨∃ q bt,p = .op q 0/\hp q=some (.box bt cs):=by
 rcases hl with ⟨q,i,rfl⟩ | ⟨q,rfl⟩
 ·simp only[zAA]at h;split at h
  ·rename_i e sz' rows hq
   cases hb:Nat.beq sz sz' with
   | false=>rw[hb]at h; cases h
   | true =>
    rw[hb,cond_true]at h;obtain rfl:=Nat.eq_of_beq_eq_true hb;exact .inl ⟨q,i,e,rows,rfl,hq,h⟩
  ·cases h
 ·simp only[zAA]at h;split at h
  ·rename_i bt cs' hq
   cases h;exact .inr ⟨q,bt,rfl,hq⟩
  ·cases h
theorem zHe {hp:Nat->Option Ob}{sz:Nat}{p:AV}{c cs:List AV} (hl:isL sz p) (h:zAA hp p=some cs):zAA (putC hp p c) p=some c:=by
 rcases zBS hl h with ⟨q,i,e,rows,rfl,hq,hi⟩ | ⟨q,bt,rfl,hq⟩
 ·rw[zHr hq,zDp (e:=e) (rows:=rows.set i c) (by simp only[Nat.beq_refl,cond_true]),List.getElem?_set,if_pos rfl,if_pos (List.getElem?_eq_some_iff.1 hi).1]
 ·rw[zEH hq,zCX (bt:=bt) (cs:=c) (by simp only[Nat.beq_refl,cond_true])]
theorem zBz {hp hp':Nat->Option Ob}{sz:Nat}{p:AV} (hl:isL sz p) (h:hp' (zAP p)=hp (zAP p)):zAA hp' p=zAA hp p:=by
 rcases hl with ⟨q',i',rfl⟩ | ⟨q',rfl⟩ <;> (simp only[zAP]at h; simp only[zAA,h])
theorem zQw {hp:Nat->Option Ob}{sz:Nat}{p p':AV}{c cs:List AV} (hl:isL sz p) (hc:zAA hp p=some cs) (hl':isL sz p') (hne:p' ≠ p):zAA (putC hp p c) p'=zAA hp p':=by
 by_cases hb:zAP p'=zAP p
 ·rcases zBS hl hc with ⟨q,i,e,rows,rfl,hq,hi⟩ | ⟨q,bt,rfl,hq⟩
  ·have hp2:putC hp (.rp q sz i 0) c q=some (.arow e sz (rows.set i c)) :=(by rw[zHr hq]; simp only[Nat.beq_refl,cond_true]);rcases hl' with ⟨q',i',rfl⟩ | ⟨q',rfl⟩ <;> (simp only[zAP]at hb; subst hb)
   ·have hi:i' ≠ i:=fun e=>hne (by rw[e])
    rw[zDp hp2,zDp hq,List.getElem?_set,if_neg (Ne.symm hi)]
   ·simp only[zAA,hp2,hq]
  ·have hp2:putC hp (.op q 0) c q=some (.box bt c) :=(by rw[zEH hq]; simp only[Nat.beq_refl,cond_true]);rcases hl' with ⟨q',i',rfl⟩ | ⟨q',rfl⟩ <;> (simp only[zAP]at hb; subst hb)
   ·simp only[zAA,hp2,hq]
   ·exact absurd rfl hne
 ·exact zBz hl' (zBe hb)
theorem zRi {hp:Nat->Option Ob}{sz':Nat}{p:AV}{c cs:List AV} (hl:isL sz' p) (hc:zAA hp p=some cs){q e sz:Nat}{rows:List (List AV)} (h:hp q=some (.arow e sz rows)):∃ rows',putC hp p c q=some (.arow e sz rows')/\rows'.length=rows.length:=by
 by_cases hb:q=zAP p
 ·subst hb;rcases zBS hl hc with ⟨q,i,e',rows',rfl,hq,hi⟩ | ⟨q,bt,rfl,hq⟩
  ·simp only[zAP]at h ⊢;rw[hq]at h; cases h
   rw[zHr hq]; exact⟨_,by simp only[Nat.beq_refl,cond_true]; rfl,List.length_set ..⟩
  ·simp only[zAP]at h;rw[hq]at h; cases h
 ·rw[zBe hb]; exact⟨rows,h,rfl⟩
section
variable {T:Nat->Option TI} {Γ:Nat->Option zAp} {M nm L:List Nat} {N k n:Nat} {all os:List Oper} {o:Oper} {σ σ':St} {K:St->Prop} {φ:Option Prop} {x:AV} {d:Nat}
theorem zDw {own:Bool}{sz:Nat}{p:AV}{y:Operand} (hl:isL sz p) (ho:o.op = .nilCheck y) (hy:opd T σ.env 0 y=p):step1 T own o σ=some (none,p,σ):=by
 have e1:zBw T own o σ.env=some (none,p):=by
  rcases hl with ⟨q,i,rfl⟩ | ⟨q,rfl⟩ <;> simp only[zBw,ho,hy]
 simp only[step1,e1]
theorem zDZ {own:Bool}{sz:Nat}{p:AV}{t f off ft:Nat}{ti j:TI}{fs:List (Nat×Nat)}{y:Operand} (hl:isL sz p) (ho:o.op = .fieldAddr t y f) (hy:opd T σ.env 0 y=p) (ht:T t=some ti) (hk:ti.k = .struct fs) (hf:fs[f]? = some (off,ft)) (hj:T ft=some j) (hz:Nat.ble 1 j.size=true) :
  step1 T own o σ=some (none,locO p off,σ):=by
 have e1:zBw T own o σ.env=some (none,locO p off):=by
  rcases hl with ⟨q,i,rfl⟩ | ⟨q,rfl⟩ <;> simp only[zBw,ho,hy,zFq,ht,hk,hf,hj,hz,zKR,locO,Nat.zero_add]
 simp only[step1,e1]
theorem zCM {sz t off:Nat}{ti:TI}{y:Operand}{p c:AV}{cs:List AV} (hg:o.guard=none) (hd:o.dst=some d) (hN:Nat.blt d N=true) (hn:dIn (some d) nm=false) (ho:o.op = .load t y) (ht:T t=some ti) (ha:ti.k.agg=false) (hl:isL sz p) (hy:opd T σ.env 0 y=locO p off)
  (hcs:zAA σ.hp p=some cs) (hc:cs[off]? = some c) (h:zCb T Γ M nm N all os (σ.putN d c) K):zCb T Γ M nm N all (o::os) σ K:=by
 rcases zBS hl hcs with ⟨q,i,e,rows,rfl,hq,hi⟩ | ⟨q,bt,rfl,hq⟩
 ·have hgd:rows.getD i []=cs :=(by rw[List.getD_eq_getElem?_getD,hi]; rfl);refine zNe hg hd hN hn ho hy hq (List.getElem?_eq_some_iff.1 hi).1 (c:=c) ?_ h;simp only[zL3,ht,ha,hgd]
  rw[List.drop_eq_getElem_cons (List.getElem?_eq_some_iff.1 hc).1]
  simp only[(List.getElem?_eq_some_iff.1 hc).2]
 ·have hcall:callOf T Γ o σ.env=none :=(by simp only[callOf,ho]);exact zAd hg hd hN hcall hn (zRv ho ht ha hy hq hc) trivial h
theorem zNf {sz t off:Nat}{ti:TI}{y z:Operand}{p c:AV}{cs:List AV} (hg:o.guard=none) (hd:o.dst=none) (ho:o.op = .store t y z) (ht:T t=some ti) (hs:ti.size=1) (hl:isL sz p) (hy:opd T σ.env 0 y=locO p off)
  (hcs:zAA σ.hp p=some cs) (hlen:cs.length=sz) (hoff:off<sz) (hz:(opd T σ.env t z).cellsA=[c]) (ho1:c.one=true) (hlt:c.lt σ.nx=true)
  (h:zCb T Γ M nm N all os { σ with hp:=putC σ.hp p (cs.set off c) } K):zCb T Γ M nm N all (o::os) σ K:=by
 have hcall:callOf T Γ o σ.env=none :=(by simp only[callOf,ho]);have hset:cs.take off++[c]++cs.drop (off+1)=cs.set off c:=by
  rw[List.set_eq_take_append_cons_drop,if_pos (by omega)]; simp
 have h1:Nat.ble (off+1) sz=true:=Nat.ble_eq_true_of_le hoff;rcases zBS hl hcs with ⟨q,i,e,rows,rfl,hq,hi⟩ | ⟨q,bt,rfl,hq⟩
 ·have hgd:rows.getD i []=cs :=(by rw[List.getD_eq_getElem?_getD,hi]; rfl);have hst:=zNX (T:=T) (own:=dIn none M) (o:=o) (σ:=σ) ho ht hy hq (Nat.beq_refl _) (by rw[hz,hs]; rfl) (by rw[hs]; exact h1) (by rw[hz]; simp[ho1])
  refine zEx hg hd hcall hst (List.getElem?_eq_some_iff.1 hi).1 ?_;rw[hgd,hz,hs,hset]
  rw[zHr hq]at h;exact h
 ·have hst:=zKs (T:=T) (own:=dIn none M) (o:=o) (σ:=σ) ho ht hy hq (by rw[hz,hs]; rfl) (by rw[hs,hlen]; exact h1) (by rw[hz]; simp[ho1]) (by rw[hz]; simp[AV.ltAll,hlt])
  refine zEx hg hd hcall hst trivial ?_;rw[hz,hs,hset]
  rw[zEH hq]at h;exact h
theorem zFk {sz t:Nat}{ti:TI}{y z:Operand}{p:AV}{cs cs':List AV} (hg:o.guard=none) (hd:o.dst=none) (ho:o.op = .store t y z) (ht:T t=some ti) (hs:ti.size=sz) (hl:isL sz p) (hy:opd T σ.env 0 y=p)
  (hcs:zAA σ.hp p=some cs) (hlen:cs.length=sz) (hz:(opd T σ.env t z).cellsA=cs') (hlen':cs'.length=sz) (ho1:cs'.all AV.one=true) (hlt:AV.ltAll σ.nx cs'=true)
  (h:zCb T Γ M nm N all os { σ with hp:=putC σ.hp p cs' } K):zCb T Γ M nm N all (o::os) σ K:=by
 have hcall:callOf T Γ o σ.env=none :=(by simp only[callOf,ho]);have hset:cs.take 0++cs'++cs.drop (0+sz)=cs':=by
  rw[List.drop_eq_nil_of_le (by omega)]; simp
 have h1:Nat.ble (0+sz) sz=true:=Nat.ble_eq_true_of_le (by omega)
 have h2:Nat.beq cs'.length ti.size=true :=(by rw[hlen',hs]; exact Nat.beq_refl _);rcases zBS hl hcs with ⟨q,i,e,rows,rfl,hq,hi⟩ | ⟨q,bt,rfl,hq⟩
 ·have hgd:rows.getD i []=cs :=(by rw[List.getD_eq_getElem?_getD,hi]; rfl);have hst:=zNX (T:=T) (own:=dIn none M) (o:=o) (σ:=σ) ho ht hy hq (Nat.beq_refl _) (by rw[hz]; exact h2) (by rw[hs]; exact h1) (by rw[hz]; exact ho1)
  refine zEx hg hd hcall hst (List.getElem?_eq_some_iff.1 hi).1 ?_;rw[hgd,hz,hs,hset]
  rw[zHr hq]at h;exact h
 ·have hst:=zKs (T:=T) (own:=dIn none M) (o:=o) (σ:=σ) ho ht hy hq (by rw[hz]; exact h2) (by rw[hs,hlen]; exact h1) (by rw[hz]; exact ho1) (by rw[hz]; exact hlt)
  refine zEx hg hd hcall hst trivial ?_;rw[hz,hs,hset]
  rw[zEH hq]at h;exact h
theorem zCe {j g:Nat}{want:Bool} (hg:o.guard=some (j,want)) (hj:(all[j]?).bind (·.dst)=some g) (hv:σ.env g = .s (.bool want)) (h:zCb T Γ M nm N all ({ o with guard:=none }::os) σ K):zCb T Γ M nm N all (o::os) σ K:=by
 unfold zCb at h ⊢;dsimp only at h ⊢;split
 ·rename_i h0
  rw[h0]at h;exact h
 ·rename_i h0
  rw[h0]at h;rw[hg]
  dsimp only;rw[hj]
  dsimp only;rw[hv]
  cases want <;> exact h
end
theorem PSound.giveAll {P:Program}{f:Nat}{R:List AV->(Nat->Option Ob)->Nat->(AV->(Nat->Option Ob)->Nat->Prop)->Prop}{S:List AV->Ret->Prop} (h:PSound P f (zL2 R))
  (hS:∀ xs r,S xs r->∃ y,r = .val y/\y.pers=true/\R xs (fun _=>none) 0 fun x hp n=>RdV hp x y):PSound P f (zAr S):=by
 refine⟨h.1,fun G w xs vs r hlt hgl hp hv hs=>?_,fun R hR=>(by cases hR),fun R hR=>(by cases hR)⟩
 obtain⟨y,rfl,hy,hR⟩:=hS xs r hs;refine(h.2.2.2 R rfl G w (fun _=>.tuple #[]) xs vs (fun _=>none) 0 _ hlt hgl hv (AV.persAll_lt hp) ⟨fun k ob hk=>(by cases hk),fun k ob hk=>(by cases hk),fun k k' ob ob' hk=>(by cases hk)⟩ hR).mono ?_;rintro e w' ⟨v,G',β',x,hp',n',rfl,hΦ,hn,hfr,hsub,hnew,hlt',hx,hxl,hob,hst⟩
 let c:Cx:=zC4 P w (fun _=>.tuple #[]) (fun _=>none) 0 G 0
 have hk:Keep G G' w w':=⟨hsub,fun b hb=>hfr.old b (hlt b hb) (by rintro⟨k,ob,h,_⟩; cases h)⟩
 have hc:Conc c G' β' ⟨fun _=>.junk,hp',n'⟩ { tmps:=#[],defers:=[] } w':={
  defers:=rfl
  size:=rfl
  env:=fun t=>by simp only[AVal]
  envlt:=fun t=>rfl
  hp:=hob.obs
  hplt:=hob.lts
  inj:=hob.inj
  lt:=hlt'
  sub:=hsub
  new:=hnew
  fr:=hfr
  stay:=⟨hn,hst⟩
  glob:=hgl.keep hk }
 have hmine:∀ b,c.mine b->w.heap.size<=b:=fun b hb=>by
  rcases hb with ⟨k,ob,h,_⟩ | h
  ·cases h
  ·exact h
 refine⟨v,allG G' β' hp',rfl,⟨hfr.os,hfr.tape,hfr.output,hfr.size,fun b hb=>hfr.old b hb (by rintro⟨k,ob,h,_⟩; cases h),fun b hb=>.inl (hsub b hb),fun b hb=>?_,fun b hb=>?_⟩,hy,(hΦ.aval hc hx).pers hy⟩
 ·rcases hb with hb | ⟨k,ob,h1,h2⟩
  ·exact(hnew b hb).imp id (hmine b)
  ·exact .inr (hmine b (row_block (hc.hp k ob h1) b h2).2)
 ·rcases hb with hb | ⟨k,ob,h1,h2⟩
  ·exact hlt' b hb
  ·exact hc.blk_lt h1 h2
theorem ObAt.give {c:Cx}{G G':Nat->Prop}{w:World}{β:Nat->Value}{v:Value}{ob:Ob} (hs:∀ b,G b->G' b) (hng:∀ b,blk v=some b->¬ G' b) (h:ObAt c G w β v ob):ObAt c G' w β v ob:=by
 have hk:Keep G G' w w:=⟨hs,fun _ _=>rfl⟩
 cases ob with
 | box t xs =>
  obtain⟨b,e,cur,q1,q2,q3,q4,q5,q6⟩:=h;exact⟨b,e,cur,q1,q2,hng b (by rw[q1]; rfl),q4,q5.keep hk,q6⟩
 | row e sz rows =>
  obtain⟨q1,q2,q3⟩:=h;refine⟨q1,q2,q3.imp id ?_⟩
  rintro⟨b,cap,cur,g1,g2,g3,g4,g5,g6,g7⟩
  exact⟨b,cap,cur,g1,g2,g3,g4,hng b (by rw[g1]; rfl),g6,fun i s hi=>let ⟨u,hu,hr'⟩:=g7 i s hi; ⟨u,hu,hr'.keep hk⟩⟩
 | arow e sz rows =>
  obtain⟨q1,q2,q3⟩:=h;refine⟨q1,q2,q3.imp id ?_⟩
  rintro⟨b,cap,cur,g1,g2,g3,g4,g5,g6,g7⟩
  exact⟨b,cap,cur,g1,g2,g3,g4,hng b (by rw[g1]; rfl),g6,fun i x hi=>let ⟨u,hu,hr',h1⟩:=g7 i x hi; ⟨u,hu,hr'.keep hk,h1⟩⟩
theorem RdV.lt {hp:Nat->Option Ob}{x y:AV} (h:RdV hp x y) (n:Nat):y.lt n=true:=by
 unfold RdV at h;split at h
 ·rfl
 ·rename_i xs ys
  simp only[AV.lt]
  refine zHP fun q y hq=>?_
  have hil:q<xs.length :=(by rw[h.1]; exact(List.getElem?_eq_some_iff.1 hq).1);obtain⟨s,rfl,_⟩:=h.2 q _ y (List.getElem?_eq_getElem hil) hq
  rfl
 ·rfl
 ·exact h.elim
def RdK (hp:Nat->Option Ob) (env:Nat->AV):List (Nat×AV)->Prop
 | []=>True
 | (t,y)::r=>(y=env t∨RdV hp (env t) y)/\RdK hp env r
theorem RdK.lt {hp:Nat->Option Ob}{env:Nat->AV}{n:Nat} (he:∀ t,(env t).lt n=true):∀ {l:List (Nat×AV)},RdK hp env l->∀ t,(ofL l t).lt n=true
 | [],_,t=>rfl
 | (u,y)::r,h,t=>by
  simp only[ofL]
  cases Nat.beq t u with
  | true =>
   rcases h.1 with h1 | h1
   ·rw[h1]; exact he u
   ·exact h1.lt n
  | false=>exact RdK.lt he h.2 t
theorem Le.givePart {c:Cx}{σ:St} (l:List (Nat×AV)) (hpD hpK:Nat->Option Ob) (hD:∀ k ob,hpD k=some ob->σ.hp k=some ob) (hK:∀ k ob,hpK k=some ob->σ.hp k=some ob) (dis:∀ k ob ob',hpD k=some ob->hpK k=some ob'->False)
  (h:RdK hpD σ.env l):Le c σ ⟨ofL l,hpK,σ.nx⟩:=by
 unfold Le;intro G β a w hc;have hk:Keep G (allG G β hpD) w w:=⟨fun _ h=>.inl h,fun _ _=>rfl⟩
 have hcD:Conc c G β ⟨σ.env,hpD,σ.nx⟩ a w:={ hc with hp:=fun k ob hk=>hc.hp k ob (hD k ob hk),hplt:=fun k ob hk=>hc.hplt k ob (hD k ob hk),inj:=fun k k' ob ob' hk hk'=>hc.inj k k' ob ob' (hD k ob hk) (hD k' ob' hk') }
 refine⟨allG G β hpD,β,{ defers:=hc.defers,size:=hc.size,env:=?_,envlt:=RdK.lt hc.envlt h,hp:=fun k ob hk'=>?_,hplt:=fun k ob hk=>hc.hplt k ob (hK k ob hk),inj:=fun k k' ob ob' hk hk'=>hc.inj k k' ob ob' (hK k ob hk) (hK k' ob' hk'),lt:=fun b hb=>?_,sub:=fun b hb=>.inl (hc.sub b hb),new:=fun b hb=>?_,fr:=hc.fr,stay:=hc.stay,glob:=hc.glob.keep hk }⟩
 ·intro t;show AVal (allG G β hpD) w β (ofL l t) (a.tmps.getD t undef)
  induction l with
  | nil=>simp only[ofL,AVal]
  | cons p r ih =>
   obtain⟨u,y⟩:=p;simp only[ofL]
   cases e:Nat.beq t u with
   | true =>
    obtain rfl:=Nat.eq_of_beq_eq_true e;rcases h.1 with h1 | h1
    ·rw[h1]; exact(hc.env t).keep hk
    ·exact h1.aval hcD (hc.env t)
   | false=>exact ih h.2
 ·refine(hc.hp k ob (hK k ob hk')).give (fun b h=>.inl h) fun b hb hg=>?_
  rcases hg with hg | ⟨k',ob',h1,h2⟩
  ·exact(row_block (hc.hp k ob (hK k ob hk')) b hb).1 hg
  ·by_cases e:k=k'
   ·subst e; exact dis k ob' ob h1 hk'
   ·exact hc.inj k k' ob ob' (hK k ob hk') (hD k' ob' h1) e b hb h2
 ·rcases hb with hb | ⟨k,ob,h1,h2⟩
  ·exact hc.lt b hb
  ·exact hc.blk_lt (hD k ob h1) h2
 ·rcases hb with hb | ⟨k,ob,h1,h2⟩
  ·exact hc.new b hb
  ·exact .inr (row_block (hc.hp k ob (hD k ob h1)) b h2).2
end Go.Abs
namespace Go.Proofs.Ytffhjiplcfncdaa
open Go.Abs
def zAK (k:Int) (t:List UInt8) (c:Int) (v:AV):List AV:=[.s (.int .i64 k),.s (.str t),.s (.int .i64 c),v]
mutual
def At (hp:Nat->Option Ob) (e:Nat) (p:AV):Nd->List Nat->List AV->Nat->Prop
 | .mk k t c ks,keys,pd,w=>∃ v,zAA hp p=some (zAK k t c v) /\
   ((v = .s (.sl 4 (Nd.encs ks))/\keys=[]/\pd=[p]/\w=Nd.cnts ks+1)∨(ks=[]/\v = .s (.sl 4 [])/\keys=[]/\pd=[]/\w=0) ∨
    ∃ q rows keys',v = .orow q/\hp q=some (.arow e 4 rows)/\rows.length=ks.length/\keys=q::keys'/\LAt hp e q 0 ks keys' pd w)
def LAt (hp:Nat->Option Ob) (e q i:Nat):List Nd->List Nat->List AV->Nat->Prop
 | [],keys,pd,w=>keys=[]/\pd=[]/\w=0
 | t::ts,keys,pd,w=>∃ k1 k2 p1 p2 w1 w2,keys=k1++k2/\pd=p1++p2/\w=w1+w2/\At hp e (.rp q 4 i 0) t k1 p1 w1/\LAt hp e q (i+1) ts k2 p2 w2
end
mutual
theorem At.len {hp:Nat->Option Ob}{e:Nat}{p:AV}:∀ {t:Nd}{keys:List Nat}{pd:List AV}{w:Nat},At hp e p t keys pd w->pd.length<=w/\w<=t.cnt
 | .mk k t c ks,keys,pd,w,h=>by
  simp only[At]at h
  obtain⟨v,_,⟨_,_,rfl,rfl⟩ | ⟨_,_,_,rfl,rfl⟩ | ⟨q,rows,keys',_,_,_,_,h⟩⟩:=h
  ·simp[Nd.cnt]
  ·simp
  ·have:=LAt.len h
   simp only[Nd.cnt]; omega
theorem LAt.len {hp:Nat->Option Ob}{e q i:Nat}:∀ {ts:List Nd}{keys:List Nat}{pd:List AV}{w:Nat},LAt hp e q i ts keys pd w->pd.length<=w/\w<=Nd.cnts ts
 | [],keys,pd,w,h=>by
  simp only[LAt]at h
  obtain⟨_,rfl,rfl⟩:=h
  simp
 | t::ts,keys,pd,w,h=>by
  simp only[LAt]at h
  obtain⟨k1,k2,p1,p2,w1,w2,_,rfl,rfl,h1,h2⟩:=h
  have:=At.len h1
  have:=LAt.len h2
  simp only[Nd.cnts,List.length_append]; omega
end
structure Sim (hp hp':Nat->Option Ob) (e:Nat) (D:Nat->Prop) (p0:AV):Prop where
 row:∀ q rows,D q->hp q=some (.arow e 4 rows)->∃ rows',hp' q=some (.arow e 4 rows')/\rows'.length=rows.length
 cell:∀ p,D (zAP p)->p ≠ p0->isL 4 p->zAA hp' p=zAA hp p
theorem Sim.sub {hp hp':Nat->Option Ob}{e:Nat}{D D':Nat->Prop}{p0:AV} (h:Sim hp hp' e D p0) (hd:∀ q,D' q->D q):Sim hp hp' e D' p0 :=
 ⟨fun q rows hq=>h.row q rows (hd q hq),fun p hp=>h.cell p (hd _ hp)⟩
mutual
theorem At.sameQ {hp hp':Nat->Option Ob}{e:Nat}{p p0:AV}:∀ {t:Nd}{keys:List Nat}{pd:List AV}{w:Nat},At hp e p t keys pd w->isL 4 p->Sim hp hp' e (fun k=>k=zAP p∨k∈keys) p0->p ≠ p0->(∀ q j,q∈keys->AV.rp q 4 j 0 ≠ p0)->At hp' e p t keys pd w
 | .mk k t c ks,keys,pd,w,h,hl,hs,hne,hb=>by
  simp only[At]at h ⊢
  obtain⟨v,hc,h⟩:=h
  refine⟨v,by rw[hs.cell p (.inl rfl) hne hl,hc],?_⟩
  rcases h with h | h | ⟨q,rows,keys',h1,h2,h3,rfl,h5⟩
  ·exact .inl h
  ·exact .inr (.inl h)
  ·obtain⟨rows',h6,h7⟩:=hs.row q rows (.inr List.mem_cons_self) h2
   exact .inr (.inr ⟨q,rows',keys',h1,h6,h7.trans h3,rfl,LAt.sameQ h5 (hs.sub fun k hk=>.inr (List.mem_cons.2 hk)) (fun j _=>hb q j List.mem_cons_self) (fun q' j hm=>hb q' j (List.mem_cons_of_mem _ hm))⟩)
theorem LAt.sameQ {hp hp':Nat->Option Ob}{e q i:Nat}{p0:AV}:∀ {ts:List Nd}{keys:List Nat}{pd:List AV}{w:Nat},LAt hp e q i ts keys pd w->Sim hp hp' e (fun k=>k=q∨k∈keys) p0->(∀ j,i<=j->AV.rp q 4 j 0 ≠ p0)->(∀ q' j,q'∈keys->AV.rp q' 4 j 0 ≠ p0)->LAt hp' e q i ts keys pd w
 | [],_,_,_,h,_,_,_=>h
 | t::ts,keys,pd,w,h,hs,hne,hb=>by
  simp only[LAt]at h ⊢
  obtain⟨k1,k2,p1,p2,w1,w2,rfl,rfl,rfl,h1,h2⟩:=h
  exact⟨k1,k2,p1,p2,w1,w2,rfl,rfl,rfl,
   At.sameQ h1 (.inl ⟨q,i,rfl⟩) (hs.sub fun k hk=>hk.imp id (List.mem_append_left _)) (hne i (Nat.le_refl _)) (fun q' j hm=>hb q' j (List.mem_append_left _ hm)),
   LAt.sameQ h2 (hs.sub fun k hk=>hk.imp id (List.mem_append_right _)) (fun j hj=>hne j (by omega)) (fun q' j hm=>hb q' j (List.mem_append_right _ hm))⟩
end
theorem At.same {hp hp':Nat->Option Ob}{e:Nat}{p p0:AV}{t:Nd}{keys:List Nat}{pd:List AV}{w:Nat} (h:At hp e p t keys pd w) (hl:isL 4 p) (hs:Sim hp hp' e (fun k=>k=zAP p∨k∈keys) p0) (hne:p ≠ p0) (hb:zAP p0 ∉ keys):At hp' e p t keys pd w :=
 h.sameQ hl hs hne fun q j hm e=>hb (by rw[← e]; exact hm)
theorem LAt.same {hp hp':Nat->Option Ob}{e q i:Nat}{p0:AV}{ts:List Nd}{keys:List Nat}{pd:List AV}{w:Nat} (h:LAt hp e q i ts keys pd w) (hs:Sim hp hp' e (fun k=>k=q∨k∈keys) p0) (hne:∀ j,i<=j->AV.rp q 4 j 0 ≠ p0) (hb:zAP p0 ∉ keys):LAt hp' e q i ts keys pd w :=
 h.sameQ hs hne fun q j hm e=>hb (by rw[← e]; exact hm)
theorem Sim.same {hp hp':Nat->Option Ob}{e:Nat}{D:Nat->Prop}{p0:AV} (h:∀ k,D k->hp' k=hp k):Sim hp hp' e D p0 :=
 ⟨fun q rows hq hr=>⟨rows,(h q hq).trans hr,rfl⟩,fun p hp _ hl=>zBz hl (h _ hp)⟩
theorem At.frame {hp hp':Nat->Option Ob}{e:Nat}{p:AV}{t:Nd}{keys:List Nat}{pd:List AV}{w:Nat} (h:At hp e p t keys pd w) (hl:isL 4 p) (hs:∀ k,k=zAP p∨k∈keys->hp' k=hp k):At hp' e p t keys pd w :=
 h.sameQ hl (Sim.same (p0:=.junk) hs) (fun e=>by rcases hl with ⟨_,_,rfl⟩ | ⟨_,rfl⟩ <;> cases e) (fun q j _ e=>by cases e)
mutual
theorem At.base {hp:Nat->Option Ob}{e:Nat}{p p0:AV}:∀ {t:Nd}{keys:List Nat}{pd:List AV}{w:Nat},At hp e p t keys pd w->p0∈pd->p0=p∨zAP p0∈keys
 | .mk k t c ks,keys,pd,w,h,hm=>by
  simp only[At]at h
  obtain⟨v,_,⟨_,_,rfl,_⟩ | ⟨_,_,_,rfl,_⟩ | ⟨q,rows,keys',_,_,_,rfl,h⟩⟩:=h
  ·exact .inl (List.mem_singleton.1 hm)
  ·cases hm
  ·rcases LAt.base h hm with ⟨j,_,rfl⟩ | h
   ·exact .inr List.mem_cons_self
   ·exact .inr (List.mem_cons_of_mem _ h)
theorem LAt.base {hp:Nat->Option Ob}{e q i:Nat}{p0:AV}:∀ {ts:List Nd}{keys:List Nat}{pd:List AV}{w:Nat},LAt hp e q i ts keys pd w->p0∈pd->(∃ j,i<=j/\p0 = .rp q 4 j 0)∨zAP p0∈keys
 | [],keys,pd,w,h,hm=>by
  simp only[LAt]at h
  obtain⟨_,rfl,_⟩:=h
  cases hm
 | t::ts,keys,pd,w,h,hm=>by
  simp only[LAt]at h
  obtain⟨k1,k2,p1,p2,w1,w2,rfl,rfl,rfl,h1,h2⟩:=h
  rcases List.mem_append.1 hm with hm | hm
  ·rcases At.base h1 hm with rfl | hm
   ·exact .inl ⟨i,Nat.le_refl _,rfl⟩
   ·exact .inr (List.mem_append_left _ hm)
  ·rcases LAt.base h2 hm with ⟨j,hj,hm⟩ | hm
   ·exact .inl ⟨j,by omega,hm⟩
   ·exact .inr (List.mem_append_right _ hm)
end
mutual
theorem At.loc {hp:Nat->Option Ob}{e:Nat}{p p0:AV}:∀ {t:Nd}{keys:List Nat}{pd:List AV}{w:Nat},At hp e p t keys pd w->isL 4 p->p0∈pd->isL 4 p0
 | .mk k t c ks,keys,pd,w,h,hl,hm=>by
  simp only[At]at h
  obtain⟨v,_,⟨_,_,rfl,_⟩ | ⟨_,_,_,rfl,_⟩ | ⟨q,rows,keys',_,_,_,rfl,h⟩⟩:=h
  ·rw[List.mem_singleton.1 hm]; exact hl
  ·cases hm
  ·exact LAt.loc h hm
theorem LAt.loc {hp:Nat->Option Ob}{e q i:Nat}{p0:AV}:∀ {ts:List Nd}{keys:List Nat}{pd:List AV}{w:Nat},LAt hp e q i ts keys pd w->p0∈pd->isL 4 p0
 | [],keys,pd,w,h,hm=>by
  simp only[LAt]at h
  obtain⟨_,rfl,_⟩:=h
  cases hm
 | t::ts,keys,pd,w,h,hm=>by
  simp only[LAt]at h
  obtain⟨k1,k2,p1,p2,w1,w2,rfl,rfl,rfl,h1,h2⟩:=h
  rcases List.mem_append.1 hm with hm | hm
  ·exact At.loc h1 (.inl ⟨q,i,rfl⟩) hm
  ·exact LAt.loc h2 hm
end
theorem zQW {α:Type}{a b S:List α}{x:α} (h:a++b=S++[x]):(b=[]/\a=S++[x])∨∃ S2,b=S2++[x]/\S=a++S2:=by
 rcases List.eq_nil_or_concat b with rfl | ⟨b',y,rfl⟩
 ·exact .inl ⟨rfl,by simpa using h⟩
 ·rw[List.concat_eq_append,← List.append_assoc]at h;have:=List.append_inj' h rfl;obtain⟨h1,h2⟩:=this;cases h2;exact .inr ⟨b',List.concat_eq_append,h1.symm⟩
def Repl (hp:Nat->Option Ob) (e:Nat) (p0:AV) (S:List AV) (w:Nat) (D:Nat->Prop) (keys:List Nat) (P:(Nat->Option Ob)->List Nat->List AV->Nat->Prop):Prop :=
 ∃ t0 w0,At hp e p0 t0 [] [p0] t0.cnt/\w=w0+t0.cnt/\∀ hp' new ch w',Sim hp hp' e D p0->At hp' e p0 t0 new ch w'->∃ keys2,keys2.Perm (keys++new)/\P hp' keys2 (S++ch) (w0+w')
theorem zRh {a b n:List Nat}{k2:List Nat} (h:k2.Perm (a++n)):(k2++b).Perm (a++b++n) :=
 (h.append_right b).trans (by rw[List.append_assoc,List.append_assoc]; exact(List.perm_append_comm).append_left a)
mutual
theorem At.repl {hp:Nat->Option Ob}{e:Nat}{p p0:AV}{S:List AV}:∀ {t:Nd}{keys:List Nat}{w:Nat},At hp e p t keys (S++[p0]) w->isL 4 p->(zAP p::keys).Nodup ->
  Repl hp e p0 S w (fun k=>k=zAP p∨k∈keys) keys fun hp' keys2 pd w=>At hp' e p t keys2 pd w
 | .mk k t c ks,keys,w,h,hl,hn=>by
  have h0:=h
  simp only[At]at h
  obtain⟨v,hc,⟨rfl,rfl,h2,rfl⟩ | ⟨_,_,_,h2,_⟩ | ⟨q,rows,keys',rfl,hq,hlen,rfl,h⟩⟩:=h
  ·cases S with
   | cons x S=>cases S <;> simp at h2
   | nil =>
    obtain rfl:p0=p:=by simpa using h2
    refine⟨.mk k t c ks,0,h0,by simp[Nd.cnt],fun hp' new ch w' _ ha=>⟨new,by simp,by simpa using ha⟩⟩
  ·simp at h2
  ·have hn2:=List.nodup_cons.1 hn
   have hb:zAP p0∈q::keys':=by
    rcases LAt.base h (p0:=p0) (by simp) with ⟨j,_,rfl⟩ | h
    ·exact List.mem_cons_self
    ·exact List.mem_cons_of_mem _ h
   have hne:p ≠ p0:=fun e=>hn2.1 (by rw[e]; exact hb)
   obtain⟨t0,w0,r1,r2,r3⟩:=LAt.repl h hn2.2
   refine⟨t0,w0,r1,r2,fun hp' new ch w' hs ha=>?_⟩
   obtain⟨rows',h6,h7⟩:=hs.row q rows (.inr List.mem_cons_self) hq
   obtain⟨keys2,hp2,hl2⟩:=r3 hp' new ch w' (hs.sub fun k hk=>.inr (List.mem_cons.2 hk)) ha
   refine⟨q::keys2,by simpa using hp2,?_⟩
   simp only[At]
   exact⟨.orow q,by rw[hs.cell p (.inl rfl) hne hl,hc],.inr (.inr ⟨q,rows',keys2,rfl,h6,h7.trans hlen,rfl,hl2⟩)⟩
theorem LAt.repl {hp:Nat->Option Ob}{e q i:Nat}{p0:AV}{S:List AV}:∀ {ts:List Nd}{keys:List Nat}{w:Nat},LAt hp e q i ts keys (S++[p0]) w->(q::keys).Nodup ->
  Repl hp e p0 S w (fun k=>k=q∨k∈keys) keys fun hp' keys2 pd w=>LAt hp' e q i ts keys2 pd w
 | [],keys,w,h,hn=>by
  simp only[LAt]at h
  simp at h
 | t::ts,keys,w,h,hn=>by
  simp only[LAt]at h
  obtain⟨k1,k2,p1,p2,w1,w2,rfl,hpd,rfl,h1,h2⟩:=h
  obtain⟨hq,hn2⟩:=List.nodup_cons.1 hn
  obtain⟨n1,n2,n12⟩:=List.nodup_append.1 hn2
  have hq1:q ∉ k1:=fun h=>hq (List.mem_append_left _ h)
  have hq2:q ∉ k2:=fun h=>hq (List.mem_append_right _ h)
  rcases zQW hpd.symm with ⟨rfl,rfl⟩ | ⟨S2,rfl,rfl⟩
  ·have hb:=At.base h1 (p0:=p0) (by simp)
   obtain⟨t0,w0,r1,r2,r3⟩:=At.repl h1 (.inl ⟨q,i,rfl⟩) (List.nodup_cons.2 ⟨hq1,n1⟩)
   refine⟨t0,w0+w2,r1,by omega,fun hp' new ch w' hs ha=>?_⟩
   obtain⟨keys2,hp2,hl2⟩:=r3 hp' new ch w' (hs.sub fun k hk=>hk.imp id (List.mem_append_left _)) ha
   refine⟨keys2++k2,zRh hp2,?_⟩
   simp only[LAt]
   refine⟨keys2,k2,S++ch,[],w0+w',w2,rfl,by simp,by omega,hl2,?_⟩
   refine LAt.same h2 (hs.sub fun k hk=>hk.imp id (List.mem_append_right _)) (fun j hj e=>?_) (fun hm=>?_)
   ·rcases hb with rfl | hb
    ·cases e; omega
    ·rw[← e]at hb; exact hq1 hb
   ·rcases hb with rfl | hb
    ·exact hq2 hm
    ·exact n12 _ hb _ hm rfl
  ·have hb:=LAt.base h2 (p0:=p0) (by simp)
   obtain⟨t0,w0,r1,r2,r3⟩:=LAt.repl h2 (List.nodup_cons.2 ⟨hq2,n2⟩)
   refine⟨t0,w1+w0,r1,by omega,fun hp' new ch w' hs ha=>?_⟩
   obtain⟨keys2,hp2,hl2⟩:=r3 hp' new ch w' (hs.sub fun k hk=>hk.imp id (List.mem_append_right _)) ha
   refine⟨k1++keys2,by rw[List.append_assoc]; exact hp2.append_left k1,?_⟩
   simp only[LAt]
   refine⟨k1,keys2,p1,S2++ch,w1,w0+w',rfl,by simp,by omega,?_,hl2⟩
   refine At.same h1 (.inl ⟨q,i,rfl⟩) (hs.sub fun k hk=>hk.imp id (List.mem_append_left _)) (fun e=>?_) (fun hm=>?_)
   ·rcases hb with ⟨j,hj,hb⟩ | hb
    ·rw[hb]at e; cases e; omega
    ·rw[← e]at hb; exact hq2 hb
   ·rcases hb with ⟨j,hj,rfl⟩ | hb
    ·exact hq1 hm
    ·exact n12 _ hm _ hb rfl
end
theorem Sim.put {hp hp':Nat->Option Ob}{e:Nat}{D:Nat->Prop}{p0:AV}{c cs:List AV} (hl:isL 4 p0) (hc:zAA hp p0=some cs) (h:∀ k,D k->hp' k=putC hp p0 c k):Sim hp hp' e D p0 :=
 ⟨fun q rows hq hr=>by rw[h q hq]; exact zRi hl hc hr,fun p hp hne hl'=>(zBz hl' (h _ hp)).trans (zQw hl hc hl' hne)⟩
def locs (q i n:Nat):List AV:=(List.range' i n).map fun j=>.rp q 4 j 0
theorem LAt.fresh {hp:Nat->Option Ob}{e q:Nat}:∀ {ts:List Nd}{i:Nat},(∀ j x,ts[j]? = some x->zAA hp (.rp q 4 (i+j) 0)=some (x.enc.map AV.s))->LAt hp e q i ts [] (locs q i ts.length) (Nd.cnts ts)
 | [],i,_=>by simp[LAt,locs,Nd.cnts]
 | .mk k t c ks::ts,i,h=>by
  simp only[LAt]
  refine⟨[],[],[.rp q 4 i 0],locs q (i+1) ts.length,Nd.cnts ks+1,Nd.cnts ts,rfl,by simp[locs,List.range'_succ],by simp[Nd.cnts,Nd.cnt],?_,LAt.fresh fun j x hj=>?_⟩
  ·simp only[At]
   exact⟨.s (.sl 4 (Nd.encs ks)),h 0 (.mk k t c ks) rfl,.inl (by simp)⟩
  ·rw[show i+1+j=i+(j+1) by omega]; exact h (j+1) x (by simpa using hj)
theorem LAt.copied {hp:Nat->Option Ob}{e q:Nat}{ts:List Nd} (h:hp q=some (.arow e 4 ((Nd.encs ts).map (·.map AV.s)))):LAt hp e q 0 ts [] (locs q 0 ts.length) (Nd.cnts ts) :=
 LAt.fresh fun j x hj=>by
  rw[zDp h,Nat.zero_add,Nd.encs_eq,List.map_map,List.getElem?_map,hj]; rfl
theorem zOC {hp:Nat->Option Ob}:∀ {rows:List (List AV)}{rs:List (List S)},(∀ (j:Nat) r s,rows[j]? = some r->rs[j]? = some s->r.length=s.length/\∀ (i:Nat) x y,r[i]? = some x->s[i]? = some y->Rd hp x y)->∀ (i:Nat) x y,rows.flatten[i]? = some x->rs.flatten[i]? = some y->Rd hp x y
 | [],_,_,_,_,_,h,_=>by simp at h
 | _::_,[],_,_,_,_,_,h=>by simp at h
 | r::rows,s::rs,h,i,x,y,hx,hy=>by
  obtain⟨hl,h0⟩:=h 0 r s (by simp) (by simp)
  rw[List.flatten_cons,List.getElem?_append]at hx hy
  by_cases hi:i<r.length
  ·rw[if_pos hi]at hx;rw[if_pos (hl ▸ hi)]at hy;exact h0 i x y hx hy
  ·rw[if_neg hi]at hx;rw[if_neg (hl ▸ hi),← hl]at hy;exact zOC (fun j r s hr hs=>h (j+1) r s (by simpa using hr) (by simpa using hs)) _ x y hx hy
def RdC (hp:Nat->Option Ob) (cs:List AV) (ss:List S):Prop:=cs.length=ss.length/\∀ (i:Nat) x y,cs[i]? = some x->ss[i]? = some y->Rd hp x y
theorem RdC.node {hp:Nat->Option Ob}{k:Int}{t:List UInt8}{c:Int}{ks:List Nd}{v:AV} (h:Rd hp v (.sl 4 (Nd.encs ks))):RdC hp (zAK k t c v) (Nd.enc (.mk k t c ks)) :=
 ⟨rfl,fun i x y hx hy=>by
  match i with
  | 0=>cases hx; cases hy; exact .s _
  | 1=>cases hx; cases hy; exact .s _
  | 2=>cases hx; cases hy; exact .s _
  | 3=>cases hx; cases hy; exact h
  | i+4=>simp[zAK]at hx⟩
theorem Rd.rows {hp:Nat->Option Ob}{q e:Nat}{rows:List (List AV)}{ks:List Nd} (hq:hp q=some (.arow e 4 rows)) (hl:rows.length=ks.length) (h:∀ j x,ks[j]? = some x->∃ cs,zAA hp (.rp q 4 j 0)=some cs/\RdC hp cs x.enc):Rd hp (.orow q) (.sl 4 (Nd.encs ks)):=by
 rw[Nd.encs_eq]
 refine .arow hq (by simpa using hl) (fun r hr=>?_) (zOC fun j r s hr hs=>?_)
 ·obtain⟨x,_,rfl⟩:=List.mem_map.1 hr;cases x; rfl
 ·rw[List.getElem?_map]at hs;cases hx:ks[j]? with
  | none=>rw[hx]at hs; cases hs
  | some x =>
   rw[hx]at hs; cases hs
   obtain⟨cs,h1,h2⟩:=h j x hx;rw[zDp hq,hr]at h1;cases h1;exact h2
mutual
theorem At.rd {hp:Nat->Option Ob}{e:Nat}{p:AV}:∀ {t:Nd}{keys:List Nat}{pd:List AV}{w:Nat},At hp e p t keys pd w->∃ cs,zAA hp p=some cs/\RdC hp cs t.enc
 | .mk k t c ks,keys,pd,w,h=>by
  simp only[At]at h
  obtain⟨v,hc,⟨rfl,_⟩ | ⟨rfl,rfl,_⟩ | ⟨q,rows,keys',rfl,hq,hlen,rfl,h⟩⟩:=h
  ·exact⟨_,hc,.node (.s _)⟩
  ·exact⟨_,hc,.node (.s _)⟩
  ·exact⟨_,hc,.node (Rd.rows hq hlen fun j x hj=>(by have:=LAt.rd h j x hj; rwa [Nat.zero_add]at this))⟩
theorem LAt.rd {hp:Nat->Option Ob}{e q i:Nat}:∀ {ts:List Nd}{keys:List Nat}{pd:List AV}{w:Nat},LAt hp e q i ts keys pd w->∀ j x,ts[j]? = some x->∃ cs,zAA hp (.rp q 4 (i+j) 0)=some cs/\RdC hp cs x.enc
 | [],keys,pd,w,h,j,x,hj=>by simp at hj
 | t::ts,keys,pd,w,h,0,x,hj=>by
  simp only[LAt]at h
  obtain⟨k1,k2,p1,p2,w1,w2,rfl,rfl,rfl,h1,h2⟩:=h
  cases hj
  exact At.rd h1
 | t::ts,keys,pd,w,h,j+1,x,hj=>by
  simp only[LAt]at h
  obtain⟨k1,k2,p1,p2,w1,w2,rfl,rfl,rfl,h1,h2⟩:=h
  rw[show i+(j+1)=i+1+j by omega]
  exact LAt.rd h2 j x (by simpa using hj)
end
theorem zO2 {hp:Nat->Option Ob}{cs:List AV}{t:Nd} (h:RdC hp cs t.enc):RdV hp (.agg cs) (.agg (t.enc.map AV.s)):=by
 refine⟨by simpa using h.1,fun i x y hx hy=>?_⟩
 rw[List.getElem?_map]at hy;cases hs:t.enc[i]? with
 | none=>rw[hs]at hy; cases hy
 | some s=>rw[hs]at hy; cases hy; exact⟨s,rfl,h.2 i x s hx hs⟩
def Hole (hp:Nat->Option Ob) (e:Nat) (p:AV) (keys:List Nat) (p1:AV) (y:Nd) (F:Nd->Nd):Prop :=
 ∃ keys0 rest w0,keys.Perm (keys0++rest)/\At hp e p1 y keys0 [] w0/\isL 4 p1/\(p1=p∨zAP p1∈rest) /\
  ∀ hp' t1 new w1,Sim hp hp' e (fun k=>k=zAP p∨k∈rest) p1->At hp' e p1 t1 new [] w1->∃ keys2 w2,keys2.Perm (rest++new)/\At hp' e p (F t1) keys2 [] w2
theorem Hole.refl {hp:Nat->Option Ob}{e w:Nat}{p:AV}{t:Nd}{keys:List Nat} (h:At hp e p t keys [] w) (hl:isL 4 p):Hole hp e p keys p t id :=
 ⟨keys,[],w,by simp,h,hl,.inl rfl,fun hp' t1 new w1 _ h1=>⟨new,w1,by simp,h1⟩⟩
theorem LAt.hole {hp:Nat->Option Ob}{e q:Nat}{x:Nd}:∀ {ts:List Nd}{keys:List Nat}{w i j:Nat},LAt hp e q i ts keys [] w->(q::keys).Nodup->ts[j]? = some x ->
  ∃ keys0 rest w0,keys.Perm (keys0++rest)/\At hp e (.rp q 4 (i+j) 0) x keys0 [] w0/\∀ hp' t1 new w1,Sim hp hp' e (fun k=>k=q∨k∈rest) (.rp q 4 (i+j) 0)->At hp' e (.rp q 4 (i+j) 0) t1 new [] w1 ->
   ∃ keys2 w2,keys2.Perm (rest++new)/\LAt hp' e q i (ts.set j t1) keys2 [] w2
 | [],keys,w,i,j,h,hn,hx=>by simp at hx
 | t::ts,keys,w,i,0,h,hn,hx=>by
  simp only[LAt]at h;obtain⟨k1,k2,p1,p2,w1,w2,rfl,hpd,rfl,h1,h2⟩:=h;obtain⟨rfl,rfl⟩:=List.append_eq_nil_iff.1 hpd.symm;cases hx;have hq:=(List.nodup_cons.1 hn).1;refine⟨k1,k2,w1,List.Perm.refl _,h1,fun hp' t1 new w3 hs h3=>⟨new++k2,w3+w2,List.perm_append_comm,?_⟩⟩
  simp only[List.set_cons_zero,LAt]
  exact⟨new,k2,[],[],w3,w2,rfl,rfl,rfl,h3,LAt.same h2 hs (fun j hj e=>by cases e; omega) (fun hm=>hq (List.mem_append_right _ hm))⟩
 | t::ts,keys,w,i,j+1,h,hn,hx=>by
  simp only[LAt]at h;obtain⟨k1,k2,p1,p2,w1,w2,rfl,hpd,rfl,h1,h2⟩:=h;obtain⟨rfl,rfl⟩:=List.append_eq_nil_iff.1 hpd.symm;obtain⟨hq,hn2⟩:=List.nodup_cons.1 hn;obtain⟨n1,n2,_⟩:=List.nodup_append.1 hn2;obtain⟨keys0,rest,w0,r1,r2,r3⟩:=LAt.hole (i:=i+1) (j:=j) h2 (List.nodup_cons.2 ⟨fun hm=>hq (List.mem_append_right _ hm),n2⟩) (by simpa using hx)
  rw[show i+1+j=i+(j+1) by omega]at r2 r3;refine⟨keys0,k1++rest,w0,List.perm_iff_count.2 fun a=>?_,r2,fun hp' t1 new w3 hs h3=>?_⟩
  ·have:=r1.count_eq a;simp only[List.count_append]at this ⊢
   omega
  ·obtain⟨keys2,w4,q1,q2⟩:=r3 hp' t1 new w3 (hs.sub fun k hk=>hk.imp id (List.mem_append_right _)) h3;refine⟨k1++keys2,w1+w4,by rw[List.append_assoc]; exact q1.append_left k1,?_⟩
   simp only[List.set_cons_succ,LAt]
   exact⟨k1,keys2,[],[],w1,w4,rfl,rfl,rfl,At.same h1 (.inl ⟨q,i,rfl⟩) (hs.sub fun k hk=>hk.imp id (List.mem_append_left _)) (fun e=>by injection e with e1 e2 e3 e4; omega) (fun hm=>hq (List.mem_append_left _ hm)),q2⟩
theorem Hole.kid {hp:Nat->Option Ob}{e w i:Nat}{p:AV}{k c:Int}{tx:List UInt8}{ks:List Nd}{x:Nd}{keys:List Nat} (h:At hp e p (.mk k tx c ks) keys [] w) (hl:isL 4 p) (hn:(zAP p::keys).Nodup) (hx:ks[i]? = some x) :
  ∃ q rows,zAA hp p=some (zAK k tx c (.orow q))/\hp q=some (.arow e 4 rows)/\rows.length=ks.length/\Hole hp e p keys (.rp q 4 i 0) x (fun x'=>.mk k tx c (ks.set i x')):=by
 simp only[At]at h;obtain⟨v,hc,⟨_,_,h,_⟩ | ⟨rfl,_⟩ | ⟨q,rows,keys',rfl,hq,hlen,rfl,h⟩⟩:=h
 ·cases h
 ·simp at hx
 ·obtain⟨hb,hn2⟩:=List.nodup_cons.1 hn;obtain⟨keys0,rest,w0,r1,r2,r3⟩:=LAt.hole h hn2 hx;rw[Nat.zero_add]at r2 r3;refine⟨q,rows,hc,hq,hlen,keys0,q::rest,w0,List.perm_iff_count.2 fun a=>?_,r2,.inl ⟨q,i,rfl⟩,.inr List.mem_cons_self,fun hp' t1 new w1 hs h1=>?_⟩
  ·have:=r1.count_eq a;simp only[List.count_append,List.count_cons]at this ⊢
   omega
  ·obtain⟨rows',g1,g2⟩:=hs.row q rows (.inr List.mem_cons_self) hq;obtain⟨keys2,w2,q1,q2⟩:=r3 hp' t1 new w1 (hs.sub fun k hk=>.inr (List.mem_cons.2 hk)) h1;refine⟨q::keys2,w2,by simpa using q1,?_⟩
   simp only[At]
   refine⟨.orow q,by rw[hs.cell p (.inl rfl) (fun e=>hb (by rw[e]; exact List.mem_cons_self)) hl,hc],.inr (.inr ⟨q,rows',keys2,rfl,g1,by rw[g2,hlen,List.length_set],rfl,q2⟩)⟩
theorem Hole.trans {hp:Nat->Option Ob}{e:Nat}{p p1 p2:AV}{y z:Nd}{keys:List Nat}{F F2:Nd->Nd} (hn:(zAP p::keys).Nodup) (h:Hole hp e p keys p1 y F) (k:∀ keys0 w0,At hp e p1 y keys0 [] w0->isL 4 p1->(zAP p1::keys0).Nodup->Hole hp e p1 keys0 p2 z F2):Hole hp e p keys p2 z (fun x=>F (F2 x)):=by
 obtain⟨keys0,rest,w0,a1,a2,a3,a4,a5⟩:=h;obtain⟨hb,hnk⟩:=List.nodup_cons.1 hn;obtain⟨n0,n1,n01⟩:=List.nodup_append.1 (a1.nodup_iff.1 hnk)
 have hb1:zAP p1 ∉ keys0:=fun hm=>by
  rcases a4 with rfl | a4
  ·exact hb (a1.mem_iff.2 (List.mem_append_left _ hm))
  ·exact n01 _ hm _ a4 rfl
 obtain⟨keys1,rest1,w1,b1,b2,b3,b4,b5⟩:=k keys0 w0 a2 a3 (List.nodup_cons.2 ⟨hb1,n0⟩)
 refine⟨keys1,rest1++rest,w1,List.perm_iff_count.2 fun a=>?_,b2,b3,?_,fun hp' t1 new w2 hs h2=>?_⟩
 ·have:=a1.count_eq a;have:=b1.count_eq a;simp only[List.count_append]at *
  omega
 ·rcases b4 with rfl | b4
  ·exact a4.imp id (List.mem_append_right _)
  ·exact .inr (List.mem_append_left _ b4)
 ·have hp1:zAP p1=zAP p∨zAP p1∈rest:=a4.imp (fun e=>by rw[e]) id;obtain⟨keysA,wA,q1,q2⟩:=b5 hp' t1 new w2 (hs.sub fun k hk=>by
   rcases hk with rfl | hk
   ·exact hp1.imp id (List.mem_append_right _)
   ·exact .inr (List.mem_append_left _ hk)) h2
  have hs1:Sim hp hp' e (fun k=>k=zAP p∨k∈rest) p1:=⟨fun q rows hq=>hs.row q rows (hq.imp id (List.mem_append_right _)),fun p' hp' hne hl'=>by
   by_cases e2:p'=p2
   ·subst e2;rcases b4 with b4 | b4
    ·exact absurd b4 hne
    ·exfalso
     have hm:zAP p'∈keys0:=b1.mem_iff.2 (List.mem_append_right _ b4)
     rcases hp' with h3 | h3
     ·exact hb (a1.mem_iff.2 (List.mem_append_left _ (by rw[← h3]; exact hm)))
     ·exact n01 _ hm _ h3 rfl
   ·exact hs.cell p' (hp'.imp id (List.mem_append_right _)) e2 hl'⟩
  obtain⟨keysB,wB,q3,q4⟩:=a5 hp' (F2 t1) keysA wA hs1 q2;refine⟨keysB,wB,List.perm_iff_count.2 fun a=>?_,q4⟩
  have:=q1.count_eq a;have:=q3.count_eq a;simp only[List.count_append]at *
  omega
def tab:List (Nat×TI):=[
 (3,⟨.int .i64,1,8,[.int .i64 0]⟩),
 (4,⟨.bool,1,1,[.bool false]⟩),
 (9,⟨.str,1,16,[.str []]⟩),
 (22,⟨.slice 24,1,24,[.sl 4 []]⟩),
 (24,⟨.struct [(0,3),(1,9),(2,3),(3,22)],4,56,[.int .i64 0,.str [],.int .i64 0,.sl 4 []]⟩),
 (33,⟨.slice 3,1,24,[.sl 1 []]⟩),
 (35,⟨.struct [(0,3),(1,33),(2,3),(3,3),(4,22),(5,3),(6,9),(7,9)],8,112,[.int .i64 0,.sl 1 [],.int .i64 0,.int .i64 0,.sl 4 [],.int .i64 0,.str [],.str []]⟩),
 (36,⟨.slice 35,1,24,[.sl 8 []]⟩),
 (38,⟨.struct [(0,33),(1,33)],2,48,[.sl 1 [],.sl 1 []]⟩),
 (40,⟨.struct [(0,36),(1,38),(3,38)],5,120,[.sl 8 [],.sl 1 [],.sl 1 [],.sl 1 [],.sl 1 []]⟩)]
def T (t:Nat):Option TI:=look? t tab
theorem zSM:∀ p∈tab,okT Try.prog p.1 p.2:=by
 simp only[tab,List.forall_mem_cons]
 refine⟨?_,?_,?_,?_,?_,?_,?_,?_,?_,?_,by simp⟩
 ·exact⟨_,Try.t3,_,Try.underlying3,rfl,by kernel_rfl,rfl,rfl,rfl,rfl,rfl,fun _=>rfl,rfl⟩
 ·exact⟨_,Try.t4,_,Try.underlying4,rfl,by kernel_rfl,rfl,rfl,rfl,rfl,rfl,fun _=>rfl,rfl⟩
 ·exact⟨_,Try.t9,_,Try.underlying9,rfl,by kernel_rfl,rfl,rfl,rfl,rfl,rfl,fun _=>rfl,rfl⟩
 ·exact⟨_,Try.t22,_,Try.underlying22,rfl,by kernel_rfl,rfl,rfl,rfl,rfl,rfl,fun _=>rfl,rfl⟩
 ·exact⟨_,Try.t24,_,Try.underlying24,rfl,by kernel_rfl,rfl,rfl,rfl,rfl,rfl,(fun h=>by cases h),rfl⟩
 ·exact⟨_,Try.t33,_,Try.underlying33,rfl,by kernel_rfl,rfl,rfl,rfl,rfl,rfl,fun _=>rfl,rfl⟩
 ·exact⟨_,Try.t35,_,Try.underlying35,rfl,by kernel_rfl,rfl,rfl,rfl,rfl,rfl,(fun h=>by cases h),rfl⟩
 ·exact⟨_,Try.t36,_,Try.underlying36,rfl,by kernel_rfl,rfl,rfl,rfl,rfl,rfl,fun _=>rfl,rfl⟩
 ·exact⟨_,Try.t38,_,Try.underlying38,rfl,by kernel_rfl,rfl,rfl,rfl,rfl,rfl,(fun h=>by cases h),rfl⟩
 ·exact⟨_,Try.t40,_,Try.underlying40,rfl,by kernel_rfl,rfl,rfl,rfl,rfl,rfl,(fun h=>by cases h),rfl⟩
theorem tok:TOk Try.prog T:=zRM zSM
theorem tcl:∀ t i,T t=some i->zCp T i=true:=zPY (by rfl)
def tabX:List (Nat×TI):=[
 (5,⟨.int .u8,1,1,[.int .u8 0]⟩),
 (29,⟨.ptr 57,1,8,[.np]⟩),
 (30,⟨.int .i64,1,8,[.int .i64 0]⟩),
 (42,⟨.slice 40,1,24,[.sl 5 []]⟩),
 (46,⟨.fn,1,8,[.nf]⟩),
 (57,⟨.struct [(0,24),(4,24),(8,42),(9,3)],10,144,[.int .i64 0,.str [],.int .i64 0,.sl 4 [],.int .i64 0,.str [],.int .i64 0,.sl 4 [],.sl 5 [],.int .i64 0]⟩),
 (62,⟨.arr 13 9,13,208,[.str [],.str [],.str [],.str [],.str [],.str [],.str [],.str [],.str [],.str [],.str [],.str [],.str []]⟩),
 (68,⟨.ptr 75,1,8,[.np]⟩),
 (69,⟨.fn,1,8,[.nf]⟩),
 (71,⟨.struct [(0,9),(1,3),(2,69)],3,32,[.str [],.int .i64 0,.nf]⟩),
 (72,⟨.arr 13 71,39,416,[.str [],.int .i64 0,.nf,.str [],.int .i64 0,.nf,.str [],.int .i64 0,.nf,.str [],.int .i64 0,.nf,.str [],.int .i64 0,.nf,.str [],.int .i64 0,.nf,.str [],.int .i64 0,.nf,.str [],.int .i64 0,.nf,.str [],.int .i64 0,.nf,.str [],.int .i64 0,.nf,.str [],.int .i64 0,.nf,.str [],.int .i64 0,.nf,.str [],.int .i64 0,.nf]⟩),
 (75,⟨.struct [(0,72),(39,3)],40,424,[.str [],.int .i64 0,.nf,.str [],.int .i64 0,.nf,.str [],.int .i64 0,.nf,.str [],.int .i64 0,.nf,.str [],.int .i64 0,.nf,.str [],.int .i64 0,.nf,.str [],.int .i64 0,.nf,.str [],.int .i64 0,.nf,.str [],.int .i64 0,.nf,.str [],.int .i64 0,.nf,.str [],.int .i64 0,.nf,.str [],.int .i64 0,.nf,.str [],.int .i64 0,.nf,.int .i64 0]⟩),
 (77,⟨.ptr 24,1,8,[.np]⟩),
 (78,⟨.slice 77,1,24,[.sl 1 []]⟩),
 (81,⟨.slice 5,1,24,[.sl 1 []]⟩),
 (82,⟨.fn,1,8,[.nf]⟩),
 (83,⟨.fn,1,8,[.nf]⟩),
 (88,⟨.slice 9,1,24,[.sl 1 []]⟩),
 (96,⟨.struct [(0,35),(8,22)],9,136,[.int .i64 0,.sl 1 [],.int .i64 0,.int .i64 0,.sl 4 [],.int .i64 0,.str [],.str [],.sl 4 []]⟩),
 (99,⟨.fn,1,8,[.nf]⟩),
 (116,⟨.int .u64,1,8,[.int .u64 0]⟩),
 (117,⟨.slice 22,1,24,[.sl 1 []]⟩),
 (119,⟨.int .u32,1,4,[.int .u32 0]⟩)]
theorem zSL:∀ p∈tabX,okT Try.prog p.1 p.2:=by
 simp only[tabX,List.forall_mem_cons]
 refine⟨?_,?_,?_,?_,?_,?_,?_,?_,?_,?_,?_,?_,?_,?_,?_,?_,?_,?_,?_,?_,?_,?_,?_,by simp⟩
 ·exact⟨_,Try.t5,_,Try.underlying5,rfl,by kernel_rfl,rfl,rfl,rfl,rfl,rfl,fun _=>rfl,rfl⟩
 ·exact⟨_,Try.t29,_,Try.underlying29,rfl,by kernel_rfl,rfl,rfl,rfl,rfl,rfl,fun _=>rfl,rfl⟩
 ·exact⟨_,Try.t30,_,Try.underlying30,rfl,by kernel_rfl,rfl,rfl,rfl,rfl,rfl,fun _=>rfl,rfl⟩
 ·exact⟨_,Try.t42,_,Try.underlying42,rfl,by kernel_rfl,rfl,rfl,rfl,rfl,rfl,fun _=>rfl,rfl⟩
 ·exact⟨_,Try.t46,_,Try.underlying46,rfl,by kernel_rfl,rfl,rfl,rfl,rfl,rfl,fun _=>rfl,rfl⟩
 ·exact⟨_,Try.t57,_,Try.underlying57,rfl,by kernel_rfl,rfl,rfl,rfl,rfl,rfl,(fun h=>by cases h),rfl⟩
 ·exact⟨_,Try.t62,_,Try.underlying62,rfl,by kernel_rfl,rfl,rfl,rfl,rfl,rfl,(fun h=>by cases h),rfl⟩
 ·exact⟨_,Try.t68,_,Try.underlying68,rfl,by kernel_rfl,rfl,rfl,rfl,rfl,rfl,fun _=>rfl,rfl⟩
 ·exact⟨_,Try.t69,_,Try.underlying69,rfl,by kernel_rfl,rfl,rfl,rfl,rfl,rfl,fun _=>rfl,rfl⟩
 ·exact⟨_,Try.t71,_,Try.underlying71,rfl,by kernel_rfl,rfl,rfl,rfl,rfl,rfl,(fun h=>by cases h),rfl⟩
 ·exact⟨_,Try.t72,_,Try.underlying72,rfl,by kernel_rfl,rfl,rfl,rfl,rfl,rfl,(fun h=>by cases h),rfl⟩
 ·exact⟨_,Try.t75,_,Try.underlying75,rfl,by kernel_rfl,rfl,rfl,rfl,rfl,rfl,(fun h=>by cases h),rfl⟩
 ·exact⟨_,Try.t77,_,Try.underlying77,rfl,by kernel_rfl,rfl,rfl,rfl,rfl,rfl,fun _=>rfl,rfl⟩
 ·exact⟨_,Try.t78,_,Try.underlying78,rfl,by kernel_rfl,rfl,rfl,rfl,rfl,rfl,fun _=>rfl,rfl⟩
 ·exact⟨_,Try.t81,_,Try.underlying81,rfl,by kernel_rfl,rfl,rfl,rfl,rfl,rfl,fun _=>rfl,rfl⟩
 ·exact⟨_,Try.t82,_,Try.underlying82,rfl,by kernel_rfl,rfl,rfl,rfl,rfl,rfl,fun _=>rfl,rfl⟩
 ·exact⟨_,Try.t83,_,Try.underlying83,rfl,by kernel_rfl,rfl,rfl,rfl,rfl,rfl,fun _=>rfl,rfl⟩
 ·exact⟨_,Try.t88,_,Try.underlying88,rfl,by kernel_rfl,rfl,rfl,rfl,rfl,rfl,fun _=>rfl,rfl⟩
 ·exact⟨_,Try.t96,_,Try.underlying96,rfl,by kernel_rfl,rfl,rfl,rfl,rfl,rfl,(fun h=>by cases h),rfl⟩
 ·exact⟨_,Try.t99,_,Try.underlying99,rfl,by kernel_rfl,rfl,rfl,rfl,rfl,rfl,fun _=>rfl,rfl⟩
 ·exact⟨_,Try.t116,_,Try.underlying116,rfl,by kernel_rfl,rfl,rfl,rfl,rfl,rfl,fun _=>rfl,rfl⟩
 ·exact⟨_,Try.t117,_,Try.underlying117,rfl,by kernel_rfl,rfl,rfl,rfl,rfl,rfl,fun _=>rfl,rfl⟩
 ·exact⟨_,Try.t119,_,Try.underlying119,rfl,by kernel_rfl,rfl,rfl,rfl,rfl,rfl,fun _=>rfl,rfl⟩
def TW (t:Nat):Option TI:=look? t (tab++tabX)
theorem tokW:TOk Try.prog TW:=zRM fun p hp=>(List.mem_append.1 hp).elim (zSM p) (zSL p)
theorem mixed:Try.prog.follows .mixedOrders=true:=by kernel_rfl
end Go.Proofs.Ytffhjiplcfncdaa
namespace Go.Proofs
set_option maxHeartbeats 1000000 in
theorem Try.stringslite_IndexByte (s:ByteArray) (c:Int) (w:World) :
  Calls Try.prog 85 #[.string s,.int .u8 c] w fun e w'=>e = .returned (.int .i64 (Lib.indexByte s.data.toList c.toNat.toUInt8))/\w'=w:=by
 go_enter Try.func85,Try.ntmps85
 go_wp2
 rw[run_callFunc_extern Try.func92 (by kernel_rfl) (by kernel_rfl) (by kernel_rfl) (e:=Extern.BytealgIndexByte.indexByte) (by kernel_rfl),Lib.run_indexByteString]
 simp only[Result.andThen]
 rw[Oper.upon_value]
 go_wp2
 go_ret
 exact⟨rfl,rfl⟩
theorem Try.stringslite_Index_one (s:ByteArray) (c:UInt8) (w:World) :
  Calls Try.prog 91 #[.string s,.string ⟨#[c]⟩] w fun e w'=>e = .returned (.int .i64 (Lib.indexByte s.data.toList c))/\w'=w:=by
 go_enter Try.func91,Try.ntmps91
 go_wp2_with (go_at_call 85; refine(Try.stringslite_IndexByte _ _ _).mono ?_; rintro e w' ⟨rfl,rfl⟩)
 ·have h:([c] == s.toList)=true:=by assumption
  go_ret
  refine⟨?_,rfl⟩
  have e:s.data.toList=[c] :=(by rw[← Lib.toList_data]; exact(beq_iff_eq.1 h).symm);rw[e]
  simp[Lib.indexByte]
 ·go_ret
  exact⟨rfl,rfl⟩
set_option maxHeartbeats 1000000 in
theorem Try.strings_IndexByte (s:ByteArray) (c:Int) (w:World) :
  Calls Try.prog 72 #[.string s,.int .u8 c] w fun e w'=>e = .returned (.int .i64 (Lib.indexByte s.data.toList c.toNat.toUInt8))/\w'=w:=by
 go_enter Try.func72,Try.ntmps72
 go_wp2_with (go_at_call 85; refine(Try.stringslite_IndexByte _ _ _).mono ?_; rintro e w' ⟨rfl,rfl⟩)
 go_ret
 exact⟨rfl,rfl⟩
set_option maxHeartbeats 1000000 in
theorem Try.strings_Index_one (s:ByteArray) (c:UInt8) (w:World) :
  Calls Try.prog 83 #[.string s,.string ⟨#[c]⟩] w fun e w'=>e = .returned (.int .i64 (Lib.indexByte s.data.toList c))/\w'=w:=by
 go_enter Try.func83,Try.ntmps83
 go_wp2_with (go_at_call 91; refine(Try.stringslite_Index_one _ _ _).mono ?_; rintro e w' ⟨rfl,rfl⟩)
 go_ret
 exact⟨rfl,rfl⟩
set_option maxHeartbeats 1000000 in
theorem Try.strings_Contains_one (s:ByteArray) (c:UInt8) (w:World) :
  Calls Try.prog 68 #[.string s,.string ⟨#[c]⟩] w fun e w'=>e = .returned (.bool (decide (0<=Lib.indexByte s.data.toList c)))/\w'=w:=by
 go_enter Try.func68,Try.ntmps68
 go_wp2_with (go_at_call 83; refine(Try.strings_Index_one _ _ _).mono ?_; rintro e w' ⟨rfl,rfl⟩)
 go_ret
 exact⟨rfl,rfl⟩
end Go.Proofs
namespace Go.Proofs.Ytffhjiplcfncdaa
open Go.Abs
theorem zIo {f:Nat}{s:List AV->Ret->Prop} (hcall:∀ args w,(callFunc f args).run Try.prog w = .ok (.enter f args) w)
  (h:∀ (G:Nat->Prop) (w:World) (xs:List AV) (vs:List Value) (r:Ret),AVals G w (fun _=>.tuple #[]) xs vs->s xs r->Calls Try.prog f vs.toArray w fun e w'=>w'=w/\∃ v,e = .returned v/\RetAt G w w r v):PSound Try.prog f (zAr s) :=
 ⟨hcall,fun G w xs vs r hl _ _ hv hs=>(h G w xs vs r hv hs).mono fun e w' ⟨h1,v,h2,h3⟩=>(by subst h1; exact⟨v,G,h2,Ext.refl hl,h3⟩),fun R hR=>(by cases hR),fun R hR=>(by cases hR)⟩
def zHa (xs:List AV) (r:Ret):Prop:=∃ (a0 a1:List UInt8) (y0:Int),zCT a0 a1=some y0/\xs=[.s (.str a0),.s (.str a1)]/\r = .val (.s (.int .i64 y0))
def zEt:zAp:=zAr fun xs r=>zHa xs r
theorem zGK:PSound Try.prog 91 zEt:=zIo Try.call91 fun G w xs vs r hv ⟨a,p,y,h,hx,hr⟩=>by
 subst hx; subst hr
 obtain⟨hp,h⟩:=zAy h;have hy:=Option.some.inj h;subst hy;obtain⟨c,rfl⟩:∃ c,p=[c]:=by
  match p,hp with
  | [c],_=>exact⟨c,rfl⟩
 simp only[AVals,AVal,Rep]at hv;obtain⟨_,_,rfl,rfl,_,_,rfl,rfl,rfl⟩:=hv;exact(Try.stringslite_Index_one ⟨a.toArray⟩ c w).mono fun e w' ⟨h1,h2⟩=>⟨h2,_,h1,rfl,by simp only[AVal,Rep]; rfl⟩
def zHC (xs:List AV) (r:Ret):Prop:=∃ (a0 a1:List UInt8) (y0:Bool),zDd a0 a1=some y0/\xs=[.s (.str a0),.s (.str a1)]/\r = .val (.s (.bool y0))
def zEV:zAp:=zAr fun xs r=>zHC xs r
theorem zHp:PSound Try.prog 68 zEV:=zIo Try.call68 fun G w xs vs r hv ⟨a,p,y,h,hx,hr⟩=>by
 subst hx; subst hr
 obtain⟨hp,h⟩:=zAy h;have hy:=Option.some.inj h;subst hy;obtain⟨c,rfl⟩:∃ c,p=[c]:=by
  match p,hp with
  | [c],_=>exact⟨c,rfl⟩
 simp only[AVals,AVal,Rep]at hv;obtain⟨_,_,rfl,rfl,_,_,rfl,rfl,rfl⟩:=hv;exact(Try.strings_Contains_one ⟨a.toArray⟩ c w).mono fun e w' ⟨h1,h2⟩=>⟨h2,_,h1,rfl,by simp only[AVal,Rep]; rfl⟩
def zG9 (xs:List AV) (r:Ret):Prop:=∃ (a0:List UInt8) (a1:Int) (y0:Int),zB2 a0 a1=some y0/\xs=[.s (.str a0),.s (.int .u8 a1)]/\r = .val (.s (.int .i64 y0))
def zEs:zAp:=zAr fun xs r=>zG9 xs r
theorem zGJ:PSound Try.prog 72 zEs:=zIo Try.call72 fun G w xs vs r hv ⟨a,c,y,h,hx,hr⟩=>by
 subst hx; subst hr
 have hy:=Option.some.inj h;subst hy;simp only[AVals,AVal,Rep]at hv;obtain⟨_,_,rfl,rfl,_,_,rfl,rfl,rfl⟩:=hv;exact(Try.strings_IndexByte ⟨a.toArray⟩ c w).mono fun e w' ⟨h1,h2⟩=>⟨h2,_,h1,rfl,by simp only[AVal,Rep]⟩
def VAt (hp:Nat->Option Ob) (e:Nat) (v:AV) (ks:List Nd) (keys:List Nat):Prop :=
 (ks=[]/\v = .s (.sl 4 [])/\keys=[])∨∃ q rows keys' w,v = .orow q/\hp q=some (.arow e 4 rows)/\rows.length=ks.length/\keys=q::keys'/\LAt hp e q 0 ks keys' [] w
theorem At.full {hp:Nat->Option Ob}{e:Nat}{p:AV}{k c:Int}{t:List UInt8}{ks:List Nd}{keys:List Nat}{w:Nat} (h:At hp e p (.mk k t c ks) keys [] w):∃ v,zAA hp p=some (zAK k t c v)/\VAt hp e v ks keys:=by
 simp only[At]at h;obtain⟨v,hc,⟨_,_,h,_⟩ | ⟨rfl,rfl,rfl,_,_⟩ | ⟨q,rows,keys',rfl,hq,hlen,rfl,h⟩⟩:=h
 ·cases h
 ·exact⟨_,hc,.inl ⟨rfl,rfl,rfl⟩⟩
 ·exact⟨_,hc,.inr ⟨q,rows,keys',w,rfl,hq,hlen,rfl,h⟩⟩
def zMJ (xs:List AV) (hp:Nat->Option Ob) (n:Nat) (Φ:AV->(Nat->Option Ob)->Nat->Prop):Prop :=
 ∃ (k c:Int) (tx:List UInt8) (ks:List Nd),(Nd.mk k tx c ks).cnt<=1000000000/\xs=[.agg (zAK k tx c (.s (.sl 4 (Nd.encs ks))))] /\
  ∀ v hp' n' keys,n<=n'->(∀ k,k<n->hp' k=hp k)->VAt hp' 24 v ks keys->keys.Nodup->(∀ k∈keys,n<=k/\k<n')->Φ (.agg (zAK k tx c v)) hp' n'
def zJo:zAp:=zL2 zMJ
theorem zQC {T:Nat->Option TI}{σ:St}{t ty q bt:Nat}{i:TI}{cells:List AV} (h1:σ.env t = .op q 0) (h2:σ.hp q=some (.box bt cells)) (h3:T ty=some i) (ha:i.k.agg=true) (hz:i.size=cells.length):zIs T σ [.cell t ty]=some (AV.deep (.agg cells)):=by
 have hb:Nat.ble i.size cells.length=true :=(by rw[hz]; exact Nat.ble_eq_true_of_le (Nat.le_refl _));simp only[zIs,zGm,zNU,h1,h2,h3,ha,hb]
 rw[hz,List.take_length]
theorem zQO {σ:St}{q:Nat}{ob:Ob}:(zDi σ q ob).hp q=some ob:=by simp only[zDi,Nat.beq_refl,cond_true]
theorem upd_ne {σ:St}{q k:Nat}{ob:Ob} (h:k ≠ q):(zDi σ q ob).hp k=σ.hp k:=by simp only[zDi,zCW h,cond_false]
theorem VAt.frame {hp hp':Nat->Option Ob}{e:Nat}{v:AV}{ks:List Nd}{keys:List Nat} (h:VAt hp e v ks keys) (hs:∀ k∈keys,hp' k=hp k):VAt hp' e v ks keys:=by
 rcases h with h | ⟨q,rows,keys',w,h1,h2,h3,rfl,h4⟩
 ·exact .inl h
 ·exact .inr ⟨q,rows,keys',w,h1,(hs q List.mem_cons_self).trans h2,h3,rfl,h4.sameQ (Sim.same (p0:=.junk) fun k hk=>hs k (List.mem_cons.2 hk)) (fun j _ e=>by cases e) (fun q j _ e=>by cases e)⟩
theorem zCd {T:Nat->Option TI}{own:Bool}{o:Oper}{σ:St}{p:AV}{y:Operand} (hl:isL 4 p) (ho:o.op = .assign y∨o.op = .move y) (hy:opd T σ.env o.type y=p) (hn:(own&&zBo y)=false):step1 T own o σ=some (none,p,σ):=by
 have e0:p.nrm=p:=by rcases hl with ⟨_,_,rfl⟩ | ⟨_,rfl⟩ <;> rfl
 have e1:zBw T own o σ.env=some (none,p):=by
  rcases ho with ho | ho <;> simp only[zBw,ho,hn,hy,e0]
 simp only[step1,e1]
theorem zGp {c:Cx}{x:Code}{σ:St}{Q:Abs.End->St->Prop} (l:List (Nat×AV)) (n':Nat) (h:holds σ.env l) (hn:σ.nx=n') (hk:∀ H,(∀ k,H k=σ.hp k)->Tri c x ⟨ofL l,H,n'⟩ Q):Tri c x σ Q:=by
 subst hn;exact zAk (Le.forget l h) (hk σ.hp fun _=>rfl)
theorem At.pend {hp:Nat->Option Ob}{e w:Nat}{p:AV}{k c:Int}{tx:List UInt8}{ks:List Nd} (h:At hp e p (.mk k tx c ks) [] [p] w):zAA hp p=some (zAK k tx c (.s (.sl 4 (Nd.encs ks)))):=by
 simp only[At]at h;obtain⟨v,hc,⟨rfl,_⟩ | ⟨_,_,_,h,_⟩ | ⟨q,rows,keys',_,_,_,h,_⟩⟩:=h
 ·exact hc
 ·cases h
 ·cases h
theorem zGw {hp hp':Nat->Option Ob}{sz k:Nat}{p:AV}{c:List AV} (hl:isL sz p) (h1:hp' k=hp k) (h2:hp' (zAP p)=hp (zAP p)):putC hp' p c k=putC hp p c k:=by
 rcases hl with ⟨q,i,rfl⟩ | ⟨q,rfl⟩ <;> (simp only[zAP]at h2; simp only[putC,h1,h2])
theorem zPD {hp hp':Nat->Option Ob}{sz k:Nat}{p:AV}{c c' cs:List AV} (hl:isL sz p) (hc:zAA hp p=some cs) (h:hp' (zAP p)=putC hp p c' (zAP p)) (hk:k ≠ zAP p->hp' k=hp k):putC hp' p c k=putC hp p c k:=by
 by_cases hb:k=zAP p
 ·subst hb;rcases zBS hl hc with ⟨q,i,e,rows,rfl,hq,hi⟩ | ⟨q,bt,rfl,hq⟩
  ·simp only[zAP]at h ⊢;rw[zHr hq]at h ⊢;simp only[Nat.beq_refl,cond_true]at h ⊢;rw[zHr h]
   simp only[Nat.beq_refl,cond_true,List.set_set]
  ·simp only[zAP]at h ⊢;rw[zEH hq]at h ⊢;simp only[Nat.beq_refl,cond_true]at h ⊢;rw[zEH h]
   simp only[Nat.beq_refl,cond_true]
 ·rw[zBe hb,zBe hb,hk hb]
theorem zQg {q j:Nat}:locs q 0 (j+1)=locs q 0 j++[.rp q 4 j 0]:=by
 simp[locs,List.range'_concat]
theorem zQ6 {α:Type}{S:List α}{p:α}:((S++[p]).map fun p=>[p]).getD S.length []=[p]:=by
 simp[List.getD_eq_getElem?_getD]
structure DInv (hp:Nat->Option Ob) (n e pe:Nat) (t:Nd) (H:Nat->Option Ob) (ls nx:Nat) (S:List AV) (keys:List Nat) (w:Nat):Prop where
 low:∀ k,k<n->H k=hp k
 res:∃ a b c d,H (n+1)=some (.box e [a,b,c,d])
 stk:H ls=some (.arow pe 1 (S.map fun p=>[p]))
 tree:At H e (.op n 0) t keys S w
 nd:(n::keys).Nodup
 kb:∀ k∈keys,n+1<k/\k<nx/\k ≠ ls
 l1:n+1<ls
 l2:ls<nx
set_option maxHeartbeats 4000000 in
theorem zEb:PSound Try.prog 25 zJo:=by
 have gok:=@gok0 Try.prog;refine zLe tokW Try.call25 Try.func25 rfl (fun xs hp n Φ h=>by obtain⟨_,_,_,_,_,rfl,_⟩:=h; show 1<=_; decide) _ rfl ?_;rintro xs hp n Φ w0 G0 B0 ⟨k0,c,tx,ks,hcnt,rfl,hΦ⟩ _ hhp;refine zSg [1,2] [] rfl ?_;refine zSg [7] [] rfl ?_;show Tri ..
 refine zAk (Le.forgetH [(1,.op n 0),(2,.op (n+1) 0),(3,.orow (n+2))] (fun k=>bif Nat.beq k (n+2) then some (.arow 77 1 [[.op n 0]]) else bif Nat.beq k (n+1) then some (.box 24 [.s (.int .i64 0),.s (.str []),.s (.int .i64 0),.nl 4]) else bif Nat.beq k n then some (.box 24 (zAK k0 tx c (.s (.sl 4 (Nd.encs ks))))) else hp k) (n+3) ⟨rfl,rfl,rfl,trivial⟩ (fun k=>rfl) rfl) ?_
 have hI:DInv hp n 24 77 (.mk k0 tx c ks) (fun k=>bif Nat.beq k (n+2) then some (.arow 77 1 [[.op n 0]]) else bif Nat.beq k (n+1) then some (.box 24 [.s (.int .i64 0),.s (.str []),.s (.int .i64 0),.nl 4]) else bif Nat.beq k n then some (.box 24 (zAK k0 tx c (.s (.sl 4 (Nd.encs ks))))) else hp k) (n+2) (n+3) [.op n 0] [] (Nd.mk k0 tx c ks).cnt:={
  low:=fun k hk=>by
   have h1:k ≠ n+2 :=(by omega);have h2:k ≠ n+1 :=(by omega);have h3:k ≠ n :=(by omega);simp only[zCW h1,zCW h2,zCW h3,cond_false]
  res:=⟨.s (.int .i64 0),.s (.str []),.s (.int .i64 0),.nl 4,by
   have h1:n+1 ≠ n+2 :=(by omega);simp only[zCW h1,Nat.beq_refl,cond_false,cond_true]⟩
  stk:=by simp only[Nat.beq_refl,cond_true]; rfl
  tree:=by
   have h1:n ≠ n+2 :=(by omega);have h2:n ≠ n+1 :=(by omega);simp only[At]
   exact⟨.s (.sl 4 (Nd.encs ks)),zCX (bt:=24) (by simp only[zCW h1,zCW h2,Nat.beq_refl,cond_false,cond_true]),.inl (by simp[Nd.cnt])⟩
  nd:=by simp
  kb:=fun k hk=>by cases hk
  l1:=by omega
  l2:=by omega }
 generalize hH:(fun k=>bif Nat.beq k (n+2) then some (Ob.arow 77 1 [[AV.op n 0]]) else bif Nat.beq k (n+1) then some (Ob.box 24 [AV.s (.int .i64 0),AV.s (.str []),AV.s (.int .i64 0),AV.nl 4]) else bif Nat.beq k n then some (Ob.box 24 (zAK k0 tx c (.s (.sl 4 (Nd.encs ks))))) else hp k)=H0 at hI ⊢
 clear hH
 refine zAa ?_;refine zAi (zAz (X:=(Nat->Option Ob)×Nat×Nat×List AV×List Nat×Nat) (fun y=>match y with | (H,ls,nx,S,keys,w)=>⟨ofL [(1,.op n 0),(2,.op (n+1) 0),(3,.orow ls)],H,nx⟩)
  (fun y=>match y with | (H,ls,nx,S,keys,w)=>DInv hp n 24 77 (.mk k0 tx c ks) H ls nx S keys w) (fun y=>match y with | (H,ls,nx,S,keys,w)=>w) (H0,n+2,n+3,[.op n 0],[],(Nd.mk k0 tx c ks).cnt) hI (Le.refl _ _) ?_)
 rintro⟨H,ls,nx,S,keys,w⟩ hI;have hI:DInv hp n 24 77 (.mk k0 tx c ks) H ls nx S keys w:=hI;refine zAa ?_;refine zSV ?_;refine zAd rfl rfl rfl rfl rfl rfl trivial ?_;refine zAd rfl rfl rfl rfl rfl (zKr rfl rfl rfl rfl rfl hI.stk) trivial ?_;refine zAd rfl rfl rfl rfl rfl rfl trivial ?_;refine zAl rfl (fun hb=>?_) (fun hb=>?_)
 rotate_left
 ·refine zAx ?_;refine zAk (Le.forget [(1,.op n 0),(2,.op (n+1) 0),(3,.orow ls)] ⟨rfl,rfl,rfl,trivial⟩) ?_;have hS:S=[]:=by
   cases S with
   | nil=>rfl
   | cons x S =>
    have:=of_decide_eq_false hb;simp only[List.length_map,List.length_cons]at this
    omega
  subst hS;obtain⟨v,hc,hv⟩:=hI.tree.full;rcases zBS (sz:=4) (.inr ⟨n,rfl⟩) hc with ⟨q,i,e,rows,h1,_⟩ | ⟨q,bt,h1,hq⟩
  ·cases h1
  cases h1;obtain⟨ra,rb,rc,rd,hr1⟩:=hI.res;refine zSV ?_;refine zAd rfl rfl rfl rfl rfl (zQK rfl rfl rfl rfl hq rfl) trivial ?_;have hvl:v.one=true/\v.lt nx=true:=by
   rcases hv with ⟨_,rfl,_⟩ | ⟨q,_,_,_,rfl,_,_,hk,_⟩
   ·exact⟨rfl,rfl⟩
   ·exact⟨rfl,decide_eq_true (hI.kb q (by rw[hk]; exact List.mem_cons_self)).2.1⟩
  refine zEx rfl rfl rfl (zKs rfl rfl rfl hr1 rfl rfl (by show([AV.s _,AV.s _,AV.s _,v]:List AV).all AV.one=true; simp only[List.all_cons,List.all_nil,hvl.1]; rfl) (by show AV.ltAll nx [AV.s _,AV.s _,AV.s _,v]=true; simp only[AV.ltAll,hvl.2]; rfl)) trivial ?_;refine zAg ?_;have hln:n<nx:=Nat.lt_trans (Nat.lt_trans (Nat.lt_succ_self n) hI.l1) hI.l2;have hdeep:AV.deep (.agg (zAK k0 tx c v)) = .agg (zAK k0 tx c v):=by
   rcases hv with ⟨_,rfl,_⟩ | ⟨q,_,_,_,rfl,_⟩ <;> rfl
  unfold zGM;refine⟨_,Le.refl _ _,.agg (zAK k0 tx c v),?_,hΦ v _ _ keys (Nat.le_of_lt hln) (fun k hk=>?_) ?_ (List.nodup_cons.1 hI.nd).2 fun k hk=>⟨Nat.le_of_lt (Nat.lt_trans (Nat.lt_succ_self n) (hI.kb k hk).1),(hI.kb k hk).2.1⟩⟩
  ·exact(zQC (cells:=zAK k0 tx c v) rfl zQO rfl rfl rfl).trans (congrArg some hdeep)
  ·exact(upd_ne (by omega)).trans (hI.low k hk)
  ·exact hv.frame fun k hk=>upd_ne (by have:=(hI.kb k hk).1; omega)
 refine zAe ?_;show Tri ..;obtain⟨S',p,rfl⟩:∃ S' p,S=S'++[p]:=by
  rcases List.eq_nil_or_concat S with rfl | ⟨S',p,rfl⟩
  ·cases hb
  ·exact⟨S',p,List.concat_eq_append⟩
 have hl0:isL 4 p:=hI.tree.loc (.inr ⟨n,rfl⟩) (by simp)
 obtain⟨⟨k1,tx1,c1,ks1⟩,w1,hp0,hw,hrep⟩:=hI.tree.repl (.inr ⟨n,rfl⟩) hI.nd;have hcell:=hp0.pend;have hwl:=hI.tree.len;have hSl:S'.length<1000000000:=by
  have:=hwl.1;have:=hwl.2;simp only[List.length_append,List.length_singleton]at *
  omega
 have hz:IntKind.i64.wrap (((((S'++[p]).map fun p=>[p]).length:Nat):Int) - 1)=(S'.length:Int):=by
  rw[wrap64_in (by simp only[List.length_map,List.length_append,List.length_singleton]; omega) (by simp only[List.length_map,List.length_append,List.length_singleton]; omega)]
  simp only[List.length_map,List.length_append,List.length_singleton]; omega
 have hlt1:S'.length<((S'++[p]).map fun p=>[p]).length :=(by simp);refine zAk (Le.forget [(1,.op n 0),(2,.op (n+1) 0),(3,.orow ls)] ⟨rfl,rfl,rfl,trivial⟩) ?_;refine zAi ?_;refine zSV ?_;refine zAd rfl rfl rfl rfl rfl rfl trivial ?_;refine zAd rfl rfl rfl rfl rfl rfl trivial ?_;refine zAd rfl rfl rfl rfl rfl (zKr rfl rfl rfl rfl rfl hI.stk) trivial ?_;refine zAd rfl rfl rfl rfl rfl rfl trivial ?_;rw[hz]
 refine zAd rfl rfl rfl rfl rfl (zMy rfl rfl rfl rfl rfl rfl hI.stk rfl) ⟨Int.natCast_nonneg _,Int.ofNat_lt.2 hlt1⟩ ?_;refine zNe (c:=p) rfl rfl rfl rfl rfl rfl hI.stk hlt1 (by rw[Int.toNat_natCast,zQ6]; rfl) ?_;refine zAd rfl rfl rfl rfl rfl (zCd hl0 (.inl rfl) rfl rfl) trivial ?_;refine zAk (Le.forget [(1,.op n 0),(2,.op (n+1) 0),(3,.orow ls),(4,p)] ⟨rfl,rfl,rfl,rfl,trivial⟩) ?_;refine zSg [21] [] rfl ?_;refine zAd rfl rfl rfl rfl rfl rfl trivial ?_;refine zAd rfl rfl rfl rfl rfl rfl trivial ?_;refine zAd rfl rfl rfl rfl rfl (zKr rfl rfl rfl rfl rfl hI.stk) trivial ?_
 refine zAd rfl rfl rfl rfl rfl rfl trivial ?_;rw[hz]
 refine zAd rfl rfl rfl rfl rfl (zQL rfl rfl rfl rfl rfl rfl hI.stk rfl) ⟨Int.natCast_nonneg _,Int.ofNat_le.2 (Nat.le_of_lt hlt1)⟩ ?_;refine zAd rfl rfl rfl rfl rfl rfl trivial ?_;show Tri ..;refine zGp [(1,.op n 0),(2,.op (n+1) 0),(3,.orow nx),(4,p)] (nx+1) ⟨rfl,rfl,rfl,rfl,trivial⟩ rfl fun H1 hH1=>?_
 have g1:H1 nx=some (.arow 77 1 (S'.map fun p=>[p])):=(hH1 nx).trans (by
  show(bif Nat.beq nx nx then some (Ob.arow 77 1 (((S'++[p]).map fun p=>[p]).take ((S'.length:Int)).toNat)) else _)=_;rw[Nat.beq_refl,cond_true,Int.toNat_natCast]
  simp)
 have g2:∀ k,k ≠ nx->k ≠ ls->H1 k=H k:=fun k h1 h2=>(hH1 k).trans (by
  show(bif Nat.beq k nx then _ else bif Nat.beq k ls then none else H k)=_;rw[zCW h1,zCW h2]; rfl)
 clear hH1
 have hbase:zAP p=n∨zAP p∈keys:=by
  rcases hI.tree.base (p0:=p) (by simp) with h | h
  ·exact .inl (by rw[h]; rfl)
  ·exact .inr h
 have hln:n<nx:=Nat.lt_trans (Nat.lt_trans (Nat.lt_succ_self n) hI.l1) hI.l2;have hbl:zAP p ≠ nx/\zAP p ≠ ls/\zAP p ≠ n+1/\zAP p<nx:=by
  have h1:=hI.l1;have h2:=hI.l2;rcases hbase with h | h
  ·rw[h]; omega
  ·have:=hI.kb _ h; omega
 have fin:∀ (cs:List AV) (Hj:Nat->Option Ob) (lsj nxj:Nat) (new:List Nat) (ch:List AV) (w':Nat),(∀ k,k ≠ ls->k<nx->Hj k=putC H p cs k)->Hj lsj=some (.arow 77 1 ((S'++ch).map fun p=>[p]))->At Hj 24 p (.mk k1 tx1 c1 ks1) new ch w' ->
   new.Nodup->(∀ k∈new,nx<=k/\k<nxj/\k ≠ lsj)->nx<=lsj->lsj<nxj->w'<(Nd.mk k1 tx1 c1 ks1).cnt->∃ keys2,DInv hp n 24 77 (.mk k0 tx c ks) Hj lsj nxj (S'++ch) keys2 (w1+w')/\w1+w'<w:=by
  intro cs Hj lsj nxj new ch w' f1 f2 f3 f4 f5 f6 f7 f8;have l1:=hI.l1;have l2:=hI.l2;have hD:∀ k,k=n∨k∈keys->k ≠ ls/\k<nx:=fun k hk=>by
   rcases hk with rfl | hk
   ·omega
   ·have:=hI.kb k hk; omega
  obtain⟨keys2,hperm,hat⟩:=hrep Hj new ch w' (Sim.put hl0 hcell fun k hk=>f1 k (hD k hk).1 (hD k hk).2) f3;have hmem:∀ k,k∈keys2->k∈keys∨k∈new:=fun k hk=>List.mem_append.1 (hperm.mem_iff.1 hk)
  have hkn:=List.nodup_cons.1 hI.nd;refine⟨keys2,{
   low:=fun k hk=>(f1 k (by omega) (by omega)).trans ((zBe (by
    rcases hbase with h | h
    ·omega
    ·have:=hI.kb _ h; omega)).trans (hI.low k hk))
   res:=by
    obtain⟨a,b,c,d,hr⟩:=hI.res;exact⟨a,b,c,d,(f1 (n+1) (by omega) (by omega)).trans ((zBe (Ne.symm hbl.2.2.1)).trans hr)⟩
   stk:=f2
   tree:=hat
   nd:=List.nodup_cons.2 ⟨fun hm=>by
    rcases hmem n hm with h | h
    ·exact hkn.1 h
    ·have:=f5 n h; omega,hperm.nodup_iff.2 (List.nodup_append.2 ⟨hkn.2,f4,fun a ha b hb e=>by
     have:=hI.kb a ha;have:=f5 b hb
     omega⟩)⟩
   kb:=fun k hk=>by
    rcases hmem k hk with h | h
    ·have:=hI.kb k h; omega
    ·have:=f5 k h; omega
   l1:=by omega
   l2:=f7 },by omega⟩
 have hc1:zAA H1 p=some (zAK k1 tx1 c1 (.s (.sl 4 (Nd.encs ks1)))):=(zBz hl0 (g2 _ hbl.1 hbl.2.1)).trans hcell;refine zSV ?_;refine zAd rfl rfl rfl rfl rfl (zCd hl0 (.inr rfl) rfl rfl) trivial ?_;refine zAd rfl rfl rfl rfl rfl (zDw hl0 rfl rfl) trivial ?_;refine zAd rfl rfl rfl rfl rfl (zDZ hl0 rfl rfl rfl rfl rfl rfl rfl) trivial ?_;refine zCM (off:=3) (sz:=4) rfl rfl rfl rfl rfl rfl rfl hl0 rfl hc1 rfl ?_;refine zAd rfl rfl rfl rfl rfl rfl trivial ?_;show Tri ..
 refine zAk (Le.forget [(1,.op n 0),(2,.op (n+1) 0),(3,.orow nx),(4,p),(5,.s (.sl 4 (Nd.encs ks1)))] ⟨rfl,rfl,rfl,rfl,rfl,trivial⟩) ?_;refine zSV ?_;refine zAd rfl rfl rfl rfl rfl (zCd hl0 (.inr rfl) rfl rfl) trivial ?_;refine zAd rfl rfl rfl rfl rfl (zDw hl0 rfl rfl) trivial ?_;refine zAd rfl rfl rfl rfl rfl (zDZ hl0 rfl rfl rfl rfl rfl rfl rfl) trivial ?_;refine zNf (off:=3) (sz:=4) (c:=.s (.sl 4 [])) rfl rfl rfl rfl rfl hl0 rfl hc1 rfl (by decide) rfl rfl rfl ?_;show Tri ..
 refine zGp [(1,.op n 0),(2,.op (n+1) 0),(3,.orow nx),(4,p),(5,.s (.sl 4 (Nd.encs ks1)))] (nx+1) ⟨rfl,rfl,rfl,rfl,rfl,trivial⟩ rfl fun H2 hH2=>?_
 have hH2:∀ k,H2 k=putC H1 p (zAK k1 tx1 c1 (.s (.sl 4 []))) k:=hH2
 have hc2:zAA H2 p=some (zAK k1 tx1 c1 (.s (.sl 4 []))):=(zBz hl0 (hH2 _)).trans (zHe hl0 hc1)
 refine zAa ?_;refine zSV ?_;refine zAd rfl rfl rfl rfl rfl rfl trivial ?_;refine zAd rfl rfl rfl rfl rfl rfl trivial ?_;refine zAd rfl rfl rfl rfl rfl rfl trivial ?_;refine zAl rfl (fun hb=>?_) (fun hb=>?_)
 rotate_left
 ·obtain rfl:ks1=[]:=by
   cases ks1 with
   | nil=>rfl
   | cons x l =>
    have:=of_decide_eq_false hb;simp only[Nd.encs,List.length_cons]at this
    omega
  refine zAe ?_;refine zAk (Le.forget [(1,.op n 0),(2,.op (n+1) 0),(3,.orow nx),(4,p),(5,.s (.sl 4 []))] ⟨rfl,rfl,rfl,rfl,rfl,trivial⟩) ?_;refine zSV ?_;refine zAd rfl rfl rfl rfl rfl (zCd hl0 (.inr rfl) rfl rfl) trivial ?_;refine zAd rfl rfl rfl rfl rfl (zDw hl0 rfl rfl) trivial ?_;refine zAd rfl rfl rfl rfl rfl (zDZ hl0 rfl rfl rfl rfl rfl rfl rfl) trivial ?_;refine zCM (off:=3) (sz:=4) rfl rfl rfl rfl rfl rfl rfl hl0 rfl hc2 rfl ?_;refine zAd rfl rfl rfl rfl rfl rfl trivial ?_;refine zAd rfl rfl rfl rfl rfl rfl trivial ?_;show Tri ..
  refine zAk (Le.forget [(1,.op n 0),(2,.op (n+1) 0),(3,.orow nx),(4,p),(5,.s (.sl 4 []))] ⟨rfl,rfl,rfl,rfl,rfl,trivial⟩) ?_;refine zSV ?_;refine zAd rfl rfl rfl rfl rfl (zCd hl0 (.inr rfl) rfl rfl) trivial ?_;refine zAd rfl rfl rfl rfl rfl (zDw hl0 rfl rfl) trivial ?_;refine zAd rfl rfl rfl rfl rfl (zDZ hl0 rfl rfl rfl rfl rfl rfl rfl) trivial ?_;refine zCM (off:=3) (sz:=4) rfl rfl rfl rfl rfl rfl rfl hl0 rfl hc2 rfl ?_;refine zAd rfl rfl rfl rfl rfl rfl trivial ?_;refine zAd rfl rfl rfl rfl rfl rfl trivial ?_;show Tri ..
  refine zAi (zAz (X:=Unit) (fun _=>⟨ofL [(1,.op n 0),(2,.op (n+1) 0),(3,.orow nx),(48,.s (.int .i64 0)),(49,.s (.int .i64 0))],H2,nx+1⟩) (fun _=>True) (fun _=>0) () trivial (Le.forget [(1,.op n 0),(2,.op (n+1) 0),(3,.orow nx),(48,.s (.int .i64 0)),(49,.s (.int .i64 0))] ⟨rfl,rfl,rfl,rfl,rfl,trivial⟩) ?_)
  rintro⟨⟩ _;refine zSV ?_;refine zAd rfl rfl rfl rfl rfl rfl trivial ?_;refine zAa ?_;refine zAl rfl (fun hb=>by cases hb) (fun hb=>?_)
  refine zAx ?_;obtain⟨keys2,hz1,hz2⟩:=fin (zAK k1 tx1 c1 (.s (.sl 4 []))) H2 nx (nx+1) [] [] 0
   (fun k h1 h2=>(hH2 k).trans (zGw hl0 (g2 k (by omega) h1) (g2 _ hbl.1 hbl.2.1)))
   (by rw[List.append_nil]; exact(hH2 nx).trans ((zBe (Ne.symm hbl.1)).trans g1))
   (by simp only[At]; exact⟨.s (.sl 4 []),hc2,.inr (.inl (by simp))⟩) (by simp) (fun k hk=>by cases hk) (Nat.le_refl _) (Nat.lt_succ_self _) (by simp[Nd.cnt])
  exact⟨(H2,nx,nx+1,S'++[],keys2,w1+0),hz1,Le.forget [(1,.op n 0),(2,.op (n+1) 0),(3,.orow nx)] ⟨rfl,rfl,rfl,trivial⟩,hz2⟩
 ·have hm:0<ks1.length:=by
   have:=of_decide_eq_true hb;rw[Nd.encs_eq,List.length_map]at this
   omega
  have hkl:ks1.length<1000000000:=by
   have h1:=Nd.cnts_len ks1;have h2:=hwl.2;simp only[Nd.cnt]at hw hcnt h2
   omega
  have hel:(Nd.encs ks1).length=ks1.length :=(by rw[Nd.encs_eq,List.length_map]);refine zAk (Le.forget [(1,.op n 0),(2,.op (n+1) 0),(3,.orow nx),(4,p),(5,.s (.sl 4 (Nd.encs ks1)))] ⟨rfl,rfl,rfl,rfl,rfl,trivial⟩) ?_;refine zAb [35] [] rfl ?_;refine zAd rfl rfl rfl rfl rfl (zCd hl0 (.inr rfl) rfl rfl) trivial ?_;refine zAd rfl rfl rfl rfl rfl rfl trivial ?_;refine zAd rfl rfl rfl rfl rfl rfl trivial ?_
  refine zAd rfl rfl rfl rfl rfl (zST rfl rfl rfl rfl rfl rfl rfl rfl rfl) (show 0<=_/\_ from⟨Int.natCast_nonneg _,Int.le_refl _,show(((Nd.encs ks1).length:Nat):Int) * ((56:Nat):Int)<=281474976710656 by omega,show(((Nd.encs ks1).length:Nat):Int)<=281474976710656 by omega⟩) ?_;refine zAd rfl rfl rfl rfl rfl (zDw hl0 rfl rfl) trivial ?_;refine zAd rfl rfl rfl rfl rfl (zDZ hl0 rfl rfl rfl rfl rfl rfl rfl) trivial ?_;have hbn:zAP p ≠ nx+1:=by have:=hbl.2.2.2; omega
  refine zNf (off:=3) (sz:=4) (c:=.orow (nx+1)) rfl rfl rfl rfl rfl hl0 rfl ((zBz hl0 (by show(bif Nat.beq (zAP p) (nx+1) then _ else H2 (zAP p))=_; rw[zCW hbn]; rfl)).trans hc2) rfl (by decide) rfl rfl (decide_eq_true (Nat.lt_succ_self _)) ?_;show Tri ..;refine zGp [(1,.op n 0),(2,.op (n+1) 0),(3,.orow nx),(4,p),(5,.s (.sl 4 (Nd.encs ks1)))] (nx+2) ⟨rfl,rfl,rfl,rfl,rfl,trivial⟩ rfl fun H3 hH3=>?_
  have hH3:∀ k,H3 k=putC (fun k=>bif Nat.beq k (nx+1) then some (.row 24 4 (List.replicate (((Nd.encs ks1).length:Int)).toNat [.int .i64 0,.str [],.int .i64 0,.sl 4 []])) else H2 k) p (zAK k1 tx1 c1 (.orow (nx+1))) k:=hH3
  have a1:H3 (nx+1)=some (.row 24 4 (List.replicate (((Nd.encs ks1).length:Int)).toNat [.int .i64 0,.str [],.int .i64 0,.sl 4 []])):=(hH3 _).trans ((zBe (Ne.symm hbn)).trans (by simp only[Nat.beq_refl,cond_true]))
  have a2:∀ k,k ≠ nx+1->H3 k=putC H2 p (zAK k1 tx1 c1 (.orow (nx+1))) k:=fun k hk=>(hH3 k).trans (zGw hl0 (by simp only[zCW hk,cond_false]) (by simp only[zCW hbn,cond_false]))
  have hc3:zAA H3 p=some (zAK k1 tx1 c1 (.orow (nx+1))):=(zBz hl0 (a2 _ hbn)).trans (zHe hl0 hc2)
  refine zAk (Le.toA (nx+1) a1) ?_;refine zSV ?_;refine zAd rfl rfl rfl rfl rfl (zCd hl0 (.inr rfl) rfl rfl) trivial ?_;refine zAd rfl rfl rfl rfl rfl (zDw hl0 rfl rfl) trivial ?_;refine zAd rfl rfl rfl rfl rfl (zDZ hl0 rfl rfl rfl rfl rfl rfl rfl) trivial ?_;refine zCM (off:=3) (sz:=4) rfl rfl rfl rfl rfl rfl rfl hl0 rfl ((zBz hl0 (upd_ne hbn)).trans hc3) rfl ?_;refine zAd rfl rfl rfl rfl rfl rfl trivial ?_;refine zAd rfl rfl rfl rfl rfl (zRu rfl rfl rfl rfl rfl rfl rfl rfl rfl zQO rfl rfl) (show(List.map _ _).length=List.length _ by simp) ?_;show Tri ..
  refine zGp [(1,.op n 0),(2,.op (n+1) 0),(3,.orow nx),(4,p),(5,.s (.sl 4 (Nd.encs ks1)))] (nx+2) ⟨rfl,rfl,rfl,rfl,rfl,trivial⟩ rfl fun H4 hH4=>?_
  have r1:H4 (nx+1)=some (.arow 24 4 ((Nd.encs ks1).map (·.map AV.s))):=(hH4 _).trans zQO;have r2:∀ k,k ≠ nx+1->H4 k=H3 k:=fun k hk=>(hH4 k).trans ((upd_ne hk).trans (upd_ne hk))
  clear hH4
  have hc4:zAA H4 p=some (zAK k1 tx1 c1 (.orow (nx+1))):=(zBz hl0 (r2 _ hbn)).trans hc3;refine zSV ?_;refine zAd rfl rfl rfl rfl rfl (zCd hl0 (.inr rfl) rfl rfl) trivial ?_;refine zAd rfl rfl rfl rfl rfl (zDw hl0 rfl rfl) trivial ?_;refine zAd rfl rfl rfl rfl rfl (zDZ hl0 rfl rfl rfl rfl rfl rfl rfl) trivial ?_;refine zCM (off:=3) (sz:=4) rfl rfl rfl rfl rfl rfl rfl hl0 rfl hc4 rfl ?_;refine zAd rfl rfl rfl rfl rfl (zKr rfl rfl rfl rfl rfl r1) trivial ?_;refine zAd rfl rfl rfl rfl rfl rfl trivial ?_;show Tri ..
  have hlen4:((Nd.encs ks1).map (·.map AV.s)).length=ks1.length :=(by rw[List.length_map,hel]);refine zAi (zAz (X:=(Nat->Option Ob)×Nat×Nat×Nat) (fun y=>match y with | (Hj,lsj,nxj,j)=>⟨ofL [(1,.op n 0),(2,.op (n+1) 0),(3,.orow lsj),(4,p),(48,.s (.int .i64 (ks1.length:Int))),(49,.s (.int .i64 (j:Int)))],Hj,nxj⟩)
   (fun y=>match y with | (Hj,lsj,nxj,j)=>j<=ks1.length/\(∀ k,k ≠ nx->k<nx+2->Hj k=H4 k)/\Hj lsj=some (.arow 77 1 ((S'++locs (nx+1) 0 j).map fun p=>[p]))/\(lsj=nx∨nx+2<=lsj)/\lsj<nxj/\nx+2<=nxj) (fun y=>match y with | (Hj,lsj,nxj,j)=>ks1.length - j) (H4,nx,nx+2,0)
   ⟨Nat.zero_le _,fun k _ _=>rfl,by
    refine(r2 nx (by omega)).trans ((a2 nx (by omega)).trans ((zBe (Ne.symm hbl.1)).trans ((hH2 nx).trans ((zBe (Ne.symm hbl.1)).trans (g1.trans ?_)))))
    simp[locs],.inl rfl,by omega,Nat.le_refl _⟩
   (Le.forget [(1,.op n 0),(2,.op (n+1) 0),(3,.orow nx),(4,p),(48,.s (.int .i64 (ks1.length:Int))),(49,.s (.int .i64 ((0:Nat):Int)))] ⟨rfl,rfl,rfl,rfl,congrArg (fun m:Nat=>AV.s (.int .i64 (m:Int))) hlen4,rfl,trivial⟩) ?_)
  rintro⟨Hj,lsj,nxj,j⟩ ⟨i1,i2,i3,i4,i5,i6⟩
  have hbj:zAP p ≠ nx/\zAP p<nx+2:=⟨hbl.1,by have:=hbl.2.2.2; omega⟩
  have hcj:zAA Hj p=some (zAK k1 tx1 c1 (.orow (nx+1))):=(zBz hl0 (i2 _ hbj.1 hbj.2)).trans hc4;have hrj:Hj (nx+1)=some (.arow 24 4 ((Nd.encs ks1).map (·.map AV.s))):=(i2 (nx+1) (by omega) (by omega)).trans r1;refine zSV ?_;refine zAd rfl rfl rfl rfl rfl rfl trivial ?_;refine zAa ?_;refine zAl rfl (fun hb=>?_) (fun hb=>?_)
  ·refine zAe ?_;show Tri ..;have hj:j<ks1.length:=Int.ofNat_lt.1 (of_decide_eq_true hb)
   have hsl:((S'++locs (nx+1) 0 j).map fun p=>[p]).length=S'.length+j :=(by simp[locs]);refine zAk (Le.forget [(1,.op n 0),(2,.op (n+1) 0),(3,.orow lsj),(4,p),(48,.s (.int .i64 (ks1.length:Int))),(49,.s (.int .i64 (j:Int)))] ⟨rfl,rfl,rfl,rfl,rfl,rfl,trivial⟩) ?_;refine zAa ?_;refine zAi ?_;refine zSV ?_;refine zAd rfl rfl rfl rfl rfl rfl trivial ?_;refine zAd rfl rfl rfl rfl rfl rfl trivial ?_;refine zAb [59,60] [] rfl ?_;refine zAd rfl rfl rfl rfl rfl rfl trivial ?_;refine zAd rfl rfl rfl rfl rfl (zCd hl0 (.inr rfl) rfl rfl) trivial ?_
   refine zAd rfl rfl rfl rfl rfl (zDw hl0 rfl rfl) trivial ?_;refine zAd rfl rfl rfl rfl rfl (zDZ hl0 rfl rfl rfl rfl rfl rfl rfl) trivial ?_;refine zCM (off:=3) (sz:=4) rfl rfl rfl rfl rfl rfl rfl hl0 rfl hcj rfl ?_;refine zAd rfl rfl rfl rfl rfl rfl trivial ?_;refine zAd rfl rfl rfl rfl rfl (zMy rfl rfl rfl rfl rfl rfl hrj rfl) ⟨Int.natCast_nonneg _,Int.ofNat_lt.2 (by rw[hlen4]; exact hj)⟩ ?_;rw[Int.toNat_natCast]
   refine zAd rfl rfl rfl rfl rfl rfl trivial ?_;refine zAd rfl rfl rfl rfl rfl (zSe (rows:=(S'++locs (nx+1) 0 j).map fun p=>[p]) (rows2:=[[.rp (nx+1) 4 j 0]]) rfl rfl rfl rfl rfl rfl rfl rfl rfl (by show(bif Nat.beq lsj nxj then _ else Hj lsj)=_; rw[zCW (by omega)]; exact i3) (by show(bif Nat.beq nxj nxj then _ else Hj nxj)=_; rw[Nat.beq_refl]; rfl) rfl rfl rfl) (show(((S'++locs (nx+1) 0 j).map fun p=>[p]).length+1) * 8<=140737488355328/\((S'++locs (nx+1) 0 j).map fun p=>[p]).length+1<=9223372036854775807 by rw[hsl]; omega) ?_;refine zAd rfl rfl rfl rfl rfl rfl trivial ?_;show Tri ..
   refine zGp [(1,.op n 0),(2,.op (n+1) 0),(3,.orow (nxj+1)),(4,p),(48,.s (.int .i64 (ks1.length:Int))),(49,.s (.int .i64 (j:Int)))] (nxj+2) ⟨rfl,rfl,rfl,rfl,rfl,rfl,trivial⟩ rfl fun H5 hH5=>?_
   have e1:H5 (nxj+1)=some (.arow 77 1 ((S'++locs (nx+1) 0 (j+1)).map fun p=>[p])):=(hH5 _).trans (by
    show(bif Nat.beq (nxj+1) (nxj+1) then some (Ob.arow 77 1 (((S'++locs (nx+1) 0 j).map fun p=>[p])++[[.rp (nx+1) 4 j 0]])) else _)=_;rw[Nat.beq_refl,cond_true,zQg]
    simp)
   have e2:∀ k,k ≠ nxj+1->k ≠ lsj->k ≠ nxj->H5 k=Hj k:=fun k h1 h2 h3=>(hH5 k).trans (by
    show(bif Nat.beq k (nxj+1) then _ else bif Nat.beq k lsj then none else bif Nat.beq k nxj then _ else Hj k)=_;rw[zCW h1,zCW h2,zCW h3]; rfl)
   clear hH5
   refine zSU ?_;refine zAd rfl rfl rfl rfl rfl rfl trivial ?_;refine zAd rfl rfl rfl rfl rfl rfl trivial ?_;exact⟨(H5,nxj+1,nxj+2,j+1),⟨hj,fun k h1 h2=>(e2 k (by omega) (by omega) (by omega)).trans (i2 k h1 h2),e1,.inr (by omega),by omega,by omega⟩,
    Le.forget [(1,.op n 0),(2,.op (n+1) 0),(3,.orow (nxj+1)),(4,p),(48,.s (.int .i64 (ks1.length:Int))),(49,.s (.int .i64 ((j+1:Nat):Int)))] ⟨rfl,rfl,rfl,rfl,rfl,congrArg (fun z=>AV.s (.int .i64 z)) (zBy (by omega)),trivial⟩,by show ks1.length - (j+1)<ks1.length - j; omega⟩
  ·refine zAx ?_;have hj:j=ks1.length:=by
    have:=of_decide_eq_false hb
    omega
   subst hj;obtain⟨keys2,hz1,hz2⟩:=fin (zAK k1 tx1 c1 (.orow (nx+1))) Hj lsj nxj [nx+1] (locs (nx+1) 0 ks1.length) (Nd.cnts ks1)
    (fun k h1 h2=>(i2 k (by omega) (by omega)).trans ((r2 k (by omega)).trans ((a2 k (by omega)).trans (zPD hl0 hcell ((hH2 _).trans (zGw hl0 (g2 _ hbl.1 hbl.2.1) (g2 _ hbl.1 hbl.2.1))) fun hk=>(hH2 k).trans ((zBe hk).trans (g2 k (by omega) h1))))))
    i3 (by simp only[At]; exact⟨.orow (nx+1),hcj,.inr (.inr ⟨nx+1,_,[],rfl,hrj,hlen4,rfl,LAt.copied hrj⟩)⟩) (by simp) (fun k hk=>by
     have:=List.mem_singleton.1 hk
     omega) (by omega) i5 (by simp[Nd.cnt])
   exact⟨(Hj,lsj,nxj,S'++locs (nx+1) 0 ks1.length,keys2,w1+Nd.cnts ks1),hz1,Le.forget [(1,.op n 0),(2,.op (n+1) 0),(3,.orow lsj)] ⟨rfl,rfl,rfl,trivial⟩,hz2⟩
def zN8 (xs:List AV) (r:Ret):Prop:=∃ (a0:Nd) (y0:Nd),zAE a0=some y0/\xs=[.agg ((Nd.enc a0).map .s)]/\r = .val (.agg ((Nd.enc y0).map .s))
def zBq:zAp:=zAr fun xs r=>zN8 xs r
theorem zBl:PSound Try.prog 25 zBq :=
 PSound.giveAll zEb fun xs r h=>by
  obtain⟨⟨k,t,c,ks⟩,y,hm,rfl,rfl⟩:=h;obtain⟨hq,hm⟩:=zAy hm;obtain rfl:=Option.some.inj hm;refine⟨_,rfl,rfl,k,c,t,ks,hq,rfl,fun v hp' n' keys _ _ hv _ _=>?_⟩
  refine zO2 (t:=.mk k t c ks) (RdC.node ?_)
  rcases hv with ⟨rfl,rfl,_⟩ | ⟨q,rows,keys',w,rfl,hq,hlen,rfl,h⟩
  ·exact .s _
  ·exact Rd.rows hq hlen fun j x hj=>(by have:=LAt.rd h j x hj; rwa [Nat.zero_add]at this)
theorem zFz {n:Nd}{i s:Int}{p:List Int} (h:¬ (0<=i/\i<n.kids.length)):zBc n (i::s::p)=none:=by rw[zBc,if_neg h]
theorem zFA {n x:Nd}{i s:Int}{p:List Int} (h0:0<=i) (hx:n.kids[i.toNat]? = some x) (h:¬ (0<=s/\s<x.kids.length)):zBc n (i::s::p)=none:=by
 have hl:=(List.getElem?_eq_some_iff.1 hx).1;rw[zBc,if_pos ⟨h0,by omega⟩]
 simp only[List.getD_eq_getElem?_getD,hx,Option.getD_some]
 rw[if_neg h]
theorem zLc {n x z:Nd}{i s:Int}{p:List Int} (h0:0<=i) (hx:n.kids[i.toNat]? = some x) (h1:0<=s) (hz:x.kids[s.toNat]? = some z):zBc n (i::s::p)=zBc z p:=by
 have hl:=(List.getElem?_eq_some_iff.1 hx).1;have hl2:=(List.getElem?_eq_some_iff.1 hz).1;rw[zBc,if_pos ⟨h0,by omega⟩]
 simp only[List.getD_eq_getElem?_getD,hx,hz,Option.getD_some]
 rw[if_pos ⟨h1,by omega⟩]
theorem zP6 {l:List Nd}{i:Nat}{x:Nd} (h:l[i]? = some x):(Nd.encs l).getD i []=Nd.enc x:=by
 simp[Nd.encs_eq,List.getD_eq_getElem?_getD,h]
theorem zGr (l:List Nd):(Nd.encs l).length=l.length:=by rw[Nd.encs_eq,List.length_map]
def zP5:Option Nd->AV
 | some y=>.s (.pt (Nd.enc y))
 | none=>.junk
def zOb (xs:List AV) (r:Ret):Prop:=∃ (a0:Nd) (a1:List Int),xs=[.s (.pt (Nd.enc a0)),.s (.sl 1 (a1.map (irow .i64)))]/\r = .val (.tup [zP5 (zBc a0 a1),.s (.bool (zBc a0 a1).isSome)])
def zJy:zAp:=zAr fun xs r=>zOb xs r
theorem zNB:PSound Try.prog 75 zJy:=by
 have gok:=@gok0 Try.prog;refine zAw tokW Try.call75 Try.func75 rfl (fun xs r h=>by obtain⟨_,_,rfl,_⟩:=h; show 2<=_; decide) _ rfl ?_;rintro xs r w0 G0 ⟨n0,p0,rfl,rfl⟩ _;generalize hy:zBc n0 p0=y;refine zSV ?_;refine zAa ?_;refine zAi (zAz (X:=Nd×List Int) (fun x=>match x with | (n,p)=>⟨ofL [(0,.s (.pt (Nd.enc n))),(1,.s (.sl 1 (p.map (irow .i64)))),(4,.s .np),(5,.s (.bool false))],fun _=>none,0⟩)
  (fun x=>match x with | (n,p)=>zBc n p=y) (fun x=>match x with | (n,p)=>p.length) (n0,p0) hy (Le.forget [(0,.s (.pt (Nd.enc n0))),(1,.s (.sl 1 (p0.map (irow .i64)))),(4,.s .np),(5,.s (.bool false))] ⟨rfl,rfl,rfl,rfl,trivial⟩) ?_)
 rintro⟨⟨k,t,c,ks⟩,p⟩ hI;have hI:zBc (.mk k t c ks) p=y:=hI;refine zAa ?_;refine zSV ?_;refine zAl rfl (fun hb=>?_) (fun hb=>?_)
 ·refine zAe ?_;show Tri ..
  match p,hI,hb with
  | [],_,hb=>cases hb
  | [_],_,hb=>cases hb
  | i::s::p,hI,hb =>
   refine zAk (Le.forget [(0,.s (.pt (Nd.enc (.mk k t c ks)))),(1,.s (.sl 1 ((i::s::p).map (irow .i64)))),(4,.s .np),(5,.s (.bool false))] ⟨rfl,rfl,rfl,rfl,trivial⟩) ?_;refine zAa ?_;refine zAi ?_;refine zAa ?_;refine zH4 (by exact tokW) (by exact gok) (by exact mixed) [] [] [1,2,4,5] rfl (by decide +kernel) ?_;refine And.intro (show(0:Int)<=0/\(0:Int)<((((i::s::p).map (irow .i64)).length:Nat):Int) by simp only[List.map_cons,List.length_cons]; omega) ?_;refine And.intro (show(0:Int)<=1/\(1:Int)<((((i::s::p).map (irow .i64)).length:Nat):Int) by simp only[List.map_cons,List.length_cons]; omega) ?_
   refine zAk (Le.forget [(0,.s (.pt [.int .i64 k,.str t,.int .i64 c,.sl 4 (Nd.encs ks)])),(1,.s (.sl 1 ((i::s::p).map (irow .i64)))),(4,.s .np),(5,.s (.bool false)),(6,.s (.int .i64 i)),(7,.s (.int .i64 s))] ⟨rfl,rfl,rfl,rfl,rfl,rfl,trivial⟩) ?_;refine zAa ?_;refine zAa ?_
   by_cases hi:i<0
   ·refine zAb [] [21] rfl ?_;intro b hb;obtain rfl:true=b:=(hb.trans (decide_eq_true hi)).symm;refine zAl rfl (fun _=>?_) (fun h=>by cases h)
    refine zSV ?_;refine zAg ?_;obtain rfl:none=y:=(zFz (fun h=>by omega)).symm.trans hI;unfold zCQ;exact⟨_,Le.forget [(5,.s (.bool false))] ⟨rfl,trivial⟩,rfl,rfl⟩
   by_cases hi2:(ks.length:Int)<=i
   ·refine zAb [] [21,29] rfl ?_;intro b hb;obtain rfl:false=b:=(hb.trans (decide_eq_false hi)).symm;intro b hb;obtain rfl:true=b:=(hb.trans (decide_eq_true (show(((Nd.encs ks).length:Nat):Int)<=i by rw[zGr]; exact hi2))).symm;refine zAl rfl (fun _=>?_) (fun h=>by cases h)
    refine zSV ?_;refine zAg ?_;obtain rfl:none=y:=(zFz (n:=.mk k t c ks) (fun h=>by have:i<ks.length:=h.2; omega)).symm.trans hI;unfold zCQ;exact⟨_,Le.forget [(5,.s (.bool false))] ⟨rfl,trivial⟩,rfl,rfl⟩
   refine zAb [] [21,29] rfl ?_;intro b hb;obtain rfl:false=b:=(hb.trans (decide_eq_false hi)).symm;intro b hb;obtain rfl:false=b:=(hb.trans (decide_eq_false (show ¬ (((Nd.encs ks).length:Nat):Int)<=i by rw[zGr]; exact hi2))).symm;refine zAl rfl (fun h=>by cases h) (fun _=>?_)
   refine zAe ?_;show Tri ..;have hi0:i.toNat<ks.length :=(by omega);obtain⟨⟨k2,t2,c2,ks2⟩,hx⟩:∃ x,ks[i.toNat]? = some x:=⟨_,List.getElem?_eq_getElem hi0⟩
   refine zAk (Le.forget [(0,.s (.pt [.int .i64 k,.str t,.int .i64 c,.sl 4 (Nd.encs ks)])),(1,.s (.sl 1 ((i::s::p).map (irow .i64)))),(4,.s .np),(5,.s (.bool false)),(6,.s (.int .i64 i)),(7,.s (.int .i64 s))] ⟨rfl,rfl,rfl,rfl,rfl,rfl,trivial⟩) ?_;refine zSV ?_;refine And.intro (show(0:Int)<=i/\i<(((Nd.encs ks).length:Nat):Int) by rw[zGr]; omega) ?_;show Tri ..
   refine zAk (Le.forget [(0,.s (.pt [.int .i64 k,.str t,.int .i64 c,.sl 4 (Nd.encs ks)])),(1,.s (.sl 1 ((i::s::p).map (irow .i64)))),(4,.s .np),(5,.s (.bool false)),(6,.s (.int .i64 i)),(7,.s (.int .i64 s)),(8,.s (.pt [.int .i64 k2,.str t2,.int .i64 c2,.sl 4 (Nd.encs ks2)]))] ⟨rfl,rfl,rfl,rfl,rfl,rfl,congrArg (fun z=>AV.s (.pt z)) (zP6 hx),trivial⟩) ?_;refine zAa ?_;refine zAa ?_
   by_cases hs:s<0
   ·refine zAb [] [38] rfl ?_;intro b hb;obtain rfl:true=b:=(hb.trans (decide_eq_true hs)).symm;refine zAl rfl (fun _=>?_) (fun h=>by cases h)
    refine zSV ?_;refine zAg ?_;obtain rfl:none=y:=(zFA (n:=.mk k t c ks) (by omega) hx (fun h=>by omega)).symm.trans hI;unfold zCQ;exact⟨_,Le.forget [(5,.s (.bool false))] ⟨rfl,trivial⟩,rfl,rfl⟩
   by_cases hs2:(ks2.length:Int)<=s
   ·refine zAb [] [38,46] rfl ?_;intro b hb;obtain rfl:false=b:=(hb.trans (decide_eq_false hs)).symm;intro b hb;obtain rfl:true=b:=(hb.trans (decide_eq_true (show(((Nd.encs ks2).length:Nat):Int)<=s by rw[zGr]; exact hs2))).symm;refine zAl rfl (fun _=>?_) (fun h=>by cases h)
    refine zSV ?_;refine zAg ?_;obtain rfl:none=y:=(zFA (n:=.mk k t c ks) (by omega) hx (fun h=>by have:s<ks2.length:=h.2; omega)).symm.trans hI;unfold zCQ;exact⟨_,Le.forget [(5,.s (.bool false))] ⟨rfl,trivial⟩,rfl,rfl⟩
   refine zAb [] [38,46] rfl ?_;intro b hb;obtain rfl:false=b:=(hb.trans (decide_eq_false hs)).symm;intro b hb;obtain rfl:false=b:=(hb.trans (decide_eq_false (show ¬ (((Nd.encs ks2).length:Nat):Int)<=s by rw[zGr]; exact hs2))).symm;refine zAl rfl (fun h=>by cases h) (fun _=>?_)
   refine zAe ?_;show Tri ..;have hs0:s.toNat<ks2.length :=(by omega);obtain⟨z,hz⟩:∃ z,ks2[s.toNat]? = some z:=⟨_,List.getElem?_eq_getElem hs0⟩
   refine zAk (Le.forget [(0,.s (.pt [.int .i64 k,.str t,.int .i64 c,.sl 4 (Nd.encs ks)])),(1,.s (.sl 1 ((i::s::p).map (irow .i64)))),(4,.s .np),(5,.s (.bool false)),(6,.s (.int .i64 i)),(7,.s (.int .i64 s)),(8,.s (.pt [.int .i64 k2,.str t2,.int .i64 c2,.sl 4 (Nd.encs ks2)]))] ⟨rfl,rfl,rfl,rfl,rfl,rfl,rfl,trivial⟩) ?_;refine zSU ?_;refine And.intro (show(0:Int)<=s/\s<(((Nd.encs ks2).length:Nat):Int) by rw[zGr]; omega) ?_;show Tri ..
   refine zAk (Le.forget [(0,.s (.pt (Nd.enc z))),(1,.s (.sl 1 ((i::s::p).map (irow .i64)))),(4,.s .np),(5,.s (.bool false))] ⟨congrArg (fun z=>AV.s (.pt z)) (zP6 hz),rfl,rfl,rfl,trivial⟩) ?_;refine zSU ?_;refine And.intro (show(0:Int)<=2/\(2:Int)<=((((i::s::p).map (irow .i64)).length:Nat):Int)/\_<=_ from⟨by decide,by simp only[List.map_cons,List.length_cons]; omega,Int.le_refl _⟩) ?_
   exact⟨(z,p),(zLc (n:=.mk k t c ks) (by omega) hx (by omega) hz).symm.trans hI,Le.forget [(0,.s (.pt (Nd.enc z))),(1,.s (.sl 1 (p.map (irow .i64)))),(4,.s .np),(5,.s (.bool false))] ⟨rfl,congrArg (fun z=>AV.s (.sl 1 z)) (by rw[Int.toNat_natCast,List.take_length]; rfl),rfl,rfl,trivial⟩,by show p.length<p.length+1+1; omega⟩
 ·refine zAx ?_;refine zAa ?_
  match p,hI,hb with
  | [],hI,_ =>
   refine zSU ?_;refine zAg ?_;obtain rfl:some (.mk k t c ks)=y:=hI;unfold zCQ;exact⟨_,Le.refl _ _,rfl,rfl⟩
  | [i],hI,_ =>
   refine zSU ?_;refine zAg ?_;obtain rfl:none=y:=hI;unfold zCQ;exact⟨_,Le.forget [(5,.s (.bool false))] ⟨rfl,trivial⟩,rfl,rfl⟩
  | i::s::p,_,hb=>exact absurd (of_decide_eq_false hb) (by simp only[List.map_cons,List.length_cons]; omega)
def zAT (slices1:List (List Nd)):Nat->Int->Int->Option (Int)
| 0,_,_=>none
| k+1,x3,size4=>bif decide (x3<(slices1.length:Int)) then ((at? slices1 x3).bind fun e6=>bif decide ((IntKind.i64.wrap (size4+(e6.length:Int)))<0) then (none) else (zAT slices1 k (IntKind.i64.wrap (x3+1)) (IntKind.i64.wrap (size4+(e6.length:Int))))) else (some size4)
def zAU (slices1:List (List Nd)):Nat->Int->(List Nd)->Option ((List Nd))
| 0,_,_=>none
| k+1,x11,l13=>bif decide (x11<(slices1.length:Int)) then ((at? slices1 x11).bind fun e15=>req (l13.length+e15.length<=4294967296) <| zAU slices1 k (IntKind.i64.wrap (x11+1)) (l13++e15)) else (some l13)
def zCo (n:Nat):(List (List Nd))->Option (List Nd)
| slices1=>(zAT slices1 n 0 0).bind fun size5=>(zB1 size5).bind fun y9=>(zAU slices1 n 0 y9).bind fun l14=>some l14
def zAZ (n:Nat):(zO8×List Nd)->Int->(List Nd)->Option (List Nd)
| ⟨⟨c1Y,c1Ag,c1P,c1Z,c1T,c1U,c1Af,c1Ad⟩,c1Q⟩,n2,nodes3=>req (0<=(0:Int)/\(0:Int)<=c1P/\c1P<=(c1Q.length:Int)) <| req (0<=(IntKind.i64.wrap (c1P+n2))/\(IntKind.i64.wrap (c1P+n2))<=(c1Q.length:Int)/\(c1Q.length:Int)<=(c1Q.length:Int)) <| (zCo n [(c1Q.take c1P.toNat).drop (0:Int).toNat,nodes3,(c1Q.take (c1Q.length:Int).toNat).drop (IntKind.i64.wrap (c1P+n2)).toNat]).bind fun y7=>some y7
def zBG (n:Nat):(zO8×List Nd)->Option ((List Nd)×Int)
| ⟨⟨c1Y,c1Ag,c1P,c1Z,c1T,c1U,c1Af,c1Ad⟩,c1Q⟩=>(at? c1Q c1P).bind fun⟨e2A,e2C,e2D,e2B⟩=>(zBN (Nd.mk e2A e2C e2D e2B)).bind fun⟨y4A,y4C,y4D,y4B⟩=>(zDK (Nd.mk y4A y4C y4D y4B)).bind fun y5=>bif decide (y5<=c1U) then (some ([],7)) else ((at? y4B c1U).bind fun⟨e6A,e6C,e6D,e6B⟩=>(at? y4B c1U).bind fun⟨e7A,e7C,e7D,e7B⟩=>(bif ((e6B.length:Int) != c1Z) then (some true) else ((at? c1T 0).bind fun⟨e11A,e11C,e11D,e11B⟩=>(zCk n (Nd.mk y4A y4C y4D (y4B.set c1U.toNat (Nd.mk e7A e7C e7D []))) (Nd.mk e11A e11C e11D e11B)).bind fun y13=>some (!y13))
   : Option (Bool)).bind fun x9=>bif x9 then (some ([],7)) else ((zAZ n ((c1Y,c1Ag,c1P,c1Z,c1T,c1U,c1Af,c1Ad),c1Q) 1 e6B).bind fun y14=>some (y14,0)))
def zC9 (n:Nat):(zO8×List Nd)->Option ((List Nd)×Int)
| ⟨⟨c1Y,c1Ag,c1P,c1Z,c1T,c1U,c1Af,c1Ad⟩,c1Q⟩=>(at? c1T 0).bind fun⟨e2A,e2C,e2D,e2B⟩=>(zBN (Nd.mk e2A e2C e2D e2B)).bind fun⟨y4A,y4C,y4D,y4B⟩=>req (0<=c1P/\c1P<=IntKind.i64.wrap (c1P+c1Z)/\IntKind.i64.wrap (c1P+c1Z)<=(c1Q.length:Int)) <| (zD6 ((c1Q.take (IntKind.i64.wrap (c1P+c1Z)).toNat).drop c1P.toNat)).bind fun y6=>(at? y4B c1U).bind fun⟨e7A,e7C,e7D,e7B⟩=>(zAZ n ((c1Y,c1Ag,c1P,c1Z,c1T,c1U,c1Af,c1Ad),c1Q) c1Z [Nd.mk y4A y4C y4D (y4B.set c1U.toNat (Nd.mk e7A e7C e7D y6))]).bind fun y10=>some (y10,0)
def zCG (n:Nat):(zO8×List Nd)->Option ((List Nd)×Int)
| ⟨⟨c1Y,c1Ag,c1P,c1Z,c1T,c1U,c1Af,c1Ad⟩,c1Q⟩=>(zAZ n ((c1Y,c1Ag,c1P,c1Z,c1T,c1U,c1Af,c1Ad),c1Q) 0 c1T).bind fun y2=>some (y2,0)
def zCH (n:Nat):(zO8×List Nd)->Option ((List Nd)×Int)
| ⟨⟨c1Y,c1Ag,c1P,c1Z,c1T,c1U,c1Af,c1Ad⟩,c1Q⟩=>req (0<=c1P/\c1P<=IntKind.i64.wrap (c1P+(c1T.length:Int))/\IntKind.i64.wrap (c1P+(c1T.length:Int))<=(c1Q.length:Int)) <| (zAW n ((c1Q.take (IntKind.i64.wrap (c1P+(c1T.length:Int))).toNat).drop c1P.toNat) c1T).bind fun y4=>bif (!y4) then (some ([],7)) else ((zAZ n ((c1Y,c1Ag,c1P,c1Z,c1T,c1U,c1Af,c1Ad),c1Q) (c1T.length:Int) []).bind fun y5=>some (y5,0))
def zDu (n:Nat):(zO8×List Nd)->Option ((List Nd)×Int)
| ⟨⟨c1Y,c1Ag,c1P,c1Z,c1T,c1U,c1Af,c1Ad⟩,c1Q⟩=>(at? c1Q c1P).bind fun⟨e2A,e2C,e2D,e2B⟩=>((bif (e2A == 2) then (some (e2A == 2)) else (bif (e2A == 3) then (some (e2A == 3)) else (bif (e2A == 4) then (some (e2A == 4)) else (bif (e2A == 10) then (some (e2A == 10)) else (some (e2A == 11))))):Option (Bool)).bind fun x4=>bif x4 then (some (.go ())) else (some (.ret ([],7))):Option (Fl ((List Nd)×Int) Unit)).bind fun fl=>match fl with
 | .ret r=>some r
 | .go _=>bif (!(e2C == c1Af)) then (some ([],7)) else ((zAZ n ((c1Y,c1Ag,c1P,c1Z,c1T,c1U,c1Af,c1Ad),c1Q) 1 [Nd.mk e2A c1Ad e2D e2B]).bind fun y6=>some (y6,0))
def zBg:(zO8×List Nd)->Option Int
| ⟨⟨c1Y,c1Ag,c1P,c1Z,c1T,c1U,c1Af,c1Ad⟩,c1Q⟩=>(bif (c1Y == 1) then (some 0) else (bif (c1Y == 2) then (some (c1T.length:Int)) else (bif (c1Y == 3) then (some c1Z) else (some 1))):Option (Int)).bind fun need2=>(bif decide (c1P<0) then (some true) else (bif decide ((c1Q.length:Int)<c1P) then (some true) else (some (decide ((IntKind.i64.wrap ((c1Q.length:Int) - c1P))<need2)))):Option (Bool)).bind fun x4=>bif x4 then (some 2) else (some 0)
def zDX (n:Nat):(List Nd)->Int->Option Bool
| l1,slot2=>(bif ((l1.length:Int) != 1) then (some true) else ((zCt n l1).bind fun y5=>bif (!y5) then (some true) else (bif decide (slot2<0) then (some true) else ((at? l1 0).bind fun⟨e6A,e6C,e6D,e6B⟩=>(zDK (Nd.mk e6A e6C e6D e6B)).bind fun y8=>some (decide (y8<=slot2))))):Option (Bool)).bind fun x3=>bif x3 then (some false) else ((at? l1 0).bind fun⟨e9A,e9C,e9D,e9B⟩=>(at? e9B slot2).bind fun⟨e11A,e11C,e11D,e11B⟩=>some ((e11B.length:Int) == 0))
def zBD (n:Nat):zO8->Option Bool
| ⟨a1A,a1Ac,a1Ae,a1Aa,a1G,a1Ab,a1X,a1C⟩=>(bif (!(a1X == [])) then (some true) else (some (!(a1C == []))):Option (Bool)).bind fun x2=>((bif (a1A == 1) then (some (a1A == 1)) else (some (a1A == 2)):Option (Bool)).bind fun x3=>bif x3 then ((bif (a1Aa == 0) then (bif (a1Ab == 0) then (bif (!x2) then (bif decide (0<(a1G.length:Int)) then ((zCt n a1G).bind fun y6=>some y6) else (some false)) else (some false)) else (some false)) else (some false):Option (Bool)).bind fun x4=>some (.ret x4)) else ((bif (a1A == 3) then (some (a1A == 3)) else (some (a1A == 4)):Option (Bool)).bind fun x7=>bif x7 then ((bif decide (0<=a1Aa) then (bif (!x2) then ((zDX n a1G a1Ab).bind fun y9=>some y9) else (some false)) else (some false):Option (Bool)).bind fun x8=>some (.ret x8)
   ) else (bif (a1A == 5) then ((bif (a1Aa == 0) then (bif (a1Ab == 0) then (bif ((a1G.length:Int) == 0) then (some (!(a1X == a1C))) else (some false)) else (some false)) else (some false):Option (Bool)).bind fun x10=>some (.ret x10)) else (some (.go ())))):Option (Fl Bool Unit)).bind fun fl=>match fl with
 | .ret r=>some r
 | .go _=>some false
def zDt:(List Int)->Option (List Int)
| l1=>(zEE l1).bind fun y2=>some y2
def zCj (l1:List Nd):Nat->Int->(List Nd)->Option ((List Nd))
| 0,_,_=>none
| k+1,x4,l5=>bif decide (x4<(l1.length:Int)) then ((at? l1 x4).bind fun⟨e7A,e7C,e7D,e7B⟩=>(zAE (Nd.mk e7A e7C e7D e7B)).bind fun⟨y9A,y9C,y9D,y9B⟩=>req (l5.length + [Nd.mk y9A y9C y9D y9B].length<=4294967296) <| zCj l1 k (IntKind.i64.wrap (x4+1)) (l5++[Nd.mk y9A y9C y9D y9B])) else (some l5)
def zF9 (n:Nat):(List Nd)->Option (List Nd)
| l1=>(zCj l1 n 0 []).bind fun l6=>some l6
def zHQ (n:Nat):zO8->Option zO8
| ⟨op1A,op1Ac,op1Ae,op1Aa,op1G,op1Ab,op1X,op1C⟩=>(zDt op1Ac).bind fun y2=>(zF9 n op1G).bind fun y3=>some (op1A,y2,op1Ae,op1Aa,y3,op1Ab,op1X,op1C)
def zBH:(zO8×List Nd)->Option ((List Nd)×Int)
| ⟨⟨c1Y,c1Ag,c1P,c1Z,c1T,c1U,c1Af,c1Ad⟩,c1Q⟩=>(at? c1Q c1P).bind fun⟨e2A,e2C,e2D,e2B⟩=>(zAE (Nd.mk e2A e2C e2D e2B)).bind fun⟨y4A,y4C,y4D,y4B⟩=>(zDK (Nd.mk y4A y4C y4D y4B)).bind fun y5=>bif decide (y5<=c1U) then (some ([],7)) else (none)
def zCI (n:Nat) (c:zO8×List Nd):Option (List Nd×Int) :=
 match zBH c with
 | some r=>some r
 | none=>zBG n c
def zCS (n:Nat):(zO8×List Nd)->Option ((List Nd)×Int)
| ⟨⟨c1Y,c1Ag,c1P,c1Z,c1T,c1U,c1Af,c1Ad⟩,c1Q⟩=>(zBg ((c1Y,c1Ag,c1P,c1Z,c1T,c1U,c1Af,c1Ad),c1Q)).bind fun y2=>bif (y2 != 0) then (some ([],y2)) else (bif (c1Y == 1) then ((zCG n ((c1Y,c1Ag,c1P,c1Z,c1T,c1U,c1Af,c1Ad),c1Q)).bind fun⟨y3,y4⟩=>some (y3,y4)) else (bif (c1Y == 2) then ((zCH n ((c1Y,c1Ag,c1P,c1Z,c1T,c1U,c1Af,c1Ad),c1Q)).bind fun⟨y5,y6⟩=>some (y5,y6)) else (bif (c1Y == 3) then ((zC9 n ((c1Y,c1Ag,c1P,c1Z,c1T,c1U,c1Af,c1Ad),c1Q)).bind fun⟨y7,y8⟩=>some (y7,y8)) else (
     bif (c1Y == 4) then ((zCI n ((c1Y,c1Ag,c1P,c1Z,c1T,c1U,c1Af,c1Ad),c1Q)).bind fun⟨y9,y10⟩=>some (y9,y10)) else ((zDu n ((c1Y,c1Ag,c1P,c1Z,c1T,c1U,c1Af,c1Ad),c1Q)).bind fun⟨y11,y12⟩=>some (y11,y12))))))
def zGa (n:Nat):Nd->zO8->Option (Nd×Int)
| ⟨n1A,n1C,n1D,n1B⟩,⟨op2A,op2Ac,op2Ae,op2Aa,op2G,op2Ab,op2X,op2C⟩=>(zAv n (Nd.mk n1A n1C n1D n1B)).bind fun y3=>bif (!y3) then (some (Nd.mk 0 [] 0 [],1)) else ((zBD n (op2A,op2Ac,op2Ae,op2Aa,op2G,op2Ab,op2X,op2C)).bind fun y4=>bif (!y4) then (some (Nd.mk 0 [] 0 [],4)) else ((zCs n (Nd.mk n1A n1C n1D n1B) op2Ac).bind fun⟨⟨y5A,y5C,y5D,y5B⟩,y6⟩=>bif (y6 != 0) then (some (Nd.mk 0 [] 0 [],y6)) else ((zCS n ((op2A,op2Ac,op2Ae,op2Aa,op2G,op2Ab,op2X,op2C),y5B)).bind fun⟨y7,y8⟩=>bif (y8 != 0) then (some (Nd.mk 0 [] 0 [],y8)) else (
     (zBW n (Nd.mk n1A n1C n1D n1B) op2Ac (Nd.mk y5A y5C y5D y7)).bind fun⟨⟨y9A,y9C,y9D,y9B⟩,y10⟩=>bif (y10 != 0) then (some (Nd.mk 0 [] 0 [],6)) else (some (Nd.mk y9A y9C y9D y9B,0))))))
def zBC (n:Nat) (ops2:List zO8):Nat->Int->(List UInt8)->Int->(List Nd)->Int->Option (Fl (Nd×Int×Int) (Int×(List UInt8)×Int×(List Nd)))
| 0,_,_,_,_,_=>none
| k+1,x7,x8,x9,x10,x11=>bif decide (x11<(ops2.length:Int)) then ((at? ops2 x11).bind fun⟨e16A,e16Ac,e16Ae,e16Aa,e16G,e16Ab,e16X,e16C⟩=>(zGa n (Nd.mk x7 x8 x9 x10) (e16A,e16Ac,e16Ae,e16Aa,e16G,e16Ab,e16X,e16C)).bind fun⟨⟨y18A,y18C,y18D,y18B⟩,y19⟩=>bif (y19 != 0) then (some (.ret (Nd.mk 0 [] 0 [],x11,y19))) else (zBC n ops2 k y18A y18C y18D y18B (IntKind.i64.wrap (x11+1)))) else (some (.go (x7,x8,x9,x10)))
def zC7 (n:Nat):Nd->(List zO8)->Option (Nd×Int×Int)
| ⟨n1A,n1C,n1D,n1B⟩,ops2=>(zAv n (Nd.mk n1A n1C n1D n1B)).bind fun y3=>bif (!y3) then (some (Nd.mk 0 [] 0 [],0,1)) else ((zAE (Nd.mk n1A n1C n1D n1B)).bind fun⟨y4A,y4C,y4D,y4B⟩=>(zBC n ops2 n y4A y4C y4D y4B 0).bind fun fl=>match fl with
  | .ret r=>some r
  | .go ⟨x12,x13,x14,x15⟩=>some (Nd.mk x12 x13 x14 x15,0,0))
def zC8 (n:Nat):zO8->Option zO8
| ⟨op1A,op1Ac,op1Ae,op1Aa,op1G,op1Ab,op1X,op1C⟩=>(zHQ n (op1A,op1Ac,op1Ae,op1Aa,op1G,op1Ab,op1X,op1C)).bind fun⟨y2A,y2Ac,y2Ae,y2Aa,y2G,y2Ab,y2X,y2C⟩=>(bif (op1A == 1) then (some (2,y2X,y2C)) else (bif (op1A == 2) then (some (1,y2X,y2C)) else (bif (op1A == 3) then (some (4,y2X,y2C)) else (bif (op1A == 4) then (some (3,y2X,y2C)) else (bif (op1A == 5) then (some (y2A,op1C,op1X)) else (some (y2A,y2X,y2C)))))):Option (Int×(List UInt8)×(List UInt8))).bind fun⟨x3,x4,x5⟩=>some (x3,y2Ac,y2Ae,y2Aa,y2G,y2Ab,x4,x5)
def zAY (n:Nat) (ops:List zO8):Nat->Option (List zO8)
| 0=>some []
| i+1=>(zAY n ops i).bind fun acc=>(ops[ops.length - 1 - i]?).bind fun o=>(zC8 n o).bind fun y=>req (acc.length+1<=4294967296) <| some (acc++[y])
def zDW (n:Nat):(List zO8)->Option (List zO8)
| ops2=>req (ops2.length<=4294967296) <| zAY n ops2 ops2.length
def zFB (n:Nat):Nd->Option ((Option (Nd×Nd×List zRc×Int))×Int)
| ⟨n1A,n1C,n1D,n1B⟩=>(zAv n (Nd.mk n1A n1C n1D n1B)).bind fun y2=>bif (!y2) then (some (none,1)) else ((zAE (Nd.mk n1A n1C n1D n1B)).bind fun⟨y3A,y3C,y3D,y3B⟩=>(zAE (Nd.mk n1A n1C n1D n1B)).bind fun⟨y4A,y4C,y4D,y4B⟩=>some (some (Nd.mk y3A y3C y3D y3B,Nd.mk y4A y4C y4D y4B,[],0),0))
def zC5 (n:Nat) (l1:List zO8):Nat->Int->(List zO8)->Option ((List zO8))
| 0,_,_=>none
| k+1,x4,l5=>bif decide (x4<(l1.length:Int)) then ((at? l1 x4).bind fun⟨e7A,e7Ac,e7Ae,e7Aa,e7G,e7Ab,e7X,e7C⟩=>(zHQ n (e7A,e7Ac,e7Ae,e7Aa,e7G,e7Ab,e7X,e7C)).bind fun⟨y9A,y9Ac,y9Ae,y9Aa,y9G,y9Ab,y9X,y9C⟩=>req (l5.length + [(y9A,y9Ac,y9Ae,y9Aa,y9G,y9Ab,y9X,y9C)].length<=4294967296) <| zC5 n l1 k (IntKind.i64.wrap (x4+1)) (l5++[(y9A,y9Ac,y9Ae,y9Aa,y9G,y9Ab,y9X,y9C)])) else (some l5)
def zIh (n:Nat):(List zO8)->Option (List zO8)
| l1=>(zC5 n l1 n 0 []).bind fun l6=>some l6
def zBV:zCu->Option zCu
| ⟨c1Am,c1An⟩=>(zDt c1Am).bind fun y2=>(zDt c1An).bind fun y3=>some (y2,y3)
def zEd (n:Nat):zRc->Option zRc
| ⟨r1Ah,⟨r1Ai,r1Aj⟩,⟨r1Ak,r1Al⟩⟩=>(zIh n r1Ah).bind fun y2=>(zBV (r1Ai,r1Aj)).bind fun⟨y3Am,y3An⟩=>(zBV (r1Ak,r1Al)).bind fun⟨y4Am,y4An⟩=>some (y2,(y3Am,y3An),(y4Am,y4An))
def zCJ (n:Nat):(Nd×Nd×List zRc×Int)->zRc->Option (Int×(Nd×Nd×List zRc×Int))
| ⟨⟨o1H,o1I,o1J,o1K⟩,⟨o1L,o1M,o1N,o1O⟩,o1F,o1E⟩,⟨r2Ah,⟨r2Ai,r2Aj⟩,⟨r2Ak,r2Al⟩⟩=>(zC7 n (Nd.mk o1L o1M o1N o1O) r2Ah).bind fun⟨⟨y3A,y3C,y3D,y3B⟩,y4,y5⟩=>bif (y5 != 0) then (some (y5,(Nd.mk o1H o1I o1J o1K,Nd.mk o1L o1M o1N o1O,o1F,o1E))) else (bif decide (1000<=o1E) then (some (6,(Nd.mk o1H o1I o1J o1K,Nd.mk o1L o1M o1N o1O,o1F,o1E))) else (req (0<=o1E/\o1E<=(o1F.length:Int)) <|
   (zEd n (r2Ah,(r2Ai,r2Aj),(r2Ak,r2Al))).bind fun⟨y6Ah,⟨y6Ai,y6Aj⟩,⟨y6Ak,y6Al⟩⟩=>req ((o1F.take o1E.toNat).length + [(y6Ah,(y6Ai,y6Aj),(y6Ak,y6Al))].length<=4294967296) <| some (0,(Nd.mk o1H o1I o1J o1K,Nd.mk y3A y3C y3D y3B,(o1F.take o1E.toNat)++[(y6Ah,(y6Ai,y6Aj),(y6Ak,y6Al))],IntKind.i64.wrap (o1E+1)))))
def zBu:(Nd×Nd×List zRc×Int)->Option (Nd×(Nd×Nd×List zRc×Int))
| ⟨⟨o1H,o1I,o1J,o1K⟩,⟨o1L,o1M,o1N,o1O⟩,o1F,o1E⟩=>(zAE (Nd.mk o1L o1M o1N o1O)).bind fun⟨y2A,y2C,y2D,y2B⟩=>some (Nd.mk y2A y2C y2D y2B,(Nd.mk o1H o1I o1J o1K,Nd.mk o1L o1M o1N o1O,o1F,o1E))
def zCc (n:Nat):(Nd×Nd×List zRc×Int)->Option (zCu×Int×(Nd×Nd×List zRc×Int))
| ⟨⟨o1H,o1I,o1J,o1K⟩,⟨o1L,o1M,o1N,o1O⟩,o1F,o1E⟩=>bif (o1E == 0) then (some (([],[]),8,(Nd.mk o1H o1I o1J o1K,Nd.mk o1L o1M o1N o1O,o1F,o1E))) else ((at? o1F (IntKind.i64.wrap (o1E - 1))).bind fun⟨e2Ah,⟨e2Ai,e2Aj⟩,⟨e2Ak,e2Al⟩⟩=>(zDW n e2Ah).bind fun y3=>(zC7 n (Nd.mk o1L o1M o1N o1O) y3).bind fun⟨⟨y4A,y4C,y4D,y4B⟩,y5,y6⟩=>bif (y6 != 0) then (some (([],[]),y6,(Nd.mk o1H o1I o1J o1K,Nd.mk o1L o1M o1N o1O,o1F,o1E))) else (
   (zBV (e2Ai,e2Aj)).bind fun⟨y7Am,y7An⟩=>some ((y7Am,y7An),0,(Nd.mk o1H o1I o1J o1K,Nd.mk y4A y4C y4D y4B,o1F,IntKind.i64.wrap (o1E - 1)))))
def zA7 (n:Nat) (o1:List zRc):Nat->Int->(List zRc)->Option ((List zRc))
| 0,_,_=>none
| k+1,x4,l5=>bif decide (x4<(o1.length:Int)) then ((at? o1 x4).bind fun⟨e7Ah,⟨e7Ai,e7Aj⟩,⟨e7Ak,e7Al⟩⟩=>(zEd n (e7Ah,(e7Ai,e7Aj),(e7Ak,e7Al))).bind fun⟨y8Ah,⟨y8Ai,y8Aj⟩,⟨y8Ak,y8Al⟩⟩=>req (l5.length + [(y8Ah,(y8Ai,y8Aj),(y8Ak,y8Al))].length<=4294967296) <| zA7 n o1 k (IntKind.i64.wrap (x4+1)) (l5++[(y8Ah,(y8Ai,y8Aj),(y8Ak,y8Al))])) else (some l5)
def zC6 (n:Nat):(List zRc)->Option (List zRc)
| o1=>(zA7 n o1 n 0 []).bind fun l6=>some l6
def zBI (n:Nat):(Nd×Nd×List zRc×Int)->Option ((List zRc)×(Nd×Nd×List zRc×Int))
| ⟨⟨o1H,o1I,o1J,o1K⟩,⟨o1L,o1M,o1N,o1O⟩,o1F,o1E⟩=>(zC6 n o1F).bind fun y2=>some (y2,(Nd.mk o1H o1I o1J o1K,Nd.mk o1L o1M o1N o1O,o1F,o1E))
def zEB (n:Nat):Option Bool
:= (zFB n (Nd.mk 1 [] 0 [])).bind fun⟨y1,y2⟩=>match y1 with
 | none=>(req (y2=1) <| some false)
 | some ⟨⟨w3H,w3I,w3J,w3K⟩,⟨w3L,w3M,w3N,w3O⟩,w3F,w3E⟩=>(req (y2=0) <| (zCJ n (Nd.mk w3H w3I w3J w3K,Nd.mk w3L w3M w3N w3O,w3F,w3E) ([(1,[],0,0,[Nd.mk 2 [120] 0 []],0,[],[])],([],[]),([],[]))).bind fun⟨y6,⟨⟨w7H,w7I,w7J,w7K⟩,⟨w7L,w7M,w7N,w7O⟩,w7F,w7E⟩⟩ =>
  (zBu (Nd.mk w7H w7I w7J w7K,Nd.mk w7L w7M w7N w7O,w7F,w7E)).bind fun⟨⟨y8A,y8C,y8D,y8B⟩,⟨⟨w9H,w9I,w9J,w9K⟩,⟨w9L,w9M,w9N,w9O⟩,w9F,w9E⟩⟩=>(zCc n (Nd.mk w9H w9I w9J w9K,Nd.mk w9L w9M w9N w9O,w9F,w9E)).bind fun⟨⟨y11Am,y11An⟩,y12,⟨⟨w13H,w13I,w13J,w13K⟩,⟨w13L,w13M,w13N,w13O⟩,w13F,w13E⟩⟩=>(bif (y6 == 0) then (bif (y12 == 0) then (bif ((y8B.length:Int) == 1) then (
      (zBu (Nd.mk w13H w13I w13J w13K,Nd.mk w13L w13M w13N w13O,w13F,w13E)).bind fun⟨⟨y15A,y15C,y15D,y15B⟩,⟨⟨w16H,w16I,w16J,w16K⟩,⟨w16L,w16M,w16N,w16O⟩,w16F,w16E⟩⟩=>bif ((y15B.length:Int) == 0) then ((zBI n (Nd.mk w16H w16I w16J w16K,Nd.mk w16L w16M w16N w16O,w16F,w16E)).bind fun⟨y18,⟨⟨w19H,w19I,w19J,w19K⟩,⟨w19L,w19M,w19N,w19O⟩,w19F,w19E⟩⟩=>some ((y18.length:Int) == 1)) else (some false)) else (some false)) else (some false)
   ) else (some false):Option (Bool)).bind fun x14=>some x14)
end Go.Proofs.Ytffhjiplcfncdaa
