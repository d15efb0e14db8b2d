/-
  Joined out of: PFilB, PFilC, PFilD, PFAwk.
-/
import Derived.Test.YtgplhldfbkmmgaaGreatZf
set_option linter.unusedVariables false
set_option linter.unusedSimpArgs false
set_option maxHeartbeats 2000000
set_option maxRecDepth 100000
namespace Go.Proofs.YtgplhldfbkmmgaaGreat
open Go.Abs
theorem zS1 (n:Nat) (hn:200000000<n){ops:List Op8} (hl:ops.length<=10000000) (ho:∀ o∈ops,opw o<=1900000/\o.row.length<=2000000):∀ (k i:Nat) (t:Nd),ops.length - i<k->i<=ops.length->t.w+sw (ops.drop i)<=40000000 ->
  ∃ f,zCH n ops k t.kind t.text t.cols t.kids (i:Int)=some f/\Runs t (ops.drop i) (endOf f).1 (endOf f).2.2
 | 0,i,t,h,_,_=>by omega
 | k+1,i,t,h,hi,hw=>by
  unfold zCH
  by_cases hj:i<ops.length
  ·have hd:=List.drop_eq_getElem_cons hj;have hs:=ho _ (List.getElem_mem hj)
   rw[hd]at hw;simp only[sw]at hw;unfold opw at hw hs;obtain⟨t',e,g1,g3⟩:=zNm n t ops[i] hn (by omega) (by omega) (by have:=hs.1; simp only[Op8.text]at this; omega) (by have:=hs.2; simp only[Op8.row]at this; omega)
   have hw':=g3.w;rw[zAB (Int.ofNat_lt.2 hj),zAv hj,hd]
   simp only[cond_true]
   generalize ops[i]=o at *;obtain⟨q1,q2,q3,q4,q5,q6,q7,q8⟩:=o;obtain⟨t1,t2,t3,t4⟩:=t;have ih:=zS1 n hn hl ho k (i+1) t' (by omega) (by omega) (by simp only[Op8.text]at hw; dsimp only at hw' hw; omega)
   obtain⟨u1,u2,u3,u4⟩:=t';simp only[Nd.kind,Nd.text,Nd.cols,Nd.kids]at ih ⊢;simp only[obs,g1]
   by_cases he:e=0
   ·subst he;simp only[show((0:Int) != 0)=false from rfl,cond_false,zAy (show i<9223372036854775807 by omega)]
    obtain⟨f,h1,h3⟩:=ih;exact⟨f,h1,.next g3 h3⟩
   ·have hne:(e != 0)=true:=bne_iff_ne.2 he;simp only[hne,cond_true]
    exact⟨_,rfl,.stop g3 he⟩
  ·rw[zAx (by omega),List.drop_eq_nil_iff.2 (by omega)]
   obtain⟨t1,t2,t3,t4⟩:=t;simp only[cond_false]
   exact⟨_,rfl,.nil _⟩
theorem zYM (n:Nat) (t:Nd) (ops:List Op8) (hn:200000000<n) (hv:zAz t=true) (hw:sw ops<=20000000) (ho:∀ o∈ops,opw o<=1900000/\o.row.length<=2000000) :
  ∃ u i e,zDk n t ops=some (u,i,e)/\Runs t ops u e:=by
 have vw:=zM1 hv;have sl:=zUR ops;have v2:=zEi n t (by omega) (by omega)
 rw[hv]at v2;obtain⟨f,h1,h3⟩:=zS1 n hn (ops:=ops) (by omega) ho n 0 t (by omega) (by omega) (by rw[List.drop_zero]; omega)
 rw[show((0:Nat):Int)=0 from rfl]at h1;rw[List.drop_zero]at h3;obtain⟨t1,t2,t3,t4⟩:=t;simp only[Nd.kind,Nd.text,Nd.cols,Nd.kids]at h1;unfold zDk;simp only[v2,obs,h1,Bool.not_true,cond_false]
 cases f with
 | ret r =>
  obtain⟨u,i,e⟩:=r;exact⟨u,i,e,rfl,h3⟩
 | go g =>
  obtain⟨a,b,c,d⟩:=g;exact⟨_,0,0,rfl,h3⟩
mutual
theorem zTH:∀ t:Nd,t.w+6<=(zD8 t).w
 | .mk k t c ks=>by
  have:=zRf ks
  rw[zD8,list_w]
  simp only[CV.ws,zMF,zJU,Nd.w]
  omega
theorem zRf:∀ l:List Nd,Nd.ws l<=CV.ws (zF7 l)
 | []=>Nat.zero_le _
 | v::vs=>by
  have h1:=zTH v
  have h2:=zRf vs
  rw[zF7]
  simp only[CV.ws,Nd.ws]
  omega
end
theorem zWs (o:Op8):zIj o+10<=(opV o).w:=by
 have h1:=zRf o.2.2.2.2.1;rw[opV,list_w]
 unfold zIj;simp only[CV.ws,zMF,zJU,zHj,list_w,zSI,Op8.nodes,Op8.text,Op8.row]
 omega
theorem zWW:∀ l:List Op8,sw l<=CV.ws (l.map opV)/\sw (l.map invO)<=CV.ws (l.map opV)
 | []=>⟨Nat.zero_le _,Nat.zero_le _⟩
 | o::l=>by
  have h1:=zWs o;have h2:=zRu o;have h3:=zRt o;obtain⟨h4,h5⟩:=zWW l;simp only[List.map_cons,sw,CV.ws]
  exact⟨by omega,by omega⟩
theorem zRb {α:Type}{f:α->CV}{l:List α}{x:α} (h:x∈l):(f x).w<CV.ws (l.map f):=CV.w_mem (List.mem_map_of_mem h)
theorem zUA {α:Type}{f:α->CV} (l:List α):l.length<=CV.ws (l.map f):=by
 have:=CV.ws_len (l.map f)
 rwa [List.length_map]at this
theorem zT0 (n:Nat) (hn:200000000<n){r:Rc} (h:(recV r).w<=1000000):RGo n r/\RBul r:=by
 have hs:=zWW r.1;have hl:=zUA (f:=opV) r.1;rw[recV,list_w]at h;simp only[CV.ws,list_w,zXe]at h;have ho:∀ o∈r.1,zIj o+10<=1000000:=fun o ho=>by
  have h1:=zRb (f:=opV) ho;have h2:=zWs o
  omega
 have os:OSmall r.1:=⟨by omega,fun o hh=>by have:=ho o hh; have:=zRu o; omega,by omega,fun o hh=>by have:=ho o hh; have:=zRt o; omega,fun o hh=>by have:=ho o hh; unfold zIj at this; omega⟩
 refine⟨⟨⟨os,by omega,by omega,by omega,by omega⟩,fun {t} hv=>zYM n t r.1 hn hv os.size fun o hh=>⟨os.op o hh,by have:=ho o hh; unfold zIj at this; omega⟩⟩,⟨by omega,fun o hh=>by have:=ho o hh; omega,by omega,by omega,by omega,by omega⟩⟩
theorem zV5 (n:Nat) (hn:200000000<n){d:Dc} (h:(docV d).w<=1000000) (hl:d.2.2.1.length<=1000):DGo n d/\DBul d:=by
 have h1:=zTH d.2.1;rw[docV,list_w]at h;simp only[CV.ws,list_w,zMF,zJU]at h;have hr:∀ r∈d.2.2.1,(recV r).w<=1000000:=fun r hr=>by
  have:=zRb (f:=recV) hr
  omega
 exact⟨⟨hl,fun r hh=>(zT0 n hn (hr r hh)).1⟩,⟨by omega,by omega,by omega,fun r hh=>(zT0 n hn (hr r hh)).2⟩⟩
theorem zTy {d:Dc} (h:(docV d).w<=1000000):DBul d:=by
 have h1:=zTH d.2.1;have hl:=zUA (f:=recV) d.2.2.1;rw[docV,list_w]at h;simp only[CV.ws,list_w,zMF,zJU]at h;exact⟨by omega,by omega,by omega,fun r hh=>(zT0 200000001 (by omega) (by have:=zRb (f:=recV) hh; omega)).2⟩
theorem zXE (r:Rc):15<=(recV r).w:=by
 rw[recV,list_w]
 simp only[CV.ws,list_w,zXe]
 omega
theorem zS3:∀ l:List Rc,16 * l.length<=CV.ws (l.map recV)
 | []=>Nat.zero_le _
 | r::l=>by
  have h1:=zXE r;have h2:=zS3 l;simp only[List.map_cons,CV.ws,List.length_cons]
  omega
theorem zUq (d:Dc) (h:(docV d).w<=16000):d.2.2.1.length<=1000:=by
 have h2:=zS3 d.2.2.1;rw[docV,list_w]at h;simp only[CV.ws,list_w,zMF,zJU]at h
 omega
theorem zYc (n:Nat) (hn:200000000<n){r:Rc} (h:zRR r):zFF n r r=some true:=by
 have hl:=h.ops.len;have h1:=zJS n (ops:=r.1) (fun o ho=>by
  have h1:=h.ops.cnt o ho;have h2:=h.ops.row o ho;exact zTa n o (by omega) (by omega) (by omega) (by omega)) (by omega) n 0 (by omega) (Nat.zero_le _)
 rw[show((0:Nat):Int)=0 from rfl]at h1;have c1:=zGo n r.2.1 h.b1 h.b2 hn;have c2:=zGo n r.2.2 h.a1 h.a2 hn;obtain⟨r1,⟨r2,r3⟩,⟨r4,r5⟩⟩:=r;dsimp only at h1 c1 c2;unfold zFF zFj;simp only[bne_self_eq_false,cond_false,h1,c1,c2,obs,cond_true]
theorem zNq (n:Nat) (hn:200000000<n){rs:List Rc} (hf:∀ r∈rs,zRR r) (hl:rs.length<=1000):∀ (k i:Nat),rs.length - i<k->zAZ n rs rs k (i:Int)=some (.go ())
 | 0,i,h=>by omega
 | k+1,i,h=>by
  unfold zAZ
  by_cases hj:i<rs.length
  ·have h1:=zYc n hn (hf _ (List.getElem_mem hj))
   have ha:=zAv hj;have ih:=zNq n hn hf hl k (i+1) (by omega)
   generalize rs[i]=r at h1 ha;obtain⟨r1,⟨r2,r3⟩,⟨r4,r5⟩⟩:=r;rw[zAB (Int.ofNat_lt.2 hj),cond_true]
   simp only[ha,obs,h1,Bool.not_true,cond_false]
   rw[zAy (by omega)]
   exact ih
  ·rw[zAx (by omega)]
   rfl
theorem zYd (n:Nat) (hn:200000000<n){d:Dc} (ht:d.2.1.cnt<=1000000) (hf:∀ r∈d.2.2.1,zRR r) (hl:d.2.2.1.length<=1000):zDt n d d=some true:=by
 have q:=zVa n d.2.1 (by omega) (by omega)
 have lp:=zNq n hn hf hl n 0 (by omega)
 rw[show((0:Nat):Int)=0 from rfl]at lp;obtain⟨ti,⟨q1,q2,q3,q4⟩,rs,dn⟩:=d;dsimp only at q lp;unfold zDt zDu;simp only[beq_self_eq_true,cond_true,q,obs,bne_self_eq_false,cond_false,lp]
def zDc:Dc:=([],.mk 0 [] 0 [],[],0)
theorem zVN (n:Nat) (hn:200000000<n):zDt n zDc zDc=some true:=zYd n hn (d:=zDc) (by simp[zDc,Nd.cnt,Nd.cnts]) (fun r hr=>by cases hr) (by simp[zDc])
theorem zY0 (z:Int):0<=IntKind.u64.wrap z/\IntKind.u64.wrap z<18446744073709551616:=by
 have e:IntKind.u64.wrap z=z % 18446744073709551616:=by
  simp only[IntKind.wrap,IntKind.bits,IntKind.signed]
  simp
 rw[e]
 omega
theorem zV3 {b:List UInt8} (hb:b.length<=1073741824):∀ (k i:Nat) (h y:Int),0<=h/\h<18446744073709551616->zAT b k h (i:Int)=some y->0<=y/\y<18446744073709551616
 | 0,i,h,y,_,he=>by cases he
 | k+1,i,h,y,hr,he=>by
  unfold zAT at he
  by_cases hj:i<b.length
  ·rw[zAB (Int.ofNat_lt.2 hj),cond_true,zAv hj]at he;simp only[obs,zAy (show i<9223372036854775807 by omega)]at he;exact zV3 hb k (i+1) _ y (zY0 _) he
  ·rw[zAx (by omega),cond_false]at he;cases he;exact hr
theorem zUo (n:Nat) (b:List UInt8) (hn:b.length<n) (hb:b.length<=1073741824):∃ Y:Nat,Y<18446744073709551616/\zBA n b=some (Y:Int)/\zG5 n b=some (Y:Int):=by
 obtain⟨y,h1,h2⟩:=zZl n b hn hb;have hr:0<=y/\y<18446744073709551616:=by
  have h3:=h1;unfold zBA zCb at h3;have hc:(0:Int)<=14695981039346656037/\(14695981039346656037:Int)<18446744073709551616 :=(by decide);generalize (14695981039346656037:Int)=h0 at h3 hc;cases h4:zAT b n h0 0 with
  | none =>
   simp only[h4,Option.bind_none]at h3;cases h3
  | some z =>
   simp only[h4,obs,Option.some.injEq]at h3;subst h3;exact zV3 hb n 0 h0 z hc h4
 obtain⟨Y,rfl⟩:∃ Y:Nat,y=(Y:Int):=⟨y.toNat,by omega⟩
 exact⟨Y,by omega,h1,h2⟩
theorem zQb (Y:Nat):zQa (Y:Int)=beK 8 Y:=by
 have e:∀ i,i<=64->b8of (IntKind.u8.wrap ((Y:Int).fdiv (2 ^ (min ((i:Nat):Int).toNat IntKind.u64.bits))))=UInt8.ofNat (Y / 2 ^ i):=fun i h=>by rw[zPa Y i h,zNJ]
 have e7:b8of (IntKind.u8.wrap ((Y:Int).fdiv (2 ^ 56)))=dig 7 Y:=e 56 (by omega)
 have e6:b8of (IntKind.u8.wrap ((Y:Int).fdiv (2 ^ 48)))=dig 6 Y:=e 48 (by omega)
 have e5:b8of (IntKind.u8.wrap ((Y:Int).fdiv (2 ^ 40)))=dig 5 Y:=e 40 (by omega)
 have e4:b8of (IntKind.u8.wrap ((Y:Int).fdiv (2 ^ 32)))=dig 4 Y:=e 32 (by omega)
 have e3:b8of (IntKind.u8.wrap ((Y:Int).fdiv (2 ^ 24)))=dig 3 Y:=e 24 (by omega)
 have e2:b8of (IntKind.u8.wrap ((Y:Int).fdiv (2 ^ 16)))=dig 2 Y:=e 16 (by omega)
 have e1:b8of (IntKind.u8.wrap ((Y:Int).fdiv (2 ^ 8)))=dig 1 Y:=e 8 (by omega)
 have e0:b8of (IntKind.u8.wrap ((Y:Int).fdiv (2 ^ 0)))=dig 0 Y:=e 0 (by omega)
 unfold zQa;rw[e7,e6,e5,e4,e3,e2,e1,e0]
 rfl
theorem zTB {b q:List UInt8} (hq:((b.take (12:Int).toNat).drop (4:Int).toNat)=q) (h8:q.length=8):∀ (r:List UInt8) (i k x:Nat),q.drop i=r->r.length<k->x<256 ^ i->zBM b k (i:Int) (x:Int)=some ((valA x r:Nat):Int)
 | _,_,0,_,_,h,_=>by omega
 | [],i,k+1,x,h,_,_=>by
  have h1:=List.drop_eq_nil_iff.1 h;rw[zBM,hq,zAx (by omega)]; rfl
 | c::r,i,k+1,x,h,hk,hx=>by
  have hi:=zJf h;have h7:i<=7 :=(by omega);have hp:(256:Nat) ^ i<=256 ^ 7:=Nat.pow_le_pow_right (by omega) h7;have hc:=c.toNat_lt;have hx':x<72057594037927936 :=(by simp at hp; omega);rw[zBM,hq,zAB (by omega),cond_true,zKY h]
  simp only[obs]
  rw[zX7 hx' c,zAy (by omega),zTB hq h8 r (i+1) k _ (zK1 h) (by simpa using hk) (by rw[Nat.pow_succ]; omega)]
  rfl
theorem zSX (b:List UInt8) (h:12<=b.length):zCN ((b.take (12:Int).toNat).drop (0:Int).toNat) [86,67,76,49]=some (b.take 4 == [86,67,76,49]):=by
 have e1:((b.take (12:Int).toNat).drop (0:Int).toNat)=b.take 12:=rfl;have e2:(b.take 12).length=12 :=(by rw[List.length_take]; omega);have e3:(((b.take 12).take (4:Int).toNat).drop (0:Int).toNat)=b.take 4:=by
  show(b.take 12).take 4=b.take 4;rw[List.take_take]
  rfl
 rw[e1]
 unfold zCN zCz;have e4:(([86,67,76,49]:List UInt8).length:Int)=4:=rfl;simp only[e2,e4,zAB (show(4:Int)<=((12:Nat):Int) by omega),cond_true]
 rw[zAK ⟨by omega,by omega,by omega⟩,e3]
 rfl
mutual
theorem CV.eqv_eq:∀ (v u:CV),v.eqv u=true->v=u
 | .mk k n t vs,.mk k' n' t' vs',h=>by
  simp only[CV.eqv,Bool.and_eq_true,beq_iff_eq]at h
  obtain⟨⟨⟨rfl,rfl⟩,rfl⟩,h4⟩:=h
  rw[CV.eqvs_eq vs vs' h4]
theorem CV.eqvs_eq:∀ (vs us:List CV),CV.eqvs vs us=true->vs=us
 | [],[],_=>rfl
 | [],_::_,h=>by simp[CV.eqvs]at h
 | _::_,[],h=>by simp[CV.eqvs]at h
 | v::vs,u::us,h=>by
  simp only[CV.eqvs,Bool.and_eq_true]at h
  rw[CV.eqv_eq v u h.1,CV.eqvs_eq vs us h.2]
end
structure LOk (n:Nat) (b:List UInt8) (d:Dc):Prop where
 valid:zCA n d=some true
 low:(docV d).w<=6100
 rng:(docV d).rng
 magic:b.take 4=[86,67,76,49]
 sum:∃ Y:Nat,Y<18446744073709551616/\zBA n (b.drop 12)=some (Y:Int)/\(b.take 12).drop 4=beK 8 Y
 rest:b.drop 12=(docV d).code
theorem zVF (n:Nat) (hn:200000000<n) (b:List UInt8) (hb:b.length<=3000):∃ d e,zBG n b=some (d,e)/\zE1 n b=some (d,e)/\((e ≠ 0/\d=zDc)∨(e=0/\LOk n b d)):=by
 by_cases h12:b.length<12
 ·refine⟨zDc,4,?_,?_,.inl ⟨by decide,rfl⟩⟩
  ·unfold zBG;simp only[zAB (show(b.length:Int)<12 by omega),cond_true,obs]
   rfl
  ·unfold zE1;simp only[zAB (show(b.length:Int)<12 by omega),cond_true,obs]
   rfl
 have hpre:=zSX b (by omega)
 have er:((b.take (b.length:Int).toNat).drop (12:Int).toNat)=b.drop 12 :=(by rw[Int.toNat_natCast,List.take_length]; rfl);have eq4:((b.take (4:Int).toNat).drop (0:Int).toNat)=b.take 4:=rfl;have r1:0<=(0:Int)/\(0:Int)<=(12:Int)/\(12:Int)<=(b.length:Int):=⟨by omega,by omega,by omega⟩
 have r2:0<=(4:Int)/\(4:Int)<=(12:Int)/\(12:Int)<=(b.length:Int):=⟨by omega,by omega,by omega⟩
 have r3:0<=(12:Int)/\(12:Int)<=(b.length:Int)/\(b.length:Int)<=(b.length:Int):=⟨by omega,by omega,by omega⟩
 have r4:0<=(0:Int)/\(0:Int)<=(4:Int)/\(4:Int)<=(b.length:Int):=⟨by omega,by omega,by omega⟩
 cases hm:(b.take 4 == [86,67,76,49]) with
 | false =>
  rw[hm]at hpre;refine⟨zDc,4,?_,?_,.inl ⟨by decide,rfl⟩⟩
  ·unfold zBG;simp only[zAx (show ¬ (b.length:Int)<12 by omega),cond_false,zAK r1,hpre,obs,Bool.not_false,cond_true]
   rfl
  ·unfold zE1;simp only[zAx (show ¬ (b.length:Int)<12 by omega),cond_false,zAK r4,eq4,hm,obs,Bool.not_false,cond_true]
   rfl
 | true =>
  rw[hm]at hpre;have hml:(b.drop 12).length=b.length - 12:=List.length_drop;obtain⟨Y,y1,y2,y3⟩:=zUo n (b.drop 12) (by omega) (by omega)
  generalize hq:(b.take (12:Int).toNat).drop (4:Int).toNat=q;have hq8:q.length=8:=by
   rw[← hq]
   show((b.take 12).drop 4).length=8;rw[List.length_drop,List.length_take]
   omega
  have hfold:zBM b n 0 0=some ((valA 0 q:Nat):Int):=zTB hq hq8 q 0 n 0 rfl (by omega) (by decide)
  have h8:zK7 n (Y:Int)=some (beK 8 Y):=by
   unfold zK7;simp only[zYu (Y:Int) n (by omega),obs,zQb]
  have hsum:((valA 0 q:Nat):Int)=(Y:Int)↔beK 8 Y=q:=by
   constructor
   ·intro h;have h1:=zUc q;rw[hq8]at h1;rw[← h1]
    congr 1
    omega
   ·intro h;rw[← h,zQX 8 Y (by simpa using y1)]
  by_cases hs:beK 8 Y=q
  ·have hf:(((valA 0 q:Nat):Int) != (Y:Int))=false :=(by rw[hsum.2 hs]; simp);have hf2:(beK 8 Y == q)=true :=(by rw[hs]; simp);have dP:=zHw (n:=n) (b:=b.drop 12) (by omega)
   have dR:=zNA (n:=n) (b:=b.drop 12) (by omega) (by omega)
   have hdec:∃ v e,dec (b.drop 12)=(v,e)/\(e ≠ 0∨(e=0/\b.drop 12=v.code/\v.proper=true/\v.rng/\v.w<=6000)):=by
    unfold dec;rw[if_neg (by omega)]
    cases hx:rd 64 (b.drop 12) with
    | none=>exact⟨_,_,rfl,.inl (by decide)⟩
    | some p =>
     obtain⟨v,r⟩:=p;cases r with
     | cons c r=>exact⟨_,_,rfl,.inl (by decide)⟩
     | nil =>
      have g:=zOX 3000 (by omega) 64 _ v [] (by omega) hx;have ge:=g.eq;rw[List.append_nil]at ge;have gw:=g.w;have gl:=congrArg List.length ge;exact⟨v,0,rfl,.inr ⟨rfl,ge,g.proper,g.rng,by omega⟩⟩
   obtain⟨v,ev,e1,hv⟩:=hdec;rw[e1]at dP dR;rcases hv with hv | ⟨rfl,v1,v2,v3,v4⟩
   ·have hne:(ev != 0)=true:=bne_iff_ne.2 hv;refine⟨zDc,4,?_,?_,.inl ⟨by decide,rfl⟩⟩
    ·obtain⟨a1,a2,a3,a4⟩:=v;unfold zBG;simp only[zAx (show ¬ (b.length:Int)<12 by omega),cond_false,zAK r1,hpre,obs,Bool.not_true,cond_true,zAK r2,hfold,zAK r3,er,y2,hf,dP,hne]
     rfl
    ·obtain⟨a1,a2,a3,a4⟩:=v;unfold zE1;simp only[zAx (show ¬ (b.length:Int)<12 by omega),cond_false,zAK r4,eq4,hm,obs,Bool.not_true,cond_true,zAK r2,zAK r3,er,y3,h8,hq,hf2,dR,hne]
     rfl
   ·obtain⟨d,e',p1,p2⟩:=zNn n 0 v hn (by omega)
    obtain⟨d0,q1,q2,q3⟩:=zXI n v hn (by omega)
    have qb:=zTy (d:=d0) (by omega)
    have qv:=zYP n d0 hn qb;have qe:=zJd n (docV d0) v (by omega) (by omega)
    by_cases he:e'=0
    ·subst he;have hvd:=p2.ok rfl v2;have hd0:=q3 d hvd;subst hd0;rw[← hvd,CV.eqv_self]at qe;rw[← hvd]at qv;have hrec:=zUq d0 (by rw[← hvd]; omega)
     obtain⟨l1,l2⟩:=zV5 n hn (d:=d0) (by rw[← hvd]; omega) hrec;have hval:∃ bb,zCA n d0=some bb/\zHa n d0=some bb:=by
      rcases zQI n hn l2 l1 with ⟨k1,k2⟩ | ⟨k1,_,_,_,_,_,_,k2⟩
      ·exact⟨false,zLt n (k2 0),k1⟩
      ·obtain⟨z,k3,_⟩:=k2 0;exact⟨true,zLt n k3,k1⟩
     obtain⟨bb,w1,w2⟩:=hval;have gP:zBG n b=some (bif bb then (d0,0) else (zDc,7)):=by
      clear qe qv q2 q3 p2 l1 l2 hvd v1 v2 v3 v4 qb
      obtain⟨a1,a2,a3,a4⟩:=v;obtain⟨ti,⟨t1,t2,t3,t4⟩,rs,dn⟩:=d0;unfold zBG;simp only[zAx (show ¬ (b.length:Int)<12 by omega),cond_false,zAK r1,hpre,obs,Bool.not_true,cond_true,zAK r2,hfold,zAK r3,er,y2,hf,dP,show((0:Int) != 0)=false from rfl,p1,w1]
      cases bb <;> rfl
     have gR:zE1 n b=some (bif bb then (d0,0) else (zDc,7)):=by
      clear q2 q3 p2 l1 l2 hvd v1 v2 v3 v4 qb
      obtain⟨a1,a2,a3,a4⟩:=v;obtain⟨ti,⟨t1,t2,t3,t4⟩,rs,dn⟩:=d0;unfold zE1;simp only[zAx (show ¬ (b.length:Int)<12 by omega),cond_false,zAK r4,eq4,hm,obs,Bool.not_true,cond_true,zAK r2,zAK r3,er,y3,h8,hq,hf2,dR,show((0:Int) != 0)=false from rfl,q1,qv,qe,w2]
      cases bb <;> rfl
     cases bb with
     | false=>exact⟨_,_,gP,gR,.inl ⟨by decide,rfl⟩⟩
     | true=>exact⟨_,_,gP,gR,.inr ⟨rfl,⟨w1,by rw[← hvd]; omega,by rw[← hvd]; exact v3,eq_of_beq hm,⟨Y,y1,y2,hq.trans hs.symm⟩,by rw[← hvd]; exact v1⟩⟩⟩
    ·have he4:e'=4:=(p2.rd.2 rfl).resolve_left he;subst he4;have hnot:(docV d0).eqv v=false:=by
      cases hx:(docV d0).eqv v with
      | false=>rfl
      | true =>
       have hv0:=CV.eqv_eq _ _ hx;exact absurd (p2.go rfl d0 hv0.symm).2 (by decide)
     rw[hnot]at qe;refine⟨zDc,4,?_,?_,.inl ⟨by decide,rfl⟩⟩
     ·clear qe qv q2 q3 p2 v1 v2 v3 v4 qb hnot
      obtain⟨a1,a2,a3,a4⟩:=v;obtain⟨ti,⟨t1,t2,t3,t4⟩,rs,dn⟩:=d;unfold zBG;simp only[zAx (show ¬ (b.length:Int)<12 by omega),cond_false,zAK r1,hpre,obs,Bool.not_true,cond_true,zAK r2,hfold,zAK r3,er,y2,hf,dP,show((0:Int) != 0)=false from rfl,p1,show((4:Int) != 0)=true from rfl]
      rfl
     ·clear q2 q3 p2 v1 v2 v3 v4 qb hnot
      generalize docV d0=V at qv qe;obtain⟨a1,a2,a3,a4⟩:=v;obtain⟨c1,c2,c3,c4⟩:=V;obtain⟨ti,⟨t1,t2,t3,t4⟩,rs,dn⟩:=d0;unfold zE1;simp only[zAx (show ¬ (b.length:Int)<12 by omega),cond_false,zAK r4,eq4,hm,obs,Bool.not_true,cond_true,zAK r2,zAK r3,er,y3,h8,hq,hf2,dR,show((0:Int) != 0)=false from rfl,q1,qv,qe,Bool.not_false]
      rfl
  ·have hf:(((valA 0 q:Nat):Int) != (Y:Int))=true:=bne_iff_ne.2 fun h=>hs (hsum.1 h)
   have hf2:(beK 8 Y == q)=false:=beq_eq_false_iff_ne.2 hs;refine⟨zDc,5,?_,?_,.inl ⟨by decide,rfl⟩⟩
   ·unfold zBG;simp only[zAx (show ¬ (b.length:Int)<12 by omega),cond_false,zAK r1,hpre,obs,Bool.not_true,cond_true,zAK r2,hfold,zAK r3,er,y2,hf]
    rfl
   ·unfold zE1;simp only[zAx (show ¬ (b.length:Int)<12 by omega),cond_false,zAK r4,eq4,hm,obs,Bool.not_true,cond_true,zAK r2,zAK r3,er,y3,h8,hq,hf2,Bool.not_false]
    rfl
structure Svd (n:Nat) (d:Dc) (bs:List UInt8):Prop where
 tree:zAz d.2.1=true
 depth:(docV d).depth<=40
 len:(docV d).code.length<=1048576
 sum:∃ Y:Nat,Y<18446744073709551616/\zBA n (docV d).code=some (Y:Int)/\bs=[86,67,76,49]++beK 8 Y++(docV d).code
theorem zVO (n:Nat) (hn:200000000<n){d:Dc} (hb:DBul d) (hf:DGo n d) (hc:DCod d):∃ b bs e,zCA n d=some b/\zCL n d=some (bs,e)/\(e=0->b=true/\Svd n d bs)/\(b=true->(docV d).code.length<=1048576->e=0):=by
 rcases zQI n hn hb hf with ⟨h1,h2⟩ | ⟨h1,h2,h3,h4,ts,h5,h6,h7⟩
 ·have hV:=zLt n (h2 0)
  refine⟨false,[],1,hV,?_,fun h=>absurd h (by decide),fun h=>by cases h⟩
  obtain⟨ti,⟨q1,q2,q3,q4⟩,rs,dn⟩:=d;unfold zCL;simp only[hV,obs,Bool.not_false,cond_true]
 ·obtain⟨z0,g1,_⟩:=h7 0;have hV:=zLt n g1;have hdep:(docV d).depth<=40:=zV4 d (by have:=(zHh h2).2.2.2; omega) fun r hr o ho=>by
   obtain⟨i,hi⟩:=List.getElem?_of_mem hr;obtain⟨t,u,_,_,hrun⟩:=h5.step i r hi;exact(hrun.formed rfl o ho).deps
  have hok:okAt (docV d) 1=true:=by
   unfold okAt;rw[zP9,zAB (by omega)]
   rfl
  obtain⟨_,he⟩:=zLT (n:=n) (by omega) hc.w hc.rng;rw[hok,cond_true]at he;have hwd:=zY2 n d hn hb
  by_cases hlen:1048576<(docV d).code.length
  ·rw[zAB (by omega),cond_true]at he;refine⟨true,[],6,hV,?_,fun h=>absurd h (by decide),fun _ h=>absurd h (by omega)⟩
   generalize (docV d)=v at *;obtain⟨ti,⟨q1,q2,q3,q4⟩,rs,dn⟩:=d;obtain⟨v1,v2,v3,v4⟩:=v;unfold zCL;simp only[hV,hwd,he,obs,Bool.not_true,cond_false,show((6:Int) != 0)=true from rfl,cond_true]
  ·rw[zAx (by omega),cond_false]at he;obtain⟨Y,y1,d1,_⟩:=zUo n (docV d).code (by omega) (by omega)
   have s1:=zZy (Y:Int) n (by omega)
   rw[zQb]at s1;refine⟨true,[86,67,76,49]++beK 8 Y++(docV d).code,0,hV,?_,fun _=>⟨rfl,h2,hdep,by omega,Y,y1,d1,rfl⟩,fun _ _=>rfl⟩
   have e8:(beK 8 Y).length=8:=zDp 8 Y;generalize hcode:(docV d).code=code at *;generalize (docV d)=v at *;have er2:(List.replicate (0:Int).toNat (b8of 0))=[]:=rfl;have ew:IntKind.i64.wrap (12+(code.length:Int))=12+(code.length:Int):=wrap64_in (by omega) (by omega)
   obtain⟨ti,⟨q1,q2,q3,q4⟩,rs,dn⟩:=d;obtain⟨v1,v2,v3,v4⟩:=v;unfold zCL;have c1:0<=(0:Int)/\(0:Int)<=12+(code.length:Int)/\12+(code.length:Int)<=4294967296:=⟨Int.le_refl _,by omega,by omega⟩
   have c2:([]:List UInt8).length + [(86:UInt8),67,76,49].length<=4294967296:=by
    rw[show([]:List UInt8).length + [(86:UInt8),67,76,49].length=4 from rfl]
    omega
   have c3:([(86:UInt8),67,76,49]++beK 8 Y).length+code.length<=4294967296:=by
    rw[List.length_append,e8,show[(86:UInt8),67,76,49].length=4 from rfl]
    omega
   simp only[hV,hwd,he,obs,Bool.not_true,cond_false,show((0:Int) != 0)=false from rfl,ew,er2,List.nil_append,zAK c1,zAK c2,d1,s1,zAK c3]
   exact zAK c2
theorem zZt (q c:List UInt8) (h8:q.length=8) (b:List UInt8) (hb:b=[86,67,76,49]++q++c):b.length=12+c.length/\b.take 4=[86,67,76,49]/\(b.take 12).drop 4=q/\b.drop 12=c:=by
 obtain⟨q0,q1,q2,q3,q4,q5,q6,q7,rfl⟩:∃ q0 q1 q2 q3 q4 q5 q6 q7,q=[q0,q1,q2,q3,q4,q5,q6,q7]:=by
  match q,h8 with
  | [q0,q1,q2,q3,q4,q5,q6,q7],_=>exact⟨_,_,_,_,_,_,_,_,rfl⟩
 subst hb;refine⟨?_,rfl,rfl,rfl⟩
 simp only[List.length_append,List.length_cons,List.length_nil]
theorem zVq (b:List UInt8) (h4:b.take 4=[86,67,76,49]):b=[86,67,76,49]++(b.take 12).drop 4++b.drop 12:=by
 have e1:b.take 12=b.take 4++(b.take 12).drop 4:=by
  have:=List.take_append_drop 4 (b.take 12)
  rw[List.take_take]at this;exact this.symm
 rw[← h4,← e1,List.take_append_drop]
theorem zYb (n:Nat) (hn:200000000<n){d:Dc}{bs:List UInt8} (hc:DCod d) (hv:zCA n d=some true) (hs:Svd n d bs):zBG n bs=some (d,0):=by
 obtain⟨Y,y1,y2,hbs⟩:=hs.sum;have hlen:=hs.len;have hdep:=hs.depth;obtain⟨p1,p2,p3,p4⟩:=zZt (beK 8 Y) (docV d).code (zDp 8 Y) bs hbs;have hpre:=zSX bs (by omega)
 rw[p2]at hpre;have er:((bs.take (bs.length:Int).toNat).drop (12:Int).toNat)=bs.drop 12 :=(by rw[Int.toNat_natCast,List.take_length]; rfl);have r1:0<=(0:Int)/\(0:Int)<=(12:Int)/\(12:Int)<=(bs.length:Int):=⟨by omega,by omega,by omega⟩
 have r2:0<=(4:Int)/\(4:Int)<=(12:Int)/\(12:Int)<=(bs.length:Int):=⟨by omega,by omega,by omega⟩
 have r3:0<=(12:Int)/\(12:Int)<=(bs.length:Int)/\(bs.length:Int)<=(bs.length:Int):=⟨by omega,by omega,by omega⟩
 have hfold:zBM bs n 0 0=some ((valA 0 (beK 8 Y):Nat):Int):=zTB p3 (zDp 8 Y) (beK 8 Y) 0 n 0 rfl (by rw[zDp]; omega) (by decide)
 rw[zQX 8 Y (by simpa using y1)]at hfold;have hdec:dec (docV d).code=(docV d,0):=by
  unfold dec;rw[if_neg (by omega)]
  have:=zWC 64 (docV d) [] (zP9 d) hc.rng (by omega) (by have:=hc.w; omega)
  rw[List.append_nil]at this;rw[this]
 have dP:=zHw (n:=n) (b:=(docV d).code) (by omega)
 rw[hdec]at dP;obtain⟨d',e',q1,q2⟩:=zNn n 0 (docV d) hn hc.w;obtain⟨rfl,rfl⟩:=q2.go rfl d rfl;rw[p4]at er
 clear hdec hc hs hbs hdep q2
 generalize (docV d')=v at *;obtain⟨v1,v2,v3,v4⟩:=v;obtain⟨ti,⟨t1,t2,t3,t4⟩,rs,dn⟩:=d';unfold zBG;simp only[zAx (show ¬ (bs.length:Int)<12 by omega),cond_false,zAK r1,hpre,obs,beq_self_eq_true,Bool.not_true,zAK r2,hfold,zAK r3,er,y2,bne_self_eq_false,dP,q1,hv]
theorem LOk.saved {n:Nat}{b:List UInt8}{d:Dc} (hn:200000000<n) (hb:b.length<=3000) (h:LOk n b d):zCL n d=some (b,0):=by
 have hlow:=h.low;have hl:=zUq d (by omega)
 obtain⟨g1,g2⟩:=zV5 n hn (d:=d) (by omega) hl;have hrest:=h.rest;have hcl:(docV d).code.length<=1048576:=by
  rw[← hrest,List.length_drop]
  omega
 obtain⟨v,bs,e,h1,h2,h3,h4⟩:=zVO n hn g2 g1 ⟨h.rng,by omega⟩
 rw[h.valid]at h1;have hv:v=true:=(Option.some.inj h1).symm;have he:=h4 hv hcl;subst he;obtain⟨_,hs⟩:=h3 rfl;obtain⟨Y,y1,y2,hbs⟩:=hs.sum;obtain⟨Z,z1,z2,z3⟩:=h.sum;rw[hrest,y2]at z2;have hYZ:Y=Z:=Int.ofNat.inj (Option.some.inj z2)
 subst hYZ;rw[h2,hbs,zVq b h.magic,z3,hrest]
theorem zPm (n:Nat) (hn:200000000<n) (hw:zFC n=some true) (d:Dc) (hb:DBul d) (hc:DCod d) (a:List UInt8):zCE n d a=some true:=by
 obtain⟨y,f1,f2⟩:=zXg n (by omega) d hb;cases y with
 | false =>
  obtain⟨ti,⟨q1,q2,q3,q4⟩,rs,dn⟩:=d;unfold zCE;simp only[hw,f1,obs,Bool.not_true,cond_false,Bool.not_false,cond_true]
 | true =>
  by_cases hl:3000<a.length
  ·obtain⟨ti,⟨q1,q2,q3,q4⟩,rs,dn⟩:=d;unfold zCE;simp only[hw,f1,obs,Bool.not_true,cond_false,zAB (show(3000:Int)<(a.length:Int) by omega),cond_true]
  ·have hfew:=f2 rfl;obtain⟨b,bs,e,s1,s2,s3,_⟩:=zVO n hn hb (hfew.go n hn) hc;have first:e=0->zBG n bs=some (d,0)/\zDt n d d=some true:=fun he=>by
    obtain⟨hbt,hs⟩:=s3 he;rw[hbt]at s1;exact⟨zYb n hn hc s1 hs,zVM n hn hs.tree hfew.recs (by have:=hfew.len; omega)⟩
   obtain⟨d',e',l1,_,l3⟩:=zVF n hn a (by omega)
   have second:(e' ≠ 0/\zDt n d' zDc=some true)∨(e'=0/\zCL n d'=some (a,0)):=by
    rcases l3 with ⟨h,rfl⟩ | ⟨h,h2⟩
    ·exact .inl ⟨h,zVN n hn⟩
    ·exact .inr ⟨h,h2.saved hn (by omega)⟩
   clear l3 s3 s1 hfew f2 hb hc
   unfold zDc at second;obtain⟨ti,⟨q1,q2,q3,q4⟩,rs,dn⟩:=d;obtain⟨ti',⟨q1',q2',q3',q4'⟩,rs',dn'⟩:=d';unfold zCE;have hne:decide ((3000:Int)<(a.length:Int))=false:=decide_eq_false (by omega)
   by_cases he:e=0
   ·subst he;obtain⟨g1,g2⟩:=first rfl;rcases second with ⟨k1,k2⟩ | ⟨rfl,k2⟩
    ·simp only[hw,f1,obs,Bool.not_true,cond_false,hne,s2,beq_self_eq_true,cond_true,g1,bne_self_eq_false,g2,l1,show(e' != 0)=true from bne_iff_ne.2 k1,k2]
    ·simp only[hw,f1,obs,Bool.not_true,cond_false,hne,s2,beq_self_eq_true,cond_true,g1,bne_self_eq_false,g2,l1,k2]
   ·have hne2:(e == 0)=false:=beq_eq_false_iff_ne.2 he;rcases second with ⟨k1,k2⟩ | ⟨rfl,k2⟩
    ·simp only[hw,f1,obs,Bool.not_true,cond_false,hne,s2,hne2,l1,show(e' != 0)=true from bne_iff_ne.2 k1,cond_true,k2]
    ·simp only[hw,f1,obs,Bool.not_true,cond_false,hne,s2,hne2,l1,bne_self_eq_false,beq_self_eq_true,cond_true,k2]
theorem zU3 (k:Nat):zFC (k+100)=some true:=by
 with_unfolding_all rfl
end Go.Proofs.YtgplhldfbkmmgaaGreat
