/-
  Joined out of: PCur7, PTypT.
-/
import Derived.Test.YtbfnjnljboncgaaGreatZg
open List
set_option linter.unusedVariables false
set_option linter.unusedSimpArgs false
set_option maxHeartbeats 2000000
set_option maxRecDepth 100000
namespace Go.Proofs.YtbfnjnljboncgaaGreat
open Go.Abs
theorem zZn {rs:List Rc} (hf:∀ r∈rs,RFew r):(rs.map (·.1)).flatten.length<=rs.length * 12:=by
 induction rs with
 | nil=>exact Nat.zero_le _
 | cons r rs ih =>
  have h1:=ih fun r hr=>hf r (mem_cons_of_mem _ hr)
  have h2:=(hf r mem_cons_self).len;simp only[map_cons,flatten_cons,length_append,length_cons,Nat.add_mul]
  omega
theorem yAl {rs:List Rc} (hf:∀ r∈rs,RFew r) (hl:rs.length<=1000):∀ (k i:Nat) (acc:List Op8),rs.length - i<k->i<=rs.length->acc.length+(rs.length - i) * 12<=100000->zBf rs k (i:Int) acc=some (acc++((rs.drop i).map (·.1)).flatten)
 | 0,i,acc,h,_,_=>by omega
 | k+1,i,acc,h,hi,hb=>by
  unfold zBf
  by_cases hj:i<rs.length
  ·have h2:=(hf _ (getElem_mem hj)).len;rw[drop_eq_getElem_cons hj]
   have ha:=zAK hj;generalize rs[i]=r at *;obtain⟨r1,⟨r2,r3⟩,⟨r4,r5⟩⟩:=r;dsimp only at h2;have e:rs.length - i=(rs.length - (i+1))+1 :=(by omega);rw[e,Nat.add_mul]at hb;rw[zAH (Int.ofNat_lt.2 hj),cond_true,ha,zAL (by omega)]
   simp only[obs]
   rw[zA5 (by omega),yAl hf hl k (i+1) _ (by omega) (by omega) (by rw[length_append]; omega),map_cons,flatten_cons,append_assoc]
  ·rw[zAE (by omega),cond_false,List.drop_eq_nil_iff.2 (by omega)]
   simp
theorem yAm (n:Nat) (hn:200000000<n){t u:Nd}{ops:List Op8} (af:Bool) (hv:zAB t=true) (hr:Runs t ops u 0) (hl:ops.length<=1000) (hI:zCA n ops=some (ops.map invO).reverse){h:Hs} (hu:h.2.1=u):∀ (k i:Nat) (p q:List Int),(posT t).length - i<k->i<=(posT t).length->p.length<=49->q.length<=49 ->
  (∀ x∈(posT t).drop i,leP p (zNV af ops x)/\leP q (zNV af (ops.map invO).reverse (zNV af ops x))) ->
  zBg n t.kind t.text t.cols t.kids af ops (posT t) k h.1.kind h.1.text h.1.cols h.1.kids h.2.1.kind h.2.1.text h.2.1.cols h.2.1.kids h.2.2.2 p q (i:Int) h.2.2.1=some (.go ())
 | 0,i,p,q,hk,_,_,_,_=>by omega
 | k+1,i,p,q,hk,hi,hp,hq,hle=>by
  unfold zBg;have hlt:=zRt t;have hcw:=Nd.cnt_w t;have hw:=zFS hv
  by_cases hj:i<(posT t).length
  ·obtain⟨hb,hvu⟩:=hr.back hv;have hwu:=zFS hvu;have hcu:=Nd.cnt_w u;have hm:=getElem_mem hj;have hx:=(zD7 t _).1 hm;have ha:=zAK hj;have hsort:=zYh t;have e1:=zRN n hr af hx hv (by omega) (by omega)
   obtain⟨s1,s2⟩:=hr.maps rfl af;obtain⟨s3,s4⟩:=hb.maps rfl af;have hy:=s1 _ hx;have e2:=zRN n hb af hy hvu (by simp; omega) (by simp; omega)
   have hz:=s3 _ hy;obtain⟨v1,e3,f3⟩:=zG1 n u (zNV af ops (posT t)[i]) (zCK n u (by omega) (by omega)) (by omega) (by omega) (by omega)
   obtain rfl:=f3.2 ⟨hvu,hy⟩
   obtain⟨v2,e4,f4⟩:=zG1 n t (zNV af (ops.map invO).reverse (zNV af ops (posT t)[i])) (zCK n t (by omega) (by omega)) (by omega) (by omega) (by omega)
   obtain rfl:=f4.2 ⟨hv,hz⟩
   have hd:=drop_eq_getElem_cons hj;rw[hd]at hle;obtain⟨l1,l2⟩:=hle _ mem_cons_self;obtain⟨c1,e5,g5⟩:=yAk n p _ (by omega) (by omega) l1;obtain⟨c2,e6,g6⟩:=yAk n q _ (by omega) (by omega) l2;have hyl:=zEo hvu ((zD7 u _).2 hy)
   have hzl:=zEo hv ((zD7 t _).2 hz)
   have hps:∀ x∈(posT t).drop (i+1),leP (posT t)[i] x:=by
    have:=List.Pairwise.drop (i:=i) hsort;rw[hd]at this;exact(List.pairwise_cons.1 this).1
   have ih:=yAm n hn af hv hr hl hI hu k (i+1) _ _ (by omega) (by omega) hyl hzl (fun x hx'=>by
    have hxm:=(zD7 t x).1 (mem_of_mem_drop hx')
    have:=s2 _ _ hx hxm (hps x hx')
    exact⟨this,s4 _ _ hy (s1 _ hxm) this⟩)
   generalize (posT t)[i]=x at *;have hTr:=zXm (h:=h) (by rw[hu]; exact hvu)
   obtain⟨⟨a1,a2,a3,a4⟩,b,rs,d⟩:=h;dsimp only at hu;subst hu;obtain⟨b1,b2,b3,b4⟩:=b;obtain⟨t1,t2,t3,t4⟩:=t;dsimp only[Nd.kind,Nd.text,Nd.cols,Nd.kids]at *;rw[zAH (Int.ofNat_lt.2 hj),cond_true,ha,zAL (by omega)]
   simp only[obs,e1,e2,hI,hTr,e3,e4,Bool.not_true,cond_false,e5,e6]
   rw[zAE (by omega),cond_false,zAE (by omega)]
   simp only[obs,cond_false]
   exact ih
  ·rw[zAE (by omega),cond_false]
theorem zNo (n:Nat) (hn:200000000<n) (a:Nd) (l:List Cm) (af:Bool) (ha:a.w<=1048576) (hl:l.length<=1048576) (hi:∀ c∈l,Nd.ws c.1.2.1<=1048576/\(0<=c.2.1/\c.2.1<=255)/\0<=c.2.2/\c.2.2<=255):zB0 n a l af=some true:=by
 have hw:zF3=some true:=rfl;obtain⟨b,f1,f2⟩:=zYP n a l (by omega) (by omega)
 cases b with
 | false =>
  obtain⟨a1,a2,a3,a4⟩:=a;unfold zB0;simp only[hw,f1,obs,Bool.not_true,cond_false,Bool.not_false,cond_true]
 | true =>
  obtain⟨f3,f4⟩:=f2 rfl;obtain⟨n1,n2⟩:=yBw n (t:=a) hn (by omega)
  cases hv:zAB a with
  | false =>
   rw[hv,cond_false]at n1;obtain⟨a1,a2,a3,a4⟩:=a;unfold zB0;simp only[hw,f1,obs,Bool.not_true,cond_false,n1]
   rfl
  | true =>
   rw[hv,cond_true]at n1;have hat:=n2 hv;obtain⟨h,ts,k1,k2⟩:=zSB n hn (t0:=a) (l:=l) f3 (fun c hc=>⟨by have:=(hi c hc).1; omega,by have:=f4 c hc; omega,(hi c hc).2.1,(hi c hc).2.2⟩) n 0 (a,a,[],0) [a] (by omega) (Nat.zero_le _) ⟨hat,Nat.zero_le _,fun r hr=>by(cases hr),rfl,.nil _⟩
   rw[show((0:Nat):Int)=0 from rfl]at k1;have hR:=zWb n hn k2.at';have hlen:=k2.le;have hfl:=zZn k2.few;have hL:=yAl k2.few (by omega) n 0 [] (by omega) (Nat.zero_le _) (by simp; omega)
   rw[show((0:Nat):Int)=0 from rfl,drop_zero,nil_append]at hL;have hwv:=zFS hv;have hcw:=Nd.cnt_w a;have hAll:=zJf n a (zCK n a (by omega) (by omega)) (by omega) (by omega)
   rw[hv,cond_true]at hAll;have hI:=zRM n (ops:=(h.2.2.1.map (·.1)).flatten) (fun o ho=>by
    obtain⟨r,hr,hro⟩:=List.mem_flatten.1 ho;obtain⟨rc,hrc,rfl⟩:=List.mem_map.1 hr;have hb:=(k2.few rc hrc).bulk o hro;unfold zHy at hb;have:=Nd.cnts_ws o.nodes;exact zXa n o (by omega) (by omega) (by omega)) (by omega)
   have hlt:=zRt a;have hT:=yAm n hn af hv k2.runs (by omega) hI (h:=h) rfl n 0 [] [] (by omega) (Nat.zero_le _) (Nat.zero_le _) (Nat.zero_le _) (fun x _=>⟨zGw.2 trivial,zGw.2 trivial⟩)
   rw[show((0:Nat):Int)=0 from rfl]at hT
   clear k2 hfl hI hlen hat n2
   obtain⟨⟨h1,h2,h3,h4⟩,⟨h5,h6,h7,h8⟩,rs,d⟩:=h;obtain⟨a1,a2,a3,a4⟩:=a;dsimp only[Nd.kind,Nd.text,Nd.cols,Nd.kids]at *;unfold zB0;simp only[hw,f1,obs,Bool.not_true,cond_false,n1]
   rw[zA5 trivial]
   unfold zFr;simp only[k1,obs,Bool.not_true,cond_false,hR,hL,hAll,hT]
variable {ss:List S}{n:Nat}
theorem zZ8  (h:Typed T n 24 ss):∃ t:Nd,ss=t.enc/\t.rng :=
 zP5 (T:=T) (e:=24) (s:=22) (ki:=3) (st:=9) rfl rfl rfl rfl rfl rfl rfl rfl rfl n h
theorem zU4 {t:Nat} (h:Typed T n 22 ss):∃ l:List Nd,ss=[.sl 4 (Nd.encs l)]/\Nd.rngs l:=by
 obtain⟨m,rows,rfl,rfl,_,hr⟩:=zKi (T:=T) (e:=24) rfl rfl h;obtain⟨ks,rfl,hks⟩:=zQt (f:=Nd.enc) (q:=Nd.rng) (l:=rows) fun r hr'=>zP5 (T:=T) (e:=24) (s:=22) (ki:=3) (st:=9) rfl rfl rfl rfl rfl rfl rfl rfl rfl m (hr r hr')
 exact⟨ks,by rw[Nd.encs_eq]; rfl,Nd.rngAll hks⟩
theorem zVc {α:Type}{f:α->List S}:∀ {l:List α}{x:α},x∈l->zEt (f x)<=zE8 (l.map f)
 | y::l,x,h=>by
  simp only[map_cons,zE8]
  rcases List.mem_cons.1 h with rfl | h
  ·omega
  ·have:=zVc (f:=f) h; omega
theorem zRI  (h:Typed T n 59 ss):∃ c:Int×List Nd×Int×List UInt8×Bool,ss=[.int .i64 c.1,.sl 4 (Nd.encs c.2.1),.int .i64 c.2.2.1,.str c.2.2.2.1,.bool c.2.2.2.2]:=by
 obtain⟨m,rfl,a0,q0,rfl,u0,a1,q1,rfl,u1,a2,q2,rfl,u2,a3,q3,rfl,u3,a4,q4,rfl,u4,rfl⟩:=zI0 (T:=T) (t:=59) rfl rfl h;obtain⟨x0,rfl,_⟩:=zHC (T:=T) (k:=.i64) rfl rfl u0;obtain⟨x1,rfl,_⟩:=zU4 (t:=0) u1;obtain⟨x2,rfl,_⟩:=zHC (T:=T) (k:=.i64) rfl rfl u2;obtain⟨x3,rfl,_⟩:=zTO (T:=T) rfl rfl u3;obtain⟨x4,rfl⟩:=zP4 (T:=T) rfl rfl u4;exact⟨(x0,x1,x2,x3,x4),rfl⟩
def zYg (c:Cm):Prop:=(0<=c.2.1/\c.2.1<=255)/\0<=c.2.2/\c.2.2<=255
theorem zYS  (h:Typed T n 61 ss):∃ c:Cm,ss=zAo c/\zYg c:=by
 obtain⟨m,rfl,a0,q0,rfl,u0,a1,q1,rfl,u1,a2,q2,rfl,u2,rfl⟩:=zI0 (T:=T) (t:=61) rfl rfl h;obtain⟨x0,rfl⟩:=zRI u0;obtain⟨x1,rfl,h1⟩:=zHC (T:=T) (k:=.u8) rfl rfl u1;obtain⟨x2,rfl,h2⟩:=zHC (T:=T) (k:=.u8) rfl rfl u2;exact⟨(x0,x1,x2),rfl,h1,h2⟩
theorem zW3  (h:Typed T n 25 ss):∃ l:List Cm,ss=[.sl 7 ((List.map zAo) l)]/\∀ c∈l,zYg c:=by
 obtain⟨m,rows,rfl,rfl,_,hr⟩:=zKi (T:=T) (e:=61) rfl rfl h;obtain⟨ks,rfl,hks⟩:=zQt (f:=zAo) (q:=zYg) (l:=rows) fun r hr'=>zYS (hr r hr')
 exact⟨ks,rfl,hks⟩
theorem zZ4 (l:List Cm) (h:zEt [.sl 7 ((List.map zAo) l)]<=1048576):l.length<=1048576/\∀ c∈l,Nd.ws c.1.2.1<=1048576:=by
 simp only[zEt,S.bulk]at h;have h1:=zSx (rows:=l.map zAo) fun r hr=>by
  obtain⟨o,_,rfl⟩:=List.mem_map.1 hr;simp only[zAo,length_cons]
  omega
 rw[length_map]at h1;refine⟨by omega,fun c hc=>?_⟩
 have h2:=zVc (f:=zAo) hc;have h3:=Nd.ws_bulk c.1.2.1;simp only[zAo,zEt,S.bulk]at h2
 omega
end Go.Proofs.YtbfnjnljboncgaaGreat
