/-
  Joined out of: AbsS, AbsT, AbsU, AbsV, AbsW, AbsX, MOwn, FnA, LibS, LibD, LibF, MEd, MEh, MEe, MHi, MHs, MCo, MFi, FnV, LibG, LibH, LibW, AbsY, LibO, LibR.
-/
import Derived.Test.YtgplhldfbkmmgaaProg
import Derived.KernelRfl
import Derived.Lib.Strings
import Derived.Lib.Slices
import Derived.Lib.Walk
import Derived.Lib.Bytealg
import Derived.WalkKit
import Derived.Lib.SliceRun
import Derived.Lib.AppendZerosOnto
import Derived.Shelf.RegionOpenPlain
import Derived.Test.YtgplhldfbkmmgaaZb
set_option linter.unusedVariables false
set_option linter.unusedSimpArgs false
set_option maxHeartbeats 2000000
set_option maxRecDepth 100000
namespace Go.Abs
section
variable {T:Nat->Option TI} {Γ:Nat->Option zAv} {M nm L:List Nat} {N k:Nat} {n:Nat->Bool} {all os:List Oper} {o:Oper} {σ σ':St} {K:St->Prop} {φ:Option Prop} {x:AV} {d:Nat}
theorem zOg {φ:Option Prop}{K:Prop} (h1:φ.getD True) (h2:K):andO φ K:=by
 cases φ with
 | none=>exact h2
 | some p=>exact⟨h1,h2⟩
theorem zMe (h:K (σ.putN d x)):lay false (some d) x σ K:=by
 simp only[lay,zHB]; exact h
theorem zAd (hg:o.guard=none) (hd:o.dst=some d) (hN:Nat.blt d N=true) (hc:callOf T Γ o σ.env=none) (hn:dIn (some d) nm=false) (hs:step1 T (dIn (some d) M) o σ=some (φ,x,σ')) (hφ:φ.getD True)
  (h:zCe T Γ M nm N all os (σ'.putN d x) K):zCe T Γ M nm N all (o::os) σ K:=by
 unfold zCe;rw[hg,hd]
 dsimp only;rw[hN,hc,hn,hs]
 exact zOg hφ (zMe h)
theorem zEg (hg:o.guard=none) (hd:o.dst=none) (hc:callOf T Γ o σ.env=none) (hs:step1 T (dIn none M) o σ=some (φ,x,σ')) (hφ:φ.getD True)
  (h:zCe T Γ M nm N all os σ' K):zCe T Γ M nm N all (o::os) σ K:=by
 unfold zCe;rw[hg,hd,hc,hs]
 exact zOg hφ h
theorem zLx {own:Bool}{t e q sz kk:Nat}{j ti:TI}{y i:Operand}{n:Int}{ki:IntKind}{rows:List (List AV)} (ho:o.op = .indexAddr t y i) (ht:T t=some ti) (hk:ti.k = .slice e) (hj:T e=some j) (hy:opd T σ.env t y = .orow q)
  (hi:opd T σ.env 0 i = .s (.int ki n)) (hh:σ.hp q=some (.arow kk sz rows)) (hz:Nat.beq sz j.size=true):step1 T own o σ=some (some (0<=n/\n<rows.length),.rp q sz n.toNat 0,σ):=by
 have e1:zBM T own o σ.env=none :=(by simp only[zBM,ho,zD4,hy,hi,AV.nrm,ht,hk]);simp only[step1,e1,zBo,zCC,zCf,ho,elemOf,ht,hk,hj,hy,hi,hh,hz]
theorem zMz {own:Bool}{t q sz r off kk:Nat}{ti:TI}{y z:Operand}{rows:List (List AV)} (ho:o.op = .store t y z) (ht:T t=some ti) (hy:opd T σ.env 0 y = .rp q sz r off)
  (hh:σ.hp q=some (.arow kk sz rows)) (h1:Nat.beq sz sz=true) (h2:Nat.beq (opd T σ.env t z).cellsA.length ti.size=true) (h3:Nat.ble (off+ti.size) sz=true) (h4:((opd T σ.env t z).cellsA).all AV.one=true) :
  step1 T own o σ=some (some (r<rows.length),.junk,zDZ σ q (.arow kk sz (rows.set r ((rows.getD r []).take off++(opd T σ.env t z).cellsA++(rows.getD r []).drop (off+ti.size))))):=by
 have e1:zBM T own o σ.env=none :=(by simp only[zBM,ho]);have e2:zCC T own o σ=none:=by
  simp only[zCC,ho,hy,ht,hh]
 simp only[step1,e1,zBo,e2,zCf,ho,ht,hy,hh,h1,h2,h3,h4]
theorem zJN {own:Bool}{t q off:Nat}{ti:TI}{y z:Operand}{bt:Nat}{cells:List AV} (ho:o.op = .store t y z) (ht:T t=some ti) (hy:opd T σ.env 0 y = .op q off)
  (hh:σ.hp q=some (.box bt cells)) (h2:Nat.beq (opd T σ.env t z).cellsA.length ti.size=true) (h3:Nat.ble (off+ti.size) cells.length=true) (h4:((opd T σ.env t z).cellsA).all AV.one=true) (h5:AV.ltAll σ.nx (opd T σ.env t z).cellsA=true) :
  step1 T own o σ=some (none,.junk,zDZ σ q (.box bt (cells.take off++(opd T σ.env t z).cellsA++cells.drop (off+ti.size)))):=by
 have e1:zBM T own o σ.env=none :=(by simp only[zBM,ho]);simp only[step1,e1,zBo,zCC,ho,ht,hy,hh,h2,h3,h4,h5,zCA]
theorem zPD {own:Bool}{t q off:Nat}{ti:TI}{y:Operand}{bt:Nat}{cells:List AV}{c:AV} (ho:o.op = .load t y) (ht:T t=some ti) (ha:ti.k.agg=false) (hy:opd T σ.env 0 y = .op q off) (hh:σ.hp q=some (.box bt cells)) (hc:cells[off]? = some c) :
  step1 T own o σ=some (none,c,σ):=by
 have e1:zBM T own o σ.env=none :=(by simp only[zBM,ho,hy]);simp only[step1,e1,zBo,zCC,ho,ht,hy,hh,ha,hc]
theorem zOU {own:Bool}{t q off:Nat}{ti:TI}{y:Operand}{bt:Nat}{cells:List AV} (ho:o.op = .load t y) (ht:T t=some ti) (ha:ti.k.agg=true) (hy:opd T σ.env 0 y = .op q off) (hh:σ.hp q=some (.box bt cells)) (hc:Nat.ble (off+ti.size) cells.length=true) :
  step1 T own o σ=some (none,.agg ((cells.drop off).take ti.size),σ):=by
 have e1:zBM T own o σ.env=none :=(by simp only[zBM,ho,hy]);simp only[step1,e1,zBo,zCC,ho,ht,hy,hh,ha,hc]
theorem zJM {own:Bool}{t q kk sz:Nat}{e:Nat}{args:Array Operand}{ts:Array Nat}{y:Operand}{rows:List (List AV)} (ho:o.op = .call { callee:=.builtin .len,args:=args,argTypes:=ts }) (ha:args.toList=[y]) (hts:ts.toList=[t]) (ht:tk T t = .slice e)
  (hy:opd T σ.env t y = .orow q) (hh:σ.hp q=some (.arow kk sz rows)):step1 T own o σ=some (none,.s (.int .i64 (rows.length:Int)),σ):=by
 have e1:zBM T own o σ.env=none :=(by simp only[zBM,ho,ha,hts,pLen,ht,hy]);have e2:zCC T own o σ=none :=(by simp only[zCC,ho,ha,hts,ht,hy,hh]);simp only[step1,e1,zBo,e2,zCf,ho,ha,hts,ht,hy,hh]
theorem zPE {own:Bool}{t q sz r off:Nat}{y:Operand} (ho:o.op = .load t y) (hy:opd T σ.env 0 y = .rp q sz r off):step1 T own o σ=none/\callOf T Γ o σ.env=none/\zBF T o σ.env=none:=by
 have e1:zBM T own o σ.env=none :=(by simp only[zBM,ho,hy]);have e2:zCC T own o σ=none :=(by simp only[zCC,ho,hy]);have e3:zCf T o σ=none :=(by simp only[zCf,ho]);exact⟨by simp only[step1,e1,zBo,e2,e3],by simp only[callOf,ho],by simp only[zBF,ho]⟩
theorem zP0 {t:Nat}{y:Operand} (ho:o.op = .load t y):nilQ T o σ.env=none:=by simp only[nilQ,ho]
theorem zL4 {t q sz r off kk:Nat}{y:Operand}{rows:List (List AV)}{c:AV} (hg:o.guard=none) (hd:o.dst=some d) (hN:Nat.blt d N=true) (hn:dIn (some d) nm=false) (ho:o.op = .load t y) (hy:opd T σ.env 0 y = .rp q sz r off)
  (hh:σ.hp q=some (.arow kk sz rows)) (hr:r<rows.length) (hc:zLf T t ((rows.getD r []).drop off)=some c) (h:zCe T Γ M nm N all os (σ.putN d c) K):zCe T Γ M nm N all (o::os) σ K:=by
 obtain⟨e1,e2,e3⟩:=zPE (Γ:=Γ) (own:=dIn (some d) M) ho hy;unfold zCe;rw[hg,hd]
 dsimp only;rw[hN,e2,hn,e1,zP0 ho]
 have hz:Nat.beq sz sz=true:=Nat.beq_refl sz;simp only[zK9,zFz,e3,zGo,ho,hy,hh,hz]
 exact⟨hr,_,rfl,by rw[hc]; exact zMe h⟩
end
inductive Rd (hp:Nat->Option Ob):AV->S->Prop
 | s (x:S):Rd hp (.s x) x
 | nl (sz:Nat):Rd hp (.nl sz) (.sl sz [])
 | row {k e sz:Nat} {rows:List (List S)} (h:hp k=some (.row e sz rows)):Rd hp (.orow k) (.sl sz rows)
 | arow {k e sz:Nat} {rows:List (List AV)} {rs:List (List S)} (h:hp k=some (.arow e sz rows)) (hl:rows.length=rs.length) (hr:∀ r∈rs,r.length=sz)
   (hc:∀ (i:Nat) x s,rows.flatten[i]? = some x->rs.flatten[i]? = some s->Rd hp x s):Rd hp (.orow k) (.sl sz rs)
 | box {k off bt:Nat} {cells:List AV} {ss:List S} (h:hp k=some (.box bt cells)) (hl:cells.length=ss.length)
   (hc:∀ (i:Nat) x s,cells[i]? = some x->ss[i]? = some s->Rd hp x s):Rd hp (.op k off) (.pt (ss.drop off))
 | el {k e sz i off:Nat} {rows:List (List AV)} {rs:List (List S)} (h:hp k=some (.arow e sz rows)) (hl:rows.length=rs.length) (hr:∀ r∈rs,r.length=sz) (hi:i<rs.length)
   (hc:∀ (i:Nat) x s,rows.flatten[i]? = some x->rs.flatten[i]? = some s->Rd hp x s):Rd hp (.rp k sz i off) (.pt ((rs.getD i []).drop off))
def allG (G:Nat->Prop) (β:Nat->Value) (hp:Nat->Option Ob) (b:Nat):Prop:=G b∨∃ k ob,hp k=some ob/\blk (β k)=some b
theorem Rd.rep {c:Cx}{G:Nat->Prop}{β:Nat->Value}{σ:St}{a:Act}{w:World} (hc:Conc c G β σ a w){x:AV}{s:S} (h:Rd σ.hp x s):∀ {v:Value},AVal G w β x v->Rep (allG G β σ.hp) w s v:=by
 have hk:Keep G (allG G β σ.hp) w w:=⟨fun _ h=>.inl h,fun _ _=>rfl⟩
 induction h with
 | s x=>intro v hv; simp only[AVal]at hv; exact hv.keep hk
 | nl sz=>intro v hv; simp only[AVal]at hv; subst hv; simp[Rep]
 | @row k e sz rows h =>
  intro v hv;simp only[AVal]at hv;obtain⟨hlen,hsz,ho⟩:=hc.hp k _ h;rw[hv.1]
  rcases ho with ⟨h1,rfl⟩ | ⟨b,cap,cur,h1,h2,h3,⟨mk,hmk,h4⟩,h5,h6,h7⟩
  ·rw[h1]; simp[Rep]
  ·rw[h1]
   simp only[Rep]
   refine .inr ⟨b,0,cap,rfl,h2,zBN hlen (RepRow.mk fun i s hi=>⟨.inr ⟨k,_,h,by rw[h1]; rfl⟩,?_⟩)⟩
   obtain⟨u,hu,hr⟩:=h7 i s hi;exact⟨u,by simp[World.cell?,h4,hu],hr.keep hk⟩
 | @arow k e sz rows rs h hl hr hcc ih =>
  intro v hv;simp only[AVal]at hv;obtain⟨hlen,hsz,ho⟩:=hc.hp k _ h;rw[hv.1]
  rcases ho with ⟨h1,rfl⟩ | ⟨b,cap,cur,h1,h2,h3,⟨mk,hmk,h4⟩,h5,h6,h7⟩
  ·obtain rfl:rs=[]:=List.length_eq_zero_iff.1 (by simpa using hl.symm)
   rw[h1]; simp[Rep]
  ·rw[h1]
   simp only[Rep]
   refine .inr ⟨b,0,cap,by rw[hl],by rw[← hl]; exact h2,zBN hr (RepRow.mk fun i s hi=>⟨.inr ⟨k,_,h,by rw[h1]; rfl⟩,?_⟩)⟩
   have hfl:=zAH hlen;have hfs:=zAH hr;have hil:i<rows.flatten.length :=(by rw[hfl,hl,← hfs]; exact(List.getElem?_eq_some_iff.1 hi).1);obtain⟨u,hu,hr',_⟩:=h7 i _ (List.getElem?_eq_getElem hil)
   exact⟨u,by simp[World.cell?,h4,hu],ih i _ s (List.getElem?_eq_getElem hil) hi hr'⟩
 | @box k off bt cells ss h hl hcc ih =>
  intro v hv;simp only[AVal]at hv;obtain⟨b,e,cur,h1,h2,h3,h4,h5,h6⟩:=hc.hp k _ h;obtain⟨b',hβ,rfl⟩:=hv;rw[h1]at hβ; cases hβ
  simp only[Rep]
  have hrow:RepRow (allG G β σ.hp) w b ss 0:=RepRow.mk fun i s hi=>by
   refine⟨.inr ⟨k,_,h,by rw[h1]; rfl⟩,?_⟩
   have hil:i<cells.length :=(by rw[hl]; exact(List.getElem?_eq_some_iff.1 hi).1);obtain⟨u,hu,hr⟩:=h5.get (List.getElem?_eq_getElem hil)
   rw[Array.getElem?_toList]at hu;exact⟨u,by simp[World.cell?,h2,hu],ih i _ s (List.getElem?_eq_getElem hil) hi hr⟩
  exact⟨b,off,rfl,by simpa using hrow.drop off⟩
 | @el k e sz i off rows rs h hl hr hi hcc ih =>
  intro v hv;simp only[AVal]at hv;obtain⟨b,n,cp,hβ,rfl⟩:=hv;obtain⟨hlen,hsz,ho⟩:=hc.hp k _ h;rcases ho with ⟨h1,rfl⟩ | ⟨b',cap,cur,h1,h2,h3,h4,h5,h6,h7⟩
  ·simp at hl; omega
  rw[hβ]at h1; cases h1
  simp only[Rep]
  refine⟨b,i * sz+off,rfl,?_⟩
  have hfl:=zAH hlen;have hfs:=zAH hr;have hrow:RepRow (allG G β σ.hp) w b rs.flatten 0:=RepRow.mk fun q s hq=>by
   refine⟨.inr ⟨k,_,h,by rw[hβ]; rfl⟩,?_⟩
   have hil:q<rows.flatten.length :=(by rw[hfl,hl,← hfs]; exact(List.getElem?_eq_some_iff.1 hq).1);obtain⟨u,hu,hr',_⟩:=h7 q _ (List.getElem?_eq_getElem hil)
   obtain⟨mk,hmk,h4⟩:=h4;exact⟨u,by simp[World.cell?,h4,hu],ih q _ s (List.getElem?_eq_getElem hil) hq hr'⟩
  have hrows:=(zBN hr hrow).get (i:=i) (r:=rs[i]) (List.getElem?_eq_getElem hi)
  have hg:rs.getD i []=rs[i] :=(by simp[List.getElem?_eq_getElem hi]);rw[hg]
  have:=hrows.2.drop off
  simpa using this
def RdV (hp:Nat->Option Ob):AV->AV->Prop
 | x,.s y=>Rd hp x y
 | .agg xs,.agg ys=>xs.length=ys.length/\∀ (i:Nat) x y,xs[i]? = some x->ys[i]? = some y->∃ s,y = .s s/\Rd hp x s
 | _,.junk=>True
 | _,_=>False
theorem RdV.aval {c:Cx}{G:Nat->Prop}{β:Nat->Value}{σ:St}{a:Act}{w:World} (hc:Conc c G β σ a w){x y:AV} (h:RdV σ.hp x y){v:Value} (hv:AVal G w β x v):AVal (allG G β σ.hp) w β y v:=by
 unfold RdV at h;split at h
 ·simp only[AVal]; exact h.rep hc hv
 ·simp only[AVal]at hv ⊢;obtain⟨vs,rfl,hvs⟩:=hv;refine⟨vs,rfl,AVals.mk (by rw[← h.1]; exact hvs.length) fun i y u hy hu=>?_⟩
  rename_i xs ys
  have hil:i<xs.length :=(by rw[h.1]; exact(List.getElem?_eq_some_iff.1 hy).1);obtain⟨s,rfl,hs⟩:=h.2 i _ y (List.getElem?_eq_getElem hil) hy;obtain⟨u',hu',hr⟩:=hvs.get (List.getElem?_eq_getElem hil)
  rw[hu]at hu'; cases hu'
  simp only[AVal]; exact hs.rep hc hr
 ·simp only[AVal]
 ·exact h.elim
def nils (k:Nat):List (List AV):=List.replicate k [.s (.sl 1 [])]
theorem Le.forgetH {c:Cx}{σ:St} (l:List (Nat×AV)) (hp':Nat->Option Ob) (n:Nat) (h:holds σ.env l) (hh:∀ k,σ.hp k=hp' k) (hn:σ.nx=n):Le c σ ⟨ofL l,hp',n⟩:=by
 obtain rfl:σ.hp=hp':=funext hh;subst hn;exact Le.forget l h
theorem PSound.ofOwn {P:Program}{f:Nat}{R:List AV->List Ob->AV->List (Option Ob)->Prop} (hcall:∀ args w,(callFunc f args).run P w = .ok (.enter f args) w) (h:zNh P f R):PSound P f (zCm R) :=
 ⟨hcall,fun _ _ _ _ _ _ _ _ _ hs=>hs.elim,fun R' hR'=>(by
  obtain rfl:R=R' :=(by simpa [zCm] using hR');exact h),fun R hR=>(by cases hR)⟩
def zPj (s:zAv):List AV->List Ob->AV->List (Option Ob)->Prop:=match s.own with | some R=>R | none=>fun _ _ _ _=>False
def orS (s t:zAv):zAv:=zCm fun xs os x os'=>zPj s xs os x os'∨zPj t xs os x os'
theorem zOz {P:Program}{f:Nat}{s t:zAv} (hs:PSound P f s) (ht:PSound P f t):PSound P f (orS s t) :=
 PSound.ofOwn hs.1 fun G w β xs vs os x os' h1 h2 h3 h4 h5 h6=>by
  rcases h6 with h6 | h6
  ·unfold zPj at h6;cases hR:s.own with
   | none=>rw[hR]at h6; exact h6.elim
   | some R=>rw[hR]at h6; exact hs.2.2.1 R hR G w β xs vs os x os' h1 h2 h3 h4 h5 h6
  ·unfold zPj at h6;cases hR:t.own with
   | none=>rw[hR]at h6; exact h6.elim
   | some R=>rw[hR]at h6; exact ht.2.2.1 R hR G w β xs vs os x os' h1 h2 h3 h4 h5 h6
def ownS (s:zAv):zAv:=zCm fun xs os x os'=>AV.persAll xs=true/\s.spec xs (.val x)/\os=[]/\os'=[]
theorem PSound.toOwn {P:Program}{f:Nat}{s:zAv} (h:PSound P f s):PSound P f (ownS s) :=
 PSound.ofOwn h.1 fun G w β xs vs os x os' h1 h2 h3 _ _ h6=>by
  obtain⟨hp,hs,rfl,rfl⟩:=h6;refine(h.2.1 G w xs vs (.val x) h1 h2 hp (AVals.pers hp h3) hs).mono fun e w' he=>?_
  obtain⟨v,G',rfl,hx,hv1,hv2⟩:=he;exact⟨v,G',β,rfl,⟨hx.os,hx.tape,hx.output,hx.size,fun b hb _=>hx.old b hb⟩,hx.sub,fun b hb=>(hx.new b hb).imp id .inr,hx.lt,AVal.pers hv1 hv2,AV.pers_lt hv1,Nat.le_refl _,⟨fun i ob hi=>by simp at hi,fun i j ob ob' hi=>by simp at hi⟩,fun i ob hi=>by simp at hi⟩
section
variable {T:Nat->Option TI} {Γ:Nat->Option zAv} {M nm L:List Nat} {N k n:Nat} {all os:List Oper} {o:Oper} {σ σ':St} {K:St->Prop} {φ:Option Prop} {x:AV} {d:Nat}
theorem zOV {own:Bool}{t e q kk sz:Nat}{j ti:TI}{y hi:Operand}{n:Int}{ki:IntKind}{rows:List (List AV)} (ho:o.op = .slice t y none (some hi) none) (ht:T t=some ti) (hk:ti.k = .slice e) (hj:T e=some j) (hy:opd T σ.env t y = .orow q)
  (hi':opd T σ.env 0 hi = .s (.int ki n)) (hh:σ.hp q=some (.arow kk sz rows)) (hz:Nat.beq sz j.size=true) :
  step1 T own o σ=some (some (0<=n/\n<=rows.length),.orow σ.nx,zBg (zFq σ q) (.arow kk sz (rows.take n.toNat))):=by
 have e1:zBM T own o σ.env=none :=(by simp only[zBM,ho,zJC,hy,AV.nrm,ht,hk,Option.map_none,Option.map_some,hi']);have e2:zCC T own o σ=none :=(by simp only[zCC,ho,elemOf,ht,hk,hj,hy,hi',hh]);simp only[step1,e1,zBo,e2,zCf,ho,elemOf,ht,hk,hj,hy,hi',hh,hz]
theorem zP6 {own:Bool}{t tx e q q2 kk kk2 sz sz2:Nat}{j ti:TI}{args:Array Operand}{ts:Array Nat}{y z:Operand}{rows rows2:List (List AV)} (ho:o.op = .call { callee:=.builtin .append,args:=args,argTypes:=ts }) (ha:args.toList=[y,z]) (hts:ts.toList=[t,tx])
  (ht:T t=some ti) (hk:ti.k = .slice e) (hj:T e=some j) (htx:tk T tx = .slice e) (hy:opd T σ.env t y = .orow q) (hz:opd T σ.env tx z = .orow q2) (hh:σ.hp q=some (.arow kk sz rows)) (hh2:σ.hp q2=some (.arow kk2 sz2 rows2))
  (h1:Nat.beq sz j.size=true) (h2:Nat.beq sz2 j.size=true) (h3:Nat.beq e kk=true) :
  step1 T own o σ=some (some ((rows.length+rows2.length) * j.bytes<=140737488355328/\rows.length+rows2.length<=9223372036854775807),.orow σ.nx,zBg (zFq σ q) (.arow e sz (rows++rows2))):=by
 have e1:zBM T own o σ.env=none :=(by simp only[zBM,ho]);have e2:zCC T own o σ=none :=(by simp only[zCC,ho,ha,hts,zGX,elemOf,ht,hk,hj,hy,zIl,hh]);simp only[step1,e1,zBo,e2,zCf,ho,ha,hts,elemOf,ht,hk,hj,hy,hz,zIx,hh,zIH,htx,hh2,h1,h2,h3]
theorem zPC {own:Bool}{t tx e q kk sz sz2 e2:Nat}{j ti:TI}{args:Array Operand}{ts:Array Nat}{y z:Operand}{rows:List (List AV)}{rows2:List (List S)} (ho:o.op = .call { callee:=.builtin .copy,args:=args,argTypes:=ts }) (ha:args.toList=[y,z]) (hts:ts.toList=[t,tx])
  (ht:T t=some ti) (hk:ti.k = .slice e) (hj:T e=some j) (htx:tk T tx = .slice e2) (hy:opd T σ.env t y = .orow q) (hz:opd T σ.env tx z = .s (.sl sz2 rows2)) (hh:σ.hp q=some (.arow kk sz rows))
  (h1:Nat.beq sz j.size=true) (h2:Nat.beq sz2 j.size=true) :
  step1 T own o σ=some (some ((rows2.map (·.map AV.s)).length=rows.length),.s (.int .i64 (rows.length:Int)),zDZ σ q (.arow kk sz (rows2.map (·.map AV.s)))):=by
 have e1:zBM T own o σ.env=none :=(by simp only[zBM,ho,ha,hts,zOB,hy]);have e2:zCC T own o σ=none :=(by simp only[zCC,ho]);simp only[step1,e1,zBo,e2,zCf,ho,ha,hts,elemOf,ht,hk,hj,hy,hz,zIx,hh,zIH,htx,h1,h2]
theorem zQD {own:Bool}{t e:Nat}{j ti:TI}{y z:Operand}{n m:Int}{k1 k2:IntKind} (hw:own=true) (ho:o.op = .makeSlice t y z) (ht:T t=some ti) (hk:ti.k = .slice e) (hj:T e=some j) (hy:opd T σ.env 0 y = .s (.int k1 n)) (hz:opd T σ.env 0 z = .s (.int k2 m)) (h1:Nat.ble 1 j.size=true)
  (hp:zBM T own o σ.env=none) :
  step1 T own o σ=some (some (0<=n/\n<=m/\m * j.bytes<=281474976710656/\m<=281474976710656),.orow σ.nx,zBg σ (.row e j.size (List.replicate n.toNat j.zero))):=by
 simp only[step1,hp,zBo,zCC,ho,elemOf,ht,hk,hj,hy,hz,h1]
end
def isL (sz:Nat) (p:AV):Prop:=(∃ q i,p = .rp q sz i 0)∨(∃ q,p = .op q 0)
def zAW:AV->Nat
 | .op q _=>q
 | .rp q _ _ _=>q
 | _=>0
def locO (p:AV) (off:Nat):AV:=match p with
 | .op q _=>.op q off
 | .rp q sz i _=>.rp q sz i off
 | x=>x
def zAF (hp:Nat->Option Ob):AV->Option (List AV)
 | .op q 0=>match hp q with | some (.box _ cs)=>some cs | _=>none
 | .rp q sz i 0=>match hp q with | some (.arow _ sz' rows)=>bif Nat.beq sz sz' then rows[i]? else none | _=>none
 | _=>none
def putC (hp:Nat->Option Ob) (p:AV) (c:List AV) (k:Nat):Option Ob:=match p with
 | .op q _=>match hp q with | some (.box bt _)=>bif Nat.beq k q then some (.box bt c) else hp k | _=>hp k
 | .rp q _ i _=>match hp q with | some (.arow e sz rows)=>bif Nat.beq k q then some (.arow e sz (rows.set i c)) else hp k | _=>hp k
 | _=>hp k
theorem zC2 {k q:Nat} (h:k ≠ q):Nat.beq k q=false:=by
 cases e:Nat.beq k q with
 | true=>exact absurd (Nat.eq_of_beq_eq_true e) h
 | false=>rfl
theorem zBc {hp:Nat->Option Ob}{p:AV}{c:List AV}{k:Nat} (h:k ≠ zAW p):putC hp p c k=hp k:=by
 unfold putC;split
 ·rename_i q _
  have h:k ≠ q:=h;split
  ·rw[zC2 h,cond_false]
  ·rfl
 ·rename_i q _ _ _
  have h:k ≠ q:=h;split
  ·rw[zC2 h,cond_false]
  ·rfl
 ·rfl
theorem zEq {hp:Nat->Option Ob}{q o bt:Nat}{cs c:List AV} (h:hp q=some (.box bt cs)):putC hp (.op q o) c=fun k=>bif Nat.beq k q then some (.box bt c) else hp k:=by
 funext k; simp only[putC,h]
theorem zG8 {hp:Nat->Option Ob}{q s i o e sz:Nat}{rows:List (List AV)}{c:List AV} (h:hp q=some (.arow e sz rows)):putC hp (.rp q s i o) c=fun k=>bif Nat.beq k q then some (.arow e sz (rows.set i c)) else hp k:=by
 funext k; simp only[putC,h]
theorem zC4 {hp:Nat->Option Ob}{q bt:Nat}{cs:List AV} (h:hp q=some (.box bt cs)):zAF hp (.op q 0)=some cs:=by simp only[zAF,h]
theorem zD0 {hp:Nat->Option Ob}{q e sz i:Nat}{rows:List (List AV)} (h:hp q=some (.arow e sz rows)):zAF hp (.rp q sz i 0)=rows[i]?:=by simp only[zAF,h,Nat.beq_refl,cond_true]
theorem zBP {hp:Nat->Option Ob}{sz:Nat}{p:AV}{cs:List AV} (hl:isL sz p) (h:zAF hp p=some cs):(∃ q i e rows,p = .rp q sz i 0/\hp q=some (.arow e sz rows)/\rows[i]? = some cs)∨∃ q bt,p = .op q 0/\hp q=some (.box bt cs):=by
 rcases hl with ⟨q,i,rfl⟩ | ⟨q,rfl⟩
 ·simp only[zAF]at h;split at h
  ·rename_i e sz' rows hq
   cases hb:Nat.beq sz sz' with
   | false=>rw[hb]at h; cases h
   | true =>
    rw[hb,cond_true]at h;obtain rfl:=Nat.eq_of_beq_eq_true hb;exact .inl ⟨q,i,e,rows,rfl,hq,h⟩
  ·cases h
 ·simp only[zAF]at h;split at h
  ·rename_i bt cs' hq
   cases h;exact .inr ⟨q,bt,rfl,hq⟩
  ·cases h
theorem zGT {hp:Nat->Option Ob}{sz:Nat}{p:AV}{c cs:List AV} (hl:isL sz p) (h:zAF hp p=some cs):zAF (putC hp p c) p=some c:=by
 rcases zBP hl h with ⟨q,i,e,rows,rfl,hq,hi⟩ | ⟨q,bt,rfl,hq⟩
 ·rw[zG8 hq,zD0 (e:=e) (rows:=rows.set i c) (by simp only[Nat.beq_refl,cond_true]),List.getElem?_set,if_pos rfl,if_pos (List.getElem?_eq_some_iff.1 hi).1]
 ·rw[zEq hq,zC4 (bt:=bt) (cs:=c) (by simp only[Nat.beq_refl,cond_true])]
theorem zBr {hp hp':Nat->Option Ob}{sz:Nat}{p:AV} (hl:isL sz p) (h:hp' (zAW p)=hp (zAW p)):zAF hp' p=zAF hp p:=by
 rcases hl with ⟨q',i',rfl⟩ | ⟨q',rfl⟩ <;> (simp only[zAW]at h; simp only[zAF,h])
theorem zOF {hp:Nat->Option Ob}{sz:Nat}{p p':AV}{c cs:List AV} (hl:isL sz p) (hc:zAF hp p=some cs) (hl':isL sz p') (hne:p' ≠ p):zAF (putC hp p c) p'=zAF hp p':=by
 by_cases hb:zAW p'=zAW p
 ·rcases zBP hl hc with ⟨q,i,e,rows,rfl,hq,hi⟩ | ⟨q,bt,rfl,hq⟩
  ·have hp2:putC hp (.rp q sz i 0) c q=some (.arow e sz (rows.set i c)) :=(by rw[zG8 hq]; simp only[Nat.beq_refl,cond_true]);rcases hl' with ⟨q',i',rfl⟩ | ⟨q',rfl⟩ <;> (simp only[zAW]at hb; subst hb)
   ·have hi:i' ≠ i:=fun e=>hne (by rw[e])
    rw[zD0 hp2,zD0 hq,List.getElem?_set,if_neg (Ne.symm hi)]
   ·simp only[zAF,hp2,hq]
  ·have hp2:putC hp (.op q 0) c q=some (.box bt c) :=(by rw[zEq hq]; simp only[Nat.beq_refl,cond_true]);rcases hl' with ⟨q',i',rfl⟩ | ⟨q',rfl⟩ <;> (simp only[zAW]at hb; subst hb)
   ·simp only[zAF,hp2,hq]
   ·exact absurd rfl hne
 ·exact zBr hl' (zBc hb)
theorem zPo {hp:Nat->Option Ob}{sz':Nat}{p:AV}{c cs:List AV} (hl:isL sz' p) (hc:zAF hp p=some cs){q e sz:Nat}{rows:List (List AV)} (h:hp q=some (.arow e sz rows)):∃ rows',putC hp p c q=some (.arow e sz rows')/\rows'.length=rows.length:=by
 by_cases hb:q=zAW p
 ·subst hb;rcases zBP hl hc with ⟨q,i,e',rows',rfl,hq,hi⟩ | ⟨q,bt,rfl,hq⟩
  ·simp only[zAW]at h ⊢;rw[hq]at h; cases h
   rw[zG8 hq]; exact⟨_,by simp only[Nat.beq_refl,cond_true]; rfl,List.length_set ..⟩
  ·simp only[zAW]at h;rw[hq]at h; cases h
 ·rw[zBc hb]; exact⟨rows,h,rfl⟩
section
variable {T:Nat->Option TI} {Γ:Nat->Option zAv} {M nm L:List Nat} {N k n:Nat} {all os:List Oper} {o:Oper} {σ σ':St} {K:St->Prop} {φ:Option Prop} {x:AV} {d:Nat}
theorem zDv {own:Bool}{sz:Nat}{p:AV}{y:Operand} (hl:isL sz p) (ho:o.op = .nilCheck y) (hy:opd T σ.env 0 y=p):step1 T own o σ=some (none,p,σ):=by
 have e1:zBM T own o σ.env=some (none,p):=by
  rcases hl with ⟨q,i,rfl⟩ | ⟨q,rfl⟩ <;> simp only[zBM,ho,hy]
 simp only[step1,e1]
theorem zDK {own:Bool}{sz:Nat}{p:AV}{t f off ft:Nat}{ti j:TI}{fs:List (Nat×Nat)}{y:Operand} (hl:isL sz p) (ho:o.op = .fieldAddr t y f) (hy:opd T σ.env 0 y=p) (ht:T t=some ti) (hk:ti.k = .struct fs) (hf:fs[f]? = some (off,ft)) (hj:T ft=some j) (hz:Nat.ble 1 j.size=true) :
  step1 T own o σ=some (none,locO p off,σ):=by
 have e1:zBM T own o σ.env=some (none,locO p off):=by
  rcases hl with ⟨q,i,rfl⟩ | ⟨q,rfl⟩ <;> simp only[zBM,ho,hy,zFb,ht,hk,hf,hj,hz,zKl,locO,Nat.zero_add]
 simp only[step1,e1]
theorem zCL {sz t off:Nat}{ti:TI}{y:Operand}{p c:AV}{cs:List AV} (hg:o.guard=none) (hd:o.dst=some d) (hN:Nat.blt d N=true) (hn:dIn (some d) nm=false) (ho:o.op = .load t y) (ht:T t=some ti) (ha:ti.k.agg=false) (hl:isL sz p) (hy:opd T σ.env 0 y=locO p off)
  (hcs:zAF σ.hp p=some cs) (hc:cs[off]? = some c) (h:zCe T Γ M nm N all os (σ.putN d c) K):zCe T Γ M nm N all (o::os) σ K:=by
 rcases zBP hl hcs with ⟨q,i,e,rows,rfl,hq,hi⟩ | ⟨q,bt,rfl,hq⟩
 ·have hgd:rows.getD i []=cs :=(by rw[List.getD_eq_getElem?_getD,hi]; rfl);refine zL4 hg hd hN hn ho hy hq (List.getElem?_eq_some_iff.1 hi).1 (c:=c) ?_ h;simp only[zLf,ht,ha,hgd]
  rw[List.drop_eq_getElem_cons (List.getElem?_eq_some_iff.1 hc).1]
  simp only[(List.getElem?_eq_some_iff.1 hc).2]
 ·have hcall:callOf T Γ o σ.env=none :=(by simp only[callOf,ho]);exact zAd hg hd hN hcall hn (zPD ho ht ha hy hq hc) trivial h
theorem zL5 {sz t off:Nat}{ti:TI}{y z:Operand}{p c:AV}{cs:List AV} (hg:o.guard=none) (hd:o.dst=none) (ho:o.op = .store t y z) (ht:T t=some ti) (hs:ti.size=1) (hl:isL sz p) (hy:opd T σ.env 0 y=locO p off)
  (hcs:zAF σ.hp p=some cs) (hlen:cs.length=sz) (hoff:off<sz) (hz:(opd T σ.env t z).cellsA=[c]) (ho1:c.one=true) (hlt:c.lt σ.nx=true)
  (h:zCe T Γ M nm N all os { σ with hp:=putC σ.hp p (cs.set off c) } K):zCe T Γ M nm N all (o::os) σ K:=by
 have hcall:callOf T Γ o σ.env=none :=(by simp only[callOf,ho]);have hset:cs.take off++[c]++cs.drop (off+1)=cs.set off c:=by
  rw[List.set_eq_take_append_cons_drop,if_pos (by omega)]; simp
 have h1:Nat.ble (off+1) sz=true:=Nat.ble_eq_true_of_le hoff;rcases zBP hl hcs with ⟨q,i,e,rows,rfl,hq,hi⟩ | ⟨q,bt,rfl,hq⟩
 ·have hgd:rows.getD i []=cs :=(by rw[List.getD_eq_getElem?_getD,hi]; rfl);have hst:=zMz (T:=T) (own:=dIn none M) (o:=o) (σ:=σ) ho ht hy hq (Nat.beq_refl _) (by rw[hz,hs]; rfl) (by rw[hs]; exact h1) (by rw[hz]; simp[ho1])
  refine zEg hg hd hcall hst (List.getElem?_eq_some_iff.1 hi).1 ?_;rw[hgd,hz,hs,hset]
  rw[zG8 hq]at h;exact h
 ·have hst:=zJN (T:=T) (own:=dIn none M) (o:=o) (σ:=σ) ho ht hy hq (by rw[hz,hs]; rfl) (by rw[hs,hlen]; exact h1) (by rw[hz]; simp[ho1]) (by rw[hz]; simp[AV.ltAll,hlt])
  refine zEg hg hd hcall hst trivial ?_;rw[hz,hs,hset]
  rw[zEq hq]at h;exact h
theorem zE6 {sz t:Nat}{ti:TI}{y z:Operand}{p:AV}{cs cs':List AV} (hg:o.guard=none) (hd:o.dst=none) (ho:o.op = .store t y z) (ht:T t=some ti) (hs:ti.size=sz) (hl:isL sz p) (hy:opd T σ.env 0 y=p)
  (hcs:zAF σ.hp p=some cs) (hlen:cs.length=sz) (hz:(opd T σ.env t z).cellsA=cs') (hlen':cs'.length=sz) (ho1:cs'.all AV.one=true) (hlt:AV.ltAll σ.nx cs'=true)
  (h:zCe T Γ M nm N all os { σ with hp:=putC σ.hp p cs' } K):zCe T Γ M nm N all (o::os) σ K:=by
 have hcall:callOf T Γ o σ.env=none :=(by simp only[callOf,ho]);have hset:cs.take 0++cs'++cs.drop (0+sz)=cs':=by
  rw[List.drop_eq_nil_of_le (by omega)]; simp
 have h1:Nat.ble (0+sz) sz=true:=Nat.ble_eq_true_of_le (by omega)
 have h2:Nat.beq cs'.length ti.size=true :=(by rw[hlen',hs]; exact Nat.beq_refl _);rcases zBP hl hcs with ⟨q,i,e,rows,rfl,hq,hi⟩ | ⟨q,bt,rfl,hq⟩
 ·have hgd:rows.getD i []=cs :=(by rw[List.getD_eq_getElem?_getD,hi]; rfl);have hst:=zMz (T:=T) (own:=dIn none M) (o:=o) (σ:=σ) ho ht hy hq (Nat.beq_refl _) (by rw[hz]; exact h2) (by rw[hs]; exact h1) (by rw[hz]; exact ho1)
  refine zEg hg hd hcall hst (List.getElem?_eq_some_iff.1 hi).1 ?_;rw[hgd,hz,hs,hset]
  rw[zG8 hq]at h;exact h
 ·have hst:=zJN (T:=T) (own:=dIn none M) (o:=o) (σ:=σ) ho ht hy hq (by rw[hz]; exact h2) (by rw[hs,hlen]; exact h1) (by rw[hz]; exact ho1) (by rw[hz]; exact hlt)
  refine zEg hg hd hcall hst trivial ?_;rw[hz,hs,hset]
  rw[zEq hq]at h;exact h
theorem zB6 {j g:Nat}{want:Bool} (hg:o.guard=some (j,want)) (hj:(all[j]?).bind (·.dst)=some g) (hv:σ.env g = .s (.bool want)) (h:zCe T Γ M nm N all ({ o with guard:=none }::os) σ K):zCe T Γ M nm N all (o::os) σ K:=by
 unfold zCe at h ⊢;dsimp only at h ⊢;split
 ·rename_i h0
  rw[h0]at h;exact h
 ·rename_i h0
  rw[h0]at h;rw[hg]
  dsimp only;rw[hj]
  dsimp only;rw[hv]
  cases want <;> exact h
end
theorem PSound.giveAll {P:Program}{f:Nat}{R:List AV->(Nat->Option Ob)->Nat->(AV->(Nat->Option Ob)->Nat->Prop)->Prop}{S:List AV->Ret->Prop} (h:PSound P f (zMa R))
  (hS:∀ xs r,S xs r->∃ y,r = .val y/\y.pers=true/\R xs (fun _=>none) 0 fun x hp n=>RdV hp x y):PSound P f (zAx S):=by
 refine⟨h.1,fun G w xs vs r hlt hgl hp hv hs=>?_,fun R hR=>(by cases hR),fun R hR=>(by cases hR)⟩
 obtain⟨y,rfl,hy,hR⟩:=hS xs r hs;refine(h.2.2.2 R rfl G w (fun _=>.tuple #[]) xs vs (fun _=>none) 0 _ hlt hgl hv (AV.persAll_lt hp) ⟨fun k ob hk=>(by cases hk),fun k ob hk=>(by cases hk),fun k k' ob ob' hk=>(by cases hk)⟩ hR).mono ?_;rintro e w' ⟨v,G',β',x,hp',n',rfl,hΦ,hn,hfr,hsub,hnew,hlt',hx,hxl,hob,hst⟩
 let c:Cx:=zDE P w (fun _=>.tuple #[]) (fun _=>none) 0 G 0
 have hk:Keep G G' w w':=⟨hsub,fun b hb=>hfr.old b (hlt b hb) (by rintro⟨k,ob,h,_⟩; cases h)⟩
 have hc:Conc c G' β' ⟨fun _=>.junk,hp',n'⟩ { tmps:=#[],defers:=[] } w':={
  defers:=rfl
  size:=rfl
  env:=fun t=>by simp only[AVal]
  envlt:=fun t=>rfl
  hp:=hob.obs
  hplt:=hob.lts
  inj:=hob.inj
  lt:=hlt'
  sub:=hsub
  new:=hnew
  fr:=hfr
  stay:=⟨hn,hst⟩
  glob:=hgl.keep hk }
 have hmine:∀ b,c.mine b->w.heap.size<=b:=fun b hb=>by
  rcases hb with ⟨k,ob,h,_⟩ | h
  ·cases h
  ·exact h
 refine⟨v,allG G' β' hp',rfl,⟨hfr.os,hfr.tape,hfr.output,hfr.size,fun b hb=>hfr.old b hb (by rintro⟨k,ob,h,_⟩; cases h),fun b hb=>.inl (hsub b hb),fun b hb=>?_,fun b hb=>?_⟩,hy,(hΦ.aval hc hx).pers hy⟩
 ·rcases hb with hb | ⟨k,ob,h1,h2⟩
  ·exact(hnew b hb).imp id (hmine b)
  ·exact .inr (hmine b (row_block (hc.hp k ob h1) b h2).2)
 ·rcases hb with hb | ⟨k,ob,h1,h2⟩
  ·exact hlt' b hb
  ·exact hc.blk_lt h1 h2
theorem ObAt.give {c:Cx}{G G':Nat->Prop}{w:World}{β:Nat->Value}{v:Value}{ob:Ob} (hs:∀ b,G b->G' b) (hng:∀ b,blk v=some b->¬ G' b) (h:ObAt c G w β v ob):ObAt c G' w β v ob:=by
 have hk:Keep G G' w w:=⟨hs,fun _ _=>rfl⟩
 cases ob with
 | box t xs =>
  obtain⟨b,e,cur,q1,q2,q3,q4,q5,q6⟩:=h;exact⟨b,e,cur,q1,q2,hng b (by rw[q1]; rfl),q4,q5.keep hk,q6⟩
 | row e sz rows =>
  obtain⟨q1,q2,q3⟩:=h;refine⟨q1,q2,q3.imp id ?_⟩
  rintro⟨b,cap,cur,g1,g2,g3,g4,g5,g6,g7⟩
  exact⟨b,cap,cur,g1,g2,g3,g4,hng b (by rw[g1]; rfl),g6,fun i s hi=>let ⟨u,hu,hr'⟩:=g7 i s hi; ⟨u,hu,hr'.keep hk⟩⟩
 | arow e sz rows =>
  obtain⟨q1,q2,q3⟩:=h;refine⟨q1,q2,q3.imp id ?_⟩
  rintro⟨b,cap,cur,g1,g2,g3,g4,g5,g6,g7⟩
  exact⟨b,cap,cur,g1,g2,g3,g4,hng b (by rw[g1]; rfl),g6,fun i x hi=>let ⟨u,hu,hr',h1⟩:=g7 i x hi; ⟨u,hu,hr'.keep hk,h1⟩⟩
theorem RdV.lt {hp:Nat->Option Ob}{x y:AV} (h:RdV hp x y) (n:Nat):y.lt n=true:=by
 unfold RdV at h;split at h
 ·rfl
 ·rename_i xs ys
  simp only[AV.lt]
  refine zJk fun q y hq=>?_
  have hil:q<xs.length :=(by rw[h.1]; exact(List.getElem?_eq_some_iff.1 hq).1);obtain⟨s,rfl,_⟩:=h.2 q _ y (List.getElem?_eq_getElem hil) hq
  rfl
 ·rfl
 ·exact h.elim
def RdK (hp:Nat->Option Ob) (env:Nat->AV):List (Nat×AV)->Prop
 | []=>True
 | (t,y)::r=>(y=env t∨RdV hp (env t) y)/\RdK hp env r
theorem RdK.lt {hp:Nat->Option Ob}{env:Nat->AV}{n:Nat} (he:∀ t,(env t).lt n=true):∀ {l:List (Nat×AV)},RdK hp env l->∀ t,(ofL l t).lt n=true
 | [],_,t=>rfl
 | (u,y)::r,h,t=>by
  simp only[ofL]
  cases Nat.beq t u with
  | true =>
   rcases h.1 with h1 | h1
   ·rw[h1]; exact he u
   ·exact h1.lt n
  | false=>exact RdK.lt he h.2 t
theorem Le.givePart {c:Cx}{σ:St} (l:List (Nat×AV)) (hpD hpK:Nat->Option Ob) (hD:∀ k ob,hpD k=some ob->σ.hp k=some ob) (hK:∀ k ob,hpK k=some ob->σ.hp k=some ob) (dis:∀ k ob ob',hpD k=some ob->hpK k=some ob'->False)
  (h:RdK hpD σ.env l):Le c σ ⟨ofL l,hpK,σ.nx⟩:=by
 unfold Le;intro G β a w hc;have hk:Keep G (allG G β hpD) w w:=⟨fun _ h=>.inl h,fun _ _=>rfl⟩
 have hcD:Conc c G β ⟨σ.env,hpD,σ.nx⟩ a w:={ hc with hp:=fun k ob hk=>hc.hp k ob (hD k ob hk),hplt:=fun k ob hk=>hc.hplt k ob (hD k ob hk),inj:=fun k k' ob ob' hk hk'=>hc.inj k k' ob ob' (hD k ob hk) (hD k' ob' hk') }
 refine⟨allG G β hpD,β,{ defers:=hc.defers,size:=hc.size,env:=?_,envlt:=RdK.lt hc.envlt h,hp:=fun k ob hk'=>?_,hplt:=fun k ob hk=>hc.hplt k ob (hK k ob hk),inj:=fun k k' ob ob' hk hk'=>hc.inj k k' ob ob' (hK k ob hk) (hK k' ob' hk'),lt:=fun b hb=>?_,sub:=fun b hb=>.inl (hc.sub b hb),new:=fun b hb=>?_,fr:=hc.fr,stay:=hc.stay,glob:=hc.glob.keep hk }⟩
 ·intro t;show AVal (allG G β hpD) w β (ofL l t) (a.tmps.getD t undef)
  induction l with
  | nil=>simp only[ofL,AVal]
  | cons p r ih =>
   obtain⟨u,y⟩:=p;simp only[ofL]
   cases e:Nat.beq t u with
   | true =>
    obtain rfl:=Nat.eq_of_beq_eq_true e;rcases h.1 with h1 | h1
    ·rw[h1]; exact(hc.env t).keep hk
    ·exact h1.aval hcD (hc.env t)
   | false=>exact ih h.2
 ·refine(hc.hp k ob (hK k ob hk')).give (fun b h=>.inl h) fun b hb hg=>?_
  rcases hg with hg | ⟨k',ob',h1,h2⟩
  ·exact(row_block (hc.hp k ob (hK k ob hk')) b hb).1 hg
  ·by_cases e:k=k'
   ·subst e; exact dis k ob' ob h1 hk'
   ·exact hc.inj k k' ob ob' (hK k ob hk') (hD k' ob' h1) e b hb h2
 ·rcases hb with hb | ⟨k,ob,h1,h2⟩
  ·exact hc.lt b hb
  ·exact hc.blk_lt (hD k ob h1) h2
 ·rcases hb with hb | ⟨k,ob,h1,h2⟩
  ·exact hc.new b hb
  ·exact .inr (row_block (hc.hp k ob (hD k ob h1)) b h2).2
end Go.Abs
namespace Go.Proofs.Ytgplhldfbkmmgaa
open Go.Abs
def zAQ (k:Int) (t:List UInt8) (c:Int) (v:AV):List AV:=[.s (.int .i64 k),.s (.str t),.s (.int .i64 c),v]
mutual
def At (hp:Nat->Option Ob) (e:Nat) (p:AV):Nd->List Nat->List AV->Nat->Prop
 | .mk k t c ks,keys,pd,w=>∃ v,zAF hp p=some (zAQ k t c v) /\
   ((v = .s (.sl 4 (Nd.encs ks))/\keys=[]/\pd=[p]/\w=Nd.cnts ks+1)∨(ks=[]/\v = .s (.sl 4 [])/\keys=[]/\pd=[]/\w=0) ∨
    ∃ q rows keys',v = .orow q/\hp q=some (.arow e 4 rows)/\rows.length=ks.length/\keys=q::keys'/\LAt hp e q 0 ks keys' pd w)
def LAt (hp:Nat->Option Ob) (e q i:Nat):List Nd->List Nat->List AV->Nat->Prop
 | [],keys,pd,w=>keys=[]/\pd=[]/\w=0
 | t::ts,keys,pd,w=>∃ k1 k2 p1 p2 w1 w2,keys=k1++k2/\pd=p1++p2/\w=w1+w2/\At hp e (.rp q 4 i 0) t k1 p1 w1/\LAt hp e q (i+1) ts k2 p2 w2
end
mutual
theorem At.len {hp:Nat->Option Ob}{e:Nat}{p:AV}:∀ {t:Nd}{keys:List Nat}{pd:List AV}{w:Nat},At hp e p t keys pd w->pd.length<=w/\w<=t.cnt
 | .mk k t c ks,keys,pd,w,h=>by
  simp only[At]at h
  obtain⟨v,_,⟨_,_,rfl,rfl⟩ | ⟨_,_,_,rfl,rfl⟩ | ⟨q,rows,keys',_,_,_,_,h⟩⟩:=h
  ·simp[Nd.cnt]
  ·simp
  ·have:=LAt.len h
   simp only[Nd.cnt]; omega
theorem LAt.len {hp:Nat->Option Ob}{e q i:Nat}:∀ {ts:List Nd}{keys:List Nat}{pd:List AV}{w:Nat},LAt hp e q i ts keys pd w->pd.length<=w/\w<=Nd.cnts ts
 | [],keys,pd,w,h=>by
  simp only[LAt]at h
  obtain⟨_,rfl,rfl⟩:=h
  simp
 | t::ts,keys,pd,w,h=>by
  simp only[LAt]at h
  obtain⟨k1,k2,p1,p2,w1,w2,_,rfl,rfl,h1,h2⟩:=h
  have:=At.len h1
  have:=LAt.len h2
  simp only[Nd.cnts,List.length_append]; omega
end
structure Sim (hp hp':Nat->Option Ob) (e:Nat) (D:Nat->Prop) (p0:AV):Prop where
 row:∀ q rows,D q->hp q=some (.arow e 4 rows)->∃ rows',hp' q=some (.arow e 4 rows')/\rows'.length=rows.length
 cell:∀ p,D (zAW p)->p ≠ p0->isL 4 p->zAF hp' p=zAF hp p
theorem Sim.sub {hp hp':Nat->Option Ob}{e:Nat}{D D':Nat->Prop}{p0:AV} (h:Sim hp hp' e D p0) (hd:∀ q,D' q->D q):Sim hp hp' e D' p0 :=
 ⟨fun q rows hq=>h.row q rows (hd q hq),fun p hp=>h.cell p (hd _ hp)⟩
mutual
theorem At.sameQ {hp hp':Nat->Option Ob}{e:Nat}{p p0:AV}:∀ {t:Nd}{keys:List Nat}{pd:List AV}{w:Nat},At hp e p t keys pd w->isL 4 p->Sim hp hp' e (fun k=>k=zAW p∨k∈keys) p0->p ≠ p0->(∀ q j,q∈keys->AV.rp q 4 j 0 ≠ p0)->At hp' e p t keys pd w
 | .mk k t c ks,keys,pd,w,h,hl,hs,hne,hb=>by
  simp only[At]at h ⊢
  obtain⟨v,hc,h⟩:=h
  refine⟨v,by rw[hs.cell p (.inl rfl) hne hl,hc],?_⟩
  rcases h with h | h | ⟨q,rows,keys',h1,h2,h3,rfl,h5⟩
  ·exact .inl h
  ·exact .inr (.inl h)
  ·obtain⟨rows',h6,h7⟩:=hs.row q rows (.inr List.mem_cons_self) h2
   exact .inr (.inr ⟨q,rows',keys',h1,h6,h7.trans h3,rfl,LAt.sameQ h5 (hs.sub fun k hk=>.inr (List.mem_cons.2 hk)) (fun j _=>hb q j List.mem_cons_self) (fun q' j hm=>hb q' j (List.mem_cons_of_mem _ hm))⟩)
theorem LAt.sameQ {hp hp':Nat->Option Ob}{e q i:Nat}{p0:AV}:∀ {ts:List Nd}{keys:List Nat}{pd:List AV}{w:Nat},LAt hp e q i ts keys pd w->Sim hp hp' e (fun k=>k=q∨k∈keys) p0->(∀ j,i<=j->AV.rp q 4 j 0 ≠ p0)->(∀ q' j,q'∈keys->AV.rp q' 4 j 0 ≠ p0)->LAt hp' e q i ts keys pd w
 | [],_,_,_,h,_,_,_=>h
 | t::ts,keys,pd,w,h,hs,hne,hb=>by
  simp only[LAt]at h ⊢
  obtain⟨k1,k2,p1,p2,w1,w2,rfl,rfl,rfl,h1,h2⟩:=h
  exact⟨k1,k2,p1,p2,w1,w2,rfl,rfl,rfl,
   At.sameQ h1 (.inl ⟨q,i,rfl⟩) (hs.sub fun k hk=>hk.imp id (List.mem_append_left _)) (hne i (Nat.le_refl _)) (fun q' j hm=>hb q' j (List.mem_append_left _ hm)),
   LAt.sameQ h2 (hs.sub fun k hk=>hk.imp id (List.mem_append_right _)) (fun j hj=>hne j (by omega)) (fun q' j hm=>hb q' j (List.mem_append_right _ hm))⟩
end
theorem At.same {hp hp':Nat->Option Ob}{e:Nat}{p p0:AV}{t:Nd}{keys:List Nat}{pd:List AV}{w:Nat} (h:At hp e p t keys pd w) (hl:isL 4 p) (hs:Sim hp hp' e (fun k=>k=zAW p∨k∈keys) p0) (hne:p ≠ p0) (hb:zAW p0 ∉ keys):At hp' e p t keys pd w :=
 h.sameQ hl hs hne fun q j hm e=>hb (by rw[← e]; exact hm)
theorem LAt.same {hp hp':Nat->Option Ob}{e q i:Nat}{p0:AV}{ts:List Nd}{keys:List Nat}{pd:List AV}{w:Nat} (h:LAt hp e q i ts keys pd w) (hs:Sim hp hp' e (fun k=>k=q∨k∈keys) p0) (hne:∀ j,i<=j->AV.rp q 4 j 0 ≠ p0) (hb:zAW p0 ∉ keys):LAt hp' e q i ts keys pd w :=
 h.sameQ hs hne fun q j hm e=>hb (by rw[← e]; exact hm)
theorem Sim.same {hp hp':Nat->Option Ob}{e:Nat}{D:Nat->Prop}{p0:AV} (h:∀ k,D k->hp' k=hp k):Sim hp hp' e D p0 :=
 ⟨fun q rows hq hr=>⟨rows,(h q hq).trans hr,rfl⟩,fun p hp _ hl=>zBr hl (h _ hp)⟩
theorem At.frame {hp hp':Nat->Option Ob}{e:Nat}{p:AV}{t:Nd}{keys:List Nat}{pd:List AV}{w:Nat} (h:At hp e p t keys pd w) (hl:isL 4 p) (hs:∀ k,k=zAW p∨k∈keys->hp' k=hp k):At hp' e p t keys pd w :=
 h.sameQ hl (Sim.same (p0:=.junk) hs) (fun e=>by rcases hl with ⟨_,_,rfl⟩ | ⟨_,rfl⟩ <;> cases e) (fun q j _ e=>by cases e)
mutual
theorem At.base {hp:Nat->Option Ob}{e:Nat}{p p0:AV}:∀ {t:Nd}{keys:List Nat}{pd:List AV}{w:Nat},At hp e p t keys pd w->p0∈pd->p0=p∨zAW p0∈keys
 | .mk k t c ks,keys,pd,w,h,hm=>by
  simp only[At]at h
  obtain⟨v,_,⟨_,_,rfl,_⟩ | ⟨_,_,_,rfl,_⟩ | ⟨q,rows,keys',_,_,_,rfl,h⟩⟩:=h
  ·exact .inl (List.mem_singleton.1 hm)
  ·cases hm
  ·rcases LAt.base h hm with ⟨j,_,rfl⟩ | h
   ·exact .inr List.mem_cons_self
   ·exact .inr (List.mem_cons_of_mem _ h)
theorem LAt.base {hp:Nat->Option Ob}{e q i:Nat}{p0:AV}:∀ {ts:List Nd}{keys:List Nat}{pd:List AV}{w:Nat},LAt hp e q i ts keys pd w->p0∈pd->(∃ j,i<=j/\p0 = .rp q 4 j 0)∨zAW p0∈keys
 | [],keys,pd,w,h,hm=>by
  simp only[LAt]at h
  obtain⟨_,rfl,_⟩:=h
  cases hm
 | t::ts,keys,pd,w,h,hm=>by
  simp only[LAt]at h
  obtain⟨k1,k2,p1,p2,w1,w2,rfl,rfl,rfl,h1,h2⟩:=h
  rcases List.mem_append.1 hm with hm | hm
  ·rcases At.base h1 hm with rfl | hm
   ·exact .inl ⟨i,Nat.le_refl _,rfl⟩
   ·exact .inr (List.mem_append_left _ hm)
  ·rcases LAt.base h2 hm with ⟨j,hj,hm⟩ | hm
   ·exact .inl ⟨j,by omega,hm⟩
   ·exact .inr (List.mem_append_right _ hm)
end
mutual
theorem At.loc {hp:Nat->Option Ob}{e:Nat}{p p0:AV}:∀ {t:Nd}{keys:List Nat}{pd:List AV}{w:Nat},At hp e p t keys pd w->isL 4 p->p0∈pd->isL 4 p0
 | .mk k t c ks,keys,pd,w,h,hl,hm=>by
  simp only[At]at h
  obtain⟨v,_,⟨_,_,rfl,_⟩ | ⟨_,_,_,rfl,_⟩ | ⟨q,rows,keys',_,_,_,rfl,h⟩⟩:=h
  ·rw[List.mem_singleton.1 hm]; exact hl
  ·cases hm
  ·exact LAt.loc h hm
theorem LAt.loc {hp:Nat->Option Ob}{e q i:Nat}{p0:AV}:∀ {ts:List Nd}{keys:List Nat}{pd:List AV}{w:Nat},LAt hp e q i ts keys pd w->p0∈pd->isL 4 p0
 | [],keys,pd,w,h,hm=>by
  simp only[LAt]at h
  obtain⟨_,rfl,_⟩:=h
  cases hm
 | t::ts,keys,pd,w,h,hm=>by
  simp only[LAt]at h
  obtain⟨k1,k2,p1,p2,w1,w2,rfl,rfl,rfl,h1,h2⟩:=h
  rcases List.mem_append.1 hm with hm | hm
  ·exact At.loc h1 (.inl ⟨q,i,rfl⟩) hm
  ·exact LAt.loc h2 hm
end
theorem zO4 {α:Type}{a b S:List α}{x:α} (h:a++b=S++[x]):(b=[]/\a=S++[x])∨∃ S2,b=S2++[x]/\S=a++S2:=by
 rcases List.eq_nil_or_concat b with rfl | ⟨b',y,rfl⟩
 ·exact .inl ⟨rfl,by simpa using h⟩
 ·rw[List.concat_eq_append,← List.append_assoc]at h;have:=List.append_inj' h rfl;obtain⟨h1,h2⟩:=this;cases h2;exact .inr ⟨b',List.concat_eq_append,h1.symm⟩
def Repl (hp:Nat->Option Ob) (e:Nat) (p0:AV) (S:List AV) (w:Nat) (D:Nat->Prop) (keys:List Nat) (P:(Nat->Option Ob)->List Nat->List AV->Nat->Prop):Prop :=
 ∃ t0 w0,At hp e p0 t0 [] [p0] t0.cnt/\w=w0+t0.cnt/\∀ hp' new ch w',Sim hp hp' e D p0->At hp' e p0 t0 new ch w'->∃ keys2,keys2.Perm (keys++new)/\P hp' keys2 (S++ch) (w0+w')
theorem zPm {a b n:List Nat}{k2:List Nat} (h:k2.Perm (a++n)):(k2++b).Perm (a++b++n) :=
 (h.append_right b).trans (by rw[List.append_assoc,List.append_assoc]; exact(List.perm_append_comm).append_left a)
mutual
theorem At.repl {hp:Nat->Option Ob}{e:Nat}{p p0:AV}{S:List AV}:∀ {t:Nd}{keys:List Nat}{w:Nat},At hp e p t keys (S++[p0]) w->isL 4 p->(zAW p::keys).Nodup ->
  Repl hp e p0 S w (fun k=>k=zAW p∨k∈keys) keys fun hp' keys2 pd w=>At hp' e p t keys2 pd w
 | .mk k t c ks,keys,w,h,hl,hn=>by
  have h0:=h
  simp only[At]at h
  obtain⟨v,hc,⟨rfl,rfl,h2,rfl⟩ | ⟨_,_,_,h2,_⟩ | ⟨q,rows,keys',rfl,hq,hlen,rfl,h⟩⟩:=h
  ·cases S with
   | cons x S=>cases S <;> simp at h2
   | nil =>
    obtain rfl:p0=p:=by simpa using h2
    refine⟨.mk k t c ks,0,h0,by simp[Nd.cnt],fun hp' new ch w' _ ha=>⟨new,by simp,by simpa using ha⟩⟩
  ·simp at h2
  ·have hn2:=List.nodup_cons.1 hn
   have hb:zAW p0∈q::keys':=by
    rcases LAt.base h (p0:=p0) (by simp) with ⟨j,_,rfl⟩ | h
    ·exact List.mem_cons_self
    ·exact List.mem_cons_of_mem _ h
   have hne:p ≠ p0:=fun e=>hn2.1 (by rw[e]; exact hb)
   obtain⟨t0,w0,r1,r2,r3⟩:=LAt.repl h hn2.2
   refine⟨t0,w0,r1,r2,fun hp' new ch w' hs ha=>?_⟩
   obtain⟨rows',h6,h7⟩:=hs.row q rows (.inr List.mem_cons_self) hq
   obtain⟨keys2,hp2,hl2⟩:=r3 hp' new ch w' (hs.sub fun k hk=>.inr (List.mem_cons.2 hk)) ha
   refine⟨q::keys2,by simpa using hp2,?_⟩
   simp only[At]
   exact⟨.orow q,by rw[hs.cell p (.inl rfl) hne hl,hc],.inr (.inr ⟨q,rows',keys2,rfl,h6,h7.trans hlen,rfl,hl2⟩)⟩
theorem LAt.repl {hp:Nat->Option Ob}{e q i:Nat}{p0:AV}{S:List AV}:∀ {ts:List Nd}{keys:List Nat}{w:Nat},LAt hp e q i ts keys (S++[p0]) w->(q::keys).Nodup ->
  Repl hp e p0 S w (fun k=>k=q∨k∈keys) keys fun hp' keys2 pd w=>LAt hp' e q i ts keys2 pd w
 | [],keys,w,h,hn=>by
  simp only[LAt]at h
  simp at h
 | t::ts,keys,w,h,hn=>by
  simp only[LAt]at h
  obtain⟨k1,k2,p1,p2,w1,w2,rfl,hpd,rfl,h1,h2⟩:=h
  obtain⟨hq,hn2⟩:=List.nodup_cons.1 hn
  obtain⟨n1,n2,n12⟩:=List.nodup_append.1 hn2
  have hq1:q ∉ k1:=fun h=>hq (List.mem_append_left _ h)
  have hq2:q ∉ k2:=fun h=>hq (List.mem_append_right _ h)
  rcases zO4 hpd.symm with ⟨rfl,rfl⟩ | ⟨S2,rfl,rfl⟩
  ·have hb:=At.base h1 (p0:=p0) (by simp)
   obtain⟨t0,w0,r1,r2,r3⟩:=At.repl h1 (.inl ⟨q,i,rfl⟩) (List.nodup_cons.2 ⟨hq1,n1⟩)
   refine⟨t0,w0+w2,r1,by omega,fun hp' new ch w' hs ha=>?_⟩
   obtain⟨keys2,hp2,hl2⟩:=r3 hp' new ch w' (hs.sub fun k hk=>hk.imp id (List.mem_append_left _)) ha
   refine⟨keys2++k2,zPm hp2,?_⟩
   simp only[LAt]
   refine⟨keys2,k2,S++ch,[],w0+w',w2,rfl,by simp,by omega,hl2,?_⟩
   refine LAt.same h2 (hs.sub fun k hk=>hk.imp id (List.mem_append_right _)) (fun j hj e=>?_) (fun hm=>?_)
   ·rcases hb with rfl | hb
    ·cases e; omega
    ·rw[← e]at hb; exact hq1 hb
   ·rcases hb with rfl | hb
    ·exact hq2 hm
    ·exact n12 _ hb _ hm rfl
  ·have hb:=LAt.base h2 (p0:=p0) (by simp)
   obtain⟨t0,w0,r1,r2,r3⟩:=LAt.repl h2 (List.nodup_cons.2 ⟨hq2,n2⟩)
   refine⟨t0,w1+w0,r1,by omega,fun hp' new ch w' hs ha=>?_⟩
   obtain⟨keys2,hp2,hl2⟩:=r3 hp' new ch w' (hs.sub fun k hk=>hk.imp id (List.mem_append_right _)) ha
   refine⟨k1++keys2,by rw[List.append_assoc]; exact hp2.append_left k1,?_⟩
   simp only[LAt]
   refine⟨k1,keys2,p1,S2++ch,w1,w0+w',rfl,by simp,by omega,?_,hl2⟩
   refine At.same h1 (.inl ⟨q,i,rfl⟩) (hs.sub fun k hk=>hk.imp id (List.mem_append_left _)) (fun e=>?_) (fun hm=>?_)
   ·rcases hb with ⟨j,hj,hb⟩ | hb
    ·rw[hb]at e; cases e; omega
    ·rw[← e]at hb; exact hq2 hb
   ·rcases hb with ⟨j,hj,rfl⟩ | hb
    ·exact hq1 hm
    ·exact n12 _ hm _ hb rfl
end
theorem Sim.put {hp hp':Nat->Option Ob}{e:Nat}{D:Nat->Prop}{p0:AV}{c cs:List AV} (hl:isL 4 p0) (hc:zAF hp p0=some cs) (h:∀ k,D k->hp' k=putC hp p0 c k):Sim hp hp' e D p0 :=
 ⟨fun q rows hq hr=>by rw[h q hq]; exact zPo hl hc hr,fun p hp hne hl'=>(zBr hl' (h _ hp)).trans (zOF hl hc hl' hne)⟩
def locs (q i n:Nat):List AV:=(List.range' i n).map fun j=>.rp q 4 j 0
theorem LAt.fresh {hp:Nat->Option Ob}{e q:Nat}:∀ {ts:List Nd}{i:Nat},(∀ j x,ts[j]? = some x->zAF hp (.rp q 4 (i+j) 0)=some (x.enc.map AV.s))->LAt hp e q i ts [] (locs q i ts.length) (Nd.cnts ts)
 | [],i,_=>by simp[LAt,locs,Nd.cnts]
 | .mk k t c ks::ts,i,h=>by
  simp only[LAt]
  refine⟨[],[],[.rp q 4 i 0],locs q (i+1) ts.length,Nd.cnts ks+1,Nd.cnts ts,rfl,by simp[locs,List.range'_succ],by simp[Nd.cnts,Nd.cnt],?_,LAt.fresh fun j x hj=>?_⟩
  ·simp only[At]
   exact⟨.s (.sl 4 (Nd.encs ks)),h 0 (.mk k t c ks) rfl,.inl (by simp)⟩
  ·rw[show i+1+j=i+(j+1) by omega]; exact h (j+1) x (by simpa using hj)
theorem LAt.copied {hp:Nat->Option Ob}{e q:Nat}{ts:List Nd} (h:hp q=some (.arow e 4 ((Nd.encs ts).map (·.map AV.s)))):LAt hp e q 0 ts [] (locs q 0 ts.length) (Nd.cnts ts) :=
 LAt.fresh fun j x hj=>by
  rw[zD0 h,Nat.zero_add,Nd.encs_eq,List.map_map,List.getElem?_map,hj]; rfl
theorem zM6 {hp:Nat->Option Ob}:∀ {rows:List (List AV)}{rs:List (List S)},(∀ (j:Nat) r s,rows[j]? = some r->rs[j]? = some s->r.length=s.length/\∀ (i:Nat) x y,r[i]? = some x->s[i]? = some y->Rd hp x y)->∀ (i:Nat) x y,rows.flatten[i]? = some x->rs.flatten[i]? = some y->Rd hp x y
 | [],_,_,_,_,_,h,_=>by simp at h
 | _::_,[],_,_,_,_,_,h=>by simp at h
 | r::rows,s::rs,h,i,x,y,hx,hy=>by
  obtain⟨hl,h0⟩:=h 0 r s (by simp) (by simp)
  rw[List.flatten_cons,List.getElem?_append]at hx hy
  by_cases hi:i<r.length
  ·rw[if_pos hi]at hx;rw[if_pos (hl ▸ hi)]at hy;exact h0 i x y hx hy
  ·rw[if_neg hi]at hx;rw[if_neg (hl ▸ hi),← hl]at hy;exact zM6 (fun j r s hr hs=>h (j+1) r s (by simpa using hr) (by simpa using hs)) _ x y hx hy
def RdC (hp:Nat->Option Ob) (cs:List AV) (ss:List S):Prop:=cs.length=ss.length/\∀ (i:Nat) x y,cs[i]? = some x->ss[i]? = some y->Rd hp x y
theorem RdC.node {hp:Nat->Option Ob}{k:Int}{t:List UInt8}{c:Int}{ks:List Nd}{v:AV} (h:Rd hp v (.sl 4 (Nd.encs ks))):RdC hp (zAQ k t c v) (Nd.enc (.mk k t c ks)) :=
 ⟨rfl,fun i x y hx hy=>by
  match i with
  | 0=>cases hx; cases hy; exact .s _
  | 1=>cases hx; cases hy; exact .s _
  | 2=>cases hx; cases hy; exact .s _
  | 3=>cases hx; cases hy; exact h
  | i+4=>simp[zAQ]at hx⟩
theorem Rd.rows {hp:Nat->Option Ob}{q e:Nat}{rows:List (List AV)}{ks:List Nd} (hq:hp q=some (.arow e 4 rows)) (hl:rows.length=ks.length) (h:∀ j x,ks[j]? = some x->∃ cs,zAF hp (.rp q 4 j 0)=some cs/\RdC hp cs x.enc):Rd hp (.orow q) (.sl 4 (Nd.encs ks)):=by
 rw[Nd.encs_eq]
 refine .arow hq (by simpa using hl) (fun r hr=>?_) (zM6 fun j r s hr hs=>?_)
 ·obtain⟨x,_,rfl⟩:=List.mem_map.1 hr;cases x; rfl
 ·rw[List.getElem?_map]at hs;cases hx:ks[j]? with
  | none=>rw[hx]at hs; cases hs
  | some x =>
   rw[hx]at hs; cases hs
   obtain⟨cs,h1,h2⟩:=h j x hx;rw[zD0 hq,hr]at h1;cases h1;exact h2
mutual
theorem At.rd {hp:Nat->Option Ob}{e:Nat}{p:AV}:∀ {t:Nd}{keys:List Nat}{pd:List AV}{w:Nat},At hp e p t keys pd w->∃ cs,zAF hp p=some cs/\RdC hp cs t.enc
 | .mk k t c ks,keys,pd,w,h=>by
  simp only[At]at h
  obtain⟨v,hc,⟨rfl,_⟩ | ⟨rfl,rfl,_⟩ | ⟨q,rows,keys',rfl,hq,hlen,rfl,h⟩⟩:=h
  ·exact⟨_,hc,.node (.s _)⟩
  ·exact⟨_,hc,.node (.s _)⟩
  ·exact⟨_,hc,.node (Rd.rows hq hlen fun j x hj=>(by have:=LAt.rd h j x hj; rwa [Nat.zero_add]at this))⟩
theorem LAt.rd {hp:Nat->Option Ob}{e q i:Nat}:∀ {ts:List Nd}{keys:List Nat}{pd:List AV}{w:Nat},LAt hp e q i ts keys pd w->∀ j x,ts[j]? = some x->∃ cs,zAF hp (.rp q 4 (i+j) 0)=some cs/\RdC hp cs x.enc
 | [],keys,pd,w,h,j,x,hj=>by simp at hj
 | t::ts,keys,pd,w,h,0,x,hj=>by
  simp only[LAt]at h
  obtain⟨k1,k2,p1,p2,w1,w2,rfl,rfl,rfl,h1,h2⟩:=h
  cases hj
  exact At.rd h1
 | t::ts,keys,pd,w,h,j+1,x,hj=>by
  simp only[LAt]at h
  obtain⟨k1,k2,p1,p2,w1,w2,rfl,rfl,rfl,h1,h2⟩:=h
  rw[show i+(j+1)=i+1+j by omega]
  exact LAt.rd h2 j x (by simpa using hj)
end
theorem zPr {hp:Nat->Option Ob}{cs:List AV}{t:Nd} (h:RdC hp cs t.enc):RdV hp (.agg cs) (.agg (t.enc.map AV.s)):=by
 refine⟨by simpa using h.1,fun i x y hx hy=>?_⟩
 rw[List.getElem?_map]at hy;cases hs:t.enc[i]? with
 | none=>rw[hs]at hy; cases hy
 | some s=>rw[hs]at hy; cases hy; exact⟨s,rfl,h.2 i x s hx hs⟩
def Hole (hp:Nat->Option Ob) (e:Nat) (p:AV) (keys:List Nat) (p1:AV) (y:Nd) (F:Nd->Nd):Prop :=
 ∃ keys0 rest w0,keys.Perm (keys0++rest)/\At hp e p1 y keys0 [] w0/\isL 4 p1/\(p1=p∨zAW p1∈rest) /\
  ∀ hp' t1 new w1,Sim hp hp' e (fun k=>k=zAW p∨k∈rest) p1->At hp' e p1 t1 new [] w1->∃ keys2 w2,keys2.Perm (rest++new)/\At hp' e p (F t1) keys2 [] w2
theorem Hole.refl {hp:Nat->Option Ob}{e w:Nat}{p:AV}{t:Nd}{keys:List Nat} (h:At hp e p t keys [] w) (hl:isL 4 p):Hole hp e p keys p t id :=
 ⟨keys,[],w,by simp,h,hl,.inl rfl,fun hp' t1 new w1 _ h1=>⟨new,w1,by simp,h1⟩⟩
theorem LAt.hole {hp:Nat->Option Ob}{e q:Nat}{x:Nd}:∀ {ts:List Nd}{keys:List Nat}{w i j:Nat},LAt hp e q i ts keys [] w->(q::keys).Nodup->ts[j]? = some x ->
  ∃ keys0 rest w0,keys.Perm (keys0++rest)/\At hp e (.rp q 4 (i+j) 0) x keys0 [] w0/\∀ hp' t1 new w1,Sim hp hp' e (fun k=>k=q∨k∈rest) (.rp q 4 (i+j) 0)->At hp' e (.rp q 4 (i+j) 0) t1 new [] w1 ->
   ∃ keys2 w2,keys2.Perm (rest++new)/\LAt hp' e q i (ts.set j t1) keys2 [] w2
 | [],keys,w,i,j,h,hn,hx=>by simp at hx
 | t::ts,keys,w,i,0,h,hn,hx=>by
  simp only[LAt]at h;obtain⟨k1,k2,p1,p2,w1,w2,rfl,hpd,rfl,h1,h2⟩:=h;obtain⟨rfl,rfl⟩:=List.append_eq_nil_iff.1 hpd.symm;cases hx;have hq:=(List.nodup_cons.1 hn).1;refine⟨k1,k2,w1,List.Perm.refl _,h1,fun hp' t1 new w3 hs h3=>⟨new++k2,w3+w2,List.perm_append_comm,?_⟩⟩
  simp only[List.set_cons_zero,LAt]
  exact⟨new,k2,[],[],w3,w2,rfl,rfl,rfl,h3,LAt.same h2 hs (fun j hj e=>by cases e; omega) (fun hm=>hq (List.mem_append_right _ hm))⟩
 | t::ts,keys,w,i,j+1,h,hn,hx=>by
  simp only[LAt]at h;obtain⟨k1,k2,p1,p2,w1,w2,rfl,hpd,rfl,h1,h2⟩:=h;obtain⟨rfl,rfl⟩:=List.append_eq_nil_iff.1 hpd.symm;obtain⟨hq,hn2⟩:=List.nodup_cons.1 hn;obtain⟨n1,n2,_⟩:=List.nodup_append.1 hn2;obtain⟨keys0,rest,w0,r1,r2,r3⟩:=LAt.hole (i:=i+1) (j:=j) h2 (List.nodup_cons.2 ⟨fun hm=>hq (List.mem_append_right _ hm),n2⟩) (by simpa using hx)
  rw[show i+1+j=i+(j+1) by omega]at r2 r3;refine⟨keys0,k1++rest,w0,List.perm_iff_count.2 fun a=>?_,r2,fun hp' t1 new w3 hs h3=>?_⟩
  ·have:=r1.count_eq a;simp only[List.count_append]at this ⊢
   omega
  ·obtain⟨keys2,w4,q1,q2⟩:=r3 hp' t1 new w3 (hs.sub fun k hk=>hk.imp id (List.mem_append_right _)) h3;refine⟨k1++keys2,w1+w4,by rw[List.append_assoc]; exact q1.append_left k1,?_⟩
   simp only[List.set_cons_succ,LAt]
   exact⟨k1,keys2,[],[],w1,w4,rfl,rfl,rfl,At.same h1 (.inl ⟨q,i,rfl⟩) (hs.sub fun k hk=>hk.imp id (List.mem_append_left _)) (fun e=>by injection e with e1 e2 e3 e4; omega) (fun hm=>hq (List.mem_append_left _ hm)),q2⟩
theorem Hole.kid {hp:Nat->Option Ob}{e w i:Nat}{p:AV}{k c:Int}{tx:List UInt8}{ks:List Nd}{x:Nd}{keys:List Nat} (h:At hp e p (.mk k tx c ks) keys [] w) (hl:isL 4 p) (hn:(zAW p::keys).Nodup) (hx:ks[i]? = some x) :
  ∃ q rows,zAF hp p=some (zAQ k tx c (.orow q))/\hp q=some (.arow e 4 rows)/\rows.length=ks.length/\Hole hp e p keys (.rp q 4 i 0) x (fun x'=>.mk k tx c (ks.set i x')):=by
 simp only[At]at h;obtain⟨v,hc,⟨_,_,h,_⟩ | ⟨rfl,_⟩ | ⟨q,rows,keys',rfl,hq,hlen,rfl,h⟩⟩:=h
 ·cases h
 ·simp at hx
 ·obtain⟨hb,hn2⟩:=List.nodup_cons.1 hn;obtain⟨keys0,rest,w0,r1,r2,r3⟩:=LAt.hole h hn2 hx;rw[Nat.zero_add]at r2 r3;refine⟨q,rows,hc,hq,hlen,keys0,q::rest,w0,List.perm_iff_count.2 fun a=>?_,r2,.inl ⟨q,i,rfl⟩,.inr List.mem_cons_self,fun hp' t1 new w1 hs h1=>?_⟩
  ·have:=r1.count_eq a;simp only[List.count_append,List.count_cons]at this ⊢
   omega
  ·obtain⟨rows',g1,g2⟩:=hs.row q rows (.inr List.mem_cons_self) hq;obtain⟨keys2,w2,q1,q2⟩:=r3 hp' t1 new w1 (hs.sub fun k hk=>.inr (List.mem_cons.2 hk)) h1;refine⟨q::keys2,w2,by simpa using q1,?_⟩
   simp only[At]
   refine⟨.orow q,by rw[hs.cell p (.inl rfl) (fun e=>hb (by rw[e]; exact List.mem_cons_self)) hl,hc],.inr (.inr ⟨q,rows',keys2,rfl,g1,by rw[g2,hlen,List.length_set],rfl,q2⟩)⟩
theorem Hole.trans {hp:Nat->Option Ob}{e:Nat}{p p1 p2:AV}{y z:Nd}{keys:List Nat}{F F2:Nd->Nd} (hn:(zAW p::keys).Nodup) (h:Hole hp e p keys p1 y F) (k:∀ keys0 w0,At hp e p1 y keys0 [] w0->isL 4 p1->(zAW p1::keys0).Nodup->Hole hp e p1 keys0 p2 z F2):Hole hp e p keys p2 z (fun x=>F (F2 x)):=by
 obtain⟨keys0,rest,w0,a1,a2,a3,a4,a5⟩:=h;obtain⟨hb,hnk⟩:=List.nodup_cons.1 hn;obtain⟨n0,n1,n01⟩:=List.nodup_append.1 (a1.nodup_iff.1 hnk)
 have hb1:zAW p1 ∉ keys0:=fun hm=>by
  rcases a4 with rfl | a4
  ·exact hb (a1.mem_iff.2 (List.mem_append_left _ hm))
  ·exact n01 _ hm _ a4 rfl
 obtain⟨keys1,rest1,w1,b1,b2,b3,b4,b5⟩:=k keys0 w0 a2 a3 (List.nodup_cons.2 ⟨hb1,n0⟩)
 refine⟨keys1,rest1++rest,w1,List.perm_iff_count.2 fun a=>?_,b2,b3,?_,fun hp' t1 new w2 hs h2=>?_⟩
 ·have:=a1.count_eq a;have:=b1.count_eq a;simp only[List.count_append]at *
  omega
 ·rcases b4 with rfl | b4
  ·exact a4.imp id (List.mem_append_right _)
  ·exact .inr (List.mem_append_left _ b4)
 ·have hp1:zAW p1=zAW p∨zAW p1∈rest:=a4.imp (fun e=>by rw[e]) id;obtain⟨keysA,wA,q1,q2⟩:=b5 hp' t1 new w2 (hs.sub fun k hk=>by
   rcases hk with rfl | hk
   ·exact hp1.imp id (List.mem_append_right _)
   ·exact .inr (List.mem_append_left _ hk)) h2
  have hs1:Sim hp hp' e (fun k=>k=zAW p∨k∈rest) p1:=⟨fun q rows hq=>hs.row q rows (hq.imp id (List.mem_append_right _)),fun p' hp' hne hl'=>by
   by_cases e2:p'=p2
   ·subst e2;rcases b4 with b4 | b4
    ·exact absurd b4 hne
    ·exfalso
     have hm:zAW p'∈keys0:=b1.mem_iff.2 (List.mem_append_right _ b4)
     rcases hp' with h3 | h3
     ·exact hb (a1.mem_iff.2 (List.mem_append_left _ (by rw[← h3]; exact hm)))
     ·exact n01 _ hm _ h3 rfl
   ·exact hs.cell p' (hp'.imp id (List.mem_append_right _)) e2 hl'⟩
  obtain⟨keysB,wB,q3,q4⟩:=a5 hp' (F2 t1) keysA wA hs1 q2;refine⟨keysB,wB,List.perm_iff_count.2 fun a=>?_,q4⟩
  have:=q1.count_eq a;have:=q3.count_eq a;simp only[List.count_append]at *
  omega
def tab:List (Nat×TI):=[
 (3,⟨.int .i64,1,8,[.int .i64 0]⟩),
 (4,⟨.bool,1,1,[.bool false]⟩),
 (9,⟨.str,1,16,[.str []]⟩),
 (22,⟨.slice 24,1,24,[.sl 4 []]⟩),
 (24,⟨.struct [(0,3),(1,9),(2,3),(3,22)],4,56,[.int .i64 0,.str [],.int .i64 0,.sl 4 []]⟩)]
def T (t:Nat):Option TI:=look? t tab
theorem zQu:∀ p∈tab,okT Try.prog p.1 p.2:=by
 simp only[tab,List.forall_mem_cons]
 refine⟨?_,?_,?_,?_,?_,by simp⟩
 ·exact⟨_,Try.t3,_,Try.underlying3,rfl,by kernel_rfl,rfl,rfl,rfl,rfl,rfl,fun _=>rfl,rfl⟩
 ·exact⟨_,Try.t4,_,Try.underlying4,rfl,by kernel_rfl,rfl,rfl,rfl,rfl,rfl,fun _=>rfl,rfl⟩
 ·exact⟨_,Try.t9,_,Try.underlying9,rfl,by kernel_rfl,rfl,rfl,rfl,rfl,rfl,fun _=>rfl,rfl⟩
 ·exact⟨_,Try.t22,_,Try.underlying22,rfl,by kernel_rfl,rfl,rfl,rfl,rfl,rfl,fun _=>rfl,rfl⟩
 ·exact⟨_,Try.t24,_,Try.underlying24,rfl,by kernel_rfl,rfl,rfl,rfl,rfl,rfl,(fun h=>by cases h),rfl⟩
theorem tok:TOk Try.prog T:=zPO zQu
theorem tcl:∀ t i,T t=some i->zCo T i=true:=zOi (by rfl)
def tabX:List (Nat×TI):=[
 (5,⟨.int .u8,1,1,[.int .u8 0]⟩),
 (27,⟨.ptr 50,1,8,[.np]⟩),
 (28,⟨.slice 85,1,24,[.sl 5 []]⟩),
 (30,⟨.struct [(0,9),(1,24),(5,28),(6,3)],7,104,[.str [],.int .i64 0,.str [],.int .i64 0,.sl 4 [],.sl 5 [],.int .i64 0]⟩),
 (31,⟨.int .i64,1,8,[.int .i64 0]⟩),
 (36,⟨.fn,1,8,[.nf]⟩),
 (37,⟨.fn,1,8,[.nf]⟩),
 (39,⟨.slice 5,1,24,[.sl 1 []]⟩),
 (50,⟨.struct [(0,24),(4,24),(8,28),(9,3)],10,144,[.int .i64 0,.str [],.int .i64 0,.sl 4 [],.int .i64 0,.str [],.int .i64 0,.sl 4 [],.sl 5 [],.int .i64 0]⟩),
 (53,⟨.slice 55,1,24,[.sl 4 []]⟩),
 (55,⟨.struct [(0,3),(1,3),(2,9),(3,53)],4,56,[.int .i64 0,.int .i64 0,.str [],.sl 4 []]⟩),
 (57,⟨.int .u64,1,8,[.int .u64 0]⟩),
 (62,⟨.ptr 68,1,8,[.np]⟩),
 (64,⟨.struct [(0,9),(1,3),(2,36)],3,32,[.str [],.int .i64 0,.nf]⟩),
 (65,⟨.arr 13 64,39,416,[.str [],.int .i64 0,.nf,.str [],.int .i64 0,.nf,.str [],.int .i64 0,.nf,.str [],.int .i64 0,.nf,.str [],.int .i64 0,.nf,.str [],.int .i64 0,.nf,.str [],.int .i64 0,.nf,.str [],.int .i64 0,.nf,.str [],.int .i64 0,.nf,.str [],.int .i64 0,.nf,.str [],.int .i64 0,.nf,.str [],.int .i64 0,.nf,.str [],.int .i64 0,.nf]⟩),
 (68,⟨.struct [(0,65),(39,3)],40,424,[.str [],.int .i64 0,.nf,.str [],.int .i64 0,.nf,.str [],.int .i64 0,.nf,.str [],.int .i64 0,.nf,.str [],.int .i64 0,.nf,.str [],.int .i64 0,.nf,.str [],.int .i64 0,.nf,.str [],.int .i64 0,.nf,.str [],.int .i64 0,.nf,.str [],.int .i64 0,.nf,.str [],.int .i64 0,.nf,.str [],.int .i64 0,.nf,.str [],.int .i64 0,.nf,.int .i64 0]⟩),
 (70,⟨.ptr 24,1,8,[.np]⟩),
 (71,⟨.slice 70,1,24,[.sl 1 []]⟩),
 (74,⟨.ptr 55,1,8,[.np]⟩),
 (77,⟨.fn,1,8,[.nf]⟩),
 (78,⟨.fn,1,8,[.nf]⟩),
 (80,⟨.slice 97,1,24,[.sl 8 []]⟩),
 (81,⟨.slice 3,1,24,[.sl 1 []]⟩),
 (83,⟨.struct [(0,81),(1,81)],2,48,[.sl 1 [],.sl 1 []]⟩),
 (85,⟨.struct [(0,80),(1,83),(3,83)],5,120,[.sl 8 [],.sl 1 [],.sl 1 [],.sl 1 [],.sl 1 []]⟩),
 (86,⟨.fn,1,8,[.nf]⟩),
 (97,⟨.struct [(0,3),(1,81),(2,3),(3,3),(4,22),(5,3),(6,9),(7,9)],8,112,[.int .i64 0,.sl 1 [],.int .i64 0,.int .i64 0,.sl 4 [],.int .i64 0,.str [],.str []]⟩),
 (98,⟨.fn,1,8,[.nf]⟩),
 (118,⟨.struct [(0,97),(8,22)],9,136,[.int .i64 0,.sl 1 [],.int .i64 0,.int .i64 0,.sl 4 [],.int .i64 0,.str [],.str [],.sl 4 []]⟩),
 (122,⟨.int .u64,1,8,[.int .u64 0]⟩),
 (135,⟨.int .u32,1,4,[.int .u32 0]⟩),
 (138,⟨.slice 22,1,24,[.sl 1 []]⟩)]
theorem zQt:∀ p∈tabX,okT Try.prog p.1 p.2:=by
 simp only[tabX,List.forall_mem_cons]
 refine⟨?_,?_,?_,?_,?_,?_,?_,?_,?_,?_,?_,?_,?_,?_,?_,?_,?_,?_,?_,?_,?_,?_,?_,?_,?_,?_,?_,?_,?_,?_,?_,?_,by simp⟩
 ·exact⟨_,Try.t5,_,Try.underlying5,rfl,by kernel_rfl,rfl,rfl,rfl,rfl,rfl,fun _=>rfl,rfl⟩
 ·exact⟨_,Try.t27,_,Try.underlying27,rfl,by kernel_rfl,rfl,rfl,rfl,rfl,rfl,fun _=>rfl,rfl⟩
 ·exact⟨_,Try.t28,_,Try.underlying28,rfl,by kernel_rfl,rfl,rfl,rfl,rfl,rfl,fun _=>rfl,rfl⟩
 ·exact⟨_,Try.t30,_,Try.underlying30,rfl,by kernel_rfl,rfl,rfl,rfl,rfl,rfl,(fun h=>by cases h),rfl⟩
 ·exact⟨_,Try.t31,_,Try.underlying31,rfl,by kernel_rfl,rfl,rfl,rfl,rfl,rfl,fun _=>rfl,rfl⟩
 ·exact⟨_,Try.t36,_,Try.underlying36,rfl,by kernel_rfl,rfl,rfl,rfl,rfl,rfl,fun _=>rfl,rfl⟩
 ·exact⟨_,Try.t37,_,Try.underlying37,rfl,by kernel_rfl,rfl,rfl,rfl,rfl,rfl,fun _=>rfl,rfl⟩
 ·exact⟨_,Try.t39,_,Try.underlying39,rfl,by kernel_rfl,rfl,rfl,rfl,rfl,rfl,fun _=>rfl,rfl⟩
 ·exact⟨_,Try.t50,_,Try.underlying50,rfl,by kernel_rfl,rfl,rfl,rfl,rfl,rfl,(fun h=>by cases h),rfl⟩
 ·exact⟨_,Try.t53,_,Try.underlying53,rfl,by kernel_rfl,rfl,rfl,rfl,rfl,rfl,fun _=>rfl,rfl⟩
 ·exact⟨_,Try.t55,_,Try.underlying55,rfl,by kernel_rfl,rfl,rfl,rfl,rfl,rfl,(fun h=>by cases h),rfl⟩
 ·exact⟨_,Try.t57,_,Try.underlying57,rfl,by kernel_rfl,rfl,rfl,rfl,rfl,rfl,fun _=>rfl,rfl⟩
 ·exact⟨_,Try.t62,_,Try.underlying62,rfl,by kernel_rfl,rfl,rfl,rfl,rfl,rfl,fun _=>rfl,rfl⟩
 ·exact⟨_,Try.t64,_,Try.underlying64,rfl,by kernel_rfl,rfl,rfl,rfl,rfl,rfl,(fun h=>by cases h),rfl⟩
 ·exact⟨_,Try.t65,_,Try.underlying65,rfl,by kernel_rfl,rfl,rfl,rfl,rfl,rfl,(fun h=>by cases h),rfl⟩
 ·exact⟨_,Try.t68,_,Try.underlying68,rfl,by kernel_rfl,rfl,rfl,rfl,rfl,rfl,(fun h=>by cases h),rfl⟩
 ·exact⟨_,Try.t70,_,Try.underlying70,rfl,by kernel_rfl,rfl,rfl,rfl,rfl,rfl,fun _=>rfl,rfl⟩
 ·exact⟨_,Try.t71,_,Try.underlying71,rfl,by kernel_rfl,rfl,rfl,rfl,rfl,rfl,fun _=>rfl,rfl⟩
 ·exact⟨_,Try.t74,_,Try.underlying74,rfl,by kernel_rfl,rfl,rfl,rfl,rfl,rfl,fun _=>rfl,rfl⟩
 ·exact⟨_,Try.t77,_,Try.underlying77,rfl,by kernel_rfl,rfl,rfl,rfl,rfl,rfl,fun _=>rfl,rfl⟩
 ·exact⟨_,Try.t78,_,Try.underlying78,rfl,by kernel_rfl,rfl,rfl,rfl,rfl,rfl,fun _=>rfl,rfl⟩
 ·exact⟨_,Try.t80,_,Try.underlying80,rfl,by kernel_rfl,rfl,rfl,rfl,rfl,rfl,fun _=>rfl,rfl⟩
 ·exact⟨_,Try.t81,_,Try.underlying81,rfl,by kernel_rfl,rfl,rfl,rfl,rfl,rfl,fun _=>rfl,rfl⟩
 ·exact⟨_,Try.t83,_,Try.underlying83,rfl,by kernel_rfl,rfl,rfl,rfl,rfl,rfl,(fun h=>by cases h),rfl⟩
 ·exact⟨_,Try.t85,_,Try.underlying85,rfl,by kernel_rfl,rfl,rfl,rfl,rfl,rfl,(fun h=>by cases h),rfl⟩
 ·exact⟨_,Try.t86,_,Try.underlying86,rfl,by kernel_rfl,rfl,rfl,rfl,rfl,rfl,fun _=>rfl,rfl⟩
 ·exact⟨_,Try.t97,_,Try.underlying97,rfl,by kernel_rfl,rfl,rfl,rfl,rfl,rfl,(fun h=>by cases h),rfl⟩
 ·exact⟨_,Try.t98,_,Try.underlying98,rfl,by kernel_rfl,rfl,rfl,rfl,rfl,rfl,fun _=>rfl,rfl⟩
 ·exact⟨_,Try.t118,_,Try.underlying118,rfl,by kernel_rfl,rfl,rfl,rfl,rfl,rfl,(fun h=>by cases h),rfl⟩
 ·exact⟨_,Try.t122,_,Try.underlying122,rfl,by kernel_rfl,rfl,rfl,rfl,rfl,rfl,fun _=>rfl,rfl⟩
 ·exact⟨_,Try.t135,_,Try.underlying135,rfl,by kernel_rfl,rfl,rfl,rfl,rfl,rfl,fun _=>rfl,rfl⟩
 ·exact⟨_,Try.t138,_,Try.underlying138,rfl,by kernel_rfl,rfl,rfl,rfl,rfl,rfl,fun _=>rfl,rfl⟩
def TW (t:Nat):Option TI:=look? t (tab++tabX)
theorem tokW:TOk Try.prog TW:=zPO fun p hp=>(List.mem_append.1 hp).elim (zQu p) (zQt p)
theorem mixed:Try.prog.follows .mixedOrders=true:=by kernel_rfl
end Go.Proofs.Ytgplhldfbkmmgaa
namespace Go.Proofs
set_option maxHeartbeats 1000000 in
theorem Try.stringslite_IndexByte (s:ByteArray) (c:Int) (w:World) :
  Calls Try.prog 74 #[.string s,.int .u8 c] w fun e w'=>e = .returned (.int .i64 (Lib.indexByte s.data.toList c.toNat.toUInt8))/\w'=w:=by
 go_enter Try.func74,Try.ntmps74
 go_wp2
 rw[run_callFunc_extern Try.func88 (by kernel_rfl) (by kernel_rfl) (by kernel_rfl) (e:=Extern.BytealgIndexByte.indexByte) (by kernel_rfl),Lib.run_indexByteString]
 simp only[Result.andThen]
 rw[Oper.upon_value]
 go_wp2
 go_ret
 exact⟨rfl,rfl⟩
theorem Try.stringslite_Index_one (s:ByteArray) (c:UInt8) (w:World) :
  Calls Try.prog 87 #[.string s,.string ⟨#[c]⟩] w fun e w'=>e = .returned (.int .i64 (Lib.indexByte s.data.toList c))/\w'=w:=by
 go_enter Try.func87,Try.ntmps87
 go_wp2_with (go_at_call 74; refine(Try.stringslite_IndexByte _ _ _).mono ?_; rintro e w' ⟨rfl,rfl⟩)
 ·have h:([c] == s.toList)=true:=by assumption
  go_ret
  refine⟨?_,rfl⟩
  have e:s.data.toList=[c] :=(by rw[← Lib.toList_data]; exact(beq_iff_eq.1 h).symm);rw[e]
  simp[Lib.indexByte]
 ·go_ret
  exact⟨rfl,rfl⟩
set_option maxHeartbeats 1000000 in
theorem Try.strings_IndexByte (s:ByteArray) (c:Int) (w:World) :
  Calls Try.prog 61 #[.string s,.int .u8 c] w fun e w'=>e = .returned (.int .i64 (Lib.indexByte s.data.toList c.toNat.toUInt8))/\w'=w:=by
 go_enter Try.func61,Try.ntmps61
 go_wp2_with (go_at_call 74; refine(Try.stringslite_IndexByte _ _ _).mono ?_; rintro e w' ⟨rfl,rfl⟩)
 go_ret
 exact⟨rfl,rfl⟩
set_option maxHeartbeats 1000000 in
theorem Try.strings_Index_one (s:ByteArray) (c:UInt8) (w:World) :
  Calls Try.prog 72 #[.string s,.string ⟨#[c]⟩] w fun e w'=>e = .returned (.int .i64 (Lib.indexByte s.data.toList c))/\w'=w:=by
 go_enter Try.func72,Try.ntmps72
 go_wp2_with (go_at_call 87; refine(Try.stringslite_Index_one _ _ _).mono ?_; rintro e w' ⟨rfl,rfl⟩)
 go_ret
 exact⟨rfl,rfl⟩
set_option maxHeartbeats 1000000 in
theorem Try.strings_Contains_one (s:ByteArray) (c:UInt8) (w:World) :
  Calls Try.prog 57 #[.string s,.string ⟨#[c]⟩] w fun e w'=>e = .returned (.bool (decide (0<=Lib.indexByte s.data.toList c)))/\w'=w:=by
 go_enter Try.func57,Try.ntmps57
 go_wp2_with (go_at_call 72; refine(Try.strings_Index_one _ _ _).mono ?_; rintro e w' ⟨rfl,rfl⟩)
 go_ret
 exact⟨rfl,rfl⟩
end Go.Proofs
namespace Go.Proofs.Ytgplhldfbkmmgaa
open Go.Abs
theorem zH6 {f:Nat}{s:List AV->Ret->Prop} (hcall:∀ args w,(callFunc f args).run Try.prog w = .ok (.enter f args) w)
  (h:∀ (G:Nat->Prop) (w:World) (xs:List AV) (vs:List Value) (r:Ret),AVals G w (fun _=>.tuple #[]) xs vs->s xs r->Calls Try.prog f vs.toArray w fun e w'=>w'=w/\∃ v,e = .returned v/\RetAt G w w r v):PSound Try.prog f (zAx s) :=
 ⟨hcall,fun G w xs vs r hl _ _ hv hs=>(h G w xs vs r hv hs).mono fun e w' ⟨h1,v,h2,h3⟩=>(by subst h1; exact⟨v,G,h2,Ext.refl hl,h3⟩),fun R hR=>(by cases hR),fun R hR=>(by cases hR)⟩
def zGQ (xs:List AV) (r:Ret):Prop:=∃ (a0 a1:List UInt8) (y0:Int),zCW a0 a1=some y0/\xs=[.s (.str a0),.s (.str a1)]/\r = .val (.s (.int .i64 y0))
def zEd:zAv:=zAx fun xs r=>zGQ xs r
theorem zGu:PSound Try.prog 87 zEd:=zH6 Try.call87 fun G w xs vs r hv ⟨a,p,y,h,hx,hr⟩=>by
 subst hx; subst hr
 obtain⟨hp,h⟩:=zAI h;have hy:=Option.some.inj h;subst hy;obtain⟨c,rfl⟩:∃ c,p=[c]:=by
  match p,hp with
  | [c],_=>exact⟨c,rfl⟩
 simp only[AVals,AVal,Rep]at hv;obtain⟨_,_,rfl,rfl,_,_,rfl,rfl,rfl⟩:=hv;exact(Try.stringslite_Index_one ⟨a.toArray⟩ c w).mono fun e w' ⟨h1,h2⟩=>⟨h2,_,h1,rfl,by simp only[AVal,Rep]; rfl⟩
def zHj (xs:List AV) (r:Ret):Prop:=∃ (a0 a1:List UInt8) (y0:Bool),zDh a0 a1=some y0/\xs=[.s (.str a0),.s (.str a1)]/\r = .val (.s (.bool y0))
def zEC:zAv:=zAx fun xs r=>zHj xs r
theorem zG7:PSound Try.prog 57 zEC:=zH6 Try.call57 fun G w xs vs r hv ⟨a,p,y,h,hx,hr⟩=>by
 subst hx; subst hr
 obtain⟨hp,h⟩:=zAI h;have hy:=Option.some.inj h;subst hy;obtain⟨c,rfl⟩:∃ c,p=[c]:=by
  match p,hp with
  | [c],_=>exact⟨c,rfl⟩
 simp only[AVals,AVal,Rep]at hv;obtain⟨_,_,rfl,rfl,_,_,rfl,rfl,rfl⟩:=hv;exact(Try.strings_Contains_one ⟨a.toArray⟩ c w).mono fun e w' ⟨h1,h2⟩=>⟨h2,_,h1,rfl,by simp only[AVal,Rep]; rfl⟩
def zGP (xs:List AV) (r:Ret):Prop:=∃ (a0:List UInt8) (a1:Int) (y0:Int),zBS a0 a1=some y0/\xs=[.s (.str a0),.s (.int .u8 a1)]/\r = .val (.s (.int .i64 y0))
def zEc:zAv:=zAx fun xs r=>zGP xs r
theorem zGt:PSound Try.prog 61 zEc:=zH6 Try.call61 fun G w xs vs r hv ⟨a,c,y,h,hx,hr⟩=>by
 subst hx; subst hr
 have hy:=Option.some.inj h;subst hy;simp only[AVals,AVal,Rep]at hv;obtain⟨_,_,rfl,rfl,_,_,rfl,rfl,rfl⟩:=hv;exact(Try.strings_IndexByte ⟨a.toArray⟩ c w).mono fun e w' ⟨h1,h2⟩=>⟨h2,_,h1,rfl,by simp only[AVal,Rep]⟩
def VAt (hp:Nat->Option Ob) (e:Nat) (v:AV) (ks:List Nd) (keys:List Nat):Prop :=
 (ks=[]/\v = .s (.sl 4 [])/\keys=[])∨∃ q rows keys' w,v = .orow q/\hp q=some (.arow e 4 rows)/\rows.length=ks.length/\keys=q::keys'/\LAt hp e q 0 ks keys' [] w
theorem At.full {hp:Nat->Option Ob}{e:Nat}{p:AV}{k c:Int}{t:List UInt8}{ks:List Nd}{keys:List Nat}{w:Nat} (h:At hp e p (.mk k t c ks) keys [] w):∃ v,zAF hp p=some (zAQ k t c v)/\VAt hp e v ks keys:=by
 simp only[At]at h;obtain⟨v,hc,⟨_,_,h,_⟩ | ⟨rfl,rfl,rfl,_,_⟩ | ⟨q,rows,keys',rfl,hq,hlen,rfl,h⟩⟩:=h
 ·cases h
 ·exact⟨_,hc,.inl ⟨rfl,rfl,rfl⟩⟩
 ·exact⟨_,hc,.inr ⟨q,rows,keys',w,rfl,hq,hlen,rfl,h⟩⟩
def zLC (xs:List AV) (hp:Nat->Option Ob) (n:Nat) (Φ:AV->(Nat->Option Ob)->Nat->Prop):Prop :=
 ∃ (k c:Int) (tx:List UInt8) (ks:List Nd),(Nd.mk k tx c ks).cnt<=1000000000/\xs=[.agg (zAQ k tx c (.s (.sl 4 (Nd.encs ks))))] /\
  ∀ v hp' n' keys,n<=n'->(∀ k,k<n->hp' k=hp k)->VAt hp' 24 v ks keys->keys.Nodup->(∀ k∈keys,n<=k/\k<n')->Φ (.agg (zAQ k tx c v)) hp' n'
def zIO:zAv:=zMa zLC
theorem zOM {T:Nat->Option TI}{σ:St}{t ty q bt:Nat}{i:TI}{cells:List AV} (h1:σ.env t = .op q 0) (h2:σ.hp q=some (.box bt cells)) (h3:T ty=some i) (ha:i.k.agg=true) (hz:i.size=cells.length):zIG T σ [.cell t ty]=some (AV.deep (.agg cells)):=by
 have hb:Nat.ble i.size cells.length=true :=(by rw[hz]; exact Nat.ble_eq_true_of_le (Nat.le_refl _));simp only[zIG,zF9,zMw,h1,h2,h3,ha,hb]
 rw[hz,List.take_length]
theorem zOZ {σ:St}{q:Nat}{ob:Ob}:(zDZ σ q ob).hp q=some ob:=by simp only[zDZ,Nat.beq_refl,cond_true]
theorem upd_ne {σ:St}{q k:Nat}{ob:Ob} (h:k ≠ q):(zDZ σ q ob).hp k=σ.hp k:=by simp only[zDZ,zC2 h,cond_false]
theorem VAt.frame {hp hp':Nat->Option Ob}{e:Nat}{v:AV}{ks:List Nd}{keys:List Nat} (h:VAt hp e v ks keys) (hs:∀ k∈keys,hp' k=hp k):VAt hp' e v ks keys:=by
 rcases h with h | ⟨q,rows,keys',w,h1,h2,h3,rfl,h4⟩
 ·exact .inl h
 ·exact .inr ⟨q,rows,keys',w,h1,(hs q List.mem_cons_self).trans h2,h3,rfl,h4.sameQ (Sim.same (p0:=.junk) fun k hk=>hs k (List.mem_cons.2 hk)) (fun j _ e=>by cases e) (fun q j _ e=>by cases e)⟩
theorem zB4 {T:Nat->Option TI}{own:Bool}{o:Oper}{σ:St}{p:AV}{y:Operand} (hl:isL 4 p) (ho:o.op = .assign y∨o.op = .move y) (hy:opd T σ.env o.type y=p) (hn:(own&&zBs y)=false):step1 T own o σ=some (none,p,σ):=by
 have e0:p.nrm=p:=by rcases hl with ⟨_,_,rfl⟩ | ⟨_,rfl⟩ <;> rfl
 have e1:zBM T own o σ.env=some (none,p):=by
  rcases ho with ho | ho <;> simp only[zBM,ho,hn,hy,e0]
 simp only[step1,e1]
theorem zGc {c:Cx}{x:Code}{σ:St}{Q:Abs.End->St->Prop} (l:List (Nat×AV)) (n':Nat) (h:holds σ.env l) (hn:σ.nx=n') (hk:∀ H,(∀ k,H k=σ.hp k)->Tri c x ⟨ofL l,H,n'⟩ Q):Tri c x σ Q:=by
 subst hn;exact zAk (Le.forget l h) (hk σ.hp fun _=>rfl)
theorem At.pend {hp:Nat->Option Ob}{e w:Nat}{p:AV}{k c:Int}{tx:List UInt8}{ks:List Nd} (h:At hp e p (.mk k tx c ks) [] [p] w):zAF hp p=some (zAQ k tx c (.s (.sl 4 (Nd.encs ks)))):=by
 simp only[At]at h;obtain⟨v,hc,⟨rfl,_⟩ | ⟨_,_,_,h,_⟩ | ⟨q,rows,keys',_,_,_,h,_⟩⟩:=h
 ·exact hc
 ·cases h
 ·cases h
theorem zGg {hp hp':Nat->Option Ob}{sz k:Nat}{p:AV}{c:List AV} (hl:isL sz p) (h1:hp' k=hp k) (h2:hp' (zAW p)=hp (zAW p)):putC hp' p c k=putC hp p c k:=by
 rcases hl with ⟨q,i,rfl⟩ | ⟨q,rfl⟩ <;> (simp only[zAW]at h2; simp only[putC,h1,h2])
theorem zN1 {hp hp':Nat->Option Ob}{sz k:Nat}{p:AV}{c c' cs:List AV} (hl:isL sz p) (hc:zAF hp p=some cs) (h:hp' (zAW p)=putC hp p c' (zAW p)) (hk:k ≠ zAW p->hp' k=hp k):putC hp' p c k=putC hp p c k:=by
 by_cases hb:k=zAW p
 ·subst hb;rcases zBP hl hc with ⟨q,i,e,rows,rfl,hq,hi⟩ | ⟨q,bt,rfl,hq⟩
  ·simp only[zAW]at h ⊢;rw[zG8 hq]at h ⊢;simp only[Nat.beq_refl,cond_true]at h ⊢;rw[zG8 h]
   simp only[Nat.beq_refl,cond_true,List.set_set]
  ·simp only[zAW]at h ⊢;rw[zEq hq]at h ⊢;simp only[Nat.beq_refl,cond_true]at h ⊢;rw[zEq h]
   simp only[Nat.beq_refl,cond_true]
 ·rw[zBc hb,zBc hb,hk hb]
theorem zOr {q j:Nat}:locs q 0 (j+1)=locs q 0 j++[.rp q 4 j 0]:=by
 simp[locs,List.range'_concat]
theorem zPd {α:Type}{S:List α}{p:α}:((S++[p]).map fun p=>[p]).getD S.length []=[p]:=by
 simp[List.getD_eq_getElem?_getD]
structure DInv (hp:Nat->Option Ob) (n e pe:Nat) (t:Nd) (H:Nat->Option Ob) (ls nx:Nat) (S:List AV) (keys:List Nat) (w:Nat):Prop where
 low:∀ k,k<n->H k=hp k
 res:∃ a b c d,H (n+1)=some (.box e [a,b,c,d])
 stk:H ls=some (.arow pe 1 (S.map fun p=>[p]))
 tree:At H e (.op n 0) t keys S w
 nd:(n::keys).Nodup
 kb:∀ k∈keys,n+1<k/\k<nx/\k ≠ ls
 l1:n+1<ls
 l2:ls<nx
set_option maxHeartbeats 4000000 in
theorem zFi:PSound Try.prog 17 zIO:=by
 have gok:=@gok0 Try.prog;refine zKz tokW Try.call17 Try.func17 rfl (fun xs hp n Φ h=>by obtain⟨_,_,_,_,_,rfl,_⟩:=h; show 1<=_; decide) _ rfl ?_;rintro xs hp n Φ w0 G0 B0 ⟨k0,c,tx,ks,hcnt,rfl,hΦ⟩ _ hhp;refine zQE [1,2] [] rfl ?_;show Tri ..;refine zQE [7] [] rfl ?_;show Tri ..
 refine zAk (Le.forgetH [(1,.op n 0),(2,.op (n+1) 0),(3,.orow (n+2))] (fun k=>bif Nat.beq k (n+2) then some (.arow 70 1 [[.op n 0]]) else bif Nat.beq k (n+1) then some (.box 24 [.s (.int .i64 0),.s (.str []),.s (.int .i64 0),.nl 4]) else bif Nat.beq k n then some (.box 24 (zAQ k0 tx c (.s (.sl 4 (Nd.encs ks))))) else hp k) (n+3) ⟨rfl,rfl,rfl,trivial⟩ (fun k=>rfl) rfl) ?_
 have hI:DInv hp n 24 70 (.mk k0 tx c ks) (fun k=>bif Nat.beq k (n+2) then some (.arow 70 1 [[.op n 0]]) else bif Nat.beq k (n+1) then some (.box 24 [.s (.int .i64 0),.s (.str []),.s (.int .i64 0),.nl 4]) else bif Nat.beq k n then some (.box 24 (zAQ k0 tx c (.s (.sl 4 (Nd.encs ks))))) else hp k) (n+2) (n+3) [.op n 0] [] (Nd.mk k0 tx c ks).cnt:={
  low:=fun k hk=>by
   have h1:k ≠ n+2 :=(by omega);have h2:k ≠ n+1 :=(by omega);have h3:k ≠ n :=(by omega);simp only[zC2 h1,zC2 h2,zC2 h3,cond_false]
  res:=⟨.s (.int .i64 0),.s (.str []),.s (.int .i64 0),.nl 4,by
   have h1:n+1 ≠ n+2 :=(by omega);simp only[zC2 h1,Nat.beq_refl,cond_false,cond_true]⟩
  stk:=by simp only[Nat.beq_refl,cond_true]; rfl
  tree:=by
   have h1:n ≠ n+2 :=(by omega);have h2:n ≠ n+1 :=(by omega);simp only[At]
   exact⟨.s (.sl 4 (Nd.encs ks)),zC4 (bt:=24) (by simp only[zC2 h1,zC2 h2,Nat.beq_refl,cond_false,cond_true]),.inl (by simp[Nd.cnt])⟩
  nd:=by simp
  kb:=fun k hk=>by cases hk
  l1:=by omega
  l2:=by omega }
 generalize hH:(fun k=>bif Nat.beq k (n+2) then some (Ob.arow 70 1 [[AV.op n 0]]) else bif Nat.beq k (n+1) then some (Ob.box 24 [AV.s (.int .i64 0),AV.s (.str []),AV.s (.int .i64 0),AV.nl 4]) else bif Nat.beq k n then some (Ob.box 24 (zAQ k0 tx c (.s (.sl 4 (Nd.encs ks))))) else hp k)=H0 at hI ⊢
 clear hH
 refine zAa ?_;refine zAp (zAE (X:=(Nat->Option Ob)×Nat×Nat×List AV×List Nat×Nat) (fun y=>match y with | (H,ls,nx,S,keys,w)=>⟨ofL [(1,.op n 0),(2,.op (n+1) 0),(3,.orow ls)],H,nx⟩)
  (fun y=>match y with | (H,ls,nx,S,keys,w)=>DInv hp n 24 70 (.mk k0 tx c ks) H ls nx S keys w) (fun y=>match y with | (H,ls,nx,S,keys,w)=>w) (H0,n+2,n+3,[.op n 0],[],(Nd.mk k0 tx c ks).cnt) hI (Le.refl _ _) ?_)
 rintro⟨H,ls,nx,S,keys,w⟩ hI;have hI:DInv hp n 24 70 (.mk k0 tx c ks) H ls nx S keys w:=hI;refine zAa ?_;refine zQE [] [] rfl ?_;refine zAd rfl rfl rfl rfl rfl rfl trivial ?_;refine zAd rfl rfl rfl rfl rfl (zJM rfl rfl rfl rfl rfl hI.stk) trivial ?_;refine zAd rfl rfl rfl rfl rfl rfl trivial ?_;show Tri ..;refine zAB rfl (fun hb=>?_) (fun hb=>?_)
 rotate_left
 ·refine zAJ ?_;show Tri ..;refine zAk (Le.forget [(1,.op n 0),(2,.op (n+1) 0),(3,.orow ls)] ⟨rfl,rfl,rfl,trivial⟩) ?_;have hS:S=[]:=by
   cases S with
   | nil=>rfl
   | cons x S =>
    have:=of_decide_eq_false hb;simp only[List.length_map,List.length_cons]at this
    omega
  subst hS;obtain⟨v,hc,hv⟩:=hI.tree.full;rcases zBP (sz:=4) (.inr ⟨n,rfl⟩) hc with ⟨q,i,e,rows,h1,_⟩ | ⟨q,bt,h1,hq⟩
  ·cases h1
  cases h1;obtain⟨ra,rb,rc,rd,hr1⟩:=hI.res;refine zQE [] [] rfl ?_;refine zAd rfl rfl rfl rfl rfl (zOU rfl rfl rfl rfl hq rfl) trivial ?_;have hvl:v.one=true/\v.lt nx=true:=by
   rcases hv with ⟨_,rfl,_⟩ | ⟨q,_,_,_,rfl,_,_,hk,_⟩
   ·exact⟨rfl,rfl⟩
   ·exact⟨rfl,decide_eq_true (hI.kb q (by rw[hk]; exact List.mem_cons_self)).2.1⟩
  refine zEg rfl rfl rfl (zJN rfl rfl rfl hr1 rfl rfl (by show([AV.s _,AV.s _,AV.s _,v]:List AV).all AV.one=true; simp only[List.all_cons,List.all_nil,hvl.1]; rfl) (by show AV.ltAll nx [AV.s _,AV.s _,AV.s _,v]=true; simp only[AV.ltAll,hvl.2]; rfl)) trivial ?_;show Tri ..;refine zAg ?_;have hln:n<nx:=Nat.lt_trans (Nat.lt_trans (Nat.lt_succ_self n) hI.l1) hI.l2;have hdeep:AV.deep (.agg (zAQ k0 tx c v)) = .agg (zAQ k0 tx c v):=by
   rcases hv with ⟨_,rfl,_⟩ | ⟨q,_,_,_,rfl,_⟩ <;> rfl
  unfold zGv;refine⟨_,Le.refl _ _,.agg (zAQ k0 tx c v),?_,hΦ v _ _ keys (Nat.le_of_lt hln) (fun k hk=>?_) ?_ (List.nodup_cons.1 hI.nd).2 fun k hk=>⟨Nat.le_of_lt (Nat.lt_trans (Nat.lt_succ_self n) (hI.kb k hk).1),(hI.kb k hk).2.1⟩⟩
  ·exact(zOM (cells:=zAQ k0 tx c v) rfl zOZ rfl rfl rfl).trans (congrArg some hdeep)
  ·exact(upd_ne (by omega)).trans (hI.low k hk)
  ·exact hv.frame fun k hk=>upd_ne (by have:=(hI.kb k hk).1; omega)
 refine zAh ?_;show Tri ..;obtain⟨S',p,rfl⟩:∃ S' p,S=S'++[p]:=by
  rcases List.eq_nil_or_concat S with rfl | ⟨S',p,rfl⟩
  ·cases hb
  ·exact⟨S',p,List.concat_eq_append⟩
 have hl0:isL 4 p:=hI.tree.loc (.inr ⟨n,rfl⟩) (by simp)
 obtain⟨⟨k1,tx1,c1,ks1⟩,w1,hp0,hw,hrep⟩:=hI.tree.repl (.inr ⟨n,rfl⟩) hI.nd;have hcell:=hp0.pend;have hwl:=hI.tree.len;have hSl:S'.length<1000000000:=by
  have:=hwl.1;have:=hwl.2;simp only[List.length_append,List.length_singleton]at *
  omega
 have hz:IntKind.i64.wrap (((((S'++[p]).map fun p=>[p]).length:Nat):Int) - 1)=(S'.length:Int):=by
  rw[wrap64_in (by simp only[List.length_map,List.length_append,List.length_singleton]; omega) (by simp only[List.length_map,List.length_append,List.length_singleton]; omega)]
  simp only[List.length_map,List.length_append,List.length_singleton]; omega
 have hlt1:S'.length<((S'++[p]).map fun p=>[p]).length :=(by simp);refine zAk (Le.forget [(1,.op n 0),(2,.op (n+1) 0),(3,.orow ls)] ⟨rfl,rfl,rfl,trivial⟩) ?_;refine zAp ?_;refine zQE [] [] rfl ?_;refine zAd rfl rfl rfl rfl rfl rfl trivial ?_;refine zAd rfl rfl rfl rfl rfl rfl trivial ?_;refine zAd rfl rfl rfl rfl rfl (zJM rfl rfl rfl rfl rfl hI.stk) trivial ?_;refine zAd rfl rfl rfl rfl rfl rfl trivial ?_;rw[hz]
 refine zAd rfl rfl rfl rfl rfl (zLx rfl rfl rfl rfl rfl rfl hI.stk rfl) ⟨Int.natCast_nonneg _,Int.ofNat_lt.2 hlt1⟩ ?_;refine zL4 (c:=p) rfl rfl rfl rfl rfl rfl hI.stk hlt1 (by rw[Int.toNat_natCast,zPd]; rfl) ?_;refine zAd rfl rfl rfl rfl rfl (zB4 hl0 (.inl rfl) rfl rfl) trivial ?_;show Tri ..;refine zAk (Le.forget [(1,.op n 0),(2,.op (n+1) 0),(3,.orow ls),(4,p)] ⟨rfl,rfl,rfl,rfl,trivial⟩) ?_;refine zQE [21] [] rfl ?_;refine zAd rfl rfl rfl rfl rfl rfl trivial ?_;refine zAd rfl rfl rfl rfl rfl rfl trivial ?_;refine zAd rfl rfl rfl rfl rfl (zJM rfl rfl rfl rfl rfl hI.stk) trivial ?_
 refine zAd rfl rfl rfl rfl rfl rfl trivial ?_;rw[hz]
 refine zAd rfl rfl rfl rfl rfl (zOV rfl rfl rfl rfl rfl rfl hI.stk rfl) ⟨Int.natCast_nonneg _,Int.ofNat_le.2 (Nat.le_of_lt hlt1)⟩ ?_;refine zAd rfl rfl rfl rfl rfl rfl trivial ?_;show Tri ..;refine zGc [(1,.op n 0),(2,.op (n+1) 0),(3,.orow nx),(4,p)] (nx+1) ⟨rfl,rfl,rfl,rfl,trivial⟩ rfl fun H1 hH1=>?_
 have g1:H1 nx=some (.arow 70 1 (S'.map fun p=>[p])):=(hH1 nx).trans (by
  show(bif Nat.beq nx nx then some (Ob.arow 70 1 (((S'++[p]).map fun p=>[p]).take ((S'.length:Int)).toNat)) else _)=_;rw[Nat.beq_refl,cond_true,Int.toNat_natCast]
  simp)
 have g2:∀ k,k ≠ nx->k ≠ ls->H1 k=H k:=fun k h1 h2=>(hH1 k).trans (by
  show(bif Nat.beq k nx then _ else bif Nat.beq k ls then none else H k)=_;rw[zC2 h1,zC2 h2]; rfl)
 clear hH1
 have hbase:zAW p=n∨zAW p∈keys:=by
  rcases hI.tree.base (p0:=p) (by simp) with h | h
  ·exact .inl (by rw[h]; rfl)
  ·exact .inr h
 have hln:n<nx:=Nat.lt_trans (Nat.lt_trans (Nat.lt_succ_self n) hI.l1) hI.l2;have hbl:zAW p ≠ nx/\zAW p ≠ ls/\zAW p ≠ n+1/\zAW p<nx:=by
  have h1:=hI.l1;have h2:=hI.l2;rcases hbase with h | h
  ·rw[h]; omega
  ·have:=hI.kb _ h; omega
 have fin:∀ (cs:List AV) (Hj:Nat->Option Ob) (lsj nxj:Nat) (new:List Nat) (ch:List AV) (w':Nat),(∀ k,k ≠ ls->k<nx->Hj k=putC H p cs k)->Hj lsj=some (.arow 70 1 ((S'++ch).map fun p=>[p]))->At Hj 24 p (.mk k1 tx1 c1 ks1) new ch w' ->
   new.Nodup->(∀ k∈new,nx<=k/\k<nxj/\k ≠ lsj)->nx<=lsj->lsj<nxj->w'<(Nd.mk k1 tx1 c1 ks1).cnt->∃ keys2,DInv hp n 24 70 (.mk k0 tx c ks) Hj lsj nxj (S'++ch) keys2 (w1+w')/\w1+w'<w:=by
  intro cs Hj lsj nxj new ch w' f1 f2 f3 f4 f5 f6 f7 f8;have l1:=hI.l1;have l2:=hI.l2;have hD:∀ k,k=n∨k∈keys->k ≠ ls/\k<nx:=fun k hk=>by
   rcases hk with rfl | hk
   ·omega
   ·have:=hI.kb k hk; omega
  obtain⟨keys2,hperm,hat⟩:=hrep Hj new ch w' (Sim.put hl0 hcell fun k hk=>f1 k (hD k hk).1 (hD k hk).2) f3;have hmem:∀ k,k∈keys2->k∈keys∨k∈new:=fun k hk=>List.mem_append.1 (hperm.mem_iff.1 hk)
  have hkn:=List.nodup_cons.1 hI.nd;refine⟨keys2,{
   low:=fun k hk=>(f1 k (by omega) (by omega)).trans ((zBc (by
    rcases hbase with h | h
    ·omega
    ·have:=hI.kb _ h; omega)).trans (hI.low k hk))
   res:=by
    obtain⟨a,b,c,d,hr⟩:=hI.res;exact⟨a,b,c,d,(f1 (n+1) (by omega) (by omega)).trans ((zBc (Ne.symm hbl.2.2.1)).trans hr)⟩
   stk:=f2
   tree:=hat
   nd:=List.nodup_cons.2 ⟨fun hm=>by
    rcases hmem n hm with h | h
    ·exact hkn.1 h
    ·have:=f5 n h; omega,hperm.nodup_iff.2 (List.nodup_append.2 ⟨hkn.2,f4,fun a ha b hb e=>by
     have:=hI.kb a ha;have:=f5 b hb
     omega⟩)⟩
   kb:=fun k hk=>by
    rcases hmem k hk with h | h
    ·have:=hI.kb k h; omega
    ·have:=f5 k h; omega
   l1:=by omega
   l2:=f7 },by omega⟩
 have hc1:zAF H1 p=some (zAQ k1 tx1 c1 (.s (.sl 4 (Nd.encs ks1)))):=(zBr hl0 (g2 _ hbl.1 hbl.2.1)).trans hcell;refine zQE [] [] rfl ?_;refine zAd rfl rfl rfl rfl rfl (zB4 hl0 (.inr rfl) rfl rfl) trivial ?_;refine zAd rfl rfl rfl rfl rfl (zDv hl0 rfl rfl) trivial ?_;refine zAd rfl rfl rfl rfl rfl (zDK hl0 rfl rfl rfl rfl rfl rfl rfl) trivial ?_;refine zCL (off:=3) (sz:=4) rfl rfl rfl rfl rfl rfl rfl hl0 rfl hc1 rfl ?_;refine zAd rfl rfl rfl rfl rfl rfl trivial ?_;show Tri ..
 refine zAk (Le.forget [(1,.op n 0),(2,.op (n+1) 0),(3,.orow nx),(4,p),(5,.s (.sl 4 (Nd.encs ks1)))] ⟨rfl,rfl,rfl,rfl,rfl,trivial⟩) ?_;refine zQE [] [] rfl ?_;refine zAd rfl rfl rfl rfl rfl (zB4 hl0 (.inr rfl) rfl rfl) trivial ?_;refine zAd rfl rfl rfl rfl rfl (zDv hl0 rfl rfl) trivial ?_;refine zAd rfl rfl rfl rfl rfl (zDK hl0 rfl rfl rfl rfl rfl rfl rfl) trivial ?_;refine zL5 (off:=3) (sz:=4) (c:=.s (.sl 4 [])) rfl rfl rfl rfl rfl hl0 rfl hc1 rfl (by decide) rfl rfl rfl ?_;show Tri ..
 refine zGc [(1,.op n 0),(2,.op (n+1) 0),(3,.orow nx),(4,p),(5,.s (.sl 4 (Nd.encs ks1)))] (nx+1) ⟨rfl,rfl,rfl,rfl,rfl,trivial⟩ rfl fun H2 hH2=>?_
 have hH2:∀ k,H2 k=putC H1 p (zAQ k1 tx1 c1 (.s (.sl 4 []))) k:=hH2
 have hc2:zAF H2 p=some (zAQ k1 tx1 c1 (.s (.sl 4 []))):=(zBr hl0 (hH2 _)).trans (zGT hl0 hc1)
 refine zAa ?_;refine zQE [] [] rfl ?_;refine zAd rfl rfl rfl rfl rfl rfl trivial ?_;refine zAd rfl rfl rfl rfl rfl rfl trivial ?_;refine zAd rfl rfl rfl rfl rfl rfl trivial ?_;show Tri ..;refine zAB rfl (fun hb=>?_) (fun hb=>?_)
 rotate_left
 ·obtain rfl:ks1=[]:=by
   cases ks1 with
   | nil=>rfl
   | cons x l =>
    have:=of_decide_eq_false hb;simp only[Nd.encs,List.length_cons]at this
    omega
  refine zAh ?_;show Tri ..;refine zAk (Le.forget [(1,.op n 0),(2,.op (n+1) 0),(3,.orow nx),(4,p),(5,.s (.sl 4 []))] ⟨rfl,rfl,rfl,rfl,rfl,trivial⟩) ?_;refine zQE [] [] rfl ?_;refine zAd rfl rfl rfl rfl rfl (zB4 hl0 (.inr rfl) rfl rfl) trivial ?_;refine zAd rfl rfl rfl rfl rfl (zDv hl0 rfl rfl) trivial ?_;refine zAd rfl rfl rfl rfl rfl (zDK hl0 rfl rfl rfl rfl rfl rfl rfl) trivial ?_;refine zCL (off:=3) (sz:=4) rfl rfl rfl rfl rfl rfl rfl hl0 rfl hc2 rfl ?_;refine zAd rfl rfl rfl rfl rfl rfl trivial ?_;refine zAd rfl rfl rfl rfl rfl rfl trivial ?_;show Tri ..
  refine zAk (Le.forget [(1,.op n 0),(2,.op (n+1) 0),(3,.orow nx),(4,p),(5,.s (.sl 4 []))] ⟨rfl,rfl,rfl,rfl,rfl,trivial⟩) ?_;refine zQE [] [] rfl ?_;refine zAd rfl rfl rfl rfl rfl (zB4 hl0 (.inr rfl) rfl rfl) trivial ?_;refine zAd rfl rfl rfl rfl rfl (zDv hl0 rfl rfl) trivial ?_;refine zAd rfl rfl rfl rfl rfl (zDK hl0 rfl rfl rfl rfl rfl rfl rfl) trivial ?_;refine zCL (off:=3) (sz:=4) rfl rfl rfl rfl rfl rfl rfl hl0 rfl hc2 rfl ?_;refine zAd rfl rfl rfl rfl rfl rfl trivial ?_;refine zAd rfl rfl rfl rfl rfl rfl trivial ?_;show Tri ..
  refine zAp (zAE (X:=Unit) (fun _=>⟨ofL [(1,.op n 0),(2,.op (n+1) 0),(3,.orow nx),(48,.s (.int .i64 0)),(49,.s (.int .i64 0))],H2,nx+1⟩) (fun _=>True) (fun _=>0) () trivial (Le.forget [(1,.op n 0),(2,.op (n+1) 0),(3,.orow nx),(48,.s (.int .i64 0)),(49,.s (.int .i64 0))] ⟨rfl,rfl,rfl,rfl,rfl,trivial⟩) ?_)
  rintro⟨⟩ _;refine zQE [] [] rfl ?_;refine zAd rfl rfl rfl rfl rfl rfl trivial ?_;show Tri ..;refine zAa ?_;refine zAB rfl (fun hb=>by cases hb) (fun hb=>?_)
  refine zAJ ?_;obtain⟨keys2,hz1,hz2⟩:=fin (zAQ k1 tx1 c1 (.s (.sl 4 []))) H2 nx (nx+1) [] [] 0
   (fun k h1 h2=>(hH2 k).trans (zGg hl0 (g2 k (by omega) h1) (g2 _ hbl.1 hbl.2.1)))
   (by rw[List.append_nil]; exact(hH2 nx).trans ((zBc (Ne.symm hbl.1)).trans g1))
   (by simp only[At]; exact⟨.s (.sl 4 []),hc2,.inr (.inl (by simp))⟩) (by simp) (fun k hk=>by cases hk) (Nat.le_refl _) (Nat.lt_succ_self _) (by simp[Nd.cnt])
  exact⟨(H2,nx,nx+1,S'++[],keys2,w1+0),hz1,Le.forget [(1,.op n 0),(2,.op (n+1) 0),(3,.orow nx)] ⟨rfl,rfl,rfl,trivial⟩,hz2⟩
 ·have hm:0<ks1.length:=by
   have:=of_decide_eq_true hb;rw[Nd.encs_eq,List.length_map]at this
   omega
  have hkl:ks1.length<1000000000:=by
   have h1:=Nd.cnts_len ks1;have h2:=hwl.2;simp only[Nd.cnt]at hw hcnt h2
   omega
  have hel:(Nd.encs ks1).length=ks1.length :=(by rw[Nd.encs_eq,List.length_map]);refine zAk (Le.forget [(1,.op n 0),(2,.op (n+1) 0),(3,.orow nx),(4,p),(5,.s (.sl 4 (Nd.encs ks1)))] ⟨rfl,rfl,rfl,rfl,rfl,trivial⟩) ?_;refine zAb [35] [] rfl ?_;refine zAd rfl rfl rfl rfl rfl (zB4 hl0 (.inr rfl) rfl rfl) trivial ?_;refine zAd rfl rfl rfl rfl rfl rfl trivial ?_;refine zAd rfl rfl rfl rfl rfl rfl trivial ?_
  refine zAd rfl rfl rfl rfl rfl (zQD rfl rfl rfl rfl rfl rfl rfl rfl rfl) (show 0<=_/\_ from⟨Int.natCast_nonneg _,Int.le_refl _,show(((Nd.encs ks1).length:Nat):Int) * ((56:Nat):Int)<=281474976710656 by omega,show(((Nd.encs ks1).length:Nat):Int)<=281474976710656 by omega⟩) ?_;refine zAd rfl rfl rfl rfl rfl (zDv hl0 rfl rfl) trivial ?_;refine zAd rfl rfl rfl rfl rfl (zDK hl0 rfl rfl rfl rfl rfl rfl rfl) trivial ?_;have hbn:zAW p ≠ nx+1:=by have:=hbl.2.2.2; omega
  refine zL5 (off:=3) (sz:=4) (c:=.orow (nx+1)) rfl rfl rfl rfl rfl hl0 rfl ((zBr hl0 (by show(bif Nat.beq (zAW p) (nx+1) then _ else H2 (zAW p))=_; rw[zC2 hbn]; rfl)).trans hc2) rfl (by decide) rfl rfl (decide_eq_true (Nat.lt_succ_self _)) ?_;show Tri ..;refine zGc [(1,.op n 0),(2,.op (n+1) 0),(3,.orow nx),(4,p),(5,.s (.sl 4 (Nd.encs ks1)))] (nx+2) ⟨rfl,rfl,rfl,rfl,rfl,trivial⟩ rfl fun H3 hH3=>?_
  have hH3:∀ k,H3 k=putC (fun k=>bif Nat.beq k (nx+1) then some (.row 24 4 (List.replicate (((Nd.encs ks1).length:Int)).toNat [.int .i64 0,.str [],.int .i64 0,.sl 4 []])) else H2 k) p (zAQ k1 tx1 c1 (.orow (nx+1))) k:=hH3
  have a1:H3 (nx+1)=some (.row 24 4 (List.replicate (((Nd.encs ks1).length:Int)).toNat [.int .i64 0,.str [],.int .i64 0,.sl 4 []])):=(hH3 _).trans ((zBc (Ne.symm hbn)).trans (by simp only[Nat.beq_refl,cond_true]))
  have a2:∀ k,k ≠ nx+1->H3 k=putC H2 p (zAQ k1 tx1 c1 (.orow (nx+1))) k:=fun k hk=>(hH3 k).trans (zGg hl0 (by simp only[zC2 hk,cond_false]) (by simp only[zC2 hbn,cond_false]))
  have hc3:zAF H3 p=some (zAQ k1 tx1 c1 (.orow (nx+1))):=(zBr hl0 (a2 _ hbn)).trans (zGT hl0 hc2)
  refine zAk (Le.toA (nx+1) a1) ?_;refine zQE [] [] rfl ?_;refine zAd rfl rfl rfl rfl rfl (zB4 hl0 (.inr rfl) rfl rfl) trivial ?_;refine zAd rfl rfl rfl rfl rfl (zDv hl0 rfl rfl) trivial ?_;refine zAd rfl rfl rfl rfl rfl (zDK hl0 rfl rfl rfl rfl rfl rfl rfl) trivial ?_;refine zCL (off:=3) (sz:=4) rfl rfl rfl rfl rfl rfl rfl hl0 rfl ((zBr hl0 (upd_ne hbn)).trans hc3) rfl ?_;refine zAd rfl rfl rfl rfl rfl rfl trivial ?_;refine zAd rfl rfl rfl rfl rfl (zPC rfl rfl rfl rfl rfl rfl rfl rfl rfl zOZ rfl rfl) (show(List.map _ _).length=List.length _ by simp) ?_;show Tri ..
  refine zGc [(1,.op n 0),(2,.op (n+1) 0),(3,.orow nx),(4,p),(5,.s (.sl 4 (Nd.encs ks1)))] (nx+2) ⟨rfl,rfl,rfl,rfl,rfl,trivial⟩ rfl fun H4 hH4=>?_
  have r1:H4 (nx+1)=some (.arow 24 4 ((Nd.encs ks1).map (·.map AV.s))):=(hH4 _).trans zOZ;have r2:∀ k,k ≠ nx+1->H4 k=H3 k:=fun k hk=>(hH4 k).trans ((upd_ne hk).trans (upd_ne hk))
  clear hH4
  have hc4:zAF H4 p=some (zAQ k1 tx1 c1 (.orow (nx+1))):=(zBr hl0 (r2 _ hbn)).trans hc3;refine zQE [] [] rfl ?_;refine zAd rfl rfl rfl rfl rfl (zB4 hl0 (.inr rfl) rfl rfl) trivial ?_;refine zAd rfl rfl rfl rfl rfl (zDv hl0 rfl rfl) trivial ?_;refine zAd rfl rfl rfl rfl rfl (zDK hl0 rfl rfl rfl rfl rfl rfl rfl) trivial ?_;refine zCL (off:=3) (sz:=4) rfl rfl rfl rfl rfl rfl rfl hl0 rfl hc4 rfl ?_;refine zAd rfl rfl rfl rfl rfl (zJM rfl rfl rfl rfl rfl r1) trivial ?_;refine zAd rfl rfl rfl rfl rfl rfl trivial ?_;show Tri ..
  have hlen4:((Nd.encs ks1).map (·.map AV.s)).length=ks1.length :=(by rw[List.length_map,hel]);refine zAp (zAE (X:=(Nat->Option Ob)×Nat×Nat×Nat) (fun y=>match y with | (Hj,lsj,nxj,j)=>⟨ofL [(1,.op n 0),(2,.op (n+1) 0),(3,.orow lsj),(4,p),(48,.s (.int .i64 (ks1.length:Int))),(49,.s (.int .i64 (j:Int)))],Hj,nxj⟩)
   (fun y=>match y with | (Hj,lsj,nxj,j)=>j<=ks1.length/\(∀ k,k ≠ nx->k<nx+2->Hj k=H4 k)/\Hj lsj=some (.arow 70 1 ((S'++locs (nx+1) 0 j).map fun p=>[p]))/\(lsj=nx∨nx+2<=lsj)/\lsj<nxj/\nx+2<=nxj) (fun y=>match y with | (Hj,lsj,nxj,j)=>ks1.length - j) (H4,nx,nx+2,0)
   ⟨Nat.zero_le _,fun k _ _=>rfl,by
    refine(r2 nx (by omega)).trans ((a2 nx (by omega)).trans ((zBc (Ne.symm hbl.1)).trans ((hH2 nx).trans ((zBc (Ne.symm hbl.1)).trans (g1.trans ?_)))))
    simp[locs],.inl rfl,by omega,Nat.le_refl _⟩
   (Le.forget [(1,.op n 0),(2,.op (n+1) 0),(3,.orow nx),(4,p),(48,.s (.int .i64 (ks1.length:Int))),(49,.s (.int .i64 ((0:Nat):Int)))] ⟨rfl,rfl,rfl,rfl,congrArg (fun m:Nat=>AV.s (.int .i64 (m:Int))) hlen4,rfl,trivial⟩) ?_)
  rintro⟨Hj,lsj,nxj,j⟩ ⟨i1,i2,i3,i4,i5,i6⟩
  have hbj:zAW p ≠ nx/\zAW p<nx+2:=⟨hbl.1,by have:=hbl.2.2.2; omega⟩
  have hcj:zAF Hj p=some (zAQ k1 tx1 c1 (.orow (nx+1))):=(zBr hl0 (i2 _ hbj.1 hbj.2)).trans hc4;have hrj:Hj (nx+1)=some (.arow 24 4 ((Nd.encs ks1).map (·.map AV.s))):=(i2 (nx+1) (by omega) (by omega)).trans r1;refine zQE [] [] rfl ?_;refine zAd rfl rfl rfl rfl rfl rfl trivial ?_;show Tri ..;refine zAa ?_;refine zAB rfl (fun hb=>?_) (fun hb=>?_)
  ·refine zAh ?_;show Tri ..;have hj:j<ks1.length:=Int.ofNat_lt.1 (of_decide_eq_true hb)
   have hsl:((S'++locs (nx+1) 0 j).map fun p=>[p]).length=S'.length+j :=(by simp[locs]);refine zAk (Le.forget [(1,.op n 0),(2,.op (n+1) 0),(3,.orow lsj),(4,p),(48,.s (.int .i64 (ks1.length:Int))),(49,.s (.int .i64 (j:Int)))] ⟨rfl,rfl,rfl,rfl,rfl,rfl,trivial⟩) ?_;refine zAa ?_;refine zAp ?_;refine zQE [] [] rfl ?_;refine zAd rfl rfl rfl rfl rfl rfl trivial ?_;refine zAd rfl rfl rfl rfl rfl rfl trivial ?_;show Tri ..;refine zAb [59,60] [] rfl ?_;refine zAd rfl rfl rfl rfl rfl rfl trivial ?_;refine zAd rfl rfl rfl rfl rfl (zB4 hl0 (.inr rfl) rfl rfl) trivial ?_
   refine zAd rfl rfl rfl rfl rfl (zDv hl0 rfl rfl) trivial ?_;refine zAd rfl rfl rfl rfl rfl (zDK hl0 rfl rfl rfl rfl rfl rfl rfl) trivial ?_;refine zCL (off:=3) (sz:=4) rfl rfl rfl rfl rfl rfl rfl hl0 rfl hcj rfl ?_;refine zAd rfl rfl rfl rfl rfl rfl trivial ?_;refine zAd rfl rfl rfl rfl rfl (zLx rfl rfl rfl rfl rfl rfl hrj rfl) ⟨Int.natCast_nonneg _,Int.ofNat_lt.2 (by rw[hlen4]; exact hj)⟩ ?_;rw[Int.toNat_natCast]
   refine zAd rfl rfl rfl rfl rfl rfl trivial ?_;refine zAd rfl rfl rfl rfl rfl (zP6 (rows:=(S'++locs (nx+1) 0 j).map fun p=>[p]) (rows2:=[[.rp (nx+1) 4 j 0]]) rfl rfl rfl rfl rfl rfl rfl rfl rfl (by show(bif Nat.beq lsj nxj then _ else Hj lsj)=_; rw[zC2 (by omega)]; exact i3) (by show(bif Nat.beq nxj nxj then _ else Hj nxj)=_; rw[Nat.beq_refl]; rfl) rfl rfl rfl) (show(((S'++locs (nx+1) 0 j).map fun p=>[p]).length+1) * 8<=140737488355328/\((S'++locs (nx+1) 0 j).map fun p=>[p]).length+1<=9223372036854775807 by rw[hsl]; omega) ?_;refine zAd rfl rfl rfl rfl rfl rfl trivial ?_;show Tri ..
   refine zGc [(1,.op n 0),(2,.op (n+1) 0),(3,.orow (nxj+1)),(4,p),(48,.s (.int .i64 (ks1.length:Int))),(49,.s (.int .i64 (j:Int)))] (nxj+2) ⟨rfl,rfl,rfl,rfl,rfl,rfl,trivial⟩ rfl fun H5 hH5=>?_
   have e1:H5 (nxj+1)=some (.arow 70 1 ((S'++locs (nx+1) 0 (j+1)).map fun p=>[p])):=(hH5 _).trans (by
    show(bif Nat.beq (nxj+1) (nxj+1) then some (Ob.arow 70 1 (((S'++locs (nx+1) 0 j).map fun p=>[p])++[[.rp (nx+1) 4 j 0]])) else _)=_;rw[Nat.beq_refl,cond_true,zOr]
    simp)
   have e2:∀ k,k ≠ nxj+1->k ≠ lsj->k ≠ nxj->H5 k=Hj k:=fun k h1 h2 h3=>(hH5 k).trans (by
    show(bif Nat.beq k (nxj+1) then _ else bif Nat.beq k lsj then none else bif Nat.beq k nxj then _ else Hj k)=_;rw[zC2 h1,zC2 h2,zC2 h3]; rfl)
   clear hH5
   refine zAb [] [] rfl ?_;refine zAd rfl rfl rfl rfl rfl rfl trivial ?_;refine zAd rfl rfl rfl rfl rfl rfl trivial ?_;exact⟨(H5,nxj+1,nxj+2,j+1),⟨hj,fun k h1 h2=>(e2 k (by omega) (by omega) (by omega)).trans (i2 k h1 h2),e1,.inr (by omega),by omega,by omega⟩,
    Le.forget [(1,.op n 0),(2,.op (n+1) 0),(3,.orow (nxj+1)),(4,p),(48,.s (.int .i64 (ks1.length:Int))),(49,.s (.int .i64 ((j+1:Nat):Int)))] ⟨rfl,rfl,rfl,rfl,rfl,congrArg (fun z=>AV.s (.int .i64 z)) (zCY (by omega)),trivial⟩,by show ks1.length - (j+1)<ks1.length - j; omega⟩
  ·refine zAJ ?_;have hj:j=ks1.length:=by
    have:=of_decide_eq_false hb
    omega
   subst hj;obtain⟨keys2,hz1,hz2⟩:=fin (zAQ k1 tx1 c1 (.orow (nx+1))) Hj lsj nxj [nx+1] (locs (nx+1) 0 ks1.length) (Nd.cnts ks1)
    (fun k h1 h2=>(i2 k (by omega) (by omega)).trans ((r2 k (by omega)).trans ((a2 k (by omega)).trans (zN1 hl0 hcell ((hH2 _).trans (zGg hl0 (g2 _ hbl.1 hbl.2.1) (g2 _ hbl.1 hbl.2.1))) fun hk=>(hH2 k).trans ((zBc hk).trans (g2 k (by omega) h1))))))
    i3 (by simp only[At]; exact⟨.orow (nx+1),hcj,.inr (.inr ⟨nx+1,_,[],rfl,hrj,hlen4,rfl,LAt.copied hrj⟩)⟩) (by simp) (fun k hk=>by
     have:=List.mem_singleton.1 hk
     omega) (by omega) i5 (by simp[Nd.cnt])
   exact⟨(Hj,lsj,nxj,S'++locs (nx+1) 0 ks1.length,keys2,w1+Nd.cnts ks1),hz1,Le.forget [(1,.op n 0),(2,.op (n+1) 0),(3,.orow lsj)] ⟨rfl,rfl,rfl,trivial⟩,hz2⟩
def zMJ (xs:List AV) (r:Ret):Prop:=∃ (a0:Nd) (y0:Nd),zAR a0=some y0/\xs=[.agg ((Nd.enc a0).map .s)]/\r = .val (.agg ((Nd.enc y0).map .s))
def zCb:zAv:=zAx fun xs r=>zMJ xs r
theorem zCl:PSound Try.prog 17 zCb :=
 PSound.giveAll zFi fun xs r h=>by
  obtain⟨⟨k,t,c,ks⟩,y,hm,rfl,rfl⟩:=h;obtain⟨hq,hm⟩:=zAI hm;obtain rfl:=Option.some.inj hm;refine⟨_,rfl,rfl,k,c,t,ks,hq,rfl,fun v hp' n' keys _ _ hv _ _=>?_⟩
  refine zPr (t:=.mk k t c ks) (RdC.node ?_)
  rcases hv with ⟨rfl,rfl,_⟩ | ⟨q,rows,keys',w,rfl,hq,hlen,rfl,h⟩
  ·exact .s _
  ·exact Rd.rows hq hlen fun j x hj=>(by have:=LAt.rd h j x hj; rwa [Nat.zero_add]at this)
theorem zFg {n:Nd}{i s:Int}{p:List Int} (h:¬ (0<=i/\i<n.kids.length)):zDT n (i::s::p)=none:=by rw[zDT,if_neg h]
theorem zFh {n x:Nd}{i s:Int}{p:List Int} (h0:0<=i) (hx:n.kids[i.toNat]? = some x) (h:¬ (0<=s/\s<x.kids.length)):zDT n (i::s::p)=none:=by
 have hl:=(List.getElem?_eq_some_iff.1 hx).1;rw[zDT,if_pos ⟨h0,by omega⟩]
 simp only[List.getD_eq_getElem?_getD,hx,Option.getD_some]
 rw[if_neg h]
theorem zKy {n x z:Nd}{i s:Int}{p:List Int} (h0:0<=i) (hx:n.kids[i.toNat]? = some x) (h1:0<=s) (hz:x.kids[s.toNat]? = some z):zDT n (i::s::p)=zDT z p:=by
 have hl:=(List.getElem?_eq_some_iff.1 hx).1;have hl2:=(List.getElem?_eq_some_iff.1 hz).1;rw[zDT,if_pos ⟨h0,by omega⟩]
 simp only[List.getD_eq_getElem?_getD,hx,hz,Option.getD_some]
 rw[if_pos ⟨h1,by omega⟩]
theorem zOm {l:List Nd}{i:Nat}{x:Nd} (h:l[i]? = some x):(Nd.encs l).getD i []=Nd.enc x:=by
 simp[Nd.encs_eq,List.getD_eq_getElem?_getD,h]
theorem zGd (l:List Nd):(Nd.encs l).length=l.length:=by rw[Nd.encs_eq,List.length_map]
def zOl:Option Nd->AV
 | some y=>.s (.pt (Nd.enc y))
 | none=>.junk
def zMP (xs:List AV) (r:Ret):Prop:=∃ (a0:Nd) (a1:List Int),xs=[.s (.pt (Nd.enc a0)),.s (.sl 1 (a1.map (irow .i64)))]/\r = .val (.tup [zOl (zDT a0 a1),.s (.bool (zDT a0 a1).isSome)])
def zI0:zAv:=zAx fun xs r=>zMP xs r
theorem zMo:PSound Try.prog 80 zI0:=by
 have gok:=@gok0 Try.prog;refine zAz tokW Try.call80 Try.func80 rfl (fun xs r h=>by obtain⟨_,_,rfl,_⟩:=h; show 2<=_; decide) _ rfl ?_;rintro xs r w0 G0 ⟨n0,p0,rfl,rfl⟩ _;generalize hy:zDT n0 p0=y;refine zQE [] [] rfl ?_;show Tri ..;refine zAa ?_;refine zAp (zAE (X:=Nd×List Int) (fun x=>match x with | (n,p)=>⟨ofL [(0,.s (.pt (Nd.enc n))),(1,.s (.sl 1 (p.map (irow .i64)))),(4,.s .np),(5,.s (.bool false))],fun _=>none,0⟩)
  (fun x=>match x with | (n,p)=>zDT n p=y) (fun x=>match x with | (n,p)=>p.length) (n0,p0) hy (Le.forget [(0,.s (.pt (Nd.enc n0))),(1,.s (.sl 1 (p0.map (irow .i64)))),(4,.s .np),(5,.s (.bool false))] ⟨rfl,rfl,rfl,rfl,trivial⟩) ?_)
 rintro⟨⟨k,t,c,ks⟩,p⟩ hI;have hI:zDT (.mk k t c ks) p=y:=hI;refine zAa ?_;refine zQE [] [] rfl ?_;show Tri ..;refine zAB rfl (fun hb=>?_) (fun hb=>?_)
 ·refine zAh ?_;show Tri ..
  match p,hI,hb with
  | [],_,hb=>cases hb
  | [_],_,hb=>cases hb
  | i::s::p,hI,hb =>
   refine zAk (Le.forget [(0,.s (.pt (Nd.enc (.mk k t c ks)))),(1,.s (.sl 1 ((i::s::p).map (irow .i64)))),(4,.s .np),(5,.s (.bool false))] ⟨rfl,rfl,rfl,rfl,trivial⟩) ?_;refine zAa ?_;refine zAp ?_;refine zAa ?_;refine zJQ (by exact tokW) (by exact gok) (by exact mixed) [] [] [1,2,4,5] rfl (by decide +kernel) ?_;refine And.intro (show(0:Int)<=0/\(0:Int)<((((i::s::p).map (irow .i64)).length:Nat):Int) by simp only[List.map_cons,List.length_cons]; omega) ?_;refine And.intro (show(0:Int)<=1/\(1:Int)<((((i::s::p).map (irow .i64)).length:Nat):Int) by simp only[List.map_cons,List.length_cons]; omega) ?_
   show Tri ..;refine zAk (Le.forget [(0,.s (.pt [.int .i64 k,.str t,.int .i64 c,.sl 4 (Nd.encs ks)])),(1,.s (.sl 1 ((i::s::p).map (irow .i64)))),(4,.s .np),(5,.s (.bool false)),(6,.s (.int .i64 i)),(7,.s (.int .i64 s))] ⟨rfl,rfl,rfl,rfl,rfl,rfl,trivial⟩) ?_;refine zAa ?_;refine zAa ?_
   by_cases hi:i<0
   ·refine zAb [] [21] rfl ?_;intro b hb;obtain rfl:true=b:=(hb.trans (decide_eq_true hi)).symm;show Tri ..;refine zAB rfl (fun _=>?_) (fun h=>by cases h)
    refine zQE [] [] rfl ?_;show Tri ..;refine zAg ?_;obtain rfl:none=y:=(zFg (fun h=>by omega)).symm.trans hI;unfold zAu;exact⟨_,Le.forget [(5,.s (.bool false))] ⟨rfl,trivial⟩,rfl,rfl⟩
   by_cases hi2:(ks.length:Int)<=i
   ·refine zAb [] [21,29] rfl ?_;intro b hb;obtain rfl:false=b:=(hb.trans (decide_eq_false hi)).symm;intro b hb;obtain rfl:true=b:=(hb.trans (decide_eq_true (show(((Nd.encs ks).length:Nat):Int)<=i by rw[zGd]; exact hi2))).symm;show Tri ..;refine zAB rfl (fun _=>?_) (fun h=>by cases h)
    refine zQE [] [] rfl ?_;show Tri ..;refine zAg ?_;obtain rfl:none=y:=(zFg (n:=.mk k t c ks) (fun h=>by have:i<ks.length:=h.2; omega)).symm.trans hI;unfold zAu;exact⟨_,Le.forget [(5,.s (.bool false))] ⟨rfl,trivial⟩,rfl,rfl⟩
   refine zAb [] [21,29] rfl ?_;intro b hb;obtain rfl:false=b:=(hb.trans (decide_eq_false hi)).symm;intro b hb;obtain rfl:false=b:=(hb.trans (decide_eq_false (show ¬ (((Nd.encs ks).length:Nat):Int)<=i by rw[zGd]; exact hi2))).symm;show Tri ..;refine zAB rfl (fun h=>by cases h) (fun _=>?_)
   refine zAh ?_;show Tri ..;have hi0:i.toNat<ks.length :=(by omega);obtain⟨⟨k2,t2,c2,ks2⟩,hx⟩:∃ x,ks[i.toNat]? = some x:=⟨_,List.getElem?_eq_getElem hi0⟩
   refine zAk (Le.forget [(0,.s (.pt [.int .i64 k,.str t,.int .i64 c,.sl 4 (Nd.encs ks)])),(1,.s (.sl 1 ((i::s::p).map (irow .i64)))),(4,.s .np),(5,.s (.bool false)),(6,.s (.int .i64 i)),(7,.s (.int .i64 s))] ⟨rfl,rfl,rfl,rfl,rfl,rfl,trivial⟩) ?_;refine zQE [] [] rfl ?_;refine And.intro (show(0:Int)<=i/\i<(((Nd.encs ks).length:Nat):Int) by rw[zGd]; omega) ?_;show Tri ..
   refine zAk (Le.forget [(0,.s (.pt [.int .i64 k,.str t,.int .i64 c,.sl 4 (Nd.encs ks)])),(1,.s (.sl 1 ((i::s::p).map (irow .i64)))),(4,.s .np),(5,.s (.bool false)),(6,.s (.int .i64 i)),(7,.s (.int .i64 s)),(8,.s (.pt [.int .i64 k2,.str t2,.int .i64 c2,.sl 4 (Nd.encs ks2)]))] ⟨rfl,rfl,rfl,rfl,rfl,rfl,congrArg (fun z=>AV.s (.pt z)) (zOm hx),trivial⟩) ?_;refine zAa ?_;refine zAa ?_
   by_cases hs:s<0
   ·refine zAb [] [38] rfl ?_;intro b hb;obtain rfl:true=b:=(hb.trans (decide_eq_true hs)).symm;show Tri ..;refine zAB rfl (fun _=>?_) (fun h=>by cases h)
    refine zQE [] [] rfl ?_;show Tri ..;refine zAg ?_;obtain rfl:none=y:=(zFh (n:=.mk k t c ks) (by omega) hx (fun h=>by omega)).symm.trans hI;unfold zAu;exact⟨_,Le.forget [(5,.s (.bool false))] ⟨rfl,trivial⟩,rfl,rfl⟩
   by_cases hs2:(ks2.length:Int)<=s
   ·refine zAb [] [38,46] rfl ?_;intro b hb;obtain rfl:false=b:=(hb.trans (decide_eq_false hs)).symm;intro b hb;obtain rfl:true=b:=(hb.trans (decide_eq_true (show(((Nd.encs ks2).length:Nat):Int)<=s by rw[zGd]; exact hs2))).symm;show Tri ..;refine zAB rfl (fun _=>?_) (fun h=>by cases h)
    refine zQE [] [] rfl ?_;show Tri ..;refine zAg ?_;obtain rfl:none=y:=(zFh (n:=.mk k t c ks) (by omega) hx (fun h=>by have:s<ks2.length:=h.2; omega)).symm.trans hI;unfold zAu;exact⟨_,Le.forget [(5,.s (.bool false))] ⟨rfl,trivial⟩,rfl,rfl⟩
   refine zAb [] [38,46] rfl ?_;intro b hb;obtain rfl:false=b:=(hb.trans (decide_eq_false hs)).symm;intro b hb;obtain rfl:false=b:=(hb.trans (decide_eq_false (show ¬ (((Nd.encs ks2).length:Nat):Int)<=s by rw[zGd]; exact hs2))).symm;show Tri ..;refine zAB rfl (fun h=>by cases h) (fun _=>?_)
   refine zAh ?_;show Tri ..;have hs0:s.toNat<ks2.length :=(by omega);obtain⟨z,hz⟩:∃ z,ks2[s.toNat]? = some z:=⟨_,List.getElem?_eq_getElem hs0⟩
   refine zAk (Le.forget [(0,.s (.pt [.int .i64 k,.str t,.int .i64 c,.sl 4 (Nd.encs ks)])),(1,.s (.sl 1 ((i::s::p).map (irow .i64)))),(4,.s .np),(5,.s (.bool false)),(6,.s (.int .i64 i)),(7,.s (.int .i64 s)),(8,.s (.pt [.int .i64 k2,.str t2,.int .i64 c2,.sl 4 (Nd.encs ks2)]))] ⟨rfl,rfl,rfl,rfl,rfl,rfl,rfl,trivial⟩) ?_;refine zAb [] [] rfl ?_;refine And.intro (show(0:Int)<=s/\s<(((Nd.encs ks2).length:Nat):Int) by rw[zGd]; omega) ?_;show Tri ..
   refine zAk (Le.forget [(0,.s (.pt (Nd.enc z))),(1,.s (.sl 1 ((i::s::p).map (irow .i64)))),(4,.s .np),(5,.s (.bool false))] ⟨congrArg (fun z=>AV.s (.pt z)) (zOm hz),rfl,rfl,rfl,trivial⟩) ?_;refine zAb [] [] rfl ?_;refine And.intro (show(0:Int)<=2/\(2:Int)<=((((i::s::p).map (irow .i64)).length:Nat):Int)/\_<=_ from⟨by decide,by simp only[List.map_cons,List.length_cons]; omega,Int.le_refl _⟩) ?_
   exact⟨(z,p),(zKy (n:=.mk k t c ks) (by omega) hx (by omega) hz).symm.trans hI,Le.forget [(0,.s (.pt (Nd.enc z))),(1,.s (.sl 1 (p.map (irow .i64)))),(4,.s .np),(5,.s (.bool false))] ⟨rfl,congrArg (fun z=>AV.s (.sl 1 z)) (by rw[Int.toNat_natCast,List.take_length]; rfl),rfl,rfl,trivial⟩,by show p.length<p.length+1+1; omega⟩
 ·refine zAJ ?_;show Tri ..;refine zAa ?_
  match p,hI,hb with
  | [],hI,_ =>
   refine zAb [] [] rfl ?_;show Tri ..;refine zAg ?_;obtain rfl:some (.mk k t c ks)=y:=hI;unfold zAu;exact⟨_,Le.refl _ _,rfl,rfl⟩
  | [i],hI,_ =>
   refine zAb [] [] rfl ?_;show Tri ..;refine zAg ?_;obtain rfl:none=y:=hI;unfold zAu;exact⟨_,Le.forget [(5,.s (.bool false))] ⟨rfl,trivial⟩,rfl,rfl⟩
  | i::s::p,_,hb=>exact absurd (of_decide_eq_false hb) (by simp only[List.map_cons,List.length_cons]; omega)
def zAZ (slices1:List (List Nd)):Nat->Int->Int->Option (Int)
| 0,_,_=>none
| k+1,x3,size4 =>
 bif decide (x3<(slices1.length:Int)) then (
  (at? slices1 x3).bind fun e6 =>
  bif decide ((IntKind.i64.wrap (size4+(e6.length:Int)))<0) then (
   none
  ) else (
   zAZ slices1 k (IntKind.i64.wrap (x3+1)) (IntKind.i64.wrap (size4+(e6.length:Int)))
  )
 ) else (
  some size4
 )
def zA0 (slices1:List (List Nd)):Nat->Int->(List Nd)->Option ((List Nd))
| 0,_,_=>none
| k+1,x11,l13 =>
 bif decide (x11<(slices1.length:Int)) then (
  (at? slices1 x11).bind fun e15 =>
  req (l13.length+e15.length<=4294967296) <|
  zA0 slices1 k (IntKind.i64.wrap (x11+1)) (l13++e15)
 ) else (
  some l13
 )
def zCk (n:Nat):(List (List Nd))->Option (List Nd)
| slices1 =>
 (zAZ slices1 n 0 0).bind fun size5 =>
 (zEn size5).bind fun y9 =>
 (zA0 slices1 n 0 y9).bind fun l14 =>
 some l14
def zA3 (n:Nat):(zO8×List Nd)->Int->(List Nd)->Option (List Nd)
| ⟨⟨c1V,c1Ag,c1N,c1W,c1T,c1U,c1Af,c1Ae⟩,c1O⟩,n2,nodes3 =>
 req (0<=(0:Int)/\(0:Int)<=c1N/\c1N<=(c1O.length:Int)) <|
 req (0<=(IntKind.i64.wrap (c1N+n2))/\(IntKind.i64.wrap (c1N+n2))<=(c1O.length:Int)/\(c1O.length:Int)<=(c1O.length:Int)) <|
 (zCk n [(c1O.take c1N.toNat).drop (0:Int).toNat,nodes3,(c1O.take (c1O.length:Int).toNat).drop (IntKind.i64.wrap (c1N+n2)).toNat]).bind fun y7 =>
 some y7
def zBD (n:Nat):(zO8×List Nd)->Option ((List Nd)×Int)
| ⟨⟨c1V,c1Ag,c1N,c1W,c1T,c1U,c1Af,c1Ae⟩,c1O⟩ =>
 (at? c1O c1N).bind fun⟨e2A,e2B,e2D,e2C⟩ =>
 (zDa (Nd.mk e2A e2B e2D e2C)).bind fun⟨y4A,y4B,y4D,y4C⟩ =>
 (zDF (Nd.mk y4A y4B y4D y4C)).bind fun y5 =>
 bif decide (y5<=c1U) then (
  some ([],7)
 ) else (
  (at? y4C c1U).bind fun⟨e6A,e6B,e6D,e6C⟩ =>
  (at? y4C c1U).bind fun⟨e7A,e7B,e7D,e7C⟩ =>
  (
   bif ((e6C.length:Int) != c1W) then (
    some true
   ) else (
    (at? c1T 0).bind fun⟨e11A,e11B,e11D,e11C⟩ =>
    (zCi n (Nd.mk y4A y4B y4D (y4C.set c1U.toNat (Nd.mk e7A e7B e7D []))) (Nd.mk e11A e11B e11D e11C)).bind fun y13 =>
    some (!y13)
   )
   : Option (Bool)).bind fun x9 =>
  bif x9 then (
   some ([],7)
  ) else (
   (zA3 n ((c1V,c1Ag,c1N,c1W,c1T,c1U,c1Af,c1Ae),c1O) 1 e6C).bind fun y14 =>
   some (y14,0)
  )
 )
def zDb (n:Nat):(zO8×List Nd)->Option ((List Nd)×Int)
| ⟨⟨c1V,c1Ag,c1N,c1W,c1T,c1U,c1Af,c1Ae⟩,c1O⟩ =>
 (at? c1T 0).bind fun⟨e2A,e2B,e2D,e2C⟩ =>
 (zDa (Nd.mk e2A e2B e2D e2C)).bind fun⟨y4A,y4B,y4D,y4C⟩ =>
 req (0<=c1N/\c1N<=IntKind.i64.wrap (c1N+c1W)/\IntKind.i64.wrap (c1N+c1W)<=(c1O.length:Int)) <|
 (zDR ((c1O.take (IntKind.i64.wrap (c1N+c1W)).toNat).drop c1N.toNat)).bind fun y6 =>
 (at? y4C c1U).bind fun⟨e7A,e7B,e7D,e7C⟩ =>
 (zA3 n ((c1V,c1Ag,c1N,c1W,c1T,c1U,c1Af,c1Ae),c1O) c1W [Nd.mk y4A y4B y4D (y4C.set c1U.toNat (Nd.mk e7A e7B e7D y6))]).bind fun y10 =>
 some (y10,0)
def zCE (n:Nat):(zO8×List Nd)->Option ((List Nd)×Int)
| ⟨⟨c1V,c1Ag,c1N,c1W,c1T,c1U,c1Af,c1Ae⟩,c1O⟩ =>
 (zA3 n ((c1V,c1Ag,c1N,c1W,c1T,c1U,c1Af,c1Ae),c1O) 0 c1T).bind fun y2 =>
 some (y2,0)
def zCF (n:Nat):(zO8×List Nd)->Option ((List Nd)×Int)
| ⟨⟨c1V,c1Ag,c1N,c1W,c1T,c1U,c1Af,c1Ae⟩,c1O⟩ =>
 req (0<=c1N/\c1N<=IntKind.i64.wrap (c1N+(c1T.length:Int))/\IntKind.i64.wrap (c1N+(c1T.length:Int))<=(c1O.length:Int)) <|
 (zA1 n ((c1O.take (IntKind.i64.wrap (c1N+(c1T.length:Int))).toNat).drop c1N.toNat) c1T).bind fun y4 =>
 bif (!y4) then (
  some ([],7)
 ) else (
  (zA3 n ((c1V,c1Ag,c1N,c1W,c1T,c1U,c1Af,c1Ae),c1O) (c1T.length:Int) []).bind fun y5 =>
  some (y5,0)
 )
def zDr (n:Nat):(zO8×List Nd)->Option ((List Nd)×Int)
| ⟨⟨c1V,c1Ag,c1N,c1W,c1T,c1U,c1Af,c1Ae⟩,c1O⟩ =>
 (at? c1O c1N).bind fun⟨e2A,e2B,e2D,e2C⟩ =>
 (
  (
   bif (e2A == 2) then (
    some (e2A == 2)
   ) else (
    bif (e2A == 3) then (
     some (e2A == 3)
    ) else (
     bif (e2A == 4) then (
      some (e2A == 4)
     ) else (
      bif (e2A == 10) then (
       some (e2A == 10)
      ) else (
       some (e2A == 11)
      )
     )
    )
   )
   : Option (Bool)).bind fun x4 =>
  bif x4 then (
   some (.go ())
  ) else (
   some (.ret ([],7))
  )
  : Option (Fl ((List Nd)×Int) Unit)).bind fun fl=>match fl with
 | .ret r=>some r
 | .go _ =>
  bif (!(e2B == c1Af)) then (
   some ([],7)
  ) else (
   (zA3 n ((c1V,c1Ag,c1N,c1W,c1T,c1U,c1Af,c1Ae),c1O) 1 [Nd.mk e2A c1Ae e2D e2C]).bind fun y6 =>
   some (y6,0)
  )
def zCD:(zO8×List Nd)->Option Int
| ⟨⟨c1V,c1Ag,c1N,c1W,c1T,c1U,c1Af,c1Ae⟩,c1O⟩ =>
 (
  bif (c1V == 1) then (
   some 0
  ) else (
   bif (c1V == 2) then (
    some (c1T.length:Int)
   ) else (
    bif (c1V == 3) then (
     some c1W
    ) else (
     some 1
    )
   )
  )
  : Option (Int)).bind fun need2 =>
 (
  bif decide (c1N<0) then (
   some true
  ) else (
   bif decide ((c1O.length:Int)<c1N) then (
    some true
   ) else (
    some (decide ((IntKind.i64.wrap ((c1O.length:Int) - c1N))<need2))
   )
  )
  : Option (Bool)).bind fun x4 =>
 bif x4 then (
  some 2
 ) else (
  some 0
 )
def zDJ (n:Nat):(List Nd)->Int->Option Bool
| l1,slot2 =>
 (
  bif ((l1.length:Int) != 1) then (
   some true
  ) else (
   (zCt n l1).bind fun y5 =>
   bif (!y5) then (
    some true
   ) else (
    bif decide (slot2<0) then (
     some true
    ) else (
     (at? l1 0).bind fun⟨e6A,e6B,e6D,e6C⟩ =>
     (zDF (Nd.mk e6A e6B e6D e6C)).bind fun y8 =>
     some (decide (y8<=slot2))
    )
   )
  )
  : Option (Bool)).bind fun x3 =>
 bif x3 then (
  some false
 ) else (
  (at? l1 0).bind fun⟨e9A,e9B,e9D,e9C⟩ =>
  (at? e9C slot2).bind fun⟨e11A,e11B,e11D,e11C⟩ =>
  some ((e11C.length:Int) == 0)
 )
def zFk (n:Nat):zO8->Option Bool
| ⟨a1A,a1Z,a1Ad,a1X,a1M,a1Y,a1Aa,a1B⟩ =>
 (
  bif (!(a1Aa == [])) then (
   some true
  ) else (
   some (!(a1B == []))
  )
  : Option (Bool)).bind fun x2 =>
 (
  (
   bif (a1A == 1) then (
    some (a1A == 1)
   ) else (
    some (a1A == 2)
   )
   : Option (Bool)).bind fun x3 =>
  bif x3 then (
   (
    bif (a1X == 0) then (
     bif (a1Y == 0) then (
      bif (!x2) then (
       bif decide (0<(a1M.length:Int)) then (
        (zCt n a1M).bind fun y6 =>
        some y6
       ) else (
        some false
       )
      ) else (
       some false
      )
     ) else (
      some false
     )
    ) else (
     some false
    )
    : Option (Bool)).bind fun x4 =>
   some (.ret x4)
  ) else (
   (
    bif (a1A == 3) then (
     some (a1A == 3)
    ) else (
     some (a1A == 4)
    )
    : Option (Bool)).bind fun x7 =>
   bif x7 then (
    (
     bif decide (0<=a1X) then (
      bif (!x2) then (
       (zDJ n a1M a1Y).bind fun y9 =>
       some y9
      ) else (
       some false
      )
     ) else (
      some false
     )
     : Option (Bool)).bind fun x8 =>
    some (.ret x8)
   ) else (
    bif (a1A == 5) then (
     (
      bif (a1X == 0) then (
       bif (a1Y == 0) then (
        bif ((a1M.length:Int) == 0) then (
         some (!(a1Aa == a1B))
        ) else (
         some false
        )
       ) else (
        some false
       )
      ) else (
       some false
      )
      : Option (Bool)).bind fun x10 =>
     some (.ret x10)
    ) else (
     some (.go ())
    )
   )
  )
  : Option (Fl Bool Unit)).bind fun fl=>match fl with
 | .ret r=>some r
 | .go _ =>
  some false
def zCT:(List Int)->Option (List Int)
| l1 =>
 (zBl l1).bind fun y2 =>
 some y2
def zBi (l1:List Nd):Nat->Int->(List Nd)->Option ((List Nd))
| 0,_,_=>none
| k+1,x4,l5 =>
 bif decide (x4<(l1.length:Int)) then (
  (at? l1 x4).bind fun⟨e7A,e7B,e7D,e7C⟩ =>
  (zAR (Nd.mk e7A e7B e7D e7C)).bind fun⟨y9A,y9B,y9D,y9C⟩ =>
  req (l5.length + [Nd.mk y9A y9B y9D y9C].length<=4294967296) <|
  zBi l1 k (IntKind.i64.wrap (x4+1)) (l5++[Nd.mk y9A y9B y9D y9C])
 ) else (
  some l5
 )
def zED (n:Nat):(List Nd)->Option (List Nd)
| l1 =>
 (zBi l1 n 0 []).bind fun l6 =>
 some l6
def zFa (n:Nat):zO8->Option zO8
| ⟨op1A,op1Z,op1Ad,op1X,op1M,op1Y,op1Aa,op1B⟩ =>
 (zCT op1Z).bind fun y2 =>
 (zED n op1M).bind fun y3 =>
 some (op1A,y2,op1Ad,op1X,y3,op1Y,op1Aa,op1B)
def zBE:(zO8×List Nd)->Option ((List Nd)×Int)
| ⟨⟨c1V,c1Ag,c1N,c1W,c1T,c1U,c1Af,c1Ae⟩,c1O⟩ =>
 (at? c1O c1N).bind fun⟨e2A,e2B,e2D,e2C⟩ =>
 (zAR (Nd.mk e2A e2B e2D e2C)).bind fun⟨y4A,y4B,y4D,y4C⟩ =>
 (zDF (Nd.mk y4A y4B y4D y4C)).bind fun y5 =>
 bif decide (y5<=c1U) then (
  some ([],7)
 ) else (
  none
 )
def zCG (n:Nat) (c:zO8×List Nd):Option (List Nd×Int) :=
 match zBE c with
 | some r=>some r
 | none=>zBD n c
def zCU (n:Nat):(zO8×List Nd)->Option ((List Nd)×Int)
| ⟨⟨c1V,c1Ag,c1N,c1W,c1T,c1U,c1Af,c1Ae⟩,c1O⟩ =>
 (zCD ((c1V,c1Ag,c1N,c1W,c1T,c1U,c1Af,c1Ae),c1O)).bind fun y2 =>
 bif (y2 != 0) then (
  some ([],y2)
 ) else (
  bif (c1V == 1) then (
   (zCE n ((c1V,c1Ag,c1N,c1W,c1T,c1U,c1Af,c1Ae),c1O)).bind fun⟨y3,y4⟩ =>
   some (y3,y4)
  ) else (
   bif (c1V == 2) then (
    (zCF n ((c1V,c1Ag,c1N,c1W,c1T,c1U,c1Af,c1Ae),c1O)).bind fun⟨y5,y6⟩ =>
    some (y5,y6)
   ) else (
    bif (c1V == 3) then (
     (zDb n ((c1V,c1Ag,c1N,c1W,c1T,c1U,c1Af,c1Ae),c1O)).bind fun⟨y7,y8⟩ =>
     some (y7,y8)
    ) else (
     bif (c1V == 4) then (
      (zCG n ((c1V,c1Ag,c1N,c1W,c1T,c1U,c1Af,c1Ae),c1O)).bind fun⟨y9,y10⟩ =>
      some (y9,y10)
     ) else (
      (zDr n ((c1V,c1Ag,c1N,c1W,c1T,c1U,c1Af,c1Ae),c1O)).bind fun⟨y11,y12⟩ =>
      some (y11,y12)
     )
    )
   )
  )
 )
def zFS (n:Nat):Nd->zO8->Option (Nd×Int)
| ⟨n1A,n1B,n1D,n1C⟩,⟨op2A,op2Z,op2Ad,op2X,op2M,op2Y,op2Aa,op2B⟩ =>
 (zAS n (Nd.mk n1A n1B n1D n1C)).bind fun y3 =>
 bif (!y3) then (
  some (Nd.mk 0 [] 0 [],1)
 ) else (
  (zFk n (op2A,op2Z,op2Ad,op2X,op2M,op2Y,op2Aa,op2B)).bind fun y4 =>
  bif (!y4) then (
   some (Nd.mk 0 [] 0 [],4)
  ) else (
   (zHZ n (Nd.mk n1A n1B n1D n1C) op2Z).bind fun⟨⟨y5A,y5B,y5D,y5C⟩,y6⟩ =>
   bif (y6 != 0) then (
    some (Nd.mk 0 [] 0 [],y6)
   ) else (
    (zCU n ((op2A,op2Z,op2Ad,op2X,op2M,op2Y,op2Aa,op2B),y5C)).bind fun⟨y7,y8⟩ =>
    bif (y8 != 0) then (
     some (Nd.mk 0 [] 0 [],y8)
    ) else (
     (zG0 n (Nd.mk n1A n1B n1D n1C) op2Z (Nd.mk y5A y5B y5D y7)).bind fun⟨⟨y9A,y9B,y9D,y9C⟩,y10⟩ =>
     bif (y10 != 0) then (
      some (Nd.mk 0 [] 0 [],6)
     ) else (
      some (Nd.mk y9A y9B y9D y9C,0)
     )
    )
   )
  )
 )
def zBy (n:Nat) (ops2:List zO8):Nat->Int->(List UInt8)->Int->(List Nd)->Int->Option (Fl (Nd×Int×Int) (Int×(List UInt8)×Int×(List Nd)))
| 0,_,_,_,_,_=>none
| k+1,x7,x8,x9,x10,x11 =>
 bif decide (x11<(ops2.length:Int)) then (
  (at? ops2 x11).bind fun⟨e16A,e16Z,e16Ad,e16X,e16M,e16Y,e16Aa,e16B⟩ =>
  (zFS n (Nd.mk x7 x8 x9 x10) (e16A,e16Z,e16Ad,e16X,e16M,e16Y,e16Aa,e16B)).bind fun⟨⟨y18A,y18B,y18D,y18C⟩,y19⟩ =>
  bif (y19 != 0) then (
   some (.ret (Nd.mk 0 [] 0 [],x11,y19))
  ) else (
   zBy n ops2 k y18A y18B y18D y18C (IntKind.i64.wrap (x11+1))
  )
 ) else (
  some (.go (x7,x8,x9,x10))
 )
def zEl (n:Nat):Nd->(List zO8)->Option (Nd×Int×Int)
| ⟨n1A,n1B,n1D,n1C⟩,ops2 =>
 (zAS n (Nd.mk n1A n1B n1D n1C)).bind fun y3 =>
 bif (!y3) then (
  some (Nd.mk 0 [] 0 [],0,1)
 ) else (
  (zAR (Nd.mk n1A n1B n1D n1C)).bind fun⟨y4A,y4B,y4D,y4C⟩ =>
  (zBy n ops2 n y4A y4B y4D y4C 0).bind fun fl=>match fl with
  | .ret r=>some r
  | .go ⟨x12,x13,x14,x15⟩ =>
   some (Nd.mk x12 x13 x14 x15,0,0)
 )
def zDf (n:Nat):Nd->Option ((Option (Nd×Nd×List zRc×Int))×Int)
| ⟨n1A,n1B,n1D,n1C⟩ =>
 (zAS n (Nd.mk n1A n1B n1D n1C)).bind fun y2 =>
 bif (!y2) then (
  some (none,1)
 ) else (
  (zAR (Nd.mk n1A n1B n1D n1C)).bind fun⟨y3A,y3B,y3D,y3C⟩ =>
  (zAR (Nd.mk n1A n1B n1D n1C)).bind fun⟨y4A,y4B,y4D,y4C⟩ =>
  some (some (Nd.mk y3A y3B y3D y3C,Nd.mk y4A y4B y4D y4C,[],0),0)
 )
def zBR (n:Nat) (l1:List zO8):Nat->Int->(List zO8)->Option ((List zO8))
| 0,_,_=>none
| k+1,x4,l5 =>
 bif decide (x4<(l1.length:Int)) then (
  (at? l1 x4).bind fun⟨e7A,e7Z,e7Ad,e7X,e7M,e7Y,e7Aa,e7B⟩ =>
  (zFa n (e7A,e7Z,e7Ad,e7X,e7M,e7Y,e7Aa,e7B)).bind fun⟨y9A,y9Z,y9Ad,y9X,y9M,y9Y,y9Aa,y9B⟩ =>
  req (l5.length + [(y9A,y9Z,y9Ad,y9X,y9M,y9Y,y9Aa,y9B)].length<=4294967296) <|
  zBR n l1 k (IntKind.i64.wrap (x4+1)) (l5++[(y9A,y9Z,y9Ad,y9X,y9M,y9Y,y9Aa,y9B)])
 ) else (
  some l5
 )
def zGf (n:Nat):(List zO8)->Option (List zO8)
| l1 =>
 (zBR n l1 n 0 []).bind fun l6 =>
 some l6
def zBw:zCu->Option zCu
| ⟨c1Aq,c1Ap⟩ =>
 (zCT c1Aq).bind fun y2 =>
 (zCT c1Ap).bind fun y3 =>
 some (y2,y3)
def zCr (n:Nat):zRc->Option zRc
| ⟨r1Aj,⟨r1Ak,r1Al⟩,⟨r1Am,r1An⟩⟩ =>
 (zGf n r1Aj).bind fun y2 =>
 (zBw (r1Ak,r1Al)).bind fun⟨y3Aq,y3Ap⟩ =>
 (zBw (r1Am,r1An)).bind fun⟨y4Aq,y4Ap⟩ =>
 some (y2,(y3Aq,y3Ap),(y4Aq,y4Ap))
def zAO (n:Nat) (o1:List zRc):Nat->Int->(List zRc)->Option ((List zRc))
| 0,_,_=>none
| k+1,x4,l5 =>
 bif decide (x4<(o1.length:Int)) then (
  (at? o1 x4).bind fun⟨e7Aj,⟨e7Ak,e7Al⟩,⟨e7Am,e7An⟩⟩ =>
  (zCr n (e7Aj,(e7Ak,e7Al),(e7Am,e7An))).bind fun⟨y8Aj,⟨y8Ak,y8Al⟩,⟨y8Am,y8An⟩⟩ =>
  req (l5.length + [(y8Aj,(y8Ak,y8Al),(y8Am,y8An))].length<=4294967296) <|
  zAO n o1 k (IntKind.i64.wrap (x4+1)) (l5++[(y8Aj,(y8Ak,y8Al),(y8Am,y8An))])
 ) else (
  some l5
 )
def zB7 (n:Nat):(List zRc)->Option (List zRc)
| o1 =>
 (zAO n o1 n 0 []).bind fun l6 =>
 some l6
def zAU (n:Nat):(Nd×Nd×List zRc×Int)->Option ((List zRc)×(Nd×Nd×List zRc×Int))
| ⟨⟨o1I,o1J,o1K,o1L⟩,⟨o1P,o1Q,o1R,o1S⟩,o1G,o1H⟩ =>
 (zB7 n o1G).bind fun y2 =>
 some (y2,(Nd.mk o1I o1J o1K o1L,Nd.mk o1P o1Q o1R o1S,o1G,o1H))
def zBn:(Nd×Nd×List zRc×Int)->Option (Int×(Nd×Nd×List zRc×Int))
| ⟨⟨o1I,o1J,o1K,o1L⟩,⟨o1P,o1Q,o1R,o1S⟩,o1G,o1H⟩ =>
 some (o1H,(Nd.mk o1I o1J o1K o1L,Nd.mk o1P o1Q o1R o1S,o1G,o1H))
def zAX:(Nd×Nd×List zRc×Int)->Option (Nd×(Nd×Nd×List zRc×Int))
| ⟨⟨o1I,o1J,o1K,o1L⟩,⟨o1P,o1Q,o1R,o1S⟩,o1G,o1H⟩ =>
 (zAR (Nd.mk o1I o1J o1K o1L)).bind fun⟨y2A,y2B,y2D,y2C⟩ =>
 some (Nd.mk y2A y2B y2D y2C,(Nd.mk o1I o1J o1K o1L,Nd.mk o1P o1Q o1R o1S,o1G,o1H))
def zBV (F_codec_valid:CV->Int->Option Bool) (a1E:List CV) (a2:Int):Nat->Int->Option (Fl Bool Unit)
| 0,_=>none
| k+1,x9 =>
 bif decide (x9<(a1E.length:Int)) then (
  (at? a1E x9).bind fun⟨e10A,e10F,e10B,e10E⟩ =>
  (F_codec_valid (CV.mk e10A e10F e10B e10E) (IntKind.i64.wrap (a2+1))).bind fun y12 =>
  bif (!y12) then (
   some (.ret false)
  ) else (
   zBV F_codec_valid a1E a2 k (IntKind.i64.wrap (x9+1))
  )
 ) else (
  some (.go ())
 )
def zCq:Nat->CV->Int->Option Bool
| 0,_,_=>none
| n+1,⟨a1A,a1F,a1B,a1E⟩,a2 =>
 bif decide (64<a2) then (
  some false
 ) else (
  bif (a1A == 1) then (
   (
    bif (a1B == []) then (
     some ((a1E.length:Int) == 0)
    ) else (
     some false
    )
    : Option (Bool)).bind fun x3 =>
   some x3
  ) else (
   bif (a1A == 2) then (
    (
     bif (a1F == 0) then (
      some ((a1E.length:Int) == 0)
     ) else (
      some false
     )
     : Option (Bool)).bind fun x5 =>
    some x5
   ) else (
    bif (a1A == 3) then (
     (
      bif (a1F != 0) then (
       some true
      ) else (
       some (!(a1B == []))
      )
      : Option (Bool)).bind fun x7 =>
     bif x7 then (
      some false
     ) else (
      (zBV (zCq n) a1E a2 n 0).bind fun fl=>match fl with
      | .ret r=>some r
      | .go _ =>
       some true
     )
    ) else (
     some false
    )
   )
  )
 )
def zFj (n:Nat):CV->Option Bool
| ⟨v1A,v1F,v1B,v1E⟩ =>
 (zCq n (CV.mk v1A v1F v1B v1E) 1).bind fun y2 =>
 some y2
def zER:CV->Option Int
| ⟨v1A,v1F,v1B,v1E⟩ =>
 bif (v1A == 2) then (
  some (IntKind.u64.wrap (v1B.length:Int))
 ) else (
  bif (v1A == 3) then (
   some (IntKind.u64.wrap (v1E.length:Int))
  ) else (
   bif decide (v1F<0) then (
    some (IntKind.u64.wrap ((IntKind.u64.wrap (2 * (IntKind.u64.wrap (IntKind.i64.wrap (0 - (IntKind.i64.wrap (v1F+1)))))))+1))
   ) else (
    some (IntKind.u64.wrap (2 * (IntKind.u64.wrap v1F)))
   )
  )
 )
def zBv  : Nat->Int->Int->Option (Int)
| 0,_,_=>none
| k+1,n2,k3 =>
 bif (n2 != 0) then (
  zBv k (n2.fdiv (2 ^ (min (8:Int).toNat IntKind.u64.bits))) (IntKind.i64.wrap (k3+1))
 ) else (
  some k3
 )
def zEj (n:Nat):Int->Option Int
| n1 =>
 (zBv  n (n1.fdiv (2 ^ (min (8:Int).toNat IntKind.u64.bits))) 1).bind fun k4 =>
 some k4
def zCg (y3:Int):Nat->Int->(List UInt8)->Option ((List UInt8))
| 0,_,_=>none
| k+1,i8,l9 =>
 bif decide (0<=i8) then (
  req (0<=IntKind.i64.wrap (8 * i8)) <|
  req (l9.length + [b8of (IntKind.u8.wrap (y3.fdiv (2 ^ (min (IntKind.i64.wrap (8 * i8)).toNat IntKind.u64.bits))))].length<=4294967296) <|
  zCg y3 k (IntKind.i64.wrap (i8 - 1)) (l9++[b8of (IntKind.u8.wrap (y3.fdiv (2 ^ (min (IntKind.i64.wrap (8 * i8)).toNat IntKind.u64.bits))))])
 ) else (
  some l9
 )
def zFR (n:Nat):(List UInt8)->CV->Option (List UInt8)
| b1,⟨v2A,v2F,v2B,v2E⟩ =>
 (zER (CV.mk v2A v2F v2B v2E)).bind fun y3 =>
 bif decide (y3<56) then (
  req (b1.length + [b8of (IntKind.u8.wrap ((IntKind.u8.wrap (IntKind.i64.wrap (64 * v2A)))+(IntKind.u8.wrap y3)))].length<=4294967296) <|
  some (b1++[b8of (IntKind.u8.wrap ((IntKind.u8.wrap (IntKind.i64.wrap (64 * v2A)))+(IntKind.u8.wrap y3)))])
 ) else (
  (zEj n y3).bind fun y5 =>
  req (b1.length + [b8of (IntKind.u8.wrap (IntKind.i64.wrap ((IntKind.i64.wrap ((IntKind.i64.wrap ((IntKind.i64.wrap (64 * v2A))+56)) - 1))+y5)))].length<=4294967296) <|
  (zCg y3 n (IntKind.i64.wrap (y5 - 1)) (b1++[b8of (IntKind.u8.wrap (IntKind.i64.wrap ((IntKind.i64.wrap ((IntKind.i64.wrap ((IntKind.i64.wrap (64 * v2A))+56)) - 1))+y5)))])).bind fun l10 =>
  some l10
 )
def zBG (F_codec_encode:(List UInt8)->CV->Option (List UInt8)) (v2E:List CV):Nat->Int->(List UInt8)->Option (Fl (List UInt8) ((List UInt8)))
| 0,_,_=>none
| k+1,x6,l7 =>
 bif decide (x6<(v2E.length:Int)) then (
  bif decide (1048576<(l7.length:Int)) then (
   some (.ret l7)
  ) else (
   (at? v2E x6).bind fun⟨e10A,e10F,e10B,e10E⟩ =>
   (F_codec_encode l7 (CV.mk e10A e10F e10B e10E)).bind fun y12 =>
   zBG F_codec_encode v2E k (IntKind.i64.wrap (x6+1)) y12
  )
 ) else (
  some (.go l7)
 )
def zB0:Nat->(List UInt8)->CV->Option (List UInt8)
| 0,_,_=>none
| n+1,b1,⟨v2A,v2F,v2B,v2E⟩ =>
 (zFR n b1 (CV.mk v2A v2F v2B v2E)).bind fun y3 =>
 bif decide (1048576<(v2B.length:Int)) then (
  req (0<=(0:Int)/\(0:Int)<=(1048577:Int)/\(1048577:Int)<=(v2B.length:Int)) <|
  req (y3.length+((v2B.take (1048577:Int).toNat).drop (0:Int).toNat).length<=4294967296) <|
  some (y3++((v2B.take (1048577:Int).toNat).drop (0:Int).toNat))
 ) else (
  req (y3.length+v2B.length<=4294967296) <|
  (zBG (zB0 n) v2E n 0 (y3++v2B)).bind fun fl=>match fl with
  | .ret r=>some r
  | .go l8 =>
   some l8
 )
def zEQ (n:Nat):CV->Option ((List UInt8)×Int)
| ⟨v1A,v1F,v1B,v1E⟩ =>
 (zFj n (CV.mk v1A v1F v1B v1E)).bind fun y2 =>
 bif (!y2) then (
  some ([],1)
 ) else (
  (zB0 n [] (CV.mk v1A v1F v1B v1E)).bind fun y3 =>
  bif decide (1048576<(y3.length:Int)) then (
   some ([],6)
  ) else (
   some (y3,0)
  )
 )
def zBx (b2:List UInt8):Nat->Int->Int->Option (Int)
| 0,_,_=>none
| k+1,h4,x5 =>
 bif decide (x5<(b2.length:Int)) then (
  (at? b2 x5).bind fun e7 =>
  zBx b2 k (IntKind.u64.wrap ((zHU .xor .u64 h4 (IntKind.u64.wrap (e7.toNat:Int))) * 1099511628211)) (IntKind.i64.wrap (x5+1))
 ) else (
  some h4
 )
def zEk (n:Nat):Int->(List UInt8)->Option Int
| h1,b2 =>
 (zBx b2 n h1 0).bind fun h6 =>
 some h6
def zES (n:Nat):(List UInt8)->Option Int
| b1 =>
 (zEk n 14695981039346656037 b1).bind fun y2 =>
 some y2
def zA5 (s1:List UInt8):Nat->Int->Option (Fl Bool Unit)
| 0,_=>none
| k+1,i2 =>
 bif decide (i2<(s1.length:Int)) then (
  (
   (at? s1 i2).bind fun c4 =>
   bif decide ((c4.toNat:Int)<32) then (
    some true
   ) else (
    (at? s1 i2).bind fun c6 =>
    some (decide (126<(c6.toNat:Int)))
   )
   : Option (Bool)).bind fun x3 =>
  bif x3 then (
   some (.ret false)
  ) else (
   zA5 s1 k (IntKind.i64.wrap (i2+1))
  )
 ) else (
  some (.go ())
 )
def zDd (n:Nat):(List UInt8)->Option Bool
| s1 =>
 (zA5 s1 n 0).bind fun fl=>match fl with
 | .ret r=>some r
 | .go _ =>
  some (decide ((s1.length:Int)<=200))
def zBX  : Nat->(List Int)->Nd->Option (Fl Bool ((List Int)×Nd))
| 0,_,_=>none
| k+1,x3,⟨x4A,x4B,x4D,x4C⟩ =>
 bif decide (3<=(x3.length:Int)) then (
  (at? x3 0).bind fun e8 =>
  (at? x3 1).bind fun e10 =>
  (
   bif decide (e8<0) then (
    some true
   ) else (
    bif decide ((x4C.length:Int)<=e8) then (
     some true
    ) else (
     bif decide (e10<0) then (
      some true
     ) else (
      (at? x4C e8).bind fun⟨e14A,e14B,e14D,e14C⟩ =>
      some (decide ((e14C.length:Int)<=e10))
     )
    )
   )
   : Option (Bool)).bind fun x12 =>
  bif x12 then (
   some (.ret false)
  ) else (
   (at? x4C e8).bind fun⟨e17A,e17B,e17D,e17C⟩ =>
   (at? e17C e10).bind fun⟨e19A,e19B,e19D,e19C⟩ =>
   req (0<=(2:Int)/\(2:Int)<=(x3.length:Int)/\(x3.length:Int)<=(x3.length:Int)) <|
   zBX k ((x3.take (x3.length:Int).toNat).drop (2:Int).toNat) (Nd.mk e19A e19B e19D e19C)
  )
 ) else (
  some (.go (x3,Nd.mk x4A x4B x4D x4C))
 )
def zFl (n:Nat):Nd->(List Int)->Option Bool
| ⟨a1A,a1B,a1D,a1C⟩,a2 =>
 (zBX  n a2 (Nd.mk a1A a1B a1D a1C)).bind fun fl=>match fl with
 | .ret r=>some r
 | .go ⟨x5,⟨x6A,x6B,x6D,x6C⟩⟩ =>
  (
   bif ((x5.length:Int) == 1) then (
    (at? x5 0).bind fun e24 =>
    bif decide (0<=e24) then (
     (at? x5 0).bind fun e26 =>
     some (decide (e26<=(x6C.length:Int)))
    ) else (
     some false
    )
   ) else (
    some false
   )
   : Option (Bool)).bind fun x22 =>
  some x22
def zCR (n:Nat):Nd->(List Int)->Option Bool
| ⟨n1A,n1B,n1D,n1C⟩,pos2 =>
 (
  (zAS n (Nd.mk n1A n1B n1D n1C)).bind fun y4 =>
  bif y4 then (
   (zFl n (Nd.mk n1A n1B n1D n1C) pos2).bind fun y5 =>
   some y5
  ) else (
   some false
  )
  : Option (Bool)).bind fun x3 =>
 some x3
def zDy (n:Nat):Nd->zCu->Option Bool
| ⟨n1A,n1B,n1D,n1C⟩,⟨c2Aq,c2Ap⟩ =>
 (
  (zCR n (Nd.mk n1A n1B n1D n1C) c2Aq).bind fun y4 =>
  bif y4 then (
   bif ((c2Ap.length:Int) == 0) then (
    some true
   ) else (
    (zCR n (Nd.mk n1A n1B n1D n1C) c2Ap).bind fun y6 =>
    some y6
   )
  ) else (
   some false
  )
  : Option (Bool)).bind fun x3 =>
 some x3
def zBJ (n:Nat) (a1G:List zRc) (a2:Int):Nat->Int->(List UInt8)->Int->(List Nd)->Int->(List UInt8)->Int->(List Nd)->Int->Option (Fl (Nd×Bool) (Int×(List UInt8)×Int×(List Nd)))
| 0,_,_,_,_,_,_,_,_,_=>none
| k+1,x11,x12,x13,x14,x15,x16,x17,x18,x19 =>
 bif decide (x19<(a1G.length:Int)) then (
  (
   (at? a1G x19).bind fun⟨e32Aj,⟨e32Ak,e32Al⟩,⟨e32Am,e32An⟩⟩ =>
   (zEl n (Nd.mk x11 x12 x13 x14) e32Aj).bind fun⟨⟨y34A,y34B,y34D,y34C⟩,y35,y36⟩ =>
   (
    bif (y36 != 0) then (
     some true
    ) else (
     (zDy n (Nd.mk x11 x12 x13 x14) (e32Ak,e32Al)).bind fun y38 =>
     bif (!y38) then (
      some true
     ) else (
      (zDy n (Nd.mk y34A y34B y34D y34C) (e32Am,e32An)).bind fun y39 =>
      some (!y39)
     )
    )
    : Option (Bool)).bind fun x37 =>
   bif x37 then (
    some (.ret (Nd.mk 0 [] 0 [],false))
   ) else (
    bif ((IntKind.i64.wrap (x19+1)) == a2) then (
     some (.go (y34A,y34B,y34D,y34C,y34A,y34B,y34D,y34C))
    ) else (
     some (.go (y34A,y34B,y34D,y34C,x15,x16,x17,x18))
    )
   )
   : Option (Fl (Nd×Bool) (Int×(List UInt8)×Int×(List Nd)×Int×(List UInt8)×Int×(List Nd)))).bind fun fl=>match fl with
  | .ret r=>some (.ret r)
  | .go ⟨x24,x25,x26,x27,x28,x29,x30,x31⟩ =>
   zBJ n a1G a2 k x24 x25 x26 x27 x28 x29 x30 x31 (IntKind.i64.wrap (x19+1))
 ) else (
  some (.go (x15,x16,x17,x18))
 )
def zB1 (n:Nat):(List UInt8×Nd×List zRc×Int)->Int->Option (Nd×Bool)
| ⟨a1Ao,⟨a1I,a1J,a1K,a1L⟩,a1G,a1H⟩,a2 =>
 (
  (zDd n a1Ao).bind fun y4 =>
  bif (!y4) then (
   some true
  ) else (
   (zAS n (Nd.mk a1I a1J a1K a1L)).bind fun y5 =>
   bif (!y5) then (
    some true
   ) else (
    bif decide (1000<(a1G.length:Int)) then (
     some true
    ) else (
     bif decide (a1H<0) then (
      some true
     ) else (
      some (decide ((a1G.length:Int)<a1H))
     )
    )
   )
  )
  : Option (Bool)).bind fun x3 =>
 bif x3 then (
  some (Nd.mk 0 [] 0 [],false)
 ) else (
  (zAR (Nd.mk a1I a1J a1K a1L)).bind fun⟨y8A,y8B,y8D,y8C⟩ =>
  (zBJ n a1G a2 n y8A y8B y8D y8C y8A y8B y8D y8C 0).bind fun fl=>match fl with
  | .ret r=>some r
  | .go ⟨x20,x21,x22,x23⟩ =>
   some (Nd.mk x20 x21 x22 x23,true)
 )
def zBO (n:Nat):(List UInt8×Nd×List zRc×Int)->Option Bool
| ⟨d1Ao,⟨d1I,d1J,d1K,d1L⟩,d1G,d1H⟩ =>
 (zB1 n (d1Ao,Nd.mk d1I d1J d1K d1L,d1G,d1H) 0).bind fun⟨⟨y2A,y2B,y2D,y2C⟩,y3⟩ =>
 some y3
def zDs:(List UInt8)->Option CV
| s1 =>
 some (CV.mk 2 0 s1 [])
def zCV:(List CV)->Option CV
| l1 =>
 some (CV.mk 3 0 [] l1)
def zA8:Int->Option CV
| n1 =>
 some (CV.mk 1 n1 [] [])
def zBj (F_file_writeTree:Nd->Option CV) (l1:List Nd):Nat->Int->(List CV)->Option ((List CV))
| 0,_,_=>none
| k+1,x6,l7 =>
 bif decide (x6<(l1.length:Int)) then (
  (at? l1 x6).bind fun⟨e9A,e9B,e9D,e9C⟩ =>
  (F_file_writeTree (Nd.mk e9A e9B e9D e9C)).bind fun⟨y11A,y11F,y11B,y11E⟩ =>
  req (l7.length + [CV.mk y11A y11F y11B y11E].length<=4294967296) <|
  zBj F_file_writeTree l1 k (IntKind.i64.wrap (x6+1)) (l7++[CV.mk y11A y11F y11B y11E])
 ) else (
  some l7
 )
mutual
def zBW:Nat->(List Nd)->Option CV
| 0,_=>none
| n+1,l1 =>
 (zBI ).bind fun⟨y2A,y2F,y2B,y2E⟩ =>
 (zBj (zBd n) l1 n 0 y2E).bind fun l8 =>
 some (CV.mk y2A y2F y2B l8)
def zBd:Nat->Nd->Option CV
| 0,_=>none
| n+1,⟨n1A,n1B,n1D,n1C⟩ =>
 (zBW n n1C).bind fun⟨y2A,y2F,y2B,y2E⟩ =>
 (zA8 n1A).bind fun⟨y3A,y3F,y3B,y3E⟩ =>
 (zDs n1B).bind fun⟨y4A,y4F,y4B,y4E⟩ =>
 (zA8 n1D).bind fun⟨y5A,y5F,y5B,y5E⟩ =>
 req ([CV.mk y3A y3F y3B y3E,CV.mk y4A y4F y4B y4E,CV.mk y5A y5F y5B y5E].length+y2E.length<=4294967296) <|
 (zCV ([CV.mk y3A y3F y3B y3E,CV.mk y4A y4F y4B y4E,CV.mk y5A y5F y5B y5E]++y2E)).bind fun⟨y6A,y6F,y6B,y6E⟩ =>
 some (CV.mk y6A y6F y6B y6E)
end
def zBz (l1:List Int):Nat->Int->(List CV)->Option ((List CV))
| 0,_,_=>none
| k+1,x6,l7 =>
 bif decide (x6<(l1.length:Int)) then (
  (at? l1 x6).bind fun e9 =>
  (zA8 e9).bind fun⟨y11A,y11F,y11B,y11E⟩ =>
  req (l7.length + [CV.mk y11A y11F y11B y11E].length<=4294967296) <|
  zBz l1 k (IntKind.i64.wrap (x6+1)) (l7++[CV.mk y11A y11F y11B y11E])
 ) else (
  some l7
 )
def zEm (n:Nat):(List Int)->Option CV
| l1 =>
 (zBI ).bind fun⟨y2A,y2F,y2B,y2E⟩ =>
 (zBz l1 n 0 y2E).bind fun l8 =>
 some (CV.mk y2A y2F y2B l8)
def zCN (n:Nat):(List Int)->Option CV
| l1 =>
 (zEm n l1).bind fun⟨y2A,y2F,y2B,y2E⟩ =>
 some (CV.mk y2A y2F y2B y2E)
def zEU (n:Nat):zO8->Option CV
| ⟨op1A,op1Z,op1Ad,op1X,op1M,op1Y,op1Aa,op1B⟩ =>
 (zBW n op1M).bind fun⟨y2A,y2F,y2B,y2E⟩ =>
 (zA8 op1A).bind fun⟨y3A,y3F,y3B,y3E⟩ =>
 (zCN n op1Z).bind fun⟨y4A,y4F,y4B,y4E⟩ =>
 (zA8 op1Ad).bind fun⟨y5A,y5F,y5B,y5E⟩ =>
 (zA8 op1X).bind fun⟨y6A,y6F,y6B,y6E⟩ =>
 (zA8 op1Y).bind fun⟨y7A,y7F,y7B,y7E⟩ =>
 (zDs op1Aa).bind fun⟨y8A,y8F,y8B,y8E⟩ =>
 (zDs op1B).bind fun⟨y9A,y9F,y9B,y9E⟩ =>
 (zCV [CV.mk y3A y3F y3B y3E,CV.mk y4A y4F y4B y4E,CV.mk y5A y5F y5B y5E,CV.mk y6A y6F y6B y6E,CV.mk y2A y2F y2B y2E,CV.mk y7A y7F y7B y7E,CV.mk y8A y8F y8B y8E,CV.mk y9A y9F y9B y9E]).bind fun⟨y11A,y11F,y11B,y11E⟩ =>
 some (CV.mk y11A y11F y11B y11E)
def zBH (n:Nat) (l1:List zO8):Nat->Int->(List CV)->Option ((List CV))
| 0,_,_=>none
| k+1,x6,l7 =>
 bif decide (x6<(l1.length:Int)) then (
  (at? l1 x6).bind fun⟨e9A,e9Z,e9Ad,e9X,e9M,e9Y,e9Aa,e9B⟩ =>
  (zEU n (e9A,e9Z,e9Ad,e9X,e9M,e9Y,e9Aa,e9B)).bind fun⟨y11A,y11F,y11B,y11E⟩ =>
  req (l7.length + [CV.mk y11A y11F y11B y11E].length<=4294967296) <|
  zBH n l1 k (IntKind.i64.wrap (x6+1)) (l7++[CV.mk y11A y11F y11B y11E])
 ) else (
  some l7
 )
def zET (n:Nat):(List zO8)->Option CV
| l1 =>
 (zBI ).bind fun⟨y2A,y2F,y2B,y2E⟩ =>
 (zBH n l1 n 0 y2E).bind fun l8 =>
 some (CV.mk y2A y2F y2B l8)
def zB8 (n:Nat):zCu->Option CV
| ⟨c1Aq,c1Ap⟩ =>
 (zCN n c1Aq).bind fun⟨y2A,y2F,y2B,y2E⟩ =>
 (zCN n c1Ap).bind fun⟨y3A,y3F,y3B,y3E⟩ =>
 (zCV [CV.mk y2A y2F y2B y2E,CV.mk y3A y3F y3B y3E]).bind fun⟨y5A,y5F,y5B,y5E⟩ =>
 some (CV.mk y5A y5F y5B y5E)
def zDe (n:Nat):zRc->Option CV
| ⟨r1Aj,⟨r1Ak,r1Al⟩,⟨r1Am,r1An⟩⟩ =>
 (zET n r1Aj).bind fun⟨y2A,y2F,y2B,y2E⟩ =>
 (zB8 n (r1Ak,r1Al)).bind fun⟨y3A,y3F,y3B,y3E⟩ =>
 (zB8 n (r1Am,r1An)).bind fun⟨y4A,y4F,y4B,y4E⟩ =>
 (zCV [CV.mk y2A y2F y2B y2E,CV.mk y3A y3F y3B y3E,CV.mk y4A y4F y4B y4E]).bind fun⟨y6A,y6F,y6B,y6E⟩ =>
 some (CV.mk y6A y6F y6B y6E)
def zA9 (n:Nat) (l1:List zRc):Nat->Int->(List CV)->Option ((List CV))
| 0,_,_=>none
| k+1,x6,l7 =>
 bif decide (x6<(l1.length:Int)) then (
  (at? l1 x6).bind fun⟨e9Aj,⟨e9Ak,e9Al⟩,⟨e9Am,e9An⟩⟩ =>
  (zDe n (e9Aj,(e9Ak,e9Al),(e9Am,e9An))).bind fun⟨y11A,y11F,y11B,y11E⟩ =>
  req (l7.length + [CV.mk y11A y11F y11B y11E].length<=4294967296) <|
  zA9 n l1 k (IntKind.i64.wrap (x6+1)) (l7++[CV.mk y11A y11F y11B y11E])
 ) else (
  some l7
 )
def zDc (n:Nat):(List zRc)->Option CV
| l1 =>
 (zBI ).bind fun⟨y2A,y2F,y2B,y2E⟩ =>
 (zA9 n l1 n 0 y2E).bind fun l8 =>
 some (CV.mk y2A y2F y2B l8)
def zCH (n:Nat):(List UInt8×Nd×List zRc×Int)->Option CV
| ⟨d1Ao,⟨d1I,d1J,d1K,d1L⟩,d1G,d1H⟩ =>
 (zDs d1Ao).bind fun⟨y2A,y2F,y2B,y2E⟩ =>
 (zBd n (Nd.mk d1I d1J d1K d1L)).bind fun⟨y3A,y3F,y3B,y3E⟩ =>
 (zA8 d1H).bind fun⟨y4A,y4F,y4B,y4E⟩ =>
 (zDc n d1G).bind fun⟨y5A,y5F,y5B,y5E⟩ =>
 (zCV [CV.mk y2A y2F y2B y2E,CV.mk y3A y3F y3B y3E,CV.mk y4A y4F y4B y4E,CV.mk y5A y5F y5B y5E]).bind fun⟨y7A,y7F,y7B,y7E⟩ =>
 some (CV.mk y7A y7F y7B y7E)
def zCM (y7:Int):Nat->Int->(List UInt8)->Option ((List UInt8))
| 0,_,_=>none
| k+1,shift9,l10 =>
 bif decide (0<=shift9) then (
  req (0<=shift9) <|
  req (l10.length + [b8of (IntKind.u8.wrap (y7.fdiv (2 ^ (min shift9.toNat IntKind.u64.bits))))].length<=4294967296) <|
  zCM y7 k (IntKind.i64.wrap (shift9 - 8)) (l10++[b8of (IntKind.u8.wrap (y7.fdiv (2 ^ (min shift9.toNat IntKind.u64.bits))))])
 ) else (
  some l10
 )
def zGZ (n:Nat):(List UInt8×Nd×List zRc×Int)->Option ((List UInt8)×Int)
| ⟨d1Ao,⟨d1I,d1J,d1K,d1L⟩,d1G,d1H⟩ =>
 (zBO n (d1Ao,Nd.mk d1I d1J d1K d1L,d1G,d1H)).bind fun y2 =>
 bif (!y2) then (
  some ([],1)
 ) else (
  (zCH n (d1Ao,Nd.mk d1I d1J d1K d1L,d1G,d1H)).bind fun⟨y3A,y3F,y3B,y3E⟩ =>
  (zEQ n (CV.mk y3A y3F y3B y3E)).bind fun⟨y4,y5⟩ =>
  bif (y5 != 0) then (
   some ([],6)
  ) else (
   req (0<=(0:Int)/\(0:Int)<=(IntKind.i64.wrap (12+(y4.length:Int)))/\(IntKind.i64.wrap (12+(y4.length:Int)))<=4294967296) <|
   req ((List.replicate (0:Int).toNat (b8of 0)).length + [86,67,76,49].length<=4294967296) <|
   (zES n y4).bind fun y7 =>
   (zCM y7 n 56 ((List.replicate (0:Int).toNat (b8of 0))++[86,67,76,49])).bind fun l11 =>
   req (l11.length+y4.length<=4294967296) <|
   some (l11++y4,0)
  )
 )
def zDt (n:Nat):Option Bool
:=
 (zGZ n ([],Nd.mk 1 [] 0 [],[],0)).bind fun⟨y1,y2⟩ =>
 (
  bif (y2 == 0) then (
   bif ((y1.length:Int) == 20) then (
    req (0<=(12:Int)/\(12:Int)<=(y1.length:Int)/\(y1.length:Int)<=(y1.length:Int)) <|
    some (((y1.take (y1.length:Int).toNat).drop (12:Int).toNat) == [196,128,195,66,128,64,64,192])
   ) else (
    some false
   )
  ) else (
   some false
  )
  : Option (Bool)).bind fun x3 =>
 some x3
def zFT (n:Nat):(Nd×Nd×List zRc×Int)->(List UInt8)->Option ((List UInt8×Nd×List zRc×Int)×Int×(Nd×Nd×List zRc×Int))
| ⟨⟨o1I,o1J,o1K,o1L⟩,⟨o1P,o1Q,o1R,o1S⟩,o1G,o1H⟩,title2 =>
 (zAX (Nd.mk o1I o1J o1K o1L,Nd.mk o1P o1Q o1R o1S,o1G,o1H)).bind fun⟨⟨y3A,y3B,y3D,y3C⟩,⟨⟨w4I,w4J,w4K,w4L⟩,⟨w4P,w4Q,w4R,w4S⟩,w4G,w4H⟩⟩ =>
 (zAU n (Nd.mk w4I w4J w4K w4L,Nd.mk w4P w4Q w4R w4S,w4G,w4H)).bind fun⟨y5,⟨⟨w6I,w6J,w6K,w6L⟩,⟨w6P,w6Q,w6R,w6S⟩,w6G,w6H⟩⟩ =>
 (zBn (Nd.mk w6I w6J w6K w6L,Nd.mk w6P w6Q w6R w6S,w6G,w6H)).bind fun⟨y7,⟨⟨w8I,w8J,w8K,w8L⟩,⟨w8P,w8Q,w8R,w8S⟩,w8G,w8H⟩⟩ =>
 (zBO n (title2,Nd.mk y3A y3B y3D y3C,y5,y7)).bind fun y9 =>
 bif (!y9) then (
  some (([],Nd.mk 0 [] 0 [],[],0),1,(Nd.mk w8I w8J w8K w8L,Nd.mk w8P w8Q w8R w8S,w8G,w8H))
 ) else (
  some ((title2,Nd.mk y3A y3B y3D y3C,y5,y7),0,(Nd.mk w8I w8J w8K w8L,Nd.mk w8P w8Q w8R w8S,w8G,w8H))
 )
def zDV:(List UInt8)->Option ((List UInt8×Nd×List zRc×Int)×Int)
| title1 =>
 some (([],Nd.mk 0 [] 0 [],[],0),7)
def zCh (n:Nat):Nd->(List UInt8)->Option Bool
| ⟨a1A,a1B,a1D,a1C⟩,a2 =>
 (
  (zDt n ).bind fun y4 =>
  bif (!y4) then (
   some true
  ) else (
   (zFU n (Nd.mk a1A a1B a1D a1C) 200).bind fun y5 =>
   bif (!y5) then (
    some true
   ) else (
    some (decide (300<(a2.length:Int)))
   )
  )
  : Option (Bool)).bind fun x3 =>
 bif x3 then (
  (zDt n ).bind fun y6 =>
  some y6
 ) else (
  (zDV a2).bind fun⟨⟨y7Ao,⟨y7I,y7J,y7K,y7L⟩,y7G,y7H⟩,y8⟩ =>
  (zDf n (Nd.mk a1A a1B a1D a1C)).bind fun⟨y9,y10⟩ =>
  match y9 with
  | none=>(
   req (y10=1) <|
   (
    bif (y8 != 7) then (
     some ()
    ) else (
     some ()
    )
    : Option Unit).bind fun _ =>
   some (y8 == 7)
  )
  | some ⟨⟨w11I,w11J,w11K,w11L⟩,⟨w11P,w11Q,w11R,w11S⟩,w11G,w11H⟩=>(
   req (y10=0) <|
   (
    bif (y8 != 7) then (
     some true
    ) else (
     some false
    )
    : Option (Bool)).bind fun x12 =>
   bif x12 then (
    some (y8 == 7)
   ) else (
    (zFT n (Nd.mk w11I w11J w11K w11L,Nd.mk w11P w11Q w11R w11S,w11G,w11H) a2).bind fun⟨⟨y13Ao,⟨y13I,y13J,y13K,y13L⟩,y13G,y13H⟩,y14,⟨⟨w15I,w15J,w15K,w15L⟩,⟨w15P,w15Q,w15R,w15S⟩,w15G,w15H⟩⟩ =>
    (
     bif decide (200<(a2.length:Int)) then (
      some true
     ) else (
      (zCj n a2).bind fun y17 =>
      some (!y17)
     )
     : Option (Bool)).bind fun x16 =>
    bif x16 then (
     some (y14 == 1)
    ) else (
     (
      bif (y14 == 0) then (
       bif (y13Ao == a2) then (
        (zBk n (Nd.mk y13I y13J y13K y13L) (Nd.mk a1A a1B a1D a1C)).bind fun y19 =>
        bif y19 then (
         bif (y13H == 0) then (
          some ((y13G.length:Int) == 0)
         ) else (
          some false
         )
        ) else (
         some false
        )
       ) else (
        some false
       )
      ) else (
       some false
      )
      : Option (Bool)).bind fun x18 =>
     some x18
    )
   )
  )
 )
def zLL (xs:List AV) (r:Ret):Prop:=∃ (a0:List UInt8) (y0:Bool),zBf a0=some y0/\xs=[.s (.str a0)]/\r = .val (.s (.bool y0))
def zIg:zAv:=zAx fun xs r=>zLL xs r
theorem zLo:PSound Try.prog 39 zIg:=by
 have gok:=@gok0 Try.prog;refine zAz tokW Try.call39 Try.func39 rfl (fun xs r h=>by obtain⟨_,_,_,rfl,_⟩:=h; show 1<=5; decide) 5 rfl ?_;rintro xs r w0 G0 ⟨s1,y0,h,rfl,rfl⟩ _;rw[zBf]at h;refine zQE [] [] rfl ?_;show Tri ..;refine zQE [] [] rfl ?_;show Tri ..;refine zAg ?_;have hy:=Option.some.inj h;subst hy;unfold zAu;exact⟨_,Le.refl _ _,rfl,rfl⟩
def zJ2 (n:Nat) (xs:List AV) (r:Ret):Prop:=∃ (a0:List UInt8) (y0:Bool),zB2 n a0=some y0/\xs=[.s (.str a0)]/\r = .val (.s (.bool y0))
def zGF:zAv:=zAx fun xs r=>∃ n,zJ2 n xs r
theorem zJy:PSound Try.prog 56 zGF:=by
 have gok:=@gok0 Try.prog;refine zAz tokW Try.call56 Try.func56 rfl (fun xs r h=>by obtain⟨n,_,_,_,rfl,_⟩:=h; show 1<=21; decide) 21 rfl ?_;rintro xs r w0 G0 ⟨n,s1,y0,h,rfl,rfl⟩ _;rw[zB2]at h;refine zQE [] [] rfl ?_;show Tri ..;refine zAa ?_;refine zQE [] [] rfl ?_;show Tri ..;obtain⟨fl,hl,ho1⟩:=zAc h;refine zDk (fl:=fl) (fun z=>match z with | _=>⟨ofL [],fun _=>none,0⟩) ?_ (fun z σ' hz hle=>?_)
 ·refine zAp (zAE (X:=Nat×Int) (fun y=>match y with | (k,i2)=>⟨ofL [(0,.s (.str s1)),(3,.s (.int .i64 i2))],fun _=>none,0⟩) (fun y=>zAY s1 y.1 y.2=some fl) (fun y=>y.1) (n,0) hl ?_ ?_)
  ·exact(Le.forget _ ⟨rfl,rfl,trivial⟩)
  ·rintro⟨k,i2⟩ h;cases k with
   | zero=>cases h
   | succ k =>
    replace h:zAY s1 (k+1) i2=some fl:=h;rw[zAY]at h;refine zAa ?_;refine zQE [] [] rfl ?_;show Tri ..;refine zAo rfl h (fun hb h=>?_) (fun hb h=>?_)
    ·refine zAh ?_;show Tri ..;refine zAa ?_;refine zAp ?_;refine zQE [] [13] rfl ?_;obtain⟨c3,hc3,h⟩:=zAc h;refine And.intro (zCB hc3).1 ?_;intro v4 hv4;obtain rfl:(c3.toNat:Int)=v4:=(hv4.trans (zCB hc3).2).symm;show Tri ..;refine zAa ?_;obtain⟨x5,hj,h⟩:=zAc h;refine zAt ⟨ofL [(0,.s (.str s1)),(3,.s (.int .i64 i2)),(20,.s (.bool x5))],fun _=>none,0⟩ ?_ (fun σ' hle=>?_)
     ·replace h:=hj;refine zAb [] [17] rfl ?_;intro b hb;cases b with
      | true =>
       replace h:=zAD hb.symm h;cases h;exact(Le.forget _ ⟨rfl,rfl,rfl,trivial⟩)
      | false =>
       replace h:=zAC hb.symm h;cases h;exact(Le.forget _ ⟨rfl,rfl,rfl,trivial⟩)
     ·show Tri ..;refine zAk hle ?_;refine zAo rfl h (fun hb h=>?_) (fun hb h=>?_)
      ·refine zQE [] [] rfl ?_;show Tri ..;refine zAg ?_;cases h;replace h:some _=some _:=ho1;have hy:=Option.some.inj h;subst hy;unfold zAu;exact⟨_,Le.refl _ _,rfl,rfl⟩
      ·refine zAh ?_;show Tri ..;refine zAb [] [] rfl ?_;refine⟨(k,IntKind.i64.wrap (i2+1)),h,(Le.forget _ ⟨rfl,rfl,trivial⟩),Nat.lt_succ_self k⟩
    ·refine zAJ ?_;cases h;exact⟨_,rfl,(Le.forget _ trivial)⟩
 ·subst hz;obtain _:=z;replace h:=ho1;show Tri ..;refine zAk hle ?_;refine zQE [] [] rfl ?_;show Tri ..;refine zAg ?_;have hy:=Option.some.inj h;subst hy;unfold zAu;exact⟨_,Le.refl _ _,rfl,rfl⟩
def zJ1 (xs:List AV) (r:Ret):Prop:=∃ (a0:List UInt8) (y0:Bool),zCO a0=some y0/\xs=[.s (.str a0)]/\r = .val (.s (.bool y0))
def zGE:zAv:=zAx fun xs r=>zJ1 xs r
theorem zJx:PSound Try.prog 58 zGE:=by
 have gok:=@gok0 Try.prog;refine zAz tokW Try.call58 Try.func58 rfl (fun xs r h=>by obtain⟨_,_,_,rfl,_⟩:=h; show 1<=9; decide) 9 rfl ?_;rintro xs r w0 G0 ⟨s1,y0,h,rfl,rfl⟩ _;rw[zCO]at h;refine zQE [] [] rfl ?_;show Tri ..;refine zAa ?_;refine zQE [] [] rfl ?_;show Tri ..;obtain⟨fl,hj,ho1⟩:=zAc h;refine zDk (fl:=fl) (fun z=>match z with | _=>⟨ofL [],fun _=>none,0⟩) ?_ (fun z σ' hz hle=>?_)
 ·replace h:=hj;refine zAp ?_;refine zAa ?_;refine zQE [] [] rfl ?_;show Tri ..;obtain⟨x2,hj,h⟩:=zAc h;refine zAt ⟨ofL [(4,.s (.bool x2))],fun _=>none,0⟩ ?_ (fun σ' hle=>?_)
  ·replace h:=hj;refine zAo rfl h (fun hb h=>?_) (fun hb h=>?_)
   ·refine zAh ?_;cases h;exact(Le.forget _ ⟨rfl,trivial⟩)
   ·refine zQE [] [] rfl ?_;show Tri ..;refine zAo rfl h (fun hb h=>?_) (fun hb h=>?_)
    ·refine zAh ?_;cases h;exact(Le.forget _ ⟨rfl,trivial⟩)
    ·refine zQE [] [] rfl ?_;show Tri ..;refine zAo rfl h (fun hb h=>?_) (fun hb h=>?_)
     ·refine zAh ?_;cases h;exact(Le.forget _ ⟨rfl,trivial⟩)
     ·refine zAb [] [] rfl ?_;cases h;exact(Le.forget _ ⟨rfl,trivial⟩)
  ·show Tri ..;refine zAk hle ?_;refine zAo rfl h (fun hb h=>?_) (fun hb h=>?_)
   ·refine zQE [] [] rfl ?_;show Tri ..;refine zAg ?_;cases h;replace h:some _=some _:=ho1;have hy:=Option.some.inj h;subst hy;unfold zAu;exact⟨_,Le.refl _ _,rfl,rfl⟩
   ·refine zAh ?_;cases h;exact⟨_,rfl,(Le.forget _ trivial)⟩
 ·subst hz;obtain _:=z;replace h:=ho1;show Tri ..;refine zAk hle ?_;refine zQE [] [] rfl ?_;show Tri ..;refine zAg ?_;have hy:=Option.some.inj h;subst hy;unfold zAu;exact⟨_,Le.refl _ _,rfl,rfl⟩
def zK4 (xs:List AV) (r:Ret):Prop:=∃ (a0:List UInt8) (y0:Bool),zCv a0=some y0/\xs=[.s (.str a0)]/\r = .val (.s (.bool y0))
def zFf:zAv:=zAx fun xs r=>zK4 xs r
theorem zGL:PSound Try.prog 43 zFf:=by
 have gok:=@gok0 Try.prog;refine zAz tokW Try.call43 Try.func43 rfl (fun xs r h=>by obtain⟨_,_,_,rfl,_⟩:=h; show 1<=11; decide) 11 rfl ?_;rintro xs r w0 G0 ⟨s1,y0,h,rfl,rfl⟩ _;rw[zCv]at h;refine zQE [] [] rfl ?_;show Tri ..;refine zAa ?_;refine zQE [] [] rfl ?_;show Tri ..;obtain⟨fl,hj,ho1⟩:=zAc h;refine zDk (fl:=fl) (fun z=>match z with | _=>⟨ofL [],fun _=>none,0⟩) ?_ (fun z σ' hz hle=>?_)
 ·replace h:=hj;refine zAp ?_;refine zAa ?_;refine zQE [] [] rfl ?_;show Tri ..;obtain⟨x2,hj,h⟩:=zAc h;refine zAt ⟨ofL [(4,.s (.bool x2))],fun _=>none,0⟩ ?_ (fun σ' hle=>?_)
  ·replace h:=hj;refine zAo rfl h (fun hb h=>?_) (fun hb h=>?_)
   ·refine zAh ?_;cases h;exact(Le.forget _ ⟨rfl,trivial⟩)
   ·refine zQE [] [] rfl ?_;show Tri ..;refine zAo rfl h (fun hb h=>?_) (fun hb h=>?_)
    ·refine zAh ?_;cases h;exact(Le.forget _ ⟨rfl,trivial⟩)
    ·refine zQE [] [] rfl ?_;show Tri ..;refine zAo rfl h (fun hb h=>?_) (fun hb h=>?_)
     ·refine zAh ?_;cases h;exact(Le.forget _ ⟨rfl,trivial⟩)
     ·refine zQE [] [] rfl ?_;show Tri ..;refine zAo rfl h (fun hb h=>?_) (fun hb h=>?_)
      ·refine zAh ?_;cases h;exact(Le.forget _ ⟨rfl,trivial⟩)
      ·refine zQE [] [] rfl ?_;show Tri ..;refine zAo rfl h (fun hb h=>?_) (fun hb h=>?_)
       ·refine zAh ?_;cases h;exact(Le.forget _ ⟨rfl,trivial⟩)
       ·refine zAb [] [] rfl ?_;cases h;exact(Le.forget _ ⟨rfl,trivial⟩)
  ·show Tri ..;refine zAk hle ?_;refine zAo rfl h (fun hb h=>?_) (fun hb h=>?_)
   ·refine zQE [] [] rfl ?_;show Tri ..;refine zAg ?_;cases h;replace h:some _=some _:=ho1;have hy:=Option.some.inj h;subst hy;unfold zAu;exact⟨_,Le.refl _ _,rfl,rfl⟩
   ·refine zAh ?_;cases h;exact⟨_,rfl,(Le.forget _ trivial)⟩
 ·subst hz;obtain _:=z;replace h:=ho1;show Tri ..;refine zAk hle ?_;refine zQE [] [] rfl ?_;show Tri ..;refine zAg ?_;have hy:=Option.some.inj h;subst hy;unfold zAu;exact⟨_,Le.refl _ _,rfl,rfl⟩
def zK3 (n:Nat) (xs:List AV) (r:Ret):Prop:=∃ (a0:List UInt8) (y0:Bool),zDg n a0=some y0/\xs=[.s (.str a0)]/\r = .val (.s (.bool y0))
def zHt:zAv:=zAx fun xs r=>∃ n,zK3 n xs r
theorem zKh:PSound Try.prog 40 zHt:=by
 have gok:∀ f s,look? f [(56,zGF),(57,zEC),(58,zGE),(43,zFf)]=some s->PSound Try.prog f s:=zAs (by
  simp only[List.forall_mem_cons]
  exact⟨zJy,zG7,zJx,zGL,by simp⟩)
 refine zAz tokW Try.call40 Try.func40 rfl (fun xs r h=>by obtain⟨n,_,_,_,rfl,_⟩:=h; show 1<=34; decide) 34 rfl ?_;rintro xs r w0 G0 ⟨n,s1,y0,h,rfl,rfl⟩ _;rw[zDg]at h;refine zQE [] [] rfl ?_;show Tri ..;refine zAa ?_;refine zQE [] [] rfl ?_;show Tri ..;refine zAo rfl h (fun hb h=>?_) (fun hb h=>?_)
 ·refine zAa ?_;obtain⟨x2,hj,h⟩:=zAc h;refine zAt ⟨ofL [(2,.s (.bool x2))],fun _=>none,0⟩ ?_ (fun σ' hle=>?_)
  ·replace h:=hj;refine zAb [] [8] rfl ?_;obtain⟨y3,hy3,h⟩:=zAc h;refine⟨_,⟨_,_,_,hy3,rfl,rfl⟩,?_⟩
   intro b hb;cases b with
   | true =>
    replace h:=zAD hb.symm h;cases h;exact(Le.forget _ ⟨rfl,trivial⟩)
   | false =>
    replace h:=zAC hb.symm h;obtain⟨y4,hy4,h⟩:=zAc h;refine⟨_,⟨_,_,_,hy4,rfl,rfl⟩,?_⟩
    cases h;exact(Le.forget _ ⟨rfl,trivial⟩)
  ·show Tri ..;refine zAk hle ?_;refine zAg ?_;have hy:=Option.some.inj h;subst hy;unfold zAu;exact⟨_,Le.refl _ _,rfl,rfl⟩
 ·refine zAh ?_;show Tri ..;refine zAa ?_;obtain⟨x5,hj,h⟩:=zAc h;refine zAt ⟨ofL [(2,.s (.bool x5))],fun _=>none,0⟩ ?_ (fun σ' hle=>?_)
  ·replace h:=hj;refine zAb [] [15,20,24,29] rfl ?_;intro b hb;cases b with
   | true =>
    replace h:=zAD hb.symm h;intro b hb;cases b with
    | true =>
     replace h:=zAD hb.symm h;obtain⟨y6,hy6,h⟩:=zAc h;refine⟨_,⟨_,_,_,hy6,rfl,rfl⟩,?_⟩
     intro b hb;cases b with
     | true =>
      replace h:=zAD hb.symm h;obtain⟨y7,hy7,h⟩:=zAc h;refine⟨_,⟨_,_,hy7,rfl,rfl⟩,?_⟩
      intro b hb;cases b with
      | true =>
       replace h:=zAD hb.symm h;obtain⟨y8,hy8,h⟩:=zAc h;refine⟨_,⟨_,_,hy8,rfl,rfl⟩,?_⟩
       cases h;exact(Le.forget _ ⟨rfl,trivial⟩)
      | false =>
       replace h:=zAC hb.symm h;cases h;exact(Le.forget _ ⟨rfl,trivial⟩)
     | false =>
      replace h:=zAC hb.symm h;intro b hb;subst hb;cases h;exact(Le.forget _ ⟨rfl,trivial⟩)
    | false =>
     replace h:=zAC hb.symm h;intro b hb;subst hb;intro b hb;subst hb;cases h;exact(Le.forget _ ⟨rfl,trivial⟩)
   | false =>
    replace h:=zAC hb.symm h;intro b hb;subst hb;intro b hb;subst hb;intro b hb;subst hb;cases h;exact(Le.forget _ ⟨rfl,trivial⟩)
  ·show Tri ..;refine zAk hle ?_;refine zAg ?_;have hy:=Option.some.inj h;subst hy;unfold zAu;exact⟨_,Le.refl _ _,rfl,rfl⟩
def zHT (xs:List AV) (r:Ret):Prop:=∃ (a0:List UInt8) (a1:List UInt8) (y0:List UInt8) (y1:List UInt8) (y2:Bool),zBL a0 a1=some (y0,y1,y2)/\xs=[.s (.str a0),.s (.str a1)]/\r = .val (.tup [.s (.str y0),.s (.str y1),.s (.bool y2)])
def zE3:zAv:=zAx fun xs r=>zHT xs r
theorem zHI:PSound Try.prog 73 zE3:=by
 have gok:∀ f s,look? f [(87,zEd)]=some s->PSound Try.prog f s:=zAs (by
  simp only[List.forall_mem_cons]
  exact⟨zGu,by simp⟩)
 refine zAz tokW Try.call73 Try.func73 rfl (fun xs r h=>by obtain⟨_,_,_,_,_,_,rfl,_⟩:=h; show 2<=23; decide) 23 rfl ?_;rintro xs r w0 G0 ⟨s1,sep2,y0,y1,y2,h,rfl,rfl⟩ _;rw[zBL]at h;refine zQE [] [] rfl ?_;show Tri ..;refine zAa ?_;refine zQE [] [] rfl ?_;obtain⟨y3,hy3,h⟩:=zAc h;refine⟨_,⟨_,_,_,hy3,rfl,rfl⟩,?_⟩
 show Tri ..;refine zQE [] [] rfl ?_;show Tri ..;refine zAo rfl h (fun hb h=>?_) (fun hb h=>?_)
 ·refine zAa ?_;refine zBe [] [] [] rfl (by decide +kernel) ?_;obtain⟨hq,h⟩:=zAI h;refine And.intro hq ?_;obtain⟨hq,h⟩:=zAI h;refine And.intro hq ?_;show Tri ..;refine zAg ?_;obtain⟨hj1,hk1⟩:=pij h;subst hj1;obtain⟨hj2,hk2⟩:=Prod.mk.inj hk1;subst hj2;subst hk2;unfold zAu;exact⟨_,Le.refl _ _,rfl,rfl⟩
 ·refine zAh ?_;show Tri ..;refine zQE [] [] rfl ?_;show Tri ..;refine zAg ?_;obtain⟨hj1,hk1⟩:=pij h;subst hj1;obtain⟨hj2,hk2⟩:=Prod.mk.inj hk1;subst hj2;subst hk2;unfold zAu;exact⟨_,Le.refl _ _,rfl,rfl⟩
def zK7 (xs:List AV) (r:Ret):Prop:=∃ (a0:List UInt8) (a1:List UInt8) (y0:List UInt8) (y1:List UInt8) (y2:Bool),zDi a0 a1=some (y0,y1,y2)/\xs=[.s (.str a0),.s (.str a1)]/\r = .val (.tup [.s (.str y0),.s (.str y1),.s (.bool y2)])
def zHw:zAv:=zAx fun xs r=>zK7 xs r
theorem zKk:PSound Try.prog 59 zHw:=by
 have gok:∀ f s,look? f [(73,zE3)]=some s->PSound Try.prog f s:=zAs (by
  simp only[List.forall_mem_cons]
  exact⟨zHI,by simp⟩)
 refine zAz tokW Try.call59 Try.func59 rfl (fun xs r h=>by obtain⟨_,_,_,_,_,_,rfl,_⟩:=h; show 2<=13; decide) 13 rfl ?_;rintro xs r w0 G0 ⟨s1,sep2,y0,y1,y2,h,rfl,rfl⟩ _;rw[zDi]at h;refine zQE [] [] rfl ?_;show Tri ..;refine zQE [] [] rfl ?_;obtain⟨⟨y3,y4,y5⟩,hy3,h⟩:=zAc h;refine⟨_,⟨_,_,_,_,_,hy3,rfl,rfl⟩,?_⟩
 show Tri ..;refine zAg ?_;obtain⟨hj1,hk1⟩:=pij h;subst hj1;obtain⟨hj2,hk2⟩:=Prod.mk.inj hk1;subst hj2;subst hk2;unfold zAu;exact⟨_,Le.refl _ _,rfl,rfl⟩
def zK5 (n:Nat) (xs:List AV) (r:Ret):Prop:=∃ (a0:List UInt8) (y0:Bool),zCw n a0=some y0/\xs=[.s (.str a0)]/\r = .val (.s (.bool y0))
def zHu:zAv:=zAx fun xs r=>∃ n,zK5 n xs r
theorem zKi:PSound Try.prog 60 zHu:=by
 have gok:=@gok0 Try.prog;refine zAz tokW Try.call60 Try.func60 rfl (fun xs r h=>by obtain⟨n,_,_,_,rfl,_⟩:=h; show 1<=22; decide) 22 rfl ?_;rintro xs r w0 G0 ⟨n,s1,y0,h,rfl,rfl⟩ _;rw[zCw]at h;refine zQE [] [] rfl ?_;show Tri ..;refine zAa ?_;refine zQE [] [] rfl ?_;show Tri ..;obtain⟨fl,hl,ho1⟩:=zAc h;refine zDk (fl:=fl) (fun z=>match z with | _=>⟨ofL [(0,.s (.str s1))],fun _=>none,0⟩) ?_ (fun z σ' hz hle=>?_)
 ·refine zAp (zAE (X:=Nat×Int) (fun y=>match y with | (k,i2)=>⟨ofL [(0,.s (.str s1)),(3,.s (.int .i64 i2))],fun _=>none,0⟩) (fun y=>zA6 s1 y.1 y.2=some fl) (fun y=>y.1) (n,0) hl ?_ ?_)
  ·exact(Le.forget _ ⟨rfl,rfl,trivial⟩)
  ·rintro⟨k,i2⟩ h;cases k with
   | zero=>cases h
   | succ k =>
    replace h:zA6 s1 (k+1) i2=some fl:=h;rw[zA6]at h;refine zAa ?_;refine zQE [] [] rfl ?_;show Tri ..;refine zAo rfl h (fun hb h=>?_) (fun hb h=>?_)
    ·refine zAh ?_;show Tri ..;refine zAa ?_;refine zAp ?_;refine zAa ?_;obtain⟨x3,hj,h⟩:=zAc h;refine zAt ⟨ofL [(0,.s (.str s1)),(3,.s (.int .i64 i2)),(19,.s (.bool x3))],fun _=>none,0⟩ ?_ (fun σ' hle=>?_)
     ·replace h:=hj;refine zAb [] [12,14,17] rfl ?_;obtain⟨c4,hc4,h⟩:=zAc h;refine And.intro (zCB hc4).1 ?_;intro v5 hv5;obtain rfl:(c4.toNat:Int)=v5:=(hv5.trans (zCB hc4).2).symm;intro b hb;cases b with
      | true =>
       replace h:=zAD hb.symm h;cases h;exact(Le.forget _ ⟨rfl,rfl,rfl,trivial⟩)
      | false =>
       replace h:=zAC hb.symm h;obtain⟨c6,hc6,h⟩:=zAc h;refine And.intro (zCB hc6).1 ?_;intro v7 hv7;obtain rfl:(c6.toNat:Int)=v7:=(hv7.trans (zCB hc6).2).symm;cases h;exact(Le.forget _ ⟨rfl,rfl,rfl,trivial⟩)
     ·show Tri ..;refine zAk hle ?_;refine zAo rfl h (fun hb h=>?_) (fun hb h=>?_)
      ·refine zQE [] [] rfl ?_;show Tri ..;refine zAg ?_;cases h;replace h:some _=some _:=ho1;have hy:=Option.some.inj h;subst hy;unfold zAu;exact⟨_,Le.refl _ _,rfl,rfl⟩
      ·refine zAh ?_;show Tri ..;refine zAb [] [] rfl ?_;refine⟨(k,IntKind.i64.wrap (i2+1)),h,(Le.forget _ ⟨rfl,rfl,trivial⟩),Nat.lt_succ_self k⟩
    ·refine zAJ ?_;cases h;exact⟨_,rfl,(Le.forget _ ⟨rfl,trivial⟩)⟩
 ·subst hz;obtain _:=z;replace h:=ho1;show Tri ..;refine zAk hle ?_;refine zQE [] [] rfl ?_;show Tri ..;refine zAg ?_;have hy:=Option.some.inj h;subst hy;unfold zAu;exact⟨_,Le.refl _ _,rfl,rfl⟩
def zK2 (n:Nat) (xs:List AV) (r:Ret):Prop:=∃ (a0:List UInt8) (y0:Bool),zCs n a0=some y0/\xs=[.s (.str a0)]/\r = .val (.s (.bool y0))
def zHs:zAv:=zAx fun xs r=>∃ n,zK2 n xs r
theorem zKg:PSound Try.prog 41 zHs:=by
 have gok:∀ f s,look? f [(59,zHw),(60,zHu)]=some s->PSound Try.prog f s:=zAs (by
  simp only[List.forall_mem_cons]
  exact⟨zKk,zKi,by simp⟩)
 refine zAz tokW Try.call41 Try.func41 rfl (fun xs r h=>by obtain⟨n,_,_,_,rfl,_⟩:=h; show 1<=27; decide) 27 rfl ?_;rintro xs r w0 G0 ⟨n,s1,y0,h,rfl,rfl⟩ _;rw[zCs]at h;refine zQE [] [] rfl ?_;show Tri ..;refine zQE [] [] rfl ?_;obtain⟨⟨y2,y3,y4⟩,hy2,h⟩:=zAc h;refine⟨_,⟨_,_,_,_,_,hy2,rfl,rfl⟩,?_⟩
 show Tri ..;refine zAa ?_;obtain⟨x5,hj,h⟩:=zAc h;refine zAt ⟨ofL [(2,.s (.bool x5))],fun _=>none,0⟩ ?_ (fun σ' hle=>?_)
 ·replace h:=hj;refine zAb [] [15,19,22] rfl ?_;intro b hb;cases b with
  | true =>
   replace h:=zAD hb.symm h;obtain⟨y6,hy6,h⟩:=zAc h;refine⟨_,⟨_,_,_,hy6,rfl,rfl⟩,?_⟩
   intro b hb;cases b with
   | true =>
    replace h:=zAD hb.symm h;intro b hb;cases b with
    | true =>
     replace h:=zAD hb.symm h;cases h;exact(Le.forget _ ⟨rfl,trivial⟩)
    | false =>
     replace h:=zAC hb.symm h;obtain⟨y7,hy7,h⟩:=zAc h;refine⟨_,⟨_,_,_,hy7,rfl,rfl⟩,?_⟩
     cases h;exact(Le.forget _ ⟨rfl,trivial⟩)
   | false =>
    replace h:=zAC hb.symm h;cases h;exact(Le.forget _ ⟨rfl,trivial⟩)
  | false =>
   replace h:=zAC hb.symm h;intro b hb;subst hb;cases h;exact(Le.forget _ ⟨rfl,trivial⟩)
 ·show Tri ..;refine zAk hle ?_;refine zAg ?_;have hy:=Option.some.inj h;subst hy;unfold zAu;exact⟨_,Le.refl _ _,rfl,rfl⟩
def zLO (n:Nat) (xs:List AV) (r:Ret):Prop:=∃ (a0:List UInt8) (y0:Bool),zDH n a0=some y0/\xs=[.s (.str a0)]/\r = .val (.s (.bool y0))
def zIj:zAv:=zAx fun xs r=>∃ n,zLO n xs r
theorem zLr:PSound Try.prog 42 zIj:=by
 have gok:=@gok0 Try.prog;refine zAz tokW Try.call42 Try.func42 rfl (fun xs r h=>by obtain⟨n,_,_,_,rfl,_⟩:=h; show 1<=23; decide) 23 rfl ?_;rintro xs r w0 G0 ⟨n,s1,y0,h,rfl,rfl⟩ _;rw[zDH]at h;refine zQE [] [] rfl ?_;show Tri ..;refine zAa ?_;refine zQE [] [] rfl ?_;show Tri ..;obtain⟨fl,hl,ho1⟩:=zAc h;refine zDk (fl:=fl) (fun z=>match z with | _=>⟨ofL [(0,.s (.str s1))],fun _=>none,0⟩) ?_ (fun z σ' hz hle=>?_)
 ·refine zAp (zAE (X:=Nat×Int) (fun y=>match y with | (k,i2)=>⟨ofL [(0,.s (.str s1)),(3,.s (.int .i64 i2))],fun _=>none,0⟩) (fun y=>zBa s1 y.1 y.2=some fl) (fun y=>y.1) (n,0) hl ?_ ?_)
  ·exact(Le.forget _ ⟨rfl,rfl,trivial⟩)
  ·rintro⟨k,i2⟩ h;cases k with
   | zero=>cases h
   | succ k =>
    replace h:zBa s1 (k+1) i2=some fl:=h;rw[zBa]at h;refine zAa ?_;refine zQE [] [] rfl ?_;show Tri ..;refine zAo rfl h (fun hb h=>?_) (fun hb h=>?_)
    ·refine zAh ?_;show Tri ..;refine zAa ?_;refine zAp ?_;refine zAa ?_;obtain⟨x3,hj,h⟩:=zAc h;refine zAt ⟨ofL [(0,.s (.str s1)),(3,.s (.int .i64 i2)),(19,.s (.bool x3))],fun _=>none,0⟩ ?_ (fun σ' hle=>?_)
     ·replace h:=hj;refine zAb [] [12,14,17] rfl ?_;obtain⟨c4,hc4,h⟩:=zAc h;refine And.intro (zCB hc4).1 ?_;intro v5 hv5;obtain rfl:(c4.toNat:Int)=v5:=(hv5.trans (zCB hc4).2).symm;intro b hb;cases b with
      | true =>
       replace h:=zAD hb.symm h;cases h;exact(Le.forget _ ⟨rfl,rfl,rfl,trivial⟩)
      | false =>
       replace h:=zAC hb.symm h;obtain⟨c6,hc6,h⟩:=zAc h;refine And.intro (zCB hc6).1 ?_;intro v7 hv7;obtain rfl:(c6.toNat:Int)=v7:=(hv7.trans (zCB hc6).2).symm;cases h;exact(Le.forget _ ⟨rfl,rfl,rfl,trivial⟩)
     ·show Tri ..;refine zAk hle ?_;refine zAo rfl h (fun hb h=>?_) (fun hb h=>?_)
      ·refine zQE [] [] rfl ?_;show Tri ..;refine zAg ?_;cases h;replace h:some _=some _:=ho1;have hy:=Option.some.inj h;subst hy;unfold zAu;exact⟨_,Le.refl _ _,rfl,rfl⟩
      ·refine zAh ?_;show Tri ..;refine zAb [] [] rfl ?_;refine⟨(k,IntKind.i64.wrap (i2+1)),h,(Le.forget _ ⟨rfl,rfl,trivial⟩),Nat.lt_succ_self k⟩
    ·refine zAJ ?_;cases h;exact⟨_,rfl,(Le.forget _ ⟨rfl,trivial⟩)⟩
 ·subst hz;obtain _:=z;replace h:=ho1;show Tri ..;refine zAk hle ?_;refine zQE [] [] rfl ?_;show Tri ..;refine zAg ?_;have hy:=Option.some.inj h;subst hy;unfold zAu;exact⟨_,Le.refl _ _,rfl,rfl⟩
def zLM (xs:List AV) (r:Ret):Prop:=∃ (a0:List UInt8) (y0:Bool),zDG a0=some y0/\xs=[.s (.str a0)]/\r = .val (.s (.bool y0))
def zIh:zAv:=zAx fun xs r=>zLM xs r
theorem zLp:PSound Try.prog 44 zIh:=by
 have gok:∀ f s,look? f [(61,zEc)]=some s->PSound Try.prog f s:=zAs (by
  simp only[List.forall_mem_cons]
  exact⟨zGt,by simp⟩)
 refine zAz tokW Try.call44 Try.func44 rfl (fun xs r h=>by obtain⟨_,_,_,rfl,_⟩:=h; show 1<=18; decide) 18 rfl ?_;rintro xs r w0 G0 ⟨s1,y0,h,rfl,rfl⟩ _;rw[zDG]at h;refine zQE [] [] rfl ?_;show Tri ..;refine zAa ?_;obtain⟨x2,hj,h⟩:=zAc h;refine zAt ⟨ofL [(2,.s (.bool x2))],fun _=>none,0⟩ ?_ (fun σ' hle=>?_)
 ·replace h:=hj;refine zAb [] [6,8,12,14] rfl ?_;intro b hb;cases b with
  | true =>
   replace h:=zAD hb.symm h;obtain⟨c3,hc3,h⟩:=zAc h;refine And.intro (zCB hc3).1 ?_;intro v4 hv4;obtain rfl:(c3.toNat:Int)=v4:=(hv4.trans (zCB hc3).2).symm;obtain⟨y5,hy5,h⟩:=zAc h;refine⟨_,⟨_,_,_,hy5,rfl,rfl⟩,?_⟩
   intro b hb;cases b with
   | true =>
    replace h:=zAD hb.symm h;obtain⟨c6,hc6,h⟩:=zAc h;refine And.intro (zCB hc6).1 ?_;intro v7 hv7;obtain rfl:(c6.toNat:Int)=v7:=(hv7.trans (zCB hc6).2).symm;obtain⟨y8,hy8,h⟩:=zAc h;refine⟨_,⟨_,_,_,hy8,rfl,rfl⟩,?_⟩
    cases h;exact(Le.forget _ ⟨rfl,trivial⟩)
   | false =>
    replace h:=zAC hb.symm h;cases h;exact(Le.forget _ ⟨rfl,trivial⟩)
  | false =>
   replace h:=zAC hb.symm h;intro b hb;subst hb;cases h;exact(Le.forget _ ⟨rfl,trivial⟩)
 ·show Tri ..;refine zAk hle ?_;refine zAg ?_;have hy:=Option.some.inj h;subst hy;unfold zAu;exact⟨_,Le.refl _ _,rfl,rfl⟩
def zAn (p:Unit):List S:=[.str [],.int .i64 0,.nf,.str [114,111,119],.int .i64 0,.fn 39,.str [115,121,109],.int .i64 0,.fn 40,.str [110,117,109],.int .i64 0,.fn 41,.str [116,101,120,116],.int .i64 0,.fn 42,.str [102,114,97,99],.int .i64 2,.fn 39,.str [114,111,111,116],.int .i64 2,.fn 39,.str [115,117,98],.int .i64 2,.fn 39,.str [115,117,112],.int .i64 2,.fn 39,.str [98,111,116,104],.int .i64 3,.fn 39,.str [97,99,99,101,110,116],.int .i64 1,.fn 43,.str [102,101,110,99,101],.int .i64 1,.fn 44,.str [109,97,116,114,105,120],.int .i64 0,.fn 39]
def zLN (xs:List AV) (r:Ret):Prop:=∃ (y0:Unit),zEE=some y0/\xs=[]/\r = .val (.agg ((zAn y0).map .s))
def zIi:zAv:=zAx fun xs r=>zLN xs r
theorem zLq:PSound Try.prog 24 zIi:=by
 have gok:=@gok0 Try.prog;refine zAz tokW Try.call24 Try.func24 rfl (fun xs r h=>by obtain⟨_,_,rfl,_⟩:=h; show 0<=14; decide) 14 rfl ?_;rintro xs r w0 G0 ⟨y0,h,rfl,rfl⟩ _;rw[zEE]at h;refine zQE [0] [] rfl ?_;show Tri ..;refine zQE [] [] rfl ?_;show Tri ..;refine zAg ?_;have hy:=Option.some.inj h;subst hy;unfold zAu;exact⟨_,Le.refl _ _,rfl,rfl⟩
def zAj (p:(Unit×Int)):List S:=[.str [],.int .i64 0,.nf,.str [114,111,119],.int .i64 0,.fn 39,.str [115,121,109],.int .i64 0,.fn 40,.str [110,117,109],.int .i64 0,.fn 41,.str [116,101,120,116],.int .i64 0,.fn 42,.str [102,114,97,99],.int .i64 2,.fn 39,.str [114,111,111,116],.int .i64 2,.fn 39,.str [115,117,98],.int .i64 2,.fn 39,.str [115,117,112],.int .i64 2,.fn 39,.str [98,111,116,104],.int .i64 3,.fn 39,.str [97,99,99,101,110,116],.int .i64 1,.fn 43,.str [102,101,110,99,101],.int .i64 1,.fn 44,.str [109,97,116,114,105,120],.int .i64 0,.fn 39,.int .i64 p.2]
def zHi (n:Nat) (xs:List AV) (os:List Ob) (x:AV) (os':List (Option Ob)):Prop:=∃ (a0:(Unit×Int)) (a1:Nd) (y0:Bool) (z0:(Unit×Int)),zBA n a0 a1=some (y0,z0)/\xs=[.op 0 0,.s (.pt (Nd.enc a1))]/\os=[.box 68 ((zAj a0).map .s)]/\x = .s (.bool y0)/\os'=[some (.box 68 ((zAj z0).map .s))]
def zEB:zAv:=zCm (fun xs os x os'=>∃ n,zHi n xs os x os')
theorem zG6:PSound Try.prog 45 zEB:=by
 have gok:∀ f s,look? f [(39,zIg),(40,zHt),(41,zHs),(42,zIj),(43,zFf),(44,zIh)]=some s->PSound Try.prog f s:=zAs (by
  simp only[List.forall_mem_cons]
  exact⟨zLo,zKh,zKg,zLr,zGL,zLp,by simp⟩)
 refine PSound.withNil (zF5 tokW Try.call45 Try.func45 rfl (fun xs os x os' h=>by obtain⟨n,_,_,_,_,_,rfl,rfl,_,rfl⟩:=h; exact⟨by show 2<=120; decide,by show 1<=1; decide⟩) 120 rfl ?_) _;rintro xs os x os' w0 G0 B0 ⟨n,⟨_,o1M⟩,⟨a2A,a2B,a2D,a2C⟩,y0,z0,h,rfl,rfl,rfl,rfl⟩ _;rw[zBA]at h;refine zQE [] [] rfl ?_;show Tri ..;refine zAa ?_;refine zAa ?_;obtain⟨x3,hj,h⟩:=zAc h
 refine zAt ⟨ofL [(0,.op 0 0),(1,.s (.pt [.int .i64 a2A,.str a2B,.int .i64 a2D,.sl 4 (Nd.encs a2C)])),(34,.s (.bool x3))],ofH [(0,.box 68 [.s (.str []),.s (.int .i64 0),.s (.nf),.s (.str [114,111,119]),.s (.int .i64 0),.s (.fn 39),.s (.str [115,121,109]),.s (.int .i64 0),.s (.fn 40),.s (.str [110,117,109]),.s (.int .i64 0),.s (.fn 41),.s (.str [116,101,120,116]),.s (.int .i64 0),.s (.fn 42),.s (.str [102,114,97,99]),.s (.int .i64 2),.s (.fn 39),.s (.str [114,111,111,116]),.s (.int .i64 2),.s (.fn 39),.s (.str [115,117,98]),.s (.int .i64 2),.s (.fn 39),.s (.str [115,117,112]),.s (.int .i64 2),.s (.fn 39),.s (.str [98,111,116,104]),.s (.int .i64 3),.s (.fn 39),.s (.str [97,99,99,101,110,116]),.s (.int .i64 1),.s (.fn 43),.s (.str [102,101,110,99,101]),.s (.int .i64 1),.s (.fn 44),.s (.str [109,97,116,114,105,120]),.s (.int .i64 0),.s (.fn 39),.s (.int .i64 o1M)])],1⟩ ?_ (fun σ' hle=>?_)
 ·replace h:=hj;refine zBe [] [10,17,22] [22] rfl (by decide +kernel) ?_;intro b hb;cases b with
  | true =>
   replace h:=zAD hb.symm h;intro b hb;subst hb;cases h;exact(Le.rnm [(0,0)] _ _ _ ⟨rfl,rfl,rfl,trivial⟩ ⟨rfl,⟨_,rfl,rfl⟩,trivial⟩)
  | false =>
   replace h:=zAC hb.symm h;intro b hb;cases b with
   | true =>
    replace h:=zAD hb.symm h;cases h;exact(Le.rnm [(0,0)] _ _ _ ⟨rfl,rfl,rfl,trivial⟩ ⟨rfl,⟨_,rfl,rfl⟩,trivial⟩)
   | false =>
    replace h:=zAC hb.symm h;intro vsp hvsp;cases hc:(a2A == 1) with
    | true =>
     replace h:=zAD hc h;obtain rfl:(1:Int)=vsp:=(hvsp.trans (eq_of_beq hc)).symm;refine And.intro (by decide) ?_;obtain⟨y4,hy4,h⟩:=zAc h;refine⟨_,⟨_,_,hy4,rfl,rfl⟩,?_⟩
     cases h;exact(Le.rnm [(0,0)] _ _ _ ⟨rfl,rfl,rfl,trivial⟩ ⟨rfl,⟨_,rfl,rfl⟩,trivial⟩)
    | false =>
     replace h:=zAC hc h;cases hc:(a2A == 2) with
     | true =>
      replace h:=zAD hc h;obtain rfl:(2:Int)=vsp:=(hvsp.trans (eq_of_beq hc)).symm;refine And.intro (by decide) ?_;obtain⟨y5,hy5,h⟩:=zAc h;refine⟨_,⟨_,_,_,hy5,rfl,rfl⟩,?_⟩
      cases h;exact(Le.rnm [(0,0)] _ _ _ ⟨rfl,rfl,rfl,trivial⟩ ⟨rfl,⟨_,rfl,rfl⟩,trivial⟩)
     | false =>
      replace h:=zAC hc h;cases hc:(a2A == 3) with
      | true =>
       replace h:=zAD hc h;obtain rfl:(3:Int)=vsp:=(hvsp.trans (eq_of_beq hc)).symm;refine And.intro (by decide) ?_;obtain⟨y6,hy6,h⟩:=zAc h;refine⟨_,⟨_,_,_,hy6,rfl,rfl⟩,?_⟩
       cases h;exact(Le.rnm [(0,0)] _ _ _ ⟨rfl,rfl,rfl,trivial⟩ ⟨rfl,⟨_,rfl,rfl⟩,trivial⟩)
      | false =>
       replace h:=zAC hc h;cases hc:(a2A == 4) with
       | true =>
        replace h:=zAD hc h;obtain rfl:(4:Int)=vsp:=(hvsp.trans (eq_of_beq hc)).symm;refine And.intro (by decide) ?_;obtain⟨y7,hy7,h⟩:=zAc h;refine⟨_,⟨_,_,_,hy7,rfl,rfl⟩,?_⟩
        cases h;exact(Le.rnm [(0,0)] _ _ _ ⟨rfl,rfl,rfl,trivial⟩ ⟨rfl,⟨_,rfl,rfl⟩,trivial⟩)
       | false =>
        replace h:=zAC hc h;cases hc:(a2A == 5) with
        | true =>
         replace h:=zAD hc h;obtain rfl:(5:Int)=vsp:=(hvsp.trans (eq_of_beq hc)).symm;refine And.intro (by decide) ?_;obtain⟨y8,hy8,h⟩:=zAc h;refine⟨_,⟨_,_,hy8,rfl,rfl⟩,?_⟩
         cases h;exact(Le.rnm [(0,0)] _ _ _ ⟨rfl,rfl,rfl,trivial⟩ ⟨rfl,⟨_,rfl,rfl⟩,trivial⟩)
        | false =>
         replace h:=zAC hc h;cases hc:(a2A == 6) with
         | true =>
          replace h:=zAD hc h;obtain rfl:(6:Int)=vsp:=(hvsp.trans (eq_of_beq hc)).symm;refine And.intro (by decide) ?_;obtain⟨y9,hy9,h⟩:=zAc h;refine⟨_,⟨_,_,hy9,rfl,rfl⟩,?_⟩
          cases h;exact(Le.rnm [(0,0)] _ _ _ ⟨rfl,rfl,rfl,trivial⟩ ⟨rfl,⟨_,rfl,rfl⟩,trivial⟩)
         | false =>
          replace h:=zAC hc h;cases hc:(a2A == 7) with
          | true =>
           replace h:=zAD hc h;obtain rfl:(7:Int)=vsp:=(hvsp.trans (eq_of_beq hc)).symm;refine And.intro (by decide) ?_;obtain⟨y10,hy10,h⟩:=zAc h;refine⟨_,⟨_,_,hy10,rfl,rfl⟩,?_⟩
           cases h;exact(Le.rnm [(0,0)] _ _ _ ⟨rfl,rfl,rfl,trivial⟩ ⟨rfl,⟨_,rfl,rfl⟩,trivial⟩)
          | false =>
           replace h:=zAC hc h;cases hc:(a2A == 8) with
           | true =>
            replace h:=zAD hc h;obtain rfl:(8:Int)=vsp:=(hvsp.trans (eq_of_beq hc)).symm;refine And.intro (by decide) ?_;obtain⟨y11,hy11,h⟩:=zAc h;refine⟨_,⟨_,_,hy11,rfl,rfl⟩,?_⟩
            cases h;exact(Le.rnm [(0,0)] _ _ _ ⟨rfl,rfl,rfl,trivial⟩ ⟨rfl,⟨_,rfl,rfl⟩,trivial⟩)
           | false =>
            replace h:=zAC hc h;cases hc:(a2A == 9) with
            | true =>
             replace h:=zAD hc h;obtain rfl:(9:Int)=vsp:=(hvsp.trans (eq_of_beq hc)).symm;refine And.intro (by decide) ?_;obtain⟨y12,hy12,h⟩:=zAc h;refine⟨_,⟨_,_,hy12,rfl,rfl⟩,?_⟩
             cases h;exact(Le.rnm [(0,0)] _ _ _ ⟨rfl,rfl,rfl,trivial⟩ ⟨rfl,⟨_,rfl,rfl⟩,trivial⟩)
            | false =>
             replace h:=zAC hc h;cases hc:(a2A == 10) with
             | true =>
              replace h:=zAD hc h;obtain rfl:(10:Int)=vsp:=(hvsp.trans (eq_of_beq hc)).symm;refine And.intro (by decide) ?_;obtain⟨y13,hy13,h⟩:=zAc h;refine⟨_,⟨_,_,hy13,rfl,rfl⟩,?_⟩
              cases h;exact(Le.rnm [(0,0)] _ _ _ ⟨rfl,rfl,rfl,trivial⟩ ⟨rfl,⟨_,rfl,rfl⟩,trivial⟩)
             | false =>
              replace h:=zAC hc h;cases hc:(a2A == 11) with
              | true =>
               replace h:=zAD hc h;obtain rfl:(11:Int)=vsp:=(hvsp.trans (eq_of_beq hc)).symm;refine And.intro (by decide) ?_;obtain⟨y14,hy14,h⟩:=zAc h;refine⟨_,⟨_,_,hy14,rfl,rfl⟩,?_⟩
               cases h;exact(Le.rnm [(0,0)] _ _ _ ⟨rfl,rfl,rfl,trivial⟩ ⟨rfl,⟨_,rfl,rfl⟩,trivial⟩)
              | false =>
               replace h:=zAC hc h;cases hc:(a2A == 12) with
               | true =>
                replace h:=zAD hc h;obtain rfl:(12:Int)=vsp:=(hvsp.trans (eq_of_beq hc)).symm;refine And.intro (by decide) ?_;obtain⟨y15,hy15,h⟩:=zAc h;refine⟨_,⟨_,_,hy15,rfl,rfl⟩,?_⟩
                cases h;exact(Le.rnm [(0,0)] _ _ _ ⟨rfl,rfl,rfl,trivial⟩ ⟨rfl,⟨_,rfl,rfl⟩,trivial⟩)
               | false =>
                replace h:=zAC hc h;cases h
 ·show Tri ..;refine zAk hle ?_;refine zAo rfl h (fun hb h=>?_) (fun hb h=>?_)
  ·refine zQE [] [] rfl ?_;show Tri ..;refine zAg ?_;obtain⟨hj1,hk1⟩:=pij h;subst hj1 hk1;unfold zB5
   exact⟨_,(Le.rnm [(0,0)] [(4,.s (.bool false))] [(0,.box 68 [.s (.str []),.s (.int .i64 0),.s (.nf),.s (.str [114,111,119]),.s (.int .i64 0),.s (.fn 39),.s (.str [115,121,109]),.s (.int .i64 0),.s (.fn 40),.s (.str [110,117,109]),.s (.int .i64 0),.s (.fn 41),.s (.str [116,101,120,116]),.s (.int .i64 0),.s (.fn 42),.s (.str [102,114,97,99]),.s (.int .i64 2),.s (.fn 39),.s (.str [114,111,111,116]),.s (.int .i64 2),.s (.fn 39),.s (.str [115,117,98]),.s (.int .i64 2),.s (.fn 39),.s (.str [115,117,112]),.s (.int .i64 2),.s (.fn 39),.s (.str [98,111,116,104]),.s (.int .i64 3),.s (.fn 39),.s (.str [97,99,99,101,110,116]),.s (.int .i64 1),.s (.fn 43),.s (.str [102,101,110,99,101]),.s (.int .i64 1),.s (.fn 44),.s (.str [109,97,116,114,105,120]),.s (.int .i64 0),.s (.fn 39),.s (.int .i64 o1M)])] 1 ⟨rfl,trivial⟩ ⟨rfl,⟨_,rfl,rfl⟩,trivial⟩),rfl,rfl,rfl,rfl,trivial⟩
  ·refine zAh ?_;show Tri ..;refine zAa ?_;refine zQE [] [] rfl ?_;show Tri ..;refine zAp ?_;refine zQE [] [] rfl ?_;show Tri ..;refine zAo rfl h (fun hb h=>?_) (fun hb h=>?_)
   ·refine zAa ?_;obtain⟨x16,hj,h⟩:=zAc h
    refine zAt ⟨ofL [(4,.s (.bool x16))],ofH [(0,.box 68 [.s (.str []),.s (.int .i64 0),.s (.nf),.s (.str [114,111,119]),.s (.int .i64 0),.s (.fn 39),.s (.str [115,121,109]),.s (.int .i64 0),.s (.fn 40),.s (.str [110,117,109]),.s (.int .i64 0),.s (.fn 41),.s (.str [116,101,120,116]),.s (.int .i64 0),.s (.fn 42),.s (.str [102,114,97,99]),.s (.int .i64 2),.s (.fn 39),.s (.str [114,111,111,116]),.s (.int .i64 2),.s (.fn 39),.s (.str [115,117,98]),.s (.int .i64 2),.s (.fn 39),.s (.str [115,117,112]),.s (.int .i64 2),.s (.fn 39),.s (.str [98,111,116,104]),.s (.int .i64 3),.s (.fn 39),.s (.str [97,99,99,101,110,116]),.s (.int .i64 1),.s (.fn 43),.s (.str [102,101,110,99,101]),.s (.int .i64 1),.s (.fn 44),.s (.str [109,97,116,114,105,120]),.s (.int .i64 0),.s (.fn 39),.s (.int .i64 o1M)])],1⟩ ?_ (fun σ' hle=>?_)
    ·replace h:=hj;refine zAb [] [46,51] rfl ?_;intro b hb;cases b with
     | true =>
      replace h:=zAD hb.symm h;intro n17 hn17;obtain rfl:(a2C.length:Int)=n17:=(hn17.trans (congrArg (fun m:Nat=>(m:Int)) (rlen Nd.encs_eq a2C))).symm;cases h;exact(Le.rnm [(0,0)] _ _ _ ⟨rfl,trivial⟩ ⟨rfl,⟨_,rfl,rfl⟩,trivial⟩)
     | false =>
      replace h:=zAC hb.symm h;cases h;exact(Le.rnm [(0,0)] _ _ _ ⟨rfl,trivial⟩ ⟨rfl,⟨_,rfl,rfl⟩,trivial⟩)
    ·show Tri ..;refine zAk hle ?_;refine zAg ?_;obtain⟨hj1,hk1⟩:=pij h;subst hj1 hk1;unfold zB5
     exact⟨_,(Le.rnm [(0,0)] [(4,.s (.bool x16))] [(0,.box 68 [.s (.str []),.s (.int .i64 0),.s (.nf),.s (.str [114,111,119]),.s (.int .i64 0),.s (.fn 39),.s (.str [115,121,109]),.s (.int .i64 0),.s (.fn 40),.s (.str [110,117,109]),.s (.int .i64 0),.s (.fn 41),.s (.str [116,101,120,116]),.s (.int .i64 0),.s (.fn 42),.s (.str [102,114,97,99]),.s (.int .i64 2),.s (.fn 39),.s (.str [114,111,111,116]),.s (.int .i64 2),.s (.fn 39),.s (.str [115,117,98]),.s (.int .i64 2),.s (.fn 39),.s (.str [115,117,112]),.s (.int .i64 2),.s (.fn 39),.s (.str [98,111,116,104]),.s (.int .i64 3),.s (.fn 39),.s (.str [97,99,99,101,110,116]),.s (.int .i64 1),.s (.fn 43),.s (.str [102,101,110,99,101]),.s (.int .i64 1),.s (.fn 44),.s (.str [109,97,116,114,105,120]),.s (.int .i64 0),.s (.fn 39),.s (.int .i64 o1M)])] 1 ⟨rfl,trivial⟩ ⟨rfl,⟨_,rfl,rfl⟩,trivial⟩),rfl,rfl,rfl,rfl,trivial⟩
   ·refine zQE [] [] rfl ?_;show Tri ..;refine zAo rfl h (fun hb h=>?_) (fun hb h=>?_)
    ·refine zAa ?_;obtain⟨x18,hj,h⟩:=zAc h
     refine zAt ⟨ofL [(4,.s (.bool x18))],ofH [(0,.box 68 [.s (.str []),.s (.int .i64 0),.s (.nf),.s (.str [114,111,119]),.s (.int .i64 0),.s (.fn 39),.s (.str [115,121,109]),.s (.int .i64 0),.s (.fn 40),.s (.str [110,117,109]),.s (.int .i64 0),.s (.fn 41),.s (.str [116,101,120,116]),.s (.int .i64 0),.s (.fn 42),.s (.str [102,114,97,99]),.s (.int .i64 2),.s (.fn 39),.s (.str [114,111,111,116]),.s (.int .i64 2),.s (.fn 39),.s (.str [115,117,98]),.s (.int .i64 2),.s (.fn 39),.s (.str [115,117,112]),.s (.int .i64 2),.s (.fn 39),.s (.str [98,111,116,104]),.s (.int .i64 3),.s (.fn 39),.s (.str [97,99,99,101,110,116]),.s (.int .i64 1),.s (.fn 43),.s (.str [102,101,110,99,101]),.s (.int .i64 1),.s (.fn 44),.s (.str [109,97,116,114,105,120]),.s (.int .i64 0),.s (.fn 39),.s (.int .i64 o1M)])],1⟩ ?_ (fun σ' hle=>?_)
     ·replace h:=hj;refine zBe [] [61,68,73,76,81,84,89] [] rfl (by decide +kernel) ?_;intro b hb;cases b with
      | true =>
       replace h:=zAD hb.symm h;intro b hb;cases b with
       | true =>
        replace h:=zAD hb.symm h;intro n19 hn19;obtain rfl:(a2C.length:Int)=n19:=(hn19.trans (congrArg (fun m:Nat=>(m:Int)) (rlen Nd.encs_eq a2C))).symm;intro b hb;cases b with
        | true =>
         replace h:=zAD hb.symm h;intro n20 hn20;obtain rfl:(a2C.length:Int)=n20:=(hn20.trans (congrArg (fun m:Nat=>(m:Int)) (rlen Nd.encs_eq a2C))).symm;intro b hb;cases b with
         | true =>
          replace h:=zAD hb.symm h;intro n21 hn21;obtain rfl:(a2C.length:Int)=n21:=(hn21.trans (congrArg (fun m:Nat=>(m:Int)) (rlen Nd.encs_eq a2C))).symm;obtain⟨hq,h⟩:=zAI h;refine And.intro hq ?_;cases h;exact(Le.rnm [(0,0)] _ _ _ ⟨rfl,trivial⟩ ⟨rfl,⟨_,rfl,rfl⟩,trivial⟩)
         | false =>
          replace h:=zAC hb.symm h;cases h;exact(Le.rnm [(0,0)] _ _ _ ⟨rfl,trivial⟩ ⟨rfl,⟨_,rfl,rfl⟩,trivial⟩)
        | false =>
         replace h:=zAC hb.symm h;intro b hb;subst hb;cases h;exact(Le.rnm [(0,0)] _ _ _ ⟨rfl,trivial⟩ ⟨rfl,⟨_,rfl,rfl⟩,trivial⟩)
       | false =>
        replace h:=zAC hb.symm h;intro b hb;subst hb;intro b hb;subst hb;cases h;exact(Le.rnm [(0,0)] _ _ _ ⟨rfl,trivial⟩ ⟨rfl,⟨_,rfl,rfl⟩,trivial⟩)
      | false =>
       replace h:=zAC hb.symm h;intro b hb;subst hb;intro b hb;subst hb;intro b hb;subst hb;cases h;exact(Le.rnm [(0,0)] _ _ _ ⟨rfl,trivial⟩ ⟨rfl,⟨_,rfl,rfl⟩,trivial⟩)
     ·show Tri ..;refine zAk hle ?_;refine zAg ?_;obtain⟨hj1,hk1⟩:=pij h;subst hj1 hk1;unfold zB5
      exact⟨_,(Le.rnm [(0,0)] [(4,.s (.bool x18))] [(0,.box 68 [.s (.str []),.s (.int .i64 0),.s (.nf),.s (.str [114,111,119]),.s (.int .i64 0),.s (.fn 39),.s (.str [115,121,109]),.s (.int .i64 0),.s (.fn 40),.s (.str [110,117,109]),.s (.int .i64 0),.s (.fn 41),.s (.str [116,101,120,116]),.s (.int .i64 0),.s (.fn 42),.s (.str [102,114,97,99]),.s (.int .i64 2),.s (.fn 39),.s (.str [114,111,111,116]),.s (.int .i64 2),.s (.fn 39),.s (.str [115,117,98]),.s (.int .i64 2),.s (.fn 39),.s (.str [115,117,112]),.s (.int .i64 2),.s (.fn 39),.s (.str [98,111,116,104]),.s (.int .i64 3),.s (.fn 39),.s (.str [97,99,99,101,110,116]),.s (.int .i64 1),.s (.fn 43),.s (.str [102,101,110,99,101]),.s (.int .i64 1),.s (.fn 44),.s (.str [109,97,116,114,105,120]),.s (.int .i64 0),.s (.fn 39),.s (.int .i64 o1M)])] 1 ⟨rfl,trivial⟩ ⟨rfl,⟨_,rfl,rfl⟩,trivial⟩),rfl,rfl,rfl,rfl,trivial⟩
    ·refine zAh ?_;show Tri ..;refine zAa ?_;obtain⟨x22,hj,h⟩:=zAc h
     refine zAt ⟨ofL [(4,.s (.bool x22))],ofH [(0,.box 68 [.s (.str []),.s (.int .i64 0),.s (.nf),.s (.str [114,111,119]),.s (.int .i64 0),.s (.fn 39),.s (.str [115,121,109]),.s (.int .i64 0),.s (.fn 40),.s (.str [110,117,109]),.s (.int .i64 0),.s (.fn 41),.s (.str [116,101,120,116]),.s (.int .i64 0),.s (.fn 42),.s (.str [102,114,97,99]),.s (.int .i64 2),.s (.fn 39),.s (.str [114,111,111,116]),.s (.int .i64 2),.s (.fn 39),.s (.str [115,117,98]),.s (.int .i64 2),.s (.fn 39),.s (.str [115,117,112]),.s (.int .i64 2),.s (.fn 39),.s (.str [98,111,116,104]),.s (.int .i64 3),.s (.fn 39),.s (.str [97,99,99,101,110,116]),.s (.int .i64 1),.s (.fn 43),.s (.str [102,101,110,99,101]),.s (.int .i64 1),.s (.fn 44),.s (.str [109,97,116,114,105,120]),.s (.int .i64 0),.s (.fn 39),.s (.int .i64 o1M)])],1⟩ ?_ (fun σ' hle=>?_)
     ·replace h:=hj;refine zBe [] [102,107,112] [20] rfl (by decide +kernel) ?_;intro b hb;cases b with
      | true =>
       replace h:=zAD hb.symm h;intro n23 hn23;obtain rfl:(a2C.length:Int)=n23:=(hn23.trans (congrArg (fun m:Nat=>(m:Int)) (rlen Nd.encs_eq a2C))).symm;intro vsp hvsp;cases hc:(a2A == 1) with
       | true =>
        replace h:=zAD hc h;obtain rfl:(1:Int)=vsp:=(hvsp.trans (eq_of_beq hc)).symm;refine And.intro (by decide) ?_;cases h;exact(Le.rnm [(0,0)] _ _ _ ⟨rfl,trivial⟩ ⟨rfl,⟨_,rfl,rfl⟩,trivial⟩)
       | false =>
        replace h:=zAC hc h;cases hc:(a2A == 2) with
        | true =>
         replace h:=zAD hc h;obtain rfl:(2:Int)=vsp:=(hvsp.trans (eq_of_beq hc)).symm;refine And.intro (by decide) ?_;cases h;exact(Le.rnm [(0,0)] _ _ _ ⟨rfl,trivial⟩ ⟨rfl,⟨_,rfl,rfl⟩,trivial⟩)
        | false =>
         replace h:=zAC hc h;cases hc:(a2A == 3) with
         | true =>
          replace h:=zAD hc h;obtain rfl:(3:Int)=vsp:=(hvsp.trans (eq_of_beq hc)).symm;refine And.intro (by decide) ?_;cases h;exact(Le.rnm [(0,0)] _ _ _ ⟨rfl,trivial⟩ ⟨rfl,⟨_,rfl,rfl⟩,trivial⟩)
         | false =>
          replace h:=zAC hc h;cases hc:(a2A == 4) with
          | true =>
           replace h:=zAD hc h;obtain rfl:(4:Int)=vsp:=(hvsp.trans (eq_of_beq hc)).symm;refine And.intro (by decide) ?_;cases h;exact(Le.rnm [(0,0)] _ _ _ ⟨rfl,trivial⟩ ⟨rfl,⟨_,rfl,rfl⟩,trivial⟩)
          | false =>
           replace h:=zAC hc h;cases hc:(a2A == 5) with
           | true =>
            replace h:=zAD hc h;obtain rfl:(5:Int)=vsp:=(hvsp.trans (eq_of_beq hc)).symm;refine And.intro (by decide) ?_;cases h;exact(Le.rnm [(0,0)] _ _ _ ⟨rfl,trivial⟩ ⟨rfl,⟨_,rfl,rfl⟩,trivial⟩)
           | false =>
            replace h:=zAC hc h;cases hc:(a2A == 6) with
            | true =>
             replace h:=zAD hc h;obtain rfl:(6:Int)=vsp:=(hvsp.trans (eq_of_beq hc)).symm;refine And.intro (by decide) ?_;cases h;exact(Le.rnm [(0,0)] _ _ _ ⟨rfl,trivial⟩ ⟨rfl,⟨_,rfl,rfl⟩,trivial⟩)
            | false =>
             replace h:=zAC hc h;cases hc:(a2A == 7) with
             | true =>
              replace h:=zAD hc h;obtain rfl:(7:Int)=vsp:=(hvsp.trans (eq_of_beq hc)).symm;refine And.intro (by decide) ?_;cases h;exact(Le.rnm [(0,0)] _ _ _ ⟨rfl,trivial⟩ ⟨rfl,⟨_,rfl,rfl⟩,trivial⟩)
             | false =>
              replace h:=zAC hc h;cases hc:(a2A == 8) with
              | true =>
               replace h:=zAD hc h;obtain rfl:(8:Int)=vsp:=(hvsp.trans (eq_of_beq hc)).symm;refine And.intro (by decide) ?_;cases h;exact(Le.rnm [(0,0)] _ _ _ ⟨rfl,trivial⟩ ⟨rfl,⟨_,rfl,rfl⟩,trivial⟩)
              | false =>
               replace h:=zAC hc h;cases hc:(a2A == 9) with
               | true =>
                replace h:=zAD hc h;obtain rfl:(9:Int)=vsp:=(hvsp.trans (eq_of_beq hc)).symm;refine And.intro (by decide) ?_;cases h;exact(Le.rnm [(0,0)] _ _ _ ⟨rfl,trivial⟩ ⟨rfl,⟨_,rfl,rfl⟩,trivial⟩)
               | false =>
                replace h:=zAC hc h;cases hc:(a2A == 10) with
                | true =>
                 replace h:=zAD hc h;obtain rfl:(10:Int)=vsp:=(hvsp.trans (eq_of_beq hc)).symm;refine And.intro (by decide) ?_;cases h;exact(Le.rnm [(0,0)] _ _ _ ⟨rfl,trivial⟩ ⟨rfl,⟨_,rfl,rfl⟩,trivial⟩)
                | false =>
                 replace h:=zAC hc h;cases hc:(a2A == 11) with
                 | true =>
                  replace h:=zAD hc h;obtain rfl:(11:Int)=vsp:=(hvsp.trans (eq_of_beq hc)).symm;refine And.intro (by decide) ?_;cases h;exact(Le.rnm [(0,0)] _ _ _ ⟨rfl,trivial⟩ ⟨rfl,⟨_,rfl,rfl⟩,trivial⟩)
                 | false =>
                  replace h:=zAC hc h;cases hc:(a2A == 12) with
                  | true =>
                   replace h:=zAD hc h;obtain rfl:(12:Int)=vsp:=(hvsp.trans (eq_of_beq hc)).symm;refine And.intro (by decide) ?_;cases h;exact(Le.rnm [(0,0)] _ _ _ ⟨rfl,trivial⟩ ⟨rfl,⟨_,rfl,rfl⟩,trivial⟩)
                  | false =>
                   replace h:=zAC hc h;cases h
      | false =>
       replace h:=zAC hb.symm h;cases h;exact(Le.rnm [(0,0)] _ _ _ ⟨rfl,trivial⟩ ⟨rfl,⟨_,rfl,rfl⟩,trivial⟩)
     ·show Tri ..;refine zAk hle ?_;refine zAg ?_;obtain⟨hj1,hk1⟩:=pij h;subst hj1 hk1;unfold zB5
      exact⟨_,(Le.rnm [(0,0)] [(4,.s (.bool x22))] [(0,.box 68 [.s (.str []),.s (.int .i64 0),.s (.nf),.s (.str [114,111,119]),.s (.int .i64 0),.s (.fn 39),.s (.str [115,121,109]),.s (.int .i64 0),.s (.fn 40),.s (.str [110,117,109]),.s (.int .i64 0),.s (.fn 41),.s (.str [116,101,120,116]),.s (.int .i64 0),.s (.fn 42),.s (.str [102,114,97,99]),.s (.int .i64 2),.s (.fn 39),.s (.str [114,111,111,116]),.s (.int .i64 2),.s (.fn 39),.s (.str [115,117,98]),.s (.int .i64 2),.s (.fn 39),.s (.str [115,117,112]),.s (.int .i64 2),.s (.fn 39),.s (.str [98,111,116,104]),.s (.int .i64 3),.s (.fn 39),.s (.str [97,99,99,101,110,116]),.s (.int .i64 1),.s (.fn 43),.s (.str [102,101,110,99,101]),.s (.int .i64 1),.s (.fn 44),.s (.str [109,97,116,114,105,120]),.s (.int .i64 0),.s (.fn 39),.s (.int .i64 o1M)])] 1 ⟨rfl,trivial⟩ ⟨rfl,⟨_,rfl,rfl⟩,trivial⟩),rfl,rfl,rfl,rfl,trivial⟩
def zBh (n:Nat) (xs:List AV) (os:List Ob) (x:AV) (os':List (Option Ob)):Prop:=∃ (a0:(Unit×Int)) (a1:Nd) (a2:Int) (y0:Bool) (z0:(Unit×Int)),zAL n a0 a1 a2=some (y0,z0)/\xs=[.op 0 0,.s (.pt (Nd.enc a1)),.s (.int .i64 a2)]/\os=[.box 68 ((zAj a0).map .s)]/\x = .s (.bool y0)/\os'=[some (.box 68 ((zAj z0).map .s))]
theorem zFB (n:Nat) (ih:PSound Try.prog 25 (zCm (zBh n))):PSound Try.prog 25 (zCm (zBh (n+1))):=by
 have gok:∀ f s,look? f [(45,zEB),(25,zCm (zBh n))]=some s->PSound Try.prog f s:=zAs (by
  simp only[List.forall_mem_cons]
  exact⟨zG6,ih,by simp⟩)
 refine PSound.withNil (zF5 tokW Try.call25 Try.func25 rfl (fun xs os x os' h=>by obtain⟨_,_,_,_,_,_,rfl,rfl,_,rfl⟩:=h; exact⟨by show 3<=67; decide,by show 1<=1; decide⟩) 67 rfl ?_) _;rintro xs os x os' w0 G0 B0 ⟨⟨_,o1M⟩,⟨a2A,a2B,a2D,a2C⟩,a3,y0,z0,h,rfl,rfl,rfl,rfl⟩ _;rw[zAL]at h;refine zQE [] [] rfl ?_;show Tri ..;refine zQE [] [] rfl ?_;show Tri ..;refine zAa ?_;refine zAa ?_;obtain⟨⟨x4,x5⟩,hj,h⟩:=zAc h
 refine zAt ⟨ofL [(0,.op 0 0),(1,.s (.pt [.int .i64 a2A,.str a2B,.int .i64 a2D,.sl 4 (Nd.encs a2C)])),(2,.s (.int .i64 a3)),(29,.s (.bool x4))],ofH [(0,.box 68 [.s (.str []),.s (.int .i64 0),.s (.nf),.s (.str [114,111,119]),.s (.int .i64 0),.s (.fn 39),.s (.str [115,121,109]),.s (.int .i64 0),.s (.fn 40),.s (.str [110,117,109]),.s (.int .i64 0),.s (.fn 41),.s (.str [116,101,120,116]),.s (.int .i64 0),.s (.fn 42),.s (.str [102,114,97,99]),.s (.int .i64 2),.s (.fn 39),.s (.str [114,111,111,116]),.s (.int .i64 2),.s (.fn 39),.s (.str [115,117,98]),.s (.int .i64 2),.s (.fn 39),.s (.str [115,117,112]),.s (.int .i64 2),.s (.fn 39),.s (.str [98,111,116,104]),.s (.int .i64 3),.s (.fn 39),.s (.str [97,99,99,101,110,116]),.s (.int .i64 1),.s (.fn 43),.s (.str [102,101,110,99,101]),.s (.int .i64 1),.s (.fn 44),.s (.str [109,97,116,114,105,120]),.s (.int .i64 0),.s (.fn 39),.s (.int .i64 x5)])],1⟩ ?_ (fun σ' hle=>?_)
 ·replace h:=hj;refine zAb [] [20,24] rfl ?_;intro b hb;cases b with
  | true =>
   replace h:=zAD hb.symm h;intro b hb;subst hb;cases h;exact(Le.rnm [(0,0)] _ _ _ ⟨rfl,rfl,rfl,rfl,trivial⟩ ⟨rfl,⟨_,rfl,rfl⟩,trivial⟩)
  | false =>
   replace h:=zAC hb.symm h;intro b hb;cases b with
   | true =>
    replace h:=zAD hb.symm h;cases h;exact(Le.rnm [(0,0)] _ _ _ ⟨rfl,rfl,rfl,rfl,trivial⟩ ⟨rfl,⟨_,rfl,rfl⟩,trivial⟩)
   | false =>
    replace h:=zAC hb.symm h;obtain⟨⟨y6,⟨_,w7M⟩⟩,hy6,h⟩:=zAc h;refine⟨_,_,⟨_,_,_,_,_,hy6,rfl,rfl,rfl,rfl⟩,?_⟩
    cases h;exact(Le.rnm [(0,0)] _ _ _ ⟨rfl,rfl,rfl,rfl,trivial⟩ ⟨rfl,⟨_,rfl,rfl⟩,trivial⟩)
 ·show Tri ..;refine zAk hle ?_;refine zAo rfl h (fun hb h=>?_) (fun hb h=>?_)
  ·refine zQE [] [] rfl ?_;show Tri ..;refine zAg ?_;obtain⟨hj1,hk1⟩:=pij h;subst hj1 hk1;unfold zB5
   exact⟨_,(Le.rnm [(0,0)] [(6,.s (.bool false))] [(0,.box 68 [.s (.str []),.s (.int .i64 0),.s (.nf),.s (.str [114,111,119]),.s (.int .i64 0),.s (.fn 39),.s (.str [115,121,109]),.s (.int .i64 0),.s (.fn 40),.s (.str [110,117,109]),.s (.int .i64 0),.s (.fn 41),.s (.str [116,101,120,116]),.s (.int .i64 0),.s (.fn 42),.s (.str [102,114,97,99]),.s (.int .i64 2),.s (.fn 39),.s (.str [114,111,111,116]),.s (.int .i64 2),.s (.fn 39),.s (.str [115,117,98]),.s (.int .i64 2),.s (.fn 39),.s (.str [115,117,112]),.s (.int .i64 2),.s (.fn 39),.s (.str [98,111,116,104]),.s (.int .i64 3),.s (.fn 39),.s (.str [97,99,99,101,110,116]),.s (.int .i64 1),.s (.fn 43),.s (.str [102,101,110,99,101]),.s (.int .i64 1),.s (.fn 44),.s (.str [109,97,116,114,105,120]),.s (.int .i64 0),.s (.fn 39),.s (.int .i64 x5)])] 1 ⟨rfl,trivial⟩ ⟨rfl,⟨_,rfl,rfl⟩,trivial⟩),rfl,rfl,rfl,rfl,trivial⟩
  ·refine zAh ?_;show Tri ..;refine zAa ?_;refine zQE [] [34] rfl ?_;intro n8 hn8;obtain rfl:(a2C.length:Int)=n8:=(hn8.trans (congrArg (fun m:Nat=>(m:Int)) (rlen Nd.encs_eq a2C))).symm;show Tri ..;obtain⟨fl,hl,ho1⟩:=zAc h
   refine zDk (fl:=fl) (fun z=>match z with | x11=>⟨ofL [],ofH [(0,.box 68 [.s (.str []),.s (.int .i64 0),.s (.nf),.s (.str [114,111,119]),.s (.int .i64 0),.s (.fn 39),.s (.str [115,121,109]),.s (.int .i64 0),.s (.fn 40),.s (.str [110,117,109]),.s (.int .i64 0),.s (.fn 41),.s (.str [116,101,120,116]),.s (.int .i64 0),.s (.fn 42),.s (.str [102,114,97,99]),.s (.int .i64 2),.s (.fn 39),.s (.str [114,111,111,116]),.s (.int .i64 2),.s (.fn 39),.s (.str [115,117,98]),.s (.int .i64 2),.s (.fn 39),.s (.str [115,117,112]),.s (.int .i64 2),.s (.fn 39),.s (.str [98,111,116,104]),.s (.int .i64 3),.s (.fn 39),.s (.str [97,99,99,101,110,116]),.s (.int .i64 1),.s (.fn 43),.s (.str [102,101,110,99,101]),.s (.int .i64 1),.s (.fn 44),.s (.str [109,97,116,114,105,120]),.s (.int .i64 0),.s (.fn 39),.s (.int .i64 x11)])],1⟩) ?_ (fun x11 σ' hz hle=>?_)
   ·refine zAp (zAE (X:=Nat×Int×Int) (fun y=>match y with | (k,x9,x10)=>⟨ofL [(0,.op 0 0),(1,.s (.pt [.int .i64 a2A,.str a2B,.int .i64 a2D,.sl 4 (Nd.encs a2C)])),(2,.s (.int .i64 a3)),(34,.s (.int .i64 (a2C.length:Int))),(35,.s (.int .i64 x10))],ofH [(0,.box 68 [.s (.str []),.s (.int .i64 0),.s (.nf),.s (.str [114,111,119]),.s (.int .i64 0),.s (.fn 39),.s (.str [115,121,109]),.s (.int .i64 0),.s (.fn 40),.s (.str [110,117,109]),.s (.int .i64 0),.s (.fn 41),.s (.str [116,101,120,116]),.s (.int .i64 0),.s (.fn 42),.s (.str [102,114,97,99]),.s (.int .i64 2),.s (.fn 39),.s (.str [114,111,111,116]),.s (.int .i64 2),.s (.fn 39),.s (.str [115,117,98]),.s (.int .i64 2),.s (.fn 39),.s (.str [115,117,112]),.s (.int .i64 2),.s (.fn 39),.s (.str [98,111,116,104]),.s (.int .i64 3),.s (.fn 39),.s (.str [97,99,99,101,110,116]),.s (.int .i64 1),.s (.fn 43),.s (.str [102,101,110,99,101]),.s (.int .i64 1),.s (.fn 44),.s (.str [109,97,116,114,105,120]),.s (.int .i64 0),.s (.fn 39),.s (.int .i64 x9)])],1⟩) (fun y=>zAG (zAL n) a2A a2C a3 y.1 y.2.1 y.2.2=some fl) (fun y=>y.1) (n,x5,0) hl ?_ ?_)
    ·exact(Le.rnm [(0,0)] _ _ _ ⟨rfl,rfl,rfl,rfl,rfl,trivial⟩ ⟨rfl,⟨_,rfl,rfl⟩,trivial⟩)
    ·rintro⟨k,x9,x10⟩ h;cases k with
     | zero=>cases h
     | succ k =>
      replace h:zAG (zAL n) a2A a2C a3 (k+1) x9 x10=some fl:=h;rw[zAG]at h;refine zQE [] [] rfl ?_;show Tri ..;refine zAa ?_;refine zAo rfl h (fun hb h=>?_) (fun hb h=>?_)
      ·refine zAh ?_;show Tri ..;refine zAa ?_;refine zAp ?_;refine zQE [] [] rfl ?_;show Tri ..;refine zAa ?_;obtain⟨⟨x12,x13⟩,hj,h⟩:=zAc h
       refine zAt ⟨ofL [(0,.op 0 0),(1,.s (.pt [.int .i64 a2A,.str a2B,.int .i64 a2D,.sl 4 (Nd.encs a2C)])),(2,.s (.int .i64 a3)),(34,.s (.int .i64 (a2C.length:Int))),(35,.s (.int .i64 x10)),(65,.s (.bool x12))],ofH [(0,.box 68 [.s (.str []),.s (.int .i64 0),.s (.nf),.s (.str [114,111,119]),.s (.int .i64 0),.s (.fn 39),.s (.str [115,121,109]),.s (.int .i64 0),.s (.fn 40),.s (.str [110,117,109]),.s (.int .i64 0),.s (.fn 41),.s (.str [116,101,120,116]),.s (.int .i64 0),.s (.fn 42),.s (.str [102,114,97,99]),.s (.int .i64 2),.s (.fn 39),.s (.str [114,111,111,116]),.s (.int .i64 2),.s (.fn 39),.s (.str [115,117,98]),.s (.int .i64 2),.s (.fn 39),.s (.str [115,117,112]),.s (.int .i64 2),.s (.fn 39),.s (.str [98,111,116,104]),.s (.int .i64 3),.s (.fn 39),.s (.str [97,99,99,101,110,116]),.s (.int .i64 1),.s (.fn 43),.s (.str [102,101,110,99,101]),.s (.int .i64 1),.s (.fn 44),.s (.str [109,97,116,114,105,120]),.s (.int .i64 0),.s (.fn 39),.s (.int .i64 x13)])],1⟩ ?_ (fun σ' hle=>?_)
       ·replace h:=hj;refine zBe [] [48,53,60] [25] rfl (by decide +kernel) ?_;obtain⟨⟨e14A,e14B,e14D,e14C⟩,he14,h⟩:=zAc h;refine And.intro (zAK Nd.encs_eq he14).1 ?_;intro r15 hr15;obtain rfl:[.int .i64 e14A,.str e14B,.int .i64 e14D,.sl 4 (Nd.encs e14C)]=r15:=(hr15.trans (zAK Nd.encs_eq he14).2.1).symm;intro b hb;cases b with
        | true =>
         replace h:=zAD hb.symm h;cases h;exact(Le.rnm [(0,0)] _ _ _ ⟨rfl,rfl,rfl,rfl,rfl,rfl,trivial⟩ ⟨rfl,⟨_,rfl,rfl⟩,trivial⟩)
        | false =>
         replace h:=zAC hb.symm h;obtain⟨⟨e16A,e16B,e16D,e16C⟩,he16,h⟩:=zAc h;refine And.intro (zAK Nd.encs_eq he16).1 ?_;intro r17 hr17;obtain rfl:[.int .i64 e16A,.str e16B,.int .i64 e16D,.sl 4 (Nd.encs e16C)]=r17:=(hr17.trans (zAK Nd.encs_eq he16).2.1).symm;obtain⟨⟨y18,⟨_,w19M⟩⟩,hy18,h⟩:=zAc h;refine⟨_,_,⟨_,_,_,_,_,hy18,rfl,rfl,rfl,rfl⟩,?_⟩
         cases h;exact(Le.rnm [(0,0)] _ _ _ ⟨rfl,rfl,rfl,rfl,rfl,rfl,trivial⟩ ⟨rfl,⟨_,rfl,rfl⟩,trivial⟩)
       ·show Tri ..;refine zAk hle ?_;refine zAo rfl h (fun hb h=>?_) (fun hb h=>?_)
        ·refine zQE [] [] rfl ?_;show Tri ..;refine zAg ?_;cases h;replace h:some _=some _:=ho1;obtain⟨hj1,hk1⟩:=pij h;subst hj1 hk1;unfold zB5
         exact⟨_,(Le.rnm [(0,0)] [(6,.s (.bool false))] [(0,.box 68 [.s (.str []),.s (.int .i64 0),.s (.nf),.s (.str [114,111,119]),.s (.int .i64 0),.s (.fn 39),.s (.str [115,121,109]),.s (.int .i64 0),.s (.fn 40),.s (.str [110,117,109]),.s (.int .i64 0),.s (.fn 41),.s (.str [116,101,120,116]),.s (.int .i64 0),.s (.fn 42),.s (.str [102,114,97,99]),.s (.int .i64 2),.s (.fn 39),.s (.str [114,111,111,116]),.s (.int .i64 2),.s (.fn 39),.s (.str [115,117,98]),.s (.int .i64 2),.s (.fn 39),.s (.str [115,117,112]),.s (.int .i64 2),.s (.fn 39),.s (.str [98,111,116,104]),.s (.int .i64 3),.s (.fn 39),.s (.str [97,99,99,101,110,116]),.s (.int .i64 1),.s (.fn 43),.s (.str [102,101,110,99,101]),.s (.int .i64 1),.s (.fn 44),.s (.str [109,97,116,114,105,120]),.s (.int .i64 0),.s (.fn 39),.s (.int .i64 x13)])] 1 ⟨rfl,trivial⟩ ⟨rfl,⟨_,rfl,rfl⟩,trivial⟩),rfl,rfl,rfl,rfl,trivial⟩
        ·refine zAh ?_;show Tri ..;refine zAb [] [] rfl ?_;refine⟨(k,x13,IntKind.i64.wrap (x10+1)),h,(Le.rnm [(0,0)] _ _ _ ⟨rfl,rfl,rfl,rfl,rfl,trivial⟩ ⟨rfl,⟨_,rfl,rfl⟩,trivial⟩),Nat.lt_succ_self k⟩
      ·refine zAJ ?_;cases h;exact⟨_,rfl,(Le.rnm [(0,0)] _ _ _ trivial ⟨rfl,⟨_,rfl,rfl⟩,trivial⟩)⟩
   ·subst hz;replace h:=ho1;show Tri ..;refine zAk hle ?_;refine zQE [] [] rfl ?_;show Tri ..;refine zAg ?_;obtain⟨hj1,hk1⟩:=pij h;subst hj1 hk1;unfold zB5
    exact⟨_,(Le.rnm [(0,0)] [(6,.s (.bool true))] [(0,.box 68 [.s (.str []),.s (.int .i64 0),.s (.nf),.s (.str [114,111,119]),.s (.int .i64 0),.s (.fn 39),.s (.str [115,121,109]),.s (.int .i64 0),.s (.fn 40),.s (.str [110,117,109]),.s (.int .i64 0),.s (.fn 41),.s (.str [116,101,120,116]),.s (.int .i64 0),.s (.fn 42),.s (.str [102,114,97,99]),.s (.int .i64 2),.s (.fn 39),.s (.str [114,111,111,116]),.s (.int .i64 2),.s (.fn 39),.s (.str [115,117,98]),.s (.int .i64 2),.s (.fn 39),.s (.str [115,117,112]),.s (.int .i64 2),.s (.fn 39),.s (.str [98,111,116,104]),.s (.int .i64 3),.s (.fn 39),.s (.str [97,99,99,101,110,116]),.s (.int .i64 1),.s (.fn 43),.s (.str [102,101,110,99,101]),.s (.int .i64 1),.s (.fn 44),.s (.str [109,97,116,114,105,120]),.s (.int .i64 0),.s (.fn 39),.s (.int .i64 x11)])] 1 ⟨rfl,trivial⟩ ⟨rfl,⟨_,rfl,rfl⟩,trivial⟩),rfl,rfl,rfl,rfl,trivial⟩
theorem zFJ:∀ n,PSound Try.prog 25 (zCm (zBh n)):=by
 intro n
 induction n with
 | zero=>exact zJB Try.call25 (fun xs os x os' h=>by obtain⟨_,_,_,_,_,h,_⟩:=h; cases h) _
 | succ n ih=>exact zFB n ih
def zD9:zAv:=zCm (fun xs os x os'=>∃ n,zBh n xs os x os')
theorem zGq:PSound Try.prog 25 zD9:=zKH zFJ _
def zLK (n:Nat) (xs:List AV) (r:Ret):Prop:=∃ (a0:Nd) (y0:Bool),zAS n a0=some y0/\xs=[.agg ((Nd.enc a0).map .s)]/\r = .val (.s (.bool y0))
def zBt:zAv:=zAx fun xs r=>∃ n,zLK n xs r
theorem zBC:PSound Try.prog 16 zBt:=by
 have gok:∀ f s,look? f [(24,zIi),(25,zD9)]=some s->PSound Try.prog f s:=zAs (by
  simp only[List.forall_mem_cons]
  exact⟨zLq,zGq,by simp⟩)
 refine zAz tokW Try.call16 Try.func16 rfl (fun xs r h=>by obtain⟨n,_,_,_,rfl,_⟩:=h; show 1<=14; decide) 14 rfl ?_;rintro xs r w0 G0 ⟨n,⟨n1A,n1B,n1D,n1C⟩,y0,h,rfl,rfl⟩ _;rw[zAS]at h;refine zQE [] [] rfl ?_;show Tri ..;refine zQE [6] [] rfl ?_;obtain⟨_,hy2,h⟩:=zAc h;refine⟨_,⟨_,hy2,rfl,rfl⟩,?_⟩
 show Tri ..;refine zAa ?_;obtain⟨x3,hj,h⟩:=zAc h;refine zAt ⟨ofL [(2,.s (.bool x3))],fun _=>none,0⟩ ?_ (fun σ' hle=>?_)
 ·replace h:=hj;refine zAb [] [10] rfl ?_;intro b hb;cases b with
  | true =>
   replace h:=zAD hb.symm h;obtain⟨⟨y4,⟨_,w5M⟩⟩,hy4,h⟩:=zAc h;refine⟨_,_,⟨_,_,_,_,_,_,hy4,rfl,rfl,rfl,rfl⟩,?_⟩
   cases h;exact(Le.rnm [] _ [] 0 ⟨rfl,trivial⟩ trivial)
  | false =>
   replace h:=zAC hb.symm h;cases h;exact(Le.rnm [] _ [] 0 ⟨rfl,trivial⟩ trivial)
 ·show Tri ..;refine zAk hle ?_;refine zAg ?_;have hy:=Option.some.inj h;subst hy;unfold zAu;exact⟨_,Le.refl _ _,rfl,rfl⟩
def zHS (n:Nat) (xs:List AV) (r:Ret):Prop:=∃ (a0:List Nd) (y0:Bool),zCt n a0=some y0/\xs=[.s (.sl 4 (Nd.encs a0))]/\r = .val (.s (.bool y0))
def zDn:zAv:=zAx fun xs r=>∃ n,zHS n xs r
theorem zEF:PSound Try.prog 78 zDn:=by
 have gok:∀ f s,look? f [(16,zBt)]=some s->PSound Try.prog f s:=zAs (by
  simp only[List.forall_mem_cons]
  exact⟨zBC,by simp⟩)
 refine zAz tokW Try.call78 Try.func78 rfl (fun xs r h=>by obtain⟨n,_,_,_,rfl,_⟩:=h; show 1<=6; decide) 6 rfl ?_;rintro xs r w0 G0 ⟨n,l1,y0,h,rfl,rfl⟩ _;rw[zCt]at h;refine zQE [] [] rfl ?_;show Tri ..;refine zQE [] [] rfl ?_;obtain⟨y2,hy2,h⟩:=zAc h;refine⟨_,⟨_,_,_,hy2,rfl,rfl⟩,?_⟩
 show Tri ..;refine zAg ?_;have hy:=Option.some.inj h;subst hy;unfold zAu;exact⟨_,Le.refl _ _,rfl,rfl⟩
def zLJ (xs:List AV) (r:Ret):Prop:=∃ (a0:Nd) (y0:Int),zDF a0=some y0/\xs=[.agg ((Nd.enc a0).map .s)]/\r = .val (.s (.int .i64 y0))
def zEA:zAv:=zAx fun xs r=>zLJ xs r
theorem zFo:PSound Try.prog 89 zEA:=by
 have gok:=@gok0 Try.prog;refine zAz tokW Try.call89 Try.func89 rfl (fun xs r h=>by obtain⟨_,_,_,rfl,_⟩:=h; show 1<=9; decide) 9 rfl ?_;rintro xs r w0 G0 ⟨⟨n1A,n1B,n1D,n1C⟩,y0,h,rfl,rfl⟩ _;rw[zDF]at h;refine zQE [] [] rfl ?_;show Tri ..;refine zAa ?_;refine zQE [] [] rfl ?_;show Tri ..;refine zAo rfl h (fun hb h=>?_) (fun hb h=>?_)
 ·refine zQE [] [] rfl ?_;show Tri ..;refine zAg ?_;have hy:=Option.some.inj h;subst hy;unfold zAu;exact⟨_,Le.refl _ _,rfl,rfl⟩
 ·refine zAh ?_;show Tri ..;refine zQE [] [8] rfl ?_;intro n2 hn2;obtain rfl:(n1C.length:Int)=n2:=(hn2.trans (congrArg (fun m:Nat=>(m:Int)) (rlen Nd.encs_eq n1C))).symm;show Tri ..;refine zAg ?_;have hy:=Option.some.inj h;subst hy;unfold zAu;exact⟨_,Le.refl _ _,rfl,rfl⟩
def zNA (n:Nat) (xs:List AV) (r:Ret):Prop:=∃ (a0:Nd) (a1:List Int) (y0:Nd) (y1:Int),zHZ n a0 a1=some (y0,y1)/\xs=[.agg ((Nd.enc a0).map .s),.s (.sl 1 (a1.map (irow .i64)))]/\r = .val (.tup [.agg ((Nd.enc y0).map .s),.s (.int .i64 y1)])
def zKr:zAv:=zAx fun xs r=>∃ n,zNA n xs r
theorem zM1:PSound Try.prog 68 zKr:=by
 have gok:∀ f s,look? f [(16,zBt),(80,zI0),(17,zCb)]=some s->PSound Try.prog f s:=zAs (by
  simp only[List.forall_mem_cons]
  exact⟨zBC,zMo,zCl,by simp⟩)
 refine zAz tokW Try.call68 Try.func68 rfl (fun xs r h=>by obtain⟨n,_,_,_,_,_,rfl,_⟩:=h; show 2<=_; decide) _ rfl ?_;rintro xs r w0 G0 ⟨f,⟨k,t,c,ks⟩,p,y0,y1,h,rfl,rfl⟩ _;rw[zHZ]at h;obtain⟨b,hb,h⟩:=zAc h;refine zQE [4] [] rfl ?_;show Tri ..;refine zAa ?_;refine zQE [] [] rfl ?_;refine⟨_,⟨f,_,_,hb,rfl,rfl⟩,?_⟩
 show Tri ..;cases b with
 | false =>
  refine zAB rfl (fun _=>?_) (fun h=>by cases h)
  refine zQE [] [] rfl ?_;show Tri ..;refine zAg ?_;obtain⟨rfl,rfl⟩:=Prod.mk.inj (Option.some.inj h)
  unfold zAu;exact⟨_,Le.refl _ _,rfl,rfl⟩
 | true =>
  refine zAB rfl (fun h=>by cases h) (fun _=>?_)
  refine zAh ?_;show Tri ..;replace h:(match zDT (.mk k t c ks) p with | some r=>(zAR r).bind fun r=>some (r,0) | none=>some (zFd,8))=some (y0,y1):=h;refine zQE [] [] rfl ?_;cases hf:zDT (.mk k t c ks) p with
  | none =>
   rw[hf]at h;refine⟨.val (.tup [.junk,.s (.bool false)]),⟨.mk k t c ks,p,rfl,by rw[hf]; rfl⟩,?_⟩
   show Tri ..;refine zAa ?_;refine zQE [] [] rfl ?_;show Tri ..;refine zAB rfl (fun _=>?_) (fun h=>by cases h)
   refine zQE [] [] rfl ?_;show Tri ..;refine zAg ?_;obtain⟨rfl,rfl⟩:=Prod.mk.inj (Option.some.inj h)
   unfold zAu;exact⟨_,Le.refl _ _,rfl,rfl⟩
  | some z =>
   obtain⟨k2,t2,c2,ks2⟩:=z;rw[hf]at h;refine⟨.val (.tup [.s (.pt (Nd.enc (.mk k2 t2 c2 ks2))),.s (.bool true)]),⟨.mk k t c ks,p,rfl,by rw[hf]; rfl⟩,?_⟩
   show Tri ..;refine zAa ?_;refine zQE [] [] rfl ?_;show Tri ..;refine zAB rfl (fun h=>by cases h) (fun _=>?_)
   refine zAh ?_;show Tri ..;obtain⟨⟨k3,t3,c3,ks3⟩,hd,h⟩:=zAc h;obtain⟨rfl,rfl⟩:=Prod.mk.inj (Option.some.inj h)
   refine zQE [] [] rfl ?_;refine⟨_,⟨_,_,hd,rfl,rfl⟩,?_⟩
   show Tri ..;refine zAg ?_;unfold zAu;exact⟨_,Le.refl _ _,rfl,rfl⟩
theorem zOT {T:Nat->Option TI}{own:Bool}{o:Oper}{σ:St}{e t e0:Nat}{args:Array Operand}{ts:Array Nat}{y:Operand}{v:AV}{ks:List Nd}{keys:List Nat} (hv:VAt σ.hp e v ks keys) (ho:o.op = .call { callee:=.builtin .len,args:=args,argTypes:=ts }) (ha:args.toList=[y]) (hts:ts.toList=[t]) (ht:tk T t = .slice e0)
  (hy:opd T σ.env t y=v):step1 T own o σ=some (none,.s (.int .i64 (ks.length:Int)),σ):=by
 rcases hv with ⟨rfl,rfl,_⟩ | ⟨q,rows,keys',w,rfl,hq,hlen,_,_⟩
 ·have e1:zBM T own o σ.env=some (none,.s (.int .i64 0)) :=(by simp only[zBM,ho,ha,hts,pLen,ht,hy]; rfl);simp only[step1,e1]; rfl
 ·rw[zJM ho ha hts ht hy hq,hlen]
theorem zOG {k c:Int}{tx:List UInt8}{ks:List Nd}{k2 c2:Int}{tx2:List UInt8}{ks2:List Nd}{z r:Nd}{i s:Int}{p:List Int} (hx:ks[i.toNat]? = some (.mk k2 tx2 c2 ks2)) (hz:ks2[s.toNat]? = some z) :
  putL (.mk k tx c ks) (i::s::p) r = .mk k tx c (ks.set i.toNat (.mk k2 tx2 c2 (ks2.set s.toNat (putL z p r)))):=by
 rw[putL,hx]
 simp only[hz]
theorem Hole.here {hp:Nat->Option Ob}{e:Nat}{p p1:AV}{y:Nd}{keys:List Nat}{F:Nd->Nd} (hn:(zAW p::keys).Nodup) (h:Hole hp e p keys p1 y F):∃ keys0 w0,At hp e p1 y keys0 [] w0/\isL 4 p1/\(zAW p1::keys0).Nodup:=by
 obtain⟨keys0,rest,w0,a1,a2,a3,a4,_⟩:=h;obtain⟨hb,hnk⟩:=List.nodup_cons.1 hn;obtain⟨n0,n1,n01⟩:=List.nodup_append.1 (a1.nodup_iff.1 hnk)
 refine⟨keys0,w0,a2,a3,List.nodup_cons.2 ⟨fun hm=>?_,n0⟩⟩
 rcases a4 with rfl | a4
 ·exact hb (a1.mem_iff.2 (List.mem_append_left _ hm))
 ·exact n01 _ hm _ a4 rfl
theorem Hole.step {hp:Nat->Option Ob}{e q i:Nat}{p p1:AV}{k c:Int}{tx:List UInt8}{ks:List Nd}{x:Nd}{keys:List Nat}{F:Nd->Nd} (hn:(zAW p::keys).Nodup) (h:Hole hp e p keys p1 (.mk k tx c ks) F) (hx:ks[i]? = some x) (hc:zAF hp p1=some (zAQ k tx c (.orow q))) :
  Hole hp e p keys (.rp q 4 i 0) x (fun r=>F (.mk k tx c (ks.set i r))) :=
 Hole.trans hn h fun keys0 w0 ha hl hn0=>by
  obtain⟨b,rows,h1,_,_,h4⟩:=Hole.kid ha hl hn0 hx;rw[hc]at h1;have:q=b :=(by simpa [zAQ] using h1);rw[this]; exact h4
theorem zPp {t r:Nd}:putL t [] r=r:=by cases t; rfl
def zLD (xs:List AV) (hp:Nat->Option Ob) (n:Nat) (Φ:AV->(Nat->Option Ob)->Nat->Prop):Prop :=
 ∃ (p:AV) (t:Nd) (path:List Int) (keys:List Nat) (w:Nat),xs=[p,.s (.sl 1 (path.map (irow .i64)))]/\isL 4 p/\At hp 24 p t keys [] w/\(zAW p::keys).Nodup /\
  (zDT t path=none->Φ (.tup [.junk,.s (.bool false)]) hp n)/\∀ p1 y F,zDT t path=some y->Hole hp 24 p keys p1 y F->(∀ r,putL t path r=F r)->Φ (.tup [p1,.s (.bool true)]) hp n
def zIP:zAv:=zMa zLD
set_option maxHeartbeats 600000 in
theorem zLe:PSound Try.prog 80 zIP:=by
 have gok:=@gok0 Try.prog;refine zKz tokW Try.call80 Try.func80 rfl (fun xs hp n Φ h=>by obtain⟨_,_,_,_,_,rfl,_⟩:=h; show 2<=_; decide) _ rfl ?_;rintro xs hp n Φ w0 G0 B0 ⟨p0,t0,path0,keys,w,rfl,hl0,hat,hnd,hΦ1,hΦ2⟩ _ hhp;refine zQE [] [] rfl ?_;show Tri ..;refine zAa ?_;refine zAp (zAE (X:=AV×Nd×List Int×(Nd->Nd)) (fun x=>match x with | (p,y,q,F)=>⟨ofL [(0,p),(1,.s (.sl 1 (q.map (irow .i64)))),(4,.s .np),(5,.s (.bool false))],hp,n⟩)
  (fun x=>match x with | (p,y,q,F)=>zDT t0 path0=zDT y q/\Hole hp 24 p0 keys p y F/\∀ r,putL t0 path0 r=F (putL y q r)) (fun x=>match x with | (p,y,q,F)=>q.length) (p0,t0,path0,id) ⟨rfl,Hole.refl hat hl0,fun _=>rfl⟩ (Le.forget [(0,p0),(1,.s (.sl 1 (path0.map (irow .i64)))),(4,.s .np),(5,.s (.bool false))] ⟨rfl,rfl,rfl,rfl,trivial⟩) ?_)
 rintro⟨p,⟨k,t,c,ks⟩,q,F⟩ hI;have hI:zDT t0 path0=zDT (.mk k t c ks) q/\Hole hp 24 p0 keys p (.mk k t c ks) F/\∀ r,putL t0 path0 r=F (putL (.mk k t c ks) q r):=hI
 obtain⟨hI1,hI2,hI3⟩:=hI;have hlp:isL 4 p :=(by obtain⟨_,_,_,_,_,h,_⟩:=hI2; exact h);refine zAa ?_;refine zQE [] [] rfl ?_;show Tri ..;refine zAB rfl (fun hb=>?_) (fun hb=>?_)
 ·refine zAh ?_;show Tri ..
  match q,hI1,hI3,hb with
  | [],_,_,hb=>cases hb
  | [_],_,_,hb=>cases hb
  | i::s::q,hI1,hI3,hb =>
   refine zAk (Le.forgetH [(0,p),(1,.s (.sl 1 ((i::s::q).map (irow .i64)))),(4,.s .np),(5,.s (.bool false))] hp n ⟨rfl,rfl,rfl,rfl,trivial⟩ (fun _=>rfl) rfl) ?_;refine zAa ?_;refine zAp ?_;refine zAa ?_;refine zJQ (by exact tokW) (by exact gok) (by exact mixed) [] [] [1,2,4,5] rfl (by decide +kernel) ?_;refine And.intro (show(0:Int)<=0/\(0:Int)<((((i::s::q).map (irow .i64)).length:Nat):Int) by simp only[List.map_cons,List.length_cons]; omega) ?_;refine And.intro (show(0:Int)<=1/\(1:Int)<((((i::s::q).map (irow .i64)).length:Nat):Int) by simp only[List.map_cons,List.length_cons]; omega) ?_;show Tri ..
   refine zAk (Le.forgetH [(0,p),(1,.s (.sl 1 ((i::s::q).map (irow .i64)))),(4,.s .np),(5,.s (.bool false)),(6,.s (.int .i64 i)),(7,.s (.int .i64 s))] hp n ⟨rfl,rfl,rfl,rfl,rfl,rfl,trivial⟩ (fun _=>rfl) rfl) ?_;refine zAa ?_;refine zAa ?_
   by_cases hi:i<0
   ·refine zAb [] [21] rfl ?_;intro b hb;obtain rfl:true=b:=(hb.trans (decide_eq_true hi)).symm;show Tri ..;refine zAB rfl (fun _=>?_) (fun h=>by cases h)
    refine zQE [] [] rfl ?_;show Tri ..;refine zAg ?_;unfold zGv;exact⟨_,Le.forget [(5,.s (.bool false))] ⟨rfl,trivial⟩,_,rfl,hΦ1 (hI1.trans (zFg (fun h=>by omega)))⟩
   obtain⟨keys1,w1,hat1,_,hnd1⟩:=hI2.here hnd;obtain⟨v,hcv,hv⟩:=hat1.full;refine zAb [] [] rfl ?_;refine zAd rfl rfl rfl rfl rfl rfl trivial ?_;refine zAd rfl rfl rfl rfl rfl rfl trivial ?_;rw[show decide (i<0)=false from decide_eq_false hi]
   refine zAd rfl rfl rfl rfl rfl rfl trivial ?_;refine zB6 (g:=22) rfl rfl rfl ?_;refine zAd rfl rfl rfl rfl rfl rfl trivial ?_;refine zB6 (g:=22) rfl rfl rfl ?_;refine zAd rfl rfl rfl rfl rfl (zB4 hlp (.inr rfl) rfl rfl) trivial ?_;refine zB6 (g:=22) rfl rfl rfl ?_;refine zAd rfl rfl rfl rfl rfl (zDv hlp rfl rfl) trivial ?_;refine zB6 (g:=22) rfl rfl rfl ?_;refine zAd rfl rfl rfl rfl rfl (zDK hlp rfl rfl rfl rfl rfl rfl rfl) trivial ?_;refine zB6 (g:=22) rfl rfl rfl ?_;refine zCL (off:=3) (sz:=4) rfl rfl rfl rfl rfl rfl rfl hlp rfl hcv rfl ?_;refine zB6 (g:=22) rfl rfl rfl ?_
   refine zAd rfl rfl rfl rfl rfl (zOT hv rfl rfl rfl rfl rfl) trivial ?_;refine zB6 (g:=22) rfl rfl rfl ?_;refine zAd rfl rfl rfl rfl rfl rfl trivial ?_
   by_cases hi2:(ks.length:Int)<=i
   ·rw[show decide ((ks.length:Int)<=i)=true from decide_eq_true hi2]
    refine zAd rfl rfl rfl rfl rfl rfl trivial ?_;show Tri ..;refine zAB rfl (fun _=>?_) (fun h=>by cases h)
    refine zQE [] [] rfl ?_;show Tri ..;refine zAg ?_;unfold zGv;exact⟨_,Le.forget [(5,.s (.bool false))] ⟨rfl,trivial⟩,_,rfl,hΦ1 (hI1.trans (zFg (n:=.mk k t c ks) (fun h=>by have:i<(ks.length:Int):=h.2; omega)))⟩
   rw[show decide ((ks.length:Int)<=i)=false from decide_eq_false hi2]
   refine zAd rfl rfl rfl rfl rfl rfl trivial ?_;show Tri ..;refine zAB rfl (fun h=>by cases h) (fun _=>?_)
   refine zAh ?_;show Tri ..;have hi0:i.toNat<ks.length :=(by omega);obtain⟨⟨k2,t2,c2,ks2⟩,hx⟩:∃ x,ks[i.toNat]? = some x:=⟨_,List.getElem?_eq_getElem hi0⟩
   obtain⟨b1,rows1,hc1,hr1,hlen1,hole1⟩:=Hole.kid hat1 hlp hnd1 hx;refine zAk (Le.forgetH [(0,p),(1,.s (.sl 1 ((i::s::q).map (irow .i64)))),(4,.s .np),(5,.s (.bool false)),(6,.s (.int .i64 i)),(7,.s (.int .i64 s))] hp n ⟨rfl,rfl,rfl,rfl,rfl,rfl,trivial⟩ (fun _=>rfl) rfl) ?_;refine zQE [] [] rfl ?_;refine zAd rfl rfl rfl rfl rfl (zB4 hlp (.inr rfl) rfl rfl) trivial ?_;refine zAd rfl rfl rfl rfl rfl (zDv hlp rfl rfl) trivial ?_;refine zAd rfl rfl rfl rfl rfl (zDK hlp rfl rfl rfl rfl rfl rfl rfl) trivial ?_;refine zCL (off:=3) (sz:=4) rfl rfl rfl rfl rfl rfl rfl hlp rfl hc1 rfl ?_
   refine zAd rfl rfl rfl rfl rfl rfl trivial ?_;refine zAd rfl rfl rfl rfl rfl (zLx rfl rfl rfl rfl rfl rfl hr1 rfl) ⟨by omega,by rw[hlen1]; omega⟩ ?_;refine zAd rfl rfl rfl rfl rfl rfl trivial ?_;show Tri ..;refine zAk (Le.forgetH [(0,p),(1,.s (.sl 1 ((i::s::q).map (irow .i64)))),(4,.s .np),(5,.s (.bool false)),(6,.s (.int .i64 i)),(7,.s (.int .i64 s)),(8,.rp b1 4 i.toNat 0)] hp n ⟨rfl,rfl,rfl,rfl,rfl,rfl,rfl,trivial⟩ (fun _=>rfl) rfl) ?_;refine zAa ?_;refine zAa ?_
   by_cases hs:s<0
   ·refine zAb [] [38] rfl ?_;intro b hb;obtain rfl:true=b:=(hb.trans (decide_eq_true hs)).symm;show Tri ..;refine zAB rfl (fun _=>?_) (fun h=>by cases h)
    refine zQE [] [] rfl ?_;show Tri ..;refine zAg ?_;unfold zGv;exact⟨_,Le.forget [(5,.s (.bool false))] ⟨rfl,trivial⟩,_,rfl,hΦ1 (hI1.trans (zFh (n:=.mk k t c ks) (by omega) hx (fun h=>by omega)))⟩
   have hl2:isL 4 (.rp b1 4 i.toNat 0):=.inl ⟨b1,i.toNat,rfl⟩
   have hI4:=Hole.step hnd hI2 hx hc1;obtain⟨keys2,w2,hat2,_,hnd2⟩:=hI4.here hnd;obtain⟨v2,hcv2,hv2⟩:=hat2.full;refine zAb [] [] rfl ?_;refine zAd rfl rfl rfl rfl rfl rfl trivial ?_;refine zAd rfl rfl rfl rfl rfl rfl trivial ?_;rw[show decide (s<0)=false from decide_eq_false hs]
   refine zAd rfl rfl rfl rfl rfl rfl trivial ?_;refine zB6 (g:=39) rfl rfl rfl ?_;refine zAd rfl rfl rfl rfl rfl rfl trivial ?_;refine zB6 (g:=39) rfl rfl rfl ?_;refine zAd rfl rfl rfl rfl rfl (zB4 hl2 (.inr rfl) rfl rfl) trivial ?_;refine zB6 (g:=39) rfl rfl rfl ?_;refine zAd rfl rfl rfl rfl rfl (zDv hl2 rfl rfl) trivial ?_;refine zB6 (g:=39) rfl rfl rfl ?_;refine zAd rfl rfl rfl rfl rfl (zDK hl2 rfl rfl rfl rfl rfl rfl rfl) trivial ?_;refine zB6 (g:=39) rfl rfl rfl ?_;refine zCL (off:=3) (sz:=4) rfl rfl rfl rfl rfl rfl rfl hl2 rfl hcv2 rfl ?_;refine zB6 (g:=39) rfl rfl rfl ?_
   refine zAd rfl rfl rfl rfl rfl (zOT hv2 rfl rfl rfl rfl rfl) trivial ?_;refine zB6 (g:=39) rfl rfl rfl ?_;refine zAd rfl rfl rfl rfl rfl rfl trivial ?_
   by_cases hs2:(ks2.length:Int)<=s
   ·rw[show decide ((ks2.length:Int)<=s)=true from decide_eq_true hs2]
    refine zAd rfl rfl rfl rfl rfl rfl trivial ?_;show Tri ..;refine zAB rfl (fun _=>?_) (fun h=>by cases h)
    refine zQE [] [] rfl ?_;show Tri ..;refine zAg ?_;unfold zGv;exact⟨_,Le.forget [(5,.s (.bool false))] ⟨rfl,trivial⟩,_,rfl,hΦ1 (hI1.trans (zFh (n:=.mk k t c ks) (by omega) hx (fun h=>by have:s<(ks2.length:Int):=h.2; omega)))⟩
   rw[show decide ((ks2.length:Int)<=s)=false from decide_eq_false hs2]
   refine zAd rfl rfl rfl rfl rfl rfl trivial ?_;show Tri ..;refine zAB rfl (fun h=>by cases h) (fun _=>?_)
   refine zAh ?_;show Tri ..;have hs0:s.toNat<ks2.length :=(by omega);obtain⟨z,hz⟩:∃ z,ks2[s.toNat]? = some z:=⟨_,List.getElem?_eq_getElem hs0⟩
   obtain⟨b2,rows2,hc2,hr2,hlen2,hole2⟩:=Hole.kid hat2 hl2 hnd2 hz;refine zAk (Le.forgetH [(0,p),(1,.s (.sl 1 ((i::s::q).map (irow .i64)))),(4,.s .np),(5,.s (.bool false)),(6,.s (.int .i64 i)),(7,.s (.int .i64 s)),(8,.rp b1 4 i.toNat 0)] hp n ⟨rfl,rfl,rfl,rfl,rfl,rfl,rfl,trivial⟩ (fun _=>rfl) rfl) ?_;refine zAb [] [] rfl ?_;refine zAd rfl rfl rfl rfl rfl (zB4 hl2 (.inr rfl) rfl rfl) trivial ?_;refine zAd rfl rfl rfl rfl rfl (zDv hl2 rfl rfl) trivial ?_;refine zAd rfl rfl rfl rfl rfl (zDK hl2 rfl rfl rfl rfl rfl rfl rfl) trivial ?_;refine zCL (off:=3) (sz:=4) rfl rfl rfl rfl rfl rfl rfl hl2 rfl hc2 rfl ?_
   refine zAd rfl rfl rfl rfl rfl rfl trivial ?_;refine zAd rfl rfl rfl rfl rfl (zLx rfl rfl rfl rfl rfl rfl hr2 rfl) ⟨by omega,by rw[hlen2]; omega⟩ ?_;refine zAd rfl rfl rfl rfl rfl rfl trivial ?_;show Tri ..;refine zAk (Le.forgetH [(0,.rp b2 4 s.toNat 0),(1,.s (.sl 1 ((i::s::q).map (irow .i64)))),(4,.s .np),(5,.s (.bool false))] hp n ⟨rfl,rfl,rfl,rfl,trivial⟩ (fun _=>rfl) rfl) ?_;refine zAb [] [] rfl ?_;have h2l:(2:Int)<=((((i::s::q).map (irow .i64)).length:Nat):Int) :=(by simp only[List.map_cons,List.length_cons]; omega);refine zAd rfl rfl rfl rfl rfl rfl trivial ?_
   refine zAd rfl rfl rfl rfl rfl rfl ⟨by decide,h2l,Int.le_refl _⟩ ?_;refine zAd rfl rfl rfl rfl rfl rfl trivial ?_;have hI5:=Hole.step hnd hI4 hz hc2;refine⟨(.rp b2 4 s.toNat 0,z,q,fun r=>F (.mk k t c (ks.set i.toNat (.mk k2 t2 c2 (ks2.set s.toNat r))))),⟨?_,hI5,?_⟩,Le.forgetH [(0,.rp b2 4 s.toNat 0),(1,.s (.sl 1 (q.map (irow .i64)))),(4,.s .np),(5,.s (.bool false))] hp n ⟨rfl,congrArg (fun z=>AV.s (.sl 1 z)) ?_,rfl,rfl,trivial⟩ (fun _=>rfl) rfl,?_⟩
   ·exact hI1.trans (zKy (n:=.mk k t c ks) (by omega) hx (by omega) hz)
   ·intro r;exact(hI3 r).trans (congrArg F (zOG hx hz))
   ·show List.drop 2 (List.take ((((i::s::q).map (irow .i64)).length:Nat):Int).toNat ((i::s::q).map (irow .i64)))=_;rw[Int.toNat_natCast,List.take_length]; rfl
   ·show q.length<q.length+1+1
    omega
 ·refine zAJ ?_;show Tri ..;refine zAk (Le.forgetH [(0,p),(1,.s (.sl 1 (q.map (irow .i64)))),(4,.s .np),(5,.s (.bool false))] hp n ⟨rfl,rfl,rfl,rfl,trivial⟩ (fun _=>rfl) rfl) ?_;refine zQE [] [] rfl ?_;refine zAd rfl rfl rfl rfl rfl (zB4 hlp (.inr rfl) rfl rfl) trivial ?_
  match q,hI1,hI3,hb with
  | [],hI1,hI3,_ =>
   refine zAd rfl rfl rfl rfl rfl rfl trivial ?_;refine zAd rfl rfl rfl rfl rfl rfl trivial ?_;refine zAd rfl rfl rfl rfl rfl rfl trivial ?_;refine zAd rfl rfl rfl rfl rfl (zB4 hlp (.inl rfl) rfl rfl) trivial ?_;refine zAd rfl rfl rfl rfl rfl rfl trivial ?_;show Tri ..;refine zAg ?_;have hd:AV.deep p=p:=by rcases hlp with ⟨_,_,rfl⟩ | ⟨_,rfl⟩ <;> rfl
   unfold zGv;refine⟨_,Le.forget [(4,p),(5,.s (.bool true))] ⟨rfl,rfl,trivial⟩,.tup [p,.s (.bool true)],?_,hΦ2 p (.mk k t c ks) F (hI1.trans rfl) hI2 fun r=>(hI3 r).trans (by rw[zPp])⟩
   show some (AV.tup [AV.deep p,.s (.bool true)])=_;rw[hd]
  | [i],hI1,_,_ =>
   refine zAd rfl rfl rfl rfl rfl rfl trivial ?_;refine zAd rfl rfl rfl rfl rfl rfl trivial ?_;refine zAd rfl rfl rfl rfl rfl rfl trivial ?_;refine zAd rfl rfl rfl rfl rfl (zB4 hlp (.inl rfl) rfl rfl) trivial ?_;refine zAd rfl rfl rfl rfl rfl rfl trivial ?_;show Tri ..;refine zAg ?_;unfold zGv;exact⟨_,Le.forget [(5,.s (.bool false))] ⟨rfl,trivial⟩,_,rfl,hΦ1 (hI1.trans rfl)⟩
  | i::s::p,_,_,hb=>exact absurd (of_decide_eq_false hb) (by simp only[List.map_cons,List.length_cons]; omega)
theorem zGh {T:Nat->Option TI}{σ:St}{t ty q bt u:Nat}{i:TI}{cells:List AV} (h1:σ.env t = .op q 0) (h2:σ.hp q=some (.box bt cells)) (h3:T ty=some i) (ha:i.k.agg=true) (hz:i.size=cells.length):zIG T σ [.cell t ty,.tmp u]=some (.tup [AV.deep (.agg cells),(σ.env u).deep]):=by
 have hb:Nat.ble i.size cells.length=true :=(by rw[hz]; exact Nat.ble_eq_true_of_le (Nat.le_refl _));simp only[zIG,zF9,zMw,h1,h2,h3,ha,hb]
 rw[hz,List.take_length]
theorem Hole.base {hp:Nat->Option Ob}{e:Nat}{p p1:AV}{y:Nd}{keys:List Nat}{F:Nd->Nd} (h:Hole hp e p keys p1 y F):zAW p1=zAW p∨zAW p1∈keys:=by
 obtain⟨keys0,rest,w0,a1,a2,a3,a4,_⟩:=h;rcases a4 with rfl | a4
 ·exact .inl rfl
 ·exact .inr (a1.mem_iff.2 (List.mem_append_right _ a4))
theorem At.ofV {hp:Nat->Option Ob}{e:Nat}{p v:AV}{k c:Int}{t:List UInt8}{ks:List Nd}{keys:List Nat} (hc:zAF hp p=some (zAQ k t c v)) (h:VAt hp e v ks keys):∃ w,At hp e p (.mk k t c ks) keys [] w:=by
 rcases h with ⟨rfl,rfl,rfl⟩ | ⟨q,rows,keys',w,rfl,h1,h2,rfl,h3⟩
 ·exact⟨0,by simp only[At]; exact⟨_,hc,.inr (.inl (by simp))⟩⟩
 ·exact⟨w,by simp only[At]; exact⟨_,hc,.inr (.inr ⟨q,rows,keys',rfl,h1,h2,rfl,h3⟩)⟩⟩
def zMO (n:Nat) (xs:List AV) (r:Ret):Prop:=∃ (a0:Nd) (a1:List Int) (a2:Nd) (y0:Nd) (y1:Int),zG0 n a0 a1 a2=some (y0,y1)/\xs=[.agg ((Nd.enc a0).map .s),.s (.sl 1 (a1.map (irow .i64))),.agg ((Nd.enc a2).map .s)]/\r = .val (.tup [.agg ((Nd.enc y0).map .s),.s (.int .i64 y1)])
def zIZ:zAv:=zAx fun xs r=>∃ n,zMO n xs r
set_option maxHeartbeats 600000 in
theorem zMn:PSound Try.prog 70 zIZ:=by
 have gok:∀ f s,look? f [(16,zBt),(80,zIP),(17,zIO)]=some s->PSound Try.prog f s:=zAs (by
  simp only[List.forall_mem_cons]
  exact⟨zBC,zLe,zFi,by simp⟩)
 refine zAz tokW Try.call70 Try.func70 rfl (fun xs r h=>by obtain⟨n,_,_,_,_,_,_,rfl,_⟩:=h; show 3<=_; decide) _ rfl ?_;rintro xs r w0 G0 ⟨f,⟨k,t,c,ks⟩,path,⟨rk,rt,rc,rks⟩,y0,y1,h,rfl,rfl⟩ _;rw[zG0]at h;obtain⟨b,hb,h⟩:=zAc h;refine zQE [6] [] rfl ?_;show Tri ..;refine zAa ?_;refine zQE [] [] rfl ?_;refine⟨_,⟨f,_,_,hb,rfl,rfl⟩,?_⟩
 show Tri ..;cases b with
 | false =>
  refine zAB rfl (fun _=>?_) (fun h=>by cases h)
  refine zQE [] [] rfl ?_;show Tri ..;refine zAg ?_;obtain⟨rfl,rfl⟩:=Prod.mk.inj (Option.some.inj h)
  unfold zAu;exact⟨_,Le.refl _ _,rfl,rfl⟩
 | true =>
  refine zAB rfl (fun h=>by cases h) (fun _=>?_)
  refine zAh ?_;show Tri ..;rw[if_pos rfl]at h;obtain⟨n1,hn1,h⟩:=zAc h;obtain⟨hcnt,hn1⟩:=zAI hn1;obtain rfl:=Option.some.inj hn1;refine zQE [8] [] rfl ?_;refine⟨_,⟨k,c,t,ks,hcnt,rfl,fun v hp' n' keys h1 h2 h3 h4 h5=>?_⟩,fun _ _ _ h=>h⟩
  have hv1:v.one=true/\∀ m,n'<m->v.lt m=true:=by
   rcases h3 with ⟨_,rfl,_⟩ | ⟨q,_,_,_,rfl,_,_,hk,_⟩
   ·exact⟨rfl,fun _ _=>rfl⟩
   ·exact⟨rfl,fun m hm=>decide_eq_true (Nat.lt_trans (h5 q (by rw[hk]; exact List.mem_cons_self)).2 hm)⟩
  refine zMe (d:=16) ?_;refine zAd rfl rfl rfl rfl rfl rfl trivial ?_;refine zE6 (sz:=4) (cs:=[.s (.int .i64 0),.s (.str []),.s (.int .i64 0),.nl 4]) (cs':=zAQ k t c v) (p:=.op n' 0) rfl rfl rfl rfl rfl (.inr ⟨n',rfl⟩) rfl (zC4 (bt:=24) (by show(bif Nat.beq n' n' then _ else hp' n')=_; rw[Nat.beq_refl]; rfl)) rfl rfl rfl (by simp only[zAQ,List.all_cons,List.all_nil,hv1.1]; rfl) (by have h0:v.lt (n'+1)=true:=hv1.2 _ (Nat.lt_succ_self _); show AV.ltAll (n'+1) (zAQ k t c v)=true; simp only[zAQ,AV.ltAll,h0]; rfl) ?_;show Tri ..
  refine zGc [(1,.s (.sl 1 (path.map (irow .i64)))),(5,.s (.pt (Nd.enc (.mk rk rt rc rks)))),(6,.op 0 0),(8,.op n' 0)] (n'+1) ⟨rfl,rfl,rfl,rfl,trivial⟩ rfl fun H hH=>?_
  have g1:H n'=some (.box 24 (zAQ k t c v)):=(hH n').trans (by
   show putC (fun m=>bif Nat.beq m n' then some (Ob.box 24 [.s (.int .i64 0),.s (.str []),.s (.int .i64 0),.nl 4]) else hp' m) (.op n' 0) (zAQ k t c v) n'=_;rw[zEq (bt:=24) (cs:=[.s (.int .i64 0),.s (.str []),.s (.int .i64 0),.nl 4]) (by simp only[Nat.beq_refl,cond_true])]
   simp only[Nat.beq_refl,cond_true])
  have g2:∀ m,m<n'->H m=hp' m:=fun m hm=>(hH m).trans (by
   show putC (fun m=>bif Nat.beq m n' then some (Ob.box 24 [.s (.int .i64 0),.s (.str []),.s (.int .i64 0),.nl 4]) else hp' m) (.op n' 0) (zAQ k t c v) m=_;rw[zBc (show m ≠ n' by omega),zC2 (show m ≠ n' by omega)]; rfl)
  clear hH
  have g0:H 0=some (.box 24 [.s (.int .i64 0),.s (.str []),.s (.int .i64 0),.nl 4]):=(g2 0 h1).trans (h2 0 (Nat.lt_succ_self 0))
  obtain⟨w,hat⟩:=At.ofV (zC4 g1) (h3.frame fun m hm=>g2 m (h5 m hm).2)
  have hnd:(zAW (.op n' 0)::keys).Nodup:=List.nodup_cons.2 ⟨fun hm=>Nat.lt_irrefl _ (h5 n' hm).2,h4⟩
  refine zQE [] [] rfl ?_;refine⟨_,⟨.op n' 0,.mk k t c ks,path,keys,w,rfl,.inr ⟨n',rfl⟩,hat,hnd,fun hf=>?_,fun p1 y F hf hole hF=>?_⟩,fun _ _ _ h=>h⟩
  ·rw[hf]at h;show Tri ..;refine zAa ?_;refine zQE [] [] rfl ?_;show Tri ..;refine zAB rfl (fun _=>?_) (fun h=>by cases h)
   obtain⟨rfl,rfl⟩:=Prod.mk.inj (Option.some.inj h)
   refine zAk (Le.forgetH [(6,.op 0 0)] H (n'+1) ⟨rfl,trivial⟩ (fun _=>rfl) rfl) ?_;refine zQE [] [] rfl ?_;refine zAd rfl rfl rfl rfl rfl rfl trivial ?_;refine zE6 (sz:=4) (cs:=[.s (.int .i64 0),.s (.str []),.s (.int .i64 0),.nl 4]) (cs':=[.s (.int .i64 0),.s (.str []),.s (.int .i64 0),.nl 4]) (p:=.op 0 0) rfl rfl rfl rfl rfl (.inr ⟨0,rfl⟩) rfl (zC4 (bt:=24) g0) rfl rfl rfl rfl rfl ?_;refine zAd rfl rfl rfl rfl rfl rfl trivial ?_;show Tri ..;refine zAg ?_;unfold zAu
   refine⟨_,Le.refl _ _,(zGh (bt:=24) (cells:=[.s (.int .i64 0),.s (.str []),.s (.int .i64 0),.nl 4]) rfl ?_ rfl rfl rfl).trans rfl,rfl⟩
   show putC H (.op 0 0) _ 0=_;rw[zEq (bt:=24) (cs:=[.s (.int .i64 0),.s (.str []),.s (.int .i64 0),.nl 4]) g0]; rfl
  ·rw[hf]at h;obtain⟨keys1,w1,hat1,hl1,hnd1⟩:=hole.here hnd;refine zMe (d:=19) ?_;refine zAd rfl rfl rfl rfl rfl rfl trivial ?_;refine zAd rfl rfl rfl rfl rfl rfl trivial ?_;refine zAd rfl rfl rfl rfl rfl rfl trivial ?_;refine zAd rfl rfl rfl rfl rfl (zB4 hl1 (.inl rfl) rfl rfl) trivial ?_;refine zAd rfl rfl rfl rfl rfl rfl trivial ?_;show Tri ..;refine zAk (Le.forgetH [(5,.s (.pt (Nd.enc (.mk rk rt rc rks)))),(6,.op 0 0),(8,.op n' 0),(9,p1),(10,.s (.bool true))] H (n'+1) ⟨rfl,rfl,rfl,rfl,rfl,trivial⟩ (fun _=>rfl) rfl) ?_;refine zAa ?_;refine zQE [] [] rfl ?_;show Tri ..
   refine zAB rfl (fun h=>by cases h) (fun _=>?_)
   refine zAh ?_;show Tri ..;obtain⟨b2,hb2,h⟩:=zAc h;refine zAa ?_;refine zQE [] [] rfl ?_;refine⟨_,⟨f,_,_,hb2,rfl,rfl⟩,?_⟩
   show Tri ..;cases b2 with
   | false =>
    refine zAB rfl (fun _=>?_) (fun h=>by cases h)
    obtain⟨rfl,rfl⟩:=Prod.mk.inj (Option.some.inj h)
    refine zAk (Le.forgetH [(6,.op 0 0)] H (n'+1) ⟨rfl,trivial⟩ (fun _=>rfl) rfl) ?_;refine zQE [] [] rfl ?_;refine zAd rfl rfl rfl rfl rfl rfl trivial ?_;refine zE6 (sz:=4) (cs:=[.s (.int .i64 0),.s (.str []),.s (.int .i64 0),.nl 4]) (cs':=[.s (.int .i64 0),.s (.str []),.s (.int .i64 0),.nl 4]) (p:=.op 0 0) rfl rfl rfl rfl rfl (.inr ⟨0,rfl⟩) rfl (zC4 (bt:=24) g0) rfl rfl rfl rfl rfl ?_;refine zAd rfl rfl rfl rfl rfl rfl trivial ?_;show Tri ..;refine zAg ?_;unfold zAu
    refine⟨_,Le.refl _ _,(zGh (bt:=24) (cells:=[.s (.int .i64 0),.s (.str []),.s (.int .i64 0),.nl 4]) rfl ?_ rfl rfl rfl).trans rfl,rfl⟩
    show putC H (.op 0 0) _ 0=_;rw[zEq (bt:=24) (cs:=[.s (.int .i64 0),.s (.str []),.s (.int .i64 0),.nl 4]) g0]; rfl
   | true =>
    refine zAB rfl (fun h=>by cases h) (fun _=>?_)
    refine zAh ?_;show Tri ..;rw[if_pos rfl]at h;obtain⟨n2,hn2,h⟩:=zAc h;obtain⟨hcnt2,hn2⟩:=zAI hn2;obtain rfl:=Option.some.inj hn2;refine zAk (Le.forgetH [(5,.s (.pt (Nd.enc (.mk rk rt rc rks)))),(6,.op 0 0),(8,.op n' 0),(9,p1)] H (n'+1) ⟨rfl,rfl,rfl,rfl,trivial⟩ (fun _=>rfl) rfl) ?_;refine zQE [] [] rfl ?_;refine zAd rfl rfl rfl rfl rfl (zB4 hl1 (.inr rfl) rfl rfl) trivial ?_;refine zAd rfl rfl rfl rfl rfl rfl trivial ?_;refine⟨_,⟨rk,rc,rt,rks,hcnt2,rfl,fun v2 hp2 n2 keys2 q1 q2 q3 q4 q5=>?_⟩,fun _ _ _ h=>h⟩
    refine zMe (d:=31) ?_;refine zAd rfl rfl rfl rfl rfl (zDv hl1 rfl rfl) trivial ?_;have hb1:zAW p1<n'+1:=by
     rcases hole.base with h | h
     ·have:zAW p1=n':=h
      omega
     ·have:=(h5 _ h).2; omega
    obtain⟨yk,yt,yc,yks⟩:=y;obtain⟨vy,hcy,_⟩:=hat1.full;have hcy2:zAF hp2 p1=some (zAQ yk yt yc vy):=(zBr hl1 (q2 _ hb1)).trans hcy;have hv2:v2.one=true/\v2.lt n2=true:=by
     rcases q3 with ⟨_,rfl,_⟩ | ⟨q,_,_,_,rfl,_,_,hk,_⟩
     ·exact⟨rfl,rfl⟩
     ·exact⟨rfl,decide_eq_true (q5 q (by rw[hk]; exact List.mem_cons_self)).2⟩
    refine zE6 (sz:=4) (cs':=zAQ rk rt rc v2) rfl rfl rfl rfl rfl hl1 rfl hcy2 rfl rfl rfl (by simp only[zAQ,List.all_cons,List.all_nil,hv2.1]; rfl) (by show AV.ltAll n2 (zAQ rk rt rc v2)=true; simp only[zAQ,AV.ltAll,hv2.2]; rfl) ?_;show Tri ..;refine zGc [(6,.op 0 0),(8,.op n' 0)] n2 ⟨rfl,rfl,trivial⟩ rfl fun H2 hH2=>?_
    have hH2:∀ m,H2 m=putC hp2 p1 (zAQ rk rt rc v2) m:=hH2
    have hcp:zAF H2 p1=some (zAQ rk rt rc v2):=(zBr hl1 (hH2 _)).trans (zGT hl1 hcy2)
    have hb2k:∀ m∈keys2,H2 m=hp2 m:=fun m hm=>(hH2 m).trans (zBc (by have hm1:n'+1<=m:=(q5 m hm).1; omega))
    obtain⟨w3,hat3⟩:=At.ofV hcp (q3.frame hb2k)
    obtain⟨keys0,rest,w0',a1,a2,a3,a4,a5⟩:=hole;have hrest:∀ m,m=n'∨m∈rest->m<n'+1:=fun m hm=>by
     rcases hm with rfl | hm
     ·omega
     ·have:=(h5 m (a1.mem_iff.2 (List.mem_append_right _ hm))).2; omega
    obtain⟨keys3,w4,hperm,hfin⟩:=a5 H2 (.mk rk rt rc rks) keys2 w3 (Sim.put (c:=zAQ rk rt rc v2) hl1 hcy fun m hm=>(hH2 m).trans (zGg hl1 (q2 m (hrest m hm)) (q2 _ hb1))) hat3;have hput:F (.mk rk rt rc rks)=putL (.mk k t c ks) path (.mk rk rt rc rks):=(hF _).symm;rw[hput]at hfin;have hn0:∀ m,m=n'∨m∈keys3->m ≠ 0:=fun m hm=>by
     have e1:1<=n':=h1;rcases hm with rfl | hm
     ·omega
     ·rcases List.mem_append.1 (hperm.mem_iff.1 hm) with hm | hm
      ·have e2:1<=m:=(h5 m (a1.mem_iff.2 (List.mem_append_right _ hm))).1
       omega
      ·have e2:n'+1<=m:=(q5 m hm).1
       omega
    have hatD:At (fun m=>bif Nat.beq m 0 then none else H2 m) 24 (.op n' 0) (putL (.mk k t c ks) path (.mk rk rt rc rks)) keys3 [] w4:=hfin.frame (.inr ⟨n',rfl⟩) fun m hm=>by rw[zC2 (hn0 m hm)]; rfl
    obtain⟨cs,hcs,hrd⟩:=hatD.rd;rcases zBP (sz:=4) (.inr ⟨n',rfl⟩) hcs with ⟨q,i,e,rows,h1,_⟩ | ⟨q,bt,h1,hbt⟩
    ·cases h1
    cases h1;refine zAk (Le.givePart [(6,.op 0 0),(8,.s (.pt (Nd.enc (putL (.mk k t c ks) path (.mk rk rt rc rks)))))] (fun m=>bif Nat.beq m 0 then none else H2 m) (fun m=>bif Nat.beq m 0 then H2 m else none) (fun m ob hm=>by
     cases e:Nat.beq m 0 with
     | true=>rw[e]at hm; cases hm
     | false=>rw[e]at hm; exact hm) (fun m ob hm=>by
     cases e:Nat.beq m 0 with
     | true=>rw[e]at hm; exact hm
     | false=>rw[e]at hm; cases hm) (fun m ob ob' h1 h2=>by
     cases e:Nat.beq m 0 with
     | true=>rw[e]at h1; cases h1
     | false=>rw[e]at h2; cases h2) ⟨.inl rfl,.inr (Rd.box (off:=0) hbt hrd.1 hrd.2),trivial⟩) ?_
    have hb0:0 ≠ zAW p1:=by
     rcases a4 with rfl | a4
     ·exact Ne.symm (hn0 n' (.inl rfl))
     ·exact Ne.symm (hn0 _ (.inr (hperm.mem_iff.2 (List.mem_append_left _ a4))))
    have g3:H2 0=some (.box 24 [.s (.int .i64 0),.s (.str []),.s (.int .i64 0),.nl 4]):=(hH2 0).trans ((zBc hb0).trans ((q2 0 (Nat.succ_pos n')).trans g0))
    clear hrd hcs hatD hfin hput
    generalize putL (.mk k t c ks) path (.mk rk rt rc rks)=T1 at *;obtain⟨k9,t9,c9,ks9⟩:=T1;obtain⟨b3,hb3,h⟩:=zAc h;refine zGc [(6,.op 0 0),(8,.s (.pt (Nd.enc (.mk k9 t9 c9 ks9))))] n2 ⟨rfl,rfl,trivial⟩ rfl fun H3 hH3=>?_
    have g4:H3 0=some (.box 24 [.s (.int .i64 0),.s (.str []),.s (.int .i64 0),.nl 4]):=(hH3 0).trans g3;refine zAa ?_;refine zQE [] [] rfl ?_;refine⟨_,⟨f,_,_,hb3,rfl,rfl⟩,?_⟩
    show Tri ..;cases b3 with
    | false =>
     refine zAB rfl (fun _=>?_) (fun h=>by cases h)
     obtain⟨rfl,rfl⟩:=Prod.mk.inj (Option.some.inj h)
     refine zAk (Le.forgetH [(6,.op 0 0)] H3 n2 ⟨rfl,trivial⟩ (fun _=>rfl) rfl) ?_;refine zQE [] [] rfl ?_;refine zAd rfl rfl rfl rfl rfl rfl trivial ?_;refine zE6 (sz:=4) (cs:=[.s (.int .i64 0),.s (.str []),.s (.int .i64 0),.nl 4]) (cs':=[.s (.int .i64 0),.s (.str []),.s (.int .i64 0),.nl 4]) (p:=.op 0 0) rfl rfl rfl rfl rfl (.inr ⟨0,rfl⟩) rfl (zC4 (bt:=24) g4) rfl rfl rfl rfl rfl ?_;refine zAd rfl rfl rfl rfl rfl rfl trivial ?_;show Tri ..;refine zAg ?_;unfold zAu
     refine⟨_,Le.refl _ _,(zGh (bt:=24) (cells:=[.s (.int .i64 0),.s (.str []),.s (.int .i64 0),.nl 4]) rfl ?_ rfl rfl rfl).trans rfl,rfl⟩
     show putC H3 (.op 0 0) _ 0=_;rw[zEq (bt:=24) (cs:=[.s (.int .i64 0),.s (.str []),.s (.int .i64 0),.nl 4]) g4]; rfl
    | true =>
     refine zAB rfl (fun h=>by cases h) (fun _=>?_)
     obtain⟨rfl,rfl⟩:=Prod.mk.inj (Option.some.inj h)
     refine zAh ?_;show Tri ..;refine zAk (Le.forgetH [(6,.op 0 0),(8,.s (.pt (Nd.enc (.mk k9 t9 c9 ks9))))] H3 n2 ⟨rfl,rfl,trivial⟩ (fun _=>rfl) rfl) ?_;refine zQE [] [] rfl ?_;refine zAd rfl rfl rfl rfl rfl rfl trivial ?_;refine zE6 (sz:=4) (cs:=[.s (.int .i64 0),.s (.str []),.s (.int .i64 0),.nl 4]) (cs':=zAQ k9 t9 c9 (.s (.sl 4 (Nd.encs ks9)))) (p:=.op 0 0) rfl rfl rfl rfl rfl (.inr ⟨0,rfl⟩) rfl (zC4 (bt:=24) g4) rfl rfl rfl rfl rfl ?_;refine zAd rfl rfl rfl rfl rfl rfl trivial ?_;show Tri ..;refine zAg ?_;unfold zAu
     refine⟨_,Le.refl _ _,(zGh (bt:=24) (cells:=zAQ k9 t9 c9 (.s (.sl 4 (Nd.encs ks9)))) rfl ?_ rfl rfl rfl).trans rfl,rfl⟩
     show putC H3 (.op 0 0) _ 0=_;rw[zEq (bt:=24) (cs:=[.s (.int .i64 0),.s (.str []),.s (.int .i64 0),.nl 4]) g4]; rfl
end Go.Proofs.Ytgplhldfbkmmgaa
namespace Go.Abs
theorem PSound.giveTop {P:Program}{f e sz:Nat}{R:List AV->(Nat->Option Ob)->Nat->(AV->(Nat->Option Ob)->Nat->Prop)->Prop}{S:List AV->List S->List (List S)->Prop} (h:PSound P f (zMa R))
  (hS:∀ xs cs rs,S xs cs rs->R xs (fun _=>none) 0 fun x hp n=>∃ q rows hpD,x = .agg (cs.map .s++[.orow q])/\hp q=some (.arow e sz rows)/\rows.length=rs.length/\(∀ r∈rs,r.length=sz)/\(∀ k ob,hpD k=some ob->hp k=some ob/\k ≠ q) /\
   ∀ (i:Nat) x s,rows.flatten[i]? = some x->rs.flatten[i]? = some s->Rd hpD x s) :
  PSound P f (zCm fun xs os x os'=>∃ cs rs,os=[]/\x = .agg (cs.map .s++[.orow 0])/\os'=[some (.row e sz rs)]/\S xs cs rs):=by
 refine PSound.ofOwn h.1 fun G w β xs vs os x os' hlt hgl hv hxl hob ⟨cs,rs,ho,hx,ho',hs⟩=>?_
 subst ho; subst hx; subst ho'
 refine(h.2.2.2 R rfl G w β xs vs (fun _=>none) 0 _ hlt hgl hv hxl ⟨fun k ob hk=>(by cases hk),fun k ob hk=>(by cases hk),fun k k' ob ob' hk=>(by cases hk)⟩ (hS xs cs rs hs)).mono ?_;rintro e' w' ⟨v,G',β',x,hp',n',rfl,⟨q,rows,hpD,rfl,hq,hlen,hsz,hD,hrd⟩,hn,hfr,hsub,hnew,hlt',hx,hxl,hob,hst⟩
 let c:Cx:=zDE P w β (fun _=>none) 0 G 0
 have hk:Keep G G' w w':=⟨hsub,fun b hb=>hfr.old b (hlt b hb) (by rintro⟨k,ob,h,_⟩; cases h)⟩
 have hc:Conc c G' β' ⟨fun _=>.junk,hpD,n'⟩ { tmps:=#[],defers:=[] } w':={
  defers:=rfl
  size:=rfl
  env:=fun t=>by simp only[AVal]
  envlt:=fun t=>rfl
  hp:=fun k ob hk=>hob.obs k ob (hD k ob hk).1
  hplt:=fun k ob hk=>hob.lts k ob (hD k ob hk).1
  inj:=fun k k' ob ob' hk hk'=>hob.inj k k' ob ob' (hD k ob hk).1 (hD k' ob' hk').1
  lt:=hlt'
  sub:=hsub
  new:=hnew
  fr:=hfr
  stay:=⟨hn,hst⟩
  glob:=hgl.keep hk }
 have hmine:∀ b,c.mine b->w.heap.size<=b:=fun b hb=>by
  rcases hb with ⟨k,ob,h,_⟩ | h
  ·cases h
  ·exact h
 have hk':Keep G' (allG G' β' hpD) w' w':=⟨fun _ h=>.inl h,fun _ _=>rfl⟩
 refine⟨v,allG G' β' hpD,fun _=>β' q,rfl,⟨hfr.os,hfr.tape,hfr.output,hfr.size,fun b hb _=>hfr.old b hb (by rintro⟨k,ob,h,_⟩; cases h)⟩,fun b hb=>.inl (hsub b hb),fun b hb=>?_,fun b hb=>?_,?_,?_,Nat.zero_le _,⟨fun i ob hi=>?_,fun i j ob ob' hi hj hne=>?_⟩,fun i ob hi=>absurd hi (Nat.not_lt_zero _)⟩
 ·rcases hb with hb | ⟨k,ob,h1,h2⟩
  ·exact(hnew b hb).imp id fun h=>.inr (hmine b h)
  ·exact .inr (.inr (hmine b (row_block (hc.hp k ob h1) b h2).2))
 ·rcases hb with hb | ⟨k,ob,h1,h2⟩
  ·exact hlt' b hb
  ·exact hc.blk_lt h1 h2
 ·simp only[AVal]at hx ⊢;obtain⟨us,rfl,hus⟩:=hx;refine⟨us,rfl,AVals.mk (by rw[hus.length]; simp) fun i y u hy hu=>?_⟩
  rw[List.getElem?_append]at hy
  by_cases hi:i<(cs.map AV.s).length
  ·rw[if_pos hi]at hy;obtain⟨u',hu',hr⟩:=hus.get (i:=i) (x:=y) (by rw[List.getElem?_append,if_pos hi]; exact hy)
   rw[hu]at hu'; cases hu'
   rw[List.getElem?_map]at hy;obtain⟨s,_,rfl⟩:=Option.map_eq_some_iff.1 hy;simp only[AVal]at hr ⊢;exact hr.keep hk'
  ·rw[if_neg hi]at hy;have h0:i - (cs.map AV.s).length=0 :=(by have:=(List.getElem?_eq_some_iff.1 hy).1; simpa using this);rw[h0]at hy;cases hy;obtain⟨u',hu',hr⟩:=hus.get (i:=i) (x:=.orow q) (by rw[List.getElem?_append,if_neg hi,h0]; rfl)
   rw[hu]at hu'; cases hu'
   simp only[AVal]at hr ⊢;exact hr
 ·simp only[AV.lt]
  refine zCQ fun i y hy=>?_
  rw[List.getElem?_append]at hy;split at hy
  ·rw[List.getElem?_map]at hy;obtain⟨s,_,rfl⟩:=Option.map_eq_some_iff.1 hy
   rfl
  ·rename_i hi
   have h0:i - (cs.map AV.s).length=0 :=(by have:=(List.getElem?_eq_some_iff.1 hy).1; simpa using this);rw[h0]at hy;cases hy
   rfl
 ·match i,hi with
  | 0,hi =>
   cases hi;refine⟨?_,rfl⟩
   obtain⟨hl,hz,ho⟩:=hob.obs q _ hq;refine⟨hsz,hz,?_⟩
   rcases ho with ⟨h1,rfl⟩ | ⟨b,cap,cur,h1,h2,h3,h4,h5,h6,h7⟩
   ·exact .inl ⟨h1,List.length_eq_zero_iff.1 (by simpa using hlen.symm)⟩
   ·refine .inr ⟨b,cap,cur,by rw[← hlen]; exact h1,by rw[← hlen]; exact h2,h3,h4,?_,.inr (hmine b h6),fun i s hi=>?_⟩
    ·rintro(hb | ⟨k,ob,g1,g2⟩)
     ·exact h5 hb
     ·exact hob.inj k q ob _ (hD k ob g1).1 hq (hD k ob g1).2 b g2 (by rw[h1]; rfl)
    ·have hfl:=zAH hl;have hfs:=zAH hsz;have hil:i<rows.flatten.length :=(by rw[hfl,hlen,← hfs]; exact(List.getElem?_eq_some_iff.1 hi).1);obtain⟨u,hu,hr',_⟩:=h7 i _ (List.getElem?_eq_getElem hil)
     exact⟨u,hu,(hrd i _ s (List.getElem?_eq_getElem hil) hi).rep hc hr'⟩
  | i+1,hi=>simp at hi
 ·match i,j,hi,hj with
  | 0,0,_,_=>exact absurd rfl hne
  | 0,j+1,_,hj=>simp at hj
  | i+1,_,hi,_=>simp at hi
end Go.Abs
namespace Go.Proofs.Ytgplhldfbkmmgaa
open Go.Abs
theorem VAt.rd {hp:Nat->Option Ob}{e:Nat}{v:AV}{ks:List Nd}{keys:List Nat} (h:VAt hp e v ks keys):Rd hp v (.sl 4 (Nd.encs ks)):=by
 rcases h with ⟨rfl,rfl,_⟩ | ⟨q,rows,keys',w,rfl,hq,hlen,rfl,h⟩
 ·exact .s _
 ·exact Rd.rows hq hlen fun j x hj=>(by have:=LAt.rd h j x hj; rwa [Nat.zero_add]at this)
def zNC (xs:List AV) (cs:List S) (rs:List (List S)):Prop:=∃ (a0:Nd) (k c:Int) (t:List UInt8) (ks:List Nd),zDa a0=some (.mk k t c ks)/\xs=[.agg ((Nd.enc a0).map .s)]/\cs=[.int .i64 k,.str t,.int .i64 c]/\rs=Nd.encs ks
theorem zJr:PSound Try.prog 17 (zCm fun xs os x os'=>∃ cs rs,os=[]/\x = .agg (cs.map .s++[.orow 0])/\os'=[some (.row 24 4 rs)]/\zNC xs cs rs):=by
 refine PSound.giveTop zFi fun xs cs rs ⟨⟨k0,t0,c0,ks0⟩,k,c,t,ks,hm,hx,hcs,hrs⟩=>?_
 subst hx; subst hcs; subst hrs
 obtain⟨⟨hq,hne⟩,hm⟩:=zAI hm;cases hm;refine⟨k0,c0,t0,ks0,hq,rfl,fun v hp' n' keys _ _ hv hnd _=>?_⟩
 rcases hv with ⟨rfl,_⟩ | ⟨q,rows,keys',w,rfl,hq,hlen,rfl,hl⟩
 ·exact absurd rfl hne
 refine⟨q,rows,fun k=>if k∈keys' then hp' k else none,rfl,hq,by rw[Nd.encs_eq,List.length_map]; exact hlen,fun r hr=>?_,fun k ob hk=>?_,zM6 fun j r s hr hs=>?_⟩
 ·rw[Nd.encs_eq]at hr;obtain⟨x,_,rfl⟩:=List.mem_map.1 hr;cases x; rfl
 ·dsimp only at hk;split at hk
  ·rename_i hm
   exact⟨hk,fun e=>(List.nodup_cons.1 hnd).1 (by rw[← e]; exact hm)⟩
  ·cases hk
 ·rw[Nd.encs_eq,List.getElem?_map]at hs;cases hx:ks0[j]? with
  | none=>rw[hx]at hs; cases hs
  | some x =>
   rw[hx]at hs; cases hs
   obtain⟨keys0,rest,w0,hperm,hat,_⟩:=LAt.hole (i:=0) hl hnd hx;rw[Nat.zero_add]at hat;obtain⟨k2,t2,c2,ks2⟩:=x;obtain⟨v,hc,hv⟩:=hat.full;rw[zD0 hq,hr]at hc;cases hc;exact RdC.node (VAt.rd (hv.frame fun k hk=>by
    show(if k∈keys' then hp' k else none)=hp' k;rw[if_pos (hperm.mem_iff.2 (List.mem_append_left _ hk))]))
def zIR (xs:List AV) (os:List Ob) (x:AV) (os':List (Option Ob)):Prop:=∃ (a0:Nd) (y0:Nd),zDa a0=some y0/\xs=[.agg ((Nd.enc a0).map .s)]/\os=[]/\x = .agg (match y0 with | .mk k t c _=>[.s (.int .i64 k),.s (.str t),.s (.int .i64 c),.orow 0])/\os'=[some (.row 24 4 (match y0 with | .mk _ _ _ ks=>Nd.encs ks))]
def zD7:zAv:=zCm (fun xs os x os'=>zIR xs os x os')
theorem zFw:PSound Try.prog 17 zD7 :=
 PSound.ofOwn zJr.1 fun G w β xs vs os x os' h1 h2 h3 h4 h5 ⟨a0,⟨k,t,c,ks⟩,hm,hx,ho,hr,ho'⟩ =>
  zJr.2.2.1 _ rfl G w β xs vs os x os' h1 h2 h3 h4 h5 ⟨[.int .i64 k,.str t,.int .i64 c],Nd.encs ks,ho,hr,ho',a0,k,c,t,ks,hm,hx,rfl,rfl⟩
end Go.Proofs.Ytgplhldfbkmmgaa
namespace Go.Proofs
open Go.RowKit Go.Lib
theorem Try.Grow_nil_sNode (w:World) :
  Calls Try.prog 99 #[.slice none 0 0,.int .i64 0] w fun e w'=>e = .returned (.slice none 0 0)/\w'=w:=by
 have h2:wrap64 0=0:=by unfold wrap64; omega
 go_enter Try.func99,Try.ntmps99
 go_wp2
 go_ret
 exact⟨rfl,rfl⟩
set_option maxHeartbeats 4000000 in
theorem Try.Grow_new_sNode (i0:TypeInfo) (z:Value) (hi0:Try.prog.info? 24=some i0) (hz0:i0.zero=some z) (hs0:0<i0.size)
  (n:Nat) (w:World) (hroom:0<n) (hbig:n * i0.bytes<=140737488355328) (h63:n<=4611686018427387904) :
  Calls Try.prog 99 #[.slice none 0 0,.int .i64 n] w fun e w' =>
   e = .returned (.slice (some ⟨w.heap.size,0,none⟩) 0 (grownCap w n 0 24)) /\
   w'=w.drew.alloc (.cells (#[]++Builtin.zeroCells z.cells n++Builtin.zeroCells z.cells (grownCap w n 0 24 - n)) 24):=by
 have h1:¬ ((n:Int)<0) :=(by omega);have h2:wrap64 0=0 :=(by unfold wrap64; omega);have h3:wrap64 (n:Int)=(n:Int) :=(by unfold wrap64; omega);have h4:(n:Int) > 0 :=(by omega);have hold:(Builtin.firstCells i0.size 0 (.slice none 0 0)).run Try.prog w.drew = .ok ([]:List Value).toArray w.drew:=run_firstCells_none w.drew i0.size 0 0 0;have hrz:∀ ty,(Builtin.append_ #[22,3] ty #[.slice none 0 0,.int .i64 (n:Int)]).run Try.prog w =
   .ok (.slice (some ⟨w.heap.size,0,none⟩) n (grownCap w n 0 24)) (w.drew.alloc (.cells (#[]++Builtin.zeroCells z.cells n++Builtin.zeroCells z.cells (grownCap w n 0 24 - n)) 24)):=fun ty=>by
  have h:=Lib.run_append_grow_zeros w 22 3 ty 24 i0 z .i64 .i64 Try.underlying22 Try.underlying3 hi0 hz0 none 0 0 [] hold n (by omega) hs0 (by omega) (by omega) (by omega)
   (by rw[Nat.zero_add]; exact growslice_fits hroom hbig)
  rw[Nat.zero_add]at h;exact h
 have hGn:n<=grownCap w n 0 24:=grownCap_ge w _ _ _;obtain⟨G,hG⟩:∃ G,G=grownCap w n 0 24:=⟨_,rfl⟩
 rw[← hG]at hrz hGn ⊢;have hG63:G<=9223372036854775807:=by
  have:=grownCap_le_maxLen w n 0 24 (by unfold maxLen; omega)
  rw[← hG]at this;unfold maxLen at this
  omega
 clear hold hG
 go_enter Try.func99,Try.ntmps99
 go_wp2_with (at_builtin; refine Lib.wpList_append_run _ rfl _ _ _ _ rfl _ _ rfl rfl _ _ (hrz _) ?_)
 all_goals (go_ret; exact⟨rfl,rfl⟩)
end Go.Proofs
namespace Go.Proofs.Ytgplhldfbkmmgaa
open Go.Abs
theorem zP9 (z:Array Value) (n:Nat):(Builtin.zeroCells z n).size=n * z.size:=by simp[Builtin.zeroCells]
def zGO (xs:List AV) (r:Ret):Prop:=∃ (a0:Int) (y0:List Nd),zEn a0=some y0/\xs=[.nl 4,.s (.int .i64 a0)]/\r = .row 24 4 (Nd.encs y0)
def zEb:zAv:=zQC fun xs r=>zGO xs r
theorem zGs:PSound Try.prog 99 zEb :=
 ⟨Try.call99,fun G w xs vs r hl hg _ hv ⟨a0,y0,hm,hx,hr⟩=>by
  subst hx; subst hr
  obtain⟨⟨q1,q2⟩,hm⟩:=zAI hm;obtain rfl:=Option.some.inj hm;obtain⟨n,rfl⟩:=Int.eq_ofNat_of_zero_le q1;simp only[AVals,AVal,Rep]at hv;obtain⟨_,_,rfl,rfl,_,_,rfl,rfl,rfl⟩:=hv
  by_cases h0:n=0
  ·subst h0;exact(Try.Grow_nil_sNode w).mono fun e w' ⟨h1,h2⟩=>by
    subst h2;exact⟨_,G,h1,Ext.refl hl,fun r hr=>(by cases hr),by decide,.inl ⟨rfl,rfl⟩⟩
  obtain⟨d,info,z,b1,b2,b3,b4,b5,b6,b7,b8,b9,b10⟩:=tokW 24 _ rfl;have i1:info.size=4:=b4;have i2:info.bytes=56:=b5;have hzs:z.cells.size=4:=zHQ b7 b8 b9;refine(Try.Grow_new_sNode info z b3 b6 (by omega) n w (by omega) (by rw[i2]; omega) (by omega)).mono fun e w' ⟨h1,h2⟩=>?_
  have hge:n<=grownCap w n 0 24 :=(by unfold grownCap Question.cut; simp);generalize grownCap w n 0 24=g at *;refine⟨_,G,h1,?_,fun r hr=>(by cases hr),by decide,.inr ⟨w.heap.size,g,#[]++Builtin.zeroCells z.cells n++Builtin.zeroCells z.cells (g - n),rfl,Nat.zero_le _,?_,by rw[h2]; exact RowBlk.laid (zCp w.drew _),fun h=>Nat.lt_irrefl _ (hl _ h),Nat.le_refl _,fun i s hi=>by cases hi⟩⟩
  ·rw[h2]
   exact(Ext.drew hl).trans (Ext.own (w:=w.drew) hl _)
  ·simp only[Array.size_append,Array.size_empty,zP9,hzs]
   omega,
 fun R hR=>(by cases hR),fun R hR=>(by cases hR)⟩
def zGn (xs:List AV) (r:Ret):Prop:=∃ (a0:List Nd) (y0:List Nd),zDR a0=some y0/\xs=[.s (.sl 4 (Nd.encs a0))]/\r = .val (.s (.sl 4 (Nd.encs y0)))
def zDQ:zAv:=zAx fun xs r=>zGn xs r
theorem zF3:PSound Try.prog 93 zDQ:=by
 have gok:=@gok0 Try.prog;refine zAz tokW Try.call93 Try.func93 rfl (fun xs r h=>by obtain⟨_,_,_,rfl,_⟩:=h; show 1<=_; decide) _ rfl ?_;rintro xs r w0 G0 ⟨l,y,h,rfl,rfl⟩ _;obtain⟨hq,h⟩:=zAI h;obtain rfl:=Option.some.inj h;have hlen:(Nd.encs l).length=l.length:=rlen Nd.encs_eq l;refine zQE [] [] rfl ?_;show Tri ..;refine zAa ?_;refine zQE [] [] rfl ?_;intro b hb;show Tri ..;cases b with
 | true =>
  have hl:=hb rfl;refine zAB rfl (fun _=>?_) (fun h=>by cases h)
  refine zQE [] [] rfl ?_;show Tri ..;refine zAg ?_;unfold zAu;exact⟨_,Le.refl _ _,congrArg (fun z=>some (AV.s (.sl 4 z))) hl.symm,rfl⟩
 | false =>
  refine zAB rfl (fun h=>by cases h) (fun _=>?_)
  refine zAh ?_;show Tri ..;refine zQE [5,7] [] rfl ?_;refine And.intro (show(([]:List (List S)).length+(Nd.encs l).length) * 56<=140737488355328/\([]:List (List S)).length+(Nd.encs l).length<=9223372036854775807 from by rw[hlen]; simp only[List.length_nil]; omega) ?_;show Tri ..;refine zAg ?_;unfold zAu;exact⟨_,Le.giveRow 1 (e:=24) (sz:=4) (rows:=Nd.encs l) rfl,rfl,rfl⟩
def zGN (xs:List AV) (r:Ret):Prop:=∃ (a0:List Int) (y0:List Int),zBl a0=some y0/\xs=[.s (.sl 1 ((List.map (irow .i64)) a0))]/\r = .val (.s (.sl 1 ((List.map (irow .i64)) y0)))
def zEa:zAv:=zAx fun xs r=>zGN xs r
theorem zGr:PSound Try.prog 77 zEa:=by
 have gok:=@gok0 Try.prog;refine zAz tokW Try.call77 Try.func77 rfl (fun xs r h=>by obtain⟨_,_,_,rfl,_⟩:=h; show 1<=_; decide) _ rfl ?_;rintro xs r w0 G0 ⟨l,y,h,rfl,rfl⟩ _;obtain⟨hq,h⟩:=zAI h;obtain rfl:=Option.some.inj h;have hlen:((List.map (irow .i64)) l).length=l.length:=rlen (fun _=>rfl) l;refine zQE [] [] rfl ?_;show Tri ..;refine zAa ?_;refine zQE [] [] rfl ?_;intro b hb;show Tri ..;cases b with
 | true =>
  have hl:=hb rfl;refine zAB rfl (fun _=>?_) (fun h=>by cases h)
  refine zQE [] [] rfl ?_;show Tri ..;refine zAg ?_;unfold zAu;exact⟨_,Le.refl _ _,congrArg (fun z=>some (AV.s (.sl 1 z))) hl.symm,rfl⟩
 | false =>
  refine zAB rfl (fun h=>by cases h) (fun _=>?_)
  refine zAh ?_;show Tri ..;refine zQE [5,7] [] rfl ?_;refine And.intro (show(([]:List (List S)).length+((List.map (irow .i64)) l).length) * 8<=140737488355328/\([]:List (List S)).length+((List.map (irow .i64)) l).length<=9223372036854775807 from by rw[hlen]; simp only[List.length_nil]; omega) ?_;show Tri ..;refine zAg ?_;unfold zAu;exact⟨_,Le.giveRow 1 (e:=3) (sz:=1) (rows:=(List.map (irow .i64)) l) rfl,rfl,rfl⟩
end Go.Proofs.Ytgplhldfbkmmgaa
