/-
  Joined out of: AbsR, AbsJ, AbsK, AbsL, AbsM, AbsN, AbsO, AbsP.
-/
import Derived.RangeFuncNested
import Derived.RangeFuncLeaves
import Derived.TacticsIn
import Derived.OrdersIn
import Derived.Test.YtffhjiplcfncdaaRows
import Derived.WalkKit
import Derived.ProofKit
import Derived.OpenShut
import Derived.JoinedCond
import Derived.Carry
import Derived.Deep.Slices
import Derived.Test.YtffhjiplcfncdaaZa
set_option linter.unusedVariables false
set_option linter.unusedSimpArgs false
set_option maxHeartbeats 2000000
set_option maxRecDepth 100000
namespace Go.Abs
mutual
theorem AV.pers_lt {n:Nat}:∀ {x:AV},x.pers=true->x.lt n=true
 | .s _,_=>rfl
 | .nl _,_=>rfl
 | .agg xs,h=>by simp only[AV.pers]at h; simp only[AV.lt]; exact AV.persAll_lt h
 | .tup xs,h=>by simp only[AV.pers]at h; simp only[AV.lt]; exact AV.persAll_lt h
 | .clo _ xs,h=>by simp only[AV.pers]at h; simp only[AV.lt]; exact AV.persAll_lt h
 | .op ..,h=>by simp[AV.pers]at h
 | .orow _,h=>by simp[AV.pers]at h
 | .rp ..,h=>by simp[AV.pers]at h
 | .junk,_=>rfl
theorem AV.persAll_lt {n:Nat}:∀ {xs:List AV},AV.persAll xs=true->AV.ltAll n xs=true
 | [],_=>rfl
 | x::xs,h=>by
  simp only[AV.persAll,Bool.and_eq_true]at h
  simp only[AV.ltAll,Bool.and_eq_true]
  exact⟨AV.pers_lt h.1,AV.persAll_lt h.2⟩
end
def zA4 (own:Bool) (σ:St) (r:Ret):Option (AV×St) :=
 match r with
 | .val x=>match x.pers with | true=>some (x,σ) | false=>none
 | .row e sz rows=>match own with | true=>some (.orow σ.nx,zAX σ (.row e sz rows)) | false=>some (.s (.sl sz rows),σ)
theorem zHd {c:Cx}{G G':Nat->Prop}{β:Nat->Value}{σ σ':St}{a:Act}{w w':World} (hc:Conc c G β σ a w) (h1:Ext G G' w w'){r:Ret}{v:Value} (h2:RetAt G' w w' r v){own:Bool}{x:AV}
  (hx:zA4 own σ r=some (x,σ')) {K:Prop}
  (hK:∀ G' β' w'' v',w''=w'->v'=v->Conc c G' β' σ' a w''->AVal G' w'' β' x v'->x.lt σ'.nx=true->K):K:=by
 have hcx:=hc.ext h1;unfold zA4 at hx;unfold RetAt at h2;split at hx
 ·split at hx
  ·rename_i hpers
   cases hx;exact hK G' β w' v rfl rfl hcx (AVal.pers h2.1 h2.2) (AV.pers_lt hpers)
  ·cases hx
 ·rename_i e1 sz rows
  obtain⟨f1,f2,f3⟩:=h2;split at hx
  ·cases hx;rcases f3 with ⟨rfl,rfl⟩ | ⟨b,cap,cur,rfl,k1,k2,k3,k4,k5,k6⟩
   ·obtain⟨β',b1,b2,b3⟩:=hcx.make (ob:=.row e1 sz []) (v:=.slice none 0 0) ⟨f1,f2,.inl ⟨rfl,rfl⟩⟩ rfl (fun _ _ _ b hb=>by cases hb)
    refine hK G' β' w' _ rfl rfl b3 ?_ (by simp[AV.lt,zAX])
    simp only[AVal]
    exact⟨b2.symm,_,_,_,rfl⟩
   ·obtain⟨β',b1,b2,b3⟩:=hcx.make (ob:=.row e1 sz rows) (v:=.slice (some ⟨b,0,none⟩) rows.length cap) ⟨f1,f2,.inr ⟨b,cap,cur,rfl,k1,k2,k3,k4,.inr (Nat.le_trans hc.fr.size k5),k6⟩⟩ rfl (fun k o' hk b' hb e'=>by
     cases hb;have h9:b<w.heap.size:=hc.blk_lt hk e'
     omega)
    refine hK G' β' w' _ rfl rfl b3 ?_ (by simp[AV.lt,zAX])
    simp only[AVal]
    exact⟨b2.symm,_,_,_,rfl⟩
  ·cases hx;rcases f3 with ⟨rfl,rfl⟩ | ⟨b,cap,cur,rfl,k1,k2,⟨mk,hmk,k3⟩,k4,k5,k6⟩
   ·exact hK G' β w' _ rfl rfl hcx (by simp only[AVal,Rep]; exact .inl ⟨trivial,_,_,rfl⟩) rfl
   ·have hblt:b<w'.heap.size:=(Array.getElem?_eq_some_iff.1 k3).1;have hx:Ext G (fun i=>G' i∨i=b) w w':=⟨h1.os,h1.tape,h1.output,h1.size,h1.old,fun i hi=>.inl (h1.sub i hi),fun i hi=>hi.elim (h1.new i) (fun e=>.inr (e ▸ k5)),fun i hi=>hi.elim (h1.lt i) (fun e=>e ▸ hblt)⟩
    refine hK _ β w' _ rfl rfl (hc.ext hx) ?_ rfl;simp only[AVal,Rep]
    refine .inr ⟨b,0,cap,rfl,k1,zBQ f1 (RepRow.mk fun i s hi=>⟨.inr rfl,?_⟩)⟩
    obtain⟨u,hu,hr⟩:=k6 i s hi;refine⟨u,by simp[World.cell?,k3,hu],hr.keep ⟨fun _ h=>.inl h,fun _ _=>rfl⟩⟩
theorem zK9 {c:Cx}{T:Nat->Option TI}{Γ:Nat->Option zAp}{G:Nat->Prop}{β:Nat->Value}{σ σ':St}{a:Act}{w:World} (hΓ:∀ f s,Γ f=some s->PSound c.P f s)
  (hc:Conc c G β σ a w) {o:Oper} {g:Nat} {s:zAp} {xs:List AV} (h:callOf T Γ o σ.env=some (g,s,xs)) {r:Ret} (hr:s.spec xs r) {own:Bool} {x:AV} (hx:zA4 own σ r=some (x,σ'))
  {K:Act->World->Prop} {Q:Exit->Act->World->Prop}
  (hK:∀ G' β' w' v,Conc c G' β' σ' a w'->AVal G' w' β' x v->x.lt σ'.nx=true->K (a.put o.dst v) w'):o.wp c.P a w K Q:=by
 have hρ:∀ ty x,AVal G w β (opd T σ.env ty x) (a.eval x):=zFH hc T
 unfold callOf at h;split at h
 ·rename_i f args ts ho
  split at h
  ·rename_i g' e
   split at h
   ·rename_i s' hs
    split at h
    ·rename_i hown
     split at h
     ·rename_i hp
      cases h;have:=hρ 0 f;rw[e]at this;simp only[AVal,Rep]at this;have hargs:=fun s:zAp=>zPd (s:=s) hρ args.toList ts.toList
      obtain⟨hcall,zLe,_⟩:=hΓ g s hs;have hexec:(execOp a.eval o).run c.P w = .ok (.enter g (args.toList.map a.eval).toArray) w:=by
       have e:(args.toList.map a.eval).toArray=args.map a.eval:=Array.ext' (by simp)
       rw[e]
       simp[execOp,ho,resolve,this,Deferred.ofValue,invoke,hcall]
      unfold Oper.wp;rw[hexec]
      simp only[Oper.upon_enter]
      refine(zLe G w _ _ r hc.lt hc.glob hp (AVals.pers hp (hargs _)) hr).mono fun e w' he=>?_
      obtain⟨v,G',rfl,h1,h2⟩:=he;exact zHd hc h1 h2 hx fun G' β' w'' v' e1 e2 h3 h4 h5=>by subst e1; subst e2; exact hK G' β' _ _ h3 h4 h5
     ·cases h
    ·cases h
   ·cases h
  ·cases h
 ·cases h
def zNx (x:Nat):List Nat->Bool
 | []=>true
 | y::ys=>!(Nat.beq x y)&&zNx x ys
def distinct:List Nat->Bool
 | []=>true
 | x::xs=>zNx x xs&&distinct xs
theorem zEF {x:Nat}:∀ {l:List Nat},zNx x l=true->x ∉ l
 | [],_=>by simp
 | y::ys,h=>by
  simp only[zNx,Bool.and_eq_true,Bool.not_eq_true']at h;have h1:=Nat.ne_of_beq_eq_false h.1;have h2:=zEF h.2;simp[h1,h2]
def look (k:Nat):List (Nat×Nat)->Option Nat
 | []=>none
 | (a,b)::r=>bif Nat.beq k a then some b else look k r
mutual
def AV.ren (ρ:List (Nat×Nat)):AV->AV
 | .op k o=>match look k ρ with | some j=>.op j o | none=>.junk
 | .orow k=>match look k ρ with | some j=>.orow j | none=>.junk
 | .rp k sz i o=>match look k ρ with | some j=>.rp j sz i o | none=>.junk
 | .agg xs=>.agg (AV.renAll ρ xs)
 | .tup xs=>.tup (AV.renAll ρ xs)
 | .clo f xs=>.clo f (AV.renAll ρ xs)
 | x=>x
def AV.renAll (ρ:List (Nat×Nat)):List AV->List AV
 | []=>[]
 | x::xs=>x.ren ρ::AV.renAll ρ xs
end
def Ob.ren (ρ:List (Nat×Nat)):Ob->Ob
 | .box t xs=>.box t (AV.renAll ρ xs)
 | .arow e sz rows=>.arow e sz (rows.map (AV.renAll ρ))
 | o=>o
mutual
theorem AVal.ren {G:Nat->Prop}{w:World}{β β':Nat->Value}{ρ:List (Nat×Nat)} (hb:∀ k j,look k ρ=some j->β' j=β k):∀ {x:AV}{v:Value},AVal G w β x v->AVal G w β' (x.ren ρ) v
 | .s x,v,h=>by simp only[AVal,AV.ren]at h ⊢; exact h
 | .nl _,v,h=>by simp only[AVal,AV.ren]at h ⊢; exact h
 | .agg xs,v,h=>by
  simp only[AVal,AV.ren]at h ⊢
  obtain⟨vs,h1,h2⟩:=h
  exact⟨vs,h1,AVals.ren hb h2⟩
 | .tup xs,v,h=>by
  simp only[AVal,AV.ren]at h ⊢
  obtain⟨vs,h1,h2⟩:=h
  exact⟨vs,h1,AVals.ren hb h2⟩
 | .clo f xs,v,h=>by
  simp only[AVal,AV.ren]at h ⊢
  obtain⟨vs,h1,h2⟩:=h
  exact⟨vs,h1,AVals.ren hb h2⟩
 | .op k o,v,h=>by
  simp only[AV.ren]
  split
  ·rename_i j hj; simp only[AVal]at h ⊢; rw[hb k j hj]; exact h
  ·simp only[AVal]
 | .orow k,v,h=>by
  simp only[AV.ren]
  split
  ·rename_i j hj; simp only[AVal]at h ⊢; rw[hb k j hj]; exact h
  ·simp only[AVal]
 | .rp k sz i o,v,h=>by
  simp only[AV.ren]
  split
  ·rename_i j hj; simp only[AVal]at h ⊢; rw[hb k j hj]; exact h
  ·simp only[AVal]
 | .junk,_,_=>by simp only[AV.ren,AVal]
theorem AVals.ren {G:Nat->Prop}{w:World}{β β':Nat->Value}{ρ:List (Nat×Nat)} (hb:∀ k j,look k ρ=some j->β' j=β k):∀ {xs:List AV}{vs:List Value},AVals G w β xs vs->AVals G w β' (AV.renAll ρ xs) vs
 | [],_,h=>by simp only[AVals,AV.renAll]at h ⊢; exact h
 | x::xs,vs,h=>by
  simp only[AVals,AV.renAll]at h ⊢
  obtain⟨v,vs',h1,h2,h3⟩:=h
  exact⟨v,vs',h1,AVal.ren hb h2,AVals.ren hb h3⟩
end
def S.flat:S->Bool
 | .sl _ _=>false
 | .pt _=>false
 | _=>true
mutual
def AV.flat:AV->Bool
 | .s x=>x.flat
 | .nl _=>true
 | .agg xs=>AV.flatAll xs
 | .tup xs=>AV.flatAll xs
 | _=>false
def AV.flatAll:List AV->Bool
 | []=>true
 | x::xs=>x.flat&&AV.flatAll xs
end
def Ret.flat:Ret->Bool
 | .val x=>x.flat
 | .row _ _ _=>false
theorem Rep.flat {G G':Nat->Prop}{w w':World}{s:S}{v:Value} (hs:s.flat=true) (h:Rep G w s v):Rep G' w' s v:=by
 cases s with
 | sl sz rows=>simp[S.flat]at hs
 | pt=>simp[S.flat]at hs
 | _=>simpa only[Rep] using h
mutual
theorem AVal.flat {G G':Nat->Prop}{w w':World}{β β':Nat->Value}:∀ {x:AV}{v:Value},x.flat=true->AVal G w β x v->AVal G' w' β' x v
 | .s x,v,hf,h=>by simp only[AVal,AV.flat]at h hf ⊢; exact h.flat hf
 | .nl _,v,_,h=>by simp only[AVal]at h ⊢; exact h
 | .agg xs,v,hf,h=>by
  simp only[AVal,AV.flat]at h hf ⊢
  obtain⟨vs,h1,h2⟩:=h
  exact⟨vs,h1,AVals.flat hf h2⟩
 | .tup xs,v,hf,h=>by
  simp only[AVal,AV.flat]at h hf ⊢
  obtain⟨vs,h1,h2⟩:=h
  exact⟨vs,h1,AVals.flat hf h2⟩
 | .clo ..,_,hf,_=>by simp[AV.flat]at hf
 | .op ..,_,hf,_=>by simp[AV.flat]at hf
 | .orow _,_,hf,_=>by simp[AV.flat]at hf
 | .rp ..,_,hf,_=>by simp[AV.flat]at hf
 | .junk,_,hf,_=>by simp[AV.flat]at hf
theorem AVals.flat {G G':Nat->Prop}{w w':World}{β β':Nat->Value}:∀ {xs:List AV}{vs:List Value},AV.flatAll xs=true->AVals G w β xs vs->AVals G' w' β' xs vs
 | [],_,_,h=>by simp only[AVals]at h ⊢; exact h
 | x::xs,vs,hf,h=>by
  simp only[AVals]at h ⊢
  simp only[AV.flatAll,Bool.and_eq_true]at hf
  obtain⟨v,vs',h1,h2,h3⟩:=h
  exact⟨v,vs',h1,AVal.flat hf.1 h2,AVals.flat hf.2 h3⟩
end
theorem RetAt.flat {G G1 G':Nat->Prop}{w w':World} (hs:∀ b,G b->G' b){r:Ret}{v:Value} (hf:r.flat=true) (h:RetAt G' w w' r v):RetAt G w w' r v:=by
 cases r with
 | val x=>exact⟨h.1,AVal.flat hf h.2⟩
 | row e sz rows =>
  simp[Ret.flat]at hf
mutual
def AV.keys:AV->List Nat
 | .op k _=>[k]
 | .orow k=>[k]
 | .rp k _ _ _=>[k]
 | .agg xs=>AV.keysAll xs
 | .tup xs=>AV.keysAll xs
 | .clo _ xs=>AV.keysAll xs
 | _=>[]
def AV.keysAll:List AV->List Nat
 | []=>[]
 | x::xs=>x.keys++AV.keysAll xs
end
mutual
def AV.lend (hp:Nat->Option Ob):AV->AV
 | .orow k=>match hp k with | some (.row _ sz rows)=>.s (.sl sz rows) | _=>.junk
 | .op k o=>match hp k with
  | some (.box _ cells)=>match zOJ cells with | some ss=>.s (.pt (ss.drop o)) | none=>.junk
  | _=>.junk
 | .rp ..=>.junk
 | .agg xs=>.agg (AV.lendAll hp xs)
 | .tup xs=>.tup (AV.lendAll hp xs)
 | .clo f xs=>.clo f (AV.lendAll hp xs)
 | x=>x
def AV.lendAll (hp:Nat->Option Ob):List AV->List AV
 | []=>[]
 | x::xs=>x.lend hp::AV.lendAll hp xs
end
section
variable {c:Cx} {G:Nat->Prop} {β:Nat->Value} {σ:St} {a:Act} {w:World}
def zI6 (G:Nat->Prop) (β:Nat->Value) (σ:St) (ks:List Nat) (b:Nat):Prop:=G b∨∃ k ob,k∈ks/\σ.hp k=some ob/\blk (β k)=some b
mutual
theorem AVal.lend (hc:Conc c G β σ a w){ks:List Nat}:∀ {x:AV}{v:Value},(∀ k∈x.keys,k∈ks)->AVal G w β x v->AVal (zI6 G β σ ks) w β (x.lend σ.hp) v
 | .s x,v,_,h=>by simp only[AVal,AV.lend]at h ⊢; exact h.keep ⟨fun _ h=>.inl h,fun _ _=>rfl⟩
 | .nl _,v,_,h=>by simp only[AVal,AV.lend]at h ⊢; exact h
 | .agg xs,v,hk,h=>by
  simp only[AVal,AV.lend]at h ⊢
  obtain⟨vs,h1,h2⟩:=h
  exact⟨vs,h1,AVals.lend hc (fun k hk'=>hk k (by simpa [AV.keys] using hk')) h2⟩
 | .tup xs,v,hk,h=>by
  simp only[AVal,AV.lend]at h ⊢
  obtain⟨vs,h1,h2⟩:=h
  exact⟨vs,h1,AVals.lend hc (fun k hk'=>hk k (by simpa [AV.keys] using hk')) h2⟩
 | .clo f xs,v,hk,h=>by
  simp only[AVal,AV.lend]at h ⊢
  obtain⟨vs,h1,h2⟩:=h
  exact⟨vs,h1,AVals.lend hc (fun k hk'=>hk k (by simpa [AV.keys] using hk')) h2⟩
 | .op k o,v,hk,h=>by
  simp only[AV.lend]
  have hkk:=hk k (by simp[AV.keys])
  split
  ·rename_i cells hh
   split
   ·rename_i ss hs
    obtain⟨b,e,cur,h1,h2,h3,h4,h5,h6⟩:=hc.hp k _ hh
    have hreps:=zH2 hs h5
    simp only[AVal]at h
    obtain⟨b',e1,rfl⟩:=h
    rw[h1]at e1; cases e1
    simp only[AVal,Rep]
    have hrow:RepRow (zI6 G β σ ks) w b ss 0:=RepRow.mk fun i s hi=>⟨.inr ⟨k,_,hkk,hh,by rw[h1]; rfl⟩,by
     obtain⟨u,hu,hr⟩:=zH1 hreps hi
     rw[Array.getElem?_toList]at hu
     exact⟨u,by simp[World.cell?,h2,hu],hr.keep ⟨fun _ h=>.inl h,fun _ _=>rfl⟩⟩⟩
    exact⟨b,o,rfl,by simpa using hrow.drop o⟩
   ·simp only[AVal]
  ·simp only[AVal]
 | .orow k,v,hk,h=>by
  simp only[AV.lend]
  have hkk:=hk k (by simp[AV.keys])
  split
  ·rename_i e sz rows hh
   obtain⟨hlen,hsz,ho⟩:=hc.hp k _ hh
   simp only[AVal]at h
   obtain⟨rfl,_⟩:=h
   simp only[AVal,Rep]
   rcases ho with ⟨h1,rfl⟩ | ⟨b,cap,cur,h1,h2,h3,⟨mk,hmk,h4⟩,h5,h6,h7⟩
   ·exact .inl ⟨rfl,_,_,h1⟩
   ·refine .inr ⟨b,0,cap,h1,h2,zBQ hlen (RepRow.mk fun i s hi=>⟨.inr ⟨k,_,hkk,hh,by rw[h1]; rfl⟩,?_⟩)⟩
    obtain⟨u,hu,hr⟩:=h7 i s hi
    exact⟨u,by simp[World.cell?,h4,hu],hr.keep ⟨fun _ h=>.inl h,fun _ _=>rfl⟩⟩
  ·simp only[AVal]
 | .rp ..,v,_,h=>by simp only[AV.lend,AVal]
 | .junk,_,_,_=>by simp only[AV.lend,AVal]
theorem AVals.lend (hc:Conc c G β σ a w){ks:List Nat}:∀ {xs:List AV}{vs:List Value},(∀ k∈AV.keysAll xs,k∈ks)->AVals G w β xs vs->AVals (zI6 G β σ ks) w β (AV.lendAll σ.hp xs) vs
 | [],_,_,h=>by simp only[AVals,AV.lendAll]at h ⊢; exact h
 | x::xs,vs,hk,h=>by
  simp only[AVals,AV.lendAll]at h ⊢
  obtain⟨v,vs',h1,h2,h3⟩:=h
  exact⟨v,vs',h1,AVal.lend hc (fun k hk'=>hk k (by simp[AV.keysAll,hk'])) h2,AVals.lend hc (fun k hk'=>hk k (by simp[AV.keysAll,hk'])) h3⟩
end
def kin (k:Nat):List Nat->Bool
 | []=>false
 | x::xs=>match Nat.beq k x with | true=>true | false=>kin k xs
theorem zNm {k:Nat}:∀ {l:List Nat},kin k l=false->k ∉ l
 | [],_=>by simp
 | x::xs,h=>by
  simp only[kin]at h;split at h
  ·cases h
  ·rename_i e
   have:=zNm h;have:=Nat.ne_of_beq_eq_false e
   simp_all
def zKn (ks:List Nat) (σ:St):St:={ σ with hp:=fun k=>bif kin k ks then none else σ.hp k }
theorem Conc.giveAll (hc:Conc c G β σ a w) (ks:List Nat):Conc c (zI6 G β σ ks) β (zKn ks σ) a w:=by
 have k:Keep G (zI6 G β σ ks) w w:=⟨fun _ h=>.inl h,fun _ _=>rfl⟩
 have hget:∀ {k' o},(zKn ks σ).hp k'=some o->k' ∉ ks/\σ.hp k'=some o:=fun {k' o} hk=>by
  simp only[zKn]at hk;cases e:kin k' ks with
  | true=>rw[e,cond_true]at hk; cases hk
  | false=>rw[e,cond_false]at hk; exact⟨zNm e,hk⟩
 have hng:∀ {k' o},σ.hp k'=some o->k' ∉ ks->∀ {b:Nat},blk (β k')=some b->¬ zI6 G β σ ks b:=fun {k' o} hk hn {b} hb hl=>by
  rcases hl with hl | ⟨k2,o2,h1,h2,h3⟩
  ·exact(row_block (hc.hp k' o hk) b hb).1 hl
  ·exact hc.inj k' k2 o o2 hk h2 (fun e=>hn (e ▸ h1)) b hb h3
 refine { hc with env:=fun t=>(hc.env t).keep k,hp:=fun k' o hk=>?_,hplt:=fun k' o hk=>hc.hplt k' o (hget hk).2,inj:=fun k1 k2 o1 o2 h1 h2=>hc.inj k1 k2 o1 o2 (hget h1).2 (hget h2).2,lt:=fun i hi=>?_,sub:=fun i hi=>.inl (hc.sub i hi),new:=fun i hi=>?_,glob:=hc.glob.keep k }
 ·obtain⟨hn,hk0⟩:=hget hk;have ho:=hc.hp k' o hk0;cases o with
  | box cells =>
   obtain⟨b',e',cur,h1,h2,h3,h4,h5,h6⟩:=ho;exact⟨b',e',cur,h1,h2,hng hk0 hn (by rw[h1]; rfl),h4,h5.keep k,h6⟩
  | row e' sz rows =>
   obtain⟨h0,h0',h1⟩:=ho;refine⟨h0,h0',h1.imp id ?_⟩
   rintro⟨b',cap,cur,h1,h2,h3,h4,h5,h6,h7⟩
   exact⟨b',cap,cur,h1,h2,h3,h4,hng hk0 hn (by rw[h1]; rfl),h6,fun i s hi=>let ⟨u,hu,hr⟩:=h7 i s hi; ⟨u,hu,hr.keep k⟩⟩
  | arow e' sz rows=>exact ho.moveA (fun _ _ _ h=>h) (fun b _ hb _ _=>hng hk0 hn hb) (fun _ _ h=>h) (fun _ _ _ _ hr=>hr.keep k)
 ·rcases hi with hi | ⟨k2,o2,h1,h2,h3⟩
  ·exact hc.lt i hi
  ·exact hc.blk_lt h2 h3
 ·rcases hi with hi | ⟨k2,o2,h1,h2,h3⟩
  ·exact hc.new i hi
  ·exact .inr (row_block (hc.hp k2 o2 h2) i h3).2
def zA6 (T:Nat->Option TI) (o:Oper) (env:Nat->AV):Option (Nat×List AV) :=
 match o.op with
 | .call { callee:=.value f,args:=args,argTypes:=ts }=>match opd T env 0 f with
  | .s (.fn g)=>some (g,opds T env args.toList ts.toList)
  | .clo g caps=>match Nat.ble 1048576 g with
   | false=>some (g,opds T env args.toList ts.toList++caps)
   | true=>match args.toList.all (fun x=>!zBo x) with
    | true=>some (g - 1048576,caps++opds T env args.toList ts.toList)
    | false=>none
  | _=>none
 | _=>none
def zAn (hp:Nat->Option Ob):Nat->List Nat->List Nat->List Nat
 | 0,_,acc=>acc
 | _,[],acc=>acc
 | n+1,k::r,acc=>match kin k acc with
  | true=>zAn hp n r acc
  | false=>match hp k with
   | some (.box _ cells)=>zAn hp n (AV.keysAll cells++r) (acc++[k])
   | some (.arow _ _ rows)=>zAn hp n (AV.keysAll rows.flatten++r) (acc++[k])
   | _=>zAn hp n r (acc++[k])
def zipI:Nat->List Nat->List (Nat×Nat)
 | _,[]=>[]
 | i,k::ks=>(k,i)::zipI (i+1) ks
def zJ2 (hp:Nat->Option Ob) (ρ:List (Nat×Nat)):List Nat->Option (List Ob)
 | []=>some []
 | k::ks=>match hp k,zJ2 hp ρ ks with | some o,some os=>some (o.ren ρ::os) | _,_=>none
def zEu:List Nat->Nat->Nat->Nat
 | k::_,_,0=>k
 | _::ks,nx,i+1=>zEu ks nx i
 | [],nx,i=>nx+i
def zDV (ks:List Nat) (nx:Nat):Nat->List (Option Ob)->List (Nat×Nat)
 | _,[]=>[]
 | i,none::r=>zDV ks nx (i+1) r
 | i,some _::r=>(i,zEu ks nx i)::zDV ks nx (i+1) r
def zGW (ρ:List (Nat×Nat)) (f:Nat->Nat):Nat->List (Option Ob)->(Nat->Option Ob)->Nat->Option Ob
 | _,[],hp=>hp
 | i,o::os,hp=>zGW ρ f (i+1) os (fun k=>bif Nat.beq k (f i) then o.map (Ob.ren ρ) else hp k)
def handed (σ:St) (ks:List Nat) (os':List (Option Ob)):St :=
 { σ with hp:=zGW (zDV ks σ.nx 0 os') (zEu ks σ.nx) 0 os' σ.hp,nx:=σ.nx+(os'.length - ks.length) }
def zD7 (T:Nat->Option TI) (nil:Option Nat) (o:Oper) (xs:List AV) (σ:St):List AV×St :=
 match nil with
 | none=>(xs,σ)
 | some k=>match o.op with
  | .call { callee:=_,args:=args,argTypes:=ts }=>match args.toList[k]?,elemOf T (ts.toList.getD k 0) with
   | some x,some (e,j)=>match zBo x,Nat.ble 1 j.size with
    | true,true=>(xs.set k (.orow σ.nx),zAX σ (.row e j.size []))
    | _,_=>(xs,σ)
   | _,_=>(xs,σ)
  | _=>(xs,σ)
def zF6 (T:Nat->Option TI) (o:Oper) (σ:St) (K:AV->St->Prop):Prop :=
 match o.op with
 | .load t x=>match opd T σ.env 0 x with
  | .rp k sz i off=>match σ.hp k with
   | some (.row _ sz' rows)=>match Nat.beq sz sz' with
    | true=>i<rows.length/\∃ row,rows.getD i []=row/\match zKD T t (row.drop off) with | some y=>K y σ | none=>False
    | false=>False
   | some (.arow _ sz' rows)=>match Nat.beq sz sz' with
    | true=>i<rows.length/\∃ row,rows.getD i []=row/\match zL3 T t (row.drop off) with | some y=>K y σ | none=>False
    | false=>False
   | _=>False
  | _=>False
 | _=>False
def zEL (T:Nat->Option TI) (Γ:Nat->Option zAp) (own:Bool) (o:Oper) (σ:St) (K:AV->St->Prop):Prop :=
 match zA6 T o σ.env with
 | none=>zF6 T o σ K
 | some (g,xs)=>match Γ g with
  | none=>False
  | some s=>match s.heap with
   | some R=>∃ Φ,R xs σ.hp σ.nx Φ/\∀ x hp' n',Φ x hp' n'->K x ⟨σ.env,hp',n'⟩
   | none=>match s.own with
   | none=>match AV.persAll (AV.lendAll σ.hp xs) with
    | false=>False
    | true=>∃ r,s.spec (AV.lendAll σ.hp xs) r/\match zA4 own (match r.flat with | true=>σ | false=>zKn (AV.keysAll xs) σ) r with
     | none=>False
     | some (x,σ')=>K x σ'
   | some R=>match zD7 T s.nil o xs σ with
    | (xs,σ)=>match distinct (zAn σ.hp 64 (AV.keysAll xs) []),zJ2 σ.hp (zipI 0 (zAn σ.hp 64 (AV.keysAll xs) [])) (zAn σ.hp 64 (AV.keysAll xs) []) with
     | true,some os=>∃ x os',R (AV.renAll (zipI 0 (zAn σ.hp 64 (AV.keysAll xs) [])) xs) os x os' /\
       K (x.ren (zDV (zAn σ.hp 64 (AV.keysAll xs) []) σ.nx 0 os')) (handed σ (zAn σ.hp 64 (AV.keysAll xs) []) os')
     | _,_=>False
theorem zGV:∀ {l:List Nat},distinct l=true->l.Nodup
 | [],_=>List.nodup_nil
 | x::xs,h=>by
  simp only[distinct,Bool.and_eq_true]at h;exact List.nodup_cons.2 ⟨zEF h.1,zGV h.2⟩
theorem zDy:∀ {ks:List Nat}{nx i:Nat},i<ks.length->ks[i]? = some (zEu ks nx i)
 | k::ks,nx,0,_=>rfl
 | k::ks,nx,i+1,h=>by simpa [zEu] using zDy (ks:=ks) (nx:=nx) (i:=i) (by simpa using h)
theorem zD9:∀ {ks:List Nat}{nx i:Nat},ks.length<=i->zEu ks nx i=nx+(i - ks.length)
 | [],nx,i,_=>by simp[zEu]
 | k::ks,nx,0,h=>by simp at h
 | k::ks,nx,i+1,h=>by rw[zEu,zD9 (by simpa using h)]; simp
theorem zJY:∀ {ks:List Nat}{n k i:Nat},look k (zipI n ks)=some i->n<=i/\ks[i - n]? = some k
 | [],n,k,i,h=>by simp[zipI,look]at h
 | a::ks,n,k,i,h=>by
  simp only[zipI,look]at h;cases e:Nat.beq k a with
  | true=>rw[e,cond_true]at h; cases h; obtain rfl:=Nat.eq_of_beq_eq_true e; simp
  | false =>
   rw[e,cond_false]at h;obtain⟨h1,h2⟩:=zJY h;refine⟨by omega,?_⟩
   rw[show i - n=(i - (n+1))+1 by omega]; simpa using h2
theorem zOV {k j:Nat}:∀ {l:List (Nat×Nat)},look k l=some j->(k,j)∈l
 | [],h=>by simp[look]at h
 | (a,b)::r,h=>by
  simp only[look]at h;cases e:Nat.beq k a with
  | true=>rw[e,cond_true]at h; cases h; obtain rfl:=Nat.eq_of_beq_eq_true e; simp
  | false=>rw[e,cond_false]at h; simp[zOV h]
theorem zEh {ks:List Nat}{nx:Nat}:∀ {os:List (Option Ob)}{n i k:Nat},look i (zDV ks nx n os)=some k->n<=i/\(∃ ob,os[i - n]? = some (some ob))/\k=zEu ks nx i
 | [],n,i,k,h=>by simp[zDV,look]at h
 | none::r,n,i,k,h=>by
  simp only[zDV]at h;obtain⟨h1,⟨ob,h2⟩,h3⟩:=zEh h;refine⟨by omega,⟨ob,?_⟩,h3⟩
  rw[show i - n=(i - (n+1))+1 by omega]; simpa using h2
 | some o::r,n,i,k,h=>by
  simp only[zDV,look]at h;cases e:Nat.beq i n with
  | true=>rw[e,cond_true]at h; cases h; obtain rfl:=Nat.eq_of_beq_eq_true e; exact⟨Nat.le_refl _,⟨o,by simp⟩,rfl⟩
  | false =>
   rw[e,cond_false]at h;obtain⟨h1,⟨ob,h2⟩,h3⟩:=zEh h;refine⟨by omega,⟨ob,?_⟩,h3⟩
   rw[show i - n=(i - (n+1))+1 by omega]; simpa using h2
theorem zFm {ρ:List (Nat×Nat)}{f:Nat->Nat}:∀ {os:List (Option Ob)}{i:Nat}{hp:Nat->Option Ob}{k:Nat}{ob:Ob},zGW ρ f i os hp k=some ob ->
  (∃ j ob0,os[j]? = some (some ob0)/\k=f (i+j)/\ob=ob0.ren ρ)∨(hp k=some ob/\∀ j,j<os.length->k ≠ f (i+j))
 | [],i,hp,k,ob,h=>.inr ⟨h,fun j hj=>by simp at hj⟩
 | o::os,i,hp,k,ob,h=>by
  simp only[zGW]at h;rcases zFm h with ⟨j,ob0,h1,h2,h3⟩ | ⟨h1,h2⟩
  ·exact .inl ⟨j+1,ob0,by simpa using h1,by rw[h2]; congr 1; omega,h3⟩
  ·cases e:Nat.beq k (f i) with
   | true =>
    rw[e,cond_true]at h1;obtain⟨ob0,h3,h4⟩:=Option.map_eq_some_iff.1 h1;exact .inl ⟨0,ob0,by simp[h3],Nat.eq_of_beq_eq_true e,h4.symm⟩
   | false =>
    rw[e,cond_false]at h1;refine .inr ⟨h1,fun j hj=>?_⟩
    cases j with
    | zero=>exact Nat.ne_of_beq_eq_false e
    | succ j=>have:=h2 j (by simpa using hj); rwa [show i+1+j=i+(j+1) by omega]at this
theorem zNz {hp:Nat->Option Ob}{ρ:List (Nat×Nat)}:∀ {ks:List Nat}{os:List Ob},zJ2 hp ρ ks=some os->os.length=ks.length/\∀ (i:Nat) k,ks[i]? = some k->∃ o,hp k=some o/\os[i]? = some (o.ren ρ)
 | [],os,h=>by simp only[zJ2,Option.some.injEq]at h; subst h; exact⟨rfl,fun i k h=>by simp at h⟩
 | k::ks,os,h=>by
  simp only[zJ2]at h;split at h
  ·rename_i o os1 h1 h2
   cases h;obtain⟨a1,a2⟩:=zNz h2;refine⟨by simp[a1],fun i k' hk=>?_⟩
   cases i with
   | zero=>simp at hk; subst hk; exact⟨o,h1,by simp⟩
   | succ i=>simpa using a2 i k' (by simpa using hk)
  ·cases h
theorem zKk {ρ:List (Nat×Nat)}:∀ (l:List AV),AV.renAll ρ l=l.map (AV.ren ρ)
 | []=>rfl
 | x::l=>by simp[AV.renAll,zKk l]
theorem zFc {ρ:List (Nat×Nat)}:∀ (rows:List (List AV)),(rows.map (AV.renAll ρ)).flatten=rows.flatten.map (AV.ren ρ)
 | []=>rfl
 | r::rows=>by simp[zKk,zFc rows,List.map_append]
theorem ObAt.mv {c1 c2:Cx}{G:Nat->Prop}{w:World}{β:Nat->Value}{v:Value}{o:Ob} (hm:∀ b,blk v=some b->c1.mine b->c2.mine b) (h:ObAt c1 G w β v o):ObAt c2 G w β v o:=by
 cases o with
 | box xs =>
  obtain⟨b,e,cur,q1,q2,q3,q4,q5,q6⟩:=h;exact⟨b,e,cur,q1,q2,q3,hm b (by rw[q1]; rfl) q4,q5,q6⟩
 | row e sz rows =>
  obtain⟨h1,h2,h3⟩:=h;refine⟨h1,h2,h3.imp id ?_⟩
  rintro⟨b,cap,cur,k1,k2,k3,k4,k5,k6,k7⟩
  exact⟨b,cap,cur,k1,k2,k3,k4,k5,hm b (by rw[k1]; rfl) k6,k7⟩
 | arow e sz rows=>exact h.moveA (fun _ _ _ h=>h) (fun _ _ _ _ h=>h) hm (fun _ _ _ _ h=>h)
theorem ObAt.ren {c1 c2:Cx}{G:Nat->Prop}{w:World}{β β':Nat->Value}{ρ:List (Nat×Nat)} (hb:∀ k j,look k ρ=some j->β' j=β k){v:Value}{o:Ob} (hm:∀ b,blk v=some b->c1.mine b->c2.mine b)
  (h:ObAt c1 G w β v o):ObAt c2 G w β' v (o.ren ρ):=by
 cases o with
 | box xs =>
  obtain⟨b,e,cur,q1,q2,q3,q4,q5,q6⟩:=h;exact⟨b,e,cur,q1,q2,q3,hm b (by rw[q1]; rfl) q4,q5.ren hb,q6⟩
 | row e sz rows =>
  obtain⟨h1,h2,h3⟩:=h;refine⟨h1,h2,h3.imp id ?_⟩
  rintro⟨b,cap,cur,k1,k2,k3,k4,k5,k6,k7⟩
  exact⟨b,cap,cur,k1,k2,k3,k4,k5,hm b (by rw[k1]; rfl) k6,k7⟩
 | arow e sz rows =>
  obtain⟨h1,h2,h3⟩:=h;refine⟨fun r hr=>by obtain⟨r',hr',rfl⟩:=List.mem_map.1 hr; rw[zKk,List.length_map]; exact h1 r' hr',h2,h3.imp (fun h=>⟨h.1,by rw[h.2]; rfl⟩) ?_⟩
  rintro⟨b,cap,cur,k1,k2,k3,k4,k5,k6,k7⟩
  refine⟨b,cap,cur,by rw[List.length_map]; exact k1,by rw[List.length_map]; exact k2,k3,k4,k5,hm b (by rw[k1]; rfl) k6,fun i x hi=>?_⟩
  rw[zFc,List.getElem?_map]at hi;obtain⟨y,hy,rfl⟩:=Option.map_eq_some_iff.1 hi;obtain⟨u,hu,hr,h1⟩:=k7 i y hy;exact⟨u,hu,hr.ren hb,h1⟩
mutual
theorem AV.ren_lt {ρ:List (Nat×Nat)}{n:Nat} (h:∀ k j,look k ρ=some j->j<n):∀ {x:AV},(x.ren ρ).lt n=true
 | .s _=>rfl
 | .nl _=>rfl
 | .agg xs=>by simp only[AV.ren,AV.lt]; exact AV.renAll_lt h
 | .tup xs=>by simp only[AV.ren,AV.lt]; exact AV.renAll_lt h
 | .clo _ xs=>by simp only[AV.ren,AV.lt]; exact AV.renAll_lt h
 | .op k o=>by
  simp only[AV.ren]
  split
  ·rename_i j hj; simp only[AV.lt,decide_eq_true_eq]; exact h k j hj
  ·rfl
 | .orow k=>by
  simp only[AV.ren]
  split
  ·rename_i j hj; simp only[AV.lt,decide_eq_true_eq]; exact h k j hj
  ·rfl
 | .rp k _ _ _=>by
  simp only[AV.ren]
  split
  ·rename_i j hj; simp only[AV.lt,decide_eq_true_eq]; exact h k j hj
  ·rfl
 | .junk=>rfl
theorem AV.renAll_lt {ρ:List (Nat×Nat)}{n:Nat} (h:∀ k j,look k ρ=some j->j<n):∀ {xs:List AV},AV.ltAll n (AV.renAll ρ xs)=true
 | []=>rfl
 | x::xs=>by simp only[AV.renAll,AV.ltAll,Bool.and_eq_true]; exact⟨AV.ren_lt h,AV.renAll_lt h⟩
end
theorem Ob.ren_lt {ρ:List (Nat×Nat)}{n:Nat} (h:∀ k j,look k ρ=some j->j<n){o:Ob}:(o.ren ρ).lt n=true:=by
 cases o with
 | box xs=>simp only[Ob.ren,Ob.lt]; exact AV.renAll_lt h
 | row=>rfl
 | arow e sz rows =>
  simp only[Ob.ren,Ob.lt]
  exact zHP fun q y hq=>by
   rw[zFc,List.getElem?_map]at hq;obtain⟨z,_,rfl⟩:=Option.map_eq_some_iff.1 hq;exact AV.ren_lt h
theorem Conc.handed (hc:Conc c G β σ a w){ks:List Nat}{os:List Ob}{os':List (Option Ob)} (hd:ks.Nodup) (hks:∀ (i:Nat) k,ks[i]? = some k->∃ ob,σ.hp k=some ob) (hlen:os.length=ks.length)
  {G':Nat->Prop} {β1 β':Nat->Value} {w':World} (hβ:∀ (i:Nat) k,ks[i]? = some k->β1 i=β k) (h1:Fr (zEP c.P w β1 os.length G 0).X w w') (h2:∀ b,G b->G' b) (h3:∀ b,G' b->G b∨(zEP c.P w β1 os.length G 0).mine b) (h4:∀ b,G' b->b<w'.heap.size)
  (h5:os.length<=os'.length) (h6:zPN (zEP c.P w β1 os.length G 0) G' w' β' os') (h7:∀ (i:Nat) ob,i<os.length->os'[i]? = some (some ob)->β' i=β1 i) :
  ∃ β2,(∀ k j,look k (zDV ks σ.nx 0 os')=some j->β2 j=β' k)/\(∀ k,k<σ.nx->β2 k=β k)/\Conc c G' β2 (handed σ ks os') a w':=by
 have hX:∀ b,(zEP c.P w β1 os.length G 0).X b->∃ k ob,k∈ks/\σ.hp k=some ob/\blk (β k)=some b:=fun b ⟨i,hi,hb⟩=>by
  have hk:=List.getElem?_eq_getElem (l:=ks) (by rw[← hlen]; exact hi)
  obtain⟨ob,ho⟩:=hks i _ hk;exact⟨ks[i]'(by rw[← hlen]; exact hi),ob,List.getElem_mem _,ho,by rw[← hβ i _ hk]; exact hb⟩
 have hXG:∀ b,G b->¬ (zEP c.P w β1 os.length G 0).X b:=fun b hg hx=>by
  obtain⟨k,ob,_,ho,hb⟩:=hX b hx;exact(row_block (hc.hp k ob ho) b hb).1 hg
 have hmine:∀ b,(zEP c.P w β1 os.length G 0).mine b->c.mine b:=fun b hm=>by
  rcases hm with hm | hm
  ·obtain⟨k,ob,_,ho,hb⟩:=hX b hm;exact(row_block (hc.hp k ob ho) b hb).2
  ·exact .inr (Nat.le_trans hc.fr.size hm)
 have hksl:∀ (i:Nat) k,ks[i]? = some k->k<σ.nx:=fun i k hk=>by
  obtain⟨ob,ho⟩:=hks i k hk;exact(hc.hplt k ob ho).1
 have keep:Keep G G' w w':=⟨h2,fun b hb=>h1.old b (hc.lt b hb) (hXG b hb)⟩
 refine⟨fun k=>if k<σ.nx then β k else β' (ks.length+(k - σ.nx)),fun k j hkj=>?_,fun k hk=>if_pos hk,?_⟩
 ·obtain⟨_,⟨ob,hob⟩,rfl⟩:=zEh hkj;rw[Nat.sub_zero]at hob;dsimp only
  by_cases hi:k<ks.length
  ·have hb:=zDy (ks:=ks) (nx:=σ.nx) hi;rw[if_pos (hksl k _ hb),h7 k ob (by rw[hlen]; exact hi) hob,hβ k _ hb]
  ·rw[zD9 (by omega),if_neg (by omega)]
   congr 1; omega
 ·have hβ2:∀ k,k<σ.nx->(fun k=>if k<σ.nx then β k else β' (ks.length+(k - σ.nx))) k=β k:=fun k hk=>if_pos hk
  have hbk:∀ j,j<os'.length->zEu ks σ.nx j<σ.nx+(os'.length - ks.length):=fun j hj=>by
   by_cases hi:j<ks.length
   ·have:=hksl j _ (zDy (ks:=ks) (nx:=σ.nx) hi); omega
   ·rw[zD9 (by omega)]; omega
  have hal:∀ j ob0,os'[j]? = some (some ob0)->(if zEu ks σ.nx j<σ.nx then β (zEu ks σ.nx j) else β' (ks.length+(zEu ks σ.nx j - σ.nx)))=β' j:=fun j ob0 hj=>by
   by_cases hi:j<ks.length
   ·have hb:=zDy (ks:=ks) (nx:=σ.nx) hi;rw[if_pos (hksl j _ hb),h7 j ob0 (by rw[hlen]; exact hi) hj,hβ j _ hb]
   ·rw[zD9 (by omega),if_neg (by omega)]
    congr 1; omega
  have hinj:∀ i j,i<os'.length->j<os'.length->zEu ks σ.nx i=zEu ks σ.nx j->i=j:=fun i j hi hj e=>by
   by_cases h8:i<ks.length <;> by_cases h9:j<ks.length
   ·have q1:=zDy (ks:=ks) (nx:=σ.nx) h8;have q2:=zDy (ks:=ks) (nx:=σ.nx) h9;rw[← e,← q1]at q2;exact(List.getElem?_inj h8 hd).1 q2.symm
   ·have q1:=hksl i _ (zDy (ks:=ks) (nx:=σ.nx) h8)
    rw[e,zD9 (by omega)]at q1; omega
   ·have q1:=hksl j _ (zDy (ks:=ks) (nx:=σ.nx) h9)
    rw[← e,zD9 (by omega)]at q1; omega
   ·rw[zD9 (by omega),zD9 (by omega)]at e; omega
  have hold:∀ k ob,σ.hp k=some ob->(∀ j,j<os'.length->k ≠ zEu ks σ.nx (0+j))->k ∉ ks:=fun k ob _ hn hm=>by
   obtain⟨i,hi,rfl⟩:=List.getElem_of_mem hm;have hil:i<os'.length :=(by omega);have:=zDy (ks:=ks) (nx:=σ.nx) hi;rw[List.getElem?_eq_getElem hi]at this;refine hn i hil ?_;rw[Nat.zero_add]
   exact(Option.some.inj this)
  have hoth:∀ k ob,σ.hp k=some ob->k ∉ ks->∀ b,blk (β k)=some b->w'.heap[b]? = w.heap[b]?/\¬ G' b/\¬ (zEP c.P w β1 os.length G 0).mine b:=fun k ob hk hn b hb=>by
   have hx:¬ (zEP c.P w β1 os.length G 0).X b:=fun hx=>by
    obtain⟨k2,ob2,q1,q2,q3⟩:=hX b hx;exact hc.inj k k2 ob ob2 hk q2 (fun e=>hn (e ▸ q1)) b hb q3
   have hlt:=hc.blk_lt hk hb;have hm:¬ (zEP c.P w β1 os.length G 0).mine b:=fun hm=>hm.elim hx (fun h=>by simp only[zEP]at h; omega)
   exact⟨h1.old b hlt hx,fun hg=>(h3 b hg).elim (row_block (hc.hp k ob hk) b hb).1 hm,hm⟩
  refine { defers:=hc.defers,size:=hc.size,env:=fun t=>((hc.env t).keep keep).beta hβ2 (hc.envlt t),envlt:=fun t=>AV.lt_mono (Nat.le_add_right _ _) (hc.envlt t),hp:=fun k ob hk=>?_,hplt:=fun k ob hk=>?_,inj:=fun k k2 ob ob2 hk hk2 hne b hb hb2=>?_,lt:=h4,sub:=fun b hb=>h2 b (hc.sub b hb),new:=fun b hb=>(h3 b hb).elim (hc.new b) (fun h=>.inr (hmine b h)),fr:=?_,stay:=⟨Nat.le_trans hc.stay.1 (Nat.le_add_right _ _),fun k hk=>by rw[if_pos (Nat.lt_of_lt_of_le hk hc.stay.1)]; exact hc.stay.2 k hk⟩,glob:=hc.glob.keep keep }
  ·rcases zFm hk with ⟨j,ob0,q1,q2,rfl⟩ | ⟨q1,q2⟩
   ·rw[Nat.zero_add]at q2;subst q2;rw[hal j ob0 q1]
    refine ObAt.ren (fun i k hik=>?_) (fun b _ hm=>hmine b hm) (h6.1 j ob0 q1).1;obtain⟨_,⟨ob,hob⟩,rfl⟩:=zEh hik;exact hal i ob (by simpa using hob)
   ·have hn:=hold k ob q1 q2;have hkl:=(hc.hplt k ob q1)
    rw[if_pos hkl.1]
    have ho:=hc.hp k ob q1;cases ob with
    | box cells =>
     obtain⟨b',e',cur,r1,r2,r3,r4,r5,r6⟩:=ho;obtain⟨s1,s2,_⟩:=hoth k _ q1 hn b' (by rw[r1]; rfl)
     exact⟨b',e',cur,r1,by rw[s1]; exact r2,s2,r4,(r5.keep keep).beta hβ2 (by simpa [Ob.lt] using hkl.2),r6⟩
    | row e' sz rows =>
     obtain⟨r0,r0',r1⟩:=ho;refine⟨r0,r0',r1.imp id ?_⟩
     rintro⟨b',cap,cur,r1,r2,r3,r4,r5,r6,r7⟩
     obtain⟨s1,s2,_⟩:=hoth k _ q1 hn b' (by rw[r1]; rfl)
     exact⟨b',cap,cur,r1,r2,r3,r4.to (fun x hx=>by rw[s1]; exact hx),s2,r6,fun i s hi=>let ⟨u,hu,hr⟩:=r7 i s hi; ⟨u,hu,hr.keep keep⟩⟩
    | arow e' sz rows=>exact ho.moveA (fun b _ hb hx=>by rw[(hoth k _ q1 hn b hb).1]; exact hx) (fun b _ hb _ _=>(hoth k _ q1 hn b hb).2.1) (fun _ _ h=>h) (fun i x u hx hr=>(hr.keep keep).beta hβ2 (zGu (by simpa [Ob.lt] using hkl.2) hx))
  ·rcases zFm hk with ⟨j,ob0,q1,q2,rfl⟩ | ⟨q1,q2⟩
   ·rw[Nat.zero_add]at q2;subst q2;have hj:j<os'.length:=(List.getElem?_eq_some_iff.1 q1).1;exact⟨hbk j hj,Ob.ren_lt fun i k hik=>by obtain⟨_,⟨ob,hi⟩,rfl⟩:=zEh hik; exact hbk i (by simpa using (List.getElem?_eq_some_iff.1 hi).1)⟩
   ·obtain⟨r1,r2⟩:=hc.hplt k ob q1;refine⟨Nat.lt_of_lt_of_le r1 (Nat.le_add_right _ _),?_⟩
    cases ob with
    | box cells=>exact AV.ltAll_mono (Nat.le_add_right _ _) (by simpa [Ob.lt] using r2)
    | row=>rfl
    | arow=>exact AV.ltAll_mono (Nat.le_add_right _ _) (by simpa [Ob.lt] using r2)
  ·rcases zFm hk with ⟨j,ob0,q1,q2,rfl⟩ | ⟨q1,q2⟩ <;> rcases zFm hk2 with ⟨j2,ob02,q12,q22,rfl⟩ | ⟨q12,q22⟩
   ·rw[Nat.zero_add]at q2 q22;subst q2; subst q22
    rw[hal j ob0 q1]at hb;rw[hal j2 ob02 q12]at hb2;exact h6.2 j j2 ob0 ob02 q1 q12 (fun e=>hne (by rw[e])) b hb hb2
   ·rw[Nat.zero_add]at q2;subst q2;rw[hal j ob0 q1]at hb;rw[if_pos (hc.hplt k2 ob2 q12).1]at hb2;exact(hoth k2 ob2 q12 (hold k2 ob2 q12 q22) b hb2).2.2 (row_block (h6.1 j ob0 q1).1 b hb).2
   ·rw[Nat.zero_add]at q22;subst q22;rw[hal j2 ob02 q12]at hb2;rw[if_pos (hc.hplt k ob q1).1]at hb;exact(hoth k ob q1 (hold k ob q1 q2) b hb).2.2 (row_block (h6.1 j2 ob02 q12).1 b hb2).2
   ·rw[if_pos (hc.hplt k ob q1).1]at hb;rw[if_pos (hc.hplt k2 ob2 q12).1]at hb2;exact hc.inj k k2 ob ob2 q1 q12 hne b hb hb2
  ·refine⟨h1.os.trans hc.fr.os,h1.tape.trans hc.fr.tape,h1.output.trans hc.fr.output,Nat.le_trans hc.fr.size h1.size,fun b hb hx=>(h1.old b (Nat.lt_of_lt_of_le hb hc.fr.size) (fun hm=>?_)).trans (hc.fr.old b hb hx)⟩
   rcases hmine b (.inl hm) with h | h
   ·exact hx h
   ·omega
theorem Conc.heaped (hc:Conc c G β σ a w){G':Nat->Prop}{β':Nat->Value}{hp':Nat->Option Ob}{n':Nat}{w':World} (h0:σ.nx<=n') (h1:Fr (zC4 c.P w β σ.hp σ.nx G 0).X w w') (h2:∀ b,G b->G' b)
  (h3:∀ b,G' b->G b∨(zC4 c.P w β σ.hp σ.nx G 0).mine b) (h4:∀ b,G' b->b<w'.heap.size) (h5:HpAt (zC4 c.P w β σ.hp σ.nx G 0) G' w' β' hp' n') (h6:∀ k,k<σ.nx->β' k=β k):Conc c G' β' ⟨σ.env,hp',n'⟩ a w':=by
 have hm:∀ b,(zC4 c.P w β σ.hp σ.nx G 0).mine b->c.mine b:=fun b hm=>by
  rcases hm with ⟨k,ob,q1,q2⟩ | hm
  ·exact(row_block (hc.hp k ob q1) b q2).2
  ·exact .inr (Nat.le_trans hc.fr.size hm)
 have k:Keep G G' w w':=⟨h2,fun b hb=>h1.old b (hc.lt b hb) (fun⟨k,ob,q1,q2⟩=>(row_block (hc.hp k ob q1) b q2).1 hb)⟩
 refine { defers:=hc.defers,size:=hc.size,env:=fun t=>((hc.env t).keep k).beta h6 (hc.envlt t),envlt:=fun t=>AV.lt_mono h0 (hc.envlt t),hp:=fun k ob hk=>(h5.obs k ob hk).mv fun b _ hb=>hm b hb,hplt:=h5.lts,inj:=h5.inj,lt:=h4,sub:=fun b hb=>h2 b (hc.sub b hb),new:=fun b hb=>(h3 b hb).elim (hc.new b) (fun h=>.inr (hm b h)),fr:=?_,stay:=⟨Nat.le_trans hc.stay.1 h0,fun k hk=>(h6 k (Nat.lt_of_lt_of_le hk hc.stay.1)).trans (hc.stay.2 k hk)⟩,glob:=hc.glob.keep k }
 refine⟨h1.os.trans hc.fr.os,h1.tape.trans hc.fr.tape,h1.output.trans hc.fr.output,Nat.le_trans hc.fr.size h1.size,fun b hb hx=>(h1.old b (Nat.lt_of_lt_of_le hb hc.fr.size) (fun hx'=>?_)).trans (hc.fr.old b hb hx)⟩
 rcases hm b (.inl hx') with h | h
 ·exact hx h
 ·omega
theorem Conc.hpAt (hc:Conc c G β σ a w):HpAt (zC4 c.P w β σ.hp σ.nx G 0) G w β σ.hp σ.nx :=
 ⟨fun k ob hk=>(hc.hp k ob hk).mv fun b hb _=>.inl ⟨k,ob,hk,hb⟩,hc.hplt,hc.inj⟩
theorem zMo {T:Nat->Option TI}{σ:St} (h:∀ t,(σ.env t).lt σ.nx=true):∀ (xs:List Operand) (ts:List Nat),AV.ltAll σ.nx (opds T σ.env xs ts)=true
 | [],_=>rfl
 | x::xs,ts=>by
  simp only[opds,AV.ltAll,Bool.and_eq_true]
  exact⟨AV.deep_lt (zNK h T _ x),zMo h xs ts.tail⟩
theorem zJZ {n:Nat}:∀ {xs ys:List AV},AV.ltAll n xs=true->AV.ltAll n ys=true->AV.ltAll n (xs++ys)=true
 | [],_,_,h=>h
 | x::xs,ys,h1,h2=>by
  simp only[List.cons_append,AV.ltAll,Bool.and_eq_true]at h1 ⊢;exact⟨h1.1,zJZ h1.2 h2⟩
theorem AVals.setrow {G:Nat->Prop}{w:World}{β:Nat->Value}{k j:Nat}{v:Value} (hv:β j=v) (ho:∃ o n c,v = .slice o n c):∀ {xs:List AV}{vs:List Value},AVals G w β xs vs->vs[k]? = some v->AVals G w β (xs.set k (.orow j)) vs:=fun {xs vs} h hk =>
 AVals.mk (by rw[List.length_set]; exact h.length) fun i x u hx hu=>by
  rw[List.getElem?_set]at hx;split at hx
  ·rename_i e
   subst e;split at hx
   ·cases hx;rw[hk]at hu; cases hu
    simp only[AVal]
    exact⟨hv.symm,ho⟩
   ·cases hx
  ·obtain⟨u',h1,h2⟩:=h.get hx;rw[hu]at h1; cases h1; exact h2
theorem zNv {T:Nat->Option TI} (hc:Conc c G β σ a w){nil:Option Nat}{o:Oper}{xs xs1:List AV}{σ1:St}{vs:List Value} (hargs:AVals G w β xs vs) (hlt:AV.ltAll σ.nx xs=true)
  (hvs:∀ cal args ts (k:Nat) x,o.op = .call { callee:=cal,args:=args,argTypes:=ts }->args.toList[k]? = some x->zBo x=true->vs[k]? = some (a.eval x)) (h:zD7 T nil o xs σ=(xs1,σ1)) :
  ∃ β1,Conc c G β1 σ1 a w/\AVals G w β1 xs1 vs:=by
 unfold zD7 at h;split at h
 ·cases h; exact⟨β,hc,hargs⟩
 ·rename_i k
  split at h
  ·rename_i cal args ts ho
   split at h
   ·rename_i x e j hx he
    split at h
    ·rename_i hn hs
     cases h;have hv:=hvs _ _ _ k x ho hx hn;have hy:a.eval x = .slice none 0 0:=by
      unfold zBo at hn;split at hn
      ·rfl
      ·cases hn
     rw[hy]at hv;obtain⟨β',b1,b2,b3⟩:=hc.make (ob:=.row e j.size []) (v:=.slice none 0 0) ⟨fun r hr=>(by cases hr),Nat.le_of_ble_eq_true hs,.inl ⟨rfl,rfl⟩⟩ rfl (fun _ _ _ b hb=>by cases hb)
     exact⟨β',b3,AVals.setrow b2 ⟨_,_,_,rfl⟩ (hargs.beta b1 hlt) hv⟩
    ·cases h; exact⟨β,hc,hargs⟩
   ·cases h; exact⟨β,hc,hargs⟩
  ·cases h; exact⟨β,hc,hargs⟩
theorem zJN {T:Nat->Option TI}{Γ:Nat->Option zAp} (hT:TOk c.P T) (hΓ:∀ f s,Γ f=some s->PSound c.P f s) (hc:Conc c G β σ a w){o:Oper}{own:Bool}{K0:AV->St->Prop} (h:zEL T Γ own o σ K0){K:Act->World->Prop}{Q:Exit->Act->World->Prop}
  (hK:∀ x σ' G' β' w' v,K0 x σ'->Conc c G' β' σ' a w'->AVal G' w' β' x v->x.lt σ'.nx=true->K (a.put o.dst v) w'):o.wp c.P a w K Q:=by
 have hρ:∀ ty x,AVal G w β (opd T σ.env ty x) (a.eval x):=zFH hc T
 unfold zEL at h;split at h
 ·unfold zF6 at h;split at h
  ·rename_i t y ho
   split at h
   ·rename_i k sz i off e
    split at h
    ·rename_i e' sz' rows hh
     split at h
     ·rename_i hsz
      obtain rfl:=Nat.eq_of_beq_eq_true hsz;obtain⟨hi,row,hrow,h⟩:=h;split at h
      ·rename_i x hl
       rw[← hrow]at hl;exact zR2 hT hc ho e hh hi hl fun v h1 h2=>hK x σ G β w v h hc h1 h2
      ·exact h.elim
     ·exact h.elim
    ·rename_i e' sz' rows hh
     split at h
     ·rename_i hsz
      obtain rfl:=Nat.eq_of_beq_eq_true hsz;obtain⟨hi,row,hrow,h⟩:=h;split at h
      ·rename_i x hl
       rw[← hrow]at hl;exact zQ8 hT hc ho e hh hi hl fun v h1 h2=>hK x σ G β w v h hc h1 h2
      ·exact h.elim
     ·exact h.elim
    ·exact h.elim
   ·exact h.elim
  ·exact h.elim
 ·rename_i g xs hraw
  unfold zA6 at hraw;split at hraw
  ·rename_i f args ts ho
   have hpre:∃ vs:List Value,AVals G w β xs vs/\AV.ltAll σ.nx xs=true/\(∀ cal args ts (k:Nat) x,o.op = .call { callee:=cal,args:=args,argTypes:=ts }->args.toList[k]? = some x->zBo x=true->vs[k]? = some (a.eval x))/\∀ (hcall:∀ args w,(callFunc g args).run c.P w = .ok (.enter g args) w),(execOp a.eval o).run c.P w = .ok (.enter g vs.toArray) w:=by
    have hargs:=zMp hρ args.toList ts.toList;split at hraw
    ·rename_i g' e
     cases hraw;have hfe:=hρ 0 f;rw[e]at hfe;simp only[AVal,Rep]at hfe;refine⟨_,hargs,zMo hc.envlt _ _,fun cal args' ts' k x ho' hx _=>by rw[ho]at ho'; cases ho'; rw[List.getElem?_map,hx]; rfl,fun hcall=>?_⟩
     have e:(args.toList.map a.eval).toArray=args.map a.eval:=Array.ext' (by simp)
     rw[e]
     simp[execOp,ho,resolve,hfe,Deferred.ofValue,invoke,hcall]
    ·rename_i g' caps e
     have hfe:=hρ 0 f;rw[e]at hfe;simp only[AVal]at hfe;obtain⟨cs,hfe,hcs⟩:=hfe;have hcl:(opd T σ.env 0 f).lt σ.nx=true:=zNK hc.envlt T 0 f;rw[e]at hcl;simp only[AV.lt]at hcl;split at hraw
     ·rename_i hb
      cases hraw;rw[zPX hb]at hfe;refine⟨args.toList.map a.eval++cs,hargs.append hcs,zJZ (zMo hc.envlt _ _) hcl,fun cal args' ts' k x ho' hx _=>by
       rw[ho]at ho'; cases ho'
       have hk:k<(args.toList.map a.eval).length :=(by rw[List.length_map]; exact(List.getElem?_eq_some_iff.1 hx).1);rw[List.getElem?_append_left hk,List.getElem?_map,hx]; rfl,fun hcall=>?_⟩
      have e:(args.toList.map a.eval++cs).toArray=args.map a.eval++cs.toArray:=Array.ext' (by simp)
      rw[e]
      simp[execOp,ho,resolve,hfe,Deferred.ofValue,invoke,hcall]
     ·rename_i hb
      split at hraw
      ·rename_i hnn
       have hj:=Prod.mk.inj (Option.some.inj hraw)
       have hj1:=hj.1;have hj2:=hj.2;subst hj1;subst hj2;rw[zSx hb]at hfe;refine⟨cs++args.toList.map a.eval,hcs.append hargs,zJZ hcl (zMo hc.envlt _ _),fun cal args' ts' k x ho' hx hn=>by
        rw[ho]at ho'; cases ho'
        have:=List.all_eq_true.1 hnn x (List.mem_of_getElem? hx)
        rw[hn]at this;exact absurd this (by decide),fun hcall=>?_⟩
       have e:(cs++args.toList.map a.eval).toArray=cs.toArray++args.map a.eval:=Array.ext' (by simp)
       rw[e]
       simp[execOp,ho,resolve,hfe,Deferred.ofValue,invoke,hcall]
      ·cases hraw
    ·cases hraw
   obtain⟨vs,hargs,hxl,hvs,hex⟩:=hpre
   ·clear hraw
    split at h
    ·exact h.elim
    ·rename_i s hs
     obtain⟨hcall,zLe,hown,hheap⟩:=hΓ g s hs;have hexec:=hex hcall;unfold Oper.wp;rw[hexec]
     simp only[Oper.upon_enter]
     split at h
     ·rename_i R hR
      obtain⟨Φ,hΦ,h⟩:=h;refine(hheap R hR G w β xs vs σ.hp σ.nx Φ hc.lt hc.glob hargs hxl hc.hpAt hΦ).mono fun e w' he=>?_
      obtain⟨v,G',β',x,hp',n',rfl,q1,q2,q3,q4,q5,q6,q7,q8,q9,q10⟩:=he;exact hK x _ G' β' w' v (h x hp' n' q1) (hc.heaped q2 q3 q4 q5 q6 q9 q10) q7 q8
     split at h
     ·split at h
      ·exact h.elim
      ·rename_i hp
       obtain⟨r,hr,h⟩:=h;have hl:=AVals.lend hc (ks:=AV.keysAll xs) (fun _ h=>h) hargs;refine(zLe (zI6 G β σ (AV.keysAll xs)) w _ _ r (hc.giveAll (AV.keysAll xs)).lt (hc.giveAll (AV.keysAll xs)).glob hp (AVals.pers hp hl) hr).mono fun e w' he=>?_
       obtain⟨v,G',rfl,h1,h2⟩:=he;cases hfl:r.flat with
       | true =>
        rw[hfl]at h;dsimp only at h;split at h
        ·exact h.elim
        ·rename_i x σ' hx
         have hext:Ext G G w w':=⟨h1.os,h1.tape,h1.output,h1.size,h1.old,fun _ h=>h,fun _ h=>.inl h,fun b hb=>Nat.lt_of_lt_of_le (hc.lt b hb) h1.size⟩
         exact zHd hc hext (RetAt.flat (G1:=G) (fun b hb=>h1.sub b (.inl hb)) hfl h2) hx fun G' β' w'' v' e1 e2 h3 h4 h5=>by subst e1; subst e2; exact hK x σ' G' β' _ _ h h3 h4 h5
       | false =>
        rw[hfl]at h;dsimp only at h;split at h
        ·exact h.elim
        ·rename_i x σ' hx
         exact zHd (hc.giveAll (AV.keysAll xs)) h1 h2 hx fun G' β' w'' v' e1 e2 h3 h4 h5=>by subst e1; subst e2; exact hK x σ' G' β' _ _ h h3 h4 h5
     ·rename_i R hR
      cases hna:zD7 T s.nil o xs σ with
      | mk xs1 σ1 =>
      rw[hna]at h;dsimp only at h;obtain⟨β1,hc1,hargs1⟩:=zNv hc hargs hxl hvs hna
      clear hna hargs hxl hc hρ
      revert hc1 hargs1 h
      generalize σ1=σ;generalize β1=β;generalize xs1=xs;intro h hc hargs;generalize zAn σ.hp 64 (AV.keysAll xs) []=ks at h;split at h
      ·rename_i os hd hos
       obtain⟨x,os',hR',h⟩:=h;obtain⟨l1,l2⟩:=zNz hos;have hb:∀ k j,look k (zipI 0 ks)=some j->(fun i=>β (ks.getD i 0)) j=β k:=fun k j hkj=>by
        obtain⟨_,h2⟩:=zJY hkj;simp only[Nat.sub_zero]at h2;simp[h2]
       have hlt:∀ k j,look k (zipI 0 ks)=some j->j<os.length:=fun k j hkj=>by
        obtain⟨_,h2⟩:=zJY hkj;rw[l1]; simpa using (List.getElem?_eq_some_iff.1 h2).1
       have hget:∀ (i:Nat) k,ks[i]? = some k->(fun i=>β (ks.getD i 0)) i=β k:=fun i k hk=>by simp[hk]
       have hnod:=zGV hd;have hobs:zPN (zEP c.P w (fun i=>β (ks.getD i 0)) os.length G 0) G w (fun i=>β (ks.getD i 0)) (os.map some):=by
        have hk:∀ (i:Nat) ob,(os.map some)[i]? = some (some ob)->∃ k o,ks[i]? = some k/\σ.hp k=some o/\ob=o.ren (zipI 0 ks):=fun i ob hi=>by
         rw[List.getElem?_map]at hi;obtain⟨ob',hi',e⟩:=Option.map_eq_some_iff.1 hi;cases e;have hil:i<ks.length :=(by rw[← l1]; exact(List.getElem?_eq_some_iff.1 hi').1);obtain⟨o,q1,q2⟩:=l2 i _ (List.getElem?_eq_getElem hil)
         rw[hi']at q2; cases q2
         exact⟨_,o,List.getElem?_eq_getElem hil,q1,rfl⟩
        refine⟨fun i ob hi=>?_,fun i j ob ob' hi hj hne b hb1 hb2=>?_⟩
        ·obtain⟨k,o,q1,q2,rfl⟩:=hk i ob hi;rw[hget i k q1]
         refine⟨ObAt.ren hb (fun b hb' _=>.inl ⟨i,by rw[l1]; exact(List.getElem?_eq_some_iff.1 q1).1,by have:=hget i k q1; dsimp only at this ⊢; rw[this]; exact hb'⟩) (hc.hp k o q2),?_⟩
         rw[List.length_map]
         exact Ob.ren_lt hlt
        ·obtain⟨k,o,q1,q2,rfl⟩:=hk i ob hi;obtain⟨k',o',q1',q2',rfl⟩:=hk j ob' hj;rw[hget i k q1]at hb1;rw[hget j k' q1']at hb2;refine hc.inj k k' o o' q2 q2' (fun e=>hne ?_) b hb1 hb2;subst e;exact(List.getElem?_inj (List.getElem?_eq_some_iff.1 q1).1 hnod).1 (q1.trans q1'.symm)
       refine(hown R hR G w _ _ _ os x os' hc.lt hc.glob (AVals.ren hb hargs) (AV.renAll_lt hlt) hobs hR').mono fun e w' he=>?_
       obtain⟨v,G',β',rfl,h1,h2,h3,h4,h5,h6,h7,h8,h9⟩:=he;obtain⟨β2,r1,r2,r3⟩:=hc.handed hnod (fun i k hk=>(l2 i k hk).imp fun o h=>h.1) l1 hget h1 h2 h3 h4 h7 h8 h9;exact hK _ _ G' β2 w' v h r3 (AVal.ren r1 h5) (AV.ren_lt fun i k hik=>by
        obtain⟨_,⟨ob,hob⟩,rfl⟩:=zEh hik;rw[Nat.sub_zero]at hob;have hj:i<os'.length:=(List.getElem?_eq_some_iff.1 hob).1;show zEu ks σ.nx i<σ.nx+(os'.length - ks.length)
        by_cases hi:i<ks.length
        ·have hb':=zDy (ks:=ks) (nx:=σ.nx) hi;obtain⟨o,q1,_⟩:=l2 i _ hb';have:=(hc.hplt _ o q1).1; omega
        ·rw[zD9 (by omega)]; omega)
      ·exact h.elim
  ·cases hraw
end
theorem zPV {x:AV}{n:Nat} (h:x.lt n=true):AV.ltAll n x.cellsA=true:=by
 cases x <;> simp only[AV.cellsA,AV.nrm,AV.ltAll,Bool.and_true] <;> first | exact h | rfl | simpa only[AV.lt] using h
theorem zIR {n:Nat}{xs ys:List AV} (h1:AV.ltAll n xs=true) (h2:AV.ltAll n ys=true):AV.ltAll n (xs++ys)=true :=
 zCO fun q y hq=>by
  rw[List.getElem?_append]at hq;split at hq
  ·exact zAR h1 hq
  ·exact zAR h2 hq
theorem zLj {n:Nat}{xs:List AV} (h:AV.ltAll n xs=true) (k:Nat):AV.ltAll n (xs.take k)=true :=
 zCO fun q y hq=>by
  rw[List.getElem?_take]at hq;split at hq
  ·exact zAR h hq
  ·cases hq
theorem zLi {n:Nat}{xs:List AV} (h:AV.ltAll n xs=true) (k:Nat):AV.ltAll n (xs.drop k)=true :=
 zCO fun q y hq=>by
  rw[List.getElem?_drop]at hq;exact zAR h hq
theorem zOR {T:Nat->Option TI}{env:Nat->AV}{n:Nat} (h:∀ ty x,(opd T env ty x).lt n=true){place:Nat->Option (Nat×Nat)}:∀ {parts:List (Nat×Operand)}{cells xs:List AV},zI5 T env place cells parts=some xs->AV.ltAll n cells=true->AV.ltAll n xs=true
 | [],cells,xs,hf,hc=>by simp only[zI5,Option.some.injEq]at hf; subst hf; exact hc
 | (j,x)::r,cells,xs,hf,hc=>by
  simp only[zI5,zCf]at hf;split at hf
  ·cases hf
  ·split at hf
   ·cases hf
   ·split at hf
    ·exact zOR h hf (zIR (zIR (zLj hc _) (zPV (h _ _))) (zLi hc _))
    ·cases hf
theorem zO0 {T:Nat->Option TI}{t:Nat}{xs:List AV}{off n:Nat}{y:AV} (h:zPC T t xs off=some y) (hx:AV.ltAll n xs=true):y.lt n=true:=by
 unfold zPC at h;split at h
 ·cases h
 ·split at h
  ·split at h
   ·cases h; simp only[AV.lt]; exact zLj (zLi hx _) _
   ·cases h
  ·exact zAR hx h
theorem zOY {x y:AV}{off n:Nat} (h:zKR x off=some y) (hx:x.lt n=true):y.lt n=true:=by
 unfold zKR at h;split at h <;> cases h <;> first | rfl | (simp only[AV.lt]at hx ⊢; exact hx)
theorem zQs {T:Nat->Option TI}{t f n:Nat}{x y:AV}{φ:Option Prop} (h:zNP T t x f=some (φ,y)) (hx:x.lt n=true):y.lt n=true:=by
 unfold zNP at h;split at h
 ·simp only[AV.lt]at hx;split at h
  ·split at h
   ·split at h
    ·rename_i hp; cases h; exact zO0 hp hx
    ·cases h
   ·cases h
  ·cases h
 ·cases h
theorem zQt {T:Nat->Option TI}{t n:Nat}{x i y:AV}{φ:Option Prop} (h:zNQ T t x i=some (φ,y)) (hx:x.lt n=true):y.lt n=true:=by
 unfold zNQ at h;split at h
 ·split at h <;> cases h; rfl
 ·simp only[AV.lt]at hx;split at h
  ·split at h
   ·split at h
    ·rename_i hp; cases h; exact zO0 hp hx
    ·cases h
   ·cases h
  ·cases h
 ·cases h
theorem zMr {T:Nat->Option TI}{t n:Nat}{x i y:AV}{φ:Option Prop} (h:zEj T t x i=some (φ,y)) (hx:x.lt n=true):y.lt n=true:=by
 unfold zEj at h;split at h
 ·split at h
  ·split at h
   ·split at h <;> cases h; rfl
   ·cases h
  ·split at h
   ·split at h
    ·rename_i hp; cases h; exact zOY hp hx
    ·cases h
   ·cases h
  ·cases h
 ·cases h
theorem zO1 {T:Nat->Option TI}{own:Bool}{o:Oper}{σ:St}{φ:Option Prop}{x:AV} (hl:∀ t,(σ.env t).lt σ.nx=true) (h:zBw T own o σ.env=some (φ,x)):x.lt σ.nx=true:=by
 have ho:∀ ty x,(opd T σ.env ty x).lt σ.nx=true:=zNK hl T
 unfold zBw at h;split at h
 case h_1=>split at h <;> cases h; exact AV.nrm_lt (ho _ _)
 case h_2=>split at h <;> cases h; exact AV.nrm_lt (ho _ _)
 case h_3=>split at h <;> cases h <;> exact AV.nrm_lt (ho _ _)
 case h_4 =>
  split at h
  ·cases h
  ·split at h <;> cases h; rfl
 case h_5 =>
  repeat' split at h
  all_goals cases h
  rfl
 case h_6 =>
  unfold zOZ at h
  repeat' split at h
  all_goals cases h
  all_goals (rename_i hf; simp only[AV.lt]; exact zOR ho hf (zKx _))
 case h_7 =>
  repeat' split at h
  all_goals cases h
  rename_i hf; exact zL4 hf
 case h_8 y _ =>
  have:=ho 0 y;split at h <;> cases h <;> first | rfl | (rename_i e; rw[e]at this; exact this)
 case h_9 =>
  unfold pBin at h;split at h
  ·rename_i r0 h0
   cases h;unfold zRf pInt pStr at h0
   repeat' split at h0
   all_goals first | (cases h0; rfl) | cases h0
  ·unfold pArr at h
   repeat' split at h
   all_goals first | (cases h; rfl) | cases h
 case h_10 =>
  unfold pUn at h;split at h <;> cases h <;> rfl
 case h_11 =>
  unfold zRg at h
  repeat' split at h
  all_goals first | (cases h; rfl) | cases h
 case h_12 =>
  have hm:∀ (l:List Operand),AV.ltAll σ.nx (l.map (opd T σ.env 0))=true:=fun l=>zCO fun q y hq=>by
   rw[List.getElem?_map]at hq;obtain⟨z,_,rfl⟩:=Option.map_eq_some_iff.1 hq;exact ho _ _
  split at h
  ·cases h; rfl
  ·split at h
   ·cases h;simp only[AV.lt]
    exact hm _
   ·cases h
  ·have hx:=(Prod.mk.inj (Option.some.inj h)).2;rw[← hx]
   simp only[AV.lt]
   exact hm _
  ·cases h
 case h_13 =>
  split at h
  ·split at h
   ·unfold zMs at h
    repeat' split at h
    all_goals first | (cases h; rfl) | cases h
   ·unfold zKe at h
    repeat' split at h
    all_goals first | (cases h; rfl) | cases h
  ·unfold zKe at h
   repeat' split at h
   all_goals first | (cases h; rfl) | cases h
 case h_14 =>
  unfold zFq at h
  repeat' split at h
  all_goals first | (cases h; rename_i hp; exact zOY hp (ho _ _)) | cases h
 case h_15 t y f _=>exact zQs h (ho t y)
 case h_16=>exact zMr h (AV.nrm_lt (ho _ _))
 case h_17=>exact zQt h (ho _ _)
 case h_18 y i _ =>
  have:=ho 0 y;split at h
  ·rename_i xs e
   split at h
   ·rename_i hz
    cases h;rw[e]at this;simp only[AV.lt]at this;exact zAR this hz
   ·cases h
  ·cases h
 case h_19 =>
  split at h
  ·unfold pLen at h;split at h <;> first | (cases h; rfl) | cases h
  ·cases h
 case h_20 =>
  unfold pMin at h
  repeat' split at h
  all_goals first | (cases h; rfl) | cases h
 case h_21 =>
  unfold pMin at h
  repeat' split at h
  all_goals first | (cases h; rfl) | cases h
 case h_22 =>
  split at h
  ·unfold zQr at h
   repeat' split at h
   all_goals first | (cases h; rfl) | cases h
  ·cases h
 case h_23 =>
  split at h
  ·unfold pCap at h
   repeat' split at h
   all_goals first | (cases h; rfl) | cases h
  ·cases h
 all_goals cases h
def zBf (T:Nat->Option TI) (own:Bool) (o:Oper) (σ:St):Option (Option Prop×AV×St) :=
 match zCg T own o σ with
 | some r=>some r
 | none=>zB6 T o σ
def step1 (T:Nat->Option TI) (own:Bool) (o:Oper) (σ:St):Option (Option Prop×AV×St) :=
 match zBw T own o σ.env with
 | some (φ,x)=>some (φ,x,σ)
 | none=>zBf T own o σ
theorem zIu {c:Cx}{T:Nat->Option TI}{G:Nat->Prop}{β:Nat->Value}{σ σ':St}{a:Act}{w:World} (hT:TOk c.P T)
  (hc:Conc c G β σ a w) {own:Bool} {o:Oper} {φ:Option Prop} {x:AV} (h:step1 T own o σ=some (φ,x,σ')) (hφ:φ.getD True) (hd:∀ t,o.dst=some t->t<c.N) {K:Act->World->Prop} {Q:Exit->Act->World->Prop}
  (hK:∀ G' β' a' w',Conc c G' β' (σ'.put o.dst x) a' w'->K a' w'):o.wp c.P a w K Q:=by
 unfold step1 at h;split at h
 ·rename_i φ' x' hp
  cases h;exact zSG hT hc hp hφ fun G' w' v he hv=>hK G' β _ w' ((hc.ext he).put hd hv (zO1 hc.envlt hp))
 ·unfold zBf at h;split at h
  ·rename_i hl
   cases h;exact zSB hT hc hl hφ fun G' β' w' v h1 h2 h3=>hK G' β' _ w' (h1.put hd h2 h3)
  ·exact zSr hT hc h hφ fun β' w' v h1 h2 h3=>hK G β' _ w' (h1.put hd h2 h3)
mutual
def forced:AV->(AV->Prop)->Prop
 | .s (.int k n),K=>K (.s (.int k n))
 | .s (.bool b),K=>K (.s (.bool b))
 | .s (.str l),K=>K (.s (.str l))
 | .s (.sl sz rows),K=>K (.s (.sl sz rows))
 | .s .np,K=>K (.s .np)
 | .s (.pt row),K=>K (.s (.pt row))
 | .s (.fn f),K=>K (.s (.fn f))
 | .s .nf,K=>K (.s .nf)
 | .nl sz,K=>K (.nl sz)
 | .agg xs,K=>zEz xs fun ys=>K (.agg ys)
 | .tup xs,K=>zEz xs fun ys=>K (.tup ys)
 | .op k o,K=>K (.op k o)
 | .orow k,K=>K (.orow k)
 | .rp k sz i o,K=>K (.rp k sz i o)
 | .clo f xs,K=>zEz xs fun ys=>K (.clo f ys)
 | .junk,K=>K .junk
def zEz:List AV->(List AV->Prop)->Prop
 | [],K=>K []
 | x::xs,K=>forced x fun y=>zEz xs fun ys=>K (y::ys)
end
mutual
theorem zHN:∀ (x:AV) (K:AV->Prop),forced x K=K x
 | .s (.int k n),K=>rfl
 | .s (.bool b),K=>rfl
 | .s (.str l),K=>rfl
 | .s (.sl sz rows),K=>rfl
 | .s .np,K=>rfl
 | .s (.pt row),K=>rfl
 | .s (.fn f),K=>rfl
 | .s .nf,K=>rfl
 | .nl sz,K=>rfl
 | .agg xs,K=>by simp only[forced]; exact zDJ xs _
 | .tup xs,K=>by simp only[forced]; exact zDJ xs _
 | .op k o,K=>rfl
 | .orow k,K=>rfl
 | .rp k sz i o,K=>rfl
 | .clo f xs,K=>by simp only[forced]; exact zDJ xs _
 | .junk,K=>rfl
theorem zDJ:∀ (xs:List AV) (K:List AV->Prop),zEz xs K=K xs
 | [],K=>rfl
 | x::xs,K=>by
  simp only[zEz]
  rw[zHN x]
  exact zDJ xs _
end
def natF (n:Nat) (K:Nat->Prop):Prop :=
 match n with
 | 0=>K 0
 | m+1=>K (m+1)
theorem zL6 (n:Nat) (K:Nat->Prop):natF n K=K n:=by cases n <;> rfl
def zRa:List Nat->(List Nat->Prop)->Prop
 | [],K=>K []
 | k::ks,K=>natF k fun k'=>zRa ks fun l=>K (k'::l)
theorem zOX:∀ (l:List Nat) (K:List Nat->Prop),zRa l K=K l
 | [],K=>rfl
 | k::ks,K=>by
  simp only[zRa]
  rw[zL6]
  exact zOX ks _
def obF (o:Option Ob) (K:Option Ob->Prop):Prop :=
 match o with
 | some (.box t cs)=>zEz cs fun l=>K (some (.box t l))
 | some (.row e sz rows)=>K (some (.row e sz rows))
 | some (.arow e sz rows)=>K (some (.arow e sz rows))
 | none=>K none
theorem zSD (o:Option Ob) (K:Option Ob->Prop):obF o K=K o:=by
 unfold obF;split
 ·exact zDJ _ _
 ·rfl
 ·rfl
 ·rfl
def lookO:List (Nat×Option Ob)->(Nat->Option Ob)->Nat->Option Ob
 | [],hp,k=>hp k
 | (j,o)::r,hp,k=>bif Nat.beq k j then o else lookO r hp k
def St.lay (σ:St) (l:List (Nat×Option Ob)) (nx:Nat):St:=⟨σ.env,lookO l σ.hp,nx⟩
def layG (ρ:List (Nat×Nat)) (f:Nat->Nat):Nat->List (Option Ob)->List (Nat×Option Ob)->(List (Nat×Option Ob)->Prop)->Prop
 | _,[],acc,K=>K acc
 | i,o::os,acc,K=>natF (f i) fun j=>obF (o.map (Ob.ren ρ)) fun o'=>layG ρ f (i+1) os ((j,o')::acc) K
theorem zQe {ρ:List (Nat×Nat)}{f:Nat->Nat}{hp:Nat->Option Ob}:∀ (i:Nat) (os:List (Option Ob)) (acc:List (Nat×Option Ob)) (K:(Nat->Option Ob)->Prop),layG ρ f i os acc (fun l=>K (lookO l hp))=K (zGW ρ f i os (lookO acc hp))
 | _,[],acc,K=>rfl
 | i,o::os,acc,K=>by
  simp only[layG]
  rw[zL6,zSD]
  exact zQe (i+1) os _ K
def zPh (T:Nat->Option TI) (Γ:Nat->Option zAp) (own:Bool) (o:Oper) (σ:St) (K:AV->St->Prop):Prop :=
 match zA6 T o σ.env with
 | none=>zF6 T o σ K
 | some (g,xs)=>match Γ g with
  | none=>False
  | some s=>match s.heap with
   | some R=>∃ Φ,R xs σ.hp σ.nx Φ/\∀ x hp' n',Φ x hp' n'->K x ⟨σ.env,hp',n'⟩
   | none=>match s.own with
   | none=>match AV.persAll (AV.lendAll σ.hp xs) with
    | false=>False
    | true=>∃ r,s.spec (AV.lendAll σ.hp xs) r/\match zA4 own (match r.flat with | true=>σ | false=>zKn (AV.keysAll xs) σ) r with
     | none=>False
     | some (x,σ')=>K x σ'
   | some R=>match zD7 T s.nil o xs σ with
    | (xs,σ)=>zRa (zAn σ.hp 64 (AV.keysAll xs) []) fun ks=>natF σ.nx fun nx0=>match distinct ks,zJ2 σ.hp (zipI 0 ks) ks with
     | true,some os=>∃ x os',R (AV.renAll (zipI 0 ks) xs) os x os' /\
       layG (zDV ks nx0 0 os') (zEu ks nx0) 0 os' [] fun l=>natF (nx0+(os'.length - ks.length)) fun nx'=>K (x.ren (zDV ks nx0 0 os')) (St.lay σ l nx')
     | _,_=>False
theorem zLT {T:Nat->Option TI}{Γ:Nat->Option zAp}{own:Bool}{o:Oper}{σ:St}{K:AV->St->Prop}:zPh T Γ own o σ K=zEL T Γ own o σ K:=by
 unfold zPh zEL;cases zA6 T o σ.env with
 | none=>rfl
 | some q =>
  obtain⟨g,xs⟩:=q;dsimp only;cases Γ g with
  | none=>rfl
  | some s =>
   dsimp only;cases s.heap with
   | some R=>rfl
   | none =>
    dsimp only;cases s.own with
    | none=>rfl
    | some R =>
     dsimp only;generalize zD7 T s.nil o xs σ=q;obtain⟨xs',σ'⟩:=q;dsimp only;rw[zOX,zL6]
     cases distinct (zAn σ'.hp 64 (AV.keysAll xs') []) with
     | false=>rfl
     | true =>
      cases zJ2 σ'.hp (zipI 0 (zAn σ'.hp 64 (AV.keysAll xs') [])) (zAn σ'.hp 64 (AV.keysAll xs') []) with
      | none=>rfl
      | some os =>
       simp only[zL6,handed,St.lay]
       refine congrArg _ (funext fun x=>congrArg _ (funext fun os'=>congrArg _ ?_))
       exact zQe (hp:=σ'.hp) 0 os' [] fun hp'=>K (x.ren (zDV (zAn σ'.hp 64 (AV.keysAll xs') []) σ'.nx 0 os')) ⟨σ'.env,hp',σ'.nx+(os'.length - (zAn σ'.hp 64 (AV.keysAll xs') []).length)⟩
def named (x:AV) (K:AV->Prop):Prop :=
 match x with
 | .s (.bool b)=>∀ b',b'=b->K (.s (.bool b'))
 | .s (.int k n)=>∀ n',n'=n->K (.s (.int k n'))
 | .s (.pt r)=>∀ r',r'=r->K (.s (.pt r'))
 | .s (.str l)=>∀ l',l'=l->K (.s (.str l'))
 | .s (.sl sz rows)=>∀ rows',rows'=rows->K (.s (.sl sz rows'))
 | x=>forced x K
theorem zQm {x:AV}{K:AV->Prop} (h:named x K):K x:=by
 unfold named at h;split at h <;> first | exact h _ rfl | exact(zHN _ K) ▸ h
def St.putN (σ:St) (d:Nat) (x:AV):St:={ σ with env:=fun t=>bif Nat.beq t d then x else σ.env t }
def lay (nm:Bool) (d:Option Nat) (x:AV) (σ:St) (K:St->Prop):Prop :=
 match d with
 | none=>K σ
 | some d=>match nm with
  | true=>named x fun y=>K (σ.putN d y)
  | false=>forced x fun y=>K (σ.putN d y)
theorem zE8 {nm:Bool}{d:Option Nat}{x:AV}{σ:St}{K:St->Prop} (h:lay nm d x σ K):K (σ.put d x):=by
 unfold lay at h;split at h
 ·exact h
 ·split at h
  ·exact zQm h
  ·rw[zHN]at h; exact h
def andO (φ:Option Prop) (K:Prop):Prop :=
 match φ with
 | none=>K
 | some p=>p/\K
theorem zJf {φ:Option Prop}{K:Prop} (h:andO φ K):φ.getD True/\K:=by
 cases φ with
 | none=>exact⟨trivial,h⟩
 | some p=>exact h
def inL (t:Nat):List Nat->Bool
 | []=>false
 | x::xs=>Nat.beq t x||inL t xs
def dIn (d:Option Nat) (l:List Nat):Bool:=match d with | some t=>inL t l | none=>false
theorem zN4 {G:Nat->Prop}{w:World}{β:Nat->Value}:AVal G w β (.tup []) undef:=by
 simp only[AVal]
 exact⟨[],rfl,by simp only[AVals]⟩
def nilQ (T:Nat->Option TI) (o:Oper) (σ:St):Option (List (List S)) :=
 match o.op with
 | .binOp .eql t x y _=>match zBo y with
  | true=>match tk T t,opd T σ.env t x with
   | .slice _,.s (.sl _ rows)=>some rows
   | .slice _,.orow k=>match σ.hp k with | some (.row _ _ rows)=>some rows | _=>none
   | _,_=>none
  | false=>none
 | _=>none
theorem zOG {P:Program} (w:World) (t e:TypeId) (a:Option Addr) (l c:Nat) (h:P.underlying t=some (.slice e)):(binOp .eql t (.slice a l c) (.slice none 0 0)).run P w = .ok (.bool a.isNone) w:=by
 have h1:∀ d,(Op.equalIn (d+1) t (.slice a l c) (.slice none 0 0)).run P w = .ok a.isNone w:=fun d=>by cases a <;> simp[Op.equalIn,zAf w h]
 have h2:(Op.equal t (.slice a l c) (.slice none 0 0)).run P w = .ok a.isNone w:=h1 9999;simp[binOp,h2]
theorem zPu {c:Cx}{T:Nat->Option TI}{G:Nat->Prop}{β:Nat->Value}{σ:St}{a:Act}{w:World} (hT:TOk c.P T) (hc:Conc c G β σ a w){o:Oper}{rows:List (List S)} (h:nilQ T o σ=some rows){K:Act->World->Prop}{Q:Exit->Act->World->Prop}
  (hK:∀ b:Bool,(b=true->rows=[])->K (a.put o.dst (.bool b)) w):o.wp c.P a w K Q:=by
 have fin:∀ t x y u e d,o.op = .binOp .eql t x y u->zBo y=true->c.P.underlying t=some d->tkOf d = .slice e->(∃ ob n cp,a.eval x = .slice ob n cp/\(ob.isNone=true->rows=[]))->o.wp c.P a w K Q:=fun t x y u e d ho hn hd e1 key=>by
  cases d <;> simp only[tkOf,reduceCtorEq,TK.slice.injEq]at e1
  have hy:a.eval y = .slice none 0 0:=by
   unfold zBo at hn;split at hn
   ·rfl
   ·cases hn
  obtain⟨ob,n,cp,h1,h2⟩:=key;refine zAG (v:=.bool ob.isNone) ?_ (hK _ h2)
  simp only[execOp,ho,h1,hy]
  simp[eqGuard,zOG w t _ ob n cp hd]
 unfold nilQ at h;split at h
 ·rename_i t x y u ho
  split at h
  ·rename_i hn
   split at h
   ·rename_i e sz rows' hk hx
    cases h;obtain⟨d,hd,e1⟩:=zCK hT hk (by simp)
    refine fin t x y u e d ho hn hd e1 ?_;have hv:=zFH hc T t x;rw[hx]at hv;simp only[AVal,Rep]at hv;rcases hv with ⟨h1,o,cp,h2⟩ | ⟨b,off,cp,h1,_⟩
    ·exact⟨o,0,cp,h2,fun _=>h1⟩
    ·exact⟨_,_,cp,h1,fun h=>by cases h⟩
   ·rename_i e k hk hx
    split at h
    ·rename_i e' sz rows' hh
     cases h;obtain⟨d,hd,e1⟩:=zCK hT hk (by simp)
     refine fin t x y u e d ho hn hd e1 ?_;have hv:=zFH hc T t x;rw[hx]at hv;simp only[AVal]at hv;obtain⟨_,_,hob⟩:=hc.hp k _ hh;rcases hob with ⟨h1,h2⟩ | ⟨b,cap,cur,h1,_⟩
     ·exact⟨none,0,0,hv.1.trans h1,fun _=>h2⟩
     ·exact⟨_,_,cap,hv.1.trans h1,fun h=>by cases h⟩
    ·cases h
   ·cases h
  ·cases h
 ·cases h
def zCb (T:Nat->Option TI) (Γ:Nat->Option zAp) (M nm:List Nat) (N:Nat) (all:List Oper):List Oper->St->(St->Prop)->Prop
 | [],σ,K=>K σ
 | o::os,σ,K =>
  match (match o.dst with | some t=>Nat.blt t N | none=>true) with
  | false=>False
  | true =>
   let run:Prop:=match callOf T Γ o σ.env with
    | some (_,s,xs)=>∃ r,s.spec xs r/\match zA4 (dIn o.dst M) σ r with
     | none=>False
     | some (x,σ')=>lay (dIn o.dst nm) o.dst x σ' fun σ''=>zCb T Γ M nm N all os σ'' K
    | none=>match step1 T (dIn o.dst M) o σ with
     | none=>match nilQ T o σ with
      | some rows=>∀ b:Bool,(b=true->rows=[])->lay (dIn o.dst nm) o.dst (.s (.bool b)) σ fun σ''=>zCb T Γ M nm N all os σ'' K
      | none=>zPh T Γ (dIn o.dst M) o σ fun x σ'=>lay (dIn o.dst nm) o.dst x σ' fun σ''=>zCb T Γ M nm N all os σ'' K
     | some (φ,x,σ')=>andO φ (lay (dIn o.dst nm) o.dst x σ' fun σ''=>zCb T Γ M nm N all os σ'' K)
   match o.guard with
   | none=>run
   | some (j,want)=>match (all[j]?).bind (·.dst) with
    | some g=>match σ.env g with
     | .s (.bool true)=>match want with | true=>run | false=>lay false o.dst (.tup []) σ fun σ''=>zCb T Γ M nm N all os σ'' K
     | .s (.bool false)=>match want with | false=>run | true=>lay false o.dst (.tup []) σ fun σ''=>zCb T Γ M nm N all os σ'' K
     | .tup []=>lay false o.dst (.tup []) σ fun σ''=>zCb T Γ M nm N all os σ'' K
     | _=>False
    | none=>False
theorem zIv {c:Cx}{G:Nat->Prop}{β:Nat->Value}{σ:St}{a:Act}{w:World} (hc:Conc c G β σ a w){ops:Array Oper}{j g:Nat}{b:Bool} (hj:(ops[j]?).bind (·.dst)=some g) (hg:g<c.N)
  (hb:σ.env g = .s (.bool b)):yielded ops a.tmps j=some b:=by
 have h1:=hc.env g;rw[hb]at h1;simp only[AVal,Rep]at h1;have h2:a.tmps[g]? = some (.bool b):=by
  have hlt:g<a.tmps.size :=(by rw[hc.size]; exact hg);rw[Array.getElem?_eq_getElem hlt]
  rw[Array.getD_eq_getD_getElem?,Array.getElem?_eq_getElem hlt]at h1
  simpa using h1
 simp[yielded,hj,h2]
theorem zI1 {c:Cx}{G:Nat->Prop}{β:Nat->Value}{σ:St}{a:Act}{w:World} (hc:Conc c G β σ a w){ops:Array Oper}{j g:Nat} (hj:(ops[j]?).bind (·.dst)=some g) (hg:g<c.N)
  (hb:σ.env g = .tup []):yielded ops a.tmps j=none:=by
 have h1:=hc.env g;rw[hb]at h1;simp only[AVal]at h1;obtain⟨vs,h1,h2⟩:=h1;simp only[AVals]at h2;subst h2;have h3:a.tmps[g]? = some (.tuple #[]):=by
  have hlt:g<a.tmps.size :=(by rw[hc.size]; exact hg);rw[Array.getElem?_eq_getElem hlt]
  rw[Array.getD_eq_getD_getElem?,Array.getElem?_eq_getElem hlt]at h1
  simpa using h1
 simp[yielded,hj,h3]
theorem zDr {c:Cx}{T:Nat->Option TI}{Γ:Nat->Option zAp}{M nm:List Nat} (hT:TOk c.P T) (hΓ:∀ f s,Γ f=some s->PSound c.P f s){all:List Oper}{Q:Exit->Act->World->Prop}{K:St->Prop}
  (hK:∀ σ G β a w,K σ->Conc c G β σ a w->Q .normal a w) (hN:∀ (j g:Nat),(all[j]?).bind (fun o=>o.dst)=some g->g<c.N) :
  ∀ (os:List Oper) (σ:St) (G:Nat->Prop) (β:Nat->Value) (a:Act) (w:World),zCb T Γ M nm c.N all os σ K->Conc c G β σ a w->wpList c.P all.toArray Q os a w
 | [],σ,G,β,a,w,h,hc=>hK σ G β a w h hc
 | o::os,σ,G,β,a,w,h,hc=>by
  unfold zCb at h;split at h
  ·exact h.elim
  ·rename_i hdst
   have hd:∀ t,o.dst=some t->t<c.N:=fun t ht=>by
    rw[ht]at hdst;exact Nat.le_of_ble_eq_true hdst
   have hrun:(match callOf T Γ o σ.env with
    | some (_,s,xs)=>∃ r,s.spec xs r/\match zA4 (dIn o.dst M) σ r with
     | none=>False
     | some (x,σ')=>lay (dIn o.dst nm) o.dst x σ' fun σ''=>zCb T Γ M nm c.N all os σ'' K
    | none=>match step1 T (dIn o.dst M) o σ with
     | none=>match nilQ T o σ with
      | some rows=>∀ b:Bool,(b=true->rows=[])->lay (dIn o.dst nm) o.dst (.s (.bool b)) σ fun σ''=>zCb T Γ M nm c.N all os σ'' K
      | none=>zPh T Γ (dIn o.dst M) o σ fun x σ'=>lay (dIn o.dst nm) o.dst x σ' fun σ''=>zCb T Γ M nm c.N all os σ'' K
     | some (φ,x,σ')=>andO φ (lay (dIn o.dst nm) o.dst x σ' fun σ''=>zCb T Γ M nm c.N all os σ'' K))->o.wp c.P a w (wpList c.P all.toArray Q os) Q:=fun h=>by
    split at h
    ·rename_i g s xs hco
     obtain⟨r,hr,h⟩:=h;split at h
     ·exact h.elim
     ·rename_i x σ' hx
      refine zK9 hΓ hc hco hr hx fun G' β' w' v h1 h2 h3=>zDr (M:=M) (nm:=nm) hT hΓ hK hN os _ G' β' _ w' (zE8 h) (h1.put hd h2 h3)
    ·split at h
     ·split at h
      ·rename_i rows hq
       exact zPu hT hc hq fun b hb=>zDr (M:=M) (nm:=nm) hT hΓ hK hN os _ G β _ w (zE8 (h b hb)) (hc.put hd (by simp only[AVal,Rep]) rfl)
      ·rw[zLT]at h;exact zJN hT hΓ hc h fun x σ' G' β' w' v hk h1 h2 h3=>zDr (M:=M) (nm:=nm) hT hΓ hK hN os _ G' β' _ w' (zE8 hk) (h1.put hd h2 h3)
     ·rename_i φ x σ' hs
      obtain⟨h1,h2⟩:=zJf h;refine zIu hT hc hs h1 hd fun G' β' a' w' hc'=>zDr (M:=M) (nm:=nm) hT hΓ hK hN os _ G' β' a' w' (zE8 h2) hc'
   have hskip:(lay false o.dst (.tup []) σ fun σ''=>zCb T Γ M nm c.N all os σ'' K)->wpList c.P all.toArray Q os (a.put o.dst undef) w:=fun h =>
    zDr (M:=M) (nm:=nm) hT hΓ hK hN os _ G β _ w (zE8 h) (hc.put hd zN4 rfl)
   dsimp only at h;unfold wpList;split at h
   ·rename_i hg
    rw[if_pos (by simp[Region.wanted,hg])]
    exact .inl (hrun h)
   ·rename_i j want hg
    split at h
    ·rename_i g hj
     have hj':(all.toArray[j]?).bind (·.dst)=some g :=(by simpa using hj);split at h
     ·rename_i hb
      have hy:=zIv hc hj' (hN j g hj) hb;split at h
      ·rw[if_pos (by simp[Region.wanted,hg,hy])]
       exact .inl (hrun h)
      ·rw[if_neg (by simp[Region.wanted,hg,hy])]
       exact hskip h
     ·rename_i hb
      have hy:=zIv hc hj' (hN j g hj) hb;split at h
      ·rw[if_pos (by simp[Region.wanted,hg,hy])]
       exact .inl (hrun h)
      ·rw[if_neg (by simp[Region.wanted,hg,hy])]
       exact hskip h
     ·rename_i hb
      have hy:=zI1 hc hj' (hN j g hj) hb;rw[if_neg (by simp[Region.wanted,hg,hy])]
      exact hskip h
     ·exact h.elim
    ·exact h.elim
def zL8 (o:Oper):Bool:=match o.op with | .defer _=>false | _=>true
def zDI (N:Nat):List Oper->Bool
 | []=>true
 | o::os=>((match o.dst with | some t=>Nat.blt t N | none=>true)&&zL8 o)&&zDI N os
theorem zJR {N:Nat}:∀ {os:List Oper},zDI N os=true->∀ o∈os,∀ c,o.op ≠ .defer c
 | [],_,o,h=>by cases h
 | o::os,ho,o',h=>by
  simp only[zDI,Bool.and_eq_true]at ho;rcases List.mem_cons.1 h with rfl | h
  ·intro c e;have:=ho.1.2;unfold zL8 at this;rw[e]at this;cases this
  ·exact zJR ho.2 o' h
theorem zHf {N:Nat}:∀ {os:List Oper},zDI N os=true->∀ (j g:Nat),(os[j]?).bind (fun o=>o.dst)=some g->g<N
 | [],_,j,g,h=>by simp at h
 | o::os,ho,0,g,h=>by
  simp only[zDI,Bool.and_eq_true]at ho;simp at h;rw[h]at ho;exact Nat.le_of_ble_eq_true ho.1.1
 | o::os,ho,j+1,g,h=>by
  simp only[zDI,Bool.and_eq_true]at ho;exact zHf ho.2 j g (by simpa using h)
inductive End where
 | normal
 | exit (id:Nat)
 | ret
def zG5:End->Exit
 | .normal=>.normal
 | .exit id=>.exit id
 | .ret=>.ret
def rF (ro:Option Nat):Fence:={ Fence.wide with round:=ro }
theorem zR7 (ro:Option Nat) (n:Nat):(rF ro).room n:=room_wide n
theorem zRO {ro:Option Nat}{n m:Nat}{P:Program}{x:Code}{Q:Exit->Act->World->Prop}{a:Act}{w:World} (h:x.wpIn (rF ro) n P Q a w):x.wpIn (rF ro) m P Q a w :=
 fun b k cs hro hb _=>h b k cs hro hb (zR7 ro _)
theorem zRd {ro:Option Nat}{n:Nat}{P:Program}{o:Oper}{a:Act}{w:World}{K K':Act->World->Prop}{Q:Exit->Act->World->Prop} (hd:∀ c,o.op ≠ .defer c) (hK:∀ a w,K a w->K' a w) (h:o.wp P a w K Q):o.wpIn (rF ro) n P a w K' Q:=by
 refine⟨fun _ _=>trivial,?_⟩
 rw[Oper.semAt_eq _ _ _ hd]
 unfold Oper.wp at h;unfold Oper.upon at h;unfold Oper.uponIn;generalize Sem.run P (execOp a.eval o) w=r at h ⊢;split at h
 ·exact hK _ _ h
 ·exact hK _ _ h
 ·exact hK _ _ h
 ·refine⟨fun h=>(by cases h),callsIn_wide.2 (h.mono fun e w' he=>?_)⟩
  cases e with
  | returned v=>exact hK _ _ he
  | panicked c=>exact he
  | outgrown=>exact he
 ·exact⟨fun h=>(by cases h),fun c cs _=>let ⟨v,w',r,s⟩:=h c cs; ⟨v,w',hK _ _ r,stepsIn_wide.2 s⟩⟩
 ·exact h
 ·exact h.elim
theorem zN5 {ro:Option Nat}{n:Nat}{P:Program}{ops:Array Oper}{Q:Exit->Act->World->Prop} (hQ:¬ LetsOut Q):∀ (l:List Oper),(∀ o∈l,∀ c,o.op ≠ .defer c)->∀ a w,wpList P ops Q l a w->wpListIn (rF ro) n P ops Q l a w
 | [],_,a,w,h=>h
 | o::l,hd,a,w,h=>by
  have ih:=fun a w=>zN5 (P:=P) (ops:=ops) (ro:=ro) (n:=n) hQ l (fun o ho=>hd o (List.mem_cons_of_mem _ ho)) a w
  unfold wpList at h;unfold wpListIn;split
  ·rename_i hw
   rw[if_pos hw]at h;rcases h with h | ⟨_,h⟩
   ·exact zRd (hd o List.mem_cons_self) ih h
   ·exact absurd h hQ
  ·rename_i hw
   rw[if_neg hw]at h;exact⟨fun _ _=>trivial,ih _ _ h⟩
theorem zJX {c:Cx}{Q:End->St->Prop}:¬ LetsOut (fun e a' w'=>∃ e' G' β' σ',e=zG5 e'/\Q e' σ'/\Conc c G' β' σ' a' w'):=by
 rintro⟨a,w,e',_,_,_,h,_⟩
 cases e' <;> cases h
def Tri (c:Cx) (code:Code) (σ:St) (Q:End->St->Prop):Prop :=
 ∀ G β a w,Conc c G β σ a w->code.wpIn (rF c.ro) 2 c.P (fun e a' w'=>∃ e' G' β' σ',e=zG5 e'/\Q e' σ'/\Conc c G' β' σ' a' w') a w
theorem zLB {c:Cx}{T:Nat->Option TI}{Γ:Nat->Option zAp} (hT:TOk c.P T) (hΓ:∀ f s,Γ f=some s->PSound c.P f s){id:Nat}{ops:List Oper}{σ:St}{Q:End->St->Prop} (M nm:List Nat)
  (hN:zDI c.N ops=true) (h:zCb T Γ M nm c.N ops ops σ (Q .normal)):Tri c (.region id ops.toArray false) σ Q:=fun G β a w hc =>
 wpIn_region_lit (zN5 zJX ops (zJR hN) a w <| zDr hT hΓ (Q:=fun e a' w'=>∃ e' G' β' σ',e=zG5 e'/\Q e' σ'/\Conc c G' β' σ' a' w') (fun σ' G' β' a' w' hk hc'=>⟨.normal,G',β',σ',rfl,hk,hc'⟩) (zHf hN) ops σ G β a w h hc)
theorem zAb {c:Cx}{T:Nat->Option TI}{Γ:Nat->Option zAp}{id:Nat}{ops:List Oper}{σ:St}{Q:End->St->Prop} (M nm:List Nat) (hN:zDI c.N ops=true) (h:zCb T Γ M nm c.N ops ops σ (Q .normal)) (hT:TOk c.P T:=by exact tokW) (hΓ:∀ f s,Γ f=some s->PSound c.P f s:=by exact gok):Tri c (.region id ops.toArray false) σ Q :=
 zLB hT hΓ M nm hN h
theorem zSU {c:Cx}{T:Nat->Option TI}{Γ:Nat->Option zAp}{id:Nat}{ops:List Oper}{σ:St}{Q:End->St->Prop} (h:zCb T Γ [] [] c.N ops ops σ (Q .normal)) (hN:zDI c.N ops=true:=by rfl) (hT:TOk c.P T:=by exact tokW) (hΓ:∀ f s,Γ f=some s->PSound c.P f s:=by exact gok):Tri c (.region id ops.toArray false) σ Q :=
 zAb [] [] hN h hT hΓ
def zSf (c:Cx) (y:Code) (Q:End->St->Prop):End->St->Prop
 | .normal,σ=>Tri c y σ Q
 | e,σ=>Q e σ
def zRE (id:Nat) (Q:End->St->Prop):End->St->Prop
 | .exit j,σ=>match Nat.beq j id with | true=>Q .normal σ | false=>Q (.exit j) σ
 | e,σ=>Q e σ
section
variable {c:Cx} {σ:St} {Q:End->St->Prop}
theorem zAa {x y:Code} (h:Tri c x σ (zSf c y Q)):Tri c (.seq x y) σ Q:=fun G β a w hc=>by
 refine wpIn_seq (wpIn_mono (h G β a w hc) ?_)
 rintro e a' w' ⟨e',G',β',σ',rfl,hq,hc'⟩
 cases e' with
 | normal=>exact hq G' β' a' w' hc'
 | exit id=>exact⟨.exit id,G',β',σ',rfl,hq,hc'⟩
 | ret=>exact⟨.ret,G',β',σ',rfl,hq,hc'⟩
theorem zSg {c:Cx}{T:Nat->Option TI}{Γ:Nat->Option zAp}{id:Nat}{ops:List Oper}{y:Code}{σ:St}{Q:End->St->Prop} (M nm:List Nat) (hN:zDI c.N ops=true) (h:zCb T Γ M nm c.N ops ops σ (zSf c y Q .normal)) (hT:TOk c.P T:=by exact tokW) (hΓ:∀ f s,Γ f=some s->PSound c.P f s:=by exact gok):Tri c (.seq (.region id ops.toArray false) y) σ Q :=
 zAa (zLB hT hΓ M nm hN h)
theorem zSV {c:Cx}{T:Nat->Option TI}{Γ:Nat->Option zAp}{id:Nat}{ops:List Oper}{y:Code}{σ:St}{Q:End->St->Prop} (h:zCb T Γ [] [] c.N ops ops σ (zSf c y Q .normal)) (hN:zDI c.N ops=true:=by rfl) (hT:TOk c.P T:=by exact tokW) (hΓ:∀ f s,Γ f=some s->PSound c.P f s:=by exact gok):Tri c (.seq (.region id ops.toArray false) y) σ Q :=
 zSg [] [] hN h hT hΓ
theorem zAe (h:Q .normal σ):Tri c .skip σ Q:=fun G β a w hc=>wpIn_skip ⟨.normal,G,β,σ,rfl,h,hc⟩
theorem zAx {id:Nat} (h:Q (.exit id) σ):Tri c (.exit id) σ Q:=fun G β a w hc=>wpIn_exit ⟨.exit id,G,β,σ,rfl,h,hc⟩
theorem zAg (h:Q .ret σ):Tri c .ret σ Q:=fun G β a w hc=>wpIn_ret ⟨.ret,G,β,σ,rfl,h,hc⟩
theorem zAi {id:Nat}{x:Code} (h:Tri c x σ (zRE id Q)):Tri c (.block id x) σ Q:=fun G β a w hc=>by
 refine wpIn_block (wpIn_mono (h G β a w hc) ?_)
 rintro e a' w' ⟨e',G',β',σ',rfl,hq,hc'⟩
 cases e' with
 | normal=>exact⟨.normal,G',β',σ',rfl,hq,hc'⟩
 | ret=>exact⟨.ret,G',β',σ',rfl,hq,hc'⟩
 | exit j =>
  simp only[zRE]at hq;show Exit.inBlock id _ (.exit j) a' w';unfold Exit.inBlock;dsimp only;split at hq
  ·rename_i e
   rw[if_pos (Nat.eq_of_beq_eq_true e)]
   exact⟨.normal,G',β',σ',rfl,hq,hc'⟩
  ·rename_i e
   rw[if_neg (Nat.ne_of_beq_eq_false e)]
   exact⟨.exit j,G',β',σ',rfl,hq,hc'⟩
theorem zAl {x y:Code}{t:Nat}{b:Bool} (hb:σ.env t = .s (.bool b)) (h1:b=true->Tri c x σ Q) (h2:b=false->Tri c y σ Q):Tri c (.cond (.tmp t) x y) σ Q:=fun G β a w hc=>by
 have h:=hc.env t;rw[hb]at h;simp only[AVal,Rep]at h;exact wpIn_cond_split (t:=b) h (fun e=>h1 e G β a w hc) (fun e=>h2 e G β a w hc)
def Le (c:Cx) (σ σ':St):Prop:=∀ G β a w,Conc c G β σ a w->∃ G' β',Conc c G' β' σ' a w
theorem Le.refl (c:Cx) (σ:St):Le c σ σ:=fun G β _ _ h=>⟨G,β,h⟩
theorem Le.trans {σ σ' σ'':St} (h:Le c σ σ') (k:Le c σ' σ''):Le c σ σ'':=fun G β a w hc =>
 let ⟨G',β',h'⟩:=h G β a w hc
 k G' β' a w h'
theorem zAk {x:Code}{σ':St} (hl:Le c σ σ') (h:Tri c x σ' Q):Tri c x σ Q:=fun G β a w hc =>
 let ⟨G',β',h'⟩:=hl G β a w hc
 h G' β' a w h'
theorem zMD {x:Code}{Q':End->St->Prop} (h:Tri c x σ Q) (hq:∀ e σ',Q e σ'->Q' e σ'):Tri c x σ Q':=fun G β a w hc =>
 wpIn_mono (h G β a w hc) fun e a' w' ⟨e',G',β',σ',h1,h2,h3⟩=>⟨e',G',β',σ',h1,hq _ _ h2,h3⟩
theorem zRx {x:Code}{X:Type} (E:X->St) (m:X->Nat) (x0:X) (h0:Le c σ (E x0))
  (h:∀ y,Tri c x (E y) (fun e σ'=>match e with | .normal=>∃ z,Le c σ' (E z)/\m z<m y | e=>Q e σ')):Tri c (.loop x) σ Q:=fun G β a w hc=>by
 obtain⟨G1,β1,hc1⟩:=h0 G β a w hc;intro b k cs hro hb hr;have key:∀ n y G β a w,m y=n->Conc c G β (E y) a w ->
   ∃ e a' w',(∃ e' G' β' σ',e=zG5 e'/\Q e' σ'/\Conc c G' β' σ' a' w')/\ArrivesIn (Machine.fenced c.P (rF c.ro)) c.P (lone (b.atR a (.code x::.inLoop x::k)) cs w) b k cs e a' w':=by
  intro n
  induction n using Nat.strongRecOn with
  | _ n ih =>
   intro y G β a w hn hc;obtain⟨e,a',w',⟨e',G',β',σ',rfl,hq,hc'⟩,harr⟩:=h y G β a w hc b (.inLoop x::k) cs hro hb hr;cases e' with
   | normal =>
    obtain⟨z,hle,hlt⟩:=hq;obtain⟨G2,β2,hc2⟩:=hle G' β' a' w' hc';obtain⟨e2,a2,w2,hq2,harr2⟩:=ih (m z) (by omega) z G2 β2 a' w' rfl hc2;exact⟨e2,a2,w2,hq2,.of_steps (StepsIn.trans harr (.one (fenced_calm hb hr rfl) stepR_inLoop)) harr2⟩
   | exit id=>exact⟨.exit id,a',w',⟨.exit id,G',β',σ',rfl,hq,hc'⟩,.pass (x:=.inLoop x) rfl (fun _ _=>.inl (by simp[zG5])) harr⟩
   | ret=>exact⟨.ret,a',w',⟨.ret,G',β',σ',rfl,hq,hc'⟩,.pass (x:=.inLoop x) rfl (fun _ _=>.inl (by simp[zG5])) harr⟩
 obtain⟨e,a',w',hq,harr⟩:=key _ x0 G1 β1 a w rfl hc1;exact⟨e,a',w',hq,.of_steps (.one (fenced_calm hb hr rfl) stepR_loop) harr⟩
theorem zAz {x:Code}{X:Type} (E:X->St) (I:X->Prop) (m:X->Nat) (x0:X) (i0:I x0) (h0:Le c σ (E x0))
  (h:∀ y,I y->Tri c x (E y) (fun e σ'=>match e with | .normal=>∃ z,I z/\Le c σ' (E z)/\m z<m y | e=>Q e σ')):Tri c (.loop x) σ Q :=
 zRx (X:={ y:X // I y }) (fun y=>E y.1) (fun y=>m y.1) ⟨x0,i0⟩ h0 fun y=>zMD (h y.1 y.2) fun e σ' hq=>by
  cases e with
  | normal=>obtain⟨z,h1,h2,h3⟩:=hq; exact⟨⟨z,h1⟩,h2,h3⟩
  | exit id=>exact hq
  | ret=>exact hq
def ofL (l:List (Nat×AV)):Nat->AV :=
 match l with
 | []=>fun _=>.junk
 | (t,x)::r=>fun s=>bif Nat.beq s t then x else ofL r s
def ofH (l:List (Nat×Ob)):Nat->Option Ob :=
 match l with
 | []=>fun _=>none
 | (t,x)::r=>fun s=>bif Nat.beq s t then some x else ofH r s
def holds (env:Nat->AV):List (Nat×AV)->Prop
 | []=>True
 | (t,x)::r=>env t=x/\holds env r
theorem zNl {P:AV->Prop} (hj:P .junk):∀ {l:List (Nat×AV)}{env:Nat->AV},holds env l->(∀ t,P (env t))->∀ t,ofL l t = .junk∨ofL l t=env t
 | [],env,_,_,t=>.inl rfl
 | (s,x)::r,env,h,hp,t=>by
  simp only[ofL]
  cases e:Nat.beq t s with
  | true=>obtain rfl:=Nat.eq_of_beq_eq_true e; exact .inr h.1.symm
  | false=>exact zNl hj h.2 hp t
theorem Le.forget (l:List (Nat×AV)) (h:holds σ.env l):Le c σ { σ with env:=ofL l }:=fun G β a w hc=>by
 have he:=zNl (P:=fun _=>True) trivial h (fun _=>trivial)
 refine⟨G,β,{ hc with env:=fun t=>?_,envlt:=fun t=>?_ }⟩
 ·rcases he t with e | e <;> (dsimp only; rw[e])
  ·simp only[AVal]
  ·exact hc.env t
 ·rcases he t with e | e <;> (dsimp only; rw[e])
  ·rfl
  ·exact hc.envlt t
def kept (hp:Nat->Option Ob) (ρ:List (Nat×Nat)):List (Nat×Nat)->List (Nat×Ob)->Prop
 | [],[]=>True
 | (k,j)::r,(j',o)::l=>j=j'/\(∃ o0,hp k=some o0/\o0.ren ρ=o)/\kept hp ρ r l
 | _,_=>False
theorem zNc {l:List (Nat×Nat)}:distinct (l.map (·.1))=true->∀ {k j j'},(k,j)∈l->(k,j')∈l->j=j':=by
 induction l with
 | nil=>intro _ k j j' h; cases h
 | cons p r ih =>
  intro h k j j' h1 h2;simp only[List.map_cons,distinct,Bool.and_eq_true]at h;have hn:=zEF h.1;rcases List.mem_cons.1 h1 with h1 | h1 <;> rcases List.mem_cons.1 h2 with h2 | h2
  ·rw[← h1]at h2; cases h2; rfl
  ·exact absurd (List.mem_map.2 ⟨_,h2,by rw[← h1]⟩) hn
  ·exact absurd (List.mem_map.2 ⟨_,h1,by rw[← h2]⟩) hn
  ·exact ih h.2 h1 h2
theorem zIO {l:List (Nat×Nat)}:distinct (l.map (·.2))=true->∀ {k k' j},(k,j)∈l->(k',j)∈l->k=k':=by
 induction l with
 | nil=>intro _ k k' j h; cases h
 | cons p r ih =>
  intro h k k' j h1 h2;simp only[List.map_cons,distinct,Bool.and_eq_true]at h;have hn:=zEF h.1;rcases List.mem_cons.1 h1 with h1 | h1 <;> rcases List.mem_cons.1 h2 with h2 | h2
  ·rw[← h1]at h2; cases h2; rfl
  ·exact absurd (List.mem_map.2 ⟨_,h2,by rw[← h1]⟩) hn
  ·exact absurd (List.mem_map.2 ⟨_,h1,by rw[← h2]⟩) hn
  ·exact ih h.2 h1 h2
def zNr (j:Nat):List (Nat×Nat)->Option Nat
 | []=>none
 | (a,b)::r=>bif Nat.beq j b then some a else zNr j r
theorem zHO {k j:Nat}:∀ {l:List (Nat×Nat)},zNr j l=some k->(k,j)∈l
 | [],h=>by simp[zNr]at h
 | (a,b)::r,h=>by
  simp only[zNr]at h;cases e:Nat.beq j b with
  | true=>rw[e,cond_true]at h; cases h; obtain rfl:=Nat.eq_of_beq_eq_true e; simp
  | false=>rw[e,cond_false]at h; simp[zHO h]
theorem zF7 {k j:Nat}:∀ {l:List (Nat×Nat)},(k,j)∈l->∃ k',zNr j l=some k'
 | [],h=>by cases h
 | (a,b)::r,h=>by
  simp only[zNr]
  cases e:Nat.beq j b with
  | true=>exact⟨a,by simp⟩
  | false =>
   rw[cond_false]
   rcases List.mem_cons.1 h with h | h
   ·cases h; exact absurd rfl (Nat.ne_of_beq_eq_false e)
   ·exact zF7 h
def rens (env:Nat->AV) (ρ:List (Nat×Nat)):List (Nat×AV)->Prop
 | []=>True
 | (t,x)::r=>(env t).ren ρ=x/\rens env ρ r
theorem zJi {hp:Nat->Option Ob}{ρ:List (Nat×Nat)}:∀ {r:List (Nat×Nat)}{l:List (Nat×Ob)},kept hp ρ r l->∀ {j o},ofH l j=some o->∃ k o0,(k,j)∈r/\hp k=some o0/\o0.ren ρ=o
 | [],[],_,j,o,h=>by simp[ofH]at h
 | [],_::_,hk,_,_,_=>hk.elim
 | _::_,[],hk,_,_,_=>hk.elim
 | (k,j1)::r,(j2,o2)::l,hk,j,o,h=>by
  simp only[kept]at hk;obtain⟨rfl,⟨o0,h1,h2⟩,h4⟩:=hk;simp only[ofH]at h;cases e:Nat.beq j j1 with
  | true =>
   rw[e,cond_true]at h; cases h
   obtain rfl:=Nat.eq_of_beq_eq_true e;exact⟨k,o0,by simp,h1,h2⟩
  | false =>
   rw[e,cond_false]at h;obtain⟨k',o',h5,h6⟩:=zJi h4 h;exact⟨k',o',by simp[h5],h6⟩
def ltL (n:Nat):List (Nat×AV)->Bool
 | []=>true
 | (_,x)::r=>x.lt n&&ltL n r
def ltH (n:Nat):List (Nat×Ob)->Bool
 | []=>true
 | (k,o)::r=>Nat.blt k n&&o.lt n&&ltH n r
theorem zJj {n:Nat}:∀ {l:List (Nat×AV)},ltL n l=true->∀ t,(ofL l t).lt n=true
 | [],_,t=>rfl
 | (s,x)::r,h,t=>by
  simp only[ltL,Bool.and_eq_true]at h;simp only[ofL]
  cases Nat.beq t s with
  | true=>exact h.1
  | false=>exact zJj h.2 t
theorem zOW {n:Nat}:∀ {l:List (Nat×Ob)},ltH n l=true->∀ k o,ofH l k=some o->k<n/\o.lt n=true
 | [],_,k,o,h=>by simp[ofH]at h
 | (s,x)::r,h,k,o,hk=>by
  simp only[ltH,Bool.and_eq_true]at h;simp only[ofH]at hk;cases e:Nat.beq k s with
  | true =>
   rw[e,cond_true]at hk; cases hk
   obtain rfl:=Nat.eq_of_beq_eq_true e;exact⟨Nat.le_of_ble_eq_true h.1.1,h.1.2⟩
  | false=>rw[e,cond_false]at hk; exact zOW h.2 k o hk
def zNZ (n0 n:Nat):List (Nat×Nat)->Bool
 | []=>Nat.ble n0 n
 | (k,j)::r=>(Nat.ble n0 j||Nat.beq k j)&&zNZ n0 n r
theorem zHs {n0 n:Nat}:∀ {ρ:List (Nat×Nat)},zNZ n0 n ρ=true->n0<=n/\∀ k j,(k,j)∈ρ->j<n0->k=j
 | [],h=>⟨Nat.le_of_ble_eq_true h,fun k j h=>by cases h⟩
 | (a,b)::r,h=>by
  simp only[zNZ,Bool.and_eq_true,Bool.or_eq_true]at h;obtain⟨h1,h2⟩:=zHs h.2;refine⟨h1,fun k j hm hj=>?_⟩
  rcases List.mem_cons.1 hm with hm | hm
  ·cases hm;rcases h.1 with h3 | h3
   ·have:=Nat.le_of_ble_eq_true h3; omega
   ·exact Nat.eq_of_beq_eq_true h3
  ·exact h2 k j hm hj
def zM5 (β:Nat->Value) (ρ:List (Nat×Nat)) (j:Nat):Value:=match zNr j ρ with | some k=>β k | none=>β j
theorem Le.rename (ρ:List (Nat×Nat)) (l:List (Nat×AV)) (hl:List (Nat×Ob)) (n:Nat) (h1:rens σ.env ρ l) (h2:kept σ.hp ρ ρ hl) (h3:distinct (ρ.map (·.1))=true) (h4:distinct (ρ.map (·.2))=true)
  (h5:ltL n l=true) (h6:ltH n hl=true) (h7:zNZ c.n0 n ρ=true):Le c σ { env:=ofL l,hp:=ofH hl,nx:=n }:=fun G β a w hc=>by
 have hb:∀ k j,look k ρ=some j->(zM5 β ρ) j=β k:=fun k j hkj=>by
  have hm:=zOV hkj;obtain⟨k',hk'⟩:=zF7 hm;have:=zIO h4 hm (zHO hk')
  subst this;simp only[zM5,hk']
 have henv:∀ {l:List (Nat×AV)},rens σ.env ρ l->∀ t,AVal G w (zM5 β ρ) (ofL l t) (a.tmps.getD t undef):=fun {l}=>by
  induction l with
  | nil=>intro _ t; simp only[ofL,AVal]
  | cons p r ih =>
   obtain⟨s,x⟩:=p;intro h t;simp only[ofL]
   cases e:Nat.beq t s with
   | true=>obtain rfl:=Nat.eq_of_beq_eq_true e; rw[cond_true,← h.1]; exact(hc.env t).ren hb
   | false=>exact ih h.2 t
 have hat:∀ {v:Value} {o o':Ob},o.ren ρ=o'->ObAt c G w β v o->ObAt c G w (zM5 β ρ) v o':=fun {v o o'} ho h=>by
  subst ho;cases o with
  | box xs =>
   obtain⟨b,e,cur,q1,q2,q3,q4,q5,q6⟩:=h;exact⟨b,e,cur,q1,q2,q3,q4,q5.ren hb,q6⟩
  | row e sz rows=>exact h
  | arow e sz rows=>exact ObAt.ren hb (fun _ _ h=>h) h
 have hβ:∀ {k j},(k,j)∈ρ->(zM5 β ρ) j=β k:=fun {k j} hm=>by
  obtain⟨k',hk'⟩:=zF7 hm;have:=zIO h4 hm (zHO hk')
  subst this;simp only[zM5,hk']
 refine⟨G,zM5 β ρ,{ defers:=hc.defers,size:=hc.size,env:=henv h1,envlt:=zJj h5,hp:=fun j o hj=>?_,hplt:=zOW h6,inj:=?_,lt:=hc.lt,sub:=hc.sub,new:=hc.new,fr:=hc.fr,stay:=⟨(zHs h7).1,fun j hj=>?_⟩,glob:=hc.glob }⟩
 ·obtain⟨k,o0,hm,hk,ho⟩:=zJi h2 hj;rw[hβ hm]
  exact hat ho (hc.hp k o0 hk)
 ·intro j j' o o' hj hj' hne b hb1 hb2;obtain⟨k,o0,hm,hk,_⟩:=zJi h2 hj;obtain⟨k',o0',hm',hk',_⟩:=zJi h2 hj';rw[hβ hm]at hb1;rw[hβ hm']at hb2;exact hc.inj k k' o0 o0' hk hk' (fun e=>hne (by subst e; exact zNc h3 hm hm')) b hb1 hb2
 ·unfold zM5;cases hl:zNr j ρ with
  | none=>exact hc.stay.2 j hj
  | some k =>
   obtain rfl:=(zHs h7).2 k j (zHO hl) hj;exact hc.stay.2 k hj
theorem Le.rnm {c:Cx}{σ:St} (ρ:List (Nat×Nat)) (l:List (Nat×AV)) (hl:List (Nat×Ob)) (n:Nat) (h1:rens σ.env ρ l) (h2:kept σ.hp ρ ρ hl) (h3:distinct (ρ.map (·.1))=true:=by exact rfl) (h4:distinct (ρ.map (·.2))=true:=by exact rfl) (h5:ltL n l=true:=by exact rfl) (h6:ltH n hl=true:=by exact rfl) (h7:zNZ c.n0 n ρ=true:=by exact rfl):Le c σ { env:=ofL l,hp:=ofH hl,nx:=n } :=
 Le.rename ρ l hl n h1 h2 h3 h4 h5 h6 h7
mutual
def AV.frz (k:Nat) (r:AV) (p:Nat->AV):AV->AV
 | .op j o=>match Nat.beq j k with | true=>p o | false=>.op j o
 | .orow j=>match Nat.beq j k with | true=>r | false=>.orow j
 | .rp j sz i o=>match Nat.beq j k with | true=>.junk | false=>.rp j sz i o
 | .agg xs=>.agg (AV.frzAll k r p xs)
 | .tup xs=>.tup (AV.frzAll k r p xs)
 | .clo f xs=>.clo f (AV.frzAll k r p xs)
 | x=>x
def AV.frzAll (k:Nat) (r:AV) (p:Nat->AV):List AV->List AV
 | []=>[]
 | x::xs=>AV.frz k r p x::AV.frzAll k r p xs
end
mutual
theorem AVal.frz {G G':Nat->Prop}{w:World}{β:Nat->Value}{k:Nat}{r:AV}{p:Nat->AV} (hG:∀ b,G b->G' b) (hr:(∃ o n cp,β k = .slice o n cp)->AVal G' w β r (β k)) (hp:∀ b o,β k = .pointer (some ⟨b,0,none⟩)->AVal G' w β (p o) (.pointer (some ⟨b,o,none⟩))) :
  ∀ {x:AV} {v:Value},AVal G w β x v->AVal G' w β (AV.frz k r p x) v
 | .s x,v,h=>by simp only[AVal,AV.frz]at h ⊢; exact h.keep ⟨hG,fun _ _=>rfl⟩
 | .nl _,v,h=>by simp only[AVal,AV.frz]at h ⊢; exact h
 | .agg xs,v,h=>by
  simp only[AVal,AV.frz]at h ⊢
  obtain⟨vs,h1,h2⟩:=h
  exact⟨vs,h1,AVals.frz hG hr hp h2⟩
 | .tup xs,v,h=>by
  simp only[AVal,AV.frz]at h ⊢
  obtain⟨vs,h1,h2⟩:=h
  exact⟨vs,h1,AVals.frz hG hr hp h2⟩
 | .clo f xs,v,h=>by
  simp only[AVal,AV.frz]at h ⊢
  obtain⟨vs,h1,h2⟩:=h
  exact⟨vs,h1,AVals.frz hG hr hp h2⟩
 | .op j o,v,h=>by
  simp only[AV.frz]
  split
  ·rename_i e; obtain rfl:=Nat.eq_of_beq_eq_true e
   simp only[AVal]at h
   obtain⟨b,h1,rfl⟩:=h
   exact hp b o h1
  ·simp only[AVal]at h ⊢; exact h
 | .orow j,v,h=>by
  simp only[AV.frz]
  split
  ·rename_i e; obtain rfl:=Nat.eq_of_beq_eq_true e
   simp only[AVal]at h
   obtain⟨rfl,h1⟩:=h
   exact hr h1
  ·simp only[AVal]at h ⊢; exact h
 | .rp j sz i o,v,h=>by
  simp only[AV.frz]
  split
  ·simp only[AVal]
  ·simp only[AVal]at h ⊢; exact h
 | .junk,_,_=>by simp only[AV.frz,AVal]
theorem AVals.frz {G G':Nat->Prop}{w:World}{β:Nat->Value}{k:Nat}{r:AV}{p:Nat->AV} (hG:∀ b,G b->G' b) (hr:(∃ o n cp,β k = .slice o n cp)->AVal G' w β r (β k)) (hp:∀ b o,β k = .pointer (some ⟨b,0,none⟩)->AVal G' w β (p o) (.pointer (some ⟨b,o,none⟩))) :
  ∀ {xs:List AV} {vs:List Value},AVals G w β xs vs->AVals G' w β (AV.frzAll k r p xs) vs
 | [],_,h=>by simp only[AVals,AV.frzAll]at h ⊢; exact h
 | x::xs,vs,h=>by
  simp only[AVals,AV.frzAll]at h ⊢
  obtain⟨v,vs',h1,h2,h3⟩:=h
  exact⟨v,vs',h1,AVal.frz hG hr hp h2,AVals.frz hG hr hp h3⟩
end
mutual
theorem AV.frz_lt {n k:Nat}{r:AV}{p:Nat->AV} (hr:r.lt n=true) (hp:∀ o,(p o).lt n=true):∀ {x:AV},x.lt n=true->(AV.frz k r p x).lt n=true
 | .s _,h=>rfl
 | .nl _,h=>rfl
 | .junk,h=>rfl
 | .agg xs,h=>by simp only[AV.frz,AV.lt]at *; exact AV.frzAll_lt hr hp h
 | .tup xs,h=>by simp only[AV.frz,AV.lt]at *; exact AV.frzAll_lt hr hp h
 | .clo _ xs,h=>by simp only[AV.frz,AV.lt]at *; exact AV.frzAll_lt hr hp h
 | .op j o,h=>by simp only[AV.frz]; split <;> first | exact hp o | exact h
 | .orow j,h=>by simp only[AV.frz]; split <;> first | exact hr | exact h
 | .rp j sz i o,h=>by simp only[AV.frz]; split <;> first | rfl | exact h
theorem AV.frzAll_lt {n k:Nat}{r:AV}{p:Nat->AV} (hr:r.lt n=true) (hp:∀ o,(p o).lt n=true):∀ {xs:List AV},AV.ltAll n xs=true->AV.ltAll n (AV.frzAll k r p xs)=true
 | [],_=>rfl
 | x::xs,h=>by
  simp only[AV.frzAll,AV.ltAll,Bool.and_eq_true]at *
  exact⟨AV.frz_lt hr hp h.1,AV.frzAll_lt hr hp h.2⟩
end
def Ob.frz (k:Nat) (r:AV) (p:Nat->AV):Ob->Ob
 | .box t xs=>.box t (AV.frzAll k r p xs)
 | .arow e sz rows=>.arow e sz (rows.map (AV.frzAll k r p))
 | o=>o
theorem zJV {k:Nat}{r:AV}{p:Nat->AV}:∀ (l:List AV),AV.frzAll k r p l=l.map (AV.frz k r p)
 | []=>rfl
 | x::l=>by simp[AV.frzAll,zJV l]
theorem zE7 {k:Nat}{r:AV}{p:Nat->AV}:∀ (rows:List (List AV)),(rows.map (AV.frzAll k r p)).flatten=rows.flatten.map (AV.frz k r p)
 | []=>rfl
 | x::rows=>by simp[zJV,zE7 rows,List.map_append]
def zNk (σ:St) (k:Nat) (r:AV) (p:Nat->AV):St :=
 { env:=fun t=>AV.frz k r p (σ.env t),hp:=fun j=>bif Nat.beq j k then none else (σ.hp j).map (Ob.frz k r p),nx:=σ.nx }
theorem Conc.given {G G':Nat->Prop}{β:Nat->Value}{a:Act}{w:World} (hc:Conc c G β σ a w){k:Nat}{ob:Ob} (hk:σ.hp k=some ob){r:AV}{p:Nat->AV} (hsub:∀ b,G b->G' b)
  (hnew:∀ b,G' b->G b∨blk (β k)=some b)
  (hr:(∃ o n cp,β k = .slice o n cp)->AVal G' w β r (β k)) (hp:∀ b o,β k = .pointer (some ⟨b,0,none⟩)->AVal G' w β (p o) (.pointer (some ⟨b,o,none⟩)))
  (hrl:r.lt σ.nx=true) (hpl:∀ o,(p o).lt σ.nx=true):Conc c G' β (zNk σ k r p) a w:=by
 have hkeep:Keep G G' w w:=⟨hsub,fun _ _=>rfl⟩
 have hget:∀ {j o'},(zNk σ k r p).hp j=some o'->j ≠ k/\∃ o,σ.hp j=some o/\o'=Ob.frz k r p o:=fun {j o'} h=>by
  simp only[zNk]at h;cases e:Nat.beq j k with
  | true=>rw[e,cond_true]at h; cases h
  | false =>
   rw[e,cond_false]at h;obtain⟨o,h1,h2⟩:=Option.map_eq_some_iff.1 h;exact⟨Nat.ne_of_beq_eq_false e,o,h1,h2.symm⟩
 have hmk:=row_block (hc.hp k ob hk)
 refine { defers:=hc.defers,size:=hc.size,env:=fun t=>(hc.env t).frz hsub hr hp,envlt:=fun t=>AV.frz_lt hrl hpl (hc.envlt t),hp:=fun j o' hj=>?_,hplt:=fun j o' hj=>?_,inj:=?_,lt:=fun b hb=>?_,sub:=fun b hb=>hsub b (hc.sub b hb),new:=fun b hb=>?_,fr:=hc.fr,stay:=hc.stay,glob:=hc.glob.keep hkeep }
 ·obtain⟨hne,o,h1,rfl⟩:=hget hj;have ho:=hc.hp j o h1;have hng:∀ b,blk (β j)=some b->¬ G' b:=fun b hb hg'=>by
   rcases hnew b hg' with h | h
   ·exact(row_block ho b hb).1 h
   ·exact hc.inj j k o ob h1 hk hne b hb h
  cases o with
  | box xs =>
   obtain⟨b,e,cur,q1,q2,q3,q4,q5,q6⟩:=ho;exact⟨b,e,cur,q1,q2,hng b (by rw[q1]; rfl),q4,AVals.frz hsub hr hp q5,q6⟩
  | row e sz rows =>
   obtain⟨q1,q2,q3⟩:=ho;refine⟨q1,q2,q3.imp id ?_⟩
   rintro⟨b,cap,cur,g1,g2,g3,g4,g5,g6,g7⟩
   exact⟨b,cap,cur,g1,g2,g3,g4,hng b (by rw[g1]; rfl),g6,fun i s hi=>let ⟨u,hu,hr'⟩:=g7 i s hi; ⟨u,hu,hr'.keep hkeep⟩⟩
  | arow e sz rows =>
   obtain⟨q1,q2,q3⟩:=ho;refine⟨fun x hx=>by obtain⟨y,hy,rfl⟩:=List.mem_map.1 hx; rw[zJV,List.length_map]; exact q1 y hy,q2,q3.imp (fun h=>⟨h.1,by rw[h.2]; rfl⟩) ?_⟩
   rintro⟨b,cap,cur,g1,g2,g3,g4,g5,g6,g7⟩
   refine⟨b,cap,cur,by rw[List.length_map]; exact g1,by rw[List.length_map]; exact g2,g3,g4,hng b (by rw[g1]; rfl),g6,fun i x hi=>?_⟩
   rw[zE7,List.getElem?_map]at hi;obtain⟨y,hy,rfl⟩:=Option.map_eq_some_iff.1 hi;obtain⟨u,hu,hr',h1⟩:=g7 i y hy;exact⟨u,hu,AVal.frz hsub hr hp hr',h1⟩
 ·obtain⟨hne,o,h1,rfl⟩:=hget hj;obtain⟨h2,h3⟩:=hc.hplt j o h1;refine⟨h2,?_⟩
  cases o with
  | box xs=>simp only[Ob.lt,Ob.frz]at *; exact AV.frzAll_lt hrl hpl h3
  | row=>rfl
  | arow e sz rows =>
   simp only[Ob.lt,Ob.frz]at *;refine zCO fun q y hq=>?_
   rw[zE7,List.getElem?_map]at hq;obtain⟨z,hz,rfl⟩:=Option.map_eq_some_iff.1 hq;exact AV.frz_lt hrl hpl (zAR h3 hz)
 ·intro j j' o o' hj hj' hne b hb hb';obtain⟨_,o1,h1,_⟩:=hget hj;obtain⟨_,o2,h2,_⟩:=hget hj';exact hc.inj j j' o1 o2 h1 h2 hne b hb hb'
 ·rcases hnew b hb with h | h
  ·exact hc.lt b h
  ·exact hc.blk_lt hk h
 ·rcases hnew b hb with h | h
  ·exact hc.new b h
  ·exact .inr (hmk b h).2
theorem Le.giveRow (k:Nat){e sz:Nat}{rows:List (List S)} (hk:σ.hp k=some (.row e sz rows)):Le c σ (zNk σ k (.s (.sl sz rows)) (fun _=>.junk)):=fun G β a w hc=>by
 obtain⟨hlen,hsz,ho⟩:=hc.hp k _ hk;rcases ho with ⟨h1,rfl⟩ | ⟨b,cap,cur,h1,h2,h3,⟨mk,hmk,h4⟩,h5,h6,h7⟩
 ·refine⟨G,β,hc.given hk (fun _ h=>h) (fun _ h=>.inl h) (fun _=>?_) (fun b o h=>by rw[h1]at h; cases h) rfl (fun _=>rfl)⟩
  rw[h1]; simp[AVal,Rep]
 ·refine⟨fun i=>G i∨i=b,β,hc.given hk (fun _ h=>.inl h) (fun i h=>h.imp id (fun e=>by rw[h1,e]; rfl)) (fun _=>?_) (fun b o h=>by rw[h1]at h; cases h) rfl (fun _=>rfl)⟩
  rw[h1]
  simp only[AVal,Rep]
  refine .inr ⟨b,0,cap,rfl,h2,zBQ hlen (RepRow.mk fun i s hi=>⟨.inr rfl,?_⟩)⟩
  obtain⟨u,hu,hr⟩:=h7 i s hi;exact⟨u,by simp[World.cell?,h4,hu],hr.keep ⟨fun _ h=>.inl h,fun _ _=>rfl⟩⟩
theorem Le.toA (k:Nat){e sz:Nat}{rows:List (List S)} (hk:σ.hp k=some (.row e sz rows)):Le c σ (zDi σ k (.arow e sz (rows.map (·.map AV.s)))):=fun G β a w hc=>by
 have hf:(rows.map (·.map AV.s)).flatten=rows.flatten.map AV.s :=(by simp[List.map_flatten]);have hget:∀ {j o},(zDi σ k (.arow e sz (rows.map (·.map AV.s)))).hp j=some o->(j=k/\o = .arow e sz (rows.map (·.map AV.s)))∨(j ≠ k/\σ.hp j=some o):=fun {j o} h=>by
  simp only[zDi]at h;cases hq:Nat.beq j k with
  | true=>rw[hq,cond_true]at h; cases h; exact .inl ⟨Nat.eq_of_beq_eq_true hq,rfl⟩
  | false=>rw[hq,cond_false]at h; exact .inr ⟨Nat.ne_of_beq_eq_false hq,h⟩
 have hget':∀ {j o},(zDi σ k (.arow e sz (rows.map (·.map AV.s)))).hp j=some o->∃ o',σ.hp j=some o':=fun {j o} h=>by
  rcases hget h with ⟨rfl,_⟩ | ⟨_,h⟩
  ·exact⟨_,hk⟩
  ·exact⟨_,h⟩
 refine⟨G,β,{ hc with hp:=fun j o hj=>?_,hplt:=fun j o hj=>?_,inj:=fun j j' o o' hj hj'=>(let ⟨_,h1⟩:=hget' hj; let ⟨_,h2⟩:=hget' hj'; hc.inj j j' _ _ h1 h2) }⟩
 ·rcases hget hj with ⟨rfl,rfl⟩ | ⟨_,h⟩
  ·obtain⟨hlen,hsz,ho⟩:=hc.hp j _ hk;refine⟨fun r hr=>by obtain⟨r',hr',rfl⟩:=List.mem_map.1 hr; simpa using hlen r' hr',hsz,ho.imp (fun h=>⟨h.1,by rw[h.2]; rfl⟩) ?_⟩
   rintro⟨b,cap,cur,h1,h2,h3,h4,h5,h6,h7⟩
   refine⟨b,cap,cur,by rw[List.length_map]; exact h1,by rw[List.length_map]; exact h2,h3,h4,h5,h6,fun i x hi=>?_⟩
   rw[hf,List.getElem?_map]at hi;obtain⟨s,hs,rfl⟩:=Option.map_eq_some_iff.1 hi;obtain⟨u,hu,hr⟩:=h7 i s hs;exact⟨u,hu,by simpa only[AVal] using hr,hr.one⟩
  ·exact hc.hp j o h
 ·rcases hget hj with ⟨rfl,rfl⟩ | ⟨_,h⟩
  ·refine⟨(hc.hplt j _ hk).1,?_⟩
   simp only[Ob.lt]; rw[hf]; exact zQl _
  ·exact hc.hplt j o h
theorem Le.giveBox (k:Nat){bt:Nat}{cells:List AV} (ss:List S) (hk:σ.hp k=some (.box bt cells)) (hs:zOJ cells=some ss):Le c σ (zNk σ k .junk (fun o=>.s (.pt (ss.drop o)))):=fun G β a w hc=>by
 obtain⟨b,e,cur,h1,h2,h3,h4,h5,h6⟩:=hc.hp k _ hk;have hreps:=zH2 hs h5;refine⟨fun i=>G i∨i=b,β,hc.given hk (fun _ h=>.inl h) (fun i h=>h.imp id (fun e=>by rw[h1,e]; rfl)) (fun _=>by simp only[AVal]) (fun b' o h=>?_) rfl (fun _=>rfl)⟩
 rw[h1]at h; cases h
 simp only[AVal,Rep]
 have hrow:RepRow (fun i=>G i∨i=b) w b ss 0:=RepRow.mk fun i s hi=>⟨.inr rfl,by
  obtain⟨u,hu,hr⟩:=zH1 hreps hi;rw[Array.getElem?_toList]at hu;exact⟨u,by simp[World.cell?,h2,hu],hr.keep ⟨fun _ h=>.inl h,fun _ _=>rfl⟩⟩⟩
 exact⟨b,o,rfl,by simpa using hrow.drop o⟩
theorem Le.takeNil (k off e:Nat){bt:Nat}{cells:List AV}{sz:Nat} (hk:σ.hp k=some (.box bt cells)) (ho:cells[off]? = some (.nl sz)) (hs:0<sz) :
  Le c σ (zAX (zDi σ k (.box bt (cells.set off (.orow σ.nx)))) (.row e sz [])):=fun G β a w hc=>by
 obtain⟨b,e0,cur,h1,h2,h3,h4,h5,h6⟩:=hc.hp k _ hk;have hkn:=(hc.hplt k _ hk).1;have hcl:AV.ltAll σ.nx cells=true:=(hc.hplt k _ hk).2;obtain⟨β',b1,b2,b3⟩:=hc.make (ob:=.row e sz []) (v:=.slice none 0 0) ⟨fun r hr=>(by cases hr),hs,.inl ⟨rfl,rfl⟩⟩ rfl (fun _ _ _ b hb=>by cases hb)
 have hk':(zAX σ (.row e sz [])).hp k=some (.box bt cells):=by
  show(bif Nat.beq k σ.nx then some (Ob.row e sz []) else σ.hp k)=_;cases e1:Nat.beq k σ.nx with
  | true=>have:=Nat.eq_of_beq_eq_true e1; omega
  | false=>rw[cond_false]; exact hk
 have hset:AVals G w β' (cells.set off (.orow σ.nx)) cur.toList:=by
  have h5':=h5.beta b1 hcl;refine AVals.mk (by rw[List.length_set]; exact h5.length) fun i x v hx hv=>?_
  rw[List.getElem?_set]at hx;split at hx
  ·rename_i hio
   subst hio;split at hx
   ·cases hx;obtain⟨u,hu,hn⟩:=h5'.get ho;rw[hu]at hv; cases hv
    simp only[AVal]at hn ⊢;exact⟨hn.trans b2.symm,_,_,_,hn⟩
   ·cases hx
  ·obtain⟨u,hu,hn⟩:=h5'.get hx;rw[hu]at hv; cases hv; exact hn
 have hlt2:AV.ltAll (σ.nx+1) (cells.set off (.orow σ.nx))=true:=zCO fun q y hq=>by
  rw[List.getElem?_set]at hq;split at hq
  ·split at hq
   ·cases hq; simp[AV.lt]
   ·cases hq
  ·exact AV.lt_mono (Nat.le_succ _) (zAR hcl hq)
 have hβk:β' k=β k:=b1 k hkn;have:=b3.write (j:=k) (ob:=.box bt cells) (ob':=.box bt (cells.set off (.orow σ.nx))) (w':=w) hk' (b:=b) (by rw[hβk,h1]; rfl) h3 h4 rfl rfl rfl rfl (fun _ _=>rfl)
  (fun _=>by rw[hβk]; exact⟨b,e0,cur,h1,h2,h3,h4,hset,h6⟩) hlt2
 refine⟨G,β',?_⟩
 have e2:(zAX (zDi σ k (.box bt (cells.set off (.orow σ.nx)))) (.row e sz []))={ zAX σ (.row e sz []) with hp:=fun k'=>bif Nat.beq k' k then some (.box bt (cells.set off (.orow σ.nx))) else (zAX σ (.row e sz [])).hp k' }:=by
  simp only[zAX,zDi,St.mk.injEq,true_and,and_true]
  funext k'
  cases e3:Nat.beq k' σ.nx with
  | true =>
   have h8:=Nat.eq_of_beq_eq_true e3;cases e4:Nat.beq k' k with
   | true=>have:=Nat.eq_of_beq_eq_true e4; omega
   | false=>rfl
  | false=>rfl
 rw[e2]; exact this
def zKm (tmps:Array Value):ResultVar->Sem Value
 | .tmp t=>pure (tmps.getD t undef)
 | .cell a t=>do loadVar t (← asAddr (tmps.getD a undef))
theorem zLu (fn:Func) (tmps:Array Value):results fn tmps=(do let vs←fn.results.mapM (zKm tmps); pure (if h:vs.size=1 then vs[0] else .tuple vs)):=rfl
def zNU (T:Nat->Option TI) (σ:St):ResultVar->Option AV
 | .tmp t=>some (σ.env t).deep
 | .cell t ty=>match σ.env t with
  | .op k 0=>match σ.hp k,T ty with
   | some (.box _ cells),some i=>match i.k.agg with
    | true=>match Nat.ble i.size cells.length with | true=>some (AV.deep (.agg (cells.take i.size))) | false=>none
    | false=>match cells with | x::_=>some x.nrm | []=>none
   | _,_=>none
  | .s (.pt row)=>zKD T ty row
  | _=>none
theorem zQB {T:Nat->Option TI} (hT:TOk c.P T){G:Nat->Prop}{β:Nat->Value}{a:Act}{w:World} (hc:Conc c G β σ a w){rv:ResultVar}{x:AV} (h:zNU T σ rv=some x) :
  ∃ v,(zKm a.tmps rv).run c.P w = .ok v w/\AVal G w β x v:=by
 cases rv with
 | tmp t=>simp only[zNU,Option.some.injEq]at h; subst h; exact⟨_,rfl,(hc.env t).deep⟩
 | cell t ty =>
  have he:=hc.env t;simp only[zNU]at h;split at h
  ·rename_i k e
   rw[e]at he;simp only[AVal]at he;obtain⟨b,hβ,hv⟩:=he;split at h
   ·rename_i cells i hh hi
    obtain⟨d,info,z,b1,b2,b3,b4,_⟩:=hT ty i hi;obtain⟨b',e',cur,o1,o2,o3,o4,o5,o6⟩:=hc.hp k _ hh;rw[hβ]at o1; cases o1
    have hcell:∀ q v,cur[q]? = some v->w.cell? ⟨b,q,none⟩=some v:=fun q v hq=>by simp[World.cell?,o2,hq]
    split at h
    ·rename_i hag
     split at h
     ·rename_i hle
      cases h;have hle:=Nat.le_of_ble_eq_true hle;have hl:=o5.length;simp only[Array.length_toList]at hl;have hlc:=run_loadCells_list (P:=c.P) w ⟨b,0,none⟩ (cur.toList.take i.size) fun q v hq=>by
       rw[List.getElem?_take]at hq;split at hq
       ·rw[Array.getElem?_toList]at hq;rw[addr_add,Nat.zero_add]; exact hcell _ _ hq
       ·cases hq
      have hlen:(cur.toList.take i.size).length=i.size :=(by simp; omega);rw[hlen]at hlc;refine⟨.agg (cur.toList.take i.size).toArray,?_,AVal.deep (by simp only[AVal]; exact⟨_,rfl,o5.take i.size⟩)⟩
      simp[zKm,hv,asAddr,loadVar,zCD w b1,b2,hag,zAq w b3,b4,hlc]
     ·cases h
    ·rename_i hag
     split at h
     ·rename_i z r hz
      cases h;obtain⟨u,hu,hr⟩:=o5.get (i:=0) rfl;rw[Array.getElem?_toList]at hu;exact⟨u,by simp[zKm,hv,asAddr,loadVar,zCD w b1,b2,hag,hcell _ _ hu],hr.nrm⟩
     ·cases h
   ·cases h
  ·rename_i row e
   rw[e]at he;simp only[AVal,Rep]at he;obtain⟨b,off,hv,hr⟩:=he;obtain⟨z,h1,h2⟩:=zIt (β:=β) hT h (fun i s hi=>(hr.get hi).2)
   exact⟨z,by simpa [zKm,hv,asAddr,Instr.loadAt,Instr.sureAddr] using h1,h2⟩
  ·cases h
def zGm (T:Nat->Option TI) (σ:St):List ResultVar->Option (List AV)
 | []=>some []
 | r::rs=>match zNU T σ r,zGm T σ rs with | some x,some xs=>some (x::xs) | _,_=>none
theorem zLt {T:Nat->Option TI} (hT:TOk c.P T){G:Nat->Prop}{β:Nat->Value}{a:Act}{w:World} (hc:Conc c G β σ a w):∀ {rs:List ResultVar}{xs:List AV},zGm T σ rs=some xs ->
  ∃ vs,(rs.mapM (m:=Sem) (zKm a.tmps)).run c.P w = .ok vs w/\AVals G w β xs vs
 | [],xs,h=>by simp only[zGm,Option.some.injEq]at h; subst h; exact⟨[],rfl,by simp only[AVals]⟩
 | r::rs,xs,h=>by
  simp only[zGm]at h;split at h
  ·rename_i x xs' h1 h2
   cases h;obtain⟨v,h3,h4⟩:=zQB hT hc h1;obtain⟨vs,h5,h6⟩:=zLt hT hc h2;refine⟨v::vs,?_,by simp only[AVals]; exact⟨v,vs,rfl,h4,h6⟩⟩
   rw[List.mapM_cons]
   simp only[Sem.run_bind,Sem.run_pure]
   rw[h3]; simp only[Result.andThen_ok,h5]
  ·cases h
def zIs (T:Nat->Option TI) (σ:St) (rs:List ResultVar):Option AV :=
 match zGm T σ rs with
 | some [x]=>some x
 | some xs=>some (.tup xs)
 | none=>none
theorem zFu {T:Nat->Option TI} (hT:TOk c.P T){G:Nat->Prop}{β:Nat->Value}{a:Act}{w:World} (hc:Conc c G β σ a w){fn:Func}{x:AV} (h:zIs T σ fn.results.toList=some x) :
  ∃ v,(results fn a.tmps).run c.P w = .ok v w/\AVal G w β x v:=by
 unfold zIs at h;have key:∀ {xs},zGm T σ fn.results.toList=some xs->∃ vs:List Value,(fn.results.mapM (m:=Sem) (zKm a.tmps)).run c.P w = .ok vs.toArray w/\AVals G w β xs vs:=fun {xs} hx=>by
  obtain⟨vs,h1,h2⟩:=zLt hT hc hx;refine⟨vs,?_,h2⟩
  rw[Array.mapM_eq_mapM_toList]
  simp only[Sem.run_map,h1,Result.andThen_ok]
 split at h
 ·rename_i y hy
  cases h;obtain⟨vs,h1,h2⟩:=key hy;simp only[AVals]at h2;obtain⟨v,vs',rfl,h3,rfl⟩:=h2;exact⟨v,by rw[zLu]; simp only[Sem.run_bind]; rw[h1]; rfl,h3⟩
 ·rename_i xs hn hy
  cases h;obtain⟨vs,h1,h2⟩:=key hy;refine⟨.tuple vs.toArray,?_,by simp only[AVal]; exact⟨vs,rfl,h2⟩⟩
  rw[zLu]
  simp only[Sem.run_bind]
  rw[h1]
  have hl:=h2.length;have:¬ (vs.toArray.size=1):=fun e=>by
   have:xs.length=1 :=(by rw[← hl]; simpa using e);obtain⟨y,rfl⟩:=List.length_eq_one_iff.1 this;exact hn y rfl
  simp only[Result.andThen_ok,Sem.run_pure]
  rw[dif_neg this]
 ·cases h
end
def start (xs:List AV):St:={ env:=fun t=>xs.getD t .junk,hp:=fun _=>none,nx:=0 }
def zCQ (c:Cx) (T:Nat->Option TI) (rs:List ResultVar) (r:Ret) (σ:St):Prop :=
 ∃ σ',Le c σ σ'/\match r with
  | .val x=>zIs T σ' rs=some x/\x.pers=true
  | .row e sz rows=>∃ k,zIs T σ' rs=some (.orow k)/\σ'.hp k=some (.row e sz rows)
def zDT (P:Program) (w0:World) (G0:Nat->Prop) (N:Nat):Cx:={ P:=P,w0:=w0,X:=fun _=>False,G0:=G0,N:=N }
theorem zAw {P:Program}{T:Nat->Option TI} (hT:TOk P T){f:Nat}{fn:Func}{code:Code}{s:zAp} (hcall:∀ args w,(callFunc f args).run P w = .ok (.enter f args) w)
  (hf:P.funcs[f]? = some fn) (hb:fn.body=some code) (hn:∀ xs r,s.spec xs r->xs.length<=fn.ntmps)
  (N:Nat) (hN:fn.ntmps=N)
  (h:∀ xs r w0 G0,s.spec xs r->AV.persAll xs=true->Tri (zDT P w0 G0 N) code (start xs) (fun e σ=>match e with | .exit _=>False | _=>zCQ (zDT P w0 G0 N) T fn.results.toList r σ)) (hown:s.own=none:=by rfl) (hheap:s.heap=none:=by rfl):PSound P f s:=by
 subst hN;refine⟨hcall,fun G w xs vs r hlt hgl hp hv hpre=>?_,fun R hR=>(by rw[hown]at hR; cases hR),fun R hR=>(by rw[hheap]at hR; cases hR)⟩
 let c:Cx:=zDT P w G fn.ntmps
 have hlen:=hv.length;have hxn:=hn xs r hpre;have hc:Conc c G (fun _=>.tuple #[]) (start xs) { tmps:=vs.toArray++Array.replicate (fn.ntmps - vs.toArray.size) undef,defers:=[] } w:={
  defers:=rfl
  size:=by simp only[Array.size_append,List.size_toArray,Array.size_replicate]; show _=fn.ntmps; omega
  env:=fun t=>by
   simp only[start]
   by_cases ht:t<xs.length
   ·obtain⟨v,h1,h2⟩:=hv.get (i:=t) (x:=xs[t]) (List.getElem?_eq_getElem ht)
    have e1:xs.getD t .junk=xs[t] :=(by simp[List.getElem?_eq_getElem ht]);have e2:(vs.toArray++Array.replicate (fn.ntmps - vs.toArray.size) undef).getD t undef=v:=by
     rw[Array.getD_eq_getD_getElem?,Array.getElem?_append_left (by simpa [hlen] using ht)]
     simp[h1]
    rw[e1,e2]; exact h2
   ·have:xs.getD t .junk = .junk :=(by simp[List.getElem?_eq_none (by omega:xs.length<=t)]);rw[this]; simp only[AVal]
  envlt:=fun t=>by
   simp only[start]
   by_cases ht:t<xs.length
   ·have e1:xs.getD t .junk=xs[t] :=(by simp[List.getElem?_eq_getElem ht]);rw[e1]; exact zAR (AV.persAll_lt hp) (List.getElem?_eq_getElem ht)
   ·have:xs.getD t .junk = .junk :=(by simp[List.getElem?_eq_none (by omega:xs.length<=t)]);rw[this]; rfl
  hp:=fun k ob hk=>by simp[start]at hk
  hplt:=fun k ob hk=>by simp[start]at hk
  inj:=fun k k' ob ob' hk=>by simp[start]at hk
  lt:=hlt
  sub:=fun b hb=>hb
  new:=fun b hb=>.inl hb
  fr:=Fr.refl _ _
  stay:=⟨Nat.le_refl _,fun k hk=>by cases hk⟩
  glob:=hgl }
 refine calls_of_wp hf hb ?_;refine wpIn_wide.1 (wpIn_mono (h xs r w G hpre hp G _ _ w hc) ?_)
 rintro e a' w' ⟨e',G',β',σ',rfl,hq,hc'⟩
 have fin:zCQ c T fn.results.toList r σ'->a'.defers=[]/\∃ v,(results fn a'.tmps).run P w' = .ok v w'/\(∃ v₀ G'',Ending.returned v = .returned v₀/\Ext G G'' w w'/\RetAt G'' w w' r v₀):=fun hq=>by
  obtain⟨σ2,hle,hr⟩:=hq;obtain⟨G2,β2,hc2⟩:=hle G' β' a' w' hc';have hext:Ext G G2 w w':=⟨hc2.fr.os,hc2.fr.tape,hc2.fr.output,hc2.fr.size,fun b hb=>hc2.fr.old b hb (fun h=>h),hc2.sub,fun b hb=>(hc2.new b hb).imp id (fun h=>h.elim False.elim id),hc2.lt⟩
  refine⟨hc2.defers,?_⟩
  unfold RetAt;split at hr
  ·rename_i x
   obtain⟨v,h1,h2⟩:=zFu (c:=c) hT hc2 hr.1;refine⟨v,h1,v,G2,rfl,hext,?_⟩
   exact⟨hr.2,AVal.pers hr.2 h2⟩
  ·rename_i e sz rows
   obtain⟨k,hk1,hk2⟩:=hr;obtain⟨v,h1,h2⟩:=zFu (c:=c) hT hc2 hk1;refine⟨v,h1,v,G2,rfl,hext,?_⟩
   simp only[AVal]at h2;obtain⟨rfl,_⟩:=h2;obtain⟨q1,q2,q3⟩:=hc2.hp k _ hk2;refine⟨q1,q2,q3.imp id ?_⟩
   rintro⟨b,cap,cur,g1,g2,g3,g4,g5,g6,g7⟩
   exact⟨b,cap,cur,g1,g2,g3,g4,g5,g6.elim False.elim id,g7⟩
 cases e' with
 | normal=>exact fin hq
 | ret=>exact fin hq
 | exit id=>exact hq.elim
theorem fin0 {c:Cx}{T:Nat->Option TI}{rs:List ResultVar}{x:AV}{σ:St} (h1:zIs T σ rs=some x) (h2:x.pers=true):zCQ c T rs (.val x) σ :=
 ⟨σ,Le.refl _ _,h1,h2⟩
def zLy (xs:List AV) (os:List Ob):St:={ env:=fun t=>xs.getD t .junk,hp:=fun k=>os[k]?,nx:=os.length }
def zOT (hp:Nat->Option Ob) (n:Nat):Nat->List (Option Ob)->Prop
 | _,[]=>True
 | i,none::r=>zOT hp n (i+1) r
 | i,some ob::r=>hp i=some ob/\ob.lt n=true/\zOT hp n (i+1) r
theorem zIf {hp:Nat->Option Ob}{n:Nat}:∀ {os:List (Option Ob)}{i j:Nat}{ob:Ob},zOT hp n i os->os[j]? = some (some ob)->hp (i+j)=some ob/\ob.lt n=true
 | [],_,_,_,_,h=>by simp at h
 | none::r,i,j,ob,h,hj=>by
  cases j with
  | zero=>simp at hj
  | succ j=>rw[show i+(j+1)=i+1+j by omega]; exact zIf (os:=r) h (by simpa using hj)
 | some o::r,i,j,ob,h,hj=>by
  cases j with
  | zero=>simp at hj; subst hj; exact⟨h.1,h.2.1⟩
  | succ j=>rw[show i+(j+1)=i+1+j by omega]; exact zIf (os:=r) h.2.2 (by simpa using hj)
def zAM (c:Cx) (T:Nat->Option TI) (rs:List ResultVar) (x:AV) (os':List (Option Ob)) (σ:St):Prop :=
 ∃ σ',Le c σ σ'/\zIs T σ' rs=some x/\x.lt os'.length=true/\zOT σ'.hp os'.length 0 os'
theorem ObAt.cx {c1 c2:Cx}{G:Nat->Prop}{w:World}{β:Nat->Value}{v:Value}{o:Ob} (hm:∀ b,c1.mine b->c2.mine b) (h:ObAt c1 G w β v o):ObAt c2 G w β v o:=by
 cases o with
 | box xs =>
  obtain⟨b,e,cur,q1,q2,q3,q4,q5,q6⟩:=h;exact⟨b,e,cur,q1,q2,q3,hm b q4,q5,q6⟩
 | row e sz rows =>
  obtain⟨h1,h2,h3⟩:=h;refine⟨h1,h2,h3.imp id ?_⟩
  rintro⟨b,cap,cur,k1,k2,k3,k4,k5,k6,k7⟩
  exact⟨b,cap,cur,k1,k2,k3,k4,k5,hm b k6,k7⟩
 | arow e sz rows=>exact h.mv (fun b _=>hm b)
theorem zBm {P:Program}{T:Nat->Option TI} (hT:TOk P T){f:Nat}{fn:Func}{code:Code}{R:List AV->List Ob->AV->List (Option Ob)->Prop} (hcall:∀ args w,(callFunc f args).run P w = .ok (.enter f args) w)
  (hf:P.funcs[f]? = some fn) (hb:fn.body=some code) (hn:∀ xs os x os',R xs os x os'->xs.length<=fn.ntmps/\os.length<=os'.length)
  (N:Nat) (hN:fn.ntmps=N)
  (h:∀ xs os x os' w0 G0 B0,R xs os x os'->AV.ltAll os.length xs=true->Tri (zEP P w0 B0 os.length G0 N) code (zLy xs os) (fun e σ=>match e with | .exit _=>False | _=>zAM (zEP P w0 B0 os.length G0 N) T fn.results.toList x os' σ)):PSound P f (zA5 R):=by
 subst hN;refine⟨hcall,fun G w xs vs r _ _ _ _ hpre=>hpre.elim,fun R' hR'=>?_,fun R hR=>(by cases hR)⟩
 obtain rfl:R=R' :=(by simpa [zA5] using hR');intro G w β xs vs os x os' hlt hgl hv hxl hobs hR
 let c:Cx:=zEP P w β os.length G fn.ntmps
 have hlen:=hv.length;obtain⟨hxn,hol⟩:=hn xs os x os' hR;have hget:∀ (k:Nat) ob,(zLy xs os).hp k=some ob->(os.map some)[k]? = some (some ob):=fun k ob hk=>by
  simp only[zLy]at hk;rw[List.getElem?_map,hk]; rfl
 have hc:Conc c G β (zLy xs os) { tmps:=vs.toArray++Array.replicate (fn.ntmps - vs.toArray.size) undef,defers:=[] } w:={
  defers:=rfl
  size:=by simp only[Array.size_append,List.size_toArray,Array.size_replicate]; show _=fn.ntmps; omega
  env:=fun t=>by
   simp only[zLy]
   by_cases ht:t<xs.length
   ·obtain⟨v,h1,h2⟩:=hv.get (i:=t) (x:=xs[t]) (List.getElem?_eq_getElem ht)
    have e1:xs.getD t .junk=xs[t] :=(by simp[List.getElem?_eq_getElem ht]);have e2:(vs.toArray++Array.replicate (fn.ntmps - vs.toArray.size) undef).getD t undef=v:=by
     rw[Array.getD_eq_getD_getElem?,Array.getElem?_append_left (by simpa [hlen] using ht)]
     simp[h1]
    rw[e1,e2]; exact h2
   ·have:xs.getD t .junk = .junk :=(by simp[List.getElem?_eq_none (by omega:xs.length<=t)]);rw[this]; simp only[AVal]
  envlt:=fun t=>by
   simp only[zLy]
   by_cases ht:t<xs.length
   ·have e1:xs.getD t .junk=xs[t] :=(by simp[List.getElem?_eq_getElem ht]);rw[e1]; exact zAR hxl (List.getElem?_eq_getElem ht)
   ·have:xs.getD t .junk = .junk :=(by simp[List.getElem?_eq_none (by omega:xs.length<=t)]);rw[this]; rfl
  hp:=fun k ob hk=>ObAt.cx (fun _ h=>h) (hobs.1 k ob (hget k ob hk)).1
  hplt:=fun k ob hk=>⟨(List.getElem?_eq_some_iff.1 hk).1,by have:=(hobs.1 k ob (hget k ob hk)).2; rwa [List.length_map]at this⟩
  inj:=fun k k' ob ob' hk hk' hne b=>hobs.2 k k' ob ob' (hget k ob hk) (hget k' ob' hk') hne b
  lt:=hlt
  sub:=fun b hb=>hb
  new:=fun b hb=>.inl hb
  fr:=Fr.refl _ _
  stay:=⟨Nat.le_refl _,fun _ _=>rfl⟩
  glob:=hgl }
 refine calls_of_wp hf hb ?_;refine wpIn_wide.1 (wpIn_mono (h xs os x os' w G β hR hxl G β _ w hc) ?_)
 rintro e a' w' ⟨e',G',β',σ',rfl,hq,hc'⟩
 have fin:zAM c T fn.results.toList x os' σ'->a'.defers=[]/\∃ v,(results fn a'.tmps).run P w' = .ok v w'/\(∃ v₀ G'' β'',Ending.returned v = .returned v₀/\Fr (zEP P w β os.length G 0).X w w'/\(∀ b,G b->G'' b)/\(∀ b,G'' b->G b∨(zEP P w β os.length G 0).mine b)/\(∀ b,G'' b->b<w'.heap.size) /\
   AVal G'' w' β'' x v₀/\x.lt os'.length=true/\os.length<=os'.length/\zPN (zEP P w β os.length G 0) G'' w' β'' os'/\∀ (i:Nat) ob,i<os.length->os'[i]? = some (some ob)->β'' i=β i):=fun hq=>by
  obtain⟨σ2,hle,hr,hxl,hh⟩:=hq;obtain⟨G2,β2,hc2⟩:=hle G' β' a' w' hc';refine⟨hc2.defers,?_⟩
  obtain⟨v,h1,h2⟩:=zFu (c:=c) hT hc2 hr;have hg:∀ (i:Nat) ob,os'[i]? = some (some ob)->σ2.hp i=some ob/\ob.lt os'.length=true:=fun i ob hi=>by simpa using zIf hh hi
  exact⟨v,h1,v,G2,β2,rfl,hc2.fr,hc2.sub,hc2.new,hc2.lt,h2,hxl,hol,
   ⟨fun i ob hi=>⟨ObAt.cx (fun _ h=>h) (hc2.hp i ob (hg i ob hi).1),(hg i ob hi).2⟩,fun i j ob ob' hi hj hne b=>hc2.inj i j ob ob' (hg i ob hi).1 (hg j ob' hj).1 hne b⟩,
   fun i ob hi ho=>hc2.stay.2 i hi⟩
 cases e' with
 | normal=>exact fin hq
 | exit=>exact hq.elim
 | ret=>exact fin hq
theorem zRn {c:Cx}{T:Nat->Option TI}{σ:St}{G:Nat->Prop}{β:Nat->Value}{a:Act}{w:World} (hc:Conc c G β σ a w){rv:ResultVar}{x:AV} (h:zNU T σ rv=some x):x.lt σ.nx=true:=by
 unfold zNU at h;split at h
 ·cases h; exact AV.deep_lt (hc.envlt _)
 ·split at h
  ·split at h
   ·rename_i cells i hk hi
    have hl:AV.ltAll σ.nx cells=true :=(by simpa [Ob.lt] using (hc.hplt _ _ hk).2);split at h
    ·split at h
     ·cases h;refine AV.deep_lt ?_;simp only[AV.lt]
      exact zCO fun q y hq=>zAR hl (by
       rw[List.getElem?_take]at hq;split at hq
       ·exact hq
       ·cases hq)
     ·cases h
    ·split at h
     ·cases h;simp only[AV.ltAll,Bool.and_eq_true]at hl;exact AV.nrm_lt hl.1
     ·cases h
   ·cases h
  ·exact zL4 h
  ·cases h
theorem zKl {c:Cx}{T:Nat->Option TI}{σ:St}{G:Nat->Prop}{β:Nat->Value}{a:Act}{w:World} (hc:Conc c G β σ a w):∀ {rs:List ResultVar}{xs:List AV},zGm T σ rs=some xs->AV.ltAll σ.nx xs=true
 | [],xs,h=>by simp only[zGm,Option.some.injEq]at h; subst h; rfl
 | r::rs,xs,h=>by
  simp only[zGm]at h;split at h
  ·rename_i x ys h1 h2
   cases h;simp only[AV.ltAll,Bool.and_eq_true]
   exact⟨zRn hc h1,zKl hc h2⟩
  ·cases h
theorem zRo {c:Cx}{T:Nat->Option TI}{σ:St}{G:Nat->Prop}{β:Nat->Value}{a:Act}{w:World} (hc:Conc c G β σ a w){rs:List ResultVar}{x:AV} (h:zIs T σ rs=some x):x.lt σ.nx=true:=by
 unfold zIs at h;split at h
 ·rename_i y hy
  cases h;have:=zKl hc hy;simp only[AV.ltAll,Bool.and_true]at this;exact this
 ·rename_i xs _ hy
  cases h;simp only[AV.lt]
  exact zKl hc hy
 ·cases h
def zGM (c:Cx) (T:Nat->Option TI) (rs:List ResultVar) (Φ:AV->(Nat->Option Ob)->Nat->Prop) (σ:St):Prop :=
 ∃ σ',Le c σ σ'/\∃ x,zIs T σ' rs=some x/\Φ x σ'.hp σ'.nx
theorem zLe {P:Program}{T:Nat->Option TI} (hT:TOk P T){f:Nat}{fn:Func}{code:Code}{R:List AV->(Nat->Option Ob)->Nat->(AV->(Nat->Option Ob)->Nat->Prop)->Prop} (hcall:∀ args w,(callFunc f args).run P w = .ok (.enter f args) w)
  (hf:P.funcs[f]? = some fn) (hb:fn.body=some code) (hn:∀ xs hp n Φ,R xs hp n Φ->xs.length<=fn.ntmps)
  (N:Nat) (hN:fn.ntmps=N)
  (h:∀ xs hp n Φ w0 G0 B0,R xs hp n Φ->AV.ltAll n xs=true->(∀ k ob,hp k=some ob->k<n/\ob.lt n=true)->Tri (zC4 P w0 B0 hp n G0 N) code ⟨fun t=>xs.getD t .junk,hp,n⟩ (fun e σ=>match e with | .exit _=>False | _=>zGM (zC4 P w0 B0 hp n G0 N) T fn.results.toList Φ σ)):PSound P f (zL2 R):=by
 subst hN;refine⟨hcall,fun G w xs vs r _ _ _ _ hpre=>hpre.elim,fun R hR=>(by cases hR),fun R' hR'=>?_⟩
 obtain rfl:R=R' :=(by simpa [zL2] using hR');intro G w β xs vs hp n Φ hlt hgl hv hxl hobs hR
 let c:Cx:=zC4 P w β hp n G fn.ntmps
 have hlen:=hv.length;have hxn:=hn xs hp n Φ hR;have hc:Conc c G β ⟨fun t=>xs.getD t .junk,hp,n⟩ { tmps:=vs.toArray++Array.replicate (fn.ntmps - vs.toArray.size) undef,defers:=[] } w:={
  defers:=rfl
  size:=by simp only[Array.size_append,List.size_toArray,Array.size_replicate]; show _=fn.ntmps; omega
  env:=fun t=>by
   dsimp only
   by_cases ht:t<xs.length
   ·obtain⟨v,h1,h2⟩:=hv.get (i:=t) (x:=xs[t]) (List.getElem?_eq_getElem ht)
    have e1:xs.getD t .junk=xs[t] :=(by simp[List.getElem?_eq_getElem ht]);have e2:(vs.toArray++Array.replicate (fn.ntmps - vs.toArray.size) undef).getD t undef=v:=by
     rw[Array.getD_eq_getD_getElem?,Array.getElem?_append_left (by simpa [hlen] using ht)]
     simp[h1]
    rw[e1,e2]; exact h2
   ·have:xs.getD t .junk = .junk :=(by simp[List.getElem?_eq_none (by omega:xs.length<=t)]);rw[this]; simp only[AVal]
  envlt:=fun t=>by
   dsimp only
   by_cases ht:t<xs.length
   ·have e1:xs.getD t .junk=xs[t] :=(by simp[List.getElem?_eq_getElem ht]);rw[e1]; exact zAR hxl (List.getElem?_eq_getElem ht)
   ·have:xs.getD t .junk = .junk :=(by simp[List.getElem?_eq_none (by omega:xs.length<=t)]);rw[this]; rfl
  hp:=fun k ob hk=>ObAt.cx (fun _ h=>h) (hobs.obs k ob hk)
  hplt:=hobs.lts
  inj:=hobs.inj
  lt:=hlt
  sub:=fun b hb=>hb
  new:=fun b hb=>.inl hb
  fr:=Fr.refl _ _
  stay:=⟨Nat.le_refl _,fun _ _=>rfl⟩
  glob:=hgl }
 refine calls_of_wp hf hb ?_;refine wpIn_wide.1 (wpIn_mono (h xs hp n Φ w G β hR hxl hobs.lts G β _ w hc) ?_)
 rintro e a' w' ⟨e',G',β',σ',rfl,hq,hc'⟩
 have fin:zGM c T fn.results.toList Φ σ'->a'.defers=[]/\∃ v,(results fn a'.tmps).run P w' = .ok v w'/\(∃ v₀ G'' β'' x hp' n',Ending.returned v = .returned v₀/\Φ x hp' n'/\n<=n'/\Fr (zC4 P w β hp n G 0).X w w'/\(∀ b,G b->G'' b)/\(∀ b,G'' b->G b∨(zC4 P w β hp n G 0).mine b)/\(∀ b,G'' b->b<w'.heap.size) /\
   AVal G'' w' β'' x v₀/\x.lt n'=true/\HpAt (zC4 P w β hp n G 0) G'' w' β'' hp' n'/\∀ k,k<n->β'' k=β k):=fun hq=>by
  obtain⟨σ2,hle,x,hr,hΦ⟩:=hq;obtain⟨G2,β2,hc2⟩:=hle G' β' a' w' hc';refine⟨hc2.defers,?_⟩
  obtain⟨v,h1,h2⟩:=zFu (c:=c) hT hc2 hr;exact⟨v,h1,v,G2,β2,x,σ2.hp,σ2.nx,rfl,hΦ,hc2.stay.1,hc2.fr,hc2.sub,hc2.new,hc2.lt,h2,zRo hc2 hr,
   ⟨fun k ob hk=>ObAt.cx (fun _ h=>h) (hc2.hp k ob hk),hc2.hplt,hc2.inj⟩,hc2.stay.2⟩
 cases e' with
 | normal=>exact fin hq
 | exit=>exact hq.elim
 | ret=>exact fin hq
attribute [irreducible] Tri Le zCQ zAM zGM
section
variable {T:Nat->Option TI} {Γ:Nat->Option zAp} {env env':Nat->AV}
theorem zHh {place:Nat->Option (Nat×Nat)}:∀ {parts:List (Nat×Operand)}{cells:List AV},(∀ p∈parts,∀ ty,opd T env ty p.2=opd T env' ty p.2)->zI5 T env place cells parts=zI5 T env' place cells parts
 | [],_,_=>rfl
 | (j,x)::r,cells,h=>by
  have h1:=h (j,x) (by simp)
  simp only[zI5,zCf]
  split
  ·rfl
  ·split
   ·rfl
   ·simp only[h1]
    split
    ·exact zHh fun p hp=>h p (by simp[hp])
    ·rfl
theorem zGk {e:Nat}:∀ {parts:List (Nat×Operand)}{i:Nat},(∀ p∈parts,∀ ty,opd T env ty p.2=opd T env' ty p.2)->zHX T env e i parts=zHX T env' e i parts
 | [],_,_=>rfl
 | (j,x)::r,i,h=>by
  have h1:=h (j,x) (by simp)
  simp only[zHX,h1,zGk (parts:=r) fun p hp=>h p (by simp[hp])]
theorem zHR {ty:Nat}{xs:List Operand} (h:∀ x∈xs,∀ ty,opd T env ty x=opd T env' ty x):xs.map (opd T env ty)=xs.map (opd T env' ty) :=
 List.map_congr_left fun x hx=>h x hx ty
theorem zIl:∀ {xs:List Operand}{ts:List Nat},(∀ x∈xs,∀ ty,opd T env ty x=opd T env' ty x)->opds T env xs ts=opds T env' xs ts
 | [],_,_=>rfl
 | x::xs,ts,h=>by
  simp only[opds,h x (by simp),zIl (xs:=xs) fun y hy=>h y (by simp[hy])]
theorem zKd:∀ {xs:List Operand}{ts:List Nat},(∀ x∈xs,∀ ty,opd T env ty x=opd T env' ty x)->zNL T env xs ts=zNL T env' xs ts
 | [],_,_=>rfl
 | x::xs,ts,h=>by
  simp only[zNL]
  rw[h x List.mem_cons_self,zKd fun y hy=>h y (List.mem_cons_of_mem _ hy)]
theorem zLo {ty:Nat}{x:Option Operand} (h:∀ y,x=some y->∀ ty,opd T env ty y=opd T env' ty y):x.map (opd T env ty)=x.map (opd T env' ty):=by
 cases x with
 | none=>rfl
 | some y=>simp[h y rfl]
theorem zEG {own:Bool}{o:Oper} (h:∀ x∈o.op.operands,∀ ty,opd T env ty x=opd T env' ty x):zBw T own o env=zBw T own o env':=by
 unfold zBw;cases hop:o.op <;> rw[hop]at h <;> simp only[Op.operands]at h <;> (try dsimp only)
 case move x=>simp only[h x (by simp)]
 case assign x=>simp only[h x (by simp)]
 case pick c x y=>simp only[h c (by simp),h x (by simp),h y (by simp)]
 case box t x=>simp only[h x (by simp)]
 case build t parts =>
  unfold zOZ;have hp:∀ p∈parts.toList,∀ ty,opd T env ty p.2=opd T env' ty p.2:=fun p hp=>h p.2 (by simp; exact⟨p.1,by simpa using hp⟩)
  split
  ·rfl
  ·split
   ·rw[zHh hp]
   ·split
    ·rw[zHh hp]
    ·rfl
   ·rfl
 case buildSlice t n parts =>
  have hp:∀ p∈parts.toList,∀ ty,opd T env ty p.2=opd T env' ty p.2:=fun p hp=>h p.2 (by simp; exact⟨p.1,by simpa using hp⟩)
  split
  ·split
   ·split
    ·rw[zGk hp]
    ·rfl
   ·rfl
  ·rfl
 case load t x=>simp only[h x (by simp)]
 case nilCheck x=>simp only[h x (by simp)]
 case binOp op t x y u=>simp only[h x (by simp),h y (by simp)]
 case unOp op t x=>simp only[h x (by simp)]
 case convert src dst x=>simp only[h x (by simp)]
 case makeFunc fn first caps =>
  cases fn <;> dsimp only
  split
  ·rfl
  ·rename_i cs e1 e2 e3
   have:∀ x∈caps.toList,∀ ty,opd T env ty x=opd T env' ty x:=fun x hx=>h x (by simp; exact .inr (by simpa using hx))
   rw[zHR this]
  ·have:∀ x∈first.toList,∀ ty,opd T env ty x=opd T env' ty x:=fun x hx=>h x (by simp; exact .inl (by simpa using hx))
   rw[zHR this]
  ·rfl
 case slice t x lo hi mx =>
  cases mx <;> dsimp only
  rw[h x (by simp),zLo (fun y e=>h y (by subst e; simp)),zLo (x:=hi) (fun y e=>h y (by subst e; simp))]
 case fieldAddr t x f=>simp only[h x (by simp)]
 case field t x f=>simp only[h x (by simp)]
 case indexAddr t x i=>simp only[h x (by simp),h i (by simp)]
 case index t x i=>simp only[h x (by simp),h i (by simp)]
 case extract x i=>simp only[h x (by simp)]
 case call c =>
  obtain⟨callee,args,ts⟩:=c;have ha:∀ x∈args.toList,∀ ty,opd T env ty x=opd T env' ty x:=fun x hx=>h x (by simp[Call.operands]; exact .inr (by simpa using hx))
  cases callee with
  | builtin b =>
   cases b <;> dsimp only
   case len =>
    split
    ·rename_i x t e1 e2
     rw[ha x (by rw[e1]; simp)]
    ·rfl
   case cap =>
    split
    ·rename_i x t e1 e2
     rw[ha x (by rw[e1]; simp)]
    ·rfl
   case min=>rw[zHR ha]
   case max=>rw[zHR ha]
   case copy =>
    split
    ·rename_i x y t tx e1 e2
     rw[ha x (by rw[e1]; simp),ha y (by rw[e1]; simp)]
    ·rfl
  | value f=>rfl
  | invoke r m=>rfl
theorem zBB {o:Oper} (h:∀ x∈o.op.operands,∀ ty,opd T env ty x=opd T env' ty x):callOf T Γ o env=callOf T Γ o env':=by
 unfold callOf;split
 ·rename_i f args ts ho
  rw[ho]at h;simp only[Op.operands,Call.operands]at h;have ha:∀ x∈args.toList,∀ ty,opd T env ty x=opd T env' ty x:=fun x hx=>h x (by simp; exact .inr (by simpa using hx))
  unfold zM4;rw[h f (by simp),zIl ha,zKd ha]
 ·rfl
theorem zB3 {o:Oper} (h:∀ x∈o.op.operands,∀ ty,opd T env ty x=opd T env' ty x):zA6 T o env=zA6 T o env':=by
 unfold zA6;split
 ·rename_i f args ts ho
  rw[ho]at h;simp only[Op.operands,Call.operands]at h;have ha:∀ x∈args.toList,∀ ty,opd T env ty x=opd T env' ty x:=fun x hx=>h x (by simp; exact .inr (by simpa using hx))
  rw[h f (by simp),zIl ha]
 ·rfl
def zRm (env:Nat->AV) (r:Option Prop×AV×St):Option Prop×AV×St:=(r.1,r.2.1,{ r.2.2 with env:=env })
theorem zOl {own:Bool}{o:Oper}{σ:St} (h:∀ x∈o.op.operands,∀ ty,opd T σ.env ty x=opd T env' ty x) :
  zCg T own o { σ with env:=env' }=(zCg T own o σ).map (zRm env'):=by
 obtain⟨env,hp,nx⟩:=σ;dsimp only at h;unfold zCg;simp only[zCf]
 cases hop:o.op <;> rw[hop]at h <;> simp only[Op.operands]at h <;> (try dsimp only)
 case move x =>
  split
  ·split <;> rfl
  ·rfl
 case assign x =>
  split
  ·split <;> rfl
  ·rfl
 case box t x =>
  rw[← h x (by simp)]
  split <;> rfl
 case alloc t=>split <;> rfl
 case buildSlice t n parts =>
  have hp:∀ p∈parts.toList,∀ ty,opd T env ty p.2=opd T env' ty p.2:=fun p hp=>h p.2 (by simp; exact⟨p.1,by simpa using hp⟩)
  split
  ·rw[← zGk hp]
   split
   ·split <;> rfl
   ·rfl
  ·rfl
 case makeSlice t l c =>
  rw[← h l (by simp),← h c (by simp)]
  split
  ·split <;> rfl
  ·rfl
 case load t x =>
  rw[← h x (by simp)]
  split
  ·split
   ·split
    ·split <;> rfl
    ·split <;> rfl
   ·rfl
  ·rfl
 case store t x y =>
  rw[← h x (by simp),← h y (by simp)]
  split
  ·split
   ·split <;> rfl
   ·rfl
  ·split
   ·split <;> rfl
   ·rfl
  ·rfl
 case indexAddr t x i =>
  rw[← h x (by simp),← h i (by simp)]
  split
  ·split
   ·split <;> rfl
   ·rfl
  ·rfl
 case convert src dst x =>
  rw[← h x (by simp)]
  split
  ·split
   ·split <;> rfl
   ·rfl
  ·split
   ·split <;> rfl
   ·rfl
  ·rfl
 case slice t x lo hi mx =>
  cases lo <;> cases hi <;> cases mx <;> try rfl
  rename_i hi
  dsimp only;rw[← h x (by simp),← h hi (by simp)]
  split
  ·split
   ·split <;> rfl
   ·rfl
  ·rfl
 case call c =>
  obtain⟨callee,args,ts⟩:=c;have ha:∀ x∈args.toList,∀ ty,opd T env ty x=opd T env' ty x:=fun x hx=>h x (by simp[Call.operands]; exact .inr (by simpa using hx))
  cases callee with
  | builtin b =>
   cases b <;> try rfl
   case len =>
    dsimp only;split
    ·rename_i x t e1 e2
     rw[← ha x (by rw[e1]; simp)]
     split
     ·split <;> rfl
     ·rfl
    ·rfl
   case append =>
    dsimp only;split
    ·rename_i x y t tx e1 e2
     rw[← ha x (by rw[e1]; simp),← ha y (by rw[e1]; simp)]
     unfold zHj;have e3:∀ z,zIL ⟨env',hp,nx⟩ z=zIL ⟨env,hp,nx⟩ z:=fun z=>by cases z <;> rfl
     have e4:∀ z,rowsOf T ⟨env',hp,nx⟩ tx z=rowsOf T ⟨env,hp,nx⟩ tx z:=fun z=>by unfold rowsOf; rfl
     rw[e3,e4]
     split
     ·split
      ·split
       ·rfl
       ·split <;> rfl
      ·rfl
     ·rfl
    ·rfl
  | value f=>rfl
  | invoke r m=>rfl
 all_goals rfl
theorem zNt {o:Oper}{σ:St} (h:∀ x∈o.op.operands,∀ ty,opd T σ.env ty x=opd T env' ty x) :
  zB6 T o { σ with env:=env' }=(zB6 T o σ).map (zRm env'):=by
 obtain⟨env,hp,nx⟩:=σ;dsimp only at h;unfold zB6;cases hop:o.op <;> rw[hop]at h <;> simp only[Op.operands]at h <;> (try dsimp only)
 case buildSlice t n parts =>
  have hp:∀ p∈parts.toList,∀ ty,opd T env ty p.2=opd T env' ty p.2:=fun p hp=>h p.2 (by simp; exact⟨p.1,by simpa using hp⟩)
  have hc:∀ (e:Nat) (ps:List (Nat×Operand)) (i:Nat),(∀ p∈ps,∀ ty,opd T env ty p.2=opd T env' ty p.2)->zGj T env e i ps=zGj T env' e i ps:=by
   intro e ps
   induction ps with
   | nil=>intro i _; rfl
   | cons p ps ih =>
    intro i hh;obtain⟨j,x⟩:=p;simp only[zGj]
    rw[hh (j,x) (by simp),ih (i+1) fun p hp=>hh p (by simp[hp])]
  split
  ·rw[← hc _ _ _ hp]
   split
   ·split <;> rfl
   ·rfl
  ·rfl
 case store t x y =>
  rw[← h x (by simp),← h y (by simp)]
  split
  ·split
   ·split <;> rfl
   ·rfl
  ·rfl
 case indexAddr t x i =>
  rw[← h x (by simp),← h i (by simp)]
  split
  ·split
   ·split <;> rfl
   ·rfl
  ·rfl
 case slice t x lo hi mx =>
  cases lo <;> cases hi <;> cases mx <;> try rfl
  rename_i hi
  dsimp only;rw[← h x (by simp),← h hi (by simp)]
  split
  ·split
   ·split <;> rfl
   ·rfl
  ·rfl
 case call c =>
  obtain⟨callee,args,ts⟩:=c;have ha:∀ x∈args.toList,∀ ty,opd T env ty x=opd T env' ty x:=fun x hx=>h x (by simp[Call.operands]; exact .inr (by simpa using hx))
  cases callee with
  | builtin b =>
   cases b <;> try rfl
   case len =>
    dsimp only;split
    ·rename_i x t e1 e2
     rw[← ha x (by rw[e1]; simp)]
     split
     ·split <;> rfl
     ·rfl
    ·rfl
   case append =>
    dsimp only;split
    ·rename_i x y t tx e1 e2
     rw[← ha x (by rw[e1]; simp),← ha y (by rw[e1]; simp)]
     have e3:∀ z,zI4 ⟨env',hp,nx⟩ z=zI4 ⟨env,hp,nx⟩ z:=fun z=>by cases z <;> rfl
     have e4:∀ z,zJd T ⟨env',hp,nx⟩ tx z=zJd T ⟨env,hp,nx⟩ tx z:=fun z=>by unfold zJd; rfl
     rw[e3,e4]
     split
     ·split <;> rfl
     ·rfl
    ·rfl
   case copy =>
    dsimp only;split
    ·rename_i x y t tx e1 e2
     rw[← ha x (by rw[e1]; simp),← ha y (by rw[e1]; simp)]
     have e3:∀ z,zI4 ⟨env',hp,nx⟩ z=zI4 ⟨env,hp,nx⟩ z:=fun z=>by cases z <;> rfl
     have e4:∀ z,zJd T ⟨env',hp,nx⟩ tx z=zJd T ⟨env,hp,nx⟩ tx z:=fun z=>by unfold zJd; rfl
     rw[e3,e4]
     split
     ·split <;> rfl
     ·rfl
    ·rfl
  | value f=>rfl
  | invoke r m=>rfl
 all_goals rfl
theorem zF8 {own:Bool}{o:Oper}{σ:St} (h:∀ x∈o.op.operands,∀ ty,opd T σ.env ty x=opd T env' ty x) :
  zBf T own o { σ with env:=env' }=(zBf T own o σ).map (zRm env'):=by
 unfold zBf;rw[zOl h,zNt h]
 cases zCg T own o σ <;> rfl
theorem zPs {own:Bool}{o:Oper}{σ σ':St}{φ:Option Prop}{x:AV} (h:zBf T own o σ=some (φ,x,σ')):σ'.env=σ.env:=by
 have:=zF8 (T:=T) (own:=own) (o:=o) (σ:=σ) (env':=σ.env) (fun _ _ _=>rfl)
 have e:({ σ with env:=σ.env }:St)=σ:=rfl;rw[e,h]at this;simp only[Option.map_some,Option.some.injEq,zRm,Prod.mk.injEq]at this;rw[this.2.2]
def zGX (Γ:Nat->Option zAp) (f:Nat):Option zAp :=
 match Γ f with
 | some s=>match s.heap with | none=>some s | some _=>none
 | none=>none
theorem zGv {Γ:Nat->Option zAp}{f:Nat}{s:zAp} (h:zGX Γ f=some s):Γ f=some s/\s.heap=none:=by
 unfold zGX at h;split at h
 ·split at h
  ·cases h; exact⟨by assumption,by assumption⟩
  ·cases h
 ·cases h
def slO (own:Bool) (o:Oper):Bool :=
 match o.op with
 | .slice ..=>own
 | _=>false
def runs (T:Nat->Option TI) (Γ:Nat->Option zAp) (own loud:Bool) (o:Oper) (σ σ1:St):Prop :=
 match callOf T Γ o σ.env with
 | some (_,s,xs)=>∃ r x σ',s.spec xs r/\zA4 (own&&loud) σ r=some (x,σ')/\σ1=σ'.put o.dst x
 | none=>match loud with
  | true=>match step1 T own o σ with
   | some (φ,x,σ')=>φ.getD True/\σ1=σ'.put o.dst x
   | none=>zEL T (zGX Γ) own o σ fun x σ'=>σ1=σ'.put o.dst x
  | false=>∃ φ x,zBw T (slO own o) o σ.env=some (φ,x)/\φ.getD True/\σ1=σ.put o.dst x
def gate (all:List Oper) (o:Oper) (env:Nat->AV):Option Bool :=
 match o.guard with
 | none=>some true
 | some (j,want)=>match (all[j]?).bind (fun o=>o.dst) with
  | some g=>match env g with
   | .s (.bool b)=>some (b == want)
   | .tup []=>some false
   | _=>none
  | none=>none
def outc (T:Nat->Option TI) (Γ:Nat->Option zAp) (all:List Oper) (own loud:Bool) (o:Oper) (σ σ1:St):Prop :=
 match gate all o σ.env with
 | some true=>runs T Γ own loud o σ σ1
 | some false=>σ1=σ.put o.dst (.tup [])
 | none=>False
theorem put_comm {σ:St}{d e:Option Nat}{x y:AV} (h:∀ t,d=some t->e ≠ some t):(σ.put d x).put e y=(σ.put e y).put d x:=by
 cases d <;> cases e <;> try rfl
 rename_i d e
 simp only[St.put,St.mk.injEq,and_self,and_true]
 funext t
 cases h1:Nat.beq t e with
 | false=>simp
 | true =>
  cases h2:Nat.beq t d with
  | false=>simp
  | true =>
   have:=Nat.eq_of_beq_eq_true h1;have:=Nat.eq_of_beq_eq_true h2;exact absurd (by congr 1; omega) (h d rfl)
theorem zRY {σ:St}{d:Option Nat}{x:AV}{t:Nat} (h:∀ s,d=some s->s ≠ t):(σ.put d x).env t=σ.env t:=by
 cases d with
 | none=>rfl
 | some d =>
  simp only[St.put]
  cases e:Nat.beq t d with
  | false=>rfl
  | true=>exact absurd (Nat.eq_of_beq_eq_true e).symm (h d rfl)
def Alike (all:List Oper) (o:Oper) (env env':Nat->AV):Prop:=∀ t∈o.looksAt all.toArray,env t=env' t
theorem Alike.opds {all:List Oper}{o:Oper} (h:Alike all o env env'):∀ x∈o.op.operands,∀ ty,opd T env ty x=opd T env' ty x:=fun x hx ty=>by
 cases x with
 | tmp t =>
  refine h t ?_;unfold Oper.looksAt;refine List.mem_append.2 (.inl (List.mem_filterMap.2 ⟨.tmp t,by simpa using hx,rfl⟩))
 | _=>rfl
theorem Alike.gate {all:List Oper}{o:Oper} (h:Alike all o env env'):gate all o env=gate all o env':=by
 unfold Abs.gate;cases hg:o.guard with
 | none=>rfl
 | some p =>
  obtain⟨j,want⟩:=p;dsimp only;cases hj:(all[j]?).bind (fun o=>o.dst) with
  | none=>rfl
  | some g =>
   dsimp only;have:env g=env' g:=h g (by
    unfold Oper.looksAt;refine List.mem_append.2 (.inr ?_)
    rw[hg]
    dsimp only;have:(all.toArray[j]?).bind (fun o=>o.dst)=some g :=(by simpa using hj);rw[this]; simp)
   rw[this]
theorem Alike.put {all:List Oper}{o:Oper}{σ:St}{d:Option Nat}{x:AV} (h:∀ t,d=some t->t ∉ o.looksAt all.toArray):Alike all o (σ.put d x).env σ.env:=fun t ht =>
 zRY fun s hs e=>h s hs (e ▸ ht)
theorem zJF {σ σ':St}{r:Ret}{x:AV} (h:zA4 false σ r=some (x,σ')):σ'=σ/\∀ σ2,zA4 false σ2 r=some (x,σ2):=by
 unfold zA4 at h ⊢;split at h
 ·split at h
  ·rename_i e; cases h; exact⟨rfl,fun σ2=>by simp[e]⟩
  ·cases h
 ·cases h; exact⟨rfl,fun σ2=>rfl⟩
theorem zHJ {own:Bool}{σ σ':St}{r:Ret}{x:AV} (h:zA4 own σ r=some (x,σ')):σ'.env=σ.env/\∀ env',zA4 own { σ with env:=env' } r=some (x,{ σ' with env:=env' }):=by
 unfold zA4 at h ⊢;split at h
 ·split at h
  ·rename_i e; cases h; exact⟨rfl,fun σ2=>by simp[e]⟩
  ·cases h
 ·split at h <;> cases h <;> exact⟨rfl,fun σ2=>rfl⟩
theorem zIK {own:Bool}{σ σ':St}{r:Ret}{x:AV} (h:zA4 own σ r=some (x,σ')):σ.nx<=σ'.nx:=by
 unfold zA4 at h;split at h
 ·split at h
  ·cases h; exact Nat.le_refl _
  ·cases h
 ·split at h
  ·cases h; exact Nat.le_succ _
  ·cases h; exact Nat.le_refl _
theorem zQk {own:Bool}{o:Oper}{σ σ':St}{φ:Option Prop}{x:AV} (h:zBf T own o σ=some (φ,x,σ')):σ.nx<=σ'.nx:=by
 have a1:∀ (ob:Ob),σ.nx<=(zAX σ ob).nx:=fun _=>Nat.le_succ _
 have a2:∀ (k:Nat) (ob:Ob),σ.nx<=(zAX (zFI σ k) ob).nx:=fun _ _=>Nat.le_succ _
 have a3:∀ (k:Nat) (ob:Ob),σ.nx<=(zDi σ k ob).nx:=fun _ _=>Nat.le_refl _
 have a4:∀ (k:Nat),σ.nx<=(zFI σ k).nx:=fun _=>Nat.le_refl _
 have hA:∀ {φ x σ'},zB6 T o σ=some (φ,x,σ')->σ.nx<=σ'.nx:=fun {φ x σ'} h=>by
  unfold zB6 at h
  repeat' split at h
  all_goals first | (cases h; first | exact Nat.le_refl _ | exact a1 _ | exact a2 _ _ | exact a3 _ _ | exact a4 _) | cases h
 unfold zBf at h;split at h
 ·rename_i r hl
  cases h;unfold zCg at hl;simp only[zCf]at hl
  repeat' split at hl
  all_goals first | (cases hl; first | exact Nat.le_refl _ | exact a1 _ | exact a2 _ _ | exact a3 _ _ | exact a4 _) | cases hl | skip
  unfold zHj at hl
  repeat' split at hl
  all_goals first | (cases hl; first | exact Nat.le_refl _ | exact a1 _ | exact a2 _ _ | exact a3 _ _ | exact a4 _) | cases hl
 ·exact hA h
theorem zJM {own:Bool}{o:Oper}{σ:St}{K:AV->St->Prop} (h:zEL T (zGX Γ) own o σ K):∃ x hp nx,K x ⟨σ.env,hp,nx⟩/\σ.nx<=nx /\
  ∀ env',(∀ x∈o.op.operands,∀ ty,opd T σ.env ty x=opd T env' ty x)->∀ K':AV->St->Prop,K' x ⟨env',hp,nx⟩->zEL T (zGX Γ) own o { σ with env:=env' } K':=by
 unfold zEL at h;split at h
 ·rename_i hraw
  unfold zF6 at h;split at h
  ·rename_i t y ho
   split at h
   ·rename_i k sz i off e
    split at h
    ·rename_i e' sz' rows hh
     split at h
     ·rename_i hsz
      obtain⟨hi,row,hrow,h⟩:=h;split at h
      ·rename_i x hl
       refine⟨x,σ.hp,σ.nx,h,Nat.le_refl _,fun env' ha K' hk=>?_⟩
       unfold zEL;dsimp only;rw[← zB3 ha,hraw]
       dsimp only;unfold zF6;rw[ho]
       dsimp only;rw[← ha y (by rw[ho]; simp[Op.operands]),e]
       dsimp only;rw[hh]
       dsimp only;rw[hsz]
       dsimp only;refine⟨hi,row,hrow,?_⟩
       rw[hl]
       exact hk
      ·exact h.elim
     ·exact h.elim
    ·rename_i e' sz' rows hh
     split at h
     ·rename_i hsz
      obtain⟨hi,row,hrow,h⟩:=h;split at h
      ·rename_i x hl
       refine⟨x,σ.hp,σ.nx,h,Nat.le_refl _,fun env' ha K' hk=>?_⟩
       unfold zEL;dsimp only;rw[← zB3 ha,hraw]
       dsimp only;unfold zF6;rw[ho]
       dsimp only;rw[← ha y (by rw[ho]; simp[Op.operands]),e]
       dsimp only;rw[hh]
       dsimp only;rw[hsz]
       dsimp only;refine⟨hi,row,hrow,?_⟩
       rw[hl]
       exact hk
      ·exact h.elim
     ·exact h.elim
    ·exact h.elim
   ·exact h.elim
  ·exact h.elim
 ·rename_i g xs hraw
  split at h
  ·exact h.elim
  ·rename_i s hs
   have hnh:=(zGv hs).2;rw[hnh]at h;dsimp only at h;split at h
   ·rename_i hown
    split at h
    ·exact h.elim
    ·rename_i hp
     obtain⟨r,hr,h⟩:=h;split at h
     ·exact h.elim
     ·rename_i x σ' hx
      obtain⟨e1,e2⟩:=zHJ hx;have e3:σ'.env=σ.env :=(by rw[e1]; cases r.flat <;> rfl);refine⟨x,σ'.hp,σ'.nx,by rw[← e3]; exact h,(by have:=zIK hx; revert this; cases r.flat <;> exact id),fun env' ha K' hk=>?_⟩
      unfold zEL;dsimp only;rw[← zB3 ha,hraw]
      dsimp only;rw[hs]
      dsimp only;rw[hnh]
      dsimp only;rw[hown]
      dsimp only;rw[hp]
      refine⟨r,hr,?_⟩
      have e4:=e2 env';cases hf:r.flat with
      | true=>rw[hf]at e4; dsimp only at e4 ⊢; rw[e4]; exact hk
      | false =>
       rw[hf]at e4;have e5:({ zKn (AV.keysAll xs) σ with env:=env' }:St)=zKn (AV.keysAll xs) { σ with env:=env' }:=rfl;dsimp only at e4 ⊢;rw[e5]at e4;rw[e4]; exact hk
   ·rename_i R hown
    have hnil:∀ env',zD7 T s.nil o xs { σ with env:=env' }=((zD7 T s.nil o xs σ).1,{ (zD7 T s.nil o xs σ).2 with env:=env' }):=fun env'=>by
     unfold zD7;split
     ·rfl
     ·split
      ·split
       ·split <;> rfl
       ·rfl
      ·rfl
    have hnenv:(zD7 T s.nil o xs σ).2.env=σ.env:=by
     unfold zD7;split
     ·rfl
     ·split
      ·split
       ·split <;> rfl
       ·rfl
      ·rfl
    have hnnx:σ.nx<=(zD7 T s.nil o xs σ).2.nx:=by
     unfold zD7;split
     ·exact Nat.le_refl _
     ·split
      ·split
       ·split
        ·exact Nat.le_succ _
        ·exact Nat.le_refl _
       ·exact Nat.le_refl _
      ·exact Nat.le_refl _
    cases hna:zD7 T s.nil o xs σ with
    | mk xs1 σ1 =>
    rw[hna]at h hnil hnenv hnnx;dsimp only at h hnil hnenv hnnx;split at h
    ·rename_i os hd hos
     obtain⟨x,os',hR,h⟩:=h;refine⟨_,_,_,by rw[← hnenv]; exact h,Nat.le_trans hnnx (Nat.le_add_right _ _),fun env' ha K' hk=>?_⟩
     unfold zEL;dsimp only;rw[← zB3 ha,hraw]
     dsimp only;rw[hs]
     dsimp only;rw[hnh]
     dsimp only;rw[hown]
     dsimp only;rw[hnil]
     dsimp only;rw[hd,hos]
     exact⟨x,os',hR,hk⟩
    ·exact h.elim
theorem zHY {all:List Oper}{own:Bool}{o:Oper}{σ σ1:St} (h:outc T Γ all own false o σ σ1):∃ x,σ1=σ.put o.dst x/\∀ σ2:St,Alike all o σ.env σ2.env->outc T Γ all own false o σ2 (σ2.put o.dst x):=by
 unfold outc at h;split at h
 ·rename_i hg
  unfold runs at h;split at h
  ·rename_i g s xs hco
   obtain⟨r,x,σ',h1,h2,h3⟩:=h;rw[Bool.and_false]at h2;obtain⟨rfl,h4⟩:=zJF h2;refine⟨x,h3,fun σ2 ha=>?_⟩
   unfold outc;rw[← ha.gate,hg]
   dsimp only;unfold runs;rw[← zBB (Γ:=Γ) (T:=T) ha.opds,hco]
   exact⟨r,x,σ2,h1,by rw[Bool.and_false]; exact h4 σ2,rfl⟩
  ·rename_i hco
   obtain⟨φ,x,h1,h2,h3⟩:=h;refine⟨x,h3,fun σ2 ha=>?_⟩
   unfold outc;rw[← ha.gate,hg]
   dsimp only;unfold runs;rw[← zBB (Γ:=Γ) (T:=T) ha.opds,hco]
   exact⟨φ,x,by rw[← zEG ha.opds]; exact h1,h2,rfl⟩
 ·rename_i hg
  refine⟨.tup [],h,fun σ2 ha=>?_⟩
  unfold outc;rw[← ha.gate,hg]
 ·exact h.elim
theorem zEc {all:List Oper}{own loud:Bool}{o:Oper}{σ σ1:St} (h:outc T Γ all own loud o σ σ1):∃ x hp nx,σ1=St.put ⟨σ.env,hp,nx⟩ o.dst x/\∀ env',Alike all o σ.env env'->outc T Γ all own loud o { σ with env:=env' } (St.put ⟨env',hp,nx⟩ o.dst x):=by
 unfold outc at h;split at h
 ·rename_i hg
  unfold runs at h;split at h
  ·rename_i g s xs hco
   obtain⟨r,x,σ',h1,h2,h3⟩:=h;obtain⟨h4,h5⟩:=zHJ h2;refine⟨x,σ'.hp,σ'.nx,by rw[h3,← h4],fun env' ha=>?_⟩
   unfold outc;dsimp only;rw[← ha.gate,hg]
   dsimp only;unfold runs;dsimp only;rw[← zBB (Γ:=Γ) (T:=T) ha.opds,hco]
   exact⟨r,x,_,h1,h5 env',rfl⟩
  ·rename_i hco
   split at h
   ·split at h
    ·rename_i φ x σ' h1
     obtain⟨h2,h3⟩:=h;have key:σ'.env=σ.env/\∀ env',Alike all o σ.env env'->step1 T own o { σ with env:=env' }=some (φ,x,{ σ' with env:=env' }):=by
      unfold step1 at h1 ⊢;split at h1
      ·rename_i p hp
       cases h1;refine⟨rfl,fun env' ha=>?_⟩
       dsimp only;rw[← zEG ha.opds,hp]
      ·rename_i hp
       refine⟨zPs h1,fun env' ha=>?_⟩
       dsimp only;rw[← zEG ha.opds,hp]
       dsimp only;rw[zF8 (σ:=σ) ha.opds,h1]
       rfl
     refine⟨x,σ'.hp,σ'.nx,by rw[h3,← key.1],fun env' ha=>?_⟩
     unfold outc;dsimp only;rw[← ha.gate,hg]
     dsimp only;unfold runs;dsimp only;rw[← zBB (Γ:=Γ) (T:=T) ha.opds,hco]
     dsimp only;rw[key.2 env' ha]
     exact⟨h2,rfl⟩
    ·rename_i h1
     have key:∀ env',Alike all o σ.env env'->step1 T own o { σ with env:=env' }=none:=fun env' ha=>by
      unfold step1 at h1 ⊢;split at h1
      ·cases h1
      ·rename_i hp
       dsimp only;rw[← zEG ha.opds,hp]
       dsimp only;rw[zF8 (σ:=σ) ha.opds,h1]
       rfl
     obtain⟨x,hp,nx,e1,_,e2⟩:=zJM h;refine⟨x,hp,nx,e1,fun env' ha=>?_⟩
     unfold outc;dsimp only;rw[← ha.gate,hg]
     dsimp only;unfold runs;dsimp only;rw[← zBB (Γ:=Γ) (T:=T) ha.opds,hco]
     dsimp only;rw[key env' ha]
     exact e2 env' ha.opds _ rfl
   ·obtain⟨φ,x,h1,h2,h3⟩:=h;refine⟨x,σ.hp,σ.nx,h3,fun env' ha=>?_⟩
    unfold outc;dsimp only;rw[← ha.gate,hg]
    dsimp only;unfold runs;dsimp only;rw[← zBB (Γ:=Γ) (T:=T) ha.opds,hco]
    exact⟨φ,x,by rw[← zEG ha.opds]; exact h1,h2,rfl⟩
 ·rename_i hg
  refine⟨.tup [],σ.hp,σ.nx,h,fun env' ha=>?_⟩
  unfold outc;dsimp only;rw[← ha.gate,hg]
 ·exact h.elim
def rdOp (o:Oper):Bool :=
 match o.op with
 | .load _ _=>true
 | .indexAddr _ _ _=>true
 | .call { callee:=.builtin .len,args:=_,argTypes:=_ }=>true
 | _=>false
theorem zPt {own:Bool}{o:Oper}{σ σ':St}{φ:Option Prop}{x:AV} (hr:rdOp o=true) (h:zCg T own o σ=some (φ,x,σ')):σ'=σ:=by
 unfold rdOp at hr;split at hr
 ·rename_i t y ho
  unfold zCg at h; try simp only[zCf]at h
  rw[ho]at h;dsimp only at h
  repeat' split at h
  all_goals first | (cases h; rfl) | cases h
 ·rename_i t y i ho
  unfold zCg at h; try simp only[zCf]at h
  rw[ho]at h;dsimp only at h
  repeat' split at h
  all_goals first | (cases h; rfl) | cases h
 ·rename_i args ts ho
  unfold zCg at h; try simp only[zCf]at h
  rw[ho]at h;dsimp only at h
  repeat' split at h
  all_goals first | (cases h; rfl) | cases h
 ·cases hr
theorem zHk {own:Bool}{o:Oper}{σ σ':St}{φ:Option Prop}{x:AV} (hr:rdOp o=true) (h:zBf T own o σ=some (φ,x,σ')):σ'=σ:=by
 unfold zBf at h;split at h
 ·rename_i hl
  cases h;exact zPt hr hl
 unfold rdOp at hr;split at hr
 ·rename_i t y ho
  unfold zB6 at h;rw[ho]at h;cases h
 ·rename_i t y i ho
  unfold zB6 at h;rw[ho]at h;dsimp only at h
  repeat' split at h
  all_goals first | (cases h; rfl) | cases h
 ·rename_i args ts ho
  unfold zB6 at h;rw[ho]at h;dsimp only at h
  repeat' split at h
  all_goals first | (cases h; rfl) | cases h
 ·cases hr
theorem zPr {o:Oper}{σ:St}{K:AV->St->Prop} (h:zF6 T o σ K):∃ x,K x σ:=by
 unfold zF6 at h
 repeat' split at h
 all_goals first | exact h.elim | skip
 all_goals
  obtain⟨_,row,_,h⟩:=h;split at h
  ·exact⟨_,h⟩
  ·exact h.elim
theorem zDv {all:List Oper}{own:Bool}{o:Oper}{σ σ1:St} (hr:rdOp o=true) (h:outc T Γ all own true o σ σ1):σ1.hp=σ.hp/\σ1.nx=σ.nx:=by
 have hput:∀ (σ:St) (d:Option Nat) (x:AV),(σ.put d x).hp=σ.hp/\(σ.put d x).nx=σ.nx:=fun σ d x=>by cases d <;> exact⟨rfl,rfl⟩
 have hco:callOf T Γ o σ.env=none/\zA6 T o σ.env=none:=by
  unfold rdOp at hr;split at hr
  ·rename_i ho; unfold callOf zA6; rw[ho]; exact⟨rfl,rfl⟩
  ·rename_i ho; unfold callOf zA6; rw[ho]; exact⟨rfl,rfl⟩
  ·rename_i ho; unfold callOf zA6; rw[ho]; exact⟨rfl,rfl⟩
  ·cases hr
 unfold outc at h;split at h
 ·unfold runs at h;rw[hco.1]at h;dsimp only at h;split at h
  ·rename_i φ x σ' hs
   obtain⟨_,rfl⟩:=h;unfold step1 at hs;split at hs
   ·cases hs; exact hput _ _ _
   ·rw[zHk hr hs]; exact hput _ _ _
  ·unfold zEL at h;rw[hco.2]at h;obtain⟨x,rfl⟩:=zPr h;exact hput _ _ _
 ·subst h; exact hput _ _ _
 ·exact h.elim
theorem zEI (σ:St) (d:Option Nat) (x:AV):(σ.put d x).nx=σ.nx:=by cases d <;> rfl
theorem zFs (σ:St) (d:Option Nat) (x:AV):(σ.put d x).hp=σ.hp:=by cases d <;> rfl
theorem zMq {all:List Oper}{own loud:Bool}{o:Oper}{σ σ1:St} (h:outc T Γ all own loud o σ σ1):σ.nx<=σ1.nx:=by
 unfold outc at h;split at h
 ·unfold runs at h;split at h
  ·obtain⟨r,x,σ',_,h2,rfl⟩:=h;rw[zEI]; exact zIK h2
  ·split at h
   ·split at h
    ·rename_i φ x σ' hs
     obtain⟨_,rfl⟩:=h;rw[zEI]
     unfold step1 at hs;split at hs
     ·cases hs; exact Nat.le_refl _
     ·exact zQk hs
    ·obtain⟨x,hp,nx,e1,e2,_⟩:=zJM h;rw[e1,zEI]; exact e2
   ·obtain⟨φ,x,_,_,rfl⟩:=h;rw[zEI]; exact Nat.le_refl _
 ·subst h; rw[zEI]; exact Nat.le_refl _
 ·exact h.elim
def zOx (n:Nat->Bool):AV->Bool
 | .op k _=>n k
 | .orow k=>n k
 | .rp k _ _ _=>n k
 | _=>true
def zRb (n:Nat->Bool):AV->Bool
 | .orow k=>!(n k)
 | _=>false
def zEe (T:Nat->Option TI) (n:Nat->Bool) (o:Oper) (env:Nat->AV):Bool :=
 match o.op with
 | .load _ x=>zOx n (opd T env 0 x)
 | .indexAddr t x _=>zOx n (opd T env t x)
 | .call { callee:=.builtin .len,args:=args,argTypes:=ts }=>match args.toList,ts.toList with
  | [x],[t]=>zOx n (opd T env t x)
  | _,_=>true
 | .call { callee:=.builtin .append,args:=args,argTypes:=ts }=>match args.toList,ts.toList with
  | [x,_],[t,_]=>zRb n (opd T env t x)
  | _,_=>false
 | _=>false
theorem zEJ {n:Nat->Bool}{o:Oper} (h:∀ x∈o.op.operands,∀ ty,opd T env ty x=opd T env' ty x):zEe T n o env=zEe T n o env':=by
 unfold zEe;cases hop:o.op <;> rw[hop]at h <;> simp only[Op.operands]at h <;> (try dsimp only) <;> try rfl
 case load t x=>rw[h x (by simp)]
 case indexAddr t x i=>rw[h x (by simp)]
 case call c =>
  obtain⟨callee,args,ts⟩:=c;have ha:∀ x∈args.toList,∀ ty,opd T env ty x=opd T env' ty x:=fun x hx=>h x (by simp[Call.operands]; exact .inr (by simpa using hx))
  cases callee with
  | builtin b =>
   cases b <;> try rfl
   all_goals
    dsimp only;split
    ·rename_i e1 e2
     rw[ha _ (by rw[e1]; simp)]
    ·rfl
  | value f=>rfl
  | invoke r m=>rfl
theorem zQy {own:Bool}{o:Oper}{n:Nat->Bool}{hp hp':Nat->Option Ob}{nx nx':Nat}{φ:Option Prop}{x:AV}{σ':St} (hr:rdOp o=true) (ho:zEe T n o env=true) (hh:∀ k,n k=true->hp' k=hp k)
  (hs:zBf T own o ⟨env,hp,nx⟩=some (φ,x,σ')):zBf T own o ⟨env,hp',nx'⟩=some (φ,x,⟨env,hp',nx'⟩):=by
 have hlt:∀ {k},n k=true->hp' k=hp k:=fun {k} h=>hh k h
 have hsame:=zHk hr hs;subst hsame;unfold rdOp at hr;unfold zEe at ho;unfold zBf zCg zB6 at hs ⊢;split at hr
 ·rename_i t y hop
  rw[hop]at ho hs ⊢;dsimp only at ho hs ⊢;cases e:opd T env 0 y <;> rw[e]at hs ho
  case op k off =>
   dsimp only at hs ho ⊢;simp only[zOx]at ho;rw[hlt ho]
   revert hs
   cases hp k with
   | none=>intro hs; cases hs
   | some ob =>
    cases ob with
    | box bt cells =>
     cases T t with
     | none=>intro hs; cases hs
     | some i =>
      dsimp only;cases i.k.agg <;> dsimp only
      ·cases cells[off]? <;> (intro hs; cases hs) <;> rfl
      ·cases Nat.ble (off+i.size) cells.length <;> (intro hs; cases hs) <;> rfl
    | row=>intro hs; cases hs
    | arow=>intro hs; cases hs
  all_goals ((try dsimp only at hs); cases hs)
 ·rename_i t y i hop
  rw[hop]at ho hs ⊢;dsimp only at ho hs ⊢;cases e:opd T env t y <;> rw[e]at hs ho
  case orow k =>
   simp only[zOx]at ho
   revert hs
   cases elemOf T t with
   | none=>intro hs; cases hs
   | some p =>
    obtain⟨_,j⟩:=p;cases opd T env 0 i with
    | s s =>
     cases s with
     | int kk m =>
      dsimp only;rw[hlt ho]
      cases hp k with
      | none=>intro hs; cases hs
      | some ob =>
       cases ob with
       | box=>intro hs; cases hs
       | row e sz rows=>dsimp only; cases Nat.beq sz j.size <;> (intro hs; cases hs) <;> rfl
       | arow e sz rows=>dsimp only; cases Nat.beq sz j.size <;> (intro hs; cases hs) <;> rfl
     | _=>intro hs; cases hs
    | _=>intro hs; cases hs
  all_goals
   revert hs
   cases elemOf T t with
   | none=>intro hs; cases hs
   | some p =>
    obtain⟨_,j⟩:=p;cases opd T env 0 i with
    | s s=>cases s <;> (try dsimp only) <;> (intro hs; cases hs)
    | _=>intro hs; cases hs
 ·rename_i args ts hop
  rw[hop]at ho hs ⊢;dsimp only at ho hs ⊢
  revert hs ho
  cases args.toList with
  | nil=>dsimp only; (intro h1 h2; first | exact absurd h1 (by simp) | exact absurd h2 (by simp))
  | cons y l =>
   cases l with
   | cons _ _=>dsimp only; (intro h1 h2; first | exact absurd h1 (by simp) | exact absurd h2 (by simp))
   | nil =>
    cases ts.toList with
    | nil=>dsimp only; (intro h1 h2; first | exact absurd h1 (by simp) | exact absurd h2 (by simp))
    | cons t l =>
     cases l with
     | cons _ _=>dsimp only; (intro h1 h2; first | exact absurd h1 (by simp) | exact absurd h2 (by simp))
     | nil =>
      dsimp only;cases tk T t with
      | slice e =>
       cases opd T env t y with
       | orow k =>
        dsimp only;intro hs ho;simp only[zOx]at ho;rw[hlt ho]
        revert hs
        cases hp k with
        | none=>dsimp only; intro hs; cases hs
        | some ob=>cases ob <;> dsimp only <;> (intro hs; cases hs) <;> rfl
       | _=>dsimp only; intro hs; cases hs
      | _=>dsimp only; intro hs; cases hs
 ·cases hr
theorem zRk {o:Oper}{n:Nat->Bool}{hp hp':Nat->Option Ob}{nx nx':Nat}{K:AV->St->Prop} (ho:zEe T n o env=true) (hh:∀ k,n k=true->hp' k=hp k) (h:zF6 T o ⟨env,hp,nx⟩ K) :
  ∃ x,K x ⟨env,hp,nx⟩/\∀ K':AV->St->Prop,K' x ⟨env,hp',nx'⟩->zF6 T o ⟨env,hp',nx'⟩ K':=by
 have hlt:∀ {k},n k=true->hp' k=hp k:=fun {k} h=>hh k h
 unfold zEe at ho;unfold zF6 at h ⊢;split at h
 ·rename_i t y hop
  rw[hop]at ho;dsimp only at ho h ⊢;cases e:opd T env 0 y <;> rw[e]at h ho <;> dsimp only at h ho⊢<;> try (exact h.elim)
  simp only[zOx]at ho;rw[hlt ho]
  revert h
  cases hp _ with
  | none=>intro h; exact h.elim
  | some ob =>
   cases ob with
   | box=>intro h; exact h.elim
   | row e2 sz rows =>
    dsimp only;cases Nat.beq _ sz with
    | false=>intro h; exact h.elim
    | true =>
     dsimp only;rintro⟨h1,row,h2,h3⟩
     cases hl:zKD T t (row.drop _) with
     | none=>rw[hl]at h3; exact h3.elim
     | some c =>
      rw[hl]at h3;exact⟨c,h3,fun K' hk=>⟨h1,row,h2,by rw[hl]; exact hk⟩⟩
   | arow e2 sz rows =>
    dsimp only;cases Nat.beq _ sz with
    | false=>intro h; exact h.elim
    | true =>
     dsimp only;rintro⟨h1,row,h2,h3⟩
     cases hl:zL3 T t (row.drop _) with
     | none=>rw[hl]at h3; exact h3.elim
     | some c =>
      rw[hl]at h3;exact⟨c,h3,fun K' hk=>⟨h1,row,h2,by rw[hl]; exact hk⟩⟩
 ·exact h.elim
theorem zR9 {all:List Oper}{own:Bool}{o:Oper}{n:Nat->Bool}{hp hp':Nat->Option Ob}{nx nx':Nat}{σ1:St} (hr:rdOp o=true) (ho:zEe T n o env=true) (hh:∀ k,n k=true->hp' k=hp k) (hn:∀ k,∀ (h:hp k=none),n k=true->hp' k=none) (h:outc T Γ all own true o ⟨env,hp,nx⟩ σ1)
  (hboth:∀ (r:Option Prop×AV×St),zBf T own o ⟨env,hp',nx'⟩=some r->∃ r',zBf T own o ⟨env,hp,nx⟩=some r') :
  ∃ y,σ1=St.put ⟨env,hp,nx⟩ o.dst y/\outc T Γ all own true o ⟨env,hp',nx'⟩ (St.put ⟨env,hp',nx'⟩ o.dst y):=by
 have hco:callOf T Γ o env=none/\zA6 T o env=none:=by
  unfold rdOp at hr;split at hr
  ·rename_i ho; unfold callOf zA6; rw[ho]; exact⟨rfl,rfl⟩
  ·rename_i ho; unfold callOf zA6; rw[ho]; exact⟨rfl,rfl⟩
  ·rename_i ho; unfold callOf zA6; rw[ho]; exact⟨rfl,rfl⟩
  ·cases hr
 unfold outc at h;dsimp only at h;split at h
 ·rename_i hg
  unfold runs at h;dsimp only at h;rw[hco.1]at h;dsimp only at h;split at h
  ·rename_i φ x σ' hs
   obtain⟨h2,rfl⟩:=h;have:σ'=⟨env,hp,nx⟩/\step1 T own o ⟨env,hp',nx'⟩=some (φ,x,⟨env,hp',nx'⟩):=by
    unfold step1 at hs ⊢;dsimp only at hs ⊢;split at hs
    ·cases hs; exact⟨rfl,rfl⟩
    ·exact⟨zHk hr hs,zQy hr ho hh hs⟩
   obtain⟨rfl,h3⟩:=this;refine⟨x,rfl,?_⟩
   unfold outc;dsimp only;rw[hg]
   dsimp only;unfold runs;dsimp only;rw[hco.1]
   dsimp only;rw[h3]
   exact⟨h2,rfl⟩
  ·rename_i hs
   have h3:step1 T own o ⟨env,hp',nx'⟩=none:=by
    unfold step1 at hs ⊢;dsimp only at hs ⊢;split at hs
    ·cases hs
    ·cases hq:zBf T own o ⟨env,hp',nx'⟩ with
     | none=>rfl
     | some r =>
      obtain⟨r',hr'⟩:=hboth r hq;rw[hr']at hs; cases hs
   unfold zEL at h;dsimp only at h;rw[hco.2]at h;dsimp only at h;obtain⟨x,rfl,hx⟩:=zRk (nx':=nx') ho hh h;refine⟨x,rfl,?_⟩
   unfold outc;dsimp only;rw[hg]
   dsimp only;unfold runs;dsimp only;rw[hco.1]
   dsimp only;rw[h3]
   dsimp only;unfold zEL;dsimp only;rw[hco.2]
   exact hx _ rfl
 ·rename_i hg
  subst h;refine⟨.tup [],rfl,?_⟩
  unfold outc;dsimp only;rw[hg]
 ·exact h.elim
theorem zO3 {all:List Oper}{own:Bool}{o:Oper}{n:Nat->Bool}{hp hp':Nat->Option Ob}{nx nx':Nat}{σ1:St} (hr:rdOp o=true) (ho:zEe T n o env=true) (hh:∀ k,n k=true->hp' k=hp k) (h:outc T Γ all own true o ⟨env,hp,nx⟩ σ1) :
  ∃ y,σ1=St.put ⟨env,hp,nx⟩ o.dst y/\outc T Γ all own true o ⟨env,hp',nx'⟩ (St.put ⟨env,hp',nx'⟩ o.dst y) :=
 zR9 hr ho hh (fun k h hk=>by rw[hh k hk]; exact h) h fun⟨φ,x,σ'⟩ hq=>⟨_,zQy (nx':=nx) hr ho (fun k hk=>(hh k hk).symm) hq⟩
def mkOp (o:Oper):Bool :=
 match o.op with
 | .alloc _=>true
 | .makeSlice _ _ _=>true
 | .box _ _=>true
 | .buildSlice _ _ _=>true
 | _=>false
theorem zQ9 {own:Bool}{o:Oper}{σ σ':St}{φ:Option Prop}{x:AV} (hm:mkOp o=true) (h:zCg T own o σ=some (φ,x,σ')):∃ ob,σ'=zAX σ ob:=by
 unfold zCg at h;simp only[zCf]at h;unfold mkOp at hm;split at hm
 ·rename_i hop
  rw[hop]at h;dsimp only at h
  repeat' split at h
  all_goals first | (cases h; exact⟨_,rfl⟩) | cases h
 ·rename_i hop
  rw[hop]at h;dsimp only at h
  repeat' split at h
  all_goals first | (cases h; exact⟨_,rfl⟩) | cases h
 ·rename_i hop
  rw[hop]at h;dsimp only at h
  repeat' split at h
  all_goals first | (cases h; exact⟨_,rfl⟩) | cases h
 ·rename_i hop
  rw[hop]at h;dsimp only at h
  repeat' split at h
  all_goals first | (cases h; exact⟨_,rfl⟩) | cases h
 ·cases hm
theorem zQi {o:Oper}{σ σ':St}{φ:Option Prop}{x:AV} (hm:mkOp o=true) (h:zB6 T o σ=some (φ,x,σ')):∃ ob,σ'=zAX σ ob:=by
 unfold zB6 at h;unfold mkOp at hm;split at hm
 ·rename_i hop
  rw[hop]at h;dsimp only at h
  repeat' split at h
  all_goals first | (cases h; exact⟨_,rfl⟩) | cases h
 ·rename_i hop
  rw[hop]at h;dsimp only at h
  repeat' split at h
  all_goals first | (cases h; exact⟨_,rfl⟩) | cases h
 ·rename_i hop
  rw[hop]at h;dsimp only at h
  repeat' split at h
  all_goals first | (cases h; exact⟨_,rfl⟩) | cases h
 ·rename_i hop
  rw[hop]at h;dsimp only at h
  repeat' split at h
  all_goals first | (cases h; exact⟨_,rfl⟩) | cases h
 ·cases hm
theorem zQj {own:Bool}{o:Oper}{σ σ':St}{φ:Option Prop}{x:AV} (hm:mkOp o=true) (h:zBf T own o σ=some (φ,x,σ')):∃ ob,σ'=zAX σ ob:=by
 unfold zBf at h;split at h
 ·rename_i hl
  cases h;exact zQ9 hm hl
 ·exact zQi hm h
theorem zOn {all:List Oper}{own:Bool}{o:Oper}{σ σ1:St} (hm:mkOp o=true) (h:outc T Γ all own true o σ σ1):∀ k,k<σ.nx->σ1.hp k=σ.hp k:=fun k hk=>by
 have hadd:∀ ob,(zAX σ ob).hp k=σ.hp k:=fun ob=>by
  show(bif Nat.beq k σ.nx then _ else σ.hp k)=σ.hp k;have:Nat.beq k σ.nx=false:=by
   cases e:Nat.beq k σ.nx with
   | false=>rfl
   | true=>have:=Nat.eq_of_beq_eq_true e; omega
  rw[this]; rfl
 have hc:callOf T Γ o σ.env=none/\zA6 T o σ.env=none/\∀ K,¬ zF6 T o σ K:=by
  unfold mkOp at hm;split at hm <;> first | (rename_i hop; unfold callOf zA6; rw[hop]; exact⟨rfl,rfl,fun K h=>by unfold zF6 at h; rw[hop]at h; exact h⟩) | cases hm
 unfold outc at h;split at h
 ·unfold runs at h;rw[hc.1]at h;dsimp only at h;split at h
  ·rename_i φ x σ' hs
   obtain⟨_,rfl⟩:=h;rw[zFs]
   unfold step1 at hs;split at hs
   ·cases hs; rfl
   ·obtain⟨ob,rfl⟩:=zQj hm hs;exact hadd ob
  ·unfold zEL at h;rw[hc.2.1]at h;exact(hc.2.2 _ h).elim
 ·subst h; rw[zFs]
 ·exact h.elim
def apOp (o:Oper):Bool :=
 match o.op with
 | .call { callee:=.builtin .append,args:=_,argTypes:=_ }=>true
 | _=>false
def below (n:Nat->Bool) (σ:St):Prop:=∀ k,n k=true->k<σ.nx
theorem below_le {n:Nat->Bool}{σ σ':St} (h:below n σ) (h':σ.nx<=σ'.nx):below n σ':=fun k hk=>Nat.lt_of_lt_of_le (h k hk) h'
def kp (n:Nat->Bool) (σ σ1:St):Prop:=∀ k,n k=true->σ1.hp k=σ.hp k
def cOp (o:Oper):Bool :=
 match o.op with
 | .call { callee:=.value _,args:=_,argTypes:=_ }=>true
 | _=>false
def roOk (T:Nat->Option TI) (n:Nat->Bool) (o:Oper) (σ σ1:St):Prop:=zEe T n o σ.env=true∨(rdOp o=false/\kp n σ σ1)
def mkS (o:Oper) (r:Bool):Bool:=mkOp o||r
theorem zSu {σ:St}{k j:Nat}{ob:Ob} (hj:j ≠ k) (hn:j<σ.nx):(zAX (zFI σ k) ob).hp j=σ.hp j:=by
 show(bif Nat.beq j σ.nx then _ else (bif Nat.beq j k then none else σ.hp j))=σ.hp j;have e1:Nat.beq j σ.nx=false:=by
  cases e:Nat.beq j σ.nx with
  | false=>rfl
  | true=>have:=Nat.eq_of_beq_eq_true e; omega
 have e2:Nat.beq j k=false:=by
  cases e:Nat.beq j k with
  | false=>rfl
  | true=>exact absurd (Nat.eq_of_beq_eq_true e) hj
 rw[e1,e2]; rfl
theorem zLk {n:Nat->Bool}{x:AV} (h:zRb n x=true):∃ k,x = .orow k/\n k=false:=by
 cases x <;> simp only[zRb]at h <;> first | cases h | exact⟨_,rfl,by simpa using h⟩
theorem zOg {σ:St}{k e sz:Nat}{kk:Option Nat}{rows:List (List S)} (h:zIL σ (.orow k)=some (kk,e,sz,rows)):kk=some k:=by
 unfold zIL at h;dsimp only at h;split at h
 ·cases h; rfl
 ·cases h
theorem zPf {σ:St}{k e sz kk:Nat}{rows:List (List AV)} (h:zI4 σ (.orow k)=some (kk,e,sz,rows)):kk=k:=by
 unfold zI4 at h;dsimp only at h;split at h
 ·cases h; rfl
 ·cases h
theorem zPq {σ σ':St}{t tx:Nat}{n:Nat->Bool}{x y:AV}{φ:Option Prop}{z:AV} (hx:zRb n x=true) (hn:below n σ) (h:zHj T σ t tx x y=some (φ,z,σ')):∀ j,n j=true->σ'.hp j=σ.hp j:=fun j hj=>by
 obtain⟨k,rfl,hk⟩:=zLk hx;unfold zHj at h;split at h
 ·rename_i h2 h3
  have hb:=zOg h2;subst hb;split at h
  ·dsimp only at h;split at h
   ·cases h; exact zSu (fun e=>by rw[e,hk]at hj; cases hj) (hn j hj)
   ·cases h
  ·cases h
 ·cases h
theorem zRP {all:List Oper}{own:Bool}{o:Oper}{n:Nat->Bool}{σ σ1:St} (hn:below n σ) (hm:apOp o=true) (ho:zEe T n o σ.env=true) (h:outc T Γ all own true o σ σ1):∀ k,n k=true->σ1.hp k=σ.hp k:=fun k hk=>by
 obtain⟨args,ts,hop⟩:∃ args ts,o.op = .call { callee:=.builtin .append,args:=args,argTypes:=ts }:=by
  unfold apOp at hm;split at hm
  ·rename_i a b hop; exact⟨_,_,hop⟩
  ·cases hm
 unfold zEe at ho;rw[hop]at ho;dsimp only at ho;split at ho
 case h_2=>cases ho
 rename_i x y t tx e1 e2
 have hc:callOf T Γ o σ.env=none/\zA6 T o σ.env=none/\∀ K,¬ zF6 T o σ K:=by
  unfold callOf zA6; rw[hop]; exact⟨rfl,rfl,fun K h=>by unfold zF6 at h; rw[hop]at h; exact h⟩
 unfold outc at h;split at h
 ·unfold runs at h;rw[hc.1]at h;dsimp only at h;split at h
  ·rename_i φ z σ' hs
   obtain⟨_,rfl⟩:=h;rw[zFs]
   unfold step1 at hs;split at hs
   ·cases hs; rfl
   ·unfold zBf at hs;split at hs
    ·rename_i hl
     cases hs;unfold zCg at hl;simp only[zCf]at hl;rw[hop]at hl;dsimp only at hl;rw[e1,e2]at hl;exact zPq ho hn hl k hk
    ·rename_i hl
     unfold zB6 at hs;rw[hop]at hs;dsimp only at hs;rw[e1,e2]at hs;dsimp only at hs;obtain⟨q,hq,hqn⟩:=zLk ho;rw[hq]at hs;split at hs
     ·rename_i h2 h3
      have hb:=zPf h2;subst hb;split at hs
      ·cases hs; exact zSu (fun e=>by rw[e,hqn]at hk; cases hk) (hn _ hk)
      ·cases hs
     ·cases hs
  ·unfold zEL at h;rw[hc.2.1]at h;exact(hc.2.2 _ h).elim
 ·subst h; rw[zFs]
 ·exact h.elim
theorem zMu {all:List Oper}{own:Bool}{o:Oper}{σ σ1:St} (h:outc T Γ all own false o σ σ1):σ1.hp=σ.hp:=by
 obtain⟨x,rfl,_⟩:=zHY h;exact zFs _ _ _
theorem zCP {all:List Oper}{own loud:Bool}{o:Oper}{σ σ1:St} (hl:loud=false∨rdOp o=true) (h:outc T Γ all own loud o σ σ1):σ1.hp=σ.hp:=by
 cases loud with
 | false=>exact zMu h
 | true =>
  rcases hl with hl | hl
  ·cases hl
  ·exact(zDv hl h).1
theorem zSb {all:List Oper}{own loud:Bool}{o:Oper}{n:Nat->Bool}{σ σ1:St} (hn:below n σ) (hm:roOk T n o σ σ1) (h:outc T Γ all own loud o σ σ1):kp n σ σ1:=by
 cases loud with
 | false=>intro k _; rw[zMu h]
 | true =>
  rcases hm with hm | ⟨_,hm⟩
  ·cases hr:rdOp o with
   | true=>intro k _; rw[(zDv hr h).1]
   | false =>
    have ha:apOp o=true:=by
     unfold apOp;split
     ·rfl
     ·rename_i hne
      exfalso
      unfold zEe at hm;unfold rdOp at hr;split at hm
      ·rename_i hop; rw[hop]at hr; cases hr
      ·rename_i hop; rw[hop]at hr; cases hr
      ·rename_i hop; rw[hop]at hr; cases hr
      ·rename_i hop; exact hne _ _ hop
      ·cases hm
    exact zRP hn ha hm h
  ·exact hm
theorem zQD {o:Oper}{n:Nat->Bool}{σ σ1:St} (hr:rdOp o=true) (h:roOk T n o σ σ1):zEe T n o σ.env=true:=by
 rcases h with h | ⟨h,_⟩
 ·exact h
 ·rw[hr]at h; cases h
theorem zRK {all:List Oper}{own loud:Bool}{o:Oper}{r:Bool}{n:Nat->Bool}{σ σ1:St} (hn:below n σ) (h:mkS o r=true) (hr:r=true->roOk T n o σ σ1) (ho:outc T Γ all own loud o σ σ1):kp n σ σ1:=by
 cases loud with
 | false=>intro k _; rw[zMu ho]
 | true =>
  unfold mkS at h;simp only[Bool.or_eq_true]at h;rcases h with h | h
  ·intro k hk; exact zOn h ho k (hn k hk)
  ·exact zSb hn (hr h) ho
theorem zQq {all:List Oper}{oi oj:Oper}{owi owj li lj:Bool}{n:Nat->Bool}{σ σi σij:St} (hn:below n σ) (hap:oi.apart all.toArray oj=true) (hl:li=false∨lj=false∨(rdOp oi=true/\rdOp oj=true) ∨
   (kp n σ σi/\rdOp oj=true/\zEe T n oj σi.env=true)∨(rdOp oi=true/\kp n σi σij/\zEe T n oi σ.env=true))
  (h1:outc T Γ all owi li oi σ σi) (h2:outc T Γ all owj lj oj σi σij):∃ σj,outc T Γ all owj lj oj σ σj/\outc T Γ all owi li oi σj σij:=by
 obtain⟨a1,a2,a3⟩:=Oper.apart_spec hap;have hl':li=false∨lj=false∨(li=true/\lj=true/\((rdOp oi=true/\rdOp oj=true) ∨
   (kp n σ σi/\rdOp oj=true/\zEe T n oj σi.env=true)∨(rdOp oi=true/\kp n σi σij/\zEe T n oi σ.env=true))):=by
  cases li with
  | false=>exact .inl rfl
  | true =>
   cases lj with
   | false=>exact .inr (.inl rfl)
   | true =>
        rcases hl with h | h | h
        ·cases h
        ·cases h
        ·exact .inr (.inr ⟨rfl,rfl,h⟩)
 rcases hl' with rfl | rfl | ⟨rfl,rfl,⟨r1,r2⟩ | ⟨r1,r2,r3⟩ | ⟨r1,r2,r3⟩⟩
 ·obtain⟨x,rfl,hq⟩:=zHY h1;obtain⟨y,hp,nx,rfl,hy⟩:=zEc h2;have hb:=hy σ.env (Alike.put a1)
  have e:({ (σ.put oi.dst x) with env:=σ.env }:St)=σ :=(by cases oi.dst <;> rfl);rw[e]at hb;refine⟨_,hb,?_⟩
  have:=hq (St.put ⟨σ.env,hp,nx⟩ oj.dst y) (fun t ht=>(Alike.put (σ:=⟨σ.env,hp,nx⟩) (x:=y) a3 t ht).symm)
  rw[put_comm (fun t ht=>fun e=>a2 t e ht)]at this;have e2:St.put ⟨σ.env,hp,nx⟩ oi.dst x=⟨(σ.put oi.dst x).env,hp,nx⟩ :=(by cases oi.dst <;> rfl);rw[e2]at this;exact this
 ·obtain⟨x,hp,nx,rfl,hx⟩:=zEc h1;obtain⟨y,rfl,hq⟩:=zHY h2;refine⟨_,hq σ (fun t ht=>Alike.put (σ:=⟨σ.env,hp,nx⟩) (x:=x) a1 t ht),?_⟩
  have:=hx (σ.put oj.dst y).env (fun t ht=>(Alike.put a3 t ht).symm)
  have e1:({ σ with env:=(σ.put oj.dst y).env }:St)=σ.put oj.dst y :=(by cases oj.dst <;> rfl);rw[e1]at this;have e2:(⟨(σ.put oj.dst y).env,hp,nx⟩:St)=St.put ⟨σ.env,hp,nx⟩ oj.dst y :=(by cases oj.dst <;> rfl);rw[e2,put_comm (fun t ht=>fun e=>a2 t e ht)]at this;exact this
 ·have s1:=zDv r1 h1;have s2:=zDv r2 h2;obtain⟨x,hp,nx,rfl,hx⟩:=zEc h1;obtain⟨y,hp2,nx2,rfl,hy⟩:=zEc h2;have f1:hp=σ.hp/\nx=σ.nx :=(by cases h:oi.dst <;> (rw[h]at s1; exact s1));obtain⟨rfl,rfl⟩:=f1;have f2:hp2=σ.hp/\nx2=σ.nx :=(by cases h:oi.dst <;> cases h':oj.dst <;> (rw[h,h']at s2; exact s2));obtain⟨rfl,rfl⟩:=f2;have hb:=hy σ.env (Alike.put a1)
  have e:({ St.put ⟨σ.env,σ.hp,σ.nx⟩ oi.dst x with env:=σ.env }:St)=σ :=(by cases oi.dst <;> rfl);rw[e]at hb;refine⟨_,hb,?_⟩
  have:=hx (σ.put oj.dst y).env (fun t ht=>(Alike.put a3 t ht).symm)
  have e1:(⟨(σ.put oj.dst y).env,σ.hp,σ.nx⟩:St)=St.put ⟨σ.env,σ.hp,σ.nx⟩ oj.dst y :=(by cases oj.dst <;> rfl);have e3:St.put ⟨σ.env,σ.hp,σ.nx⟩ oi.dst x=⟨(St.put ⟨σ.env,σ.hp,σ.nx⟩ oi.dst x).env,σ.hp,σ.nx⟩ :=(by cases oi.dst <;> rfl);have key:St.put (St.put ⟨σ.env,σ.hp,σ.nx⟩ oj.dst y) oi.dst x=St.put ⟨(St.put ⟨σ.env,σ.hp,σ.nx⟩ oi.dst x).env,σ.hp,σ.nx⟩ oj.dst y:=by
   rw[put_comm (fun t ht=>fun e=>a2 t e ht),← e3]
  rw[← key]
  have e4:outc T Γ all owi true oi (⟨(σ.put oj.dst y).env,σ.hp,σ.nx⟩:St) (St.put ⟨(σ.put oj.dst y).env,σ.hp,σ.nx⟩ oi.dst x):=this;rw[e1]at e4;exact e4
 ·have m1:=r1;unfold kp at m1;have s2:=zDv r2 h2;obtain⟨x,hp,nx,rfl,hx⟩:=zEc h1;obtain⟨y,hp2,nx2,rfl,hy⟩:=zEc h2;rw[zFs]at m1;have f2:hp2=hp/\nx2=nx:=by
   rw[zFs,zEI,zFs,zEI]at s2; exact s2
  obtain⟨rfl,rfl⟩:=f2;have hb:=hy σ.env (Alike.put a1)
  have e:({ St.put ⟨σ.env,hp2,nx2⟩ oi.dst x with env:=σ.env }:St)=⟨σ.env,hp2,nx2⟩ :=(by cases oi.dst <;> rfl);rw[e]at hb;have hal:Alike all oj (St.put ⟨σ.env,hp2,nx2⟩ oi.dst x).env σ.env:=Alike.put a1;have r3':zEe T n oj σ.env=true :=(by rw[← zEJ (n:=n) hal.opds]; exact r3);obtain⟨y',ey,hb'⟩:=zO3 (hp':=σ.hp) (nx':=σ.nx) r2 r3' (fun k hk=>(m1 k hk).symm) hb;refine⟨_,hb',?_⟩
  have h3:=hx (σ.put oj.dst y').env (fun t ht=>(Alike.put a3 t ht).symm)
  have e1:({ σ with env:=(σ.put oj.dst y').env }:St)=σ.put oj.dst y' :=(by cases oj.dst <;> rfl);rw[e1]at h3;have e2:(⟨(σ.put oj.dst y').env,hp2,nx2⟩:St)=St.put ⟨σ.env,hp2,nx2⟩ oj.dst y' :=(by cases oj.dst <;> rfl);rw[e2,put_comm (fun t ht=>fun e=>a2 t e ht)]at h3;have e3:St.put (St.put ⟨σ.env,hp2,nx2⟩ oi.dst x) oj.dst y'=St.put ⟨(St.put ⟨σ.env,hp2,nx2⟩ oi.dst x).env,hp2,nx2⟩ oj.dst y:=by
   have e5:(⟨(St.put ⟨σ.env,hp2,nx2⟩ oi.dst x).env,hp2,nx2⟩:St)=St.put ⟨σ.env,hp2,nx2⟩ oi.dst x :=(by cases oi.dst <;> rfl);rw[e5,put_comm (σ:=⟨σ.env,hp2,nx2⟩) (d:=oi.dst) (e:=oj.dst) (x:=x) (y:=y') (fun t ht=>a2 t ht),put_comm (σ:=⟨σ.env,hp2,nx2⟩) (d:=oi.dst) (e:=oj.dst) (x:=x) (y:=y) (fun t ht=>a2 t ht),ey]
  rw[e3]at h3;exact h3
 ·have s1:=zDv r1 h1;have m2:=r2;unfold kp at m2;obtain⟨x,hp,nx,rfl,hx⟩:=zEc h1;obtain⟨y,hp2,nx2,rfl,hy⟩:=zEc h2;rw[zFs,zEI]at s1;obtain⟨rfl,rfl⟩:=s1;rw[zFs,zFs]at m2;have hb:=hy σ.env (Alike.put a1)
  have e:({ St.put ⟨σ.env,σ.hp,σ.nx⟩ oi.dst x with env:=σ.env }:St)=σ :=(by cases oi.dst <;> rfl);rw[e]at hb;refine⟨_,hb,?_⟩
  have hal:Alike all oi σ.env (St.put ⟨σ.env,hp2,nx2⟩ oj.dst y).env:=fun t ht=>(Alike.put (σ:=⟨σ.env,hp2,nx2⟩) (x:=y) a3 t ht).symm
  have r3':zEe T n oi (St.put ⟨σ.env,hp2,nx2⟩ oj.dst y).env=true :=(by rw[← zEJ (n:=n) hal.opds]; exact r3);have h1':=hx _ hal;have e6:({ σ with env:=(St.put ⟨σ.env,hp2,nx2⟩ oj.dst y).env }:St)=⟨(St.put ⟨σ.env,hp2,nx2⟩ oj.dst y).env,σ.hp,σ.nx⟩:=rfl;rw[e6]at h1';obtain⟨x',ex,h3⟩:=zO3 (hp':=hp2) (nx':=nx2) r1 r3' (fun k hk=>m2 k hk) h1';have e7:(⟨(St.put ⟨σ.env,hp2,nx2⟩ oj.dst y).env,hp2,nx2⟩:St)=St.put ⟨σ.env,hp2,nx2⟩ oj.dst y :=(by cases oj.dst <;> rfl);rw[e7]at h3;have e8:St.put (St.put ⟨σ.env,hp2,nx2⟩ oj.dst y) oi.dst x'=St.put ⟨(St.put ⟨σ.env,σ.hp,σ.nx⟩ oi.dst x).env,hp2,nx2⟩ oj.dst y:=by
   have e9:(⟨(St.put ⟨σ.env,σ.hp,σ.nx⟩ oi.dst x).env,hp2,nx2⟩:St)=St.put ⟨σ.env,hp2,nx2⟩ oi.dst x :=(by cases oi.dst <;> rfl);rw[e9,← put_comm (σ:=⟨σ.env,hp2,nx2⟩) (d:=oj.dst) (e:=oi.dst) (x:=y) (y:=x) (fun t ht=>fun e=>a2 t e ht)]
   cases hd:oi.dst with
   | none=>rfl
   | some d =>
    rw[hd]at ex;have e10:x=x':=by
     have:=congrArg (fun s:St=>s.env d) ex
     simpa [St.put,Nat.beq_refl] using this
    rw[e10]
  rw[e8]at h3;exact h3
def alOp (o:Oper):Bool :=
 match o.op,o.guard with
 | .alloc _,none=>true
 | _,_=>false
theorem zHK {o:Oper} (h:alOp o=true):(∃ t,o.op = .alloc t)/\o.guard=none:=by
 unfold alOp at h;split at h
 ·rename_i t hop hg; exact⟨⟨t,hop⟩,hg⟩
 ·cases h
theorem zSs {all:List Oper}{own:Bool}{o:Oper}{σ σ1:St} (ha:alOp o=true) (h:outc T Γ all own true o σ σ1) :
  ∃ ob,σ1=(zAX σ ob).put o.dst (.op σ.nx 0)/\∀ σ2,outc T Γ all own true o σ2 ((zAX σ2 ob).put o.dst (.op σ2.nx 0)):=by
 obtain⟨⟨t,hop⟩,hg⟩:=zHK ha;have hc:∀ env,callOf T Γ o env=none:=fun env=>by unfold callOf; rw[hop]
 have hp:∀ env,zBw T own o env=none:=fun env=>by unfold zBw; rw[hop]
 have hgt:∀ env,gate all o env=some true:=fun env=>by unfold gate; rw[hg]
 have hr:∀ σ K,¬ zEL T (zGX Γ) own o σ K:=fun σ K hk=>by
  unfold zEL zA6 at hk;rw[hop]at hk;dsimp only at hk;unfold zF6 at hk;rw[hop]at hk;exact hk
 unfold outc runs at h;rw[hgt]at h;dsimp only at h;rw[hc]at h;dsimp only at h;cases hT:T t with
 | none =>
  have hs:step1 T own o σ=none:=by
   unfold step1 zBf zCg zB6;rw[hp,hop]
   dsimp only;rw[hT]
  rw[hs]at h;exact(hr _ _ h).elim
 | some i =>
  have hs:∀ σ:St,step1 T own o σ=some (none,.op σ.nx 0,zAX σ (.box t (i.zero.map zAV))):=fun σ=>by
   unfold step1 zBf zCg;rw[hp,hop]
   dsimp only;rw[hT]
   dsimp only;rw[zCf]
  rw[hs]at h;refine⟨.box t (i.zero.map zAV),h.2,fun σ2=>?_⟩
  unfold outc runs;rw[hgt]
  dsimp only;rw[hc]
  dsimp only;rw[hs]
  exact⟨trivial,rfl⟩
def lowK (m:Nat):List Nat->Bool
 | []=>true
 | k::ks=>match Nat.blt k m with | true=>lowK m ks | false=>false
theorem zNs {m:Nat}:∀ {ks:List Nat},lowK m ks=true->∀ k∈ks,k<m
 | [],_,k,hk=>by cases hk
 | q::ks,h,k,hk=>by
  unfold lowK at h;split at h
  ·rename_i e
   rcases List.mem_cons.1 hk with rfl | hk
   ·exact Nat.le_of_ble_eq_true e
   ·exact zNs h k hk
  ·cases h
theorem zQh {m:Nat}:∀ {ks:List Nat},(∀ k∈ks,k<m)->lowK m ks=true
 | [],_=>rfl
 | q::ks,h=>by
  unfold lowK;have e:Nat.blt q m=true:=Nat.ble_eq_true_of_le (h q List.mem_cons_self)
  rw[e]
  exact zQh fun k hk=>h k (List.mem_cons_of_mem _ hk)
def cmF (T:Nat->Option TI) (Γ:Nat->Option zAp) (o:Oper) (σ σ1:St):Prop :=
 callOf T Γ o σ.env=none/\σ1.nx=σ.nx/\∃ g xs s R,zA6 T o σ.env=some (g,xs)/\zGX Γ g=some s/\s.own=some R/\s.nil=none/\lowK σ.nx (zAn σ.hp 64 (AV.keysAll xs) [])=true
def cmP (T:Nat->Option TI) (Γ:Nat->Option zAp) (o:Oper) (σ σ1:St):Prop :=
 match zA6 T o σ.env with
 | some (g,xs)=>match zGX Γ g with
  | some s=>match s.own,s.nil with
   | some _,none=>lowK σ.nx (zAn σ.hp 64 (AV.keysAll xs) [])=true/\σ1.nx=σ.nx
   | _,_=>False
  | none=>False
 | none=>False
theorem zRV {o:Oper}{σ σ1:St} (hc:callOf T Γ o σ.env=none) (h:cmP T Γ o σ σ1):cmF T Γ o σ σ1:=by
 unfold cmP at h;split at h
 ·rename_i g xs h1
  split at h
  ·rename_i s h2
   split at h
   ·rename_i R h3 h4
    exact⟨hc,h.2,g,xs,s,R,h1,h2,h3,h4,h.1⟩
   ·exact h.elim
  ·exact h.elim
 ·exact h.elim
theorem zIp {o:Oper}{env:Nat->AV}{p:Nat×List AV} (h:zA6 T o env=some p):∃ f args ts,o.op = .call { callee:=.value f,args:=args,argTypes:=ts }:=by
 unfold zA6 at h;split at h
 ·rename_i f args ts hop; exact⟨f,args,ts,hop⟩
 ·cases h
theorem zSy {o:Oper}{σ σ1:St} (h:cmF T Γ o σ σ1):alOp o=false:=by
 obtain⟨_,_,g,xs,s,R,h1,_⟩:=h;obtain⟨f,args,ts,hop⟩:=zIp h1;cases e:alOp o with
 | false=>rfl
 | true =>
  obtain⟨⟨t,hop'⟩,_⟩:=zHK e;rw[hop]at hop'; cases hop'
theorem zPZ {o:Oper}{σ σ1:St} (h:cmF T Γ o σ σ1):rdOp o=false:=by
 obtain⟨_,_,g,xs,s,R,h1,_⟩:=h;obtain⟨f,args,ts,hop⟩:=zIp h1;unfold rdOp;rw[hop]
theorem zLV {o:Oper}{σ σ1 σ' σ1':St} (h:cmF T Γ o σ σ1) (ha:∀ x∈o.op.operands,∀ ty,opd T σ.env ty x=opd T σ'.env ty x) (hh:σ'.hp=σ.hp) (hn:σ'.nx=σ.nx) (hn1:σ1'.nx=σ1.nx):cmF T Γ o σ' σ1':=by
 obtain⟨h0,h1,g,xs,s,R,h2,h3,h4,h5,h6⟩:=h;exact⟨by rw[← zBB (Γ:=Γ) ha]; exact h0,by rw[hn1,hn]; exact h1,g,xs,s,R,by rw[← zB3 ha]; exact h2,h3,h4,h5,by rw[hn,hh]; exact h6⟩
def addk (hp:Nat->Option Ob) (m:Nat) (ob:Ob):Nat->Option Ob:=fun k=>bif Nat.beq k m then some ob else hp k
theorem zPR {hp:Nat->Option Ob}{m k:Nat}{ob:Ob} (h:k ≠ m):addk hp m ob k=hp k:=by
 unfold addk;cases e:Nat.beq k m with
 | false=>rfl
 | true=>exact absurd (Nat.eq_of_beq_eq_true e) h
theorem zBT {hp:Nat->Option Ob}:∀ (n:Nat) (ks acc:List Nat),∀ k∈acc,k∈zAn hp n ks acc
 | 0,_,acc,k,h=>by unfold zAn; exact h
 | n+1,[],acc,k,h=>by unfold zAn; exact h
 | n+1,q::ks,acc,k,h=>by
  unfold zAn;split
  ·exact zBT n ks acc k h
  ·split
   ·exact zBT n _ _ k (List.mem_append_left _ h)
   ·exact zBT n _ _ k (List.mem_append_left _ h)
   ·exact zBT n _ _ k (List.mem_append_left _ h)
theorem zC3 {hp:Nat->Option Ob}{m:Nat}{ob:Ob}:∀ (n:Nat) (ks acc:List Nat),(∀ k∈zAn hp n ks acc,k ≠ m)->zAn (addk hp m ob) n ks acc=zAn hp n ks acc
 | 0,_,acc,h=>by unfold zAn; rfl
 | n+1,[],acc,h=>by unfold zAn; rfl
 | n+1,q::ks,acc,h=>by
  unfold zAn at h ⊢;cases e:kin q acc with
  | true =>
   rw[e]at h;dsimp only at h ⊢;exact zC3 n ks acc h
  | false =>
   rw[e]at h;dsimp only at h ⊢;have hq:q ≠ m:=by
    split at h
    ·exact h q (zBT n _ _ q (List.mem_append_right _ List.mem_cons_self))
    ·exact h q (zBT n _ _ q (List.mem_append_right _ List.mem_cons_self))
    ·exact h q (zBT n _ _ q (List.mem_append_right _ List.mem_cons_self))
   rw[zPR hq]
   split
   ·rename_i t cells e2
    rw[e2]at h;exact zC3 n _ _ h
   ·rename_i e sz rows e2
    rw[e2]at h;exact zC3 n _ _ h
   ·rename_i e2 e4
    split at h
    ·rename_i t cells e3; exact absurd e3 (e2 t cells)
    ·rename_i e sz rows e3; exact absurd e3 (e4 e sz rows)
    ·exact zC3 n _ _ h
theorem zNy {hp:Nat->Option Ob}{m:Nat}{ob:Ob}{ρ:List (Nat×Nat)}:∀ {ks:List Nat},(∀ k∈ks,k ≠ m)->zJ2 (addk hp m ob) ρ ks=zJ2 hp ρ ks
 | [],_=>rfl
 | k::ks,h=>by
  unfold zJ2;rw[zPR (h k List.mem_cons_self),zNy fun q hq=>h q (List.mem_cons_of_mem _ hq)]
theorem zJJ {nx nx':Nat}:∀ {ks:List Nat}{i:Nat},i<ks.length->zEu ks nx i=zEu ks nx' i/\zEu ks nx i∈ks
 | [],i,h=>by simp at h
 | k::ks,0,_=>⟨rfl,List.mem_cons_self⟩
 | k::ks,i+1,h=>by
  have:=zJJ (nx:=nx) (nx':=nx') (ks:=ks) (i:=i) (by simpa using h)
  exact⟨this.1,List.mem_cons_of_mem _ this.2⟩
theorem zJK {ks:List Nat}{nx nx':Nat}:∀ {os:List (Option Ob)}{i:Nat},i+os.length<=ks.length->zDV ks nx i os=zDV ks nx' i os
 | [],_,_=>rfl
 | none::r,i,h=>by
  unfold zDV;exact zJK (by simp only[List.length_cons]at h; omega)
 | some o::r,i,h=>by
  unfold zDV;simp only[List.length_cons]at h;rw[(zJJ (nx:=nx) (nx':=nx') (by omega)).1,zJK (nx:=nx) (nx':=nx') (by omega)]
theorem zLg {ρ:List (Nat×Nat)}{f f':Nat->Nat}{m:Nat}{ob:Ob}:∀ {os:List (Option Ob)}{i:Nat}{hp:Nat->Option Ob},(∀ j,j<os.length->f' (i+j)=f (i+j)/\f (i+j) ≠ m) ->
  zGW ρ f' i os (addk hp m ob)=addk (zGW ρ f i os hp) m ob
 | [],_,_,_=>rfl
 | o::os,i,hp,h=>by
  unfold zGW;obtain⟨h1,h2⟩:=h 0 (by simp)
  rw[Nat.add_zero]at h1 h2;rw[← zLg (os:=os) (i:=i+1) fun j hj=>by
   have:=h (j+1) (by simp only[List.length_cons]; omega)
   rw[show i+(j+1)=i+1+j by omega]at this;exact this]
  congr 1
  funext k
  rw[h1]
  unfold addk;cases e1:Nat.beq k (f i) with
  | false=>simp only[e1,cond_false]
  | true =>
   cases e2:Nat.beq k m with
   | false=>simp only[e1,cond_false,cond_true]
   | true=>exact absurd ((Nat.eq_of_beq_eq_true e1).symm.trans (Nat.eq_of_beq_eq_true e2)) h2
theorem zM7 {own:Bool}{o:Oper}{σ:St}{K:AV->St->Prop}{Γ':Nat->Option zAp}{g:Nat}{xs:List AV}{s:zAp}{R:List AV->List Ob->AV->List (Option Ob)->Prop} (h1:zA6 T o σ.env=some (g,xs)) (h2:Γ' g=some s) (h3:s.heap=none) (h4:s.own=some R) (h5:s.nil=none) :
  zEL T Γ' own o σ K↔∃ os,distinct (zAn σ.hp 64 (AV.keysAll xs) [])=true/\zJ2 σ.hp (zipI 0 (zAn σ.hp 64 (AV.keysAll xs) [])) (zAn σ.hp 64 (AV.keysAll xs) [])=some os /\
   ∃ x os',R (AV.renAll (zipI 0 (zAn σ.hp 64 (AV.keysAll xs) [])) xs) os x os'/\K (x.ren (zDV (zAn σ.hp 64 (AV.keysAll xs) []) σ.nx 0 os')) (handed σ (zAn σ.hp 64 (AV.keysAll xs) []) os'):=by
 unfold zEL;rw[h1]
 dsimp only;rw[h2]
 dsimp only;rw[h3]
 dsimp only;rw[h4]
 unfold zD7;rw[h5]
 dsimp only
 constructor
 ·intro h;split at h
  ·rename_i os e1 e2
   exact⟨os,e1,e2,h⟩
  ·exact h.elim
 ·rintro⟨os,e1,e2,h⟩
  rw[e1,e2]
  exact h
theorem zPG {own:Bool}{o:Oper}{σ:St}{f:Operand}{args:Array Operand}{ts:Array TypeId} (hop:o.op = .call { callee:=.value f,args:=args,argTypes:=ts }):step1 T own o σ=none:=by
 unfold step1 zBw zBf zCg zB6;rw[hop]
theorem zRW {all:List Oper}{oi oj:Oper}{owi owj:Bool}{σ σi σij:St} (hap:oi.apart all.toArray oj=true) (hc:cmF T Γ oi σ σi) (hal:alOp oj=true)
  (h1:outc T Γ all owi true oi σ σi) (h2:outc T Γ all owj true oj σi σij):∃ σj,outc T Γ all owj true oj σ σj/\outc T Γ all owi true oi σj σij/\cmF T Γ oi σj σij:=by
 obtain⟨a1,a2,a3⟩:=Oper.apart_spec hap;obtain⟨ob,hij,hany⟩:=zSs hal h2;obtain⟨c0,c1,g,xs,s,R,c2,c3,c4,c5,c6⟩:=hc;obtain⟨f,args,ts,hop⟩:=zIp c2;have hlow:=zNs c6;have hne:∀ k∈zAn σ.hp 64 (AV.keysAll xs) [],k ≠ σ.nx:=fun k hk e=>by have:=hlow k hk; omega
 refine⟨_,hany σ,?_⟩
 have henv:((zAX σ ob).put oj.dst (.op σ.nx 0)).env=(σ.put oj.dst (.op σ.nx 0)).env :=(by cases oj.dst <;> rfl);have hhp:((zAX σ ob).put oj.dst (.op σ.nx 0)).hp=addk σ.hp σ.nx ob :=(by cases oj.dst <;> rfl);have hnx:((zAX σ ob).put oj.dst (.op σ.nx 0)).nx=σ.nx+1 :=(by cases oj.dst <;> rfl);have al:Alike all oi σ.env ((zAX σ ob).put oj.dst (.op σ.nx 0)).env:=by
  rw[henv]
  exact fun t ht=>(Alike.put (σ:=σ) (x:=.op σ.nx 0) a3 t ht).symm
 have nij:σij.nx=σ.nx+1:=by
  rw[hij,zEI]
  show σi.nx+1=σ.nx+1;rw[c1]
 have ck:zAn (addk σ.hp σ.nx ob) 64 (AV.keysAll xs) []=zAn σ.hp 64 (AV.keysAll xs) []:=zC3 _ _ _ hne;refine⟨?_,⟨by rw[← zBB (Γ:=Γ) al.opds]; exact c0,by rw[nij,hnx],g,xs,s,R,by rw[← zB3 al.opds]; exact c2,c3,c4,c5,?_⟩⟩
 ·generalize hσj:(zAX σ ob).put oj.dst (.op σ.nx 0)=σj at *;unfold outc at h1 ⊢;rw[← al.gate]
  split at h1
  ·rename_i hg
   unfold runs at h1 ⊢;rw[c0]at h1;rw[← zBB (Γ:=Γ) al.opds,c0]
   dsimp only at h1 ⊢;rw[zPG hop]at h1 ⊢;dsimp only at h1 ⊢;rw[zM7 c2 c3 (zGv c3).2 c4 c5]at h1;rw[zM7 (by rw[← zB3 al.opds]; exact c2) c3 (zGv c3).2 c4 c5]
   obtain⟨os,e1,e2,x,os',e3,e4⟩:=h1;rw[hhp,hnx,ck,zNy hne]
   refine⟨os,e1,e2,x,os',e3,?_⟩
   have hle:os'.length<=(zAn σ.hp 64 (AV.keysAll xs) []).length:=by
    have:(handed σ (zAn σ.hp 64 (AV.keysAll xs) []) os').nx=σ.nx:=by
     rw[← c1,e4,zEI]
    have h3:σ.nx+(os'.length - (zAn σ.hp 64 (AV.keysAll xs) []).length)=σ.nx:=this
    omega
   have hbl:zDV (zAn σ.hp 64 (AV.keysAll xs) []) (σ.nx+1) 0 os'=zDV (zAn σ.hp 64 (AV.keysAll xs) []) σ.nx 0 os':=zJK (by omega)
   have hlay:zGW (zDV (zAn σ.hp 64 (AV.keysAll xs) []) (σ.nx+1) 0 os') (zEu (zAn σ.hp 64 (AV.keysAll xs) []) (σ.nx+1)) 0 os' (addk σ.hp σ.nx ob) =
     addk (zGW (zDV (zAn σ.hp 64 (AV.keysAll xs) []) σ.nx 0 os') (zEu (zAn σ.hp 64 (AV.keysAll xs) []) σ.nx) 0 os' σ.hp) σ.nx ob:=by
    rw[hbl]
    refine zLg fun j hj=>?_
    have hb:=zJJ (nx:=σ.nx) (nx':=σ.nx+1) (ks:=zAn σ.hp 64 (AV.keysAll xs) []) (i:=0+j) (by omega)
    exact⟨hb.1.symm,hne _ hb.2⟩
   rw[hbl]
   have hh:handed σj (zAn σ.hp 64 (AV.keysAll xs) []) os'=⟨σj.env,addk (handed σ (zAn σ.hp 64 (AV.keysAll xs) []) os').hp σ.nx ob,σ.nx+1⟩:=by
    unfold handed;rw[hhp,hnx,hlay]
    have:σ.nx+1+(os'.length - (zAn σ.hp 64 (AV.keysAll xs) []).length)=σ.nx+1 :=(by omega);rw[this]
   rw[hh,hij,e4,← hσj]
   have hn2:(handed σ (zAn σ.hp 64 (AV.keysAll xs) []) os').nx=σ.nx :=(by rw[← c1,e4,zEI]);have he2:(handed σ (zAn σ.hp 64 (AV.keysAll xs) []) os').env=σ.env:=rfl;generalize handed σ (zAn σ.hp 64 (AV.keysAll xs) []) os'=τ at *;obtain⟨te,th,tn⟩:=τ;dsimp only at hn2 he2;subst hn2;subst he2;have hcm:=put_comm (σ:=(⟨σ.env,addk th σ.nx ob,σ.nx+1⟩:St)) (d:=oi.dst) (e:=oj.dst) (x:=x.ren (zDV (zAn σ.hp 64 (AV.keysAll xs) []) σ.nx 0 os')) (y:=.op σ.nx 0) (fun t ht e=>a2 t ht e)
   have l1:(zAX (St.put ⟨σ.env,th,σ.nx⟩ oi.dst (x.ren (zDV (zAn σ.hp 64 (AV.keysAll xs) []) σ.nx 0 os'))) ob)=St.put ⟨σ.env,addk th σ.nx ob,σ.nx+1⟩ oi.dst (x.ren (zDV (zAn σ.hp 64 (AV.keysAll xs) []) σ.nx 0 os')) :=(by cases oi.dst <;> rfl);have l2:(St.put ⟨σ.env,th,σ.nx⟩ oi.dst (x.ren (zDV (zAn σ.hp 64 (AV.keysAll xs) []) σ.nx 0 os'))).nx=σ.nx :=(by rw[zEI]);rw[l1,l2,hcm]
   have l3:(⟨((zAX σ ob).put oj.dst (.op σ.nx 0)).env,addk th σ.nx ob,σ.nx+1⟩:St)=St.put ⟨σ.env,addk th σ.nx ob,σ.nx+1⟩ oj.dst (.op σ.nx 0) :=(by cases oj.dst <;> rfl);rw[l3]
  ·rename_i hg
   subst h1;rw[hij,← hσj]
   have l1:zAX (σ.put oi.dst (.tup [])) ob=(zAX σ ob).put oi.dst (.tup []) :=(by cases oi.dst <;> rfl);rw[l1,zEI,put_comm (fun t ht e=>a2 t ht e)]
  ·exact h1.elim
 ·rw[hhp,ck,hnx]
  exact zQh fun k hk=>Nat.lt_succ_of_lt (hlow k hk)
def fct (T:Nat->Option TI) (Γ:Nat->Option zAp) (L Ro:List Nat) (n:Nat->Bool) (i:Nat) (o:Oper) (σ σ1:St):Prop :=
 (inL i Ro=true->roOk T n o σ σ1)/\(inL (i+1000) Ro=true->inL i L=true->cmF T Γ o σ σ1)
theorem zJm {all:List Oper}{own loud:Bool}{o:Oper}{σ σ1:St} (hl:loud=false∨rdOp o=true) (h:outc T Γ all own loud o σ σ1):σ1.nx=σ.nx:=by
 cases loud with
 | false =>
  obtain⟨x,rfl,_⟩:=zHY h;rw[zEI]
 | true =>
  rcases hl with h' | h'
  ·cases h'
  ·exact(zDv h' h).2
def aOp (T:Nat->Option TI) (Γ:Nat->Option zAp) (M L Ro:List Nat) (n:Nat->Bool) (ops:List Oper) (i:Nat) (K:St->Prop) (σ:St):Prop :=
 match ops[i]? with
 | none=>K σ
 | some o=>∃ σ1,outc T Γ ops (dIn o.dst M) (inL i L) o σ σ1/\fct T Γ L Ro n i o σ σ1/\K σ1
def aAny (T:Nat->Option TI) (Γ:Nat->Option zAp) (M L Ro:List Nat) (n:Nat->Bool) (ops:List Oper) (Q:St->Prop):Nat->Array Bool->St->Prop
 | 0,listed,σ=>Region.ready .any ops.toArray listed=[]/\Q σ
 | fuel+1,listed,σ =>
  (Region.ready .any ops.toArray listed=[]->Q σ) /\
  ∀ i∈Region.ready .any ops.toArray listed,aOp T Γ M L Ro n ops i (aAny T Γ M L Ro n ops Q fuel (listed.setIfInBounds i true)) σ
theorem zIm {all:List Oper}{own loud:Bool}{o o':Oper}{σ σ1:St} (hd:∀ t,o.dst=some t->t ∉ o'.looksAt all.toArray) (h:outc T Γ all own loud o σ σ1):Alike all o' σ1.env σ.env:=by
 obtain⟨x,hp,nx,rfl,_⟩:=zEc h;intro t ht;exact Alike.put (σ:=⟨σ.env,hp,nx⟩) (x:=x) hd t ht
theorem zPc {M L Ro:List Nat}{n:Nat->Bool}{ops:List Oper}{Q:St->Prop}{i:Nat}{oi:Oper} (hi:ops[i]? = some oi){D:List Nat}
  (hD:∀ d od,d∈D->d ≠ i->ops[d]? = some od->∃ e∈od.after,Region.binds .any e=true/\e.on∈D) :
  ∀ (fuel:Nat) (listed:Array Bool) (σ σi:St),below n σ->fct T Γ L Ro n i oi σ σi->(∀ d,d∈D->listed.getD d true=false) ->
   (∀ j oj,ops[j]? = some oj->j ≠ i->listed.getD j true=false->j ∉ D->oi.apart ops.toArray oj=true/\(inL i L=false∨inL j L=false∨(rdOp oi=true/\rdOp oj=true)∨(mkS oi (inL i Ro)=true/\rdOp oj=true/\inL j Ro=true)∨(rdOp oi=true/\mkS oj (inL j Ro)=true/\inL i Ro=true)∨(inL i L=true/\inL j L=true/\inL (i+1000) Ro=true/\alOp oj=true))) ->
   i∈Region.ready .any ops.toArray listed->outc T Γ ops (dIn oi.dst M) (inL i L) oi σ σi ->
   aAny T Γ M L Ro n ops Q fuel (listed.setIfInBounds i true) σi->aAny T Γ M L Ro n ops Q (fuel+1) listed σ:=by
 intro fuel
 induction fuel with
 | zero =>
  intro listed σ σi _ hro _ _ hr ho H;refine⟨fun h=>(by rw[h]at hr; cases hr),fun j hj=>?_⟩
  by_cases hji:j=i
  ·subst hji; unfold aOp; rw[hi]; exact⟨σi,ho,hro,H⟩
  ·have:=ready_mono hj hji;rw[H.1]at this;cases this
 | succ fuel ih =>
  intro listed σ σi hn hro hU hfree hr ho H;refine⟨fun h=>(by rw[h]at hr; cases hr),fun j hj=>?_⟩
  by_cases hji:j=i
  ·subst hji; unfold aOp; rw[hi]; exact⟨σi,ho,hro,H⟩
  ·have h1:=H.2 j (ready_mono hj hji)
   obtain⟨hjun,oj,hoj,hall⟩:=mem_ready.1 hj;have hoj':ops[j]? = some oj :=(by simpa using hoj);have hnot:j ∉ D:=fun hjD=>by
    obtain⟨e,he,hb,heD⟩:=hD j oj hjD hji hoj';have h1:=hall e he hb;have h0:=hU _ heD;rcases Nat.lt_or_ge e.on listed.size with h' | h'
    ·simp[h']at h0 h1; rw[h0]at h1; cases h1
    ·simp[Array.getElem?_eq_none h']at h1
   unfold aOp at h1 ⊢;rw[hoj']at h1 ⊢;obtain⟨σij,h2,h2r,h3⟩:=h1;obtain⟨hap,hll⟩:=hfree j oj hoj' hji hjun hnot;obtain⟨p1,p2,p3⟩:=Oper.apart_spec hap;have key:∃ σj,outc T Γ ops (dIn oj.dst M) (inL j L) oj σ σj/\outc T Γ ops (dIn oi.dst M) (inL i L) oi σj σij/\fct T Γ L Ro n j oj σ σj/\fct T Γ L Ro n i oi σj σij:=by
    have old:(inL i L=false∨inL j L=false∨(rdOp oi=true/\rdOp oj=true)∨(mkS oi (inL i Ro)=true/\rdOp oj=true/\inL j Ro=true)∨(rdOp oi=true/\mkS oj (inL j Ro)=true/\inL i Ro=true)) ->
      ∃ σj,outc T Γ ops (dIn oj.dst M) (inL j L) oj σ σj/\outc T Γ ops (dIn oi.dst M) (inL i L) oi σj σij/\fct T Γ L Ro n j oj σ σj/\fct T Γ L Ro n i oi σj σij:=fun hll=>by
     obtain⟨σj,h4,h5⟩:=zQq (n:=n) hn hap (by
      rcases hll with h | h | h | ⟨h,h',h''⟩ | ⟨h,h',h''⟩
      ·exact .inl h
      ·exact .inr (.inl h)
      ·exact .inr (.inr (.inl h))
      ·exact .inr (.inr (.inr (.inl ⟨zRK hn h hro.1 ho,h',zQD h' (h2r.1 h'')⟩)))
      ·exact .inr (.inr (.inr (.inr ⟨h,zRK (below_le hn (zMq ho)) h' h2r.1 h2,zQD h (hro.1 h'')⟩)))) ho h2
     have al1:Alike ops oj σi.env σ.env:=zIm p1 ho;have al2:Alike ops oi σj.env σ.env:=zIm p3 h4;have still:(σi.hp=σ.hp/\σij.hp=σj.hp)∨(σj.hp=σ.hp/\σij.hp=σi.hp):=by
      rcases hll with h | h | ⟨h,_⟩ | ⟨_,h,_⟩ | ⟨h,_,_⟩
      ·exact .inl ⟨zCP (.inl h) ho,zCP (.inl h) h5⟩
      ·exact .inr ⟨zCP (.inl h) h4,zCP (.inl h) h2⟩
      ·exact .inl ⟨zCP (.inr h) ho,zCP (.inr h) h5⟩
      ·exact .inr ⟨zCP (.inr h) h4,zCP (.inr h) h2⟩
      ·exact .inl ⟨zCP (.inr h) ho,zCP (.inr h) h5⟩
     refine⟨σj,h4,h5,⟨fun h=>?_,fun h hL=>?_⟩,⟨fun h=>?_,fun h hL=>?_⟩⟩
     ·rcases h2r.1 h with h1 | ⟨hr,h1⟩
      ·exact .inl (by rw[← zEJ (n:=n) al1.opds]; exact h1)
      ·refine .inr ⟨hr,fun k hk=>?_⟩
       rcases still with ⟨e1,e2⟩ | ⟨e1,_⟩
       ·rw[← e2,h1 k hk,e1]
       ·rw[e1]
     ·have hc:=h2r.2 h hL;have hs:inL i L=false∨rdOp oi=true:=by
       rcases hll with h | h | ⟨h,_⟩ | ⟨_,h,_⟩ | ⟨h,_,_⟩
       ·exact .inl h
       ·rw[hL]at h; cases h
       ·exact .inr h
       ·rw[zPZ hc]at h; cases h
       ·exact .inr h
      exact zLV hc al1.opds (zCP hs ho).symm (zJm hs ho).symm (zJm hs h5).symm
     ·rcases hro.1 h with h1 | ⟨hr,h1⟩
      ·exact .inl (by rw[zEJ (n:=n) al2.opds]; exact h1)
      ·refine .inr ⟨hr,fun k hk=>?_⟩
       rcases still with ⟨_,e2⟩ | ⟨e1,e2⟩
       ·rw[e2]
       ·rw[e2,h1 k hk,e1]
     ·have hc:=hro.2 h hL;have hs:inL j L=false∨rdOp oj=true:=by
       rcases hll with h | h | ⟨h,_⟩ | ⟨_,h,_⟩ | ⟨h,_,_⟩
       ·rw[hL]at h; cases h
       ·exact .inl h
       ·rw[zPZ hc]at h; cases h
       ·exact .inr h
       ·rw[zPZ hc]at h; cases h
      exact zLV hc (fun x hx ty=>(al2.opds x hx ty).symm) (zCP hs h4) (zJm hs h4) (zJm hs h2)
    rcases hll with h | h | h | h | h | ⟨hiL,hjL,hf,hal⟩
    ·exact old (.inl h)
    ·exact old (.inr (.inl h))
    ·exact old (.inr (.inr (.inl h)))
    ·exact old (.inr (.inr (.inr (.inl h))))
    ·exact old (.inr (.inr (.inr (.inr h))))
    ·rw[hiL]at ho;rw[hjL]at h2;obtain⟨σj,h4,h5,h6⟩:=zRW hap (hro.2 hf hiL) hal ho h2;have al2:Alike ops oi σj.env σ.env:=zIm p3 h4;have hmk:mkOp oj=true:=by
      obtain⟨⟨t,hop⟩,_⟩:=zHK hal;unfold mkOp; rw[hop]
     have hrj:rdOp oj=false:=by
      obtain⟨⟨t,hop⟩,_⟩:=zHK hal;unfold rdOp; rw[hop]
     have m1:=zOn hmk h4;have m2:=zOn hmk h2;refine⟨σj,by rw[hjL]; exact h4,by rw[hiL]; exact h5,⟨fun _=>.inr ⟨hrj,fun k hk=>m1 k (hn k hk)⟩,fun h hL=>?_⟩,⟨fun h=>?_,fun _ _=>h6⟩⟩
     ·have:=zSy (h2r.2 h hL)
      rw[hal]at this; cases this
     ·rcases hro.1 h with h1 | ⟨hr,h1⟩
      ·exact .inl (by rw[zEJ (n:=n) al2.opds]; exact h1)
      ·refine .inr ⟨hr,fun k hk=>?_⟩
       rw[m2 k (below_le hn (zMq ho) k hk),h1 k hk,m1 k (hn k hk)]
   obtain⟨σj,h4,h5,tj,ti⟩:=key;refine⟨σj,h4,tj,ih (listed.setIfInBounds j true) σj σij (below_le hn (zMq h4)) ti (fun d hd=>by rw[getD_set_ne true (fun e=>hnot (by rw[e]; exact hd))]; exact hU d hd) (fun k ok hk hki hun hno=>?_) (ready_mono hr (Ne.symm hji)) h5 (by rw[Array.setIfInBounds_comm _ _ hji]; exact h3)⟩
   refine hfree k ok hk hki ?_ hno
   by_cases hjk:j=k
   ·subst hjk; exact hjun
   ·rw[getD_set_ne true hjk]at hun; exact hun
def aLex (T:Nat->Option TI) (Γ:Nat->Option zAp) (M L Ro:List Nat) (n:Nat->Bool) (all:List Oper) (Q:St->Prop):List Oper->Nat->St->Prop
 | [],_,σ=>Q σ
 | o::os,k,σ=>∃ σ1,outc T Γ all (dIn o.dst M) (inL k L) o σ σ1/\fct T Γ L Ro n k o σ σ1/\aLex T Γ M L Ro n all Q os (k+1) σ1
def depL (ops:Array Oper) (i:Nat):List Nat :=
 (List.range ops.size).foldl (fun acc j=>match j == i||(match ops[j]? with | some oj=>oj.after.any (fun e=>Region.binds .any e&&inL e.on acc) | none=>false) with | true=>j::acc | false=>acc) []
def zRZ (ops:Array Oper) (L Ro:List Nat) (listed:Array Bool) (i:Nat):Bool :=
 (depL ops i).all (fun d=>!(listed.getD d true))&&(List.range ops.size).all fun j=>j == i||listed.getD j true||inL j (depL ops i)||match ops[i]?,ops[j]? with
  | some oi,some oj=>oi.apart ops oj&&(!(inL i L)||!(inL j L)||(rdOp oi&&rdOp oj)||(mkS oi (inL i Ro)&&rdOp oj&&inL j Ro)||(rdOp oi&&mkS oj (inL j Ro)&&inL i Ro)||(inL i L&&inL j L&&inL (i+1000) Ro&&alOp oj))
  | _,_=>true
def lexD (ops:Array Oper) (L Ro:List Nat):Nat->Nat->Array Bool->Bool
 | 0,_,listed=>(Region.ready .any ops listed).isEmpty
 | fuel+1,k,listed=>(Region.ready .any ops listed).contains k&&zRZ ops L Ro listed k&&lexD ops L Ro fuel (k+1) (listed.setIfInBounds k true)
theorem zOk {t:Nat}:∀ {l:List Nat},inL t l=true↔t∈l
 | []=>by simp[inL]
 | x::l=>by
  simp only[inL,Bool.or_eq_true,List.mem_cons,zOk (l:=l)]
  exact⟨fun h=>h.imp Nat.eq_of_beq_eq_true id,fun h=>h.imp (fun e=>by rw[e]; exact Nat.beq_refl _) id⟩
theorem zP0 (ops:Array Oper) (i:Nat):∀ d od,d∈depL ops i->d ≠ i->ops[d]? = some od->∃ e∈od.after,Region.binds .any e=true/\e.on∈depL ops i:=by
 have key:∀ (l:List Nat) (acc:List Nat),(∀ d od,d∈acc->d ≠ i->ops[d]? = some od->∃ e∈od.after,Region.binds .any e=true/\e.on∈acc) ->
   ∀ d od,d∈l.foldl (fun acc j=>match j == i||(match ops[j]? with | some oj=>oj.after.any (fun e=>Region.binds .any e&&inL e.on acc) | none=>false) with | true=>j::acc | false=>acc) acc->d ≠ i->ops[d]? = some od ->
    ∃ e∈od.after,Region.binds .any e=true/\e.on∈l.foldl (fun acc j=>match j == i||(match ops[j]? with | some oj=>oj.after.any (fun e=>Region.binds .any e&&inL e.on acc) | none=>false) with | true=>j::acc | false=>acc) acc:=by
  intro l
  induction l with
  | nil=>intro acc h; exact h
  | cons j l ih =>
   intro acc h;simp only[List.foldl_cons]
   refine ih _ ?_;intro d od hd hne hod;split at hd
   ·rename_i hc
    rcases List.mem_cons.1 hd with rfl | hd
    ·simp only[Bool.or_eq_true,beq_iff_eq,hne,false_or,hod]at hc;obtain⟨e,he,hb⟩:=Array.any_eq_true'.1 hc;simp only[Bool.and_eq_true]at hb;exact⟨e,he,hb.1,List.mem_cons_of_mem _ (zOk.1 hb.2)⟩
    ·obtain⟨e,he,hb,hm⟩:=h d od hd hne hod;exact⟨e,he,hb,List.mem_cons_of_mem _ hm⟩
   ·rename_i hc
    obtain⟨e,he,hb,hm⟩:=h d od hd hne hod;exact⟨e,he,hb,hm⟩
 exact key _ [] (fun d od hd=>by cases hd)
theorem zPo {ops:Array Oper}{L Ro:List Nat}{listed:Array Bool}{i:Nat} (h:zRZ ops L Ro listed i=true):(∀ d,d∈depL ops i->listed.getD d true=false) /\
  ∀ (j:Nat) (oj:Oper),ops[j]? = some oj->j ≠ i->listed.getD j true=false->j ∉ depL ops i->∀ {oi:Oper},ops[i]? = some oi->oi.apart ops oj=true/\(inL i L=false∨inL j L=false∨(rdOp oi=true/\rdOp oj=true)∨(mkS oi (inL i Ro)=true/\rdOp oj=true/\inL j Ro=true)∨(rdOp oi=true/\mkS oj (inL j Ro)=true/\inL i Ro=true)∨(inL i L=true/\inL j L=true/\inL (i+1000) Ro=true/\alOp oj=true)):=by
 unfold zRZ at h;simp only[Bool.and_eq_true,List.all_eq_true,List.mem_range]at h;obtain⟨h1,h2⟩:=h;refine⟨fun d hd=>by simpa using h1 d hd,fun j oj hj hne hun hnd oi hoi=>?_⟩
 have h3:=h2 j (Array.getElem?_eq_some_iff.1 hj).1;have hnl:inL j (depL ops i)=false:=by
  cases e:inL j (depL ops i) with
  | false=>rfl
  | true=>exact absurd (zOk.1 e) hnd
 simp only[hj,hoi,Bool.or_eq_true,Bool.and_eq_true,beq_iff_eq,hne,false_or,hun,Bool.false_eq_true,Bool.not_eq_true',hnl]at h3;refine⟨h3.1,?_⟩
 rcases h3.2 with ((((h3 | h3) | h3) | h3) | h3) | h3
 ·exact .inl h3
 ·exact .inr (.inl h3)
 ·exact .inr (.inr (.inl h3))
 ·exact .inr (.inr (.inr (.inl ⟨h3.1.1,h3.1.2,h3.2⟩)))
 ·exact .inr (.inr (.inr (.inr (.inl ⟨h3.1.1,h3.1.2,h3.2⟩))))
 ·exact .inr (.inr (.inr (.inr (.inr ⟨h3.1.1.1,h3.1.1.2,h3.1.2,h3.2⟩))))
theorem zON {M L Ro:List Nat}{n:Nat->Bool}{ops:List Oper}{Q:St->Prop}:∀ (l:List Oper) (k:Nat) (listed:Array Bool) (σ:St),below n σ->(∀ j,l[j]? = ops[k+j]?) ->
  lexD ops.toArray L Ro l.length k listed=true->aLex T Γ M L Ro n ops Q l k σ->aAny T Γ M L Ro n ops Q l.length listed σ
 | [],_,_,_,_,_,hB,h=>⟨by simpa [lexD] using hB,h⟩
 | o::l,k,listed,σ,hn,hl,hB,h=>by
  have h0:ops[k]? = some o :=(by simpa using (hl 0).symm);have h0':ops.toArray[k]? = some o :=(by simpa using h0);simp only[List.length_cons,lexD,Bool.and_eq_true]at hB;obtain⟨⟨hr,hf⟩,hB'⟩:=hB;obtain⟨hf1,hf2⟩:=zPo hf;obtain⟨σ1,h1,hro,h2⟩:=h;exact zPc h0 (fun d od hd hne hod=>zP0 ops.toArray k d od hd hne (by simpa using hod)) l.length listed σ σ1 hn hro hf1 (fun j oj hj hne hun hno=>hf2 j oj (by simpa using hj) hne hun hno h0') (by simpa using hr) h1
   (zON l (k+1) _ σ1 (below_le hn (zMq h1)) (fun j=>by have:=hl (j+1); simpa [Nat.add_assoc,Nat.add_comm 1 j] using this) hB' h2)
theorem zPB {c:Cx}{G:Nat->Prop}{β:Nat->Value}{σ σ1:St}{a:Act}{w:World} (hT:TOk c.P T) (hΓ:∀ f s,Γ f=some s->PSound c.P f s) (hc:Conc c G β σ a w){all:List Oper}{own loud:Bool}{o:Oper}
  (hN:∀ (j g:Nat),(all[j]?).bind (fun o=>o.dst)=some g->g<c.N) (hd:∀ t,o.dst=some t->t<c.N) (h:outc T Γ all own loud o σ σ1) {K:Act->World->Prop} {Q:Exit->Act->World->Prop}
  (hK:∀ G' β' a' w',Conc c G' β' σ1 a' w'->K a' w') :
  if Region.wanted o (yielded all.toArray a.tmps) then o.wp c.P a w K Q∨(o.asks c.P a w/\LetsOut Q) else K (a.put o.dst undef) w:=by
 have hgate:∀ b,gate all o σ.env=some b->Region.wanted o (yielded all.toArray a.tmps)=b:=fun b hb=>by
  unfold gate at hb;cases hg:o.guard with
  | none=>rw[hg]at hb; cases hb; simp[Region.wanted,hg]
  | some p =>
   obtain⟨j,want⟩:=p;rw[hg]at hb;dsimp only at hb;split at hb
   ·rename_i g hj
    split at hb
    ·rename_i b' he
     cases hb;have hj':(all.toArray[j]?).bind (·.dst)=some g :=(by simpa using hj);have hy:=zIv hc hj' (hN j g hj) he;simp only[Region.wanted,hg,hy]
     cases b' <;> cases want <;> rfl
    ·rename_i he
     cases hb;have hj':(all.toArray[j]?).bind (·.dst)=some g :=(by simpa using hj);have hy:=zI1 hc hj' (hN j g hj) he;simp only[Region.wanted,hg,hy]
     cases want <;> rfl
    ·cases hb
   ·cases hb
 unfold outc at h;split at h
 ·rename_i hg
  rw[if_pos (hgate _ hg)]
  refine .inl ?_;unfold runs at h;split at h
  ·rename_i g s xs hco
   obtain⟨r,x,σ',h1,h2,rfl⟩:=h;exact zK9 hΓ hc hco h1 h2 fun G' β' w' v h3 h4 h5=>hK G' β' _ w' (h3.put hd h4 h5)
  ·split at h
   ·split at h
    ·rename_i φ x σ' h1
     obtain⟨h2,rfl⟩:=h;exact zIu hT hc h1 h2 hd hK
    ·exact zJN hT (fun f s h=>hΓ f s (zGv h).1) hc h fun x σ' G' β' w' v e1 h1 h2 h3=>by subst e1; exact hK G' β' _ w' (h1.put hd h2 h3)
   ·obtain⟨φ,x,h1,h2,rfl⟩:=h;exact zIu (own:=slO own o) hT hc (by unfold step1; rw[h1]) h2 hd hK
 ·rename_i hg
  rw[if_neg (by rw[hgate _ hg]; simp)]
  subst h;exact hK G β _ w (hc.put hd zN4 rfl)
 ·exact h.elim
theorem zJG {c:Cx} (hT:TOk c.P T) (hΓ:∀ f s,Γ f=some s->PSound c.P f s){M L Ro:List Nat}{n:Nat->Bool}{ops:List Oper}{Q:Exit->Act->World->Prop}{K:St->Prop}
  (hK:∀ σ G β a w,K σ->Conc c G β σ a w->Q .normal a w) (hN:∀ (j g:Nat),(ops[j]?).bind (fun o=>o.dst)=some g->g<c.N) :
  ∀ (fuel:Nat) (listed:Array Bool) (σ:St) (G:Nat->Prop) (β:Nat->Value) (a:Act) (w:World),aAny T Γ M L Ro n ops K fuel listed σ->Conc c G β σ a w->wpAny c.P .any ops.toArray Q fuel listed a w
 | 0,listed,σ,G,β,a,w,h,hc=>⟨h.1,hK σ G β a w h.2 hc⟩
 | fuel+1,listed,σ,G,β,a,w,h,hc=>by
  refine⟨fun h0=>hK σ G β a w (h.1 h0) hc,fun i hi=>?_⟩
  have h1:=h.2 i hi;unfold aOp at h1;unfold wpOp;have hgo:ops.toArray[i]? = ops[i]? :=(by simp);rw[hgo]
  cases ho:ops[i]? with
  | none=>rw[ho]at h1; exact zJG hT hΓ hK hN fuel _ σ G β a w h1 hc
  | some o =>
   rw[ho]at h1;obtain⟨σ1,h2,_,h3⟩:=h1;exact zPB hT hΓ hc hN (fun t ht=>hN i t (by rw[ho]; exact ht)) h2 fun G' β' a' w' hc'=>zJG hT hΓ hK hN fuel _ σ1 G' β' a' w' h3 hc'
def zR0 (b:Bool) (n:Nat->Bool) (σ σ':St) (P:Prop):Prop :=
 match b with
 | true=>kp n σ σ'/\P
 | false=>P
def zR3 (b:Bool) (P Q:Prop):Prop :=
 match b with
 | true=>P/\Q
 | false=>Q
def clB (T:Nat->Option TI) (Γ:Nat->Option zAp) (own l:Bool) (o:Oper) (σ:St):Bool :=
 match cOp o with
 | false=>false
 | true=>match callOf T Γ o σ.env with
  | some _=>false
  | none=>match l with
   | false=>false
   | true=>match step1 T own o σ with
    | some _=>false
    | none=>true
def evD (T:Nat->Option TI) (Γ:Nat->Option zAp) (M nm L Ro:List Nat) (n:Nat->Bool) (all:List Oper):List Oper->Nat->St->(St->Prop)->Prop
 | [],_,σ,K=>K σ
 | o::os,k,σ,K =>
   let run:Prop:=match callOf T Γ o σ.env with
    | some (_,s,xs)=>∃ r,s.spec xs r/\match zA4 (dIn o.dst M&&inL k L) σ r with
     | none=>False
     | some (x,σ')=>lay (dIn o.dst nm) o.dst x σ' fun σ''=>evD T Γ M nm L Ro n all os (k+1) σ'' K
    | none=>match inL k L with
     | true=>match step1 T (dIn o.dst M) o σ with
      | none=>zPh T (zGX Γ) (dIn o.dst M) o σ fun x σ'=>zR0 (inL k Ro&&cOp o) n σ σ' (zR3 (inL (k+1000) Ro) (cmP T Γ o σ σ') (lay (dIn o.dst nm) o.dst x σ' fun σ''=>evD T Γ M nm L Ro n all os (k+1) σ'' K))
      | some (φ,x,σ')=>andO φ (lay (dIn o.dst nm) o.dst x σ' fun σ''=>evD T Γ M nm L Ro n all os (k+1) σ'' K)
     | false=>match zBw T (slO (dIn o.dst M) o) o σ.env with
      | none=>False
      | some (φ,x)=>andO φ (lay (dIn o.dst nm) o.dst x σ fun σ''=>evD T Γ M nm L Ro n all os (k+1) σ'' K)
   match (inL k Ro&&!(zEe T n o σ.env||clB T Γ (dIn o.dst M) (inL k L) o σ))||(inL (k+1000) Ro&&!(clB T Γ (dIn o.dst M) (inL k L) o σ&&o.guard.isNone)) with
   | true=>False
   | false=>match o.guard with
   | none=>run
   | some (j,want)=>match (all[j]?).bind (fun o=>o.dst) with
    | some g=>match σ.env g with
     | .s (.bool true)=>match want with | true=>run | false=>lay false o.dst (.tup []) σ fun σ''=>evD T Γ M nm L Ro n all os (k+1) σ'' K
     | .s (.bool false)=>match want with | false=>run | true=>lay false o.dst (.tup []) σ fun σ''=>evD T Γ M nm L Ro n all os (k+1) σ'' K
     | .tup []=>lay false o.dst (.tup []) σ fun σ''=>evD T Γ M nm L Ro n all os (k+1) σ'' K
     | _=>False
    | none=>False
theorem zQZ {own l:Bool}{o:Oper}{σ:St} (h:clB T Γ own l o σ=true):cOp o=true:=by
 unfold clB at h;cases e:cOp o with
 | true=>rfl
 | false=>rw[e]at h; cases h
theorem zPW {own l:Bool}{o:Oper}{σ:St} (h:clB T Γ own l o σ=true):callOf T Γ o σ.env=none:=by
 unfold clB at h;cases e:cOp o with
 | false=>rw[e]at h; cases h
 | true =>
  rw[e]at h;cases e2:callOf T Γ o σ.env with
  | none=>rfl
  | some y=>rw[e2]at h; cases h
theorem zRT {own l:Bool}{o:Oper}{σ:St} (h:clB T Γ own l o σ=true):l=true:=by
 have h1:=zQZ h;have h2:=zPW h;unfold clB at h;rw[h1,h2]at h;cases l with
 | true=>rfl
 | false=>cases h
theorem zSw {own l:Bool}{o:Oper}{σ:St} (h:clB T Γ own l o σ=true):∀ x,¬ step1 T own o σ=some x:=fun x hx=>by
 have h1:=zQZ h;have h2:=zPW h;have h3:=zRT h;unfold clB at h;rw[h1,h2,h3,hx]at h;cases h
theorem zRG {o:Oper} (h:cOp o=true):rdOp o=false:=by
 unfold cOp at h;split at h
 ·rename_i hop; unfold rdOp; rw[hop]
 ·cases h
theorem zEg {M nm L Ro:List Nat}{n:Nat->Bool}{all:List Oper}{K:St->Prop}:∀ {os:List Oper}{k:Nat}{σ:St},evD T Γ M nm L Ro n all os k σ K->aLex T Γ M L Ro n all K os k σ
 | [],k,σ,h=>h
 | o::os,k,σ,h=>by
  unfold evD at h;dsimp only at h;have hrun:(match callOf T Γ o σ.env with
    | some (_,s,xs)=>∃ r,s.spec xs r/\match zA4 (dIn o.dst M&&inL k L) σ r with
     | none=>False
     | some (x,σ')=>lay (dIn o.dst nm) o.dst x σ' fun σ''=>evD T Γ M nm L Ro n all os (k+1) σ'' K
    | none=>match inL k L with
     | true=>match step1 T (dIn o.dst M) o σ with
      | none=>zPh T (zGX Γ) (dIn o.dst M) o σ fun x σ'=>zR0 (inL k Ro&&cOp o) n σ σ' (zR3 (inL (k+1000) Ro) (cmP T Γ o σ σ') (lay (dIn o.dst nm) o.dst x σ' fun σ''=>evD T Γ M nm L Ro n all os (k+1) σ'' K))
      | some (φ,x,σ')=>andO φ (lay (dIn o.dst nm) o.dst x σ' fun σ''=>evD T Γ M nm L Ro n all os (k+1) σ'' K)
     | false=>match zBw T (slO (dIn o.dst M) o) o σ.env with
      | none=>False
      | some (φ,x)=>andO φ (lay (dIn o.dst nm) o.dst x σ fun σ''=>evD T Γ M nm L Ro n all os (k+1) σ'' K)) ->
    (inL k Ro=true->zEe T n o σ.env=true∨clB T Γ (dIn o.dst M) (inL k L) o σ=true)->(inL (k+1000) Ro=true->clB T Γ (dIn o.dst M) (inL k L) o σ=true)->∃ σ1,runs T Γ (dIn o.dst M) (inL k L) o σ σ1/\fct T Γ L Ro n k o σ σ1/\aLex T Γ M L Ro n all K os (k+1) σ1:=fun h hro hcm=>by
   unfold runs;split at h
   ·rename_i g0 s0 xs0 hcoo
    obtain⟨r,h1,h2⟩:=h;split at h2
    ·exact h2.elim
    ·rename_i x σ' hx
     exact⟨_,⟨r,x,σ',h1,hx,rfl⟩,⟨(fun hk=>(hro hk).elim .inl fun hc=>by have hcn:=zPW hc; rw[hcoo]at hcn; cases hcn),(fun hk _=>by have hcn:=zPW (hcm hk); rw[hcoo]at hcn; cases hcn)⟩,zEg (zE8 h2)⟩
   ·split at h
    ·split at h
     ·rename_i hs
      rw[zLT]at h;obtain⟨x,hp,nx,e1,_,e2⟩:=zJM h;have e3:((lay (dIn o.dst nm) o.dst x ⟨σ.env,hp,nx⟩ fun σ''=>evD T Γ M nm L Ro n all os (k+1) σ'' K)/\(inL k Ro=true->cOp o=true->kp n σ ⟨σ.env,hp,nx⟩))/\(inL (k+1000) Ro=true->cmP T Γ o σ ⟨σ.env,hp,nx⟩):=by
       unfold zR0 at e1;unfold zR3 at e1;cases e6:inL (k+1000) Ro <;> cases e4:inL k Ro <;> cases e5:cOp o <;> rw[e4,e5,e6]at e1
       ·exact⟨⟨e1,fun h=>by cases h⟩,fun h=>by cases h⟩
       ·exact⟨⟨e1,fun h=>by cases h⟩,fun h=>by cases h⟩
       ·exact⟨⟨e1,fun _ h=>by cases h⟩,fun h=>by cases h⟩
       ·exact⟨⟨e1.2,fun _ _=>e1.1⟩,fun h=>by cases h⟩
       ·exact⟨⟨e1.2,fun h=>by cases h⟩,fun _=>e1.1⟩
       ·exact⟨⟨e1.2,fun h=>by cases h⟩,fun _=>e1.1⟩
       ·exact⟨⟨e1.2,fun _ h=>by cases h⟩,fun _=>e1.1⟩
       ·exact⟨⟨e1.2.2,fun _ _=>e1.1⟩,fun _=>e1.2.1⟩
      refine⟨_,?_,⟨(fun hk=>(hro hk).elim .inl fun hc=>?_),fun hk _=>?_⟩,zEg (zE8 e3.1.1)⟩
      ·rw[hs]
       exact e2 σ.env (fun _ _ _=>rfl) _ rfl
      ·have hco:=zQZ hc;exact .inr ⟨zRG hco,fun j hj=>by rw[zFs]; exact e3.1.2 hk hco j hj⟩
      ·have h8:=zRV (zPW (hcm hk)) (e3.2 hk)
       exact zLV h8 (fun _ _ _=>rfl) rfl rfl (zEI _ _ _)
     ·rename_i φ x σ' hs
      obtain⟨h1,h2⟩:=zJf h;refine⟨_,?_,⟨(fun hk=>(hro hk).elim .inl fun hc=>by exact absurd hs (zSw hc _)),(fun hk _=>absurd hs (zSw (hcm hk) _))⟩,zEg (zE8 h2)⟩
      rw[hs]
      exact⟨h1,rfl⟩
    ·rename_i hll
     split at h
     ·exact h.elim
     ·rename_i φ x hs
      obtain⟨h1,h2⟩:=zJf h;exact⟨_,⟨φ,x,hs,h1,rfl⟩,⟨(fun hk=>(hro hk).elim .inl fun hc=>by have hcl:=zRT hc; rw[hll]at hcl; cases hcl),(fun hk _=>by have hcl:=zRT (hcm hk); rw[hll]at hcl; cases hcl)⟩,zEg (zE8 h2)⟩
  split at h
  ·exact h.elim
  rename_i hro1
  have hro0:=(Bool.or_eq_false_iff.1 hro1).1;have hcm0:=(Bool.or_eq_false_iff.1 hro1).2;have hcm:inL (k+1000) Ro=true->clB T Γ (dIn o.dst M) (inL k L) o σ=true/\o.guard=none:=fun hk=>by
   rw[hk]at hcm0;cases e':clB T Γ (dIn o.dst M) (inL k L) o σ with
   | false=>rw[e']at hcm0; cases hcm0
   | true =>
    cases e:o.guard with
    | none=>exact⟨rfl,rfl⟩
    | some p=>rw[e',e]at hcm0; cases hcm0
  have hro:inL k Ro=true->zEe T n o σ.env=true∨clB T Γ (dIn o.dst M) (inL k L) o σ=true:=fun hk=>by
   rw[hk]at hro0;cases e:zEe T n o σ.env with
   | true=>exact .inl rfl
   | false =>
    cases e':clB T Γ (dIn o.dst M) (inL k L) o σ with
    | true=>exact .inr rfl
    | false=>rw[e,e']at hro0; cases hro0
  have hgo:gate all o σ.env=some true->(∃ σ1,runs T Γ (dIn o.dst M) (inL k L) o σ σ1/\fct T Γ L Ro n k o σ σ1/\aLex T Γ M L Ro n all K os (k+1) σ1)->aLex T Γ M L Ro n all K (o::os) k σ:=fun hg ⟨σ1,h1,h2,h3⟩ =>
   ⟨σ1,by unfold outc; rw[hg]; exact h1,h2,h3⟩
  have hskip:o.guard ≠ none->gate all o σ.env=some false->(lay false o.dst (.tup []) σ fun σ''=>evD T Γ M nm L Ro n all os (k+1) σ'' K)->aLex T Γ M L Ro n all K (o::os) k σ:=fun hgn hg h =>
   ⟨σ.put o.dst (.tup []),by unfold outc; rw[hg],⟨(fun hk=>(hro hk).elim .inl fun hc=>.inr ⟨zRG (zQZ hc),fun j _=>by rw[zFs]⟩),(fun hk _=>absurd (hcm hk).2 hgn)⟩,zEg (zE8 h)⟩
  split at h
  ·rename_i hg
   exact hgo (by simp[gate,hg]) (hrun h hro fun hk=>(hcm hk).1)
  ·rename_i j want hg
   split at h
   ·rename_i g hj
    split at h
    ·rename_i he
     split at h
     ·exact hgo (by simp[gate,hg,hj,he]) (hrun h hro fun hk=>(hcm hk).1)
     ·exact hskip (by rw[hg]; exact fun h=>by cases h) (by simp[gate,hg,hj,he]) h
    ·rename_i he
     split at h
     ·exact hgo (by simp[gate,hg,hj,he]) (hrun h hro fun hk=>(hcm hk).1)
     ·exact hskip (by rw[hg]; exact fun h=>by cases h) (by simp[gate,hg,hj,he]) h
    ·rename_i he
     exact hskip (by rw[hg]; exact fun h=>by cases h) (by simp[gate,hg,hj,he]) h
    ·exact h.elim
   ·exact h.elim
theorem zJn {ro:Option Nat}{n:Nat}{P:Program}{md:Region.Mode}{ops:Array Oper}{Q:Exit->Act->World->Prop} (hQ:¬ LetsOut Q) (hd:∀ (i:Nat) o,ops[i]? = some o->∀ c,o.op ≠ .defer c) :
  ∀ (fuel:Nat) (listed:Array Bool) (a:Act) (w:World),wpAny P md ops Q fuel listed a w->wpAnyIn (rF ro) n P md ops Q fuel listed a w
 | 0,_,_,_,h=>h
 | fuel+1,listed,a,w,h=>⟨h.1,fun i hi=>by
  have h1:=h.2 i hi;unfold wpOp at h1;unfold wpOpIn;cases ho:ops[i]? with
  | none=>rw[ho]at h1; exact zJn hQ hd fuel _ a w h1
  | some o =>
   rw[ho]at h1;dsimp only at h1 ⊢;split
   ·rename_i hw
    rw[if_pos hw]at h1;rcases h1 with h1 | ⟨_,h1⟩
    ·exact zRd (hd i o ho) (fun a w h=>zJn hQ hd fuel _ a w h) h1
    ·exact absurd h1 hQ
   ·rename_i hw
    rw[if_neg hw]at h1;exact⟨fun _ _=>trivial,zJn hQ hd fuel _ _ w h1⟩⟩
theorem zLz {c:Cx} (hT:TOk c.P T) (hΓ:∀ f s,Γ f=some s->PSound c.P f s) (hm:c.P.follows .mixedOrders=true){id:Nat}{ops:List Oper}{σ:St}{Q:End->St->Prop} (n:Nat->Bool) (hnx:below n σ) (M nm L Ro:List Nat)
  (hN:zDI c.N ops=true) (hB:lexD ops.toArray L Ro ops.length 0 (Array.replicate ops.length false)=true) (h:evD T Γ M nm L Ro n ops ops 0 σ (Q .normal)):Tri c (.region id ops.toArray true) σ Q:=by
 unfold Tri;intro G β a w hc;refine wpIn_region_any hm (zJn zJX (fun i o hi=>zJR hN o (List.mem_of_getElem? (by simpa using hi))) _ _ _ _ ?_)
 have h1:=zON (ops:=ops) (M:=M) (L:=L) (Ro:=Ro) (n:=n) ops 0 (Array.replicate ops.length false) σ hnx (fun j=>by simp) hB (zEg h)
 have hc':=hc.ext (Ext.drew hc.lt)
 have:=zJG hT hΓ (Q:=fun e a' w'=>∃ e' G' β' σ',e=zG5 e'/\Q e' σ'/\Conc c G' β' σ' a' w') (fun σ' G' β' a' w' hk hc'=>⟨.normal,G',β',σ',rfl,hk,hc'⟩) (zHf hN) _ _ σ G β a _ h1 hc'
 simpa using this
theorem zH5 {c:Cx}{T:Nat->Option TI}{Γ:Nat->Option zAp}{id:Nat}{ops:List Oper}{σ:St}{Q:End->St->Prop} (n:Nat->Bool) (hnx:below n σ) (M nm L Ro:List Nat) (hN:zDI c.N ops=true) (hB:lexD ops.toArray L Ro ops.length 0 (Array.replicate ops.length false)=true) (h:evD T Γ M nm L Ro n ops ops 0 σ (Q .normal)) (hT:TOk c.P T:=by exact tokW) (hΓ:∀ f s,Γ f=some s->PSound c.P f s:=by exact gok) (hm:c.P.follows .mixedOrders=true:=by exact mixed):Tri c (.region id ops.toArray true) σ Q :=
 zLz hT hΓ hm n hnx M nm L Ro hN hB h
def two (a b:Nat) (k:Nat):Bool:=Nat.beq k a||Nat.beq k b
theorem zRN {a b k:Nat} (h:two a b k=true):k=a∨k=b:=by
 unfold two at h;simp only[Bool.or_eq_true]at h;exact h.imp Nat.eq_of_beq_eq_true Nat.eq_of_beq_eq_true
theorem zF3 {a b:Nat}{σ:St} (ha:a<σ.nx) (hb:b<σ.nx):below (two a b) σ:=fun k hk=>by
 rcases zRN hk with rfl | rfl
 ·exact ha
 ·exact hb
theorem zLf {a b:Nat}{σ σ':St} (ha:σ'.hp a=σ.hp a) (hb:σ'.hp b=σ.hp b):kp (two a b) σ σ':=fun k hk=>by
 rcases zRN hk with rfl | rfl
 ·exact ha
 ·exact hb
theorem zLA {c:Cx} (hT:TOk c.P T) (hΓ:∀ f s,Γ f=some s->PSound c.P f s) (hm:c.P.follows .mixedOrders=true){id:Nat}{ops:List Oper}{σ:St}{Q:End->St->Prop} (M nm L Ro:List Nat)
  (hN:zDI c.N ops=true) (hB:lexD ops.toArray L Ro ops.length 0 (Array.replicate ops.length false)=true) (h:evD T Γ M nm L Ro (fun k=>Nat.blt k σ.nx) ops ops 0 σ (Q .normal)):Tri c (.region id ops.toArray true) σ Q :=
 zLz hT hΓ hm (fun k=>Nat.blt k σ.nx) (fun k hk=>Nat.le_of_ble_eq_true hk) M nm L Ro hN hB h
theorem zGy {c:Cx}{T:Nat->Option TI}{Γ:Nat->Option zAp}{id:Nat}{ops:List Oper}{σ:St}{Q:End->St->Prop} (M nm L Ro:List Nat) (hN:zDI c.N ops=true) (hB:lexD ops.toArray L Ro ops.length 0 (Array.replicate ops.length false)=true) (h:evD T Γ M nm L Ro (fun k=>Nat.blt k σ.nx) ops ops 0 σ (Q .normal)) (hT:TOk c.P T:=by exact tokW) (hΓ:∀ f s,Γ f=some s->PSound c.P f s:=by exact gok) (hm:c.P.follows .mixedOrders=true:=by exact mixed):Tri c (.region id ops.toArray true) σ Q :=
 zLA hT hΓ hm M nm L Ro hN hB h
theorem zH4 {c:Cx} (hT:TOk c.P T) (hΓ:∀ f s,Γ f=some s->PSound c.P f s) (hm:c.P.follows .mixedOrders=true){id:Nat}{ops:List Oper}{σ:St}{Q:End->St->Prop} (M nm L:List Nat)
  (hN:zDI c.N ops=true) (hB:lexD ops.toArray L [] ops.length 0 (Array.replicate ops.length false)=true) (h:evD T Γ M nm L [] (fun k=>Nat.blt k σ.nx) ops ops 0 σ (Q .normal)):Tri c (.region id ops.toArray true) σ Q :=
 zLA hT hΓ hm M nm L [] hN hB h
theorem zBx {c:Cx}{T:Nat->Option TI}{Γ:Nat->Option zAp}{id:Nat}{ops:List Oper}{σ:St}{Q:End->St->Prop} (M nm L:List Nat) (hN:zDI c.N ops=true) (hB:lexD ops.toArray L [] ops.length 0 (Array.replicate ops.length false)=true) (h:evD T Γ M nm L [] (fun k=>Nat.blt k σ.nx) ops ops 0 σ (Q .normal)) (hT:TOk c.P T:=by exact tokW) (hΓ:∀ f s,Γ f=some s->PSound c.P f s:=by exact gok) (hm:c.P.follows .mixedOrders=true:=by exact mixed):Tri c (.region id ops.toArray true) σ Q :=
 zH4 hT hΓ hm M nm L hN hB h
end
open Go.ChangeShapes Go.WideShapes Go.RowKit Go.Proofs.Ytffhjiplcfncdaa
def szOf (T:Nat->Option TI) (t:Nat):Nat:=match T t with | some i=>i.size | none=>0
def zQN (p:Nat->List S->Prop):List Nat->List S->Prop
 | [],ss=>ss=[]
 | t::ts,ss=>∃ a b,ss=a++b/\p t a/\zQN p ts b
def Typed (T:Nat->Option TI):Nat->Nat->List S->Prop
 | 0,_,_=>False
 | n+1,t,ss=>match T t with
  | none=>False
  | some i=>match i.k with
   | .bool=>∃ b,ss=[.bool b]
   | .int k=>∃ x:Int,ss=[.int k x]/\k.min<=x/\x<=k.max
   | .str=>∃ l:List UInt8,ss=[.str l]/\l.length<=maxLen
   | .slice e=>∃ rows:List (List S),ss=[.sl (szOf T e) rows]/\rows.length<=maxLen/\∀ r∈rows,Typed T n e r
   | .ptr e=>ss=[.np]∨∃ row,ss=[.pt row]/\Typed T n e row
   | .struct fs=>zQN (Typed T n) (fs.map (·.2)) ss
   | .arr len e=>zQN (Typed T n) (List.replicate len e) ss
   | _=>False
mutual
def S.bulk:S->Nat
 | .str l=>l.length+1
 | .sl _ rows=>zEv rows+1
 | .pt row=>zDH row+1
 | _=>1
def zDH:List S->Nat
 | []=>0
 | s::r=>s.bulk+zDH r
def zEv:List (List S)->Nat
 | []=>0
 | r::rs=>zDH r+zEv rs
end
theorem zIM:∀ (a b:List S),zDH (a++b)=zDH a+zDH b
 | [],b=>by simp[zDH]
 | s::a,b=>by simp only[List.cons_append,zDH,zIM a b]; omega
def fits (T:Nat->Option TI):List (Nat×Nat)->Nat->Nat->Bool
 | [],off,n=>Nat.beq off n
 | (o,t)::r,off,n=>Nat.beq o off&&(T t).isSome&&fits T r (off+szOf T t) n
def zCp (T:Nat->Option TI) (i:TI):Bool:=match i.k with
 | .bool | .int _ | .str=>true
 | .slice e=>(T e).isSome&&Nat.ble 1 (szOf T e)
 | .ptr e=>(T e).isSome&&Nat.ble 1 (szOf T e)
 | .struct fs=>fits T fs 0 i.size
 | .arr n e=>(T e).isSome&&Nat.beq (n * szOf T e) i.size
 | _=>false
section
variable {H:Type} {enc:TypeId×Value->H} {P:Program} {T:Nat->Option TI} {w:World} {spare:Nat->Bool} {held:Bool}
theorem zDq (hT:TOk P T){t:Nat} (h:(T t).isSome=true):P.cellsOf t=szOf T t:=by
 obtain⟨i,hi⟩:=Option.isSome_iff_exists.1 h;obtain⟨d,info,z,h1,h2,h3,h4,_⟩:=hT t i hi;simp[Program.cellsOf,h3,h4,szOf,hi]
def old (w:World) (b:Nat):Prop:=b<w.heap.size
theorem zLU {w:World}{a:Addr}{v:Value} (h:w.cell? a=some v):old w a.block/\a.spot=none:=by
 unfold World.cell? at h;unfold old;split at h
 ·rename_i c x y e
  refine⟨(Array.getElem?_eq_some_iff.1 e).1,?_⟩
  split at h
  ·cases h
  ·rename_i hs
   cases hh:a.spot with
   | none=>rfl
   | some s=>rw[hh]at hs; simp at hs
 ·cases h
theorem zIX {b off:Nat}{ss:List S}{cs:List Value} (h:Reps (old w) w ss cs) (hc:∀ i,i<ss.length->w.cell? ⟨b,off+i,none⟩=cs[i]?):RepRow (old w) w b ss off :=
 RepRow.mk fun i s hs=>by
  have hi:i<ss.length:=(List.getElem?_eq_some_iff.1 hs).1;have hi':i<cs.length :=(by rw[h.1]; exact hi);have hv:cs[i]? = some cs[i]:=List.getElem?_eq_getElem hi';have hcell:=(hc i hi).trans hv;exact⟨(zLU hcell).1,_,hcell,h.2 i s _ hs hv⟩
theorem zOe {a:Addr} (hs:a.spot=none) (k:Nat):a.add k=⟨a.block,a.off+k,none⟩:=by
 unfold Addr.add;obtain⟨b,o,s⟩:=a;simp only at hs; subst hs
 split
 ·rename_i h; subst h; rfl
 ·rfl
theorem zK8 {R:Nat->List S}{D:Nat->DataW H}:∀ {l:List Nat},(∀ i∈l,zDH (R i)<=Rows.uptoBulk (D i))->zEv (l.map R)<=Rows.uptoBulkAll (l.map D)
 | [],_=>by simp[zEv]
 | i::l,h=>by
  simp only[List.map_cons,zEv,Rows.uptoBulkAll]
  have h1:=h i List.mem_cons_self;have h2:=zK8 (fun j hj=>h j (List.mem_cons_of_mem _ hj))
  omega
theorem zMz {n:Nat}{p:Nat->List S->Prop} (hT:TOk P T)
  (ih:∀ t cs x,(T t).isSome=true->DataW.trod enc P w 0 spare held n t cs=some x->∃ ss,Reps (old w) w ss cs/\p t ss/\zDH ss<=Rows.uptoBulk x.1) :
  ∀ (fs:List (Nat×Nat)) (off tot:Nat) (cs:List Value) (xs:List (DataW H×List MemPlace)),fits T fs off tot=true->cs.length=tot->xs.length=fs.length ->
   (∀ (i:Nat) f,fs[i]? = some f->DataW.trod enc P w 0 spare held n f.2 ((cs.drop f.1).take (P.cellsOf f.2))=xs[i]?) ->
   ∃ ss,Reps (old w) w ss (cs.drop off)/\zQN p (fs.map (·.2)) ss/\zDH ss<=Rows.uptoBulkAll (xs.map (·.1))
 | [],off,tot,cs,xs,hf,hl,_,_=>by
  obtain rfl:=Nat.eq_of_beq_eq_true hf;refine⟨[],⟨by simp[hl],fun i s v h=>by simp at h⟩,rfl,by simp[zDH]⟩
 | (o,t)::fs,off,tot,cs,xs,hf,hl,hxl,hx=>by
  simp only[fits,Bool.and_eq_true]at hf;obtain⟨⟨ho,ht⟩,hr⟩:=hf;obtain rfl:=Nat.eq_of_beq_eq_true ho
  match xs,hxl with
  | y::ys,hxl =>
   have h0:=hx 0 (o,t) rfl;simp only[List.getElem?_cons_zero]at h0;obtain⟨s1,r1,p1,b1⟩:=ih t _ y ht h0;obtain⟨s2,r2,p2,b2⟩:=zMz hT ih fs (o+szOf T t) tot cs ys hr hl (by simpa using hxl) (fun i f hi=>by simpa using hx (i+1) f (by simpa using hi))
   rw[zDq hT ht]at r1;have e:cs.drop o=(cs.drop o).take (szOf T t)++cs.drop (o+szOf T t):=by
    rw[← List.drop_drop,List.take_append_drop]
   refine⟨s1++s2,?_,⟨s1,s2,rfl,p1,p2⟩,?_⟩
   ·rw[e]; exact r1.append r2
   ·simp only[List.map_cons,Rows.uptoBulkAll,zIM]; omega
theorem zOS {e:Nat} (he:(T e).isSome=true):∀ (n off:Nat),fits T ((List.range n).map (fun i=>(off+i * szOf T e,e))) off (off+n * szOf T e)=true
 | 0,off=>by simp[fits]
 | n+1,off=>by
  rw[List.range_succ_eq_map]
  simp only[List.map_cons,List.map_map,fits,Nat.zero_mul,Nat.add_zero,Nat.beq_eq,he,Bool.true_and,Bool.and_true]
  have:=zOS he n (off+szOf T e)
  have e1:(List.range n).map (fun i=>(off+szOf T e+i * szOf T e,e))=(List.range n).map ((fun i=>(off+i * szOf T e,e))∘Nat.succ):=by
   refine List.map_congr_left fun i _=>?_
   simp only[Function.comp,Nat.succ_eq_add_one,Nat.add_mul]
   congr 1; omega
  rw[← e1,show off+(n+1) * szOf T e=off+szOf T e+n * szOf T e by rw[Nat.add_mul]; omega,this]
  simp
theorem conv (hT:TOk P T) (hC:∀ t i,T t=some i->zCp T i=true):∀ (n:Nat) (t:Nat) (cs:List Value) (x:DataW H×List MemPlace),(T t).isSome=true ->
  DataW.trod enc P w 0 spare held n t cs=some x->∃ ss,Reps (old w) w ss cs/\Typed T n t ss/\zDH ss<=Rows.uptoBulk x.1
 | 0,t,cs,x,_,h=>by simp[DataW.trod]at h
 | n+1,t,cs,x,ht,h=>by
  obtain⟨i,hi⟩:=Option.isSome_iff_exists.1 ht;have hcl:=hC t i hi;obtain⟨d,info,z,h1,h2,h3,h4,h5,h6,h7,h8,h9,h10⟩:=hT t i hi;have one:∀ {s:S} {v:Value},Rep (old w) w s v->Reps (old w) w [s] [v]:=fun {s v} hr=>⟨rfl,fun j s' v' hs hv=>by
   cases j with
   | zero=>simp at hs hv; subst hs; subst hv; exact hr
   | succ j=>simp at hs⟩
  cases d <;> simp only[tkOf]at h2
  case bool =>
   obtain⟨b,rfl,rfl⟩:=DataW.trod_bool h1 h;exact⟨[.bool b],one (by simp[Rep]),by simp[Typed,hi,← h2],by simp[zDH,S.bulk,Rows.uptoBulk]⟩
  case int k =>
   obtain⟨m,rfl,rfl,hw⟩:=DataW.trod_int h1 h;have hb:k.min<=m/\m<=k.max :=(by simpa [Lit.wf] using hw);exact⟨[.int k m],one (by simp[Rep]),by simp[Typed,hi,← h2,hb],by simp[zDH,S.bulk,Rows.uptoBulk]⟩
  case string =>
   obtain⟨s,rfl,rfl,hl⟩:=DataW.trod_string h1 h;refine⟨[.str s.data.toList],one (by simp[Rep]),?_,by simp[zDH,S.bulk,Rows.uptoBulk]⟩
   simp only[Typed,hi,← h2]
   exact⟨_,rfl,by simpa using hl⟩
  case pointer e =>
   simp only[zCp,← h2,Bool.and_eq_true]at hcl;rcases DataW.trod_pointer h1 h with ⟨rfl,rfl⟩ | ⟨a,cs',y,m,hm,rfl,rfl,hcs,hy⟩
   ·exact⟨[.np],one (by simp[Rep]),by simp[Typed,hi,← h2],by simp[zDH,S.bulk,Rows.uptoBulk]⟩
   ·cases hm;obtain⟨ss,r1,r2,r3⟩:=conv hT hC n e cs' y hcl.1 hy;obtain⟨_,g2,g3⟩:=World.cells?_some hcs;rw[zDq hT hcl.1]at g2 g3;have hpos:=Nat.le_of_ble_eq_true hcl.2;have hspot:a.spot=none:=by
     have:=g3 0 (by omega)
     rw[List.getElem?_eq_getElem (by omega)]at this;have:=(zLU this).2
     simpa [Addr.add] using this
    refine⟨[.pt ss],one ?_,?_,by simp only[zDH,S.bulk,Rows.uptoBulk]; omega⟩
    ·simp only[Rep]
     refine⟨a.block,a.off,?_,zIX r1 fun j hj=>?_⟩
     ·obtain⟨b,o,s⟩:=a; simp only at hspot; subst hspot; rfl
     ·rw[← zOe hspot]; exact g3 j (by rw[← g2,r1.1]; exact hj)
    ·simp only[Typed,hi,← h2]
     exact .inr ⟨ss,rfl,r2⟩
  case slice e =>
   simp only[zCp,← h2,Bool.and_eq_true]at hcl;have hpos:=Nat.le_of_ble_eq_true hcl.2;rcases DataW.trod_slice h1 h with ⟨rfl,rfl⟩ | ⟨a,len,cap,elems,rest,m,hm,rfl,rfl,hb,hl,hcm,hlen,hel,_,_⟩
   ·refine⟨[.sl (szOf T e) []],one (by simp only[Rep]; exact .inl ⟨trivial,none,0,rfl⟩),?_,by simp[zDH,S.bulk,Rows.uptoBulk,zEv]⟩
    simp only[Typed,hi,← h2]
    exact⟨[],rfl,by simp,fun r hr=>by cases hr⟩
   ·cases hm;subst hlen;have key:∀ j,j<elems.length->∃ ss:List S,ss.length=szOf T e/\a.spot=none/\RepRow (old w) w a.block ss (a.off+j * szOf T e)/\Typed T n e ss/\zDH ss<=Rows.uptoBulk ((elems.map (·.1)).getD j .nil):=fun j hj=>by
     have hspot:a.spot=none:=by
      have h0:=hel 0 (by omega)
      rw[List.getElem?_eq_getElem (by omega)]at h0;obtain⟨cs',g1,_⟩:=Option.bind_eq_some_iff.1 h0;obtain⟨_,g2,g3⟩:=World.cells?_some g1;rw[zDq hT hcl.1]at g2 g3;have:=g3 0 (by omega)
      rw[List.getElem?_eq_getElem (by omega)]at this;have:=(zLU this).2
      simpa [Addr.add] using this
     have h0:=hel j hj;rw[List.getElem?_eq_getElem hj]at h0;obtain⟨cs',g1,gy⟩:=Option.bind_eq_some_iff.1 h0;obtain⟨_,g2,g3⟩:=World.cells?_some g1;rw[zDq hT hcl.1]at g2 g3;obtain⟨ss,r1,r2,r3⟩:=conv hT hC n e cs' elems[j] hcl.1 gy;refine⟨ss,by rw[← r1.1,g2],hspot,zIX r1 fun q hq=>?_,r2,by simpa [List.getD,List.getElem?_eq_getElem hj] using r3⟩
     have:=g3 q (by rw[← g2,r1.1]; exact hq)
     rw[zOe hspot,zOe (a:=⟨a.block,_,none⟩) rfl]at this;exact this
    obtain⟨R,hR⟩:=Go.Deep.choose_lt key;refine⟨[.sl (szOf T e) ((List.range elems.length).map R)],one ?_,?_,?_⟩
    ·simp only[Rep]
     by_cases h0:elems.length=0
     ·exact .inl ⟨by simp[h0],some a,cap,by rw[h0]⟩
     ·have hspot:=(hR 0 (by omega)).2.1;refine .inr ⟨a.block,a.off,cap,?_,by simpa using hl,RepRows.mk fun j r hr=>?_⟩
      ·obtain⟨b,o,s⟩:=a; simp only at hspot; subst hspot; simp
      ·simp only[List.getElem?_map,Option.map_eq_some_iff]at hr;obtain⟨j',hj',rfl⟩:=hr;obtain⟨hlt,rfl⟩:=List.getElem?_eq_some_iff.1 hj';simp only[List.getElem_range,List.length_range]at hlt ⊢;exact⟨(hR j hlt).1,(hR j hlt).2.2.1⟩
    ·simp only[Typed,hi,← h2]
     refine⟨_,rfl,by simp; omega,fun r hr=>?_⟩
     obtain⟨j,hj,rfl⟩:=List.mem_map.1 hr;exact(hR j (by simpa using hj)).2.2.2.1
    ·have hb:=zK8 (R:=R) (D:=fun j=>(elems.map (·.1)).getD j .nil) (l:=List.range elems.length) (fun j hj=>(hR j (by simpa using hj)).2.2.2.2)
     have e1:(List.range elems.length).map (fun j=>(elems.map (·.1)).getD j DataW.nil)=elems.map (·.1):=by
      apply List.ext_getElem (by simp)
      intro j g1 g2;simp only[List.length_map]at g2;simp[List.getD,List.getElem?_eq_getElem g2]
     rw[e1]at hb;simp only[zDH,S.bulk,Rows.uptoBulk]; omega
  case struct fs =>
   simp only[zCp,← h2]at hcl;obtain⟨xs,m,hm,rfl,hlen,hxl,hx⟩:=DataW.trod_struct h1 h;cases hm;rw[zDq hT ht]at hlen;obtain⟨ss,r1,r2,r3⟩:=zMz (p:=Typed T n) hT (conv hT hC n) (fs.toList.map fun f=>(f.offset,f.type)) 0 i.size cs xs hcl (by rw[hlen,szOf,hi]) (by simpa using hxl) (fun j f hf=>by
    simp only[List.getElem?_map,Option.map_eq_some_iff]at hf;obtain⟨g,hg,rfl⟩:=hf;exact hx j g (by simpa using hg))
   refine⟨ss,by simpa using r1,?_,by simp only[Rows.uptoBulk]; omega⟩
   simp only[Typed,hi,← h2]
   exact r2
  case array len e =>
   simp only[zCp,← h2,Bool.and_eq_true]at hcl;obtain⟨he,hsz⟩:=hcl;have hsz:=Nat.eq_of_beq_eq_true hsz;have h':cs.length=P.cellsOf t/\∃ xs,(List.range len).mapM (fun i=>DataW.trod enc P w 0 spare held n e ((cs.drop (i * P.cellsOf e)).take (P.cellsOf e)))=some xs/\x=(.agg (xs.map (·.1)),xs.flatMap (·.2)):=by
    unfold DataW.trod at h;rw[h1]at h;split at h <;> simp_all
    obtain⟨hl,xs,hp,hd⟩:=h;exact⟨xs,hp,hd.symm⟩
   obtain⟨hlen,xs,hp,rfl⟩:=h';rw[zDq hT ht]at hlen;have hxl:=mapM_some_length hp;obtain⟨ss,r1,r2,r3⟩:=zMz (p:=Typed T n) hT (conv hT hC n) ((List.range len).map fun i=>(0+i * szOf T e,e)) 0 i.size cs xs (by
     have:=zOS he len 0
     rwa [Nat.zero_add (len * szOf T e),hsz]at this) (by rw[hlen,szOf,hi]) (by simpa using hxl) (fun j f hf=>by
    simp only[List.getElem?_map,Option.map_eq_some_iff]at hf;obtain⟨g,hg,rfl⟩:=hf;have:=mapM_some_get hp j g hg;rw[zDq hT he]at this ⊢
    simpa using this)
   refine⟨ss,by simpa using r1,?_,by simp only[Rows.uptoBulk]; omega⟩
   simp only[Typed,hi,← h2]
   have e1:((List.range len).map fun i=>(0+i * szOf T e,e)).map (·.2)=List.replicate len e:=by
    rw[List.map_map]
    apply List.ext_getElem (by simp)
    intro j g1 g2;simp
   rwa [e1]at r2
  all_goals simp[zCp,← h2]at hcl
end
def zQX (T:Nat->Option TI) (t:Nat) (ss:List S):AV:=match T t with
 | some i=>match i.k.agg with
  | true=>.agg (ss.map .s)
  | false=>.s (ss.headD .np)
 | none=>.junk
def zJH (T:Nat->Option TI):List Nat->List (List S)->List AV
 | t::ts,ss::sss=>zQX T t ss::zJH T ts sss
 | _,_=>[]
def zQR (T:Nat->Option TI):List Nat->List (List S)->Prop
 | [],sss=>sss=[]
 | t::ts,sss=>∃ ss r,sss=ss::r/\(∃ n,Typed T n t ss)/\zQR T ts r
theorem zJI {T:Nat->Option TI}:∀ {ts:List Nat}{sss:List (List S)},(∀ t∈ts,(T t).isSome=true)->AV.persAll (zJH T ts sss)=true
 | [],_,_=>by cases ‹List (List S)› <;> rfl
 | _::_,[],_=>rfl
 | t::ts,ss::sss,h=>by
  simp only[zJH,AV.persAll,Bool.and_eq_true]
  refine⟨?_,zJI fun t' h'=>h t' (List.mem_cons_of_mem _ h')⟩
  obtain⟨i,hi⟩:=Option.isSome_iff_exists.1 (h t List.mem_cons_self)
  unfold zQX;rw[hi]
  simp only;split
  ·simp only[AV.pers]
   clear hi
   induction ss with
   | nil=>rfl
   | cons s r ih=>simp[AV.persAll,AV.pers,ih]
  ·rfl
section
variable {H:Type} {enc:TypeId×Value->H} {P:Program} {T:Nat->Option TI} {w:World} {spare:Nat->Bool} {held:Bool}
theorem zPx {r:Reach}{base t:Nat}{d:TypeDesc}{v:Value} (h:P.underlying t=some d) (hk:(tkOf d).agg=false) (hok:Value.okWide P w r base t v):v.oneCell'=true:=by
 cases d <;> simp only[tkOf,TK.agg,reduceCtorEq,Bool.true_eq_false]at hk <;> simp only[Value.okWide,h]at hok <;> cases v <;> first
  | rfl
  | (exfalso; simp only[Cell.okWide,Cell.ok,h]at hok)
theorem zPw {r:Reach}{base t:Nat}{d:TypeDesc}{v:Value} (h:P.underlying t=some d) (hk:(tkOf d).agg=true) (hok:Value.okWide P w r base t v):∃ cs,v = .agg cs:=by
 cases d <;> simp only[tkOf,TK.agg,reduceCtorEq,Bool.false_eq_true]at hk <;> simp only[Value.okWide,h]at hok <;> exact⟨_,hok.choose_spec.1⟩
theorem zK7 {G:Nat->Prop}{β:Nat->Value}:∀ {ss:List S}{vs:List Value},Reps G w ss vs->AVals G w β (ss.map .s) vs
 | [],vs,h=>by simp only[List.map_nil,AVals]; exact List.length_eq_zero_iff.1 h.1
 | s::ss,[],h=>by simp[Reps]at h
 | s::ss,v::vs,h=>by
  simp only[List.map_cons,AVals]
  exact⟨v,vs,rfl,by simp only[AVal]; exact h.2 0 s v rfl rfl,zK7 ⟨by simpa using h.1,fun i s v h1 h2=>h.2 (i+1) s v (by simpa using h1) (by simpa using h2)⟩⟩
theorem zQ2 (hT:TOk P T) (hC:∀ t i,T t=some i->zCp T i=true){β:Nat->Value}{r:Reach}{base t:Nat}{v:Value}{d:DataW H}{p:List MemPlace} (ht:(T t).isSome=true)
  (hok:Value.okWide P w r base t v) (h:DataW.Trod enc P w 0 spare held t v d p):∃ ss,(∃ n,Typed T n t ss)/\AVal (old w) w β (zQX T t ss) v/\zDH ss<=Rows.uptoBulk d:=by
 obtain⟨n,hn⟩:=h;obtain⟨ss,r1,r2,r3⟩:=conv hT hC n t _ _ ht hn;obtain⟨i,hi⟩:=Option.isSome_iff_exists.1 ht;obtain⟨d',info,z,h1,h2,_⟩:=hT t i hi;refine⟨ss,⟨n,r2⟩,?_,r3⟩
 unfold zQX;rw[hi]
 simp only;cases hag:i.k.agg with
 | true =>
  obtain⟨cs,rfl⟩:=zPw h1 (by rw[h2]; exact hag) hok;simp only[AVal]
  exact⟨cs.toList,by simp,zK7 r1⟩
 | false =>
  have hone:=zPx h1 (by rw[h2]; exact hag) hok;rw[cells_one hone]at r1
  match ss,r1 with
  | [s],r1=>simp only[AVal,List.headD_cons]; exact r1.2 0 s v rfl rfl
theorem zM8 (hT:TOk P T) (hC:∀ t i,T t=some i->zCp T i=true){β:Nat->Value}{r:Reach}{base:Nat}:∀ {ts:List Nat}{vs:List Value}{ds:List (DataW H)}{ps:List MemPlace},
  (∀ t∈ts,(T t).isSome=true)->(∀ (j:Nat) t v,ts[j]? = some t->vs[j]? = some v->Value.okWide P w r base t v)->DataW.TrodAll enc P w 0 spare held ts vs ds ps ->
  ∃ sss,zQR T ts sss/\AVals (old w) w β (zJH T ts sss) vs/\zEv sss<=Rows.uptoBulkAll ds
 | [],vs,ds,ps,_,_,h=>by
  obtain⟨rfl,rfl,rfl⟩:=trodAll_nil h;exact⟨[],rfl,by simp only[zJH,AVals],by simp[zEv]⟩
 | t::ts,vs,ds,ps,ht,hok,h=>by
  obtain⟨v,vs',d,ds',p,q,rfl,rfl,rfl,h1,h2⟩:=trodAll_cons h;obtain⟨ss,a1,a2,a3⟩:=zQ2 hT hC (β:=β) (ht t List.mem_cons_self) (hok 0 t v rfl rfl) h1;obtain⟨sss,b1,b2,b3⟩:=zM8 hT hC (β:=β) (fun t' h'=>ht t' (List.mem_cons_of_mem _ h')) (fun j t' v' e1 e2=>hok (j+1) t' v' (by simpa using e1) (by simpa using e2)) h2;refine⟨ss::sss,⟨ss,sss,rfl,a1,b1⟩,?_,?_⟩
  ·simp only[zJH,AVals]; exact⟨v,vs',rfl,a2,b2⟩
  ·simp only[zEv,Rows.uptoBulkAll]; omega
theorem zH6 (hl:laidOutB P=true){W W':World} (hb:Below W.heap.size W W'):∀ {ts:List Nat}{vs:List Value}{ds:List (DataW H)}{ps:List MemPlace},(∀ t∈ts,P.readableRec t=true/\t<P.types.size) ->
  DataW.TrodAll enc P W 0 (fun _=>true) true ts vs ds ps->(∀ p∈ps,p.block<W.heap.size)->DataW.TrodAll enc P W' 0 (fun b=>decide (b<W.heap.size)) true ts vs ds ps
 | [],vs,ds,ps,_,h,_=>by
  obtain⟨rfl,rfl,rfl⟩:=trodAll_nil h;exact trodAll_mk0
 | t::ts,vs,ds,ps,ht,h,hlt=>by
  obtain⟨v,vs',d,ds',p,q,rfl,rfl,rfl,h1,h2⟩:=trodAll_cons h;exact⟨p,q,Below.trod hl (ht t List.mem_cons_self).1 (ht t List.mem_cons_self).2 h1 hb (fun x hx=>hlt x (List.mem_append_left _ hx)),
   zH6 hl hb (fun t' h'=>ht t' (List.mem_cons_of_mem _ h')) h2 (fun x hx=>hlt x (List.mem_append_right _ hx)),rfl⟩
theorem trodAll_length {base:Nat}:∀ {ts:List Nat}{vs:List Value}{ds:List (DataW H)}{ps:List MemPlace},DataW.TrodAll enc P w base spare held ts vs ds ps->ds.length=ts.length
 | [],vs,ds,ps,h=>by
  obtain⟨rfl,rfl,rfl⟩:=trodAll_nil h
  rfl
 | t::ts,vs,ds,ps,h=>by
  obtain⟨v,vs',d,ds',p,q,rfl,rfl,rfl,h1,h2⟩:=trodAll_cons h;simp[trodAll_length h2]
theorem zNo (hT:TOk P T) (hC:∀ t i,T t=some i->zCp T i=true) (hl:laidOutB P=true){f tb:Nat}{fn:Func}{s:ChangeSpec}{ps:zAp} (hs:PSound P f ps) (hvars:s.vars=[])
  (hpar:∀ t∈fn.params.toList,(T t).isSome=true/\P.readableRec t=true/\t<P.types.size) (hres:fn.resultTypes = #[tb]) (htb:P.underlying tb=some .bool)
  (hfn:∀ (ds:List (DataW H)),ds.length=fn.params.size->s.fn H ds={ results:=[.lit (.bool true)],args:=ds })
  (zL2:∀ sss,zQR T fn.params.toList sss->zEv sss<=1048576->ps.spec (zJH T fn.params.toList sss) (.val (.s (.bool true))))
  {F:Stop.Interp} (W:World) (base:Nat) (args:Array Value) (ds gs:List (DataW H)) (before:List MemPlace)
  (hval:∀ (j:Nat) t v,fn.params[j]? = some t->args[j]? = some v->Value.okWide P W .any base t v)
  (hW:DataW.Whole enc P fn.params.toList s.vars false W args.toList ds gs before) (hk:Rows.uptoSmall H (ds++gs)=true) (hgl:GlobOk (old W) W:=by exact⟨fun g row h=>(by cases h),fun g cs h=>(by cases h)⟩) :
  Calls P f args W fun e W'=>∃ v,e = .returned v/\s.post enc P fn false true false false W args v W':=by
 have hW':=hW;obtain⟨p,q,hA,hV,rfl,hfz,hnd⟩:=hW;rw[hvars]at hV;obtain⟨rfl,rfl⟩:=trodVars_none hV;have hb:Rows.uptoBulkAll ds<=1048576:=by
  have:=of_decide_eq_true hk
  simpa using this
 obtain⟨sss,c1,c2,c3⟩:=zM8 hT hC (β:=fun _=>.tuple #[]) (fun t ht=>(hpar t ht).1) (fun j t v h1 h2=>hval j t v (by simpa using h1) (by simpa using h2)) hA;have hcall:=hs.2.1 (old W) W _ _ _ (fun _ h=>h) hgl (zJI fun t ht=>(hpar t ht).1) c2 (zL2 sss c1 (Nat.le_trans c3 hb))
 refine hcall.mono fun e W' ⟨v,G',he,hext,hret⟩=>⟨v,he,?_⟩
 obtain⟨_,hret⟩:=hret;simp only[AVal,Rep]at hret;subst hret;have hbelow:Below W.heap.size W W':=⟨hext.os,hext.tape,hext.output,hext.size,fun k hk=>hext.old k hk⟩
 have hlen:ds.length=fn.params.size :=(by simpa using trodAll_length hA);have hlt:∀ x∈p,x.block<W.heap.size:=fun x hx=>by simpa using hW'.lt x (by simpa using hx)
 refine⟨ds,[],p++[],[],p,[],hW',?_,?_,?_,hbelow.frame _,fun h=>by cases h⟩
 ·rw[List.append_nil,hfn ds hlen,hres]
  exact trodAll_cons_mk (shut_bool htb true) trodAll_mk0
 ·rw[List.append_nil,hfn ds hlen]
  exact zH6 hl hbelow (fun t ht=>(hpar t ht).2) hA hlt
 ·rw[List.append_nil,hfn ds hlen,hvars]
  rfl
end
def look? {α:Type} (k:Nat):List (Nat×α)->Option α
 | []=>none
 | (a,b)::r=>match Nat.beq k a with | true=>some b | false=>look? k r
theorem zAm {α:Type}{Q:Nat->α->Prop}:∀ {l:List (Nat×α)},(∀ p∈l,Q p.1 p.2)->∀ t i,look? t l=some i->Q t i
 | [],_,t,i,h=>by simp[look?]at h
 | (a,b)::r,hl,t,i,h=>by
  simp only[look?]at h;split at h
  ·rename_i e; cases h; obtain rfl:=Nat.eq_of_beq_eq_true e; exact hl _ List.mem_cons_self
  ·exact zAm (fun p hp=>hl p (List.mem_cons_of_mem _ hp)) t i h
def okT (P:Program) (t:Nat) (i:TI):Prop:=∃ d info z,P.underlying t=some d/\tkOf d=i.k/\P.info? t=some info/\info.size=i.size/\info.bytes=i.bytes /\
  info.zero=some z/\z=(if i.k.agg then .agg (i.zero.map S.zval).toArray else (i.zero.headD .np).zval)/\i.zero.length=i.size/\(i.k.agg=false->i.size=1)/\i.zero.all S.zok=true
theorem zRM {P:Program}{tab:List (Nat×TI)} (h:∀ p∈tab,okT P p.1 p.2):TOk P (fun t=>look? t tab):=zAm (Q:=okT P) h
theorem zPY {tab:List (Nat×TI)} (h:tab.all (fun p=>zCp (fun t=>look? t tab) p.2)=true):∀ t i,look? t tab=some i->zCp (fun t=>look? t tab) i=true :=
 zAm (Q:=fun _ i=>zCp (fun t=>look? t tab) i=true) fun p hp=>List.all_eq_true.1 h p hp
theorem wrap64_in {n:Int} (h0 : -9223372036854775808<=n) (h1:n<9223372036854775808):IntKind.i64.wrap n=n:=by
 simp only[IntKind.wrap,IntKind.bits,IntKind.signed]
 by_cases hn:0<=n
 ·have e:n % (2 ^ 64:Int)=n:=Int.emod_eq_of_lt hn (by omega)
  simp only[e]
  rw[if_neg (by simp; omega)]
 ·have e:n % (2 ^ 64:Int)=n+2 ^ 64:=by
   rw[← Int.add_emod_right]; exact Int.emod_eq_of_lt (by omega) (by omega)
  simp only[e]
  rw[if_pos (by simp; omega)]
  omega
section
variable {T:Nat->Option TI}
theorem zN1 {n t:Nat}{ss:List S}{i:TI}{k:IntKind} (ht:T t=some i) (hk:i.k = .int k) (h:Typed T n t ss):∃ x:Int,ss=[.int k x]/\k.min<=x/\x<=k.max:=by
 cases n with
 | zero=>exact h.elim
 | succ n=>simpa only[Typed,ht,hk] using h
theorem zN2 {n t:Nat}{ss:List S}{i:TI} (ht:T t=some i) (hk:i.k = .str) (h:Typed T n t ss):∃ l:List UInt8,ss=[.str l]/\l.length<=maxLen:=by
 cases n with
 | zero=>exact h.elim
 | succ n=>simpa only[Typed,ht,hk] using h
theorem zOK {n t e:Nat}{ss:List S}{i:TI} (ht:T t=some i) (hk:i.k = .slice e) (h:Typed T n t ss):∃ m rows,n=m+1/\ss=[.sl (szOf T e) rows]/\rows.length<=maxLen/\∀ r∈rows,Typed T m e r:=by
 cases n with
 | zero=>exact h.elim
 | succ n =>
  simp only[Typed,ht,hk]at h;obtain⟨rows,h1,h2,h3⟩:=h;exact⟨n,rows,rfl,h1,h2,h3⟩
theorem zN3 {n t:Nat}{fs:List (Nat×Nat)}{ss:List S}{i:TI} (ht:T t=some i) (hk:i.k = .struct fs) (h:Typed T n t ss):∃ m,n=m+1/\zQN (Typed T m) (fs.map (·.2)) ss:=by
 cases n with
 | zero=>exact h.elim
 | succ n =>
  simp only[Typed,ht,hk]at h;exact⟨n,rfl,h⟩
theorem zPS {α β:Type}{f:α->β}{q:α->Prop}:∀ {l:List β},(∀ y∈l,∃ x,y=f x/\q x)->∃ xs:List α,l=xs.map f/\∀ x∈xs,q x
 | [],_=>⟨[],rfl,fun _ h=>by cases h⟩
 | y::l,h=>by
  obtain⟨x,hx,hq⟩:=h y List.mem_cons_self;obtain⟨xs,h1,h2⟩:=zPS (fun z hz=>h z (List.mem_cons_of_mem _ hz))
  refine⟨x::xs,by rw[hx,h1]; rfl,fun z hz=>?_⟩
  rcases List.mem_cons.1 hz with rfl | hz
  ·exact hq
  ·exact h2 z hz
def irow (k:IntKind) (x:Int):List S:=[.int k x]
end
theorem zCB {P:Program}{f:Nat}{s:Nat->List AV->Ret->Prop} (h:∀ n,PSound P f (zAr (s n))):PSound P f (zAr fun xs r=>∃ n,s n xs r) :=
 ⟨(h 0).1,fun G w xs vs r hl hgl hp hv ⟨n,hn⟩=>(h n).2.1 G w xs vs r hl hgl hp hv hn,fun R hR=>(by cases hR),fun R hR=>(by cases hR)⟩
theorem zBL {P:Program}{f:Nat}{s:List AV->Ret->Prop} (hcall:∀ args w,(callFunc f args).run P w = .ok (.enter f args) w) (h:∀ xs r,¬ s xs r):PSound P f (zAr s) :=
 ⟨hcall,fun G w xs vs r _ _ _ _ hs=>absurd hs (h xs r),fun R hR=>(by cases hR),fun R hR=>(by cases hR)⟩
end Go.Abs
