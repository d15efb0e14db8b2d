/-
  Joined out of: AbsR, MpA, MpB, AbsJ, AbsK.
-/
import Derived.Maps.RangeRun
import Derived.RangeFuncNested
import Derived.RangeFuncLeaves
import Derived.TacticsIn
import Derived.Test.YtbfnjnljboncgaaGreatZa
open List
set_option linter.unusedVariables false
set_option linter.unusedSimpArgs false
set_option maxHeartbeats 2000000
set_option maxRecDepth 100000
namespace Go.Abs
mutual
theorem AV.pers_lt {n:Nat}:∀ {x:AV},x.pers=true->x.lt n=true
 | .s _,_=>rfl
 | .nl _,_=>rfl
 | .agg xs,h=>by simp only[AV.pers]at h; simp only[AV.lt]; exact AV.persAll_lt h
 | .tup xs,h=>by simp only[AV.pers]at h; simp only[AV.lt]; exact AV.persAll_lt h
 | .clo _ xs,h=>by simp only[AV.pers]at h; simp only[AV.lt]; exact AV.persAll_lt h
 | .op ..,h=>by simp[AV.pers]at h
 | .orow _,h=>by simp[AV.pers]at h
 | .rp ..,h=>by simp[AV.pers]at h
 | .mref _,h=>by simp[AV.pers]at h
 | .junk,_=>rfl
theorem AV.persAll_lt {n:Nat}:∀ {xs:List AV},AV.persAll xs=true->AV.ltAll n xs=true
 | [],_=>rfl
 | x::xs,h=>by
  simp only[AV.persAll,Bool.and_eq_true]at h
  simp only[AV.ltAll,Bool.and_eq_true]
  exact⟨AV.pers_lt h.1,AV.persAll_lt h.2⟩
end
def zBz (own:Bool) (σ:St) (r:Ret):Option (AV×St) :=
 match r with
 | .val x=>match x.pers with | true=>some (x,σ) | false=>none
 | .row e sz rows=>match own with | true=>some (.orow σ.nx,zBi σ (.row e sz rows)) | false=>some (.s (.sl sz rows),σ)
variable {v:Value}{w w':World}{σ':St}{β:Nat->Value}{G G':Nat->Prop}
theorem zJ3 {c:Cx}{σ:St}{a:Act} (hc:Conc c G β σ a w) (h1:Ext G G' w w'){r:Ret} (h2:RetAt G' w w' r v){own:Bool}{x:AV}
  (hx:zBz own σ r=some (x,σ')) {K:Prop}
  (hK:∀ G' β' w'' v',w''=w'->v'=v->Conc c G' β' σ' a w''->AVal G' w'' β' x v'->x.lt σ'.nx=true->K):K:=by
 have hcx:=hc.ext h1;unfold zBz at hx;unfold RetAt at h2;split at hx
 ·split at hx
  ·rename_i hpers
   cases hx;exact hK G' β w' v rfl rfl hcx (AVal.pers h2.1 h2.2) (AV.pers_lt hpers)
  ·cases hx
 ·rename_i e1 sz rows
  obtain⟨f1,f2,f3⟩:=h2;split at hx
  ·cases hx;rcases f3 with ⟨rfl,rfl⟩ | ⟨b,cap,cur,rfl,k1,k2,k3,k4,k5,k6⟩
   ·obtain⟨β',b1,b2,b3⟩:=hcx.make (ob:=.row e1 sz []) (v:=.slice none 0 0) ⟨f1,f2,.inl ⟨rfl,rfl⟩⟩ rfl (fun _ _ _ b hb=>by cases hb)
    refine hK G' β' w' _ rfl rfl b3 ?_ (by simp[AV.lt,zBi])
    simp only[AVal]
    exact⟨b2.symm,_,_,_,rfl⟩
   ·obtain⟨β',b1,b2,b3⟩:=hcx.make (ob:=.row e1 sz rows) (v:=.slice (some ⟨b,0,none⟩) rows.length cap) ⟨f1,f2,.inr ⟨b,cap,cur,rfl,k1,k2,k3,k4,.inr (Nat.le_trans hc.fr.size k5),k6⟩⟩ rfl (fun k o' hk b' hb e'=>by
     cases hb;have h9:b<w.heap.size:=hc.blk_lt hk e'
     omega)
    refine hK G' β' w' _ rfl rfl b3 ?_ (by simp[AV.lt,zBi])
    simp only[AVal]
    exact⟨b2.symm,_,_,_,rfl⟩
  ·cases hx;rcases f3 with ⟨rfl,rfl⟩ | ⟨b,cap,cur,rfl,k1,k2,⟨mk,hmk,k3⟩,k4,k5,k6⟩
   ·exact hK G' β w' _ rfl rfl hcx (by simp only[AVal,Rep]; exact .inl ⟨trivial,_,_,rfl⟩) rfl
   ·have hblt:b<w'.heap.size:=(Array.getElem?_eq_some_iff.1 k3).1;have hx:Ext G (fun i=>G' i∨i=b) w w':=⟨h1.os,h1.tape,h1.output,h1.size,h1.old,fun i hi=>.inl (h1.sub i hi),fun i hi=>hi.elim (h1.new i) (fun e=>.inr (e ▸ k5)),fun i hi=>hi.elim (h1.lt i) (fun e=>e ▸ hblt)⟩
    refine hK _ β w' _ rfl rfl (hc.ext hx) ?_ rfl;simp only[AVal,Rep]
    refine .inr ⟨b,0,cap,rfl,k1,zCC f1 (RepRow.mk fun i s hi=>⟨.inr rfl,?_⟩)⟩
    obtain⟨u,hu,hr⟩:=k6 i s hi;refine⟨u,by simp[World.cell?,k3,hu],hr.keep ⟨fun _ h=>.inl h,fun _ _=>rfl⟩⟩
theorem zPv {c:Cx}{T:Nat->Option TI}{Γ:Nat->Option zAr}{σ:St}{a:Act} (hΓ:∀ f s,Γ f=some s->PSound c.P f s)
  (hc:Conc c G β σ a w) {o:Oper} {g:Nat} {s:zAr} {xs:List AV} (h:callOf T Γ o σ.env=some (g,s,xs)) {r:Ret} (hr:s.spec xs r) {own:Bool} {x:AV} (hx:zBz own σ r=some (x,σ'))
  {K:Act->World->Prop} {Q:Exit->Act->World->Prop}
  (hK:∀ G' β' w' v,Conc c G' β' σ' a w'->AVal G' w' β' x v->x.lt σ'.nx=true->K (a.put o.dst v) w'):o.wp c.P a w K Q:=by
 have hρ:∀ ty x,AVal G w β (opd T σ.env ty x) (a.eval x):=zE5 hc T
 unfold callOf at h;split at h
 ·rename_i f args ts ho
  split at h
  ·rename_i g' e
   split at h
   ·rename_i s' hs
    split at h
    ·rename_i hown
     split at h
     ·rename_i hp
      cases h;have:=hρ 0 f;rw[e]at this;simp only[AVal,Rep]at this;have hargs:=fun s:zAr=>zWf (s:=s) hρ args.toList ts.toList
      obtain⟨hcall,zNO,_⟩:=hΓ g s hs;have hexec:(execOp a.eval o).run c.P w = .ok (.enter g (args.toList.map a.eval).toArray) w:=by
       have e:(args.toList.map a.eval).toArray=args.map a.eval:=Array.ext' (by simp)
       rw[e]
       simp[execOp,ho,resolve,this,Deferred.ofValue,invoke,hcall]
      unfold Oper.wp;rw[hexec]
      simp only[Oper.upon_enter]
      refine(zNO G w _ _ r hc.lt hc.glob hp (AVals.pers hp (hargs _)) hr).mono fun e w' he=>?_
      obtain⟨v,G',rfl,h1,h2⟩:=he;exact zJ3 hc h1 h2 hx fun G' β' w'' v' e1 e2 h3 h4 h5=>by subst e1; subst e2; exact hK G' β' _ _ h3 h4 h5
     ·cases h
    ·cases h
   ·cases h
  ·cases h
 ·cases h
def zTb (x:Nat):List Nat->Bool
 | []=>true
 | y::ys=>!(Nat.beq x y)&&zTb x ys
def distinct:List Nat->Bool
 | []=>true
 | x::xs=>zTb x xs&&distinct xs
theorem zGC {x:Nat}:∀ {l:List Nat},zTb x l=true->x ∉ l
 | [],_=>by simp
 | y::ys,h=>by
  simp only[zTb,Bool.and_eq_true,Bool.not_eq_true']at h;have h1:=Nat.ne_of_beq_eq_false h.1;have h2:=zGC h.2;simp[h1,h2]
def look (k:Nat):List (Nat×Nat)->Option Nat
 | []=>none
 | (a,b)::r=>bif Nat.beq k a then some b else look k r
mutual
def AV.ren (ρ:List (Nat×Nat)):AV->AV
 | .op k o=>match look k ρ with | some j=>.op j o | none=>.junk
 | .orow k=>match look k ρ with | some j=>.orow j | none=>.junk
 | .rp k sz i o=>match look k ρ with | some j=>.rp j sz i o | none=>.junk
 | .mref k=>match look k ρ with | some j=>.mref j | none=>.junk
 | .agg xs=>.agg (AV.renAll ρ xs)
 | .tup xs=>.tup (AV.renAll ρ xs)
 | .clo f xs=>.clo f (AV.renAll ρ xs)
 | x=>x
def AV.renAll (ρ:List (Nat×Nat)):List AV->List AV
 | []=>[]
 | x::xs=>x.ren ρ::AV.renAll ρ xs
end
def Ob.ren (ρ:List (Nat×Nat)):Ob->Ob
 | .box t xs=>.box t (AV.renAll ρ xs)
 | .arow e sz rows=>.arow e sz (rows.map (AV.renAll ρ))
 | .any τ xs=>.any τ (AV.renAll ρ xs)
 | o=>o
mutual
theorem AVal.ren {G:Nat->Prop}{w:World}{β β':Nat->Value}{ρ:List (Nat×Nat)} (hb:∀ k j,look k ρ=some j->β' j=β k):∀ {x:AV}{v:Value},AVal G w β x v->AVal G w β' (x.ren ρ) v
 | .s x,v,h=>by simp only[AVal,AV.ren]at h ⊢; exact h
 | .nl _,v,h=>by simp only[AVal,AV.ren]at h ⊢; exact h
 | .agg xs,v,h=>by
  simp only[AVal,AV.ren]at h ⊢
  obtain⟨vs,h1,h2⟩:=h
  exact⟨vs,h1,AVals.ren hb h2⟩
 | .tup xs,v,h=>by
  simp only[AVal,AV.ren]at h ⊢
  obtain⟨vs,h1,h2⟩:=h
  exact⟨vs,h1,AVals.ren hb h2⟩
 | .clo f xs,v,h=>by
  simp only[AVal,AV.ren]at h ⊢
  obtain⟨vs,h1,h2⟩:=h
  exact⟨vs,h1,AVals.ren hb h2⟩
 | .op k o,v,h=>by
  simp only[AV.ren]
  split
  ·rename_i j hj; simp only[AVal]at h ⊢; rw[hb k j hj]; exact h
  ·simp only[AVal]
 | .orow k,v,h=>by
  simp only[AV.ren]
  split
  ·rename_i j hj; simp only[AVal]at h ⊢; rw[hb k j hj]; exact h
  ·simp only[AVal]
 | .rp k sz i o,v,h=>by
  simp only[AV.ren]
  split
  ·rename_i j hj; simp only[AVal]at h ⊢; rw[hb k j hj]; exact h
  ·simp only[AVal]
 | .mref k,v,h=>by
  simp only[AV.ren]
  split
  ·rename_i j hj; simp only[AVal]at h ⊢; rw[hb k j hj]; exact h
  ·simp only[AVal]
 | .junk,_,_=>by simp only[AV.ren,AVal]
theorem AVals.ren {G:Nat->Prop}{w:World}{β β':Nat->Value}{ρ:List (Nat×Nat)} (hb:∀ k j,look k ρ=some j->β' j=β k):∀ {xs:List AV}{vs:List Value},AVals G w β xs vs->AVals G w β' (AV.renAll ρ xs) vs
 | [],_,h=>by simp only[AVals,AV.renAll]at h ⊢; exact h
 | x::xs,vs,h=>by
  simp only[AVals,AV.renAll]at h ⊢
  obtain⟨v,vs',h1,h2,h3⟩:=h
  exact⟨v,vs',h1,AVal.ren hb h2,AVals.ren hb h3⟩
end
def S.flat:S->Bool
 | .sl _ _=>false
 | .pt _=>false
 | _=>true
mutual
def AV.flat:AV->Bool
 | .s x=>x.flat
 | .nl _=>true
 | .agg xs=>AV.flatAll xs
 | .tup xs=>AV.flatAll xs
 | _=>false
def AV.flatAll:List AV->Bool
 | []=>true
 | x::xs=>x.flat&&AV.flatAll xs
end
def Ret.flat:Ret->Bool
 | .val x=>x.flat
 | .row _ _ _=>false
theorem Rep.flat {s:S} (hs:s.flat=true) (h:Rep G w s v):Rep G' w' s v:=by
 cases s with
 | sl sz rows=>simp[S.flat]at hs
 | pt=>simp[S.flat]at hs
 | _=>simpa only[Rep] using h
mutual
theorem AVal.flat {G G':Nat->Prop}{w w':World}{β β':Nat->Value}:∀ {x:AV}{v:Value},x.flat=true->AVal G w β x v->AVal G' w' β' x v
 | .s x,v,hf,h=>by simp only[AVal,AV.flat]at h hf ⊢; exact h.flat hf
 | .nl _,v,_,h=>by simp only[AVal]at h ⊢; exact h
 | .agg xs,v,hf,h=>by
  simp only[AVal,AV.flat]at h hf ⊢
  obtain⟨vs,h1,h2⟩:=h
  exact⟨vs,h1,AVals.flat hf h2⟩
 | .tup xs,v,hf,h=>by
  simp only[AVal,AV.flat]at h hf ⊢
  obtain⟨vs,h1,h2⟩:=h
  exact⟨vs,h1,AVals.flat hf h2⟩
 | .clo ..,_,hf,_=>by simp[AV.flat]at hf
 | .op ..,_,hf,_=>by simp[AV.flat]at hf
 | .orow _,_,hf,_=>by simp[AV.flat]at hf
 | .rp ..,_,hf,_=>by simp[AV.flat]at hf
 | .mref _,_,hf,_=>by simp[AV.flat]at hf
 | .junk,_,hf,_=>by simp[AV.flat]at hf
theorem AVals.flat {G G':Nat->Prop}{w w':World}{β β':Nat->Value}:∀ {xs:List AV}{vs:List Value},AV.flatAll xs=true->AVals G w β xs vs->AVals G' w' β' xs vs
 | [],_,_,h=>by simp only[AVals]at h ⊢; exact h
 | x::xs,vs,hf,h=>by
  simp only[AVals]at h ⊢
  simp only[AV.flatAll,Bool.and_eq_true]at hf
  obtain⟨v,vs',h1,h2,h3⟩:=h
  exact⟨v,vs',h1,AVal.flat hf.1 h2,AVals.flat hf.2 h3⟩
end
theorem RetAt.flat {G1:Nat->Prop} (hs:∀ b,G b->G' b){r:Ret} (hf:r.flat=true) (h:RetAt G' w w' r v):RetAt G w w' r v:=by
 cases r with
 | val x=>exact⟨h.1,AVal.flat hf h.2⟩
 | row e sz rows =>
  simp[Ret.flat]at hf
mutual
def AV.keys:AV->List Nat
 | .op k _=>[k]
 | .orow k=>[k]
 | .rp k _ _ _=>[k]
 | .mref k=>[k]
 | .agg xs=>AV.keysAll xs
 | .tup xs=>AV.keysAll xs
 | .clo _ xs=>AV.keysAll xs
 | _=>[]
def AV.keysAll:List AV->List Nat
 | []=>[]
 | x::xs=>x.keys++AV.keysAll xs
end
mutual
def AV.lend (hp:Nat->Option Ob):AV->AV
 | .orow k=>match hp k with | some (.row _ sz rows)=>.s (.sl sz rows) | _=>.junk
 | .op k o=>match hp k with
  | some (.box _ cells)=>match zLM cells with | some ss=>.s (.pt (ss.drop o)) | none=>.junk
  | _=>.junk
 | .rp ..=>.junk
 | .mref _=>.junk
 | .agg xs=>.agg (AV.lendAll hp xs)
 | .tup xs=>.tup (AV.lendAll hp xs)
 | .clo f xs=>.clo f (AV.lendAll hp xs)
 | x=>x
def AV.lendAll (hp:Nat->Option Ob):List AV->List AV
 | []=>[]
 | x::xs=>x.lend hp::AV.lendAll hp xs
end
section
variable {c:Cx} {G:Nat->Prop} {β:Nat->Value} {σ:St} {a:Act} {w:World}
def zUt (G:Nat->Prop) (β:Nat->Value) (σ:St) (ks:List Nat) (b:Nat):Prop:=G b∨∃ k ob,k∈ks/\σ.hp k=some ob/\blk (β k)=some b
mutual
theorem AVal.lend (hc:Conc c G β σ a w){ks:List Nat}:∀ {x:AV}{v:Value},(∀ k∈x.keys,k∈ks)->AVal G w β x v->AVal (zUt G β σ ks) w β (x.lend σ.hp) v
 | .s x,v,_,h=>by simp only[AVal,AV.lend]at h ⊢; exact h.keep ⟨fun _ h=>.inl h,fun _ _=>rfl⟩
 | .nl _,v,_,h=>by simp only[AVal,AV.lend]at h ⊢; exact h
 | .agg xs,v,hk,h=>by
  simp only[AVal,AV.lend]at h ⊢
  obtain⟨vs,h1,h2⟩:=h
  exact⟨vs,h1,AVals.lend hc (fun k hk'=>hk k (by simpa [AV.keys] using hk')) h2⟩
 | .tup xs,v,hk,h=>by
  simp only[AVal,AV.lend]at h ⊢
  obtain⟨vs,h1,h2⟩:=h
  exact⟨vs,h1,AVals.lend hc (fun k hk'=>hk k (by simpa [AV.keys] using hk')) h2⟩
 | .clo f xs,v,hk,h=>by
  simp only[AVal,AV.lend]at h ⊢
  obtain⟨vs,h1,h2⟩:=h
  exact⟨vs,h1,AVals.lend hc (fun k hk'=>hk k (by simpa [AV.keys] using hk')) h2⟩
 | .op k o,v,hk,h=>by
  simp only[AV.lend]
  have hkk:=hk k (by simp[AV.keys])
  split
  ·rename_i cells hh
   split
   ·rename_i ss hs
    obtain⟨b,e,cur,h1,h2,h3,h4,h5,h6⟩:=hc.hp k _ hh
    have hreps:=zLe hs h5
    simp only[AVal]at h
    obtain⟨b',e1,rfl⟩:=h
    rw[h1]at e1; cases e1
    simp only[AVal,Rep]
    have hrow:RepRow (zUt G β σ ks) w b ss 0:=RepRow.mk fun i s hi=>⟨.inr ⟨k,_,hkk,hh,by rw[h1]; rfl⟩,by
     obtain⟨u,hu,hr⟩:=zLc hreps hi
     rw[Array.getElem?_toList]at hu
     exact⟨u,by simp[World.cell?,h2,hu],hr.keep ⟨fun _ h=>.inl h,fun _ _=>rfl⟩⟩⟩
    exact⟨b,o,rfl,by simpa using hrow.drop o⟩
   ·simp only[AVal]
  ·simp only[AVal]
 | .orow k,v,hk,h=>by
  simp only[AV.lend]
  have hkk:=hk k (by simp[AV.keys])
  split
  ·rename_i e sz rows hh
   obtain⟨hlen,hsz,ho⟩:=hc.hp k _ hh
   simp only[AVal]at h
   obtain⟨rfl,_⟩:=h
   simp only[AVal,Rep]
   rcases ho with ⟨h1,rfl⟩ | ⟨b,cap,cur,h1,h2,h3,⟨mk,hmk,h4⟩,h5,h6,h7⟩
   ·exact .inl ⟨rfl,_,_,h1⟩
   ·refine .inr ⟨b,0,cap,h1,h2,zCC hlen (RepRow.mk fun i s hi=>⟨.inr ⟨k,_,hkk,hh,by rw[h1]; rfl⟩,?_⟩)⟩
    obtain⟨u,hu,hr⟩:=h7 i s hi
    exact⟨u,by simp[World.cell?,h4,hu],hr.keep ⟨fun _ h=>.inl h,fun _ _=>rfl⟩⟩
  ·simp only[AVal]
 | .rp ..,v,_,h=>by simp only[AV.lend,AVal]
 | .mref _,v,_,h=>by simp only[AV.lend,AVal]
 | .junk,_,_,_=>by simp only[AV.lend,AVal]
theorem AVals.lend (hc:Conc c G β σ a w){ks:List Nat}:∀ {xs:List AV}{vs:List Value},(∀ k∈AV.keysAll xs,k∈ks)->AVals G w β xs vs->AVals (zUt G β σ ks) w β (AV.lendAll σ.hp xs) vs
 | [],_,_,h=>by simp only[AVals,AV.lendAll]at h ⊢; exact h
 | x::xs,vs,hk,h=>by
  simp only[AVals,AV.lendAll]at h ⊢
  obtain⟨v,vs',h1,h2,h3⟩:=h
  exact⟨v,vs',h1,AVal.lend hc (fun k hk'=>hk k (by simp[AV.keysAll,hk'])) h2,AVals.lend hc (fun k hk'=>hk k (by simp[AV.keysAll,hk'])) h3⟩
end
def kin (k:Nat):List Nat->Bool
 | []=>false
 | x::xs=>match Nat.beq k x with | true=>true | false=>kin k xs
theorem zSY {k:Nat}:∀ {l:List Nat},kin k l=false->k ∉ l
 | [],_=>by simp
 | x::xs,h=>by
  simp only[kin]at h;split at h
  ·cases h
  ·rename_i e
   have:=zSY h;have:=Nat.ne_of_beq_eq_false e
   simp_all
def zOl (ks:List Nat) (σ:St):St:={ σ with hp:=fun k=>bif kin k ks then none else σ.hp k }
theorem Conc.giveAll (hc:Conc c G β σ a w) (ks:List Nat):Conc c (zUt G β σ ks) β (zOl ks σ) a w:=by
 have k:Keep G (zUt G β σ ks) w w:=⟨fun _ h=>.inl h,fun _ _=>rfl⟩
 have hget:∀ {k' o},(zOl ks σ).hp k'=some o->k' ∉ ks/\σ.hp k'=some o:=fun {k' o} hk=>by
  simp only[zOl]at hk;cases e:kin k' ks with
  | true=>rw[e,cond_true]at hk; cases hk
  | false=>rw[e,cond_false]at hk; exact⟨zSY e,hk⟩
 have hng:∀ {k' o},σ.hp k'=some o->k' ∉ ks->∀ {b:Nat},blk (β k')=some b->¬ zUt G β σ ks b:=fun {k' o} hk hn {b} hb hl=>by
  rcases hl with hl | ⟨k2,o2,h1,h2,h3⟩
  ·exact(row_block (hc.hp k' o hk) b hb).1 hl
  ·exact hc.inj k' k2 o o2 hk h2 (fun e=>hn (e ▸ h1)) b hb h3
 refine { hc with env:=fun t=>(hc.env t).keep k,hp:=fun k' o hk=>?_,hplt:=fun k' o hk=>hc.hplt k' o (hget hk).2,inj:=fun k1 k2 o1 o2 h1 h2=>hc.inj k1 k2 o1 o2 (hget h1).2 (hget h2).2,lt:=fun i hi=>?_,sub:=fun i hi=>.inl (hc.sub i hi),new:=fun i hi=>?_,glob:=hc.glob.keep k }
 ·obtain⟨hn,hk0⟩:=hget hk;have ho:=hc.hp k' o hk0;cases o with
  | box cells =>
   obtain⟨b',e',cur,h1,h2,h3,h4,h5,h6⟩:=ho;exact⟨b',e',cur,h1,h2,hng hk0 hn (by rw[h1]; rfl),h4,h5.keep k,h6⟩
  | row e' sz rows =>
   obtain⟨h0,h0',h1⟩:=ho;refine⟨h0,h0',h1.imp id ?_⟩
   rintro⟨b',cap,cur,h1,h2,h3,h4,h5,h6,h7⟩
   exact⟨b',cap,cur,h1,h2,h3,h4,hng hk0 hn (by rw[h1]; rfl),h6,fun i s hi=>let ⟨u,hu,hr⟩:=h7 i s hi; ⟨u,hu,hr.keep k⟩⟩
  | arow e' sz rows=>exact ho.moveA (fun _ _ _ h=>h) (fun b _ hb _ _=>hng hk0 hn hb) (fun _ _ h=>h) (fun _ _ _ _ hr=>hr.keep k)
  | any τ xs =>
   obtain⟨b',o',vs,h1,h2,h3,h4,h5,h6⟩:=ho;exact⟨b',o',vs,h1,h2,hng hk0 hn h1,h4,h5.keep k,h6⟩
 ·rcases hi with hi | ⟨k2,o2,h1,h2,h3⟩
  ·exact hc.lt i hi
  ·exact hc.blk_lt h2 h3
 ·rcases hi with hi | ⟨k2,o2,h1,h2,h3⟩
  ·exact hc.new i hi
  ·exact .inr (row_block (hc.hp k2 o2 h2) i h3).2
def zBm (T:Nat->Option TI) (o:Oper) (env:Nat->AV):Option (Nat×List AV) :=
 match o.op with
 | .call { callee:=.value f,args:=args,argTypes:=ts }=>match opd T env 0 f with
  | .s (.fn g)=>some (g,opds T env args.toList ts.toList)
  | .clo g caps=>match Nat.ble 1048576 g with
   | false=>some (g,opds T env args.toList ts.toList++caps)
   | true=>match args.toList.all (fun x=>!zA7 x) with
    | true=>some (g - 1048576,caps++opds T env args.toList ts.toList)
    | false=>none
  | _=>none
 | _=>none
def zAp (hp:Nat->Option Ob):Nat->List Nat->List Nat->List Nat
 | 0,_,acc=>acc
 | _,[],acc=>acc
 | n+1,k::r,acc=>match kin k acc with
  | true=>zAp hp n r acc
  | false=>match hp k with
   | some (.box _ cells)=>zAp hp n (AV.keysAll cells++r) (acc++[k])
   | some (.arow _ _ rows)=>zAp hp n (AV.keysAll rows.flatten++r) (acc++[k])
   | some (.any _ xs)=>zAp hp n (AV.keysAll xs++r) (acc++[k])
   | _=>zAp hp n r (acc++[k])
def zipI:Nat->List Nat->List (Nat×Nat)
 | _,[]=>[]
 | i,k::ks=>(k,i)::zipI (i+1) ks
def zKZ (hp:Nat->Option Ob) (ρ:List (Nat×Nat)):List Nat->Option (List Ob)
 | []=>some []
 | k::ks=>match hp k,zKZ hp ρ ks with | some o,some os=>some (o.ren ρ::os) | _,_=>none
def zES:List Nat->Nat->Nat->Nat
 | k::_,_,0=>k
 | _::ks,nx,i+1=>zES ks nx i
 | [],nx,i=>nx+i
def zEg (ks:List Nat) (nx:Nat):Nat->List (Option Ob)->List (Nat×Nat)
 | _,[]=>[]
 | i,none::r=>zEg ks nx (i+1) r
 | i,some _::r=>(i,zES ks nx i)::zEg ks nx (i+1) r
def zJJ (ρ:List (Nat×Nat)) (f:Nat->Nat):Nat->List (Option Ob)->(Nat->Option Ob)->Nat->Option Ob
 | _,[],hp=>hp
 | i,o::os,hp=>zJJ ρ f (i+1) os (fun k=>bif Nat.beq k (f i) then o.map (Ob.ren ρ) else hp k)
def handed (σ:St) (ks:List Nat) (os':List (Option Ob)):St :=
 { σ with hp:=zJJ (zEg ks σ.nx 0 os') (zES ks σ.nx) 0 os' σ.hp,nx:=σ.nx+(os'.length - ks.length) }
def zFO (T:Nat->Option TI) (nil:Option Nat) (o:Oper) (xs:List AV) (σ:St):List AV×St :=
 match nil with
 | none=>(xs,σ)
 | some k=>match o.op with
  | .call { callee:=_,args:=args,argTypes:=ts }=>match args.toList[k]?,elemOf T (ts.toList.getD k 0) with
   | some x,some (e,j)=>match zA7 x,Nat.ble 1 j.size with
    | true,true=>(xs.set k (.orow σ.nx),zBi σ (.row e j.size []))
    | _,_=>(xs,σ)
   | _,_=>(xs,σ)
  | _=>(xs,σ)
def zHd (T:Nat->Option TI) (o:Oper) (σ:St) (K:AV->St->Prop):Prop :=
 match o.op with
 | .load t x=>match opd T σ.env 0 x with
  | .rp k sz i off=>match σ.hp k with
   | some (.row _ sz' rows)=>match Nat.beq sz sz' with
    | true=>i<rows.length/\∃ row,rows.getD i []=row/\match zNR T t (row.drop off) with | some y=>K y σ | none=>False
    | false=>False
   | some (.arow _ sz' rows)=>match Nat.beq sz sz' with
    | true=>i<rows.length/\∃ row,rows.getD i []=row/\match zOS T t (row.drop off) with | some y=>K y σ | none=>False
    | false=>False
   | _=>False
  | _=>False
 | _=>False
def zGp (T:Nat->Option TI) (Γ:Nat->Option zAr) (own:Bool) (o:Oper) (σ:St) (K:AV->St->Prop):Prop :=
 match zBm T o σ.env with
 | none=>zHd T o σ K
 | some (g,xs)=>match Γ g with
  | none=>False
  | some s=>match s.heap with
   | some R=>∃ Φ,R xs σ.hp σ.nx Φ/\∀ x hp' n',Φ x hp' n'->K x ⟨σ.env,hp',n'⟩
   | none=>match s.own with
   | none=>match AV.persAll (AV.lendAll σ.hp xs) with
    | false=>False
    | true=>∃ r,s.spec (AV.lendAll σ.hp xs) r/\match zBz own (match r.flat with | true=>σ | false=>zOl (AV.keysAll xs) σ) r with
     | none=>False
     | some (x,σ')=>K x σ'
   | some R=>match zFO T s.nil o xs σ with
    | (xs,σ)=>match distinct (zAp σ.hp 64 (AV.keysAll xs) []),zKZ σ.hp (zipI 0 (zAp σ.hp 64 (AV.keysAll xs) [])) (zAp σ.hp 64 (AV.keysAll xs) []) with
     | true,some os=>∃ x os',R (AV.renAll (zipI 0 (zAp σ.hp 64 (AV.keysAll xs) [])) xs) os x os' /\
       K (x.ren (zEg (zAp σ.hp 64 (AV.keysAll xs) []) σ.nx 0 os')) (handed σ (zAp σ.hp 64 (AV.keysAll xs) []) os')
     | _,_=>False
theorem zHa:∀ {l:List Nat},distinct l=true->l.Nodup
 | [],_=>nodup_nil
 | x::xs,h=>by
  simp only[distinct,Bool.and_eq_true]at h;exact List.nodup_cons.2 ⟨zGC h.1,zHa h.2⟩
theorem zET:∀ {ks:List Nat}{nx i:Nat},i<ks.length->ks[i]? = some (zES ks nx i)
 | k::ks,nx,0,_=>rfl
 | k::ks,nx,i+1,h=>by simpa [zES] using zET (ks:=ks) (nx:=nx) (i:=i) (by simpa using h)
theorem zFo:∀ {ks:List Nat}{nx i:Nat},ks.length<=i->zES ks nx i=nx+(i - ks.length)
 | [],nx,i,_=>by simp[zES]
 | k::ks,nx,0,h=>by simp at h
 | k::ks,nx,i+1,h=>by rw[zES,zFo (by simpa using h)]; simp
theorem zID:∀ {ks:List Nat}{n k i:Nat},look k (zipI n ks)=some i->n<=i/\ks[i - n]? = some k
 | [],n,k,i,h=>by simp[zipI,look]at h
 | a::ks,n,k,i,h=>by
  simp only[zipI,look]at h;cases e:Nat.beq k a with
  | true=>rw[e,cond_true]at h; cases h; obtain rfl:=Nat.eq_of_beq_eq_true e; simp
  | false =>
   rw[e,cond_false]at h;obtain⟨h1,h2⟩:=zID h;refine⟨by omega,?_⟩
   rw[show i - n=(i - (n+1))+1 by omega]; simpa using h2
theorem zVu {k j:Nat}:∀ {l:List (Nat×Nat)},look k l=some j->(k,j)∈l
 | [],h=>by simp[look]at h
 | (a,b)::r,h=>by
  simp only[look]at h;cases e:Nat.beq k a with
  | true=>rw[e,cond_true]at h; cases h; obtain rfl:=Nat.eq_of_beq_eq_true e; simp
  | false=>rw[e,cond_false]at h; simp[zVu h]
theorem zFe {ks:List Nat}{nx:Nat}:∀ {os:List (Option Ob)}{n i k:Nat},look i (zEg ks nx n os)=some k->n<=i/\(∃ ob,os[i - n]? = some (some ob))/\k=zES ks nx i
 | [],n,i,k,h=>by simp[zEg,look]at h
 | none::r,n,i,k,h=>by
  simp only[zEg]at h;obtain⟨h1,⟨ob,h2⟩,h3⟩:=zFe h;refine⟨by omega,⟨ob,?_⟩,h3⟩
  rw[show i - n=(i - (n+1))+1 by omega]; simpa using h2
 | some o::r,n,i,k,h=>by
  simp only[zEg,look]at h;cases e:Nat.beq i n with
  | true=>rw[e,cond_true]at h; cases h; obtain rfl:=Nat.eq_of_beq_eq_true e; exact⟨Nat.le_refl _,⟨o,by simp⟩,rfl⟩
  | false =>
   rw[e,cond_false]at h;obtain⟨h1,⟨ob,h2⟩,h3⟩:=zFe h;refine⟨by omega,⟨ob,?_⟩,h3⟩
   rw[show i - n=(i - (n+1))+1 by omega]; simpa using h2
theorem zHq {ρ:List (Nat×Nat)}{f:Nat->Nat}:∀ {os:List (Option Ob)}{i:Nat}{hp:Nat->Option Ob}{k:Nat}{ob:Ob},zJJ ρ f i os hp k=some ob ->
  (∃ j ob0,os[j]? = some (some ob0)/\k=f (i+j)/\ob=ob0.ren ρ)∨(hp k=some ob/\∀ j,j<os.length->k ≠ f (i+j))
 | [],i,hp,k,ob,h=>.inr ⟨h,fun j hj=>by simp at hj⟩
 | o::os,i,hp,k,ob,h=>by
  simp only[zJJ]at h;rcases zHq h with ⟨j,ob0,h1,h2,h3⟩ | ⟨h1,h2⟩
  ·exact .inl ⟨j+1,ob0,by simpa using h1,by rw[h2]; congr 1; omega,h3⟩
  ·cases e:Nat.beq k (f i) with
   | true =>
    rw[e,cond_true]at h1;obtain⟨ob0,h3,h4⟩:=Option.map_eq_some_iff.1 h1;exact .inl ⟨0,ob0,by simp[h3],Nat.eq_of_beq_eq_true e,h4.symm⟩
   | false =>
    rw[e,cond_false]at h1;refine .inr ⟨h1,fun j hj=>?_⟩
    cases j with
    | zero=>exact Nat.ne_of_beq_eq_false e
    | succ j=>have:=h2 j (by simpa using hj); rwa [show i+1+j=i+(j+1) by omega]at this
theorem zN0 {hp:Nat->Option Ob}{ρ:List (Nat×Nat)}:∀ {ks:List Nat}{os:List Ob},zKZ hp ρ ks=some os->os.length=ks.length/\∀ (i:Nat) k,ks[i]? = some k->∃ o,hp k=some o/\os[i]? = some (o.ren ρ)
 | [],os,h=>by simp only[zKZ,Option.some.injEq]at h; subst h; exact⟨rfl,fun i k h=>by simp at h⟩
 | k::ks,os,h=>by
  simp only[zKZ]at h;split at h
  ·rename_i o os1 h1 h2
   cases h;obtain⟨a1,a2⟩:=zN0 h2;refine⟨by simp[a1],fun i k' hk=>?_⟩
   cases i with
   | zero=>simp at hk; subst hk; exact⟨o,h1,by simp⟩
   | succ i=>simpa using a2 i k' (by simpa using hk)
  ·cases h
theorem zOi {ρ:List (Nat×Nat)}:∀ (l:List AV),AV.renAll ρ l=l.map (AV.ren ρ)
 | []=>rfl
 | x::l=>by simp[AV.renAll,zOi l]
theorem zHg {ρ:List (Nat×Nat)}:∀ (rows:List (List AV)),(rows.map (AV.renAll ρ)).flatten=rows.flatten.map (AV.ren ρ)
 | []=>rfl
 | r::rows=>by simp[zOi,zHg rows,map_append]
variable {o:Ob}{v:Value}{β:Nat->Value}{w:World}{G:Nat->Prop}
theorem ObAt.mv {c1 c2:Cx} (hm:∀ b,blk v=some b->c1.mine b->c2.mine b) (h:ObAt c1 G w β v o):ObAt c2 G w β v o:=by
 cases o with
 | box xs =>
  obtain⟨b,e,cur,q1,q2,q3,q4,q5,q6⟩:=h;exact⟨b,e,cur,q1,q2,q3,hm b (by rw[q1]; rfl) q4,q5,q6⟩
 | row e sz rows =>
  obtain⟨h1,h2,h3⟩:=h;refine⟨h1,h2,h3.imp id ?_⟩
  rintro⟨b,cap,cur,k1,k2,k3,k4,k5,k6,k7⟩
  exact⟨b,cap,cur,k1,k2,k3,k4,k5,hm b (by rw[k1]; rfl) k6,k7⟩
 | arow e sz rows=>exact h.moveA (fun _ _ _ h=>h) (fun _ _ _ _ h=>h) hm (fun _ _ _ _ h=>h)
 | any τ xs =>
  obtain⟨b,o,vs,q1,q2,q3,q4,q5,q6⟩:=h;exact⟨b,o,vs,q1,q2,q3,hm b q1 q4,q5,q6⟩
variable {ρ:List (Nat×Nat)}{β':Nat->Value}
theorem ObAt.ren {c1 c2:Cx} (hb:∀ k j,look k ρ=some j->β' j=β k) (hm:∀ b,blk v=some b->c1.mine b->c2.mine b)
  (h:ObAt c1 G w β v o):ObAt c2 G w β' v (o.ren ρ):=by
 cases o with
 | box xs =>
  obtain⟨b,e,cur,q1,q2,q3,q4,q5,q6⟩:=h;exact⟨b,e,cur,q1,q2,q3,hm b (by rw[q1]; rfl) q4,q5.ren hb,q6⟩
 | row e sz rows =>
  obtain⟨h1,h2,h3⟩:=h;refine⟨h1,h2,h3.imp id ?_⟩
  rintro⟨b,cap,cur,k1,k2,k3,k4,k5,k6,k7⟩
  exact⟨b,cap,cur,k1,k2,k3,k4,k5,hm b (by rw[k1]; rfl) k6,k7⟩
 | arow e sz rows =>
  obtain⟨h1,h2,h3⟩:=h;refine⟨fun r hr=>by obtain⟨r',hr',rfl⟩:=List.mem_map.1 hr; rw[zOi,length_map]; exact h1 r' hr',h2,h3.imp (fun h=>⟨h.1,by rw[h.2]; rfl⟩) ?_⟩
  rintro⟨b,cap,cur,k1,k2,k3,k4,k5,k6,k7⟩
  refine⟨b,cap,cur,by rw[length_map]; exact k1,by rw[length_map]; exact k2,k3,k4,k5,hm b (by rw[k1]; rfl) k6,fun i x hi=>?_⟩
  rw[zHg,List.getElem?_map]at hi;obtain⟨y,hy,rfl⟩:=Option.map_eq_some_iff.1 hi;obtain⟨u,hu,hr,h1⟩:=k7 i y hy;exact⟨u,hu,hr.ren hb,h1⟩
 | any τ xs =>
  obtain⟨b,o,vs,q1,q2,q3,q4,q5,q6⟩:=h;exact⟨b,o,vs,q1,q2,q3,hm b q1 q4,q5.ren hb,q6⟩
mutual
theorem AV.ren_lt {ρ:List (Nat×Nat)}{n:Nat} (h:∀ k j,look k ρ=some j->j<n):∀ {x:AV},(x.ren ρ).lt n=true
 | .s _=>rfl
 | .nl _=>rfl
 | .agg xs=>by simp only[AV.ren,AV.lt]; exact AV.renAll_lt h
 | .tup xs=>by simp only[AV.ren,AV.lt]; exact AV.renAll_lt h
 | .clo _ xs=>by simp only[AV.ren,AV.lt]; exact AV.renAll_lt h
 | .op k o=>by
  simp only[AV.ren]
  split
  ·rename_i j hj; simp only[AV.lt,decide_eq_true_eq]; exact h k j hj
  ·rfl
 | .orow k=>by
  simp only[AV.ren]
  split
  ·rename_i j hj; simp only[AV.lt,decide_eq_true_eq]; exact h k j hj
  ·rfl
 | .rp k _ _ _=>by
  simp only[AV.ren]
  split
  ·rename_i j hj; simp only[AV.lt,decide_eq_true_eq]; exact h k j hj
  ·rfl
 | .mref k=>by
  simp only[AV.ren]
  split
  ·rename_i j hj; simp only[AV.lt,decide_eq_true_eq]; exact h k j hj
  ·rfl
 | .junk=>rfl
theorem AV.renAll_lt {ρ:List (Nat×Nat)}{n:Nat} (h:∀ k j,look k ρ=some j->j<n):∀ {xs:List AV},AV.ltAll n (AV.renAll ρ xs)=true
 | []=>rfl
 | x::xs=>by simp only[AV.renAll,AV.ltAll,Bool.and_eq_true]; exact⟨AV.ren_lt h,AV.renAll_lt h⟩
end
theorem Ob.ren_lt {n:Nat} (h:∀ k j,look k ρ=some j->j<n):(o.ren ρ).lt n=true:=by
 cases o with
 | box xs=>simp only[Ob.ren,Ob.lt]; exact AV.renAll_lt h
 | any xs=>simp only[Ob.ren,Ob.lt]; exact AV.renAll_lt h
 | row=>rfl
 | arow e sz rows =>
  simp only[Ob.ren,Ob.lt]
  exact zNT fun q y hq=>by
   rw[zHg,List.getElem?_map]at hq;obtain⟨z,_,rfl⟩:=Option.map_eq_some_iff.1 hq;exact AV.ren_lt h
theorem Conc.handed (hc:Conc c G β σ a w){ks:List Nat}{os:List Ob}{os':List (Option Ob)} (hd:ks.Nodup) (hks:∀ (i:Nat) k,ks[i]? = some k->∃ ob,σ.hp k=some ob) (hlen:os.length=ks.length)
  {G':Nat->Prop} {β1 β':Nat->Value} {w':World} (hβ:∀ (i:Nat) k,ks[i]? = some k->β1 i=β k) (h1:Fr (zE7 c.P w β1 os.length G 0).X w w') (h2:∀ b,G b->G' b) (h3:∀ b,G' b->G b∨(zE7 c.P w β1 os.length G 0).mine b) (h4:∀ b,G' b->b<w'.heap.size)
  (h5:os.length<=os'.length) (h6:zVZ (zE7 c.P w β1 os.length G 0) G' w' β' os') (h7:∀ (i:Nat) ob,i<os.length->os'[i]? = some (some ob)->β' i=β1 i) :
  ∃ β2,(∀ k j,look k (zEg ks σ.nx 0 os')=some j->β2 j=β' k)/\(∀ k,k<σ.nx->β2 k=β k)/\Conc c G' β2 (handed σ ks os') a w':=by
 have hX:∀ b,(zE7 c.P w β1 os.length G 0).X b->∃ k ob,k∈ks/\σ.hp k=some ob/\blk (β k)=some b:=fun b ⟨i,hi,hb⟩=>by
  have hk:=List.getElem?_eq_getElem (l:=ks) (by rw[← hlen]; exact hi)
  obtain⟨ob,ho⟩:=hks i _ hk;exact⟨ks[i]'(by rw[← hlen]; exact hi),ob,getElem_mem _,ho,by rw[← hβ i _ hk]; exact hb⟩
 have hXG:∀ b,G b->¬ (zE7 c.P w β1 os.length G 0).X b:=fun b hg hx=>by
  obtain⟨k,ob,_,ho,hb⟩:=hX b hx;exact(row_block (hc.hp k ob ho) b hb).1 hg
 have hmine:∀ b,(zE7 c.P w β1 os.length G 0).mine b->c.mine b:=fun b hm=>by
  rcases hm with hm | hm
  ·obtain⟨k,ob,_,ho,hb⟩:=hX b hm;exact(row_block (hc.hp k ob ho) b hb).2
  ·exact .inr (Nat.le_trans hc.fr.size hm)
 have hksl:∀ (i:Nat) k,ks[i]? = some k->k<σ.nx:=fun i k hk=>by
  obtain⟨ob,ho⟩:=hks i k hk;exact(hc.hplt k ob ho).1
 have keep:Keep G G' w w':=⟨h2,fun b hb=>h1.old b (hc.lt b hb) (hXG b hb)⟩
 refine⟨fun k=>if k<σ.nx then β k else β' (ks.length+(k - σ.nx)),fun k j hkj=>?_,fun k hk=>if_pos hk,?_⟩
 ·obtain⟨_,⟨ob,hob⟩,rfl⟩:=zFe hkj;rw[Nat.sub_zero]at hob;dsimp only
  by_cases hi:k<ks.length
  ·have hb:=zET (ks:=ks) (nx:=σ.nx) hi;rw[if_pos (hksl k _ hb),h7 k ob (by rw[hlen]; exact hi) hob,hβ k _ hb]
  ·rw[zFo (by omega),if_neg (by omega)]
   congr 1; omega
 ·have hβ2:∀ k,k<σ.nx->(fun k=>if k<σ.nx then β k else β' (ks.length+(k - σ.nx))) k=β k:=fun k hk=>if_pos hk
  have hbk:∀ j,j<os'.length->zES ks σ.nx j<σ.nx+(os'.length - ks.length):=fun j hj=>by
   by_cases hi:j<ks.length
   ·have:=hksl j _ (zET (ks:=ks) (nx:=σ.nx) hi); omega
   ·rw[zFo (by omega)]; omega
  have hal:∀ j ob0,os'[j]? = some (some ob0)->(if zES ks σ.nx j<σ.nx then β (zES ks σ.nx j) else β' (ks.length+(zES ks σ.nx j - σ.nx)))=β' j:=fun j ob0 hj=>by
   by_cases hi:j<ks.length
   ·have hb:=zET (ks:=ks) (nx:=σ.nx) hi;rw[if_pos (hksl j _ hb),h7 j ob0 (by rw[hlen]; exact hi) hj,hβ j _ hb]
   ·rw[zFo (by omega),if_neg (by omega)]
    congr 1; omega
  have hinj:∀ i j,i<os'.length->j<os'.length->zES ks σ.nx i=zES ks σ.nx j->i=j:=fun i j hi hj e=>by
   by_cases h8:i<ks.length <;> by_cases h9:j<ks.length
   ·have q1:=zET (ks:=ks) (nx:=σ.nx) h8;have q2:=zET (ks:=ks) (nx:=σ.nx) h9;rw[← e,← q1]at q2;exact(List.getElem?_inj h8 hd).1 q2.symm
   ·have q1:=hksl i _ (zET (ks:=ks) (nx:=σ.nx) h8)
    rw[e,zFo (by omega)]at q1; omega
   ·have q1:=hksl j _ (zET (ks:=ks) (nx:=σ.nx) h9)
    rw[← e,zFo (by omega)]at q1; omega
   ·rw[zFo (by omega),zFo (by omega)]at e; omega
  have hold:∀ k ob,σ.hp k=some ob->(∀ j,j<os'.length->k ≠ zES ks σ.nx (0+j))->k ∉ ks:=fun k ob _ hn hm=>by
   obtain⟨i,hi,rfl⟩:=getElem_of_mem hm;have hil:i<os'.length :=(by omega);have:=zET (ks:=ks) (nx:=σ.nx) hi;rw[List.getElem?_eq_getElem hi]at this;refine hn i hil ?_;rw[Nat.zero_add]
   exact(Option.some.inj this)
  have hoth:∀ k ob,σ.hp k=some ob->k ∉ ks->∀ b,blk (β k)=some b->w'.heap[b]? = w.heap[b]?/\¬ G' b/\¬ (zE7 c.P w β1 os.length G 0).mine b:=fun k ob hk hn b hb=>by
   have hx:¬ (zE7 c.P w β1 os.length G 0).X b:=fun hx=>by
    obtain⟨k2,ob2,q1,q2,q3⟩:=hX b hx;exact hc.inj k k2 ob ob2 hk q2 (fun e=>hn (e ▸ q1)) b hb q3
   have hlt:=hc.blk_lt hk hb;have hm:¬ (zE7 c.P w β1 os.length G 0).mine b:=fun hm=>hm.elim hx (fun h=>by simp only[zE7]at h; omega)
   exact⟨h1.old b hlt hx,fun hg=>(h3 b hg).elim (row_block (hc.hp k ob hk) b hb).1 hm,hm⟩
  refine { defers:=hc.defers,size:=hc.size,env:=fun t=>((hc.env t).keep keep).beta hβ2 (hc.envlt t),envlt:=fun t=>AV.lt_mono (Nat.le_add_right _ _) (hc.envlt t),hp:=fun k ob hk=>?_,hplt:=fun k ob hk=>?_,inj:=fun k k2 ob ob2 hk hk2 hne b hb hb2=>?_,lt:=h4,sub:=fun b hb=>h2 b (hc.sub b hb),new:=fun b hb=>(h3 b hb).elim (hc.new b) (fun h=>.inr (hmine b h)),fr:=?_,stay:=⟨Nat.le_trans hc.stay.1 (Nat.le_add_right _ _),fun k hk=>by rw[if_pos (Nat.lt_of_lt_of_le hk hc.stay.1)]; exact hc.stay.2 k hk⟩,glob:=hc.glob.keep keep }
  ·rcases zHq hk with ⟨j,ob0,q1,q2,rfl⟩ | ⟨q1,q2⟩
   ·rw[Nat.zero_add]at q2;subst q2;rw[hal j ob0 q1]
    refine ObAt.ren (fun i k hik=>?_) (fun b _ hm=>hmine b hm) (h6.1 j ob0 q1).1;obtain⟨_,⟨ob,hob⟩,rfl⟩:=zFe hik;exact hal i ob (by simpa using hob)
   ·have hn:=hold k ob q1 q2;have hkl:=(hc.hplt k ob q1)
    rw[if_pos hkl.1]
    have ho:=hc.hp k ob q1;cases ob with
    | box cells =>
     obtain⟨b',e',cur,r1,r2,r3,r4,r5,r6⟩:=ho;obtain⟨s1,s2,_⟩:=hoth k _ q1 hn b' (by rw[r1]; rfl)
     exact⟨b',e',cur,r1,by rw[s1]; exact r2,s2,r4,(r5.keep keep).beta hβ2 (by simpa [Ob.lt] using hkl.2),r6⟩
    | row e' sz rows =>
     obtain⟨r0,r0',r1⟩:=ho;refine⟨r0,r0',r1.imp id ?_⟩
     rintro⟨b',cap,cur,r1,r2,r3,r4,r5,r6,r7⟩
     obtain⟨s1,s2,_⟩:=hoth k _ q1 hn b' (by rw[r1]; rfl)
     exact⟨b',cap,cur,r1,r2,r3,r4.to (fun x hx=>by rw[s1]; exact hx),s2,r6,fun i s hi=>let ⟨u,hu,hr⟩:=r7 i s hi; ⟨u,hu,hr.keep keep⟩⟩
    | arow e' sz rows=>exact ho.moveA (fun b _ hb hx=>by rw[(hoth k _ q1 hn b hb).1]; exact hx) (fun b _ hb _ _=>(hoth k _ q1 hn b hb).2.1) (fun _ _ h=>h) (fun i x u hx hr=>(hr.keep keep).beta hβ2 (zI6 (by simpa [Ob.lt] using hkl.2) hx))
    | any τ xs =>
     obtain⟨b',o',vs,r1,r2,r3,r4,r5,r6⟩:=ho;obtain⟨s1,s2,_⟩:=hoth k _ q1 hn b' r1;exact⟨b',o',vs,r1,by rw[s1]; exact r2,s2,r4,(r5.keep keep).beta hβ2 (by simpa [Ob.lt] using hkl.2),r6⟩
  ·rcases zHq hk with ⟨j,ob0,q1,q2,rfl⟩ | ⟨q1,q2⟩
   ·rw[Nat.zero_add]at q2;subst q2;have hj:j<os'.length:=(List.getElem?_eq_some_iff.1 q1).1;exact⟨hbk j hj,Ob.ren_lt fun i k hik=>by obtain⟨_,⟨ob,hi⟩,rfl⟩:=zFe hik; exact hbk i (by simpa using (List.getElem?_eq_some_iff.1 hi).1)⟩
   ·obtain⟨r1,r2⟩:=hc.hplt k ob q1;refine⟨Nat.lt_of_lt_of_le r1 (Nat.le_add_right _ _),?_⟩
    cases ob with
    | box cells=>exact AV.ltAll_mono (Nat.le_add_right _ _) (by simpa [Ob.lt] using r2)
    | row=>rfl
    | arow=>exact AV.ltAll_mono (Nat.le_add_right _ _) (by simpa [Ob.lt] using r2)
    | any=>exact AV.ltAll_mono (Nat.le_add_right _ _) (by simpa [Ob.lt] using r2)
  ·rcases zHq hk with ⟨j,ob0,q1,q2,rfl⟩ | ⟨q1,q2⟩ <;> rcases zHq hk2 with ⟨j2,ob02,q12,q22,rfl⟩ | ⟨q12,q22⟩
   ·rw[Nat.zero_add]at q2 q22;subst q2; subst q22
    rw[hal j ob0 q1]at hb;rw[hal j2 ob02 q12]at hb2;exact h6.2 j j2 ob0 ob02 q1 q12 (fun e=>hne (by rw[e])) b hb hb2
   ·rw[Nat.zero_add]at q2;subst q2;rw[hal j ob0 q1]at hb;rw[if_pos (hc.hplt k2 ob2 q12).1]at hb2;exact(hoth k2 ob2 q12 (hold k2 ob2 q12 q22) b hb2).2.2 (row_block (h6.1 j ob0 q1).1 b hb).2
   ·rw[Nat.zero_add]at q22;subst q22;rw[hal j2 ob02 q12]at hb2;rw[if_pos (hc.hplt k ob q1).1]at hb;exact(hoth k ob q1 (hold k ob q1 q2) b hb).2.2 (row_block (h6.1 j2 ob02 q12).1 b hb2).2
   ·rw[if_pos (hc.hplt k ob q1).1]at hb;rw[if_pos (hc.hplt k2 ob2 q12).1]at hb2;exact hc.inj k k2 ob ob2 q1 q12 hne b hb hb2
  ·refine⟨h1.os.trans hc.fr.os,h1.tape.trans hc.fr.tape,h1.output.trans hc.fr.output,Nat.le_trans hc.fr.size h1.size,fun b hb hx=>(h1.old b (Nat.lt_of_lt_of_le hb hc.fr.size) (fun hm=>?_)).trans (hc.fr.old b hb hx)⟩
   rcases hmine b (.inl hm) with h | h
   ·exact hx h
   ·omega
theorem Conc.heaped (hc:Conc c G β σ a w){G':Nat->Prop}{hp':Nat->Option Ob}{n':Nat}{w':World} (h0:σ.nx<=n') (h1:Fr (zFA c.P w β σ.hp σ.nx G 0).X w w') (h2:∀ b,G b->G' b)
  (h3:∀ b,G' b->G b∨(zFA c.P w β σ.hp σ.nx G 0).mine b) (h4:∀ b,G' b->b<w'.heap.size) (h5:HpAt (zFA c.P w β σ.hp σ.nx G 0) G' w' β' hp' n') (h6:∀ k,k<σ.nx->β' k=β k):Conc c G' β' ⟨σ.env,hp',n'⟩ a w':=by
 have hm:∀ b,(zFA c.P w β σ.hp σ.nx G 0).mine b->c.mine b:=fun b hm=>by
  rcases hm with ⟨k,ob,q1,q2⟩ | hm
  ·exact(row_block (hc.hp k ob q1) b q2).2
  ·exact .inr (Nat.le_trans hc.fr.size hm)
 have k:Keep G G' w w':=⟨h2,fun b hb=>h1.old b (hc.lt b hb) (fun⟨k,ob,q1,q2⟩=>(row_block (hc.hp k ob q1) b q2).1 hb)⟩
 refine { defers:=hc.defers,size:=hc.size,env:=fun t=>((hc.env t).keep k).beta h6 (hc.envlt t),envlt:=fun t=>AV.lt_mono h0 (hc.envlt t),hp:=fun k ob hk=>(h5.obs k ob hk).mv fun b _ hb=>hm b hb,hplt:=h5.lts,inj:=h5.inj,lt:=h4,sub:=fun b hb=>h2 b (hc.sub b hb),new:=fun b hb=>(h3 b hb).elim (hc.new b) (fun h=>.inr (hm b h)),fr:=?_,stay:=⟨Nat.le_trans hc.stay.1 h0,fun k hk=>(h6 k (Nat.lt_of_lt_of_le hk hc.stay.1)).trans (hc.stay.2 k hk)⟩,glob:=hc.glob.keep k }
 refine⟨h1.os.trans hc.fr.os,h1.tape.trans hc.fr.tape,h1.output.trans hc.fr.output,Nat.le_trans hc.fr.size h1.size,fun b hb hx=>(h1.old b (Nat.lt_of_lt_of_le hb hc.fr.size) (fun hx'=>?_)).trans (hc.fr.old b hb hx)⟩
 rcases hm b (.inl hx') with h | h
 ·exact hx h
 ·omega
theorem Conc.hpAt (hc:Conc c G β σ a w):HpAt (zFA c.P w β σ.hp σ.nx G 0) G w β σ.hp σ.nx :=
 ⟨fun k ob hk=>(hc.hp k ob hk).mv fun b hb _=>.inl ⟨k,ob,hk,hb⟩,hc.hplt,hc.inj⟩
theorem zRn {T:Nat->Option TI}{σ:St} (h:∀ t,(σ.env t).lt σ.nx=true):∀ (xs:List Operand) (ts:List Nat),AV.ltAll σ.nx (opds T σ.env xs ts)=true
 | [],_=>rfl
 | x::xs,ts=>by
  simp only[opds,AV.ltAll,Bool.and_eq_true]
  exact⟨AV.deep_lt (zMv h T _ x),zRn h xs ts.tail⟩
theorem zIF {n:Nat}:∀ {xs ys:List AV},AV.ltAll n xs=true->AV.ltAll n ys=true->AV.ltAll n (xs++ys)=true
 | [],_,_,h=>h
 | x::xs,ys,h1,h2=>by
  simp only[cons_append,AV.ltAll,Bool.and_eq_true]at h1 ⊢;exact⟨h1.1,zIF h1.2 h2⟩
theorem AVals.setrow {k j:Nat} (hv:β j=v) (ho:∃ o n c,v = .slice o n c):∀ {xs:List AV}{vs:List Value},AVals G w β xs vs->vs[k]? = some v->AVals G w β (xs.set k (.orow j)) vs:=fun {xs vs} h hk =>
 AVals.mk (by rw[length_set]; exact h.length) fun i x u hx hu=>by
  rw[List.getElem?_set]at hx;split at hx
  ·rename_i e
   subst e;split at hx
   ·cases hx;rw[hk]at hu; cases hu
    simp only[AVal]
    exact⟨hv.symm,ho⟩
   ·cases hx
  ·obtain⟨u',h1,h2⟩:=h.get hx;rw[hu]at h1; cases h1; exact h2
variable {T:Nat->Option TI}
theorem zS9  (hc:Conc c G β σ a w){nil:Option Nat}{o:Oper}{xs xs1:List AV}{σ1:St}{vs:List Value} (hargs:AVals G w β xs vs) (hlt:AV.ltAll σ.nx xs=true)
  (hvs:∀ cal args ts (k:Nat) x,o.op = .call { callee:=cal,args:=args,argTypes:=ts }->args.toList[k]? = some x->zA7 x=true->vs[k]? = some (a.eval x)) (h:zFO T nil o xs σ=(xs1,σ1)) :
  ∃ β1,Conc c G β1 σ1 a w/\AVals G w β1 xs1 vs:=by
 unfold zFO at h;split at h
 ·cases h; exact⟨β,hc,hargs⟩
 ·rename_i k
  split at h
  ·rename_i cal args ts ho
   split at h
   ·rename_i x e j hx he
    split at h
    ·rename_i hn hs
     cases h;have hv:=hvs _ _ _ k x ho hx hn;have hy:a.eval x = .slice none 0 0:=by
      unfold zA7 at hn;split at hn
      ·rfl
      ·cases hn
     rw[hy]at hv;obtain⟨β',b1,b2,b3⟩:=hc.make (ob:=.row e j.size []) (v:=.slice none 0 0) ⟨fun r hr=>(by cases hr),Nat.le_of_ble_eq_true hs,.inl ⟨rfl,rfl⟩⟩ rfl (fun _ _ _ b hb=>by cases hb)
     exact⟨β',b3,AVals.setrow b2 ⟨_,_,_,rfl⟩ (hargs.beta b1 hlt) hv⟩
    ·cases h; exact⟨β,hc,hargs⟩
   ·cases h; exact⟨β,hc,hargs⟩
  ·cases h; exact⟨β,hc,hargs⟩
theorem gC {P:Prop} (h:P:=by obtain⟨k,o,q1,q2,rfl⟩:=hk i ob hi;obtain⟨k',o',q1',q2',rfl⟩:=hk j ob' hj;rw[hget i k q1]at hb1;rw[hget j k' q1']at hb2;refine hc.inj k k' o o' q2 q2' (fun e=>hne ?_) b hb1 hb2;subst e;exact(List.getElem?_inj (List.getElem?_eq_some_iff.1 q1).1 hnod).1 (q1.trans q1'.symm)):P:=h
theorem gK {P:Prop} (h:P:=by simp[execOp,ho,resolve,hfe,Deferred.ofValue,invoke,hcall]):P:=h
theorem zNC {Γ:Nat->Option zAr} (hT:TOk c.P T) (hΓ:∀ f s,Γ f=some s->PSound c.P f s) (hc:Conc c G β σ a w){o:Oper}{own:Bool}{K0:AV->St->Prop} (h:zGp T Γ own o σ K0){K:Act->World->Prop}{Q:Exit->Act->World->Prop}
  (hK:∀ x σ' G' β' w' v,K0 x σ'->Conc c G' β' σ' a w'->AVal G' w' β' x v->x.lt σ'.nx=true->K (a.put o.dst v) w'):o.wp c.P a w K Q:=by
 have hρ:∀ ty x,AVal G w β (opd T σ.env ty x) (a.eval x):=zE5 hc T
 unfold zGp at h;split at h
 ·unfold zHd at h;split at h
  ·rename_i t y ho
   split at h
   ·rename_i k sz i off e
    split at h
    ·rename_i e' sz' rows hh
     split at h
     ·rename_i hsz
      obtain rfl:=Nat.eq_of_beq_eq_true hsz;obtain⟨hi,row,hrow,h⟩:=h;split at h
      ·rename_i x hl
       rw[← hrow]at hl;exact yA4 hT hc ho e hh hi hl fun v h1 h2=>hK x σ G β w v h hc h1 h2
      ·exact h.elim
     ·exact h.elim
    ·rename_i e' sz' rows hh
     split at h
     ·rename_i hsz
      obtain rfl:=Nat.eq_of_beq_eq_true hsz;obtain⟨hi,row,hrow,h⟩:=h;split at h
      ·rename_i x hl
       rw[← hrow]at hl;exact zZs hT hc ho e hh hi hl fun v h1 h2=>hK x σ G β w v h hc h1 h2
      ·exact h.elim
     ·exact h.elim
    ·exact h.elim
   ·exact h.elim
  ·exact h.elim
 ·rename_i g xs hraw
  unfold zBm at hraw;split at hraw
  ·rename_i f args ts ho
   have hpre:∃ vs:List Value,AVals G w β xs vs/\AV.ltAll σ.nx xs=true/\(∀ cal args ts (k:Nat) x,o.op = .call { callee:=cal,args:=args,argTypes:=ts }->args.toList[k]? = some x->zA7 x=true->vs[k]? = some (a.eval x))/\∀ (hcall:∀ args w,(callFunc g args).run c.P w = .ok (.enter g args) w),(execOp a.eval o).run c.P w = .ok (.enter g vs.toArray) w:=by
    have hargs:=zRo hρ args.toList ts.toList;split at hraw
    ·rename_i g' e
     cases hraw;have hfe:=hρ 0 f;rw[e]at hfe;simp only[AVal,Rep]at hfe;refine⟨_,hargs,zRn hc.envlt _ _,fun cal args' ts' k x ho' hx _=>by rw[ho]at ho'; cases ho'; rw[List.getElem?_map,hx]; rfl,fun hcall=>?_⟩
     have e:(args.toList.map a.eval).toArray=args.map a.eval:=Array.ext' (by simp)
     rw[e]
     exact gK
    ·rename_i g' caps e
     have hfe:=hρ 0 f;rw[e]at hfe;simp only[AVal]at hfe;obtain⟨cs,hfe,hcs⟩:=hfe;have hcl:(opd T σ.env 0 f).lt σ.nx=true:=zMv hc.envlt T 0 f;rw[e]at hcl;simp only[AV.lt]at hcl;split at hraw
     ·rename_i hb
      cases hraw;rw[zSA hb]at hfe;refine⟨args.toList.map a.eval++cs,hargs.append hcs,zIF (zRn hc.envlt _ _) hcl,fun cal args' ts' k x ho' hx _=>by
       rw[ho]at ho'; cases ho'
       have hk:k<(args.toList.map a.eval).length :=(by rw[length_map]; exact(List.getElem?_eq_some_iff.1 hx).1);rw[List.getElem?_append_left hk,List.getElem?_map,hx]; rfl,fun hcall=>?_⟩
      have e:(args.toList.map a.eval++cs).toArray=args.map a.eval++cs.toArray:=Array.ext' (by simp)
      rw[e]
      exact gK
     ·rename_i hb
      split at hraw
      ·rename_i hnn
       have hj:=Prod.mk.inj (Option.some.inj hraw)
       have hj1:=hj.1;have hj2:=hj.2;subst hj1;subst hj2;rw[yAj hb]at hfe;refine⟨cs++args.toList.map a.eval,hcs.append hargs,zIF hcl (zRn hc.envlt _ _),fun cal args' ts' k x ho' hx hn=>by
        rw[ho]at ho'; cases ho'
        have:=List.all_eq_true.1 hnn x (mem_of_getElem? hx)
        rw[hn]at this;exact absurd this (by decide),fun hcall=>?_⟩
       have e:(cs++args.toList.map a.eval).toArray=cs.toArray++args.map a.eval:=Array.ext' (by simp)
       rw[e]
       exact gK
      ·cases hraw
    ·cases hraw
   obtain⟨vs,hargs,hxl,hvs,hex⟩:=hpre
   ·clear hraw
    split at h
    ·exact h.elim
    ·rename_i s hs
     obtain⟨hcall,zNO,hown,hheap⟩:=hΓ g s hs;have hexec:=hex hcall;unfold Oper.wp;rw[hexec]
     simp only[Oper.upon_enter]
     split at h
     ·rename_i R hR
      obtain⟨Φ,hΦ,h⟩:=h;refine(hheap R hR G w β xs vs σ.hp σ.nx Φ hc.lt hc.glob hargs hxl hc.hpAt hΦ).mono fun e w' he=>?_
      obtain⟨v,G',β',x,hp',n',rfl,q1,q2,q3,q4,q5,q6,q7,q8,q9,q10⟩:=he;exact hK x _ G' β' w' v (h x hp' n' q1) (hc.heaped q2 q3 q4 q5 q6 q9 q10) q7 q8
     split at h
     ·split at h
      ·exact h.elim
      ·rename_i hp
       obtain⟨r,hr,h⟩:=h;have hl:=AVals.lend hc (ks:=AV.keysAll xs) (fun _ h=>h) hargs;refine(zNO (zUt G β σ (AV.keysAll xs)) w _ _ r (hc.giveAll (AV.keysAll xs)).lt (hc.giveAll (AV.keysAll xs)).glob hp (AVals.pers hp hl) hr).mono fun e w' he=>?_
       obtain⟨v,G',rfl,h1,h2⟩:=he;cases hfl:r.flat with
       | true =>
        rw[hfl]at h;dsimp only at h;split at h
        ·exact h.elim
        ·rename_i x σ' hx
         have hext:Ext G G w w':=⟨h1.os,h1.tape,h1.output,h1.size,h1.old,fun _ h=>h,fun _ h=>.inl h,fun b hb=>Nat.lt_of_lt_of_le (hc.lt b hb) h1.size⟩
         exact zJ3 hc hext (RetAt.flat (G1:=G) (fun b hb=>h1.sub b (.inl hb)) hfl h2) hx fun G' β' w'' v' e1 e2 h3 h4 h5=>by subst e1; subst e2; exact hK x σ' G' β' _ _ h h3 h4 h5
       | false =>
        rw[hfl]at h;dsimp only at h;split at h
        ·exact h.elim
        ·rename_i x σ' hx
         exact zJ3 (hc.giveAll (AV.keysAll xs)) h1 h2 hx fun G' β' w'' v' e1 e2 h3 h4 h5=>by subst e1; subst e2; exact hK x σ' G' β' _ _ h h3 h4 h5
     ·rename_i R hR
      cases hna:zFO T s.nil o xs σ with
      | mk xs1 σ1 =>
      rw[hna]at h;dsimp only at h;obtain⟨β1,hc1,hargs1⟩:=zS9 hc hargs hxl hvs hna
      clear hna hargs hxl hc hρ
      revert hc1 hargs1 h
      generalize σ1=σ;generalize β1=β;generalize xs1=xs;intro h hc hargs;generalize zAp σ.hp 64 (AV.keysAll xs) []=ks at h;split at h
      ·rename_i os hd hos
       obtain⟨x,os',hR',h⟩:=h;obtain⟨l1,l2⟩:=zN0 hos;have hb:∀ k j,look k (zipI 0 ks)=some j->(fun i=>β (ks.getD i 0)) j=β k:=fun k j hkj=>by
        obtain⟨_,h2⟩:=zID hkj;simp only[Nat.sub_zero]at h2;simp[h2]
       have hlt:∀ k j,look k (zipI 0 ks)=some j->j<os.length:=fun k j hkj=>by
        obtain⟨_,h2⟩:=zID hkj;rw[l1]; simpa using (List.getElem?_eq_some_iff.1 h2).1
       have hget:∀ (i:Nat) k,ks[i]? = some k->(fun i=>β (ks.getD i 0)) i=β k:=fun i k hk=>by simp[hk]
       have hnod:=zHa hd;have hobs:zVZ (zE7 c.P w (fun i=>β (ks.getD i 0)) os.length G 0) G w (fun i=>β (ks.getD i 0)) (os.map some):=by
        have hk:∀ (i:Nat) ob,(os.map some)[i]? = some (some ob)->∃ k o,ks[i]? = some k/\σ.hp k=some o/\ob=o.ren (zipI 0 ks):=fun i ob hi=>by
         rw[List.getElem?_map]at hi;obtain⟨ob',hi',e⟩:=Option.map_eq_some_iff.1 hi;cases e;have hil:i<ks.length :=(by rw[← l1]; exact(List.getElem?_eq_some_iff.1 hi').1);obtain⟨o,q1,q2⟩:=l2 i _ (List.getElem?_eq_getElem hil)
         rw[hi']at q2; cases q2
         exact⟨_,o,List.getElem?_eq_getElem hil,q1,rfl⟩
        refine⟨fun i ob hi=>?_,fun i j ob ob' hi hj hne b hb1 hb2=>?_⟩
        ·obtain⟨k,o,q1,q2,rfl⟩:=hk i ob hi;rw[hget i k q1]
         refine⟨ObAt.ren hb (fun b hb' _=>.inl ⟨i,by rw[l1]; exact(List.getElem?_eq_some_iff.1 q1).1,by have:=hget i k q1; dsimp only at this ⊢; rw[this]; exact hb'⟩) (hc.hp k o q2),?_⟩
         rw[length_map]
         exact Ob.ren_lt hlt
        ·exact gC
       refine(hown R hR G w _ _ _ os x os' hc.lt hc.glob (AVals.ren hb hargs) (AV.renAll_lt hlt) hobs hR').mono fun e w' he=>?_
       obtain⟨v,G',β',rfl,h1,h2,h3,h4,h5,h6,h7,h8,h9⟩:=he;obtain⟨β2,r1,r2,r3⟩:=hc.handed hnod (fun i k hk=>(l2 i k hk).imp fun o h=>h.1) l1 hget h1 h2 h3 h4 h7 h8 h9;exact hK _ _ G' β2 w' v h r3 (AVal.ren r1 h5) (AV.ren_lt fun i k hik=>by
        obtain⟨_,⟨ob,hob⟩,rfl⟩:=zFe hik;rw[Nat.sub_zero]at hob;have hj:i<os'.length:=(List.getElem?_eq_some_iff.1 hob).1;show zES ks σ.nx i<σ.nx+(os'.length - ks.length)
        by_cases hi:i<ks.length
        ·have hb':=zET (ks:=ks) (nx:=σ.nx) hi;obtain⟨o,q1,_⟩:=l2 i _ hb';have:=(hc.hplt _ o q1).1; omega
        ·rw[zFo (by omega)]; omega)
      ·exact h.elim
  ·cases hraw
end
open Go.ChangeMaps (setBlock)
def zMJ (s:List UInt8):List (List UInt8)->Nat->Option Nat
 | [],_=>none
 | k::ks,i=>if s=k then some i else zMJ s ks (i+1)
theorem zVo {s:List UInt8}:∀ {ks:List (List UInt8)}{i j:Nat},zMJ s ks i=some j->i<=j/\j<i+ks.length
 | [],_,_,h=>by cases h
 | k::ks,i,j,h=>by
  simp only[zMJ]at h;split at h
  ·cases h; simp
  ·have:=zVo h;simp only[length_cons]; omega
theorem beqB {s k:List UInt8}:((⟨s.toArray⟩:ByteArray) == ⟨k.toArray⟩)=decide (s=k):=by
 show(s.toArray == k.toArray)=decide (s=k)
 by_cases h:s=k
 ·subst h; simp
 ·rw[decide_eq_false h]
  simp only[beq_eq_false_iff_ne,ne_eq]
  intro e;exact h (by simpa using congrArg Array.toList e)
theorem zMm {s:List UInt8}:∀ (ks:List (List UInt8)) (vs:List Value) (n i:Nat),ks.length=vs.length ->
  Instr.findNow .string (.string ⟨s.toArray⟩) (zCV n ks vs) i=some (match zMJ s ks i with | some j=>(vs[j - i]?).map (fun v=>(j,v)) | none=>none)
 | [],_,_,_,_=>by simp[zCV,Instr.findNow,zMJ]
 | k::ks,[],_,_,h=>by simp at h
 | k::ks,v::vs,n,i,h=>by
  simp only[zCV,Instr.findNow,Instr.sameNow,zMJ,beqB]
  by_cases e:s=k
  ·simp[e]
  ·simp only[decide_eq_false e,if_neg e]
   rw[zMm ks vs (n+1) (i+1) (by simpa using h)]
   cases hj:zMJ s ks (i+1) with
   | none=>rfl
   | some j =>
    have:=zVo hj;simp only[Option.some.injEq]
    rw[show j - i=(j - (i+1))+1 by omega,List.getElem?_cons_succ]
theorem zSK {k:List UInt8}{v:Value}:∀ (ks:List (List UInt8)) (vs:List Value) (n:Nat),ks.length=vs.length->zCV n (ks++[k]) (vs++[v])=zCV n ks vs++[{ key:=.string ⟨k.toArray⟩,val:=v,born:=n+ks.length }]
 | [],[],n,_=>by simp[zCV]
 | k'::ks,v'::vs,n,h=>by
  simp only[cons_append,zCV,length_cons]
  rw[zSK ks vs (n+1) (by simpa using h),show n+1+ks.length=n+(ks.length+1) by omega]
 | [],v::vs,_,h=>by simp at h
 | k::ks,[],_,h=>by simp at h
theorem zMT {e:MapEntry}:∀ {ks:List (List UInt8)}{vs:List Value}{n:Nat},e∈zCV n ks vs->∃ (i:Nat) (s:List UInt8) (v:Value),ks[i]? = some s/\vs[i]? = some v/\e={ key:=.string ⟨s.toArray⟩,val:=v,born:=n+i }
 | [],_,_,h=>by simp[zCV]at h
 | k::ks,[],_,h=>by simp[zCV]at h
 | k::ks,v::vs,n,h=>by
  simp only[zCV,mem_cons]at h;rcases h with rfl | h
  ·exact⟨0,k,v,rfl,rfl,rfl⟩
  ·obtain⟨i,s,u,h1,h2,rfl⟩:=zMT h;exact⟨i+1,s,u,by simpa using h1,by simpa using h2,by rw[show n+1+i=n+(i+1) by omega]⟩
theorem zQC:∀ {ks:List (List UInt8)}{vs:List Value}{n i:Nat}{s:List UInt8}{v:Value},ks[i]? = some s->vs[i]? = some v->({ key:=.string ⟨s.toArray⟩,val:=v,born:=n+i }:MapEntry)∈zCV n ks vs
 | [],_,_,_,_,_,h,_=>by simp at h
 | k::ks,[],_,_,_,_,_,h=>by simp at h
 | k::ks,v::vs,n,0,s,u,h1,h2=>by
  simp at h1 h2; subst h1; subst h2; simp[zCV]
 | k::ks,v::vs,n,i+1,s,u,h1,h2=>by
  have:=zQC (n:=n+1) (i:=i) (by simpa using h1) (by simpa using h2)
  simp only[zCV,mem_cons]
  right
  rwa [show n+1+i=n+(i+1) by omega]at this
def yAf (T:Nat->Option TI) (e:Nat):Option AV :=
 match T e with
 | some i=>match i.k.agg with
  | true=>some (.agg (i.zero.map zAV))
  | false=>match i.zero with | [z]=>some (zAV z) | _=>none
 | none=>none
def zK0 (ok:Bool) (y:AV) (b:Bool):AV:=match ok with | true=>.tup [y,.s (.bool b)] | false=>y
def mapQ (T:Nat->Option TI) (o:Oper) (σ:St):Option ((AV->St->Prop)->Prop) :=
 match o.op with
 | .makeMap _ none=>some fun K=>K (.mref σ.nx) (zBi σ (.any (.map []) []))
 | .insert t m k x=>match tk T t,opd T σ.env 0 m,opd T σ.env 0 k with
  | .mp kt e,.mref q,.s (.str s)=>match tk T kt,σ.hp q,(opd T σ.env e x).nrm.one with
   | .str,some (.any (.map keys) xs),true=>some fun K=>zMJ s keys 0=none/\K .junk (zEe σ q (.any (.map (keys++[s])) (xs++[(opd T σ.env e x).nrm])))
   | _,_,_=>none
  | _,_,_=>none
 | .lookup t m k ok=>match tk T t,opd T σ.env 0 m,opd T σ.env 0 k with
  | .mp kt e,.mref q,.s (.str s)=>match tk T kt,σ.hp q with
   | .str,some (.any (.map keys) xs)=>some fun K=>∃ r,zMJ s keys 0=r/\match r with
    | some i=>match xs[i]? with | some y=>K (zK0 ok y true) σ | none=>False
    | none=>match yAf T e with | some z=>K (zK0 ok z false) σ | none=>False
   | _,_=>none
  | _,_,_=>none
 | .range t m=>match tk T t,opd T σ.env 0 m with
  | .mp _ _,.mref q=>match σ.hp q with
   | some (.any (.map keys) _)=>some fun K=>K (.op σ.nx 0) (zBi σ (.any (.iter keys.length [] keys.length) [.mref q]))
   | _=>none
  | _,_=>none
 | .next it false=>match opd T σ.env 0 it with
  | .op q 0=>match σ.hp q with
   | some (.any (.iter since seen c) [.mref k])=>match σ.hp k with
    | some (.any (.map keys) xs)=>some fun K=>(keys.length=since/\since<=c) /\
     (∀ (i:Nat) s x,keys[i]? = some s->xs[i]? = some x->i ∉ seen->K (.tup [.s (.bool true),.s (.str s),x]) (zEe σ q (.any (.iter since (seen++[i]) keys.length) [.mref k]))) /\
     ((∀ i,i<keys.length->i∈seen)->K (.tup [.s (.bool false)]) σ)
    | _=>none
   | _=>none
  | _=>none
 | .entry it=>match opd T σ.env 0 it with
  | .op q 0=>match σ.hp q with
   | some (.any (.iter since seen c) [.mref k])=>match σ.hp k,seen.getLast? with
    | some (.any (.map keys) xs),some i=>match Nat.beq c keys.length,keys[i]?,xs[i]? with
     | true,some s,some x=>some fun K=>K (.tup [.s (.str s),x]) σ
     | _,_,_=>none
    | _,_=>none
   | _=>none
  | _=>none
 | _=>none
def zFB (T:Nat->Option TI) (o:Oper) (σ:St):Option (Option Prop×AV×St) :=
 match o.op with
 | .lookup t m k ok=>match tk T t,opd T σ.env 0 m,opd T σ.env 0 k with
  | .mp kt e,.mref q,.s (.str s)=>match tk T kt,σ.hp q with
   | .str,some (.any (.map keys) xs)=>match zMJ s keys 0 with
    | some i=>match xs[i]? with | some y=>some (none,zK0 ok y true,σ) | none=>none
    | none=>match yAf T e with | some z=>some (none,zK0 ok z false,σ) | none=>none
   | _,_=>none
  | _,_,_=>none
 | _=>none
theorem zNS {T:Nat->Option TI}{o:Oper}{σ σ':St}{φ:Option Prop}{x:AV} (h:zFB T o σ=some (φ,x,σ')):φ=none/\σ'=σ/\∃ Φ,mapQ T o σ=some Φ/\∀ K:AV->St->Prop,K x σ'->Φ K:=by
 unfold zFB at h;unfold mapQ;split at h
 ·rename_i ho
  try simp only[ho]
  split at h
  ·rename_i h1 h2 h3
   try simp only[h1,h2,h3]
   split at h
   ·rename_i h4 h5
    try simp only[h4,h5]
    split at h
    ·rename_i i h6
     split at h
     ·rename_i y h7; cases h; exact⟨rfl,rfl,_,rfl,fun K hk=>⟨_,h6,by simp only[h7]; exact hk⟩⟩
     ·cases h
    ·rename_i h6
     split at h
     ·rename_i y h7; cases h; exact⟨rfl,rfl,_,rfl,fun K hk=>⟨_,h6,by simp only[h7]; exact hk⟩⟩
     ·cases h
   ·cases h
  ·cases h
 ·cases h
section
variable {c:Cx} {T:Nat->Option TI} {G:Nat->Prop} {β:Nat->Value} {σ:St} {a:Act} {w:World}
theorem Conc.freshO (h:Conc c G β σ a w) (o:Obj){ob:Ob}{v:Value} (hb:blk v=some w.heap.size)
  (ho:ObAt c G (w.alloc o) β v ob) (hl:ob.lt σ.nx=true):∃ β',(∀ k,k<σ.nx->β' k=β k)/\β' σ.nx=v/\Conc c G β' (zBi σ ob) a (w.alloc o):=by
 have h1:=h.ext (Ext.own h.lt o)
 obtain⟨β',b1,b2,b3⟩:=h1.make ho hl (fun k ob' hk b hv e'=>by
  have:=h.blk_lt hk e';rw[hb]at hv; cases hv
  omega)
 exact⟨β',b1,b2,b3⟩
theorem zLl (hT:TOk c.P T){t k e:Nat} (h:tk T t = .mp k e):c.P.underlying t=some (.map k e):=by
 obtain⟨d,hd,e1⟩:=zDl hT h (by simp)
 cases d <;> simp only[tkOf,reduceCtorEq,TK.mp.injEq]at e1
 obtain⟨rfl,rfl⟩:=e1;exact hd
theorem zI1 (hT:TOk c.P T){t:Nat} (h:tk T t = .str):c.P.underlying t=some .string:=by
 obtain⟨d,hd,e1⟩:=zDl hT h (by simp)
 cases d <;> simp only[tkOf,reduceCtorEq]at e1
 exact hd
variable {kt:Nat}{P:Program}
theorem run_findKey  (hk:P.underlying kt=some .string){s:List UInt8}{ks:List (List UInt8)}{vs:List Value} (hl:ks.length=vs.length) (w:World) :
  (Instr.findKey kt (.string ⟨s.toArray⟩) (zCV 0 ks vs)).run P w = .ok (match zMJ s ks 0 with | some j=>(vs[j]?).map (fun v=>(j,v)) | none=>none) w:=by
 have h:=zMm (s:=s) ks vs 0 0 hl;simp only[Nat.sub_zero]at h;simp[Instr.findKey,zAj w hk,h]
variable {s:ByteArray}
theorem zRA  (hk:P.underlying kt=some .string){b:Bool} (n:Nat) (w:World):(Instr.checkKey b (n+1) kt (.string s)).run P w = .ok () w:=by
 simp[Instr.checkKey,zAj w hk]
theorem run_checkKey  (hk:P.underlying kt=some .string){b:Bool} (w:World):(Instr.checkKey b 10000 kt (.string s)).run P w = .ok () w:=zRA hk 9999 w
variable {b cl:Nat}{es:Array MapEntry}{w:World}
theorem zLK  (h:w.heap[b]? = some (.map es cl)):(getObj b).run P w = .ok (.map es cl) w:=by
 simp[getObj,Sem.run,h]
theorem zPz:∀ {ks:List (List UInt8)}{vs:List Value}{n:Nat},((zCV n ks vs).map (·.born)).Nodup
 | [],_,_=>by simp[zCV]
 | k::ks,[],_=>by simp[zCV]
 | k::ks,v::vs,n=>by
  simp only[zCV,map_cons,nodup_cons]
  refine⟨fun h=>?_,zPz⟩
  obtain⟨e,he,hb⟩:=List.mem_map.1 h;obtain⟨i,s,u,r1,r2,rfl⟩:=zMT he;simp only at hb
  omega
theorem zY1 {z:List S} (h:z.all S.zok=true):AVals G w β (z.map zAV) (z.map S.zval) :=
 AVals.mk (by simp) fun i x v hx hv=>by
  rw[List.getElem?_map]at hx hv;obtain⟨y,hy,rfl⟩:=Option.map_eq_some_iff.1 hx;rw[hy]at hv; cases hv
  exact zRK (List.all_eq_true.1 h y (mem_of_getElem? hy))
theorem yAy (s:S) (n:Nat):(zAV s).lt n=true:=by unfold zAV; split <;> rfl
theorem zVO {x:Obj} (h:w.heap[b]? = some x) (o:Obj):(setBlock w b o).heap[b]? = some o:=by
 have:=(Array.getElem?_eq_some_iff.1 h).1;simp[setBlock,this]
theorem zOu {i:Nat} (o:Obj) (h:i ≠ b):(setBlock w b o).heap[i]? = w.heap[i]?:=by
 simp only[setBlock]
 rw[Array.getElem?_setIfInBounds_ne (Ne.symm h)]
theorem zVP  (o:Obj):(setBlock w b o).heap.size=w.heap.size:=by simp[setBlock]
theorem zZV  (h:w.heap[b]? = some (.map es cl)) (o:Obj):(setObj b o).run P w = .ok () (setBlock w b o):=by
 simp[setObj,Sem.run,h,setBlock]
variable {Q:Exit->Act->World->Prop}{K:Act->World->Prop}{o:Oper}
theorem wp_skip {a:Act}{w':World}
  (hr:(execOp a.eval o).run P w = .ok .skip w') (h:K (a.put o.dst undef) w'):o.wp P a w K Q:=by
 unfold Oper.wp; rw[hr]; exact h
theorem zPK (hT:TOk c.P T) (hc:Conc c G β σ a w){Φ:(AV->St->Prop)->Prop} (h:mapQ T o σ=some Φ){K0:AV->St->Prop} (hΦ:Φ K0)
  (hK:∀ x σ' G' β' w' v,K0 x σ'->Conc c G' β' σ' a w'->AVal G' w' β' x v->x.lt σ'.nx=true->K (a.put o.dst v) w'):o.wp c.P a w K Q:=by
 have hρ:∀ ty x,AVal G w β (opd T σ.env ty x) (a.eval x):=zE5 hc T
 have hlt:∀ ty x,(opd T σ.env ty x).lt σ.nx=true:=zMv hc.envlt T
 have hmap:∀ {q:Nat} {keys:List (List UInt8)} {xs:List AV},σ.hp q=some (.any (.map keys) xs)->∃ b vs,β q = .map (some b)/\w.heap[b]? = some (.map (zCV 0 keys vs).toArray keys.length)/\¬ G b/\c.mine b/\AVals G w β xs vs/\keys.length=vs.length/\∀ u∈vs,u.oneCell'=true:=fun {q keys xs} hh=>by
  obtain⟨b,obj,vs,h1,h2,h3,h4,h5,⟨b',h6⟩,rfl,h8,h9⟩:=hc.hp q _ hh;have h6':=h6;rw[h6]at h1;have hbb:b'=b :=(by simpa [blk] using h1);subst hbb;exact⟨b',vs,h6',h2,h3,h4,h5,h8,h9⟩
 unfold mapQ at h;split at h
 ·rename_i t ho
  cases h;obtain⟨β',b1,b2,b3⟩:=hc.freshO (.map #[] 0) (ob:=.any (.map []) []) (v:=.map (some w.heap.size)) rfl ⟨w.heap.size,_,[],rfl,zCc w _,zI9 hc,zI8 hc,by simp only[AVals],⟨_,rfl⟩,rfl,rfl,fun u hu=>by cases hu⟩ rfl;refine zAG (v:=.map (some w.heap.size)) (w':=w.alloc (.map #[] 0)) ?_ (hK _ _ G β' _ _ hΦ b3 ?_ ?_)
  ·simp only[execOp,ho]; rfl
  ·simp only[AVal]; exact⟨b2.symm,rfl⟩
  ·simp[AV.lt,zBi]
 ·rename_i t m k x ho
  split at h
  ·rename_i kt e q s hk hm hs
   split at h
   ·rename_i keys xs hkt hh hone
    cases h;obtain⟨hnew,hΦ⟩:=hΦ;obtain⟨b,vs,g1,g2,g3,g4,g5,g6,g7⟩:=hmap hh;have hmv:=hρ 0 m;rw[hm]at hmv;simp only[AVal]at hmv;have hkv:=hρ 0 k;rw[hs]at hkv;simp only[AVal,Rep]at hkv;have hxv:=(hρ e x).nrm;have hrun:(execOp a.eval o).run c.P w = .ok .skip (setBlock w b (.map ((zCV 0 keys vs).toArray.push { key:=.string ⟨s.toArray⟩,val:=a.eval x,born:=keys.length }) (keys.length+1))):=by
     have hf:=run_findKey (zI1 hT hkt) (s:=s) g6 w;rw[hnew]at hf;simp[execOp,ho,Instr.mapUpdate,zAj w (zLl hT hk),hmv.1,g1,hkv,zLK g2,run_checkKey (zI1 hT hkt),hf,zZV g2]
    refine wp_skip hrun (hK .junk _ G β _ _ hΦ (hc.write hh (b:=b) (by rw[g1]; rfl) g3 g4 rfl rfl rfl (zVP _) (fun i hi=>zOu _ hi) (fun hkp=>?_) ?_) (by simp only[AVal]) rfl)
    ·refine⟨b,_,vs++[a.eval x],by rw[g1]; rfl,zVO g2 _,g3,g4,?_,⟨b,g1⟩,?_,by simp[g6],fun u hu=>?_⟩
     ·exact AVals.append (g5.keep hkp) (by simp only[AVals]; exact⟨_,[],rfl,hxv.keep hkp,rfl⟩)
     ·rw[zSK keys vs 0 g6]
      simp
     ·rcases List.mem_append.1 hu with hu | hu
      ·exact g7 u hu
      ·rw[List.mem_singleton.1 hu]; exact hxv.one hone
    ·have h1:=(hc.hplt q _ hh).2;simp only[Ob.lt]at h1 ⊢;refine zCD fun i y hi=>?_
     rcases List.mem_append.1 (mem_of_getElem? hi) with hy | hy
     ·obtain⟨j,hj,rfl⟩:=List.mem_iff_getElem.1 hy;exact zBd h1 (List.getElem?_eq_getElem hj)
     ·rw[List.mem_singleton.1 hy]; exact AV.nrm_lt (hlt e x)
   ·cases h
  ·cases h
 ·rename_i t m k ok ho
  split at h
  ·rename_i kt e q s hk hm hs
   split at h
   ·rename_i keys xs hkt hh
    cases h;obtain⟨r,hr,hΦ⟩:=hΦ;obtain⟨b,vs,g1,g2,g3,g4,g5,g6,g7⟩:=hmap hh;have hmv:=hρ 0 m;rw[hm]at hmv;simp only[AVal]at hmv;have hkv:=hρ 0 k;rw[hs]at hkv;simp only[AVal,Rep]at hkv;have hf:=run_findKey (zI1 hT hkt) (s:=s) g6 w;rw[hr]at hf;have hpair:∀ {y:AV} {u:Value} {bb:Bool},AVal G w β y u->AVal G w β (zK0 ok y bb) (if ok then .tuple #[u,.bool bb] else u):=fun {y u bb} hy=>by
     cases ok with
     | true=>simp only[zK0,AVal,if_true]; exact⟨[u,.bool bb],rfl,u,[.bool bb],rfl,hy,.bool bb,[],rfl,by simp[AVal,Rep],rfl⟩
     | false=>simp only[zK0]; exact hy
    have hplt:∀ {y:AV} {bb:Bool},y.lt σ.nx=true->(zK0 ok y bb).lt σ.nx=true:=fun {y bb} hy=>by
     cases ok with
     | true=>simp only[zK0,AV.lt,AV.ltAll,hy,Bool.and_self]
     | false=>exact hy
    cases r with
    | some i =>
     dsimp only at hΦ hf;cases hx:xs[i]? with
     | none=>rw[hx]at hΦ; exact hΦ.elim
     | some y =>
      rw[hx]at hΦ;obtain⟨u,hu,hyu⟩:=g5.get hx;rw[hu,Option.map_some]at hf;refine zAG (v:=if ok then .tuple #[u,.bool true] else u) (w':=w) ?_ (hK _ _ G β w _ hΦ hc (hpair hyu) (hplt (zBd (hc.hplt q _ hh).2 hx)))
      simp[execOp,ho,Instr.lookup,zAj w (zLl hT hk),hmv.1,g1,hkv,zLK g2,run_checkKey (zI1 hT hkt),hf]
    | none =>
     dsimp only at hΦ hf;cases hz:yAf T e with
     | none=>rw[hz]at hΦ; exact hΦ.elim
     | some z =>
      rw[hz]at hΦ;unfold yAf at hz;split at hz
      ·rename_i i hi
       obtain⟨d,info,zv,q1,q2,q3,q4,q5,q6,q7,q8,q9,q10⟩:=hT e i hi;have hzz:AVal G w β z zv:=by
        split at hz
        ·rename_i hag
         cases hz;rw[if_pos hag]at q7;subst q7;simp only[AVal]
         exact⟨_,rfl,zY1 q10⟩
        ·rename_i hag
         rw[if_neg (by rw[hag]; exact fun h=>by cases h)]at q7;split at hz
         ·rename_i z0 hz0
          cases hz;subst q7;rw[hz0]
          rw[hz0]at q10;exact zRK (by simpa using q10)
         ·cases hz
       have hzl:z.lt σ.nx=true:=by
        split at hz
        ·cases hz;simp only[AV.lt]
         refine zCD fun j y hj=>?_
         rw[List.getElem?_map]at hj;obtain⟨z1,_,rfl⟩:=Option.map_eq_some_iff.1 hj;exact yAy z1 _
        ·split at hz
         ·cases hz; exact yAy _ _
         ·cases hz
       refine zAG (v:=if ok then .tuple #[zv,.bool false] else zv) (w':=w) ?_ (hK _ _ G β w _ hΦ hc (hpair hzz) (hplt hzl))
       simp[execOp,ho,Instr.lookup,zAj w (zLl hT hk),hmv.1,g1,hkv,zLK g2,run_checkKey (zI1 hT hkt),hf,zHB w q3 q6]
      ·cases hz
   ·cases h
  ·cases h
 ·rename_i t m ho
  split at h
  ·rename_i kt e q hk hm
   split at h
   ·rename_i keys xs hh
    cases h;obtain⟨b,vs,g1,g2,g3,g4,g5,g6,g7⟩:=hmap hh;have hmv:=hρ 0 m;rw[hm]at hmv;have hmv':=hmv;simp only[AVal]at hmv;have hq:=(hc.hplt q _ hh).1;obtain⟨β',b1,b2,b3⟩:=hc.freshO (.mapIter (some b) keys.length #[] keys.length) (ob:=.any (.iter keys.length [] keys.length) [.mref q]) (v:=.pointer (some ⟨w.heap.size,0,none⟩)) rfl
     ⟨w.heap.size,_,[.map (some b)],rfl,zCc w _,zI9 hc,zI8 hc,by simp only[AVals,AVal]; exact⟨_,[],rfl,⟨g1.symm,rfl⟩,rfl⟩,⟨_,rfl⟩,b,rfl,rfl⟩ (by simp only[Ob.lt,AV.ltAll,AV.lt,Bool.and_true]; exact decide_eq_true hq)
    refine zAG (v:=.pointer (some ⟨w.heap.size,0,none⟩)) (w':=w.alloc (.mapIter (some b) keys.length #[] keys.length)) ?_ (hK _ _ G β' _ _ hΦ b3 ?_ ?_)
    ·have:=run_range_map (P:=c.P) w t kt e b _ _ (zLl hT hk) g2;simp[execOp,ho,hmv.1,g1,this]
    ·simp only[AVal]; exact⟨_,b2,rfl⟩
    ·simp[AV.lt,zBi]
   ·cases h
  ·cases h
 ·rename_i it ho
  split at h
  ·rename_i q hq
   split at h
   ·rename_i since seen c0 k hh
    split at h
    ·rename_i keys xs hh2
     cases h;obtain⟨⟨hks,hsc⟩,hΦ1,hΦ2⟩:=hΦ;obtain⟨bm,vs,g1,g2,g3,g4,g5,g6,g7⟩:=hmap hh2;obtain⟨b,obj,us,h1,h2,h3,h4,h5,⟨b',h6⟩,bm',rfl,rfl⟩:=hc.hp q _ hh;have hb0:b'=b :=(by rw[h6]at h1; simpa [blk] using h1);subst hb0;simp only[AVals,AVal]at h5;obtain⟨v0,_,e0,⟨hv0,e2⟩,rfl⟩:=h5;have e1:Value.map (some bm')=v0 :=(by simpa using e0);rw[hv0,g1]at e1;have hbm:bm'=bm :=(by simpa using e1);subst hbm;have hiv:=hρ 0 it;rw[hq]at hiv;simp only[AVal]at hiv;obtain⟨bb,hb1,hb2⟩:=hiv;rw[h6]at hb1;have hbb:b'=bb :=(by simpa using hb1);subst hbb
     have hold:∀ x∈((zCV 0 keys vs).toArray).toList,x.born<since:=fun x hx=>by
      obtain⟨i,s,v,r1,r2,rfl⟩:=zMT (by simpa using hx)
      have:=(List.getElem?_eq_some_iff.1 r1).1;simp only; omega
     rcases run_next_at (P:=c.P) w o.type b' bm' since c0 seen.toArray _ _ h2 g2 hold hsc with ⟨hs0,hrun⟩ | ⟨e,he,w1,hw1,hrun⟩
     ·refine zAG (v:=.tuple #[.bool false]) (w':=w) ?_ (hK _ _ G β w _ (hΦ2 fun i hi=>?_) hc (by simp only[AVal,AVals]; exact⟨[.bool false],rfl,_,[],rfl,by simp[Rep],rfl⟩) rfl)
      ·simp[execOp,ho,hb2,hrun]
      ·have hi2:i<vs.length :=(by omega);have hm:=zQC (n:=0) (List.getElem?_eq_getElem hi) (List.getElem?_eq_getElem hi2)
       have hnil:leftOf (zCV 0 keys vs).toArray seen.toArray = #[]:=Array.eq_empty_of_size_eq_zero hs0;unfold leftOf at hnil;rw[Array.filter_eq_empty_iff]at hnil;have:=hnil _ (by simpa using hm)
       simpa using this
     ·obtain⟨he1,he2⟩:e∈zCV 0 keys vs/\e.born ∉ seen:=by
       unfold leftOf at he;simp at he;exact⟨he.1,by simpa using he.2⟩
      obtain⟨i,s,v,r1,r2,rfl⟩:=zMT he1;simp only[Nat.zero_add]at he2 hrun;obtain⟨x,rx,hx⟩:∃ x,xs[i]? = some x/\AVal G w β x v:=by
       have hi:i<xs.length :=(by rw[← g5.length]; exact(List.getElem?_eq_some_iff.1 r2).1);obtain⟨v',hv',hr⟩:=g5.get (List.getElem?_eq_getElem hi)
       rw[r2]at hv'; cases hv'
       exact⟨_,List.getElem?_eq_getElem hi,hr⟩
      have hc1:Conc c G β σ a w1:=by
       rcases hw1 with rfl | rfl
       ·exact hc
       ·exact hc.ext (Ext.drew hc.lt)
      have h2':w1.heap[b']? = some (.mapIter (some bm') since seen.toArray c0):=by rcases hw1 with rfl | rfl <;> exact h2
      have hheap:w1.heap=w.heap:=by rcases hw1 with rfl | rfl <;> rfl
      have hkq:AVal G w1 β (.mref k) (.map (some bm')) :=(by simp only[AVal]; exact⟨g1.symm,rfl⟩);refine zAG (v:=.tuple #[.bool true,.string ⟨s.toArray⟩,v]) (w':=setBlock w1 b' (.mapIter (some bm') since (seen.toArray.push i) keys.length)) ?_
       (hK _ _ G β _ _ (hΦ1 i s x r1 rx he2) (hc1.write hh (b:=b') (by rw[h6]; rfl) h3 h4 rfl rfl rfl (zVP _) (fun i hi=>zOu _ hi) (fun hkp=>?_) ?_) ?_ ?_)
      ·simp[execOp,ho,hb2,hrun]
      ·exact⟨b',_,[.map (some bm')],by rw[h6]; rfl,zVO h2' _,h3,h4,by simp only[AVals]; exact⟨_,[],rfl,hkq.keep hkp,rfl⟩,⟨b',h6⟩,bm',rfl,by simp⟩
      ·have:=(hc.hplt q _ hh).2
       simpa only[Ob.lt] using this
      ·have hkp:Keep G G w (setBlock w1 b' (.mapIter (some bm') since (seen.toArray.push i) keys.length)):=⟨fun _ h=>h,fun j hj=>by rw[zOu _ (show j ≠ b' from fun e=>h3 (by rw[← e]; exact hj)),hheap]⟩
       simp only[AVal,AVals]
       exact⟨[.bool true,.string ⟨s.toArray⟩,v],rfl,_,_,rfl,by simp[Rep],_,_,rfl,by simp[Rep],_,[],rfl,hx.keep hkp,rfl⟩
      ·simp only[AV.lt,AV.ltAll,Bool.and_true,Bool.true_and]
       exact AV.lt_mono (Nat.le_refl _) (zBd (hc.hplt k _ hh2).2 rx)
    ·cases h
   ·cases h
  ·cases h
 ·rename_i it ho
  split at h
  ·rename_i q hq
   split at h
   ·rename_i since seen c0 k hh
    split at h
    ·rename_i keys xs i hh2 hlast
     split at h
     ·rename_i s x hcl hks hxs
      cases h;obtain⟨bm,vs,g1,g2,g3,g4,g5,g6,g7⟩:=hmap hh2;obtain⟨b,obj,us,h1,h2,h3,h4,h5,⟨b',h6⟩,bm',rfl,rfl⟩:=hc.hp q _ hh;have hb0:b'=b :=(by rw[h6]at h1; simpa [blk] using h1);subst hb0;simp only[AVals,AVal]at h5;obtain⟨v0,_,e0,⟨hv0,e2⟩,rfl⟩:=h5;have e1:Value.map (some bm')=v0 :=(by simpa using e0);rw[hv0,g1]at e1;have hbm:bm'=bm :=(by simpa using e1);subst hbm;have hiv:=hρ 0 it;rw[hq]at hiv;simp only[AVal]at hiv;obtain⟨bb,hb1,hb2⟩:=hiv;rw[h6]at hb1;have hbb:b'=bb :=(by simpa using hb1);subst hbb;obtain⟨v,hv,hxv⟩:=g5.get hxs;have hse:seen.toArray=(seen.dropLast.toArray).push i:=by
       obtain⟨ys,hys⟩:=getLast?_eq_some_iff.1 hlast;subst hys;simp
      rw[hse]at h2;obtain rfl:=Nat.eq_of_beq_eq_true hcl;have hrun:=run_entry_at (P:=c.P) w b' bm' since seen.dropLast.toArray (zCV 0 keys vs).toArray keys.length { key:=.string ⟨s.toArray⟩,val:=v,born:=i } h2 g2 (by simpa using zQC (n:=0) hks hv) (by simpa using zPz (ks:=keys) (vs:=vs) (n:=0))
      refine zAG (v:=.tuple #[.string ⟨s.toArray⟩,v]) (w':=w) ?_ (hK _ _ G β w _ hΦ hc (by simp only[AVal,AVals]; exact⟨[.string ⟨s.toArray⟩,v],rfl,_,_,rfl,by simp[Rep],_,_,rfl,hxv,rfl⟩) ?_)
      ·simp[execOp,ho,hb2,hrun]
      ·simp only[AV.lt,AV.ltAll,Bool.true_and,Bool.and_true]
       have hl:AV.ltAll σ.nx xs=true :=(by simpa [Ob.lt] using (hc.hplt _ _ hh2).2);exact zBd hl hxs
     ·cases h
    ·cases h
   ·cases h
  ·cases h
 ·cases h
end
section
variable {c:Cx} {σ:St} {G:Nat->Prop} {β:Nat->Value} {a:Act} {w:World}
theorem zM0 {T:Nat->Option TI}{σ:St} (h:∀ t,(σ.env t).lt σ.nx=true):∀ (xs:List Operand) (ts:List Nat),AV.ltAll σ.nx (zLC T σ.env xs ts)=true
 | [],_=>rfl
 | x::xs,ts=>by
  simp only[zLC,AV.ltAll,Bool.and_eq_true]
  exact⟨zMv h T _ x,zM0 h xs ts.tail⟩
def zF5 (T:Nat->Option TI) (o:Oper) (env:Nat->AV):Option (Nat×List AV) :=
 match o.op with
 | .call { callee:=.value f,args:=args,argTypes:=ts }=>match opd T env 0 f with
  | .s (.fn g)=>some (g,zLC T env args.toList ts.toList)
  | .clo g caps=>match Nat.ble 1048576 g with
   | false=>some (g,zLC T env args.toList ts.toList++caps)
   | true=>some (g - 1048576,caps++zLC T env args.toList ts.toList)
  | _=>none
 | _=>none
def zLt (T:Nat->Option TI) (Γ:Nat->Option zAr) (o:Oper) (σ:St):Option ((AV->St->Prop)->Prop) :=
 match zF5 T o σ.env with
 | none=>none
 | some (g,xs)=>match Γ g with
  | none=>none
  | some s=>match s.nils,s.own with
   | true,some R=>some fun K=>match distinct (zAp σ.hp 64 (AV.keysAll xs) []),zKZ σ.hp (zipI 0 (zAp σ.hp 64 (AV.keysAll xs) [])) (zAp σ.hp 64 (AV.keysAll xs) []) with
    | true,some os=>∃ x os',R (AV.renAll (zipI 0 (zAp σ.hp 64 (AV.keysAll xs) [])) xs) os x os' /\
      K (x.ren (zEg (zAp σ.hp 64 (AV.keysAll xs) []) σ.nx 0 os')) (handed σ (zAp σ.hp 64 (AV.keysAll xs) []) os')
    | _,_=>False
   | _,_=>none
theorem zUl {T:Nat->Option TI}{Γ:Nat->Option zAr} (hΓ:∀ f s,Γ f=some s->PSound c.P f s) (hc:Conc c G β σ a w){o:Oper}{Φ:(AV->St->Prop)->Prop} (hΦ:zLt T Γ o σ=some Φ){K0:AV->St->Prop} (h:Φ K0){K:Act->World->Prop}{Q:Exit->Act->World->Prop}
  (hK:∀ x σ' G' β' w' v,K0 x σ'->Conc c G' β' σ' a w'->AVal G' w' β' x v->x.lt σ'.nx=true->K (a.put o.dst v) w'):o.wp c.P a w K Q:=by
 have hρ:∀ ty x,AVal G w β (opd T σ.env ty x) (a.eval x):=zE5 hc T
 unfold zLt at hΦ;split at hΦ
 ·cases hΦ
 ·rename_i g xs hraw
  split at hΦ
  ·cases hΦ
  rename_i s hs
  split at hΦ
  ·rename_i R hnils hR
   cases hΦ;unfold zF5 at hraw;split at hraw
   ·rename_i f args ts ho
    have hpre:∃ vs:List Value,AVals G w β xs vs/\AV.ltAll σ.nx xs=true/\∀ (hcall:∀ args w,(callFunc g args).run c.P w = .ok (.enter g args) w),(execOp a.eval o).run c.P w = .ok (.enter g vs.toArray) w:=by
     have hargs:=zOb hρ args.toList ts.toList;split at hraw
     ·rename_i g' e
      cases hraw;have hfe:=hρ 0 f;rw[e]at hfe;simp only[AVal,Rep]at hfe;refine⟨_,hargs,zM0 hc.envlt _ _,fun hcall=>?_⟩
      have e:(args.toList.map a.eval).toArray=args.map a.eval:=Array.ext' (by simp)
      rw[e]
      exact gK
     ·rename_i g' caps e
      have hfe:=hρ 0 f;rw[e]at hfe;simp only[AVal]at hfe;obtain⟨cs,hfe,hcs⟩:=hfe;have hcl:(opd T σ.env 0 f).lt σ.nx=true:=zMv hc.envlt T 0 f;rw[e]at hcl;simp only[AV.lt]at hcl;split at hraw
      ·rename_i hb
       cases hraw;rw[zSA hb]at hfe;refine⟨args.toList.map a.eval++cs,hargs.append hcs,zIF (zM0 hc.envlt _ _) hcl,fun hcall=>?_⟩
       have e:(args.toList.map a.eval++cs).toArray=args.map a.eval++cs.toArray:=Array.ext' (by simp)
       rw[e]
       exact gK
      ·rename_i hb
       have hj:=Prod.mk.inj (Option.some.inj hraw)
       have hj1:=hj.1;have hj2:=hj.2;subst hj1;subst hj2;rw[yAj hb]at hfe;refine⟨cs++args.toList.map a.eval,hcs.append hargs,zIF hcl (zM0 hc.envlt _ _),fun hcall=>?_⟩
       have e:(cs++args.toList.map a.eval).toArray=cs.toArray++args.map a.eval:=Array.ext' (by simp)
       rw[e]
       exact gK
     ·cases hraw
    obtain⟨vs,hargs,hxl,hex⟩:=hpre
    clear hraw
    obtain⟨hcall,zNO,hown,hheap⟩:=hΓ g s hs;have hexec:=hex hcall;unfold Oper.wp;rw[hexec]
    simp only[Oper.upon_enter]
    clear hρ hex hexec
    generalize zAp σ.hp 64 (AV.keysAll xs) []=ks at h;split at h
    ·rename_i os hd hos
     obtain⟨x,os',hR',h⟩:=h;obtain⟨l1,l2⟩:=zN0 hos;have hb:∀ k j,look k (zipI 0 ks)=some j->(fun i=>β (ks.getD i 0)) j=β k:=fun k j hkj=>by
      obtain⟨_,h2⟩:=zID hkj;simp only[Nat.sub_zero]at h2;simp[h2]
     have hlt:∀ k j,look k (zipI 0 ks)=some j->j<os.length:=fun k j hkj=>by
      obtain⟨_,h2⟩:=zID hkj;rw[l1]; simpa using (List.getElem?_eq_some_iff.1 h2).1
     have hget:∀ (i:Nat) k,ks[i]? = some k->(fun i=>β (ks.getD i 0)) i=β k:=fun i k hk=>by simp[hk]
     have hnod:=zHa hd;have hobs:zVZ (zE7 c.P w (fun i=>β (ks.getD i 0)) os.length G 0) G w (fun i=>β (ks.getD i 0)) (os.map some):=by
      have hk:∀ (i:Nat) ob,(os.map some)[i]? = some (some ob)->∃ k o,ks[i]? = some k/\σ.hp k=some o/\ob=o.ren (zipI 0 ks):=fun i ob hi=>by
       rw[List.getElem?_map]at hi;obtain⟨ob',hi',e⟩:=Option.map_eq_some_iff.1 hi;cases e;have hil:i<ks.length :=(by rw[← l1]; exact(List.getElem?_eq_some_iff.1 hi').1);obtain⟨o,q1,q2⟩:=l2 i _ (List.getElem?_eq_getElem hil)
       rw[hi']at q2; cases q2
       exact⟨_,o,List.getElem?_eq_getElem hil,q1,rfl⟩
      refine⟨fun i ob hi=>?_,fun i j ob ob' hi hj hne b hb1 hb2=>?_⟩
      ·obtain⟨k,o,q1,q2,rfl⟩:=hk i ob hi;rw[hget i k q1]
       refine⟨ObAt.ren hb (fun b hb' _=>.inl ⟨i,by rw[l1]; exact(List.getElem?_eq_some_iff.1 q1).1,by have:=hget i k q1; dsimp only at this ⊢; rw[this]; exact hb'⟩) (hc.hp k o q2),?_⟩
       rw[length_map]
       exact Ob.ren_lt hlt
      ·exact gC
     refine(hown R hR G w _ _ _ os x os' hc.lt hc.glob (AVals.ren hb hargs) (AV.renAll_lt hlt) hobs hR').mono fun e w' he=>?_
     obtain⟨v,G',β',rfl,h1,h2,h3,h4,h5,h6,h7,h8,h9⟩:=he;obtain⟨β2,r1,r2,r3⟩:=hc.handed hnod (fun i k hk=>(l2 i k hk).imp fun o h=>h.1) l1 hget h1 h2 h3 h4 h7 h8 h9;exact hK _ _ G' β2 w' v h r3 (AVal.ren r1 h5) (AV.ren_lt fun i k hik=>by
      obtain⟨_,⟨ob,hob⟩,rfl⟩:=zFe hik;rw[Nat.sub_zero]at hob;have hj:i<os'.length:=(List.getElem?_eq_some_iff.1 hob).1;show zES ks σ.nx i<σ.nx+(os'.length - ks.length)
      by_cases hi:i<ks.length
      ·have hb':=zET (ks:=ks) (nx:=σ.nx) hi;obtain⟨o,q1,_⟩:=l2 i _ hb';have:=(hc.hplt _ o q1).1; omega
      ·rw[zFo (by omega)]; omega)
    ·exact h.elim
   ·cases hraw
  ·cases hΦ
end
variable {n:Nat}{x:AV}
theorem zXv  (h:x.lt n=true):AV.ltAll n x.cellsA=true:=by
 cases x <;> simp only[AV.cellsA,AV.nrm,AV.ltAll,Bool.and_true] <;> first | exact h | rfl | simpa only[AV.lt] using h
variable {xs:List AV}
theorem zMp {ys:List AV} (h1:AV.ltAll n xs=true) (h2:AV.ltAll n ys=true):AV.ltAll n (xs++ys)=true :=
 zCD fun q y hq=>by
  rw[List.getElem?_append]at hq;split at hq
  ·exact zBd h1 hq
  ·exact zBd h2 hq
theorem zPJ  (h:AV.ltAll n xs=true) (k:Nat):AV.ltAll n (xs.take k)=true :=
 zCD fun q y hq=>by
  rw[List.getElem?_take]at hq;split at hq
  ·exact zBd h hq
  ·cases hq
theorem zPI  (h:AV.ltAll n xs=true) (k:Nat):AV.ltAll n (xs.drop k)=true :=
 zCD fun q y hq=>by
  rw[List.getElem?_drop]at hq;exact zBd h hq
theorem zVi {T:Nat->Option TI}{env:Nat->AV}{n:Nat} (h:∀ ty x,(opd T env ty x).lt n=true){place:Nat->Option (Nat×Nat)}:∀ {parts:List (Nat×Operand)}{cells xs:List AV},zMI T env place cells parts=some xs->AV.ltAll n cells=true->AV.ltAll n xs=true
 | [],cells,xs,hf,hc=>by simp only[zMI,Option.some.injEq]at hf; subst hf; exact hc
 | (j,x)::r,cells,xs,hf,hc=>by
  simp only[zMI,zCL]at hf;split at hf
  ·cases hf
  ·split at hf
   ·cases hf
   ·split at hf
    ·exact zVi h hf (zMp (zMp (zPJ hc _) (zXv (h _ _))) (zPI hc _))
    ·cases hf
variable {y:AV}{off t:Nat}{T:Nat->Option TI}
theorem zVB  (h:zWT T t xs off=some y) (hx:AV.ltAll n xs=true):y.lt n=true:=by
 unfold zWT at h;split at h
 ·cases h
 ·split at h
  ·split at h
   ·cases h; simp only[AV.lt]; exact zPJ (zPI hx _) _
   ·cases h
  ·exact zBd hx h
theorem zVA  (h:zO7 x off=some y) (hx:x.lt n=true):y.lt n=true:=by
 unfold zO7 at h;split at h <;> cases h <;> first | rfl | (simp only[AV.lt]at hx ⊢; exact hx)
variable {φ:Option Prop}
theorem zYb {f:Nat} (h:zPS T t x f=some (φ,y)) (hx:x.lt n=true):y.lt n=true:=by
 unfold zPS at h;split at h
 ·simp only[AV.lt]at hx;split at h
  ·split at h
   ·split at h
    ·rename_i hp; cases h; exact zVB hp hx
    ·cases h
   ·cases h
  ·cases h
 ·cases h
theorem zYc {i:AV} (h:zOc T t x i=some (φ,y)) (hx:x.lt n=true):y.lt n=true:=by
 unfold zOc at h;split at h
 ·split at h <;> cases h; rfl
 ·simp only[AV.lt]at hx;split at h
  ·split at h
   ·split at h
    ·rename_i hp; cases h; exact zVB hp hx
    ·cases h
   ·cases h
  ·cases h
 ·cases h
theorem zRq {i:AV} (h:zEQ T t x i=some (φ,y)) (hx:x.lt n=true):y.lt n=true:=by
 unfold zEQ at h;split at h
 ·split at h
  ·split at h
   ·split at h <;> cases h; rfl
   ·cases h
  ·split at h
   ·split at h
    ·rename_i hp; cases h; exact zVA hp hx
    ·cases h
   ·cases h
  ·cases h
 ·cases h
variable {σ:St}{o:Oper}{own:Bool}
theorem zVF  (hl:∀ t,(σ.env t).lt σ.nx=true) (h:zB9 T own o σ.env=some (φ,x)):x.lt σ.nx=true:=by
 have ho:∀ ty x,(opd T σ.env ty x).lt σ.nx=true:=zMv hl T
 unfold zB9 at h;split at h
 case h_1=>split at h <;> cases h; exact AV.nrm_lt (ho _ _)
 case h_2=>split at h <;> cases h; exact AV.nrm_lt (ho _ _)
 case h_3=>split at h <;> cases h <;> exact AV.nrm_lt (ho _ _)
 case h_4 =>
  split at h
  ·cases h
  ·split at h <;> cases h; rfl
 case h_5 =>
  repeat' split at h
  all_goals cases h
  rfl
 case h_6 =>
  unfold zTs at h
  repeat' split at h
  all_goals cases h
  all_goals (rename_i hf; simp only[AV.lt]; exact zVi ho hf (zOI _))
 case h_7 =>
  repeat' split at h
  all_goals cases h
  rename_i hf; exact zQN hf
 case h_8 y _ =>
  have:=ho 0 y;split at h <;> cases h <;> first | rfl | (rename_i e; rw[e]at this; exact this)
 case h_9 =>
  unfold pBin at h;split at h
  ·rename_i r0 h0
   cases h;unfold zYa pInt pStr at h0
   repeat' split at h0
   all_goals first | (cases h0; rfl) | cases h0
  ·unfold pArr at h
   repeat' split at h
   all_goals first | (cases h; rfl) | cases h
 case h_10 =>
  unfold pUn at h;split at h <;> cases h <;> rfl
 case h_11 =>
  unfold zWR at h
  repeat' split at h
  all_goals first | (cases h; rfl) | cases h
 case h_12 =>
  have hm:∀ (l:List Operand),AV.ltAll σ.nx (l.map (opd T σ.env 0))=true:=fun l=>zCD fun q y hq=>by
   rw[List.getElem?_map]at hq;obtain⟨z,_,rfl⟩:=Option.map_eq_some_iff.1 hq;exact ho _ _
  split at h
  ·cases h; rfl
  ·split at h
   ·cases h;simp only[AV.lt]
    exact hm _
   ·cases h
  ·have hx:=(Prod.mk.inj (Option.some.inj h)).2;rw[← hx]
   simp only[AV.lt]
   exact hm _
  ·cases h
 case h_13 =>
  split at h
  ·split at h
   ·unfold zLF at h
    repeat' split at h
    all_goals first | (cases h; rfl) | cases h
   ·unfold zK7 at h
    repeat' split at h
    all_goals first | (cases h; rfl) | cases h
  ·unfold zK7 at h
   repeat' split at h
   all_goals first | (cases h; rfl) | cases h
 case h_14 =>
  unfold zGd at h
  repeat' split at h
  all_goals first | (cases h; rename_i hp; exact zVA hp (ho _ _)) | cases h
 case h_15 t y f _=>exact zYb h (ho t y)
 case h_16=>exact zRq h (AV.nrm_lt (ho _ _))
 case h_17=>exact zYc h (ho _ _)
 case h_18 y i _ =>
  have:=ho 0 y;split at h
  ·rename_i xs e
   split at h
   ·rename_i hz
    cases h;rw[e]at this;simp only[AV.lt]at this;exact zBd this hz
   ·cases h
  ·cases h
 case h_19 =>
  split at h
  ·unfold pLen at h;split at h <;> first | (cases h; rfl) | cases h
  ·cases h
 case h_20 =>
  unfold pMin at h
  repeat' split at h
  all_goals first | (cases h; rfl) | cases h
 case h_21 =>
  unfold pMin at h
  repeat' split at h
  all_goals first | (cases h; rfl) | cases h
 case h_22 =>
  split at h
  ·unfold zWS at h
   repeat' split at h
   all_goals first | (cases h; rfl) | cases h
  ·cases h
 case h_23 =>
  split at h
  ·unfold pCap at h
   repeat' split at h
   all_goals first | (cases h; rfl) | cases h
  ·cases h
 all_goals cases h
def zBQ (T:Nat->Option TI) (own:Bool) (o:Oper) (σ:St):Option (Option Prop×AV×St) :=
 match zFB T o σ with
 | some r=>some r
 | none=>match zDa T own o σ with
  | some r=>some r
  | none=>zCQ T o σ
def step1 (T:Nat->Option TI) (own:Bool) (o:Oper) (σ:St):Option (Option Prop×AV×St) :=
 match zB9 T own o σ.env with
 | some (φ,x)=>some (φ,x,σ)
 | none=>zBQ T own o σ
variable {w:World}{a:Act}{β:Nat->Value}{G:Nat->Prop}{c:Cx}
theorem zLO {σ':St} (hT:TOk c.P T)
  (hc:Conc c G β σ a w) {own:Bool} {o:Oper} {φ:Option Prop} {x:AV} (h:step1 T own o σ=some (φ,x,σ')) (hφ:φ.getD True) (hd:∀ t,o.dst=some t->t<c.N) {K:Act->World->Prop} {Q:Exit->Act->World->Prop}
  (hK:∀ G' β' a' w',Conc c G' β' (σ'.put o.dst x) a' w'->K a' w'):o.wp c.P a w K Q:=by
 unfold step1 at h;split at h
 ·rename_i φ' x' hp
  cases h;exact yB0 hT hc hp hφ fun G' w' v he hv=>hK G' β _ w' ((hc.ext he).put hd hv (zVF hc.envlt hp))
 ·unfold zBQ at h;split at h
  ·rename_i hl
   cases h;obtain⟨rfl,rfl,Φ,h1,h2⟩:=zNS hl;exact zPK hT hc h1 (h2 (fun y τ=>y=x/\τ=σ') ⟨rfl,rfl⟩) fun y τ G' β' w' v hk k1 k2 k3=>by
    obtain⟨rfl,rfl⟩:=hk;exact hK G' β' _ w' (k1.put hd k2 k3)
  split at h
  ·rename_i hl
   cases h;exact yBX hT hc hl hφ fun G' β' w' v h1 h2 h3=>hK G' β' _ w' (h1.put hd h2 h3)
  ·exact yBA hT hc h hφ fun β' w' v h1 h2 h3=>hK G β' _ w' (h1.put hd h2 h3)
mutual
def forced:AV->(AV->Prop)->Prop
 | .s (.int k n),K=>K (.s (.int k n))
 | .s (.bool b),K=>K (.s (.bool b))
 | .s (.str l),K=>K (.s (.str l))
 | .s (.sl sz rows),K=>K (.s (.sl sz rows))
 | .s .np,K=>K (.s .np)
 | .s (.pt row),K=>K (.s (.pt row))
 | .s (.fn f),K=>K (.s (.fn f))
 | .s .nf,K=>K (.s .nf)
 | .s .nm,K=>K (.s .nm)
 | .nl sz,K=>K (.nl sz)
 | .agg xs,K=>zFy xs fun ys=>K (.agg ys)
 | .tup xs,K=>zFy xs fun ys=>K (.tup ys)
 | .op k o,K=>K (.op k o)
 | .orow k,K=>K (.orow k)
 | .rp k sz i o,K=>K (.rp k sz i o)
 | .mref k,K=>K (.mref k)
 | .clo f xs,K=>zFy xs fun ys=>K (.clo f ys)
 | .junk,K=>K .junk
def zFy:List AV->(List AV->Prop)->Prop
 | [],K=>K []
 | x::xs,K=>forced x fun y=>zFy xs fun ys=>K (y::ys)
end
mutual
theorem zHp:∀ (x:AV) (K:AV->Prop),forced x K=K x
 | .s (.int k n),K=>rfl
 | .s (.bool b),K=>rfl
 | .s (.str l),K=>rfl
 | .s (.sl sz rows),K=>rfl
 | .s .np,K=>rfl
 | .s (.pt row),K=>rfl
 | .s (.fn f),K=>rfl
 | .s .nf,K=>rfl
 | .s .nm,K=>rfl
 | .nl sz,K=>rfl
 | .agg xs,K=>by simp only[forced]; exact zEH xs _
 | .tup xs,K=>by simp only[forced]; exact zEH xs _
 | .op k o,K=>rfl
 | .orow k,K=>rfl
 | .rp k sz i o,K=>rfl
 | .mref k,K=>rfl
 | .clo f xs,K=>by simp only[forced]; exact zEH xs _
 | .junk,K=>rfl
theorem zEH:∀ (xs:List AV) (K:List AV->Prop),zFy xs K=K xs
 | [],K=>rfl
 | x::xs,K=>by
  simp only[zFy]
  rw[zHp x]
  exact zEH xs _
end
def natF (n:Nat) (K:Nat->Prop):Prop :=
 match n with
 | 0=>K 0
 | m+1=>K (m+1)
theorem zLx (n:Nat) (K:Nat->Prop):natF n K=K n:=by cases n <;> rfl
def zZx:List Nat->(List Nat->Prop)->Prop
 | [],K=>K []
 | k::ks,K=>natF k fun k'=>zZx ks fun l=>K (k'::l)
theorem zQW:∀ (l:List Nat) (K:List Nat->Prop),zZx l K=K l
 | [],K=>rfl
 | k::ks,K=>by
  simp only[zZx]
  rw[zLx]
  exact zQW ks _
def obF (o:Option Ob) (K:Option Ob->Prop):Prop :=
 match o with
 | some (.box t cs)=>zFy cs fun l=>K (some (.box t l))
 | some (.row e sz rows)=>K (some (.row e sz rows))
 | some (.arow e sz rows)=>K (some (.arow e sz rows))
 | some (.any τ xs)=>zFy xs fun l=>K (some (.any τ l))
 | none=>K none
theorem yAq (o:Option Ob) (K:Option Ob->Prop):obF o K=K o:=by
 unfold obF;split
 ·exact zEH _ _
 ·rfl
 ·rfl
 ·exact zEH _ _
 ·rfl
def lookO:List (Nat×Option Ob)->(Nat->Option Ob)->Nat->Option Ob
 | [],hp,k=>hp k
 | (j,o)::r,hp,k=>bif Nat.beq k j then o else lookO r hp k
def St.lay (σ:St) (l:List (Nat×Option Ob)) (nx:Nat):St:=⟨σ.env,lookO l σ.hp,nx⟩
def layG (ρ:List (Nat×Nat)) (f:Nat->Nat):Nat->List (Option Ob)->List (Nat×Option Ob)->(List (Nat×Option Ob)->Prop)->Prop
 | _,[],acc,K=>K acc
 | i,o::os,acc,K=>natF (f i) fun j=>obF (o.map (Ob.ren ρ)) fun o'=>layG ρ f (i+1) os ((j,o')::acc) K
theorem zUs {ρ:List (Nat×Nat)}{f:Nat->Nat}{hp:Nat->Option Ob}:∀ (i:Nat) (os:List (Option Ob)) (acc:List (Nat×Option Ob)) (K:(Nat->Option Ob)->Prop),layG ρ f i os acc (fun l=>K (lookO l hp))=K (zJJ ρ f i os (lookO acc hp))
 | _,[],acc,K=>rfl
 | i,o::os,acc,K=>by
  simp only[layG]
  rw[zLx,yAq]
  exact zUs (i+1) os _ K
def zNA (T:Nat->Option TI) (Γ:Nat->Option zAr) (own:Bool) (o:Oper) (σ:St) (K:AV->St->Prop):Prop :=
 match zBm T o σ.env with
 | none=>zHd T o σ K
 | some (g,xs)=>match Γ g with
  | none=>False
  | some s=>match s.heap with
   | some R=>∃ Φ,R xs σ.hp σ.nx Φ/\∀ x hp' n',Φ x hp' n'->K x ⟨σ.env,hp',n'⟩
   | none=>match s.own with
   | none=>match AV.persAll (AV.lendAll σ.hp xs) with
    | false=>False
    | true=>∃ r,s.spec (AV.lendAll σ.hp xs) r/\match zBz own (match r.flat with | true=>σ | false=>zOl (AV.keysAll xs) σ) r with
     | none=>False
     | some (x,σ')=>K x σ'
   | some R=>match zFO T s.nil o xs σ with
    | (xs,σ)=>zZx (zAp σ.hp 64 (AV.keysAll xs) []) fun ks=>natF σ.nx fun nx0=>match distinct ks,zKZ σ.hp (zipI 0 ks) ks with
     | true,some os=>∃ x os',R (AV.renAll (zipI 0 ks) xs) os x os' /\
       layG (zEg ks nx0 0 os') (zES ks nx0) 0 os' [] fun l=>natF (nx0+(os'.length - ks.length)) fun nx'=>K (x.ren (zEg ks nx0 0 os')) (St.lay σ l nx')
     | _,_=>False
theorem zQw {Γ:Nat->Option zAr}{K:AV->St->Prop}:zNA T Γ own o σ K=zGp T Γ own o σ K:=by
 unfold zNA zGp;cases zBm T o σ.env with
 | none=>rfl
 | some q =>
  obtain⟨g,xs⟩:=q;dsimp only;cases Γ g with
  | none=>rfl
  | some s =>
   dsimp only;cases s.heap with
   | some R=>rfl
   | none =>
    dsimp only;cases s.own with
    | none=>rfl
    | some R =>
     dsimp only;generalize zFO T s.nil o xs σ=q;obtain⟨xs',σ'⟩:=q;dsimp only;rw[zQW,zLx]
     cases distinct (zAp σ'.hp 64 (AV.keysAll xs') []) with
     | false=>rfl
     | true =>
      cases zKZ σ'.hp (zipI 0 (zAp σ'.hp 64 (AV.keysAll xs') [])) (zAp σ'.hp 64 (AV.keysAll xs') []) with
      | none=>rfl
      | some os =>
       simp only[zLx,handed,St.lay]
       refine congrArg _ (funext fun x=>congrArg _ (funext fun os'=>congrArg _ ?_))
       exact zUs (hp:=σ'.hp) 0 os' [] fun hp'=>K (x.ren (zEg (zAp σ'.hp 64 (AV.keysAll xs') []) σ'.nx 0 os')) ⟨σ'.env,hp',σ'.nx+(os'.length - (zAp σ'.hp 64 (AV.keysAll xs') []).length)⟩
def named (x:AV) (K:AV->Prop):Prop :=
 match x with
 | .s (.bool b)=>∀ b',b'=b->K (.s (.bool b'))
 | .s (.int k n)=>∀ n',n'=n->K (.s (.int k n'))
 | .s (.pt r)=>∀ r',r'=r->K (.s (.pt r'))
 | .s (.str l)=>∀ l',l'=l->K (.s (.str l'))
 | .s (.sl sz rows)=>∀ rows',rows'=rows->K (.s (.sl sz rows'))
 | x=>forced x K
theorem zX1 {K:AV->Prop} (h:named x K):K x:=by
 unfold named at h;split at h <;> first | exact h _ rfl | exact(zHp _ K) ▸ h
def St.putN (σ:St) (d:Nat) (x:AV):St:={ σ with env:=fun t=>bif Nat.beq t d then x else σ.env t }
def lay (nm:Bool) (d:Option Nat) (x:AV) (σ:St) (K:St->Prop):Prop :=
 match d with
 | none=>K σ
 | some d=>match nm with
  | true=>named x fun y=>K (σ.putN d y)
  | false=>forced x fun y=>K (σ.putN d y)
theorem zEV {nm:Bool}{d:Option Nat}{K:St->Prop} (h:lay nm d x σ K):K (σ.put d x):=by
 unfold lay at h;split at h
 ·exact h
 ·split at h
  ·exact zX1 h
  ·rw[zHp]at h; exact h
def andO (φ:Option Prop) (K:Prop):Prop :=
 match φ with
 | none=>K
 | some p=>p/\K
theorem zMS {K:Prop} (h:andO φ K):φ.getD True/\K:=by
 cases φ with
 | none=>exact⟨trivial,h⟩
 | some p=>exact h
def inL (t:Nat):List Nat->Bool
 | []=>false
 | x::xs=>Nat.beq t x||inL t xs
def dIn (d:Option Nat) (l:List Nat):Bool:=match d with | some t=>inL t l | none=>false
theorem zTP:AVal G w β (.tup []) undef:=by
 simp only[AVal]
 exact⟨[],rfl,by simp only[AVals]⟩
def nilQ (T:Nat->Option TI) (o:Oper) (σ:St):Option (List (List S)) :=
 match o.op with
 | .binOp .eql t x y _=>match zA7 y with
  | true=>match tk T t,opd T σ.env t x with
   | .slice _,.s (.sl _ rows)=>some rows
   | .slice _,.orow k=>match σ.hp k with | some (.row _ _ rows)=>some rows | _=>none
   | _,_=>none
  | false=>none
 | _=>none
variable {P:Program}
theorem zOr  (w:World) (t e:TypeId) (a:Option Addr) (l c:Nat) (h:P.underlying t=some (.slice e)):(binOp .eql t (.slice a l c) (.slice none 0 0)).run P w = .ok (.bool a.isNone) w:=by
 have h1:∀ d,(Op.equalIn (d+1) t (.slice a l c) (.slice none 0 0)).run P w = .ok a.isNone w:=fun d=>by cases a <;> simp[Op.equalIn,zAj w h]
 have h2:(Op.equal t (.slice a l c) (.slice none 0 0)).run P w = .ok a.isNone w:=h1 9999;simp[binOp,h2]
variable {Q:Exit->Act->World->Prop}{K:Act->World->Prop}
theorem zWE  (hT:TOk c.P T) (hc:Conc c G β σ a w){rows:List (List S)} (h:nilQ T o σ=some rows)
  (hK:∀ b:Bool,(b=true->rows=[])->K (a.put o.dst (.bool b)) w):o.wp c.P a w K Q:=by
 have fin:∀ t x y u e d,o.op = .binOp .eql t x y u->zA7 y=true->c.P.underlying t=some d->tkOf d = .slice e->(∃ ob n cp,a.eval x = .slice ob n cp/\(ob.isNone=true->rows=[]))->o.wp c.P a w K Q:=fun t x y u e d ho hn hd e1 key=>by
  cases d <;> simp only[tkOf,reduceCtorEq,TK.slice.injEq]at e1
  have hy:a.eval y = .slice none 0 0:=by
   unfold zA7 at hn;split at hn
   ·rfl
   ·cases hn
  obtain⟨ob,n,cp,h1,h2⟩:=key;refine zAG (v:=.bool ob.isNone) ?_ (hK _ h2)
  simp only[execOp,ho,h1,hy]
  simp[eqGuard,zOr w t _ ob n cp hd]
 unfold nilQ at h;split at h
 ·rename_i t x y u ho
  split at h
  ·rename_i hn
   split at h
   ·rename_i e sz rows' hk hx
    cases h;obtain⟨d,hd,e1⟩:=zDl hT hk (by simp)
    refine fin t x y u e d ho hn hd e1 ?_;have hv:=zE5 hc T t x;rw[hx]at hv;simp only[AVal,Rep]at hv;rcases hv with ⟨h1,o,cp,h2⟩ | ⟨b,off,cp,h1,_⟩
    ·exact⟨o,0,cp,h2,fun _=>h1⟩
    ·exact⟨_,_,cp,h1,fun h=>by cases h⟩
   ·rename_i e k hk hx
    split at h
    ·rename_i e' sz rows' hh
     cases h;obtain⟨d,hd,e1⟩:=zDl hT hk (by simp)
     refine fin t x y u e d ho hn hd e1 ?_;have hv:=zE5 hc T t x;rw[hx]at hv;simp only[AVal]at hv;obtain⟨_,_,hob⟩:=hc.hp k _ hh;rcases hob with ⟨h1,h2⟩ | ⟨b,cap,cur,h1,_⟩
     ·exact⟨none,0,0,hv.1.trans h1,fun _=>h2⟩
     ·exact⟨_,_,cap,hv.1.trans h1,fun h=>by cases h⟩
    ·cases h
   ·cases h
  ·cases h
 ·cases h
def zIA (T:Nat->Option TI) (nmd:Bool) (o:Oper) (σ:St):Option AV :=
 match nmd with
 | false=>none
 | true=>match o.op with
  | .move x | .assign x=>match opd T σ.env o.type x with
   | .nl sz=>some (.nl sz)
   | _=>none
  | _=>none
theorem zSX:zIA T false o σ=none:=rfl
theorem zQK  (hc:Conc c G β σ a w){nmd:Bool} (h:zIA T nmd o σ=some x)
  (hK:∀ v,AVal G w β x v->x.lt σ.nx=true->K (a.put o.dst v) w):o.wp c.P a w K Q:=by
 unfold zIA at h;split at h
 ·cases h
 ·have go:∀ y,(execOp a.eval o).run c.P w = .ok (.value (a.eval y)) w->(match opd T σ.env o.type y with | .nl sz=>some (AV.nl sz) | _=>none)=some x->o.wp c.P a w K Q:=fun y hr h=>by
   split at h
   ·rename_i sz hx
    cases h;have:=zE5 hc T o.type y;rw[hx]at this;exact zAG hr (hK _ this rfl)
   ·cases h
  split at h
  ·rename_i y ho
   exact go y (by simp[execOp,ho]) h
  ·rename_i y ho
   exact go y (by simp[execOp,ho]) h
  ·cases h
def zMh (T:Nat->Option TI) (o:Oper) (σ:St):Option AV :=
 match o.op with
 | .binOp .eql t x y _=>match zA7 y,tk T t,opd T σ.env t x with
  | true,.slice _,.nl _=>some (.s (.bool true))
  | _,_,_=>none
 | .binOp .neq t x y _=>match zA7 y,tk T t,opd T σ.env t x with
  | true,.slice _,.nl _=>some (.s (.bool false))
  | true,.slice _,.s (.sl _ (_::_))=>some (.s (.bool true))
  | true,.slice _,.orow k=>match σ.hp k with
   | some (.row _ _ (_::_))=>some (.s (.bool true))
   | some (.arow _ _ (_::_))=>some (.s (.bool true))
   | _=>none
  | _,_,_=>none
 | _=>none
theorem zUY  (w:World) (t e:TypeId) (a:Option Addr) (l c:Nat) (h:P.underlying t=some (.slice e)):(binOp .neq t (.slice a l c) (.slice none 0 0)).run P w = .ok (.bool (!a.isNone)) w:=by
 have h1:∀ d,(Op.equalIn (d+1) t (.slice a l c) (.slice none 0 0)).run P w = .ok a.isNone w:=fun d=>by cases a <;> simp[Op.equalIn,zAj w h]
 have h2:(Op.equal t (.slice a l c) (.slice none 0 0)).run P w = .ok a.isNone w:=h1 9999;simp[binOp,h2]
theorem zSC  (hT:TOk c.P T) (hc:Conc c G β σ a w) (h:zMh T o σ=some x)
  (hK:∀ v,AVal G w β x v->x.lt σ.nx=true->K (a.put o.dst v) w):o.wp c.P a w K Q:=by
 have nil:∀ {y:Operand},zA7 y=true->a.eval y = .slice none 0 0:=fun {y} hn=>by
  unfold zA7 at hn;split at hn
  ·rfl
  ·cases hn
 have sld:∀ {t e:Nat},tk T t = .slice e->c.P.underlying t=some (.slice e):=fun {t e} hk=>by
  obtain⟨d,hd,e1⟩:=zDl hT hk (by simp)
  cases d <;> simp only[tkOf,reduceCtorEq,TK.slice.injEq]at e1
  subst e1; exact hd
 have eqf:∀ {t y u e:_} {x:Operand} {ob:Option Addr} {n cp:Nat},o.op = .binOp .eql t x y u->zA7 y=true->tk T t = .slice e->a.eval x = .slice ob n cp->(execOp a.eval o).run c.P w = .ok (.value (.bool ob.isNone)) w:=fun {t y u e x ob n cp} ho hn hk h1=>by
  simp only[execOp,ho,h1,nil hn]
  simp[eqGuard,zOr w t _ ob n cp (sld hk)]
 have nef:∀ {t y u e:_} {x:Operand} {ob:Option Addr} {n cp:Nat},o.op = .binOp .neq t x y u->zA7 y=true->tk T t = .slice e->a.eval x = .slice ob n cp->(execOp a.eval o).run c.P w = .ok (.value (.bool (!ob.isNone))) w:=fun {t y u e x ob n cp} ho hn hk h1=>by
  simp only[execOp,ho,h1,nil hn]
  simp[eqGuard,zUY w t _ ob n cp (sld hk)]
 have hbool:∀ {b:Bool},AVal G w β (.s (.bool b)) (.bool b):=fun {b}=>by simp only[AVal,Rep]
 unfold zMh at h;split at h
 ·rename_i t x' y u ho
  split at h
  ·rename_i e sz hn hk hx
   cases h;have hv:=zE5 hc T t x';rw[hx]at hv;simp only[AVal]at hv;exact zAG (eqf ho hn hk hv) (hK _ hbool rfl)
  ·cases h
 ·rename_i t x' y u ho
  have hv:=zE5 hc T t x';split at h
  ·rename_i e sz hn hk hx
   cases h;rw[hx]at hv;simp only[AVal]at hv;exact zAG (nef ho hn hk hv) (hK _ hbool rfl)
  ·rename_i e sz r rs hn hk hx
   cases h;rw[hx]at hv;simp only[AVal,Rep,cons_ne_nil,false_and,false_or]at hv;obtain⟨b,off,cap,h1,_⟩:=hv;exact zAG (nef ho hn hk h1) (hK _ hbool rfl)
  ·rename_i e k hn hk hx
   rw[hx]at hv;simp only[AVal]at hv;split at h
   ·rename_i e' sz r rs hh
    cases h;obtain⟨_,_,hob⟩:=hc.hp k _ hh;rcases hob with ⟨_,h2⟩ | ⟨b,cap,cur,h1,_⟩
    ·cases h2
    ·exact zAG (nef ho hn hk (hv.1.trans h1)) (hK _ hbool rfl)
   ·rename_i e' sz r rs hh
    cases h;obtain⟨_,_,hob⟩:=hc.hp k _ hh;rcases hob with ⟨_,h2⟩ | ⟨b,cap,cur,h1,_⟩
    ·cases h2
    ·exact zAG (nef ho hn hk (hv.1.trans h1)) (hK _ hbool rfl)
   ·cases h
  ·cases h
 ·cases h
def zBF (T:Nat->Option TI) (Γ:Nat->Option zAr) (M nm:List Nat) (N:Nat) (all:List Oper):List Oper->St->(St->Prop)->Prop
 | [],σ,K=>K σ
 | o::os,σ,K =>
  match (match o.dst with | some t=>Nat.blt t N | none=>true) with
  | false=>False
  | true =>
   let run:Prop:=match zIA T (dIn o.dst nm) o σ with
    | some x=>lay false o.dst x σ fun σ''=>zBF T Γ M nm N all os σ'' K
    | none=>match zLt T Γ o σ with
    | some Φ=>Φ fun x σ'=>lay (dIn o.dst nm) o.dst x σ' fun σ''=>zBF T Γ M nm N all os σ'' K
    | none=>match callOf T Γ o σ.env with
    | some (_,s,xs)=>∃ r,s.spec xs r/\match zBz (dIn o.dst M) σ r with
     | none=>False
     | some (x,σ')=>lay (dIn o.dst nm) o.dst x σ' fun σ''=>zBF T Γ M nm N all os σ'' K
    | none=>match step1 T (dIn o.dst M) o σ with
     | none=>match zMh T o σ with
      | some x=>lay (dIn o.dst nm) o.dst x σ fun σ''=>zBF T Γ M nm N all os σ'' K
      | none=>match nilQ T o σ with
      | some rows=>∀ b:Bool,(b=true->rows=[])->lay (dIn o.dst nm) o.dst (.s (.bool b)) σ fun σ''=>zBF T Γ M nm N all os σ'' K
      | none=>match mapQ T o σ with
       | some Φ=>Φ fun x σ'=>lay (dIn o.dst nm) o.dst x σ' fun σ''=>zBF T Γ M nm N all os σ'' K
       | none=>zNA T Γ (dIn o.dst M) o σ fun x σ'=>lay (dIn o.dst nm) o.dst x σ' fun σ''=>zBF T Γ M nm N all os σ'' K
     | some (φ,x,σ')=>andO φ (lay (dIn o.dst nm) o.dst x σ' fun σ''=>zBF T Γ M nm N all os σ'' K)
   match o.guard with
   | none=>run
   | some (j,want)=>match (all[j]?).bind (·.dst) with
    | some g=>match σ.env g with
     | .s (.bool true)=>match want with | true=>run | false=>lay false o.dst (.tup []) σ fun σ''=>zBF T Γ M nm N all os σ'' K
     | .s (.bool false)=>match want with | false=>run | true=>lay false o.dst (.tup []) σ fun σ''=>zBF T Γ M nm N all os σ'' K
     | .tup []=>lay false o.dst (.tup []) σ fun σ''=>zBF T Γ M nm N all os σ'' K
     | _=>False
    | none=>False
variable {ops:Array Oper}
theorem zLU  (hc:Conc c G β σ a w){j g:Nat}{b:Bool} (hj:(ops[j]?).bind (·.dst)=some g) (hg:g<c.N)
  (hb:σ.env g = .s (.bool b)):yielded ops a.tmps j=some b:=by
 have h1:=hc.env g;rw[hb]at h1;simp only[AVal,Rep]at h1;have h2:a.tmps[g]? = some (.bool b):=by
  have hlt:g<a.tmps.size :=(by rw[hc.size]; exact hg);rw[Array.getElem?_eq_getElem hlt]
  rw[Array.getD_eq_getD_getElem?,Array.getElem?_eq_getElem hlt]at h1
  simpa using h1
 simp[yielded,hj,h2]
theorem zME  (hc:Conc c G β σ a w){j g:Nat} (hj:(ops[j]?).bind (·.dst)=some g) (hg:g<c.N)
  (hb:σ.env g = .tup []):yielded ops a.tmps j=none:=by
 have h1:=hc.env g;rw[hb]at h1;simp only[AVal]at h1;obtain⟨vs,h1,h2⟩:=h1;simp only[AVals]at h2;subst h2;have h3:a.tmps[g]? = some (.tuple #[]):=by
  have hlt:g<a.tmps.size :=(by rw[hc.size]; exact hg);rw[Array.getElem?_eq_getElem hlt]
  rw[Array.getD_eq_getD_getElem?,Array.getElem?_eq_getElem hlt]at h1
  simpa using h1
 simp[yielded,hj,h3]
theorem zB4 {c:Cx}{T:Nat->Option TI}{Γ:Nat->Option zAr}{M nm:List Nat} (hT:TOk c.P T) (hΓ:∀ f s,Γ f=some s->PSound c.P f s){all:List Oper}{Q:Exit->Act->World->Prop}{K:St->Prop}
  (hK:∀ σ G β a w,K σ->Conc c G β σ a w->Q .normal a w) (hN:∀ (j g:Nat),(all[j]?).bind (fun o=>o.dst)=some g->g<c.N) :
  ∀ (os:List Oper) (σ:St) (G:Nat->Prop) (β:Nat->Value) (a:Act) (w:World),zBF T Γ M nm c.N all os σ K->Conc c G β σ a w->wpList c.P all.toArray Q os a w
 | [],σ,G,β,a,w,h,hc=>hK σ G β a w h hc
 | o::os,σ,G,β,a,w,h,hc=>by
  unfold zBF at h;split at h
  ·exact h.elim
  ·rename_i hdst
   have hd:∀ t,o.dst=some t->t<c.N:=fun t ht=>by
    rw[ht]at hdst;exact Nat.le_of_ble_eq_true hdst
   have hrun:(match zIA T (dIn o.dst nm) o σ with
    | some x=>lay false o.dst x σ fun σ''=>zBF T Γ M nm c.N all os σ'' K
    | none=>match zLt T Γ o σ with
    | some Φ=>Φ fun x σ'=>lay (dIn o.dst nm) o.dst x σ' fun σ''=>zBF T Γ M nm c.N all os σ'' K
    | none=>match callOf T Γ o σ.env with
    | some (_,s,xs)=>∃ r,s.spec xs r/\match zBz (dIn o.dst M) σ r with
     | none=>False
     | some (x,σ')=>lay (dIn o.dst nm) o.dst x σ' fun σ''=>zBF T Γ M nm c.N all os σ'' K
    | none=>match step1 T (dIn o.dst M) o σ with
     | none=>match zMh T o σ with
      | some x=>lay (dIn o.dst nm) o.dst x σ fun σ''=>zBF T Γ M nm c.N all os σ'' K
      | none=>match nilQ T o σ with
      | some rows=>∀ b:Bool,(b=true->rows=[])->lay (dIn o.dst nm) o.dst (.s (.bool b)) σ fun σ''=>zBF T Γ M nm c.N all os σ'' K
      | none=>match mapQ T o σ with
       | some Φ=>Φ fun x σ'=>lay (dIn o.dst nm) o.dst x σ' fun σ''=>zBF T Γ M nm c.N all os σ'' K
       | none=>zNA T Γ (dIn o.dst M) o σ fun x σ'=>lay (dIn o.dst nm) o.dst x σ' fun σ''=>zBF T Γ M nm c.N all os σ'' K
     | some (φ,x,σ')=>andO φ (lay (dIn o.dst nm) o.dst x σ' fun σ''=>zBF T Γ M nm c.N all os σ'' K))->o.wp c.P a w (wpList c.P all.toArray Q os) Q:=fun h=>by
    split at h
    ·rename_i x hx
     exact zQK hc hx fun v h1 h2=>zB4 (M:=M) (nm:=nm) hT hΓ hK hN os _ G β _ w (zEV h) (hc.put hd h1 h2)
    split at h
    ·rename_i Φ hm
     exact zUl hΓ hc hm h fun x σ' G' β' w' v hk h1 h2 h3=>zB4 (M:=M) (nm:=nm) hT hΓ hK hN os _ G' β' _ w' (zEV hk) (h1.put hd h2 h3)
    ·split at h
     ·rename_i g s xs hco
      obtain⟨r,hr,h⟩:=h;split at h
      ·exact h.elim
      ·rename_i x σ' hx
       refine zPv hΓ hc hco hr hx fun G' β' w' v h1 h2 h3=>zB4 (M:=M) (nm:=nm) hT hΓ hK hN os _ G' β' _ w' (zEV h) (h1.put hd h2 h3)
     ·split at h
      ·split at h
       ·rename_i x hx
        exact zSC hT hc hx fun v h1 h2=>zB4 (M:=M) (nm:=nm) hT hΓ hK hN os _ G β _ w (zEV h) (hc.put hd h1 h2)
       ·split at h
        ·rename_i rows hq
         exact zWE hT hc hq fun b hb=>zB4 (M:=M) (nm:=nm) hT hΓ hK hN os _ G β _ w (zEV (h b hb)) (hc.put hd (by simp only[AVal,Rep]) rfl)
        ·split at h
         ·rename_i Φ hm
          exact zPK hT hc hm h fun x σ' G' β' w' v hk h1 h2 h3=>zB4 (M:=M) (nm:=nm) hT hΓ hK hN os _ G' β' _ w' (zEV hk) (h1.put hd h2 h3)
         ·rw[zQw]at h;exact zNC hT hΓ hc h fun x σ' G' β' w' v hk h1 h2 h3=>zB4 (M:=M) (nm:=nm) hT hΓ hK hN os _ G' β' _ w' (zEV hk) (h1.put hd h2 h3)
      ·rename_i φ x σ' hs
       obtain⟨h1,h2⟩:=zMS h;refine zLO hT hc hs h1 hd fun G' β' a' w' hc'=>zB4 (M:=M) (nm:=nm) hT hΓ hK hN os _ G' β' a' w' (zEV h2) hc'
   have hskip:(lay false o.dst (.tup []) σ fun σ''=>zBF T Γ M nm c.N all os σ'' K)->wpList c.P all.toArray Q os (a.put o.dst undef) w:=fun h =>
    zB4 (M:=M) (nm:=nm) hT hΓ hK hN os _ G β _ w (zEV h) (hc.put hd zTP rfl)
   dsimp only at h;unfold wpList;split at h
   ·rename_i hg
    rw[if_pos (by simp[Region.wanted,hg])]
    exact .inl (hrun h)
   ·rename_i j want hg
    split at h
    ·rename_i g hj
     have hj':(all.toArray[j]?).bind (·.dst)=some g :=(by simpa using hj);split at h
     ·rename_i hb
      have hy:=zLU hc hj' (hN j g hj) hb;split at h
      ·rw[if_pos (by simp[Region.wanted,hg,hy])]
       exact .inl (hrun h)
      ·rw[if_neg (by simp[Region.wanted,hg,hy])]
       exact hskip h
     ·rename_i hb
      have hy:=zLU hc hj' (hN j g hj) hb;split at h
      ·rw[if_pos (by simp[Region.wanted,hg,hy])]
       exact .inl (hrun h)
      ·rw[if_neg (by simp[Region.wanted,hg,hy])]
       exact hskip h
     ·rename_i hb
      have hy:=zME hc hj' (hN j g hj) hb;rw[if_neg (by simp[Region.wanted,hg,hy])]
      exact hskip h
     ·exact h.elim
    ·exact h.elim
def zQY (o:Oper):Bool:=match o.op with | .defer _=>false | _=>true
def zEG (N:Nat):List Oper->Bool
 | []=>true
 | o::os=>((match o.dst with | some t=>Nat.blt t N | none=>true)&&zQY o)&&zEG N os
theorem zKP {N:Nat}:∀ {os:List Oper},zEG N os=true->∀ o∈os,∀ c,o.op ≠ .defer c
 | [],_,o,h=>by cases h
 | o::os,ho,o',h=>by
  simp only[zEG,Bool.and_eq_true]at ho;rcases List.mem_cons.1 h with rfl | h
  ·intro c e;have:=ho.1.2;unfold zQY at this;rw[e]at this;cases this
  ·exact zKP ho.2 o' h
theorem zEu {N:Nat}:∀ {os:List Oper},zEG N os=true->∀ (j g:Nat),(os[j]?).bind (fun o=>o.dst)=some g->g<N
 | [],_,j,g,h=>by simp at h
 | o::os,ho,0,g,h=>by
  simp only[zEG,Bool.and_eq_true]at ho;simp at h;rw[h]at ho;exact Nat.le_of_ble_eq_true ho.1.1
 | o::os,ho,j+1,g,h=>by
  simp only[zEG,Bool.and_eq_true]at ho;exact zEu ho.2 j g (by simpa using h)
inductive End where
 | normal
 | exit (id:Nat)
 | ret
def zFP:End->Exit
 | .normal=>.normal
 | .exit id=>.exit id
 | .ret=>.ret
def rF (ro:Option Nat):Fence:={ Fence.wide with round:=ro }
theorem yBb (ro:Option Nat) (n:Nat):(rF ro).room n:=room_wide n
variable {w:World}{P:Program}{ro:Option Nat}
theorem zYV {n m:Nat}{x:Code}{Q:Exit->Act->World->Prop}{a:Act} (h:x.wpIn (rF ro) n P Q a w):x.wpIn (rF ro) m P Q a w :=
 fun b k cs hro hb _=>h b k cs hro hb (yBb ro _)
theorem zX7 {n:Nat}{o:Oper}{a:Act}{K K':Act->World->Prop}{Q:Exit->Act->World->Prop} (hd:∀ c,o.op ≠ .defer c) (hK:∀ a w,K a w->K' a w) (h:o.wp P a w K Q):o.wpIn (rF ro) n P a w K' Q:=by
 refine⟨fun _ _=>trivial,?_⟩
 rw[Oper.semAt_eq _ _ _ hd]
 unfold Oper.wp at h;unfold Oper.upon at h;unfold Oper.uponIn;generalize Sem.run P (execOp a.eval o) w=r at h ⊢;split at h
 ·exact hK _ _ h
 ·exact hK _ _ h
 ·exact hK _ _ h
 ·refine⟨fun h=>(by cases h),callsIn_wide.2 (h.mono fun e w' he=>?_)⟩
  cases e with
  | returned v=>exact hK _ _ he
  | panicked c=>exact he
  | outgrown=>exact he
 ·exact⟨fun h=>(by cases h),fun c cs _=>let ⟨v,w',r,s⟩:=h c cs; ⟨v,w',hK _ _ r,stepsIn_wide.2 s⟩⟩
 ·exact h
 ·exact h.elim
theorem zOE {ro:Option Nat}{n:Nat}{P:Program}{ops:Array Oper}{Q:Exit->Act->World->Prop} (hQ:¬ LetsOut Q):∀ (l:List Oper),(∀ o∈l,∀ c,o.op ≠ .defer c)->∀ a w,wpList P ops Q l a w->wpListIn (rF ro) n P ops Q l a w
 | [],_,a,w,h=>h
 | o::l,hd,a,w,h=>by
  have ih:=fun a w=>zOE (P:=P) (ops:=ops) (ro:=ro) (n:=n) hQ l (fun o ho=>hd o (mem_cons_of_mem _ ho)) a w
  unfold wpList at h;unfold wpListIn;split
  ·rename_i hw
   rw[if_pos hw]at h;rcases h with h | ⟨_,h⟩
   ·exact zX7 (hd o mem_cons_self) ih h
   ·exact absurd h hQ
  ·rename_i hw
   rw[if_neg hw]at h;exact⟨fun _ _=>trivial,ih _ _ h⟩
variable {Q:End->St->Prop}{c:Cx}
theorem zNQ:¬ LetsOut (fun e a' w'=>∃ e' G' β' σ',e=zFP e'/\Q e' σ'/\Conc c G' β' σ' a' w'):=by
 rintro⟨a,w,e',_,_,_,h,_⟩
 cases e' <;> cases h
def Tri (c:Cx) (code:Code) (σ:St) (Q:End->St->Prop):Prop :=
 ∀ G β a w,Conc c G β σ a w->code.wpIn (rF c.ro) 2 c.P (fun e a' w'=>∃ e' G' β' σ',e=zFP e'/\Q e' σ'/\Conc c G' β' σ' a' w') a w
variable {σ:St}{ops:List Oper}{id:Nat}{T:Nat->Option TI}
theorem zLR {Γ:Nat->Option zAr} (hT:TOk c.P T) (hΓ:∀ f s,Γ f=some s->PSound c.P f s) (M nm:List Nat)
  (hN:zEG c.N ops=true) (h:zBF T Γ M nm c.N ops ops σ (Q .normal)):Tri c (.region id ops.toArray false) σ Q:=fun G β a w hc =>
 wpIn_region_lit (zOE zNQ ops (zKP hN) a w <| zB4 hT hΓ (Q:=fun e a' w'=>∃ e' G' β' σ',e=zFP e'/\Q e' σ'/\Conc c G' β' σ' a' w') (fun σ' G' β' a' w' hk hc'=>⟨.normal,G',β',σ',rfl,hk,hc'⟩) (zEu hN) ops σ G β a w h hc)
theorem zAb {Γ:Nat->Option zAr} (M nm:List Nat) (hN:zEG c.N ops=true) (h:zBF T Γ M nm c.N ops ops σ (Q .normal)) (hT:TOk c.P T:=by exact tokW) (hΓ:∀ f s,Γ f=some s->PSound c.P f s:=by exact gok):Tri c (.region id ops.toArray false) σ Q :=
 zLR hT hΓ M nm hN h
theorem yCo {Γ:Nat->Option zAr} (h:zBF T Γ [] [] c.N ops ops σ (Q .normal)) (hN:zEG c.N ops=true:=by rfl) (hT:TOk c.P T:=by exact tokW) (hΓ:∀ f s,Γ f=some s->PSound c.P f s:=by exact gok):Tri c (.region id ops.toArray false) σ Q :=
 zAb [] [] hN h hT hΓ
def zZ3 (c:Cx) (y:Code) (Q:End->St->Prop):End->St->Prop
 | .normal,σ=>Tri c y σ Q
 | e,σ=>Q e σ
def zPt (id:Nat) (Q:End->St->Prop):End->St->Prop
 | .exit j,σ=>match Nat.beq j id with | true=>Q .normal σ | false=>Q (.exit j) σ
 | e,σ=>Q e σ
section
variable {c:Cx} {σ:St} {Q:End->St->Prop}
variable {x y:Code}
theorem zAa  (h:Tri c x σ (zZ3 c y Q)):Tri c (.seq x y) σ Q:=fun G β a w hc=>by
 refine wpIn_seq (wpIn_mono (h G β a w hc) ?_)
 rintro e a' w' ⟨e',G',β',σ',rfl,hq,hc'⟩
 cases e' with
 | normal=>exact hq G' β' a' w' hc'
 | exit id=>exact⟨.exit id,G',β',σ',rfl,hq,hc'⟩
 | ret=>exact⟨.ret,G',β',σ',rfl,hq,hc'⟩
variable {Q:End->St->Prop}{σ:St}{ops:List Oper}{id:Nat}{T:Nat->Option TI}{c:Cx}
theorem yBn {Γ:Nat->Option zAr} (M nm:List Nat) (hN:zEG c.N ops=true) (h:zBF T Γ M nm c.N ops ops σ (zZ3 c y Q .normal)) (hT:TOk c.P T:=by exact tokW) (hΓ:∀ f s,Γ f=some s->PSound c.P f s:=by exact gok):Tri c (.seq (.region id ops.toArray false) y) σ Q :=
 zAa (zLR hT hΓ M nm hN h)
theorem yCp {Γ:Nat->Option zAr} (h:zBF T Γ [] [] c.N ops ops σ (zZ3 c y Q .normal)) (hN:zEG c.N ops=true:=by rfl) (hT:TOk c.P T:=by exact tokW) (hΓ:∀ f s,Γ f=some s->PSound c.P f s:=by exact gok):Tri c (.seq (.region id ops.toArray false) y) σ Q :=
 yBn [] [] hN h hT hΓ
theorem zAe (h:Q .normal σ):Tri c .skip σ Q:=fun G β a w hc=>wpIn_skip ⟨.normal,G,β,σ,rfl,h,hc⟩
theorem zAD  (h:Q (.exit id) σ):Tri c (.exit id) σ Q:=fun G β a w hc=>wpIn_exit ⟨.exit id,G,β,σ,rfl,h,hc⟩
theorem zAd (h:Q .ret σ):Tri c .ret σ Q:=fun G β a w hc=>wpIn_ret ⟨.ret,G,β,σ,rfl,h,hc⟩
theorem zAk  (h:Tri c x σ (zPt id Q)):Tri c (.block id x) σ Q:=fun G β a w hc=>by
 refine wpIn_block (wpIn_mono (h G β a w hc) ?_)
 rintro e a' w' ⟨e',G',β',σ',rfl,hq,hc'⟩
 cases e' with
 | normal=>exact⟨.normal,G',β',σ',rfl,hq,hc'⟩
 | ret=>exact⟨.ret,G',β',σ',rfl,hq,hc'⟩
 | exit j =>
  simp only[zPt]at hq;show Exit.inBlock id _ (.exit j) a' w';unfold Exit.inBlock;dsimp only;split at hq
  ·rename_i e
   rw[if_pos (Nat.eq_of_beq_eq_true e)]
   exact⟨.normal,G',β',σ',rfl,hq,hc'⟩
  ·rename_i e
   rw[if_neg (Nat.ne_of_beq_eq_false e)]
   exact⟨.exit j,G',β',σ',rfl,hq,hc'⟩
theorem zAI {t:Nat}{b:Bool} (hb:σ.env t = .s (.bool b)) (h1:b=true->Tri c x σ Q) (h2:b=false->Tri c y σ Q):Tri c (.cond (.tmp t) x y) σ Q:=fun G β a w hc=>by
 have h:=hc.env t;rw[hb]at h;simp only[AVal,Rep]at h;exact wpIn_cond_split (t:=b) h (fun e=>h1 e G β a w hc) (fun e=>h2 e G β a w hc)
def Le (c:Cx) (σ σ':St):Prop:=∀ G β a w,Conc c G β σ a w->∃ G' β',Conc c G' β' σ' a w
theorem Le.refl (c:Cx) (σ:St):Le c σ σ:=fun G β _ _ h=>⟨G,β,h⟩
variable {σ':St}
theorem Le.trans {σ'':St} (h:Le c σ σ') (k:Le c σ' σ''):Le c σ σ'':=fun G β a w hc =>
 let ⟨G',β',h'⟩:=h G β a w hc
 k G' β' a w h'
theorem zAh  (hl:Le c σ σ') (h:Tri c x σ' Q):Tri c x σ Q:=fun G β a w hc =>
 let ⟨G',β',h'⟩:=hl G β a w hc
 h G' β' a w h'
theorem zRH {Q':End->St->Prop} (h:Tri c x σ Q) (hq:∀ e σ',Q e σ'->Q' e σ'):Tri c x σ Q':=fun G β a w hc =>
 wpIn_mono (h G β a w hc) fun e a' w' ⟨e',G',β',σ',h1,h2,h3⟩=>⟨e',G',β',σ',h1,hq _ _ h2,h3⟩
variable {X:Type}
theorem gX {P:Prop} (h:P:=by exact⟨e2,a2,w2,hq2,.of_steps (StepsIn.trans harr (.one (fenced_calm hb hr rfl) stepR_inLoop)) harr2⟩):P:=h
theorem zZ7  (E:X->St) (m:X->Nat) (x0:X) (h0:Le c σ (E x0))
  (h:∀ y,Tri c x (E y) (fun e σ'=>match e with | .normal=>∃ z,Le c σ' (E z)/\m z<m y | e=>Q e σ')):Tri c (.loop x) σ Q:=fun G β a w hc=>by
 obtain⟨G1,β1,hc1⟩:=h0 G β a w hc;intro b k cs hro hb hr;have key:∀ n y G β a w,m y=n->Conc c G β (E y) a w ->
   ∃ e a' w',(∃ e' G' β' σ',e=zFP e'/\Q e' σ'/\Conc c G' β' σ' a' w')/\ArrivesIn (Machine.fenced c.P (rF c.ro)) c.P (lone (b.atR a (.code x::.inLoop x::k)) cs w) b k cs e a' w':=by
  intro n
  induction n using Nat.strongRecOn with
  | _ n ih =>
   intro y G β a w hn hc;obtain⟨e,a',w',⟨e',G',β',σ',rfl,hq,hc'⟩,harr⟩:=h y G β a w hc b (.inLoop x::k) cs hro hb hr;cases e' with
   | normal =>
    obtain⟨z,hle,hlt⟩:=hq;obtain⟨G2,β2,hc2⟩:=hle G' β' a' w' hc';obtain⟨e2,a2,w2,hq2,harr2⟩:=ih (m z) (by omega) z G2 β2 a' w' rfl hc2;exact gX
   | exit id=>exact⟨.exit id,a',w',⟨.exit id,G',β',σ',rfl,hq,hc'⟩,.pass (x:=.inLoop x) rfl (fun _ _=>.inl (by simp[zFP])) harr⟩
   | ret=>exact⟨.ret,a',w',⟨.ret,G',β',σ',rfl,hq,hc'⟩,.pass (x:=.inLoop x) rfl (fun _ _=>.inl (by simp[zFP])) harr⟩
 obtain⟨e,a',w',hq,harr⟩:=key _ x0 G1 β1 a w rfl hc1;exact⟨e,a',w',hq,.of_steps (.one (fenced_calm hb hr rfl) stepR_loop) harr⟩
theorem zAA  (E:X->St) (I:X->Prop) (m:X->Nat) (x0:X) (i0:I x0) (h0:Le c σ (E x0))
  (h:∀ y,I y->Tri c x (E y) (fun e σ'=>match e with | .normal=>∃ z,I z/\Le c σ' (E z)/\m z<m y | e=>Q e σ')):Tri c (.loop x) σ Q :=
 zZ7 (X:={ y:X // I y }) (fun y=>E y.1) (fun y=>m y.1) ⟨x0,i0⟩ h0 fun y=>zRH (h y.1 y.2) fun e σ' hq=>by
  cases e with
  | normal=>obtain⟨z,h1,h2,h3⟩:=hq; exact⟨⟨z,h1⟩,h2,h3⟩
  | exit id=>exact hq
  | ret=>exact hq
def ofL (l:List (Nat×AV)):Nat->AV :=
 match l with
 | []=>fun _=>.junk
 | (t,x)::r=>fun s=>bif Nat.beq s t then x else ofL r s
def ofH (l:List (Nat×Ob)):Nat->Option Ob :=
 match l with
 | []=>fun _=>none
 | (t,x)::r=>fun s=>bif Nat.beq s t then some x else ofH r s
def holds (env:Nat->AV):List (Nat×AV)->Prop
 | []=>True
 | (t,x)::r=>env t=x/\holds env r
theorem zST {P:AV->Prop} (hj:P .junk):∀ {l:List (Nat×AV)}{env:Nat->AV},holds env l->(∀ t,P (env t))->∀ t,ofL l t = .junk∨ofL l t=env t
 | [],env,_,_,t=>.inl rfl
 | (s,x)::r,env,h,hp,t=>by
  simp only[ofL]
  cases e:Nat.beq t s with
  | true=>obtain rfl:=Nat.eq_of_beq_eq_true e; exact .inr h.1.symm
  | false=>exact zST hj h.2 hp t
theorem Le.forget (l:List (Nat×AV)) (h:holds σ.env l):Le c σ { σ with env:=ofL l }:=fun G β a w hc=>by
 have he:=zST (P:=fun _=>True) trivial h (fun _=>trivial)
 refine⟨G,β,{ hc with env:=fun t=>?_,envlt:=fun t=>?_ }⟩
 ·rcases he t with e | e <;> (dsimp only; rw[e])
  ·simp only[AVal]
  ·exact hc.env t
 ·rcases he t with e | e <;> (dsimp only; rw[e])
  ·rfl
  ·exact hc.envlt t
theorem Le.fgt {l:List (Nat×AV)} (h:holds σ.env l:=by repeat (first | exact trivial | refine⟨rfl,?_⟩)):Le c σ { σ with env:=ofL l } :=
 Le.forget l h
def kept (hp:Nat->Option Ob) (ρ:List (Nat×Nat)):List (Nat×Nat)->List (Nat×Ob)->Prop
 | [],[]=>True
 | (k,j)::r,(j',o)::l=>j=j'/\(∃ o0,hp k=some o0/\o0.ren ρ=o)/\kept hp ρ r l
 | _,_=>False
variable {l:List (Nat×Nat)}
theorem zSI:distinct (l.map (·.1))=true->∀ {k j j'},(k,j)∈l->(k,j')∈l->j=j':=by
 induction l with
 | nil=>intro _ k j j' h; cases h
 | cons p r ih =>
  intro h k j j' h1 h2;simp only[map_cons,distinct,Bool.and_eq_true]at h;have hn:=zGC h.1;rcases List.mem_cons.1 h1 with h1 | h1 <;> rcases List.mem_cons.1 h2 with h2 | h2
  ·rw[← h1]at h2; cases h2; rfl
  ·exact absurd (List.mem_map.2 ⟨_,h2,by rw[← h1]⟩) hn
  ·exact absurd (List.mem_map.2 ⟨_,h1,by rw[← h2]⟩) hn
  ·exact ih h.2 h1 h2
theorem zMj:distinct (l.map (·.2))=true->∀ {k k' j},(k,j)∈l->(k',j)∈l->k=k':=by
 induction l with
 | nil=>intro _ k k' j h; cases h
 | cons p r ih =>
  intro h k k' j h1 h2;simp only[map_cons,distinct,Bool.and_eq_true]at h;have hn:=zGC h.1;rcases List.mem_cons.1 h1 with h1 | h1 <;> rcases List.mem_cons.1 h2 with h2 | h2
  ·rw[← h1]at h2; cases h2; rfl
  ·exact absurd (List.mem_map.2 ⟨_,h2,by rw[← h1]⟩) hn
  ·exact absurd (List.mem_map.2 ⟨_,h1,by rw[← h2]⟩) hn
  ·exact ih h.2 h1 h2
def zS4 (j:Nat):List (Nat×Nat)->Option Nat
 | []=>none
 | (a,b)::r=>bif Nat.beq j b then some a else zS4 j r
theorem zKV {k j:Nat}:∀ {l:List (Nat×Nat)},zS4 j l=some k->(k,j)∈l
 | [],h=>by simp[zS4]at h
 | (a,b)::r,h=>by
  simp only[zS4]at h;cases e:Nat.beq j b with
  | true=>rw[e,cond_true]at h; cases h; obtain rfl:=Nat.eq_of_beq_eq_true e; simp
  | false=>rw[e,cond_false]at h; simp[zKV h]
theorem zIC {k j:Nat}:∀ {l:List (Nat×Nat)},(k,j)∈l->∃ k',zS4 j l=some k'
 | [],h=>by cases h
 | (a,b)::r,h=>by
  simp only[zS4]
  cases e:Nat.beq j b with
  | true=>exact⟨a,by simp⟩
  | false =>
   rw[cond_false]
   rcases List.mem_cons.1 h with h | h
   ·cases h; exact absurd rfl (Nat.ne_of_beq_eq_false e)
   ·exact zIC h
def rens (env:Nat->AV) (ρ:List (Nat×Nat)):List (Nat×AV)->Prop
 | []=>True
 | (t,x)::r=>(env t).ren ρ=x/\rens env ρ r
theorem zMV {hp:Nat->Option Ob}{ρ:List (Nat×Nat)}:∀ {r:List (Nat×Nat)}{l:List (Nat×Ob)},kept hp ρ r l->∀ {j o},ofH l j=some o->∃ k o0,(k,j)∈r/\hp k=some o0/\o0.ren ρ=o
 | [],[],_,j,o,h=>by simp[ofH]at h
 | [],_::_,hk,_,_,_=>hk.elim
 | _::_,[],hk,_,_,_=>hk.elim
 | (k,j1)::r,(j2,o2)::l,hk,j,o,h=>by
  simp only[kept]at hk;obtain⟨rfl,⟨o0,h1,h2⟩,h4⟩:=hk;simp only[ofH]at h;cases e:Nat.beq j j1 with
  | true =>
   rw[e,cond_true]at h; cases h
   obtain rfl:=Nat.eq_of_beq_eq_true e;exact⟨k,o0,by simp,h1,h2⟩
  | false =>
   rw[e,cond_false]at h;obtain⟨k',o',h5,h6⟩:=zMV h4 h;exact⟨k',o',by simp[h5],h6⟩
def ltL (n:Nat):List (Nat×AV)->Bool
 | []=>true
 | (_,x)::r=>x.lt n&&ltL n r
def ltH (n:Nat):List (Nat×Ob)->Bool
 | []=>true
 | (k,o)::r=>Nat.blt k n&&o.lt n&&ltH n r
theorem zMW {n:Nat}:∀ {l:List (Nat×AV)},ltL n l=true->∀ t,(ofL l t).lt n=true
 | [],_,t=>rfl
 | (s,x)::r,h,t=>by
  simp only[ltL,Bool.and_eq_true]at h;simp only[ofL]
  cases Nat.beq t s with
  | true=>exact h.1
  | false=>exact zMW h.2 t
theorem zVv {n:Nat}:∀ {l:List (Nat×Ob)},ltH n l=true->∀ k o,ofH l k=some o->k<n/\o.lt n=true
 | [],_,k,o,h=>by simp[ofH]at h
 | (s,x)::r,h,k,o,hk=>by
  simp only[ltH,Bool.and_eq_true]at h;simp only[ofH]at hk;cases e:Nat.beq k s with
  | true =>
   rw[e,cond_true]at hk; cases hk
   obtain rfl:=Nat.eq_of_beq_eq_true e;exact⟨Nat.le_of_ble_eq_true h.1.1,h.1.2⟩
  | false=>rw[e,cond_false]at hk; exact zVv h.2 k o hk
def zOy (n0 n:Nat):List (Nat×Nat)->Bool
 | []=>Nat.ble n0 n
 | (k,j)::r=>(Nat.ble n0 j||Nat.beq k j)&&zOy n0 n r
theorem zKh {n0 n:Nat}:∀ {ρ:List (Nat×Nat)},zOy n0 n ρ=true->n0<=n/\∀ k j,(k,j)∈ρ->j<n0->k=j
 | [],h=>⟨Nat.le_of_ble_eq_true h,fun k j h=>by cases h⟩
 | (a,b)::r,h=>by
  simp only[zOy,Bool.and_eq_true,Bool.or_eq_true]at h;obtain⟨h1,h2⟩:=zKh h.2;refine⟨h1,fun k j hm hj=>?_⟩
  rcases List.mem_cons.1 hm with hm | hm
  ·cases hm;rcases h.1 with h3 | h3
   ·have:=Nat.le_of_ble_eq_true h3; omega
   ·exact Nat.eq_of_beq_eq_true h3
  ·exact h2 k j hm hj
def zSu (β:Nat->Value) (ρ:List (Nat×Nat)) (j:Nat):Value:=match zS4 j ρ with | some k=>β k | none=>β j
theorem Le.rename (ρ:List (Nat×Nat)) (l:List (Nat×AV)) (hl:List (Nat×Ob)) (n:Nat) (h1:rens σ.env ρ l) (h2:kept σ.hp ρ ρ hl) (h3:distinct (ρ.map (·.1))=true) (h4:distinct (ρ.map (·.2))=true)
  (h5:ltL n l=true) (h6:ltH n hl=true) (h7:zOy c.n0 n ρ=true):Le c σ { env:=ofL l,hp:=ofH hl,nx:=n }:=fun G β a w hc=>by
 have hb:∀ k j,look k ρ=some j->(zSu β ρ) j=β k:=fun k j hkj=>by
  have hm:=zVu hkj;obtain⟨k',hk'⟩:=zIC hm;have:=zMj h4 hm (zKV hk')
  subst this;simp only[zSu,hk']
 have henv:∀ {l:List (Nat×AV)},rens σ.env ρ l->∀ t,AVal G w (zSu β ρ) (ofL l t) (a.tmps.getD t undef):=fun {l}=>by
  induction l with
  | nil=>intro _ t; simp only[ofL,AVal]
  | cons p r ih =>
   obtain⟨s,x⟩:=p;intro h t;simp only[ofL]
   cases e:Nat.beq t s with
   | true=>obtain rfl:=Nat.eq_of_beq_eq_true e; rw[cond_true,← h.1]; exact(hc.env t).ren hb
   | false=>exact ih h.2 t
 have hat:∀ {v:Value} {o o':Ob},o.ren ρ=o'->ObAt c G w β v o->ObAt c G w (zSu β ρ) v o':=fun {v o o'} ho h=>by
  subst ho;cases o with
  | box xs =>
   obtain⟨b,e,cur,q1,q2,q3,q4,q5,q6⟩:=h;exact⟨b,e,cur,q1,q2,q3,q4,q5.ren hb,q6⟩
  | row e sz rows=>exact h
  | arow e sz rows=>exact ObAt.ren hb (fun _ _ h=>h) h
  | any τ xs =>
   obtain⟨b,o,vs,q1,q2,q3,q4,q5,q6⟩:=h;exact⟨b,o,vs,q1,q2,q3,q4,q5.ren hb,q6⟩
 have hβ:∀ {k j},(k,j)∈ρ->(zSu β ρ) j=β k:=fun {k j} hm=>by
  obtain⟨k',hk'⟩:=zIC hm;have:=zMj h4 hm (zKV hk')
  subst this;simp only[zSu,hk']
 refine⟨G,zSu β ρ,{ defers:=hc.defers,size:=hc.size,env:=henv h1,envlt:=zMW h5,hp:=fun j o hj=>?_,hplt:=zVv h6,inj:=?_,lt:=hc.lt,sub:=hc.sub,new:=hc.new,fr:=hc.fr,stay:=⟨(zKh h7).1,fun j hj=>?_⟩,glob:=hc.glob }⟩
 ·obtain⟨k,o0,hm,hk,ho⟩:=zMV h2 hj;rw[hβ hm]
  exact hat ho (hc.hp k o0 hk)
 ·intro j j' o o' hj hj' hne b hb1 hb2;obtain⟨k,o0,hm,hk,_⟩:=zMV h2 hj;obtain⟨k',o0',hm',hk',_⟩:=zMV h2 hj';rw[hβ hm]at hb1;rw[hβ hm']at hb2;exact hc.inj k k' o0 o0' hk hk' (fun e=>hne (by subst e; exact zSI h3 hm hm')) b hb1 hb2
 ·unfold zSu;cases hl:zS4 j ρ with
  | none=>exact hc.stay.2 j hj
  | some k =>
   obtain rfl:=(zKh h7).2 k j (zKV hl) hj;exact hc.stay.2 k hj
theorem Le.rnm  (ρ:List (Nat×Nat)) (l:List (Nat×AV)) (hl:List (Nat×Ob)) (n:Nat) (h1:rens σ.env ρ l) (h2:kept σ.hp ρ ρ hl) (h3:distinct (ρ.map (·.1))=true:=by exact rfl) (h4:distinct (ρ.map (·.2))=true:=by exact rfl) (h5:ltL n l=true:=by exact rfl) (h6:ltH n hl=true:=by exact rfl) (h7:zOy c.n0 n ρ=true:=by exact rfl):Le c σ { env:=ofL l,hp:=ofH hl,nx:=n } :=
 Le.rename ρ l hl n h1 h2 h3 h4 h5 h6 h7
theorem Le.rnq  (ρ:List (Nat×Nat)) (l:List (Nat×AV)) (hl:List (Nat×Ob)) (n:Nat) (h1:rens σ.env ρ l:=by repeat (first | exact trivial | refine⟨rfl,?_⟩)) (h2:kept σ.hp ρ ρ hl:=by repeat (first | exact trivial | refine⟨rfl,⟨_,rfl,rfl⟩,?_⟩)) (h3:distinct (ρ.map (·.1))=true:=by exact rfl) (h4:distinct (ρ.map (·.2))=true:=by exact rfl) (h5:ltL n l=true:=by exact rfl) (h6:ltH n hl=true:=by exact rfl) (h7:zOy c.n0 n ρ=true:=by exact rfl):Le c σ { env:=ofL l,hp:=ofH hl,nx:=n } :=
 Le.rename ρ l hl n h1 h2 h3 h4 h5 h6 h7
mutual
def AV.frz (k:Nat) (r:AV) (p:Nat->AV):AV->AV
 | .op j o=>match Nat.beq j k with | true=>p o | false=>.op j o
 | .orow j=>match Nat.beq j k with | true=>r | false=>.orow j
 | .rp j sz i o=>match Nat.beq j k with | true=>.junk | false=>.rp j sz i o
 | .mref j=>match Nat.beq j k with | true=>.junk | false=>.mref j
 | .agg xs=>.agg (AV.frzAll k r p xs)
 | .tup xs=>.tup (AV.frzAll k r p xs)
 | .clo f xs=>.clo f (AV.frzAll k r p xs)
 | x=>x
def AV.frzAll (k:Nat) (r:AV) (p:Nat->AV):List AV->List AV
 | []=>[]
 | x::xs=>AV.frz k r p x::AV.frzAll k r p xs
end
mutual
theorem AVal.frz {G G':Nat->Prop}{w:World}{β:Nat->Value}{k:Nat}{r:AV}{p:Nat->AV} (hG:∀ b,G b->G' b) (hr:(∃ o n cp,β k = .slice o n cp)->AVal G' w β r (β k)) (hp:∀ b o,β k = .pointer (some ⟨b,0,none⟩)->AVal G' w β (p o) (.pointer (some ⟨b,o,none⟩))) :
  ∀ {x:AV} {v:Value},AVal G w β x v->AVal G' w β (AV.frz k r p x) v
 | .s x,v,h=>by simp only[AVal,AV.frz]at h ⊢; exact h.keep ⟨hG,fun _ _=>rfl⟩
 | .nl _,v,h=>by simp only[AVal,AV.frz]at h ⊢; exact h
 | .agg xs,v,h=>by
  simp only[AVal,AV.frz]at h ⊢
  obtain⟨vs,h1,h2⟩:=h
  exact⟨vs,h1,AVals.frz hG hr hp h2⟩
 | .tup xs,v,h=>by
  simp only[AVal,AV.frz]at h ⊢
  obtain⟨vs,h1,h2⟩:=h
  exact⟨vs,h1,AVals.frz hG hr hp h2⟩
 | .clo f xs,v,h=>by
  simp only[AVal,AV.frz]at h ⊢
  obtain⟨vs,h1,h2⟩:=h
  exact⟨vs,h1,AVals.frz hG hr hp h2⟩
 | .op j o,v,h=>by
  simp only[AV.frz]
  split
  ·rename_i e; obtain rfl:=Nat.eq_of_beq_eq_true e
   simp only[AVal]at h
   obtain⟨b,h1,rfl⟩:=h
   exact hp b o h1
  ·simp only[AVal]at h ⊢; exact h
 | .orow j,v,h=>by
  simp only[AV.frz]
  split
  ·rename_i e; obtain rfl:=Nat.eq_of_beq_eq_true e
   simp only[AVal]at h
   obtain⟨rfl,h1⟩:=h
   exact hr h1
  ·simp only[AVal]at h ⊢; exact h
 | .rp j sz i o,v,h=>by
  simp only[AV.frz]
  split
  ·simp only[AVal]
  ·simp only[AVal]at h ⊢; exact h
 | .mref j,v,h=>by
  simp only[AV.frz]
  split
  ·simp only[AVal]
  ·simp only[AVal]at h ⊢; exact h
 | .junk,_,_=>by simp only[AV.frz,AVal]
theorem AVals.frz {G G':Nat->Prop}{w:World}{β:Nat->Value}{k:Nat}{r:AV}{p:Nat->AV} (hG:∀ b,G b->G' b) (hr:(∃ o n cp,β k = .slice o n cp)->AVal G' w β r (β k)) (hp:∀ b o,β k = .pointer (some ⟨b,0,none⟩)->AVal G' w β (p o) (.pointer (some ⟨b,o,none⟩))) :
  ∀ {xs:List AV} {vs:List Value},AVals G w β xs vs->AVals G' w β (AV.frzAll k r p xs) vs
 | [],_,h=>by simp only[AVals,AV.frzAll]at h ⊢; exact h
 | x::xs,vs,h=>by
  simp only[AVals,AV.frzAll]at h ⊢
  obtain⟨v,vs',h1,h2,h3⟩:=h
  exact⟨v,vs',h1,AVal.frz hG hr hp h2,AVals.frz hG hr hp h3⟩
end
mutual
theorem AV.frz_lt {n k:Nat}{r:AV}{p:Nat->AV} (hr:r.lt n=true) (hp:∀ o,(p o).lt n=true):∀ {x:AV},x.lt n=true->(AV.frz k r p x).lt n=true
 | .s _,h=>rfl
 | .nl _,h=>rfl
 | .junk,h=>rfl
 | .agg xs,h=>by simp only[AV.frz,AV.lt]at *; exact AV.frzAll_lt hr hp h
 | .tup xs,h=>by simp only[AV.frz,AV.lt]at *; exact AV.frzAll_lt hr hp h
 | .clo _ xs,h=>by simp only[AV.frz,AV.lt]at *; exact AV.frzAll_lt hr hp h
 | .op j o,h=>by simp only[AV.frz]; split <;> first | exact hp o | exact h
 | .orow j,h=>by simp only[AV.frz]; split <;> first | exact hr | exact h
 | .rp j sz i o,h=>by simp only[AV.frz]; split <;> first | rfl | exact h
 | .mref j,h=>by simp only[AV.frz]; split <;> first | rfl | exact h
theorem AV.frzAll_lt {n k:Nat}{r:AV}{p:Nat->AV} (hr:r.lt n=true) (hp:∀ o,(p o).lt n=true):∀ {xs:List AV},AV.ltAll n xs=true->AV.ltAll n (AV.frzAll k r p xs)=true
 | [],_=>rfl
 | x::xs,h=>by
  simp only[AV.frzAll,AV.ltAll,Bool.and_eq_true]at *
  exact⟨AV.frz_lt hr hp h.1,AV.frzAll_lt hr hp h.2⟩
end
def Ob.frz (k:Nat) (r:AV) (p:Nat->AV):Ob->Ob
 | .box t xs=>.box t (AV.frzAll k r p xs)
 | .arow e sz rows=>.arow e sz (rows.map (AV.frzAll k r p))
 | .any τ xs=>.any τ (AV.frzAll k r p xs)
 | o=>o
theorem zNL {k:Nat}{r:AV}{p:Nat->AV}:∀ (l:List AV),AV.frzAll k r p l=l.map (AV.frz k r p)
 | []=>rfl
 | x::l=>by simp[AV.frzAll,zNL l]
theorem zHb {k:Nat}{r:AV}{p:Nat->AV}:∀ (rows:List (List AV)),(rows.map (AV.frzAll k r p)).flatten=rows.flatten.map (AV.frz k r p)
 | []=>rfl
 | x::rows=>by simp[zNL,zHb rows,map_append]
def zMn (σ:St) (k:Nat) (r:AV) (p:Nat->AV):St :=
 { env:=fun t=>AV.frz k r p (σ.env t),hp:=fun j=>bif Nat.beq j k then none else (σ.hp j).map (Ob.frz k r p),nx:=σ.nx }
variable {w:World}{a:Act}{β:Nat->Value}{G:Nat->Prop}
theorem Conc.given {G':Nat->Prop} (hc:Conc c G β σ a w){k:Nat}{ob:Ob} (hk:σ.hp k=some ob){r:AV}{p:Nat->AV} (hsub:∀ b,G b->G' b)
  (hnew:∀ b,G' b->G b∨blk (β k)=some b)
  (hr:(∃ o n cp,β k = .slice o n cp)->AVal G' w β r (β k)) (hp:∀ b o,β k = .pointer (some ⟨b,0,none⟩)->AVal G' w β (p o) (.pointer (some ⟨b,o,none⟩)))
  (hrl:r.lt σ.nx=true) (hpl:∀ o,(p o).lt σ.nx=true):Conc c G' β (zMn σ k r p) a w:=by
 have hkeep:Keep G G' w w:=⟨hsub,fun _ _=>rfl⟩
 have hget:∀ {j o'},(zMn σ k r p).hp j=some o'->j ≠ k/\∃ o,σ.hp j=some o/\o'=Ob.frz k r p o:=fun {j o'} h=>by
  simp only[zMn]at h;cases e:Nat.beq j k with
  | true=>rw[e,cond_true]at h; cases h
  | false =>
   rw[e,cond_false]at h;obtain⟨o,h1,h2⟩:=Option.map_eq_some_iff.1 h;exact⟨Nat.ne_of_beq_eq_false e,o,h1,h2.symm⟩
 have hmk:=row_block (hc.hp k ob hk)
 refine { defers:=hc.defers,size:=hc.size,env:=fun t=>(hc.env t).frz hsub hr hp,envlt:=fun t=>AV.frz_lt hrl hpl (hc.envlt t),hp:=fun j o' hj=>?_,hplt:=fun j o' hj=>?_,inj:=?_,lt:=fun b hb=>?_,sub:=fun b hb=>hsub b (hc.sub b hb),new:=fun b hb=>?_,fr:=hc.fr,stay:=hc.stay,glob:=hc.glob.keep hkeep }
 ·obtain⟨hne,o,h1,rfl⟩:=hget hj;have ho:=hc.hp j o h1;have hng:∀ b,blk (β j)=some b->¬ G' b:=fun b hb hg'=>by
   rcases hnew b hg' with h | h
   ·exact(row_block ho b hb).1 h
   ·exact hc.inj j k o ob h1 hk hne b hb h
  cases o with
  | box xs =>
   obtain⟨b,e,cur,q1,q2,q3,q4,q5,q6⟩:=ho;exact⟨b,e,cur,q1,q2,hng b (by rw[q1]; rfl),q4,AVals.frz hsub hr hp q5,q6⟩
  | row e sz rows =>
   obtain⟨q1,q2,q3⟩:=ho;refine⟨q1,q2,q3.imp id ?_⟩
   rintro⟨b,cap,cur,g1,g2,g3,g4,g5,g6,g7⟩
   exact⟨b,cap,cur,g1,g2,g3,g4,hng b (by rw[g1]; rfl),g6,fun i s hi=>let ⟨u,hu,hr'⟩:=g7 i s hi; ⟨u,hu,hr'.keep hkeep⟩⟩
  | arow e sz rows =>
   obtain⟨q1,q2,q3⟩:=ho;refine⟨fun x hx=>by obtain⟨y,hy,rfl⟩:=List.mem_map.1 hx; rw[zNL,length_map]; exact q1 y hy,q2,q3.imp (fun h=>⟨h.1,by rw[h.2]; rfl⟩) ?_⟩
   rintro⟨b,cap,cur,g1,g2,g3,g4,g5,g6,g7⟩
   refine⟨b,cap,cur,by rw[length_map]; exact g1,by rw[length_map]; exact g2,g3,g4,hng b (by rw[g1]; rfl),g6,fun i x hi=>?_⟩
   rw[zHb,List.getElem?_map]at hi;obtain⟨y,hy,rfl⟩:=Option.map_eq_some_iff.1 hi;obtain⟨u,hu,hr',h1⟩:=g7 i y hy;exact⟨u,hu,AVal.frz hsub hr hp hr',h1⟩
  | any τ xs =>
   obtain⟨b,o,vs,q1,q2,q3,q4,q5,q6⟩:=ho;exact⟨b,o,vs,q1,q2,hng b q1,q4,AVals.frz hsub hr hp q5,q6⟩
 ·obtain⟨hne,o,h1,rfl⟩:=hget hj;obtain⟨h2,h3⟩:=hc.hplt j o h1;refine⟨h2,?_⟩
  cases o with
  | box xs=>simp only[Ob.lt,Ob.frz]at *; exact AV.frzAll_lt hrl hpl h3
  | any xs=>simp only[Ob.lt,Ob.frz]at *; exact AV.frzAll_lt hrl hpl h3
  | row=>rfl
  | arow e sz rows =>
   simp only[Ob.lt,Ob.frz]at *;refine zCD fun q y hq=>?_
   rw[zHb,List.getElem?_map]at hq;obtain⟨z,hz,rfl⟩:=Option.map_eq_some_iff.1 hq;exact AV.frz_lt hrl hpl (zBd h3 hz)
 ·intro j j' o o' hj hj' hne b hb hb';obtain⟨_,o1,h1,_⟩:=hget hj;obtain⟨_,o2,h2,_⟩:=hget hj';exact hc.inj j j' o1 o2 h1 h2 hne b hb hb'
 ·rcases hnew b hb with h | h
  ·exact hc.lt b h
  ·exact hc.blk_lt hk h
 ·rcases hnew b hb with h | h
  ·exact hc.new b h
  ·exact .inr (hmk b h).2
variable {rows:List (List S)}{e sz:Nat}
theorem Le.giveRow (k:Nat) (hk:σ.hp k=some (.row e sz rows)):Le c σ (zMn σ k (.s (.sl sz rows)) (fun _=>.junk)):=fun G β a w hc=>by
 obtain⟨hlen,hsz,ho⟩:=hc.hp k _ hk;rcases ho with ⟨h1,rfl⟩ | ⟨b,cap,cur,h1,h2,h3,⟨mk,hmk,h4⟩,h5,h6,h7⟩
 ·refine⟨G,β,hc.given hk (fun _ h=>h) (fun _ h=>.inl h) (fun _=>?_) (fun b o h=>by rw[h1]at h; cases h) rfl (fun _=>rfl)⟩
  rw[h1]; simp[AVal,Rep]
 ·refine⟨fun i=>G i∨i=b,β,hc.given hk (fun _ h=>.inl h) (fun i h=>h.imp id (fun e=>by rw[h1,e]; rfl)) (fun _=>?_) (fun b o h=>by rw[h1]at h; cases h) rfl (fun _=>rfl)⟩
  rw[h1]
  simp only[AVal,Rep]
  refine .inr ⟨b,0,cap,rfl,h2,zCC hlen (RepRow.mk fun i s hi=>⟨.inr rfl,?_⟩)⟩
  obtain⟨u,hu,hr⟩:=h7 i s hi;exact⟨u,by simp[World.cell?,h4,hu],hr.keep ⟨fun _ h=>.inl h,fun _ _=>rfl⟩⟩
def zGK:List (List AV)->Option (List (List S))
 | []=>some []
 | r::rs=>match zLM r,zGK rs with | some y,some ys=>some (y::ys) | _,_=>none
theorem zTG:∀ {xs:List AV}{ss:List S},zLM xs=some ss->xs.map AV.sc=ss.map some
 | [],ss,h=>by simp only[zLM,Option.some.injEq]at h; subst h; rfl
 | x::xs,ss,h=>by
  simp only[zLM]at h;split at h
  ·rename_i y ys h1 h2
   cases h;simp[h1,zTG h2]
  ·cases h
theorem zLN:∀ {rows:List (List AV)}{rs:List (List S)},zGK rows=some rs->rows.flatten.map AV.sc=rs.flatten.map some/\rows.length=rs.length/\∀ sz,(∀ r∈rows,r.length=sz)->∀ r∈rs,r.length=sz
 | [],rs,h=>by simp only[zGK,Option.some.injEq]at h; subst h; exact⟨rfl,rfl,fun _ _ _ h=>by cases h⟩
 | r::rows,rs,h=>by
  simp only[zGK]at h;split at h
  ·rename_i y ys h1 h2
   cases h;obtain⟨a1,a2,a3⟩:=zLN h2;have a0:=zTG h1;have al:r.length=y.length :=(by simpa using congrArg List.length a0);refine⟨by simp[a0,a1],by simp[a2],fun sz hl r' hr'=>?_⟩
   rcases List.mem_cons.1 hr' with rfl | hr'
   ·rw[← al]; exact hl r (by simp)
   ·exact a3 sz (fun q hq=>hl q (by simp[hq])) r' hr'
  ·cases h
theorem Le.giveArow (k:Nat){rows:List (List AV)} (rs:List (List S)) (hk:σ.hp k=some (.arow e sz rows)) (hs:zGK rows=some rs):Le c σ (zMn σ k (.s (.sl sz rs)) (fun _=>.junk)):=fun G β a w hc=>by
 obtain⟨hlen,hsz,ho⟩:=hc.hp k _ hk;obtain⟨s1,s2,s3⟩:=zLN hs;rcases ho with ⟨h1,rfl⟩ | ⟨b,cap,cur,h1,h2,h3,⟨mk,hmk,h4⟩,h5,h6,h7⟩
 ·refine⟨G,β,hc.given hk (fun _ h=>h) (fun _ h=>.inl h) (fun _=>?_) (fun b o h=>by rw[h1]at h; cases h) rfl (fun _=>rfl)⟩
  obtain rfl:rs=[]:=List.length_eq_zero_iff.1 (by simpa using s2.symm)
  rw[h1]; simp[AVal,Rep]
 ·refine⟨fun i=>G i∨i=b,β,hc.given hk (fun _ h=>.inl h) (fun i h=>h.imp id (fun e=>by rw[h1,e]; rfl)) (fun _=>?_) (fun b o h=>by rw[h1]at h; cases h) rfl (fun _=>rfl)⟩
  rw[h1]
  simp only[AVal,Rep]
  refine .inr ⟨b,0,cap,by rw[s2],by rw[← s2]; exact h2,zCC (s3 sz hlen) (RepRow.mk fun i s hi=>⟨.inr rfl,?_⟩)⟩
  have hm:(rows.flatten.map AV.sc)[i]? = some (some s) :=(by rw[s1,List.getElem?_map,hi]; rfl);rw[List.getElem?_map]at hm;obtain⟨x,hx,hxs⟩:=Option.map_eq_some_iff.1 hm;obtain⟨u,hu,hr,_⟩:=h7 i x hx;exact⟨u,by simp[World.cell?,h4,hu],(AV.sc_rep hxs hr).keep ⟨fun _ h=>.inl h,fun _ _=>rfl⟩⟩
theorem Le.toA (k:Nat) (hk:σ.hp k=some (.row e sz rows)):Le c σ (zEe σ k (.arow e sz (rows.map (·.map AV.s)))):=fun G β a w hc=>by
 have hf:(rows.map (·.map AV.s)).flatten=rows.flatten.map AV.s :=(by simp[map_flatten]);have hget:∀ {j o},(zEe σ k (.arow e sz (rows.map (·.map AV.s)))).hp j=some o->(j=k/\o = .arow e sz (rows.map (·.map AV.s)))∨(j ≠ k/\σ.hp j=some o):=fun {j o} h=>by
  simp only[zEe]at h;cases hq:Nat.beq j k with
  | true=>rw[hq,cond_true]at h; cases h; exact .inl ⟨Nat.eq_of_beq_eq_true hq,rfl⟩
  | false=>rw[hq,cond_false]at h; exact .inr ⟨Nat.ne_of_beq_eq_false hq,h⟩
 have hget':∀ {j o},(zEe σ k (.arow e sz (rows.map (·.map AV.s)))).hp j=some o->∃ o',σ.hp j=some o':=fun {j o} h=>by
  rcases hget h with ⟨rfl,_⟩ | ⟨_,h⟩
  ·exact⟨_,hk⟩
  ·exact⟨_,h⟩
 refine⟨G,β,{ hc with hp:=fun j o hj=>?_,hplt:=fun j o hj=>?_,inj:=fun j j' o o' hj hj'=>(let ⟨_,h1⟩:=hget' hj; let ⟨_,h2⟩:=hget' hj'; hc.inj j j' _ _ h1 h2) }⟩
 ·rcases hget hj with ⟨rfl,rfl⟩ | ⟨_,h⟩
  ·obtain⟨hlen,hsz,ho⟩:=hc.hp j _ hk;refine⟨fun r hr=>by obtain⟨r',hr',rfl⟩:=List.mem_map.1 hr; simpa using hlen r' hr',hsz,ho.imp (fun h=>⟨h.1,by rw[h.2]; rfl⟩) ?_⟩
   rintro⟨b,cap,cur,h1,h2,h3,h4,h5,h6,h7⟩
   refine⟨b,cap,cur,by rw[length_map]; exact h1,by rw[length_map]; exact h2,h3,h4,h5,h6,fun i x hi=>?_⟩
   rw[hf,List.getElem?_map]at hi;obtain⟨s,hs,rfl⟩:=Option.map_eq_some_iff.1 hi;obtain⟨u,hu,hr⟩:=h7 i s hs;exact⟨u,hu,by simpa only[AVal] using hr,hr.one⟩
  ·exact hc.hp j o h
 ·rcases hget hj with ⟨rfl,rfl⟩ | ⟨_,h⟩
  ·refine⟨(hc.hplt j _ hk).1,?_⟩
   simp only[Ob.lt]; rw[hf]; exact zXX _
  ·exact hc.hplt j o h
variable {cells:List AV}{bt:Nat}
theorem Le.giveBox (k:Nat) (ss:List S) (hk:σ.hp k=some (.box bt cells)) (hs:zLM cells=some ss):Le c σ (zMn σ k .junk (fun o=>.s (.pt (ss.drop o)))):=fun G β a w hc=>by
 obtain⟨b,e,cur,h1,h2,h3,h4,h5,h6⟩:=hc.hp k _ hk;have hreps:=zLe hs h5;refine⟨fun i=>G i∨i=b,β,hc.given hk (fun _ h=>.inl h) (fun i h=>h.imp id (fun e=>by rw[h1,e]; rfl)) (fun _=>by simp only[AVal]) (fun b' o h=>?_) rfl (fun _=>rfl)⟩
 rw[h1]at h; cases h
 simp only[AVal,Rep]
 have hrow:RepRow (fun i=>G i∨i=b) w b ss 0:=RepRow.mk fun i s hi=>⟨.inr rfl,by
  obtain⟨u,hu,hr⟩:=zLc hreps hi;rw[Array.getElem?_toList]at hu;exact⟨u,by simp[World.cell?,h2,hu],hr.keep ⟨fun _ h=>.inl h,fun _ _=>rfl⟩⟩⟩
 exact⟨b,o,rfl,by simpa using hrow.drop o⟩
theorem Le.takeNil (k off e:Nat) (hk:σ.hp k=some (.box bt cells)) (ho:cells[off]? = some (.nl sz)) (hs:0<sz) :
  Le c σ (zBi (zEe σ k (.box bt (cells.set off (.orow σ.nx)))) (.row e sz [])):=fun G β a w hc=>by
 obtain⟨b,e0,cur,h1,h2,h3,h4,h5,h6⟩:=hc.hp k _ hk;have hkn:=(hc.hplt k _ hk).1;have hcl:AV.ltAll σ.nx cells=true:=(hc.hplt k _ hk).2;obtain⟨β',b1,b2,b3⟩:=hc.make (ob:=.row e sz []) (v:=.slice none 0 0) ⟨fun r hr=>(by cases hr),hs,.inl ⟨rfl,rfl⟩⟩ rfl (fun _ _ _ b hb=>by cases hb)
 have hk':(zBi σ (.row e sz [])).hp k=some (.box bt cells):=by
  show(bif Nat.beq k σ.nx then some (Ob.row e sz []) else σ.hp k)=_;cases e1:Nat.beq k σ.nx with
  | true=>have:=Nat.eq_of_beq_eq_true e1; omega
  | false=>rw[cond_false]; exact hk
 have hset:AVals G w β' (cells.set off (.orow σ.nx)) cur.toList:=by
  have h5':=h5.beta b1 hcl;refine AVals.mk (by rw[length_set]; exact h5.length) fun i x v hx hv=>?_
  rw[List.getElem?_set]at hx;split at hx
  ·rename_i hio
   subst hio;split at hx
   ·cases hx;obtain⟨u,hu,hn⟩:=h5'.get ho;rw[hu]at hv; cases hv
    simp only[AVal]at hn ⊢;exact⟨hn.trans b2.symm,_,_,_,hn⟩
   ·cases hx
  ·obtain⟨u,hu,hn⟩:=h5'.get hx;rw[hu]at hv; cases hv; exact hn
 have hlt2:AV.ltAll (σ.nx+1) (cells.set off (.orow σ.nx))=true:=zCD fun q y hq=>by
  rw[List.getElem?_set]at hq;split at hq
  ·split at hq
   ·cases hq; simp[AV.lt]
   ·cases hq
  ·exact AV.lt_mono (Nat.le_succ _) (zBd hcl hq)
 have hβk:β' k=β k:=b1 k hkn;have:=b3.write (j:=k) (ob:=.box bt cells) (ob':=.box bt (cells.set off (.orow σ.nx))) (w':=w) hk' (b:=b) (by rw[hβk,h1]; rfl) h3 h4 rfl rfl rfl rfl (fun _ _=>rfl)
  (fun _=>by rw[hβk]; exact⟨b,e0,cur,h1,h2,h3,h4,hset,h6⟩) hlt2
 refine⟨G,β',?_⟩
 have e2:(zBi (zEe σ k (.box bt (cells.set off (.orow σ.nx)))) (.row e sz []))={ zBi σ (.row e sz []) with hp:=fun k'=>bif Nat.beq k' k then some (.box bt (cells.set off (.orow σ.nx))) else (zBi σ (.row e sz [])).hp k' }:=by
  simp only[zBi,zEe,St.mk.injEq,true_and,and_true]
  funext k'
  cases e3:Nat.beq k' σ.nx with
  | true =>
   have h8:=Nat.eq_of_beq_eq_true e3;cases e4:Nat.beq k' k with
   | true=>have:=Nat.eq_of_beq_eq_true e4; omega
   | false=>rfl
  | false=>rfl
 rw[e2]; exact this
def zOk (tmps:Array Value):ResultVar->Sem Value
 | .tmp t=>pure (tmps.getD t undef)
 | .cell a t=>do loadVar t (← asAddr (tmps.getD a undef))
theorem zPX (fn:Func) (tmps:Array Value):results fn tmps=(do let vs←fn.results.mapM (zOk tmps); pure (if h:vs.size=1 then vs[0] else .tuple vs)):=rfl
def zTA (T:Nat->Option TI) (σ:St):ResultVar->Option AV
 | .tmp t=>some (σ.env t).deep
 | .cell t ty=>match σ.env t with
  | .op k 0=>match σ.hp k,T ty with
   | some (.box _ cells),some i=>match i.k.agg with
    | true=>match Nat.ble i.size cells.length with | true=>some (AV.deep (.agg (cells.take i.size))) | false=>none
    | false=>match cells with | x::_=>some x.nrm | []=>none
   | _,_=>none
  | .s (.pt row)=>zNR T ty row
  | _=>none
theorem zYv  (hT:TOk c.P T) (hc:Conc c G β σ a w){rv:ResultVar}{x:AV} (h:zTA T σ rv=some x) :
  ∃ v,(zOk a.tmps rv).run c.P w = .ok v w/\AVal G w β x v:=by
 cases rv with
 | tmp t=>simp only[zTA,Option.some.injEq]at h; subst h; exact⟨_,rfl,(hc.env t).deep⟩
 | cell t ty =>
  have he:=hc.env t;simp only[zTA]at h;split at h
  ·rename_i k e
   rw[e]at he;simp only[AVal]at he;obtain⟨b,hβ,hv⟩:=he;split at h
   ·rename_i cells i hh hi
    obtain⟨d,info,z,b1,b2,b3,b4,_⟩:=hT ty i hi;obtain⟨b',e',cur,o1,o2,o3,o4,o5,o6⟩:=hc.hp k _ hh;rw[hβ]at o1; cases o1
    have hcell:∀ q v,cur[q]? = some v->w.cell? ⟨b,q,none⟩=some v:=fun q v hq=>by simp[World.cell?,o2,hq]
    split at h
    ·rename_i hag
     split at h
     ·rename_i hle
      cases h;have hle:=Nat.le_of_ble_eq_true hle;have hl:=o5.length;simp only[Array.length_toList]at hl;have hlc:=run_loadCells_list (P:=c.P) w ⟨b,0,none⟩ (cur.toList.take i.size) fun q v hq=>by
       rw[List.getElem?_take]at hq;split at hq
       ·rw[Array.getElem?_toList]at hq;rw[addr_add,Nat.zero_add]; exact hcell _ _ hq
       ·cases hq
      have hlen:(cur.toList.take i.size).length=i.size :=(by simp; omega);rw[hlen]at hlc;refine⟨.agg (cur.toList.take i.size).toArray,?_,AVal.deep (by simp only[AVal]; exact⟨_,rfl,o5.take i.size⟩)⟩
      simp[zOk,hv,asAddr,loadVar,zEc w b1,b2,hag,zAz w b3,b4,hlc]
     ·cases h
    ·rename_i hag
     split at h
     ·rename_i z r hz
      cases h;obtain⟨u,hu,hr⟩:=o5.get (i:=0) rfl;rw[Array.getElem?_toList]at hu;exact⟨u,by simp[zOk,hv,asAddr,loadVar,zEc w b1,b2,hag,hcell _ _ hu],hr.nrm⟩
     ·cases h
   ·cases h
  ·rename_i row e
   rw[e]at he;simp only[AVal,Rep]at he;obtain⟨b,off,hv,hr⟩:=he;obtain⟨z,h1,h2⟩:=zLL (β:=β) hT h (fun i s hi=>(hr.get hi).2)
   exact⟨z,by simpa [zOk,hv,asAddr,Instr.loadAt,Instr.sureAddr] using h1,h2⟩
  ·cases h
def zIX (T:Nat->Option TI) (σ:St):List ResultVar->Option (List AV)
 | []=>some []
 | r::rs=>match zTA T σ r,zIX T σ rs with | some x,some xs=>some (x::xs) | _,_=>none
theorem zPW {T:Nat->Option TI} (hT:TOk c.P T){G:Nat->Prop}{β:Nat->Value}{a:Act}{w:World} (hc:Conc c G β σ a w):∀ {rs:List ResultVar}{xs:List AV},zIX T σ rs=some xs ->
  ∃ vs,(rs.mapM (m:=Sem) (zOk a.tmps)).run c.P w = .ok vs w/\AVals G w β xs vs
 | [],xs,h=>by simp only[zIX,Option.some.injEq]at h; subst h; exact⟨[],rfl,by simp only[AVals]⟩
 | r::rs,xs,h=>by
  simp only[zIX]at h;split at h
  ·rename_i x xs' h1 h2
   cases h;obtain⟨v,h3,h4⟩:=zYv hT hc h1;obtain⟨vs,h5,h6⟩:=zPW hT hc h2;refine⟨v::vs,?_,by simp only[AVals]; exact⟨v,vs,rfl,h4,h6⟩⟩
   rw[mapM_cons]
   simp only[Sem.run_bind,Sem.run_pure]
   rw[h3]; simp only[Result.andThen_ok,h5]
  ·cases h
def zH9 (T:Nat->Option TI) (σ:St) (rs:List ResultVar):Option AV :=
 match zIX T σ rs with
 | some [x]=>some x
 | some xs=>some (.tup xs)
 | none=>none
theorem zHA  (hT:TOk c.P T) (hc:Conc c G β σ a w){fn:Func}{x:AV} (h:zH9 T σ fn.results.toList=some x) :
  ∃ v,(results fn a.tmps).run c.P w = .ok v w/\AVal G w β x v:=by
 unfold zH9 at h;have key:∀ {xs},zIX T σ fn.results.toList=some xs->∃ vs:List Value,(fn.results.mapM (m:=Sem) (zOk a.tmps)).run c.P w = .ok vs.toArray w/\AVals G w β xs vs:=fun {xs} hx=>by
  obtain⟨vs,h1,h2⟩:=zPW hT hc hx;refine⟨vs,?_,h2⟩
  rw[Array.mapM_eq_mapM_toList]
  simp only[Sem.run_map,h1,Result.andThen_ok]
 split at h
 ·rename_i y hy
  cases h;obtain⟨vs,h1,h2⟩:=key hy;simp only[AVals]at h2;obtain⟨v,vs',rfl,h3,rfl⟩:=h2;exact⟨v,by rw[zPX]; simp only[Sem.run_bind]; rw[h1]; rfl,h3⟩
 ·rename_i xs hn hy
  cases h;obtain⟨vs,h1,h2⟩:=key hy;refine⟨.tuple vs.toArray,?_,by simp only[AVal]; exact⟨vs,rfl,h2⟩⟩
  rw[zPX]
  simp only[Sem.run_bind]
  rw[h1]
  have hl:=h2.length;have:¬ (vs.toArray.size=1):=fun e=>by
   have:xs.length=1 :=(by rw[← hl]; simpa using e);obtain⟨y,rfl⟩:=List.length_eq_one_iff.1 this;exact hn y rfl
  simp only[Result.andThen_ok,Sem.run_pure]
  rw[dif_neg this]
 ·cases h
end
variable {xs:List AV}{β:Nat->Value}{w:World}{G:Nat->Prop}
theorem zKJ {vs:List Value}{N:Nat} (hv:AVals G w β xs vs) (t:Nat):AVal G w β (xs.getD t .junk) ((vs.toArray++Array.replicate (N - vs.toArray.size) undef).getD t undef):=by
 have hlen:=hv.length
 by_cases ht:t<xs.length
 ·obtain⟨v,h1,h2⟩:=hv.get (i:=t) (x:=xs[t]) (List.getElem?_eq_getElem ht)
  have e1:xs.getD t .junk=xs[t] :=(by simp[List.getElem?_eq_getElem ht]);have e2:(vs.toArray++Array.replicate (N - vs.toArray.size) undef).getD t undef=v:=by
   rw[Array.getD_eq_getD_getElem?,Array.getElem?_append_left (by simpa [hlen] using ht)]
   simp[h1]
  rw[e1,e2]; exact h2
 ·have:xs.getD t .junk = .junk :=(by simp[List.getElem?_eq_none (by omega:xs.length<=t)]);rw[this]; simp only[AVal]
theorem zNt {n:Nat} (h:AV.ltAll n xs=true) (t:Nat):(xs.getD t .junk).lt n=true:=by
 by_cases ht:t<xs.length
 ·have e1:xs.getD t .junk=xs[t] :=(by simp[List.getElem?_eq_getElem ht]);rw[e1]; exact zBd h (List.getElem?_eq_getElem ht)
 ·have:xs.getD t .junk = .junk :=(by simp[List.getElem?_eq_none (by omega:xs.length<=t)]);rw[this]; rfl
def start (xs:List AV):St:={ env:=fun t=>xs.getD t .junk,hp:=fun _=>none,nx:=0 }
def zBK (c:Cx) (T:Nat->Option TI) (rs:List ResultVar) (r:Ret) (σ:St):Prop :=
 ∃ σ',Le c σ σ'/\match r with
  | .val x=>zH9 T σ' rs=some x/\x.pers=true
  | .row e sz rows=>∃ k,zH9 T σ' rs=some (.orow k)/\σ'.hp k=some (.row e sz rows)
def zDp (P:Program) (w0:World) (G0:Nat->Prop) (N:Nat):Cx:={ P:=P,w0:=w0,X:=fun _=>False,G0:=G0,N:=N }
variable {code:Code}{fn:Func}{f:Nat}{T:Nat->Option TI}{P:Program}
theorem yB1  (hT:TOk P T){s:zAr} (hcall:∀ args w,(callFunc f args).run P w = .ok (.enter f args) w)
  (hf:P.funcs[f]? = some fn) (hb:fn.body=some code) (hn:∀ xs r,s.spec xs r->xs.length<=fn.ntmps)
  (N:Nat) (hN:fn.ntmps=N)
  (h:∀ xs r w0 G0,s.spec xs r->AV.persAll xs=true->Tri (zDp P w0 G0 N) code (start xs) (fun e σ=>match e with | .exit _=>False | _=>zBK (zDp P w0 G0 N) T fn.results.toList r σ)) (hown:s.own=none:=by rfl) (hheap:s.heap=none:=by rfl):PSound P f s:=by
 subst hN;refine⟨hcall,fun G w xs vs r hlt hgl hp hv hpre=>?_,fun R hR=>(by rw[hown]at hR; cases hR),fun R hR=>(by rw[hheap]at hR; cases hR)⟩
 let c:Cx:=zDp P w G fn.ntmps
 have hlen:=hv.length;have hxn:=hn xs r hpre;have hc:Conc c G (fun _=>.tuple #[]) (start xs) { tmps:=vs.toArray++Array.replicate (fn.ntmps - vs.toArray.size) undef,defers:=[] } w:={
  defers:=rfl
  size:=by simp only[Array.size_append,size_toArray,Array.size_replicate]; show _=fn.ntmps; omega
  env:=zKJ hv
  envlt:=zNt (AV.persAll_lt hp)
  hp:=fun k ob hk=>by simp[start]at hk
  hplt:=fun k ob hk=>by simp[start]at hk
  inj:=fun k k' ob ob' hk=>by simp[start]at hk
  lt:=hlt
  sub:=fun b hb=>hb
  new:=fun b hb=>.inl hb
  fr:=Fr.refl _ _
  stay:=⟨Nat.le_refl _,fun k hk=>by cases hk⟩
  glob:=hgl }
 refine calls_of_wp hf hb ?_;refine wpIn_wide.1 (wpIn_mono (h xs r w G hpre hp G _ _ w hc) ?_)
 rintro e a' w' ⟨e',G',β',σ',rfl,hq,hc'⟩
 have fin:zBK c T fn.results.toList r σ'->a'.defers=[]/\∃ v,(results fn a'.tmps).run P w' = .ok v w'/\(∃ v₀ G'',Ending.returned v = .returned v₀/\Ext G G'' w w'/\RetAt G'' w w' r v₀):=fun hq=>by
  obtain⟨σ2,hle,hr⟩:=hq;obtain⟨G2,β2,hc2⟩:=hle G' β' a' w' hc';have hext:Ext G G2 w w':=⟨hc2.fr.os,hc2.fr.tape,hc2.fr.output,hc2.fr.size,fun b hb=>hc2.fr.old b hb (fun h=>h),hc2.sub,fun b hb=>(hc2.new b hb).imp id (fun h=>h.elim False.elim id),hc2.lt⟩
  refine⟨hc2.defers,?_⟩
  unfold RetAt;split at hr
  ·rename_i x
   obtain⟨v,h1,h2⟩:=zHA (c:=c) hT hc2 hr.1;refine⟨v,h1,v,G2,rfl,hext,?_⟩
   exact⟨hr.2,AVal.pers hr.2 h2⟩
  ·rename_i e sz rows
   obtain⟨k,hk1,hk2⟩:=hr;obtain⟨v,h1,h2⟩:=zHA (c:=c) hT hc2 hk1;refine⟨v,h1,v,G2,rfl,hext,?_⟩
   simp only[AVal]at h2;obtain⟨rfl,_⟩:=h2;obtain⟨q1,q2,q3⟩:=hc2.hp k _ hk2;refine⟨q1,q2,q3.imp id ?_⟩
   rintro⟨b,cap,cur,g1,g2,g3,g4,g5,g6,g7⟩
   exact⟨b,cap,cur,g1,g2,g3,g4,g5,g6.elim False.elim id,g7⟩
 cases e' with
 | normal=>exact fin hq
 | ret=>exact fin hq
 | exit id=>exact hq.elim
variable {σ:St}{x:AV}{rs:List ResultVar}{c:Cx}
theorem fin0  (h1:zH9 T σ rs=some x) (h2:x.pers=true):zBK c T rs (.val x) σ :=
 ⟨σ,Le.refl _ _,h1,h2⟩
theorem psq  (hT:TOk P T){s:zAr} (hcall:∀ args w,(callFunc f args).run P w = .ok (.enter f args) w) (hf:P.funcs[f]? = some fn) (hb:fn.body=some code) (h:∀ xs r w0 G0,s.spec xs r->AV.persAll xs=true->Tri (zDp P w0 G0 fn.ntmps) code (start xs) (fun e σ=>match e with | .exit _=>False | _=>zBK (zDp P w0 G0 fn.ntmps) T fn.results.toList r σ)) (hn:∀ xs r,s.spec xs r->xs.length<=fn.ntmps:=by intro xs r h; repeat (first | (obtain⟨rfl,_⟩:=h; exact Nat.le_of_ble_eq_true rfl) | (obtain⟨_,h⟩:=h))) (hown:s.own=none:=by rfl) (hheap:s.heap=none:=by rfl):PSound P f s :=
 yB1 hT hcall hf hb hn _ rfl h hown hheap
def zOx (xs:List AV) (os:List Ob):St:={ env:=fun t=>xs.getD t .junk,hp:=fun k=>os[k]?,nx:=os.length }
def zPD (hp:Nat->Option Ob) (n:Nat):Nat->List (Option Ob)->Prop
 | _,[]=>True
 | i,none::r=>zPD hp n (i+1) r
 | i,some ob::r=>hp i=some ob/\ob.lt n=true/\zPD hp n (i+1) r
theorem zLw {hp:Nat->Option Ob}{n:Nat}:∀ {os:List (Option Ob)}{i j:Nat}{ob:Ob},zPD hp n i os->os[j]? = some (some ob)->hp (i+j)=some ob/\ob.lt n=true
 | [],_,_,_,_,h=>by simp at h
 | none::r,i,j,ob,h,hj=>by
  cases j with
  | zero=>simp at hj
  | succ j=>rw[show i+(j+1)=i+1+j by omega]; exact zLw (os:=r) h (by simpa using hj)
 | some o::r,i,j,ob,h,hj=>by
  cases j with
  | zero=>simp at hj; subst hj; exact⟨h.1,h.2.1⟩
  | succ j=>rw[show i+(j+1)=i+1+j by omega]; exact zLw (os:=r) h.2.2 (by simpa using hj)
def zDz (c:Cx) (T:Nat->Option TI) (rs:List ResultVar) (x:AV) (os':List (Option Ob)) (σ:St):Prop :=
 ∃ σ',Le c σ σ'/\zH9 T σ' rs=some x/\x.lt os'.length=true/\zPD σ'.hp os'.length 0 os'
theorem ObAt.cx {c1 c2:Cx}{v:Value}{o:Ob} (hm:∀ b,c1.mine b->c2.mine b) (h:ObAt c1 G w β v o):ObAt c2 G w β v o:=by
 cases o with
 | box xs =>
  obtain⟨b,e,cur,q1,q2,q3,q4,q5,q6⟩:=h;exact⟨b,e,cur,q1,q2,q3,hm b q4,q5,q6⟩
 | row e sz rows =>
  obtain⟨h1,h2,h3⟩:=h;refine⟨h1,h2,h3.imp id ?_⟩
  rintro⟨b,cap,cur,k1,k2,k3,k4,k5,k6,k7⟩
  exact⟨b,cap,cur,k1,k2,k3,k4,k5,hm b k6,k7⟩
 | arow e sz rows=>exact h.mv (fun b _=>hm b)
 | any τ xs =>
  obtain⟨b,o,vs,q1,q2,q3,q4,q5,q6⟩:=h;exact⟨b,o,vs,q1,q2,q3,hm b q4,q5,q6⟩
variable {R:List AV->List Ob->AV->List (Option Ob)->Prop}
theorem zX8  (hT:TOk P T) (hcall:∀ args w,(callFunc f args).run P w = .ok (.enter f args) w)
  (hf:P.funcs[f]? = some fn) (hb:fn.body=some code) (hn:∀ xs os x os',R xs os x os'->xs.length<=fn.ntmps/\os.length<=os'.length)
  (N:Nat) (hN:fn.ntmps=N)
  (h:∀ xs os x os' w0 G0 B0,R xs os x os'->AV.ltAll os.length xs=true->Tri (zE7 P w0 B0 os.length G0 N) code (zOx xs os) (fun e σ=>match e with | .exit _=>False | _=>zDz (zE7 P w0 B0 os.length G0 N) T fn.results.toList x os' σ)):PSound P f (zEA R):=by
 subst hN;refine⟨hcall,fun G w xs vs r _ _ _ _ hpre=>hpre.elim,fun R' hR'=>?_,fun R hR=>(by cases hR)⟩
 obtain rfl:R=R' :=(by simpa [zEA] using hR');intro G w β xs vs os x os' hlt hgl hv hxl hobs hR
 let c:Cx:=zE7 P w β os.length G fn.ntmps
 have hlen:=hv.length;obtain⟨hxn,hol⟩:=hn xs os x os' hR;have hget:∀ (k:Nat) ob,(zOx xs os).hp k=some ob->(os.map some)[k]? = some (some ob):=fun k ob hk=>by
  simp only[zOx]at hk;rw[List.getElem?_map,hk]; rfl
 have hc:Conc c G β (zOx xs os) { tmps:=vs.toArray++Array.replicate (fn.ntmps - vs.toArray.size) undef,defers:=[] } w:={
  defers:=rfl
  size:=by simp only[Array.size_append,size_toArray,Array.size_replicate]; show _=fn.ntmps; omega
  env:=zKJ hv
  envlt:=zNt hxl
  hp:=fun k ob hk=>ObAt.cx (fun _ h=>h) (hobs.1 k ob (hget k ob hk)).1
  hplt:=fun k ob hk=>⟨(List.getElem?_eq_some_iff.1 hk).1,by have:=(hobs.1 k ob (hget k ob hk)).2; rwa [length_map]at this⟩
  inj:=fun k k' ob ob' hk hk' hne b=>hobs.2 k k' ob ob' (hget k ob hk) (hget k' ob' hk') hne b
  lt:=hlt
  sub:=fun b hb=>hb
  new:=fun b hb=>.inl hb
  fr:=Fr.refl _ _
  stay:=⟨Nat.le_refl _,fun _ _=>rfl⟩
  glob:=hgl }
 refine calls_of_wp hf hb ?_;refine wpIn_wide.1 (wpIn_mono (h xs os x os' w G β hR hxl G β _ w hc) ?_)
 rintro e a' w' ⟨e',G',β',σ',rfl,hq,hc'⟩
 have fin:zDz c T fn.results.toList x os' σ'->a'.defers=[]/\∃ v,(results fn a'.tmps).run P w' = .ok v w'/\(∃ v₀ G'' β'',Ending.returned v = .returned v₀/\Fr (zE7 P w β os.length G 0).X w w'/\(∀ b,G b->G'' b)/\(∀ b,G'' b->G b∨(zE7 P w β os.length G 0).mine b)/\(∀ b,G'' b->b<w'.heap.size) /\
   AVal G'' w' β'' x v₀/\x.lt os'.length=true/\os.length<=os'.length/\zVZ (zE7 P w β os.length G 0) G'' w' β'' os'/\∀ (i:Nat) ob,i<os.length->os'[i]? = some (some ob)->β'' i=β i):=fun hq=>by
  obtain⟨σ2,hle,hr,hxl,hh⟩:=hq;obtain⟨G2,β2,hc2⟩:=hle G' β' a' w' hc';refine⟨hc2.defers,?_⟩
  obtain⟨v,h1,h2⟩:=zHA (c:=c) hT hc2 hr;have hg:∀ (i:Nat) ob,os'[i]? = some (some ob)->σ2.hp i=some ob/\ob.lt os'.length=true:=fun i ob hi=>by simpa using zLw hh hi
  exact⟨v,h1,v,G2,β2,rfl,hc2.fr,hc2.sub,hc2.new,hc2.lt,h2,hxl,hol,
   ⟨fun i ob hi=>⟨ObAt.cx (fun _ h=>h) (hc2.hp i ob (hg i ob hi).1),(hg i ob hi).2⟩,fun i j ob ob' hi hj hne b=>hc2.inj i j ob ob' (hg i ob hi).1 (hg j ob' hj).1 hne b⟩,
   fun i ob hi ho=>hc2.stay.2 i hi⟩
 cases e' with
 | normal=>exact fin hq
 | exit=>exact hq.elim
 | ret=>exact fin hq
theorem osq  (hT:TOk P T) (hcall:∀ args w,(callFunc f args).run P w = .ok (.enter f args) w) (hf:P.funcs[f]? = some fn) (hb:fn.body=some code) (h:∀ xs os x os' w0 G0 B0,R xs os x os'->AV.ltAll os.length xs=true->Tri (zE7 P w0 B0 os.length G0 fn.ntmps) code (zOx xs os) (fun e σ=>match e with | .exit _=>False | _=>zDz (zE7 P w0 B0 os.length G0 fn.ntmps) T fn.results.toList x os' σ)) (hn:∀ xs os x os',R xs os x os'->xs.length<=fn.ntmps/\os.length<=os'.length:=by intro xs os x os2 h; repeat (first | (obtain⟨rfl,rfl,_,rfl⟩:=h; exact⟨Nat.le_of_ble_eq_true rfl,Nat.le_of_ble_eq_true rfl⟩) | (obtain⟨_,h⟩:=h))):PSound P f (zEA R) :=
 zX8 hT hcall hf hb hn _ rfl h
theorem zZL {a:Act} (hc:Conc c G β σ a w){rv:ResultVar} (h:zTA T σ rv=some x):x.lt σ.nx=true:=by
 unfold zTA at h;split at h
 ·cases h; exact AV.deep_lt (hc.envlt _)
 ·split at h
  ·split at h
   ·rename_i cells i hk hi
    have hl:AV.ltAll σ.nx cells=true :=(by simpa [Ob.lt] using (hc.hplt _ _ hk).2);split at h
    ·split at h
     ·cases h;refine AV.deep_lt ?_;simp only[AV.lt]
      exact zCD fun q y hq=>zBd hl (by
       rw[List.getElem?_take]at hq;split at hq
       ·exact hq
       ·cases hq)
     ·cases h
    ·split at h
     ·cases h;simp only[AV.ltAll,Bool.and_eq_true]at hl;exact AV.nrm_lt hl.1
     ·cases h
   ·cases h
  ·exact zQN h
  ·cases h
theorem zOj {c:Cx}{T:Nat->Option TI}{σ:St}{G:Nat->Prop}{β:Nat->Value}{a:Act}{w:World} (hc:Conc c G β σ a w):∀ {rs:List ResultVar}{xs:List AV},zIX T σ rs=some xs->AV.ltAll σ.nx xs=true
 | [],xs,h=>by simp only[zIX,Option.some.injEq]at h; subst h; rfl
 | r::rs,xs,h=>by
  simp only[zIX]at h;split at h
  ·rename_i x ys h1 h2
   cases h;simp only[AV.ltAll,Bool.and_eq_true]
   exact⟨zZL hc h1,zOj hc h2⟩
  ·cases h
theorem zZM {a:Act} (hc:Conc c G β σ a w) (h:zH9 T σ rs=some x):x.lt σ.nx=true:=by
 unfold zH9 at h;split at h
 ·rename_i y hy
  cases h;have:=zOj hc hy;simp only[AV.ltAll,Bool.and_true]at this;exact this
 ·rename_i xs _ hy
  cases h;simp only[AV.lt]
  exact zOj hc hy
 ·cases h
def zJv (c:Cx) (T:Nat->Option TI) (rs:List ResultVar) (Φ:AV->(Nat->Option Ob)->Nat->Prop) (σ:St):Prop :=
 ∃ σ',Le c σ σ'/\∃ x,zH9 T σ' rs=some x/\Φ x σ'.hp σ'.nx
theorem zNO  (hT:TOk P T){R:List AV->(Nat->Option Ob)->Nat->(AV->(Nat->Option Ob)->Nat->Prop)->Prop} (hcall:∀ args w,(callFunc f args).run P w = .ok (.enter f args) w)
  (hf:P.funcs[f]? = some fn) (hb:fn.body=some code) (hn:∀ xs hp n Φ,R xs hp n Φ->xs.length<=fn.ntmps)
  (N:Nat) (hN:fn.ntmps=N)
  (h:∀ xs hp n Φ w0 G0 B0,R xs hp n Φ->AV.ltAll n xs=true->(∀ k ob,hp k=some ob->k<n/\ob.lt n=true)->Tri (zFA P w0 B0 hp n G0 N) code ⟨fun t=>xs.getD t .junk,hp,n⟩ (fun e σ=>match e with | .exit _=>False | _=>zJv (zFA P w0 B0 hp n G0 N) T fn.results.toList Φ σ)):PSound P f (zSU R):=by
 subst hN;refine⟨hcall,fun G w xs vs r _ _ _ _ hpre=>hpre.elim,fun R hR=>(by cases hR),fun R' hR'=>?_⟩
 obtain rfl:R=R' :=(by simpa [zSU] using hR');intro G w β xs vs hp n Φ hlt hgl hv hxl hobs hR
 let c:Cx:=zFA P w β hp n G fn.ntmps
 have hlen:=hv.length;have hxn:=hn xs hp n Φ hR;have hc:Conc c G β ⟨fun t=>xs.getD t .junk,hp,n⟩ { tmps:=vs.toArray++Array.replicate (fn.ntmps - vs.toArray.size) undef,defers:=[] } w:={
  defers:=rfl
  size:=by simp only[Array.size_append,size_toArray,Array.size_replicate]; show _=fn.ntmps; omega
  env:=zKJ hv
  envlt:=zNt hxl
  hp:=fun k ob hk=>ObAt.cx (fun _ h=>h) (hobs.obs k ob hk)
  hplt:=hobs.lts
  inj:=hobs.inj
  lt:=hlt
  sub:=fun b hb=>hb
  new:=fun b hb=>.inl hb
  fr:=Fr.refl _ _
  stay:=⟨Nat.le_refl _,fun _ _=>rfl⟩
  glob:=hgl }
 refine calls_of_wp hf hb ?_;refine wpIn_wide.1 (wpIn_mono (h xs hp n Φ w G β hR hxl hobs.lts G β _ w hc) ?_)
 rintro e a' w' ⟨e',G',β',σ',rfl,hq,hc'⟩
 have fin:zJv c T fn.results.toList Φ σ'->a'.defers=[]/\∃ v,(results fn a'.tmps).run P w' = .ok v w'/\(∃ v₀ G'' β'' x hp' n',Ending.returned v = .returned v₀/\Φ x hp' n'/\n<=n'/\Fr (zFA P w β hp n G 0).X w w'/\(∀ b,G b->G'' b)/\(∀ b,G'' b->G b∨(zFA P w β hp n G 0).mine b)/\(∀ b,G'' b->b<w'.heap.size) /\
   AVal G'' w' β'' x v₀/\x.lt n'=true/\HpAt (zFA P w β hp n G 0) G'' w' β'' hp' n'/\∀ k,k<n->β'' k=β k):=fun hq=>by
  obtain⟨σ2,hle,x,hr,hΦ⟩:=hq;obtain⟨G2,β2,hc2⟩:=hle G' β' a' w' hc';refine⟨hc2.defers,?_⟩
  obtain⟨v,h1,h2⟩:=zHA (c:=c) hT hc2 hr;exact⟨v,h1,v,G2,β2,x,σ2.hp,σ2.nx,rfl,hΦ,hc2.stay.1,hc2.fr,hc2.sub,hc2.new,hc2.lt,h2,zZM hc2 hr,
   ⟨fun k ob hk=>ObAt.cx (fun _ h=>h) (hc2.hp k ob hk),hc2.hplt,hc2.inj⟩,hc2.stay.2⟩
 cases e' with
 | normal=>exact fin hq
 | exit=>exact hq.elim
 | ret=>exact fin hq
attribute [irreducible] Tri Le zBK zDz zJv
end Go.Abs
