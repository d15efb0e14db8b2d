/-
  Joined out of: AbsR, MpA, MpB, AbsJ, AbsK, AbsL.
-/
import Derived.Maps.RangeRun
import Derived.RangeFuncNested
import Derived.RangeFuncLeaves
import Derived.TacticsIn
import Derived.OrdersIn
import Derived.Test.YtbfnjnljboncgaaGreatZa
open List
set_option linter.unusedVariables false
set_option linter.defProp false
set_option linter.unusedSimpArgs false
set_option maxHeartbeats 2000000
set_option maxRecDepth 100000
namespace Go.Proofs.YtbfnjnljboncgaaGreat
section
mutual
def AV.pers_lt {n:Nat}:∀ {x:AV},x.pers=true->x.lt n=true
 | .s _,_=>rfl
 | .nl _,_=>rfl
 | .agg xs,h=>by simp only[AV.pers]at h; simp only[AV.lt]; exact AV.persAll_lt h
 | .tup xs,h=>by simp only[AV.pers]at h; simp only[AV.lt]; exact AV.persAll_lt h
 | .clo _ xs,h=>by simp only[AV.pers]at h; simp only[AV.lt]; exact AV.persAll_lt h
 | .op ..,h=>by simp[AV.pers]at h
 | .orow _,h=>by simp[AV.pers]at h
 | .rp ..,h=>by simp[AV.pers]at h
 | .mref _,h=>by simp[AV.pers]at h
 | .junk,_=>rfl
def AV.persAll_lt {n:Nat}:∀ {xs:List AV},AV.persAll xs=true->AV.ltAll n xs=true
 | [],_=>rfl
 | x::xs,h=>by
  simp only[AV.persAll,af]at h
  simp only[AV.ltAll,af]
  exact⟨AV.pers_lt h.1,AV.persAll_lt h.2⟩
end
def zBj (own:Bool) (V:St) (r:Ret):Option (AV×St) :=
 match r with
 | .val x=>match x.pers with | true=>some (x,V) | false=>none
 | .row e sz rows=>match own with | true=>some (.orow V.nx,zA6 V (.row e sz rows)) | false=>some (.s (.sl sz rows),V)
variable {v:Value}{w w':World}{V':St}{O:Nat->Value}{G G':Nat->Prop}
def zJP {c:Cx}{V:St}{a:Act} (hc:Conc c G O V a w) (h1:Ext G G' w w'){r:Ret} (h2:RetAt G' w w' r v){own:Bool}{x:AV}
  (hx:zBj own V r=some (x,V')) {K:Prop}
  (hK:∀ G' O' w'' v',w''=w'->v'=v->Conc c G' O' V' a w''->AVal G' w'' O' x v'->x.lt V'.nx=true->K):K:=by
 have hcx:=hc.ext h1;unfold zBj at hx;unfold RetAt at h2;split at hx
 ·split at hx
  ·rename_i hpers;cases hx;exact hK G' O w' v rfl rfl hcx (AVal.pers h2.1 h2.2) (AV.pers_lt hpers)
  cases hx
 rename_i e1 sz rows;obtain⟨f1,f2,f3⟩:=h2;split at hx
 ·cases hx;rcases f3 with ⟨rfl,rfl⟩ | ⟨b,cap,cur,rfl,k1,k2,k3,k4,k5,k6⟩
  ·obtain⟨O',b1,b2,b3⟩:=hcx.make (ob:=.row e1 sz []) (v:=.slice none 0 0) ⟨f1,f2,.inl ⟨rfl,rfl⟩⟩ rfl (fun _ _ _ b hb=>by cases hb);refine hK G' O' w' _ rfl rfl b3 ?_ (by simp[AV.lt,zA6]);simp only[AVal];exact⟨b2.symm,_,_,_,rfl⟩
  obtain⟨O',b1,b2,b3⟩:=hcx.make (ob:=.row e1 sz rows) (v:=.slice (some ⟨b,0,none⟩) rows.length cap) ⟨f1,f2,.inr ⟨b,cap,cur,rfl,k1,k2,k3,k4,.inr (bc hc.fr.size k5),k6⟩⟩ rfl (fun k o' hk b' hb e'=>by
   cases hb;have h9:b<w.heap.size:=hc.blk_lt hk e'
   omega)
  refine hK G' O' w' _ rfl rfl b3 ?_ (by simp[AV.lt,zA6]);simp only[AVal];exact⟨b2.symm,_,_,_,rfl⟩
 cases hx;rcases f3 with ⟨rfl,rfl⟩ | ⟨b,cap,cur,rfl,k1,k2,⟨mk,hmk,k3⟩,k4,k5,k6⟩
 ·exact hK G' O w' _ rfl rfl hcx (by simp only[AVal,Rep]; exact .inl ⟨trivial,_,_,rfl⟩) rfl
 have hblt:b<w'.heap.size:=(aJ.1 k3).1;have hx:Ext G (fun i=>G' i∨i=b) w w':=⟨h1.os,h1.tape,h1.output,h1.size,h1.old,fun i hi=>.inl (h1.sub i hi),fun i hi=>hi.elim (h1.new i) (fun e=>.inr (e ▸ k5)),fun i hi=>hi.elim (h1.lt i) (fun e=>e ▸ hblt)⟩;refine hK _ O w' _ rfl rfl (hc.ext hx) ?_ rfl;simp only[AVal,Rep];refine .inr ⟨b,0,cap,rfl,k1,zCl f1 (RepRow.mk fun i s hi=>⟨.inr rfl,?_⟩)⟩;obtain⟨u,hu,hr⟩:=k6 i s hi;refine⟨u,by simp[World.cell?,k3,hu],hr.keep ⟨fun _ h=>.inl h,fun _ _=>rfl⟩⟩
theorem zPt {c:Cx}{T:Nat->Option TI}{Γ:Nat->Option zAq}{V:St}{a:Act} (hΓ:∀ f s,Γ f=some s->PSound c.P f s)
  (hc:Conc c G O V a w) {o:Oper} {g:Nat} {s:zAq} {xs:List AV} (h:callOf T Γ o V.env=some (g,s,xs)) {r:Ret} (hr:s.spec xs r) {own:Bool} {x:AV} (hx:zBj own V r=some (x,V'))
  {K:Act->World->Prop} {Q:Exit->Act->World->Prop}
  (hK:∀ G' O' w' v,Conc c G' O' V' a w'->AVal G' w' O' x v->x.lt V'.nx=true->K (a.put o.dst v) w'):o.wp c.P a w K Q:=by
 have hρ:∀ ty x,AVal G w O (opd T V.env ty x) (a.eval x):=zEO hc T;unfold callOf at h;split at h
 ·rename_i f args ts ho;split at h
  ·rename_i g' e;split at h
   ·rename_i s' hs;split at h
    ·rename_i hown;split at h
     ·rename_i hp;cases h;have:=hρ 0 f;rw[e]at this;simp only[AVal,Rep]at this;have hargs:=fun s:zAq=>zWp (s:=s) hρ args.toList ts.toList
      obtain⟨hcall,zNP,_⟩:=hΓ g s hs;have hexec:(execOp a.eval o).run c.P w = .ok (.enter g (args.toList.map a.eval).toArray) w:=by
       have e:(args.toList.map a.eval).toArray=args.map a.eval:=bC (by simp);rw[e];simp[execOp,ho,resolve,this,Deferred.ofValue,invoke,hcall]
      unfold Oper.wp;rw[hexec];simp only[Oper.upon_enter];refine(zNP G w _ _ r hc.lt hc.glob hp (AVals.pers hp (hargs _)) hr).mono fun e w' he=>?_
      obtain⟨v,G',rfl,h1,h2⟩:=he;exact zJP hc h1 h2 hx fun G' O' w'' v' e1 e2 h3 h4 h5=>by subst e1; subst e2; exact hK G' O' _ _ h3 h4 h5
     cases h
    cases h
   cases h
  cases h
 cases h
def zVK (x:Nat):List Nat->Bool
 | []=>true
 | y::ys=>!(Nat.beq x y)&&zVK x ys
def distinct:List Nat->Bool
 | []=>true
 | x::xs=>zVK x xs&&distinct xs
def zHD {x:Nat}:∀ {l:List Nat},zVK x l=true->x ∉ l
 | [],_=>by simp
 | y::ys,h=>by
  simp only[zVK,af,Bool.not_eq_true']at h;have h1:=Nat.ne_of_beq_eq_false h.1;have h2:=zHD h.2;simp[h1,h2]
def look (k:Nat):List (Nat×Nat)->Option Nat
 | []=>none
 | (a,b)::r=>bif Nat.beq k a then some b else look k r
mutual
def AV.ren (ρ:List (Nat×Nat)):AV->AV
 | .op k o=>match look k ρ with | some j=>.op j o | none=>.junk
 | .orow k=>match look k ρ with | some j=>.orow j | none=>.junk
 | .rp k sz i o=>match look k ρ with | some j=>.rp j sz i o | none=>.junk
 | .mref k=>match look k ρ with | some j=>.mref j | none=>.junk
 | .agg xs=>.agg (AV.renAll ρ xs)
 | .tup xs=>.tup (AV.renAll ρ xs)
 | .clo f xs=>.clo f (AV.renAll ρ xs)
 | x=>x
def AV.renAll (ρ:List (Nat×Nat)):List AV->List AV
 | []=>[]
 | x::xs=>x.ren ρ::AV.renAll ρ xs
end
def Ob.ren (ρ:List (Nat×Nat)):Ob->Ob
 | .box t xs=>.box t (AV.renAll ρ xs)
 | .arow e sz rows=>.arow e sz (rows.map (AV.renAll ρ))
 | .any τ xs=>.any τ (AV.renAll ρ xs)
 | o=>o
mutual
def AVal.ren {G:Nat->Prop}{w:World}{O O':Nat->Value}{ρ:List (Nat×Nat)} (hb:∀ k j,look k ρ=some j->O' j=O k):∀ {x:AV}{v:Value},AVal G w O x v->AVal G w O' (x.ren ρ) v
 | .s x,v,h=>by simp only[AVal,AV.ren]at h ⊢; exact h
 | .nl _,v,h=>by simp only[AVal,AV.ren]at h ⊢; exact h
 | .agg xs,v,h=>by
  simp only[AVal,AV.ren]at h ⊢
  obtain⟨vs,h1,h2⟩:=h
  exact⟨vs,h1,AVals.ren hb h2⟩
 | .tup xs,v,h=>by
  simp only[AVal,AV.ren]at h ⊢
  obtain⟨vs,h1,h2⟩:=h
  exact⟨vs,h1,AVals.ren hb h2⟩
 | .clo f xs,v,h=>by
  simp only[AVal,AV.ren]at h ⊢
  obtain⟨vs,h1,h2⟩:=h
  exact⟨vs,h1,AVals.ren hb h2⟩
 | .op k o,v,h=>by
  simp only[AV.ren]
  split
  ·rename_i j hj; simp only[AVal]at h ⊢; rw[hb k j hj]; exact h
  ·simp only[AVal]
 | .orow k,v,h=>by
  simp only[AV.ren]
  split
  ·rename_i j hj; simp only[AVal]at h ⊢; rw[hb k j hj]; exact h
  ·simp only[AVal]
 | .rp k sz i o,v,h=>by
  simp only[AV.ren]
  split
  ·rename_i j hj; simp only[AVal]at h ⊢; rw[hb k j hj]; exact h
  ·simp only[AVal]
 | .mref k,v,h=>by
  simp only[AV.ren]
  split
  ·rename_i j hj; simp only[AVal]at h ⊢; rw[hb k j hj]; exact h
  ·simp only[AVal]
 | .junk,_,_=>by simp only[AV.ren,AVal]
def AVals.ren {G:Nat->Prop}{w:World}{O O':Nat->Value}{ρ:List (Nat×Nat)} (hb:∀ k j,look k ρ=some j->O' j=O k):∀ {xs:List AV}{vs:List Value},AVals G w O xs vs->AVals G w O' (AV.renAll ρ xs) vs
 | [],_,h=>by simp only[AVals,AV.renAll]at h ⊢; exact h
 | x::xs,vs,h=>by
  simp only[AVals,AV.renAll]at h ⊢
  obtain⟨v,vs',h1,h2,h3⟩:=h
  exact⟨v,vs',h1,AVal.ren hb h2,AVals.ren hb h3⟩
end
def S.flat:S->Bool
 | .sl _ _=>false
 | .pt _=>false
 | _=>true
mutual
def AV.flat:AV->Bool
 | .s x=>x.flat
 | .nl _=>true
 | .agg xs=>AV.flatAll xs
 | .tup xs=>AV.flatAll xs
 | _=>false
def AV.flatAll:List AV->Bool
 | []=>true
 | x::xs=>x.flat&&AV.flatAll xs
end
def Ret.flat:Ret->Bool
 | .val x=>x.flat
 | .row _ _ _=>false
def Rep.flat {s:S} (hs:s.flat=true) (h:Rep G w s v):Rep G' w' s v:=by
 cases s with
 | sl sz rows=>simp[S.flat]at hs
 | pt=>simp[S.flat]at hs
 | _=>simpa only[Rep] using h
mutual
def AVal.flat {G G':Nat->Prop}{w w':World}{O O':Nat->Value}:∀ {x:AV}{v:Value},x.flat=true->AVal G w O x v->AVal G' w' O' x v
 | .s x,v,hf,h=>by simp only[AVal,AV.flat]at h hf ⊢; exact h.flat hf
 | .nl _,v,_,h=>by simp only[AVal]at h ⊢; exact h
 | .agg xs,v,hf,h=>by
  simp only[AVal,AV.flat]at h hf ⊢
  obtain⟨vs,h1,h2⟩:=h
  exact⟨vs,h1,AVals.flat hf h2⟩
 | .tup xs,v,hf,h=>by
  simp only[AVal,AV.flat]at h hf ⊢
  obtain⟨vs,h1,h2⟩:=h
  exact⟨vs,h1,AVals.flat hf h2⟩
 | .clo ..,_,hf,_=>by simp[AV.flat]at hf
 | .op ..,_,hf,_=>by simp[AV.flat]at hf
 | .orow _,_,hf,_=>by simp[AV.flat]at hf
 | .rp ..,_,hf,_=>by simp[AV.flat]at hf
 | .mref _,_,hf,_=>by simp[AV.flat]at hf
 | .junk,_,hf,_=>by simp[AV.flat]at hf
def AVals.flat {G G':Nat->Prop}{w w':World}{O O':Nat->Value}:∀ {xs:List AV}{vs:List Value},AV.flatAll xs=true->AVals G w O xs vs->AVals G' w' O' xs vs
 | [],_,_,h=>by simp only[AVals]at h ⊢; exact h
 | x::xs,vs,hf,h=>by
  simp only[AVals]at h ⊢
  simp only[AV.flatAll,af]at hf
  obtain⟨v,vs',h1,h2,h3⟩:=h
  exact⟨v,vs',h1,AVal.flat hf.1 h2,AVals.flat hf.2 h3⟩
end
def RetAt.flat {G1:Nat->Prop} (hs:∀ b,G b->G' b){r:Ret} (hf:r.flat=true) (h:RetAt G' w w' r v):RetAt G w w' r v:=by
 cases r with
 | val x=>exact⟨h.1,AVal.flat hf h.2⟩
 | row e sz rows=>simp[Ret.flat]at hf
mutual
def AV.keys:AV->List Nat
 | .op k _=>[k]
 | .orow k=>[k]
 | .rp k _ _ _=>[k]
 | .mref k=>[k]
 | .agg xs=>AV.keysAll xs
 | .tup xs=>AV.keysAll xs
 | .clo _ xs=>AV.keysAll xs
 | _=>[]
def AV.keysAll:List AV->List Nat
 | []=>[]
 | x::xs=>x.keys++AV.keysAll xs
end
mutual
def AV.lend (hp:Nat->Option Ob):AV->AV
 | .orow k=>match hp k with | some (.row _ sz rows)=>.s (.sl sz rows) | _=>.junk
 | .op k o=>match hp k with
  | some (.box _ cells)=>match zLI cells with | some ss=>.s (.pt (ss.drop o)) | none=>.junk
  | _=>.junk
 | .rp ..=>.junk
 | .mref _=>.junk
 | .agg xs=>.agg (AV.lendAll hp xs)
 | .tup xs=>.tup (AV.lendAll hp xs)
 | .clo f xs=>.clo f (AV.lendAll hp xs)
 | x=>x
def AV.lendAll (hp:Nat->Option Ob):List AV->List AV
 | []=>[]
 | x::xs=>x.lend hp::AV.lendAll hp xs
end
section
variable {c:Cx} {G:Nat->Prop} {O:Nat->Value} {V:St} {a:Act} {w:World}
def zUo (G:Nat->Prop) (O:Nat->Value) (V:St) (ks:List Nat) (b:Nat):Prop:=G b∨∃ k ob,k∈ks/\V.hp k=some ob/\blk (O k)=some b
mutual
def AVal.lend (hc:Conc c G O V a w){ks:List Nat}:∀ {x:AV}{v:Value},(∀ k∈x.keys,k∈ks)->AVal G w O x v->AVal (zUo G O V ks) w O (x.lend V.hp) v
 | .s x,v,_,h=>by simp only[AVal,AV.lend]at h ⊢; exact h.keep ⟨fun _ h=>.inl h,fun _ _=>rfl⟩
 | .nl _,v,_,h=>by simp only[AVal,AV.lend]at h ⊢; exact h
 | .agg xs,v,hk,h=>by
  simp only[AVal,AV.lend]at h ⊢
  obtain⟨vs,h1,h2⟩:=h
  exact⟨vs,h1,AVals.lend hc (fun k hk'=>hk k (by simpa [AV.keys] using hk')) h2⟩
 | .tup xs,v,hk,h=>by
  simp only[AVal,AV.lend]at h ⊢
  obtain⟨vs,h1,h2⟩:=h
  exact⟨vs,h1,AVals.lend hc (fun k hk'=>hk k (by simpa [AV.keys] using hk')) h2⟩
 | .clo f xs,v,hk,h=>by
  simp only[AVal,AV.lend]at h ⊢
  obtain⟨vs,h1,h2⟩:=h
  exact⟨vs,h1,AVals.lend hc (fun k hk'=>hk k (by simpa [AV.keys] using hk')) h2⟩
 | .op k o,v,hk,h=>by
  simp only[AV.lend]
  have hkk:=hk k (by simp[AV.keys])
  split
  ·rename_i cells hh
   split
   ·rename_i ss hs
    obtain⟨b,e,cur,h1,h2,h3,h4,h5,h6⟩:=hc.hp k _ hh
    have hreps:=zK5 hs h5
    simp only[AVal]at h
    obtain⟨b',e1,rfl⟩:=h
    rw[h1]at e1; cases e1
    simp only[AVal,Rep]
    have hrow:RepRow (zUo G O V ks) w b ss 0:=RepRow.mk fun i s hi=>⟨.inr ⟨k,_,hkk,hh,by rw[h1]; rfl⟩,by
     obtain⟨u,hu,hr⟩:=zK3 hreps hi
     rw[aI]at hu
     exact⟨u,by simp[World.cell?,h2,hu],hr.keep ⟨fun _ h=>.inl h,fun _ _=>rfl⟩⟩⟩
    exact⟨b,o,rfl,by simpa using hrow.drop o⟩
   ·simp only[AVal]
  ·simp only[AVal]
 | .orow k,v,hk,h=>by
  simp only[AV.lend]
  have hkk:=hk k (by simp[AV.keys])
  split
  ·rename_i e sz rows hh
   obtain⟨hlen,hsz,ho⟩:=hc.hp k _ hh
   simp only[AVal]at h
   obtain⟨rfl,_⟩:=h
   simp only[AVal,Rep]
   rcases ho with ⟨h1,rfl⟩ | ⟨b,cap,cur,h1,h2,h3,⟨mk,hmk,h4⟩,h5,h6,h7⟩
   ·exact .inl ⟨rfl,_,_,h1⟩
   ·refine .inr ⟨b,0,cap,h1,h2,zCl hlen (RepRow.mk fun i s hi=>⟨.inr ⟨k,_,hkk,hh,by rw[h1]; rfl⟩,?_⟩)⟩
    obtain⟨u,hu,hr⟩:=h7 i s hi
    exact⟨u,by simp[World.cell?,h4,hu],hr.keep ⟨fun _ h=>.inl h,fun _ _=>rfl⟩⟩
  ·simp only[AVal]
 | .rp ..,v,_,h=>by simp only[AV.lend,AVal]
 | .mref _,v,_,h=>by simp only[AV.lend,AVal]
 | .junk,_,_,_=>by simp only[AV.lend,AVal]
def AVals.lend (hc:Conc c G O V a w){ks:List Nat}:∀ {xs:List AV}{vs:List Value},(∀ k∈AV.keysAll xs,k∈ks)->AVals G w O xs vs->AVals (zUo G O V ks) w O (AV.lendAll V.hp xs) vs
 | [],_,_,h=>by simp only[AVals,AV.lendAll]at h ⊢; exact h
 | x::xs,vs,hk,h=>by
  simp only[AVals,AV.lendAll]at h ⊢
  obtain⟨v,vs',h1,h2,h3⟩:=h
  exact⟨v,vs',h1,AVal.lend hc (fun k hk'=>hk k (by simp[AV.keysAll,hk'])) h2,AVals.lend hc (fun k hk'=>hk k (by simp[AV.keysAll,hk'])) h3⟩
end
def kin (k:Nat):List Nat->Bool
 | []=>false
 | x::xs=>match Nat.beq k x with | true=>true | false=>kin k xs
def zSS {k:Nat}:∀ {l:List Nat},kin k l=false->k ∉ l
 | [],_=>by simp
 | x::xs,h=>by
  simp only[kin]at h;split at h
  ·cases h
  ·rename_i e;have:=zSS h;have:=Nat.ne_of_beq_eq_false e;simp_all
def zOk (ks:List Nat) (V:St):St:={ V with hp:=fun k=>bif kin k ks then none else V.hp k }
def Conc.giveAll (hc:Conc c G O V a w) (ks:List Nat):Conc c (zUo G O V ks) O (zOk ks V) a w:=by
 have k:Keep G (zUo G O V ks) w w:=⟨fun _ h=>.inl h,fun _ _=>rfl⟩;have hget:∀ {k' o},(zOk ks V).hp k'=some o->k' ∉ ks/\V.hp k'=some o:=fun {k' o} hk=>by
  simp only[zOk]at hk;cases e:kin k' ks with
  | true=>rw[e,ag]at hk; cases hk
  | false=>rw[e,ae]at hk; exact⟨zSS e,hk⟩
 have hng:∀ {k' o},V.hp k'=some o->k' ∉ ks->∀ {b:Nat},blk (O k')=some b->¬ zUo G O V ks b:=fun {k' o} hk hn {b} hb hl=>by
  rcases hl with hl | ⟨k2,o2,h1,h2,h3⟩
  ·exact(row_block (hc.hp k' o hk) b hb).1 hl
  exact hc.inj k' k2 o o2 hk h2 (fun e=>hn (e ▸ h1)) b hb h3
 refine { hc with env:=fun t=>(hc.env t).keep k,hp:=fun k' o hk=>?_,hplt:=fun k' o hk=>hc.hplt k' o (hget hk).2,inj:=fun k1 k2 o1 o2 h1 h2=>hc.inj k1 k2 o1 o2 (hget h1).2 (hget h2).2,lt:=fun i hi=>?_,sub:=fun i hi=>.inl (hc.sub i hi),new:=fun i hi=>?_,glob:=hc.glob.keep k }
 ·obtain⟨hn,hk0⟩:=hget hk;have ho:=hc.hp k' o hk0;cases o with
  | box cells=>obtain⟨b',e',cur,h1,h2,h3,h4,h5,h6⟩:=ho;exact⟨b',e',cur,h1,h2,hng hk0 hn (by rw[h1]; rfl),h4,h5.keep k,h6⟩
  | row e' sz rows =>
   obtain⟨h0,h0',h1⟩:=ho;refine⟨h0,h0',h1.imp id ?_⟩;rintro⟨b',cap,cur,h1,h2,h3,h4,h5,h6,h7⟩;exact⟨b',cap,cur,h1,h2,h3,h4,hng hk0 hn (by rw[h1]; rfl),h6,fun i s hi=>let ⟨u,hu,hr⟩:=h7 i s hi; ⟨u,hu,hr.keep k⟩⟩
  | arow e' sz rows=>exact ho.moveA (fun _ _ _ h=>h) (fun b _ hb _ _=>hng hk0 hn hb) (fun _ _ h=>h) (fun _ _ _ _ hr=>hr.keep k)
  | any τ xs=>obtain⟨b',o',vs,h1,h2,h3,h4,h5,h6⟩:=ho;exact⟨b',o',vs,h1,h2,hng hk0 hn h1,h4,h5.keep k,h6⟩
 ·rcases hi with hi | ⟨k2,o2,h1,h2,h3⟩
  ·exact hc.lt i hi
  exact hc.blk_lt h2 h3
 rcases hi with hi | ⟨k2,o2,h1,h2,h3⟩
 ·exact hc.new i hi
 exact .inr (row_block (hc.hp k2 o2 h2) i h3).2
def zA1 (T:Nat->Option TI) (o:Oper) (env:Nat->AV):Option (Nat×List AV) :=
 match o.op with
 | .call { callee:=.value f,args:=args,argTypes:=ts }=>match opd T env 0 f with
  | .s (.fn g)=>some (g,opds T env args.toList ts.toList)
  | .clo g caps=>match Nat.ble 1048576 g with
   | false=>some (g,opds T env args.toList ts.toList++caps)
   | true=>match args.toList.all (fun x=>!zAY x) with
    | true=>some (g - 1048576,caps++opds T env args.toList ts.toList)
    | false=>none
  | _=>none
 | _=>none
def zAo (hp:Nat->Option Ob):Nat->List Nat->List Nat->List Nat
 | 0,_,acc=>acc
 | _,[],acc=>acc
 | n+1,k::r,acc=>match kin k acc with
  | true=>zAo hp n r acc
  | false=>match hp k with
   | some (.box _ cells)=>zAo hp n (AV.keysAll cells++r) (acc++[k])
   | some (.arow _ _ rows)=>zAo hp n (AV.keysAll rows.flatten++r) (acc++[k])
   | some (.any _ xs)=>zAo hp n (AV.keysAll xs++r) (acc++[k])
   | _=>zAo hp n r (acc++[k])
def zipI:Nat->List Nat->List (Nat×Nat)
 | _,[]=>[]
 | i,k::ks=>(k,i)::zipI (i+1) ks
def zLo (hp:Nat->Option Ob) (ρ:List (Nat×Nat)):List Nat->Option (List Ob)
 | []=>some []
 | k::ks=>match hp k,zLo hp ρ ks with | some o,some os=>some (o.ren ρ::os) | _,_=>none
def zER:List Nat->Nat->Nat->Nat
 | k::_,_,0=>k
 | _::ks,nx,i+1=>zER ks nx i
 | [],nx,i=>nx+i
def zEc (ks:List Nat) (nx:Nat):Nat->List (Option Ob)->List (Nat×Nat)
 | _,[]=>[]
 | i,none::r=>zEc ks nx (i+1) r
 | i,some _::r=>(i,zER ks nx i)::zEc ks nx (i+1) r
def zJw (ρ:List (Nat×Nat)) (f:Nat->Nat):Nat->List (Option Ob)->(Nat->Option Ob)->Nat->Option Ob
 | _,[],hp=>hp
 | i,o::os,hp=>zJw ρ f (i+1) os (fun k=>bif Nat.beq k (f i) then o.map (Ob.ren ρ) else hp k)
def handed (V:St) (ks:List Nat) (os':List (Option Ob)):St :=
 { V with hp:=zJw (zEc ks V.nx 0 os') (zER ks V.nx) 0 os' V.hp,nx:=V.nx+(os'.length - ks.length) }
def zFB (T:Nat->Option TI) (nil:Option Nat) (o:Oper) (xs:List AV) (V:St):List AV×St :=
 match nil with
 | none=>(xs,V)
 | some k=>match o.op with
  | .call { callee:=_,args:=args,argTypes:=ts }=>match args.toList[k]?,elemOf T (ts.toList.getD k 0) with
   | some x,some (e,j)=>match zAY x,Nat.ble 1 j.size with
    | true,true=>(xs.set k (.orow V.nx),zA6 V (.row e j.size []))
    | _,_=>(xs,V)
   | _,_=>(xs,V)
  | _=>(xs,V)
def zGZ (T:Nat->Option TI) (o:Oper) (V:St) (K:AV->St->Prop):Prop :=
 match o.op with
 | .load t x=>match opd T V.env 0 x with
  | .rp k sz i off=>match V.hp k with
   | some (.row _ sz' rows)=>match Nat.beq sz sz' with
    | true=>i<rows.length/\∃ row,rows.getD i []=row/\match zMG T t (row.drop off) with | some y=>K y V | none=>False
    | false=>False
   | some (.arow _ sz' rows)=>match Nat.beq sz sz' with
    | true=>i<rows.length/\∃ row,rows.getD i []=row/\match zOQ T t (row.drop off) with | some y=>K y V | none=>False
    | false=>False
   | _=>False
  | _=>False
 | _=>False
def zGf (T:Nat->Option TI) (Γ:Nat->Option zAq) (own:Bool) (o:Oper) (V:St) (K:AV->St->Prop):Prop :=
 match zA1 T o V.env with
 | none=>zGZ T o V K
 | some (g,xs)=>match Γ g with
  | none=>False
  | some s=>match s.heap with
   | some R=>∃ Φ,R xs V.hp V.nx Φ/\∀ x hp' n',Φ x hp' n'->K x ⟨V.env,hp',n'⟩
   | none=>match s.own with
   | none=>match AV.persAll (AV.lendAll V.hp xs) with
    | false=>False
    | true=>∃ r,s.spec (AV.lendAll V.hp xs) r/\match zBj own (match r.flat with | true=>V | false=>zOk (AV.keysAll xs) V) r with
     | none=>False
     | some (x,V')=>K x V'
   | some R=>match zFB T s.nil o xs V with
    | (xs,V)=>match distinct (zAo V.hp 64 (AV.keysAll xs) []),zLo V.hp (zipI 0 (zAo V.hp 64 (AV.keysAll xs) [])) (zAo V.hp 64 (AV.keysAll xs) []) with
     | true,some os=>∃ x os',R (AV.renAll (zipI 0 (zAo V.hp 64 (AV.keysAll xs) [])) xs) os x os' /\
       K (x.ren (zEc (zAo V.hp 64 (AV.keysAll xs) []) V.nx 0 os')) (handed V (zAo V.hp 64 (AV.keysAll xs) []) os')
     | _,_=>False
def zGW:∀ {l:List Nat},distinct l=true->l.Nodup
 | [],_=>nodup_nil
 | x::xs,h=>by
  simp only[distinct,af]at h;exact List.nodup_cons.2 ⟨zHD h.1,zGW h.2⟩
def zED:∀ {ks:List Nat}{nx i:Nat},i<ks.length->ks[i]? = some (zER ks nx i)
 | k::ks,nx,0,_=>rfl
 | k::ks,nx,i+1,h=>by simpa [zER] using zED (ks:=ks) (nx:=nx) (i:=i) (by simpa using h)
def zFe:∀ {ks:List Nat}{nx i:Nat},ks.length<=i->zER ks nx i=nx+(i - ks.length)
 | [],nx,i,_=>by simp[zER]
 | k::ks,nx,0,h=>by simp at h
 | k::ks,nx,i+1,h=>by rw[zER,zFe (by simpa using h)]; simp
def zIq:∀ {ks:List Nat}{n k i:Nat},look k (zipI n ks)=some i->n<=i/\ks[i - n]? = some k
 | [],n,k,i,h=>by simp[zipI,look]at h
 | a::ks,n,k,i,h=>by
  simp only[zipI,look]at h;cases e:Nat.beq k a with
  | true=>rw[e,ag]at h; cases h; obtain rfl:=ab e; simp
  | false =>
   rw[e,ae]at h;obtain⟨h1,h2⟩:=zIq h;refine⟨by omega,?_⟩;rw[show i - n=(i - (n+1))+1 by omega]; simpa using h2
def zVC {k j:Nat}:∀ {l:List (Nat×Nat)},look k l=some j->(k,j)∈l
 | [],h=>by simp[look]at h
 | (a,b)::r,h=>by
  simp only[look]at h;cases e:Nat.beq k a with
  | true=>rw[e,ag]at h; cases h; obtain rfl:=ab e; simp
  | false=>rw[e,ae]at h; simp[zVC h]
def zE3 {ks:List Nat}{nx:Nat}:∀ {os:List (Option Ob)}{n i k:Nat},look i (zEc ks nx n os)=some k->n<=i/\(∃ ob,os[i - n]? = some (some ob))/\k=zER ks nx i
 | [],n,i,k,h=>by simp[zEc,look]at h
 | none::r,n,i,k,h=>by
  simp only[zEc]at h;obtain⟨h1,⟨ob,h2⟩,h3⟩:=zE3 h;refine⟨by omega,⟨ob,?_⟩,h3⟩;rw[show i - n=(i - (n+1))+1 by omega]; simpa using h2
 | some o::r,n,i,k,h=>by
  simp only[zEc,look]at h;cases e:Nat.beq i n with
  | true=>rw[e,ag]at h; cases h; obtain rfl:=ab e; exact⟨ar _,⟨o,by simp⟩,rfl⟩
  | false =>
   rw[e,ae]at h;obtain⟨h1,⟨ob,h2⟩,h3⟩:=zE3 h;refine⟨by omega,⟨ob,?_⟩,h3⟩;rw[show i - n=(i - (n+1))+1 by omega]; simpa using h2
def zHe {ρ:List (Nat×Nat)}{f:Nat->Nat}:∀ {os:List (Option Ob)}{i:Nat}{hp:Nat->Option Ob}{k:Nat}{ob:Ob},zJw ρ f i os hp k=some ob ->
  (∃ j ob0,os[j]? = some (some ob0)/\k=f (i+j)/\ob=ob0.ren ρ)∨(hp k=some ob/\∀ j,j<os.length->k ≠ f (i+j))
 | [],i,hp,k,ob,h=>.inr ⟨h,fun j hj=>by simp at hj⟩
 | o::os,i,hp,k,ob,h=>by
  simp only[zJw]at h;rcases zHe h with ⟨j,ob0,h1,h2,h3⟩ | ⟨h1,h2⟩
  ·exact .inl ⟨j+1,ob0,by simpa using h1,by rw[h2]; congr 1; omega,h3⟩
  ·cases e:Nat.beq k (f i) with
   | true =>
    rw[e,ag]at h1;obtain⟨ob0,h3,h4⟩:=aH.1 h1;exact .inl ⟨0,ob0,by simp[h3],ab e,h4.symm⟩
   | false =>
    rw[e,ae]at h1;refine .inr ⟨h1,fun j hj=>?_⟩;cases j with
    | zero=>exact Nat.ne_of_beq_eq_false e
    | succ j=>have:=h2 j (by simpa using hj); rwa [show i+1+j=i+(j+1) by omega]at this
def zN0 {hp:Nat->Option Ob}{ρ:List (Nat×Nat)}:∀ {ks:List Nat}{os:List Ob},zLo hp ρ ks=some os->os.length=ks.length/\∀ (i:Nat) k,ks[i]? = some k->∃ o,hp k=some o/\os[i]? = some (o.ren ρ)
 | [],os,h=>by simp only[zLo,aC]at h; subst h; exact⟨rfl,fun i k h=>by simp at h⟩
 | k::ks,os,h=>by
  simp only[zLo]at h;split at h
  ·rename_i o os1 h1 h2;cases h;obtain⟨a1,a2⟩:=zN0 h2;refine⟨by simp[a1],fun i k' hk=>?_⟩;cases i with
   | zero=>simp at hk; subst hk; exact⟨o,h1,by simp⟩
   | succ i=>simpa using a2 i k' (by simpa using hk)
  ·cases h
def zOh {ρ:List (Nat×Nat)}:∀ (l:List AV),AV.renAll ρ l=l.map (AV.ren ρ)
 | []=>rfl
 | x::l=>by simp[AV.renAll,zOh l]
def zG3 {ρ:List (Nat×Nat)}:∀ (rows:List (List AV)),(rows.map (AV.renAll ρ)).flatten=rows.flatten.map (AV.ren ρ)
 | []=>rfl
 | r::rows=>by simp[zOh,zG3 rows,bn]
variable {o:Ob}{v:Value}{O:Nat->Value}{w:World}{G:Nat->Prop}
def ObAt.mv {c1 c2:Cx} (hm:∀ b,blk v=some b->c1.mine b->c2.mine b) (h:ObAt c1 G w O v o):ObAt c2 G w O v o:=by
 cases o with
 | box xs=>obtain⟨b,e,cur,q1,q2,q3,q4,q5,q6⟩:=h;exact⟨b,e,cur,q1,q2,q3,hm b (by rw[q1]; rfl) q4,q5,q6⟩
 | row e sz rows =>
  obtain⟨h1,h2,h3⟩:=h;refine⟨h1,h2,h3.imp id ?_⟩;rintro⟨b,cap,cur,k1,k2,k3,k4,k5,k6,k7⟩;exact⟨b,cap,cur,k1,k2,k3,k4,k5,hm b (by rw[k1]; rfl) k6,k7⟩
 | arow e sz rows=>exact h.moveA (fun _ _ _ h=>h) (fun _ _ _ _ h=>h) hm (fun _ _ _ _ h=>h)
 | any τ xs=>obtain⟨b,o,vs,q1,q2,q3,q4,q5,q6⟩:=h;exact⟨b,o,vs,q1,q2,q3,hm b q1 q4,q5,q6⟩
variable {ρ:List (Nat×Nat)}{O':Nat->Value}
def ObAt.ren {c1 c2:Cx} (hb:∀ k j,look k ρ=some j->O' j=O k) (hm:∀ b,blk v=some b->c1.mine b->c2.mine b)
  (h:ObAt c1 G w O v o):ObAt c2 G w O' v (o.ren ρ):=by
 cases o with
 | box xs=>obtain⟨b,e,cur,q1,q2,q3,q4,q5,q6⟩:=h;exact⟨b,e,cur,q1,q2,q3,hm b (by rw[q1]; rfl) q4,q5.ren hb,q6⟩
 | row e sz rows =>
  obtain⟨h1,h2,h3⟩:=h;refine⟨h1,h2,h3.imp id ?_⟩;rintro⟨b,cap,cur,k1,k2,k3,k4,k5,k6,k7⟩;exact⟨b,cap,cur,k1,k2,k3,k4,k5,hm b (by rw[k1]; rfl) k6,k7⟩
 | arow e sz rows =>
  obtain⟨h1,h2,h3⟩:=h;refine⟨fun r hr=>by obtain⟨r',hr',rfl⟩:=be.1 hr; rw[zOh,az]; exact h1 r' hr',h2,h3.imp (fun h=>⟨h.1,by rw[h.2]; rfl⟩) ?_⟩;rintro⟨b,cap,cur,k1,k2,k3,k4,k5,k6,k7⟩;refine⟨b,cap,cur,by rw[az]; exact k1,by rw[az]; exact k2,k3,k4,k5,hm b (by rw[k1]; rfl) k6,fun i x hi=>?_⟩;rw[zG3,ao]at hi;obtain⟨y,hy,rfl⟩:=aH.1 hi;obtain⟨u,hu,hr,h1⟩:=k7 i y hy;exact⟨u,hu,hr.ren hb,h1⟩
 | any τ xs=>obtain⟨b,o,vs,q1,q2,q3,q4,q5,q6⟩:=h;exact⟨b,o,vs,q1,q2,q3,hm b q1 q4,q5.ren hb,q6⟩
mutual
def AV.ren_lt {ρ:List (Nat×Nat)}{n:Nat} (h:∀ k j,look k ρ=some j->j<n):∀ {x:AV},(x.ren ρ).lt n=true
 | .s _=>rfl
 | .nl _=>rfl
 | .agg xs=>by simp only[AV.ren,AV.lt]; exact AV.renAll_lt h
 | .tup xs=>by simp only[AV.ren,AV.lt]; exact AV.renAll_lt h
 | .clo _ xs=>by simp only[AV.ren,AV.lt]; exact AV.renAll_lt h
 | .op k o=>by
  simp only[AV.ren]
  split
  ·rename_i j hj; simp only[AV.lt,ay]; exact h k j hj
  ·rfl
 | .orow k=>by
  simp only[AV.ren]
  split
  ·rename_i j hj; simp only[AV.lt,ay]; exact h k j hj
  ·rfl
 | .rp k _ _ _=>by
  simp only[AV.ren]
  split
  ·rename_i j hj; simp only[AV.lt,ay]; exact h k j hj
  ·rfl
 | .mref k=>by
  simp only[AV.ren]
  split
  ·rename_i j hj; simp only[AV.lt,ay]; exact h k j hj
  ·rfl
 | .junk=>rfl
def AV.renAll_lt {ρ:List (Nat×Nat)}{n:Nat} (h:∀ k j,look k ρ=some j->j<n):∀ {xs:List AV},AV.ltAll n (AV.renAll ρ xs)=true
 | []=>rfl
 | x::xs=>by simp only[AV.renAll,AV.ltAll,af]; exact⟨AV.ren_lt h,AV.renAll_lt h⟩
end
def Ob.ren_lt {n:Nat} (h:∀ k j,look k ρ=some j->j<n):(o.ren ρ).lt n=true:=by
 cases o with
 | box xs=>simp only[Ob.ren,Ob.lt]; exact AV.renAll_lt h
 | any xs=>simp only[Ob.ren,Ob.lt]; exact AV.renAll_lt h
 | row=>rfl
 | arow e sz rows=>
 simp only[Ob.ren,Ob.lt];exact zNT fun q y hq=>by
  rw[zG3,ao]at hq;obtain⟨z,_,rfl⟩:=aH.1 hq;exact AV.ren_lt h
theorem Conc.handed (hc:Conc c G O V a w){ks:List Nat}{os:List Ob}{os':List (Option Ob)} (hd:ks.Nodup) (hks:∀ (i:Nat) k,ks[i]? = some k->∃ ob,V.hp k=some ob) (hlen:os.length=ks.length)
  {G':Nat->Prop} {O1 O':Nat->Value} {w':World} (hβ:∀ (i:Nat) k,ks[i]? = some k->O1 i=O k) (h1:Fr (zET c.P w O1 os.length G 0).X w w') (h2:∀ b,G b->G' b) (h3:∀ b,G' b->G b∨(zET c.P w O1 os.length G 0).mine b) (h4:∀ b,G' b->b<w'.heap.size)
  (h5:os.length<=os'.length) (h6:zV7 (zET c.P w O1 os.length G 0) G' w' O' os') (h7:∀ (i:Nat) ob,i<os.length->os'[i]? = some (some ob)->O' i=O1 i) :
  ∃ O2,(∀ k j,look k (zEc ks V.nx 0 os')=some j->O2 j=O' k)/\(∀ k,k<V.nx->O2 k=O k)/\Conc c G' O2 (handed V ks os') a w':=by
 have hX:∀ b,(zET c.P w O1 os.length G 0).X b->∃ k ob,k∈ks/\V.hp k=some ob/\blk (O k)=some b:=fun b ⟨i,hi,hb⟩=>by
  have hk:=ac (l:=ks) (by rw[← hlen]; exact hi);obtain⟨ob,ho⟩:=hks i _ hk;exact⟨ks[i]'(by rw[← hlen]; exact hi),ob,aV _,ho,by rw[← hβ i _ hk]; exact hb⟩
 have hXG:∀ b,G b->¬ (zET c.P w O1 os.length G 0).X b:=fun b hg hx=>by
  obtain⟨k,ob,_,ho,hb⟩:=hX b hx;exact(row_block (hc.hp k ob ho) b hb).1 hg
 have hmine:∀ b,(zET c.P w O1 os.length G 0).mine b->c.mine b:=fun b hm=>by
  rcases hm with hm | hm
  ·obtain⟨k,ob,_,ho,hb⟩:=hX b hm;exact(row_block (hc.hp k ob ho) b hb).2
  exact .inr (bc hc.fr.size hm)
 have hksl:∀ (i:Nat) k,ks[i]? = some k->k<V.nx:=fun i k hk=>by
  obtain⟨ob,ho⟩:=hks i k hk;exact(hc.hplt k ob ho).1
 have keep:Keep G G' w w':=⟨h2,fun b hb=>h1.old b (hc.lt b hb) (hXG b hb)⟩;refine⟨fun k=>if k<V.nx then O k else O' (ks.length+(k - V.nx)),fun k j hkj=>?_,fun k hk=>if_pos hk,?_⟩
 ·obtain⟨_,⟨ob,hob⟩,rfl⟩:=zE3 hkj;rw[Nat.sub_zero]at hob;dsimp only;by_cases hi:k<ks.length
  ·have hb:=zED (ks:=ks) (nx:=V.nx) hi;rw[if_pos (hksl k _ hb),h7 k ob (by rw[hlen]; exact hi) hob,hβ k _ hb]
  rw[zFe (by omega),if_neg (by omega)];congr 1; omega
 have hβ2:∀ k,k<V.nx->(fun k=>if k<V.nx then O k else O' (ks.length+(k - V.nx))) k=O k:=fun k hk=>if_pos hk
 have hbk:∀ j,j<os'.length->zER ks V.nx j<V.nx+(os'.length - ks.length):=fun j hj=>by
  by_cases hi:j<ks.length
  ·have:=hksl j _ (zED (ks:=ks) (nx:=V.nx) hi); omega
  rw[zFe (by omega)]; omega
 have hal:∀ j ob0,os'[j]? = some (some ob0)->(if zER ks V.nx j<V.nx then O (zER ks V.nx j) else O' (ks.length+(zER ks V.nx j - V.nx)))=O' j:=fun j ob0 hj=>by
  by_cases hi:j<ks.length
  ·have hb:=zED (ks:=ks) (nx:=V.nx) hi;rw[if_pos (hksl j _ hb),h7 j ob0 (by rw[hlen]; exact hi) hj,hβ j _ hb]
  rw[zFe (by omega),if_neg (by omega)];congr 1; omega
 have hinj:∀ i j,i<os'.length->j<os'.length->zER ks V.nx i=zER ks V.nx j->i=j:=fun i j hi hj e=>by
  by_cases h8:i<ks.length <;> by_cases h9:j<ks.length
  ·have q1:=zED (ks:=ks) (nx:=V.nx) h8;have q2:=zED (ks:=ks) (nx:=V.nx) h9;rw[← e,← q1]at q2;exact(List.getElem?_inj h8 hd).1 q2.symm
  ·have q1:=hksl i _ (zED (ks:=ks) (nx:=V.nx) h8);rw[e,zFe (by omega)]at q1; omega
  ·have q1:=hksl j _ (zED (ks:=ks) (nx:=V.nx) h9);rw[← e,zFe (by omega)]at q1; omega
  rw[zFe (by omega),zFe (by omega)]at e; omega
 have hold:∀ k ob,V.hp k=some ob->(∀ j,j<os'.length->k ≠ zER ks V.nx (0+j))->k ∉ ks:=fun k ob _ hn hm=>by
  obtain⟨i,hi,rfl⟩:=getElem_of_mem hm;have hil:i<os'.length :=(by omega);have:=zED (ks:=ks) (nx:=V.nx) hi;rw[ac hi]at this;refine hn i hil ?_;rw[a8];exact(Option.some.inj this)
 have hoth:∀ k ob,V.hp k=some ob->k ∉ ks->∀ b,blk (O k)=some b->w'.heap[b]? = w.heap[b]?/\¬ G' b/\¬ (zET c.P w O1 os.length G 0).mine b:=fun k ob hk hn b hb=>by
  have hx:¬ (zET c.P w O1 os.length G 0).X b:=fun hx=>by
   obtain⟨k2,ob2,q1,q2,q3⟩:=hX b hx;exact hc.inj k k2 ob ob2 hk q2 (fun e=>hn (e ▸ q1)) b hb q3
  have hlt:=hc.blk_lt hk hb;have hm:¬ (zET c.P w O1 os.length G 0).mine b:=fun hm=>hm.elim hx (fun h=>by simp only[zET]at h; omega)
  exact⟨h1.old b hlt hx,fun hg=>(h3 b hg).elim (row_block (hc.hp k ob hk) b hb).1 hm,hm⟩
 refine { defers:=hc.defers,size:=hc.size,env:=fun t=>((hc.env t).keep keep).beta hβ2 (hc.envlt t),envlt:=fun t=>AV.lt_mono (Nat.le_add_right _ _) (hc.envlt t),hp:=fun k ob hk=>?_,hplt:=fun k ob hk=>?_,inj:=fun k k2 ob ob2 hk hk2 hne b hb hb2=>?_,lt:=h4,sub:=fun b hb=>h2 b (hc.sub b hb),new:=fun b hb=>(h3 b hb).elim (hc.new b) (fun h=>.inr (hmine b h)),fr:=?_,stay:=⟨bc hc.stay.1 (Nat.le_add_right _ _),fun k hk=>by rw[if_pos (a9 hk hc.stay.1)]; exact hc.stay.2 k hk⟩,glob:=hc.glob.keep keep }
 ·rcases zHe hk with ⟨j,ob0,q1,q2,rfl⟩ | ⟨q1,q2⟩
  ·rw[a8]at q2;subst q2;rw[hal j ob0 q1];refine ObAt.ren (fun i k hik=>?_) (fun b _ hm=>hmine b hm) (h6.1 j ob0 q1).1;obtain⟨_,⟨ob,hob⟩,rfl⟩:=zE3 hik;exact hal i ob (by simpa using hob)
  have hn:=hold k ob q1 q2;have hkl:=(hc.hplt k ob q1);rw[if_pos hkl.1];have ho:=hc.hp k ob q1;cases ob with
  | box cells =>
   obtain⟨b',e',cur,r1,r2,r3,r4,r5,r6⟩:=ho;obtain⟨s1,s2,_⟩:=hoth k _ q1 hn b' (by rw[r1]; rfl);exact⟨b',e',cur,r1,by rw[s1]; exact r2,s2,r4,(r5.keep keep).beta hβ2 (by simpa [Ob.lt] using hkl.2),r6⟩
  | row e' sz rows =>
   obtain⟨r0,r0',r1⟩:=ho;refine⟨r0,r0',r1.imp id ?_⟩;rintro⟨b',cap,cur,r1,r2,r3,r4,r5,r6,r7⟩;obtain⟨s1,s2,_⟩:=hoth k _ q1 hn b' (by rw[r1]; rfl);exact⟨b',cap,cur,r1,r2,r3,r4.to (fun x hx=>by rw[s1]; exact hx),s2,r6,fun i s hi=>let ⟨u,hu,hr⟩:=r7 i s hi; ⟨u,hu,hr.keep keep⟩⟩
  | arow e' sz rows=>exact ho.moveA (fun b _ hb hx=>by rw[(hoth k _ q1 hn b hb).1]; exact hx) (fun b _ hb _ _=>(hoth k _ q1 hn b hb).2.1) (fun _ _ h=>h) (fun i x u hx hr=>(hr.keep keep).beta hβ2 (zIX (by simpa [Ob.lt] using hkl.2) hx))
  | any τ xs=>obtain⟨b',o',vs,r1,r2,r3,r4,r5,r6⟩:=ho;obtain⟨s1,s2,_⟩:=hoth k _ q1 hn b' r1;exact⟨b',o',vs,r1,by rw[s1]; exact r2,s2,r4,(r5.keep keep).beta hβ2 (by simpa [Ob.lt] using hkl.2),r6⟩
 ·rcases zHe hk with ⟨j,ob0,q1,q2,rfl⟩ | ⟨q1,q2⟩
  ·rw[a8]at q2;subst q2;have hj:j<os'.length:=(aa.1 q1).1;exact⟨hbk j hj,Ob.ren_lt fun i k hik=>by obtain⟨_,⟨ob,hi⟩,rfl⟩:=zE3 hik; exact hbk i (by simpa using (aa.1 hi).1)⟩
  obtain⟨r1,r2⟩:=hc.hplt k ob q1;refine⟨a9 r1 (Nat.le_add_right _ _),?_⟩;cases ob with
  | box cells=>exact AV.ltAll_mono (Nat.le_add_right _ _) (by simpa [Ob.lt] using r2)
  | row=>rfl
  | arow=>exact AV.ltAll_mono (Nat.le_add_right _ _) (by simpa [Ob.lt] using r2)
  | any=>exact AV.ltAll_mono (Nat.le_add_right _ _) (by simpa [Ob.lt] using r2)
 ·rcases zHe hk with ⟨j,ob0,q1,q2,rfl⟩ | ⟨q1,q2⟩ <;> rcases zHe hk2 with ⟨j2,ob02,q12,q22,rfl⟩ | ⟨q12,q22⟩
  ·rw[a8]at q2 q22;subst q2; subst q22;rw[hal j ob0 q1]at hb;rw[hal j2 ob02 q12]at hb2;exact h6.2 j j2 ob0 ob02 q1 q12 (fun e=>hne (by rw[e])) b hb hb2
  ·rw[a8]at q2;subst q2;rw[hal j ob0 q1]at hb;rw[if_pos (hc.hplt k2 ob2 q12).1]at hb2;exact(hoth k2 ob2 q12 (hold k2 ob2 q12 q22) b hb2).2.2 (row_block (h6.1 j ob0 q1).1 b hb).2
  ·rw[a8]at q22;subst q22;rw[hal j2 ob02 q12]at hb2;rw[if_pos (hc.hplt k ob q1).1]at hb;exact(hoth k ob q1 (hold k ob q1 q2) b hb).2.2 (row_block (h6.1 j2 ob02 q12).1 b hb2).2
  rw[if_pos (hc.hplt k ob q1).1]at hb;rw[if_pos (hc.hplt k2 ob2 q12).1]at hb2;exact hc.inj k k2 ob ob2 q1 q12 hne b hb hb2
 refine⟨h1.os.trans hc.fr.os,h1.tape.trans hc.fr.tape,h1.output.trans hc.fr.output,bc hc.fr.size h1.size,fun b hb hx=>(h1.old b (a9 hb hc.fr.size) (fun hm=>?_)).trans (hc.fr.old b hb hx)⟩;rcases hmine b (.inl hm) with h | h
 ·exact hx h
 omega
def Conc.heaped (hc:Conc c G O V a w){G':Nat->Prop}{hp':Nat->Option Ob}{n':Nat}{w':World} (h0:V.nx<=n') (h1:Fr (zFp c.P w O V.hp V.nx G 0).X w w') (h2:∀ b,G b->G' b)
  (h3:∀ b,G' b->G b∨(zFp c.P w O V.hp V.nx G 0).mine b) (h4:∀ b,G' b->b<w'.heap.size) (h5:HpAt (zFp c.P w O V.hp V.nx G 0) G' w' O' hp' n') (h6:∀ k,k<V.nx->O' k=O k):Conc c G' O' ⟨V.env,hp',n'⟩ a w':=by
 have hm:∀ b,(zFp c.P w O V.hp V.nx G 0).mine b->c.mine b:=fun b hm=>by
  rcases hm with ⟨k,ob,q1,q2⟩ | hm
  ·exact(row_block (hc.hp k ob q1) b q2).2
  exact .inr (bc hc.fr.size hm)
 have k:Keep G G' w w':=⟨h2,fun b hb=>h1.old b (hc.lt b hb) (fun⟨k,ob,q1,q2⟩=>(row_block (hc.hp k ob q1) b q2).1 hb)⟩;refine { defers:=hc.defers,size:=hc.size,env:=fun t=>((hc.env t).keep k).beta h6 (hc.envlt t),envlt:=fun t=>AV.lt_mono h0 (hc.envlt t),hp:=fun k ob hk=>(h5.obs k ob hk).mv fun b _ hb=>hm b hb,hplt:=h5.lts,inj:=h5.inj,lt:=h4,sub:=fun b hb=>h2 b (hc.sub b hb),new:=fun b hb=>(h3 b hb).elim (hc.new b) (fun h=>.inr (hm b h)),fr:=?_,stay:=⟨bc hc.stay.1 h0,fun k hk=>(h6 k (a9 hk hc.stay.1)).trans (hc.stay.2 k hk)⟩,glob:=hc.glob.keep k };refine⟨h1.os.trans hc.fr.os,h1.tape.trans hc.fr.tape,h1.output.trans hc.fr.output,bc hc.fr.size h1.size,fun b hb hx=>(h1.old b (a9 hb hc.fr.size) (fun hx'=>?_)).trans (hc.fr.old b hb hx)⟩;rcases hm b (.inl hx') with h | h
 ·exact hx h
 omega
def Conc.hpAt (hc:Conc c G O V a w):HpAt (zFp c.P w O V.hp V.nx G 0) G w O V.hp V.nx :=
 ⟨fun k ob hk=>(hc.hp k ob hk).mv fun b hb _=>.inl ⟨k,ob,hk,hb⟩,hc.hplt,hc.inj⟩
theorem zRd {T:Nat->Option TI}{V:St} (h:∀ t,(V.env t).lt V.nx=true):∀ (xs:List Operand) (ts:List Nat),AV.ltAll V.nx (opds T V.env xs ts)=true
 | [],_=>rfl
 | x::xs,ts=>by
  simp only[opds,AV.ltAll,af];exact⟨AV.deep_lt (zMl h T _ x),zRd h xs ts.tail⟩
def zIs {n:Nat}:∀ {xs ys:List AV},AV.ltAll n xs=true->AV.ltAll n ys=true->AV.ltAll n (xs++ys)=true
 | [],_,_,h=>h
 | x::xs,ys,h1,h2=>by
  simp only[bj,AV.ltAll,af]at h1 ⊢;exact⟨h1.1,zIs h1.2 h2⟩
def AVals.setrow {k j:Nat} (hv:O j=v) (ho:∃ o n c,v = .slice o n c):∀ {xs:List AV}{vs:List Value},AVals G w O xs vs->vs[k]? = some v->AVals G w O (xs.set k (.orow j)) vs:=fun {xs vs} h hk =>
 AVals.mk (by rw[length_set]; exact h.length) fun i x u hx hu=>by
  rw[br]at hx;split at hx
  ·rename_i e;subst e;split at hx
   ·cases hx;rw[hk]at hu; cases hu;simp only[AVal];exact⟨hv.symm,ho⟩
   cases hx
  obtain⟨u',h1,h2⟩:=h.get hx;rw[hu]at h1; cases h1; exact h2
variable {T:Nat->Option TI}
theorem zS5  (hc:Conc c G O V a w){nil:Option Nat}{o:Oper}{xs xs1:List AV}{V1:St}{vs:List Value} (hargs:AVals G w O xs vs) (hlt:AV.ltAll V.nx xs=true)
  (hvs:∀ cal args ts (k:Nat) x,o.op = .call { callee:=cal,args:=args,argTypes:=ts }->args.toList[k]? = some x->zAY x=true->vs[k]? = some (a.eval x)) (h:zFB T nil o xs V=(xs1,V1)) :
  ∃ O1,Conc c G O1 V1 a w/\AVals G w O1 xs1 vs:=by
 unfold zFB at h;split at h
 ·cases h; exact⟨O,hc,hargs⟩
 rename_i k;split at h
 ·rename_i cal args ts ho;split at h
  ·rename_i x e j hx he;split at h
   ·rename_i hn hs;cases h;have hv:=hvs _ _ _ k x ho hx hn;have hy:a.eval x = .slice none 0 0:=by
     unfold zAY at hn;split at hn
     ·rfl
     cases hn
    rw[hy]at hv;obtain⟨O',b1,b2,b3⟩:=hc.make (ob:=.row e j.size []) (v:=.slice none 0 0) ⟨fun r hr=>(by cases hr),aj hs,.inl ⟨rfl,rfl⟩⟩ rfl (fun _ _ _ b hb=>by cases hb);exact⟨O',b3,AVals.setrow b2 ⟨_,_,_,rfl⟩ (hargs.beta b1 hlt) hv⟩
   cases h; exact⟨O,hc,hargs⟩
  cases h; exact⟨O,hc,hargs⟩
 cases h; exact⟨O,hc,hargs⟩
def jZ {P:Prop} (h:P:=by obtain⟨k,o,q1,q2,rfl⟩:=hk i ob hi;obtain⟨k',o',q1',q2',rfl⟩:=hk j ob' hj;rw[hget i k q1]at hb1;rw[hget j k' q1']at hb2;refine hc.inj k k' o o' q2 q2' (fun e=>hne ?_) b hb1 hb2;subst e;exact(List.getElem?_inj (aa.1 q1).1 hnod).1 (q1.trans q1'.symm)):P:=h
def gG {P:Prop} (h:P:=by simp[execOp,ho,resolve,hfe,Deferred.ofValue,invoke,hcall]):P:=h
theorem zND {Γ:Nat->Option zAq} (hT:TOk c.P T) (hΓ:∀ f s,Γ f=some s->PSound c.P f s) (hc:Conc c G O V a w){o:Oper}{own:Bool}{K0:AV->St->Prop} (h:zGf T Γ own o V K0){K:Act->World->Prop}{Q:Exit->Act->World->Prop}
  (hK:∀ x V' G' O' w' v,K0 x V'->Conc c G' O' V' a w'->AVal G' w' O' x v->x.lt V'.nx=true->K (a.put o.dst v) w'):o.wp c.P a w K Q:=by
 have hρ:∀ ty x,AVal G w O (opd T V.env ty x) (a.eval x):=zEO hc T;unfold zGf at h;split at h
 ·unfold zGZ at h;split at h
  ·rename_i t y ho;split at h
   ·rename_i k sz i off e;split at h
    ·rename_i e' sz' rows hh;split at h
     ·rename_i hsz;obtain rfl:=ab hsz;obtain⟨hi,row,hrow,h⟩:=h;split at h
      ·rename_i x hl;rw[← hrow]at hl;exact yCr hT hc ho e hh hi hl fun v h1 h2=>hK x V G O w v h hc h1 h2
      exact h.elim
     exact h.elim
    ·rename_i e' sz' rows hh;split at h
     ·rename_i hsz;obtain rfl:=ab hsz;obtain⟨hi,row,hrow,h⟩:=h;split at h
      ·rename_i x hl;rw[← hrow]at hl;exact yAj hT hc ho e hh hi hl fun v h1 h2=>hK x V G O w v h hc h1 h2
      exact h.elim
     exact h.elim
    exact h.elim
   exact h.elim
  exact h.elim
 rename_i g xs hraw;unfold zA1 at hraw;split at hraw
 ·rename_i f args ts ho;have hpre:∃ vs:List Value,AVals G w O xs vs/\AV.ltAll V.nx xs=true/\(∀ cal args ts (k:Nat) x,o.op = .call { callee:=cal,args:=args,argTypes:=ts }->args.toList[k]? = some x->zAY x=true->vs[k]? = some (a.eval x))/\∀ (hcall:∀ args w,(callFunc g args).run c.P w = .ok (.enter g args) w),(execOp a.eval o).run c.P w = .ok (.enter g vs.toArray) w:=by
   have hargs:=zRe hρ args.toList ts.toList;split at hraw
   ·rename_i g' e;cases hraw;have hfe:=hρ 0 f;rw[e]at hfe;simp only[AVal,Rep]at hfe;refine⟨_,hargs,zRd hc.envlt _ _,fun cal args' ts' k x ho' hx _=>by rw[ho]at ho'; cases ho'; rw[ao,hx]; rfl,fun hcall=>?_⟩;have e:(args.toList.map a.eval).toArray=args.map a.eval:=bC (by simp);rw[e];exact gG
   ·rename_i g' caps e;have hfe:=hρ 0 f;rw[e]at hfe;simp only[AVal]at hfe;obtain⟨cs,hfe,hcs⟩:=hfe;have hcl:(opd T V.env 0 f).lt V.nx=true:=zMl hc.envlt T 0 f;rw[e]at hcl;simp only[AV.lt]at hcl;split at hraw
    ·rename_i hb;cases hraw;rw[zVl hb]at hfe;refine⟨args.toList.map a.eval++cs,hargs.append hcs,zIs (zRd hc.envlt _ _) hcl,fun cal args' ts' k x ho' hx _=>by
      rw[ho]at ho'; cases ho'
      have hk:k<(args.toList.map a.eval).length :=(by rw[az]; exact(aa.1 hx).1);rw[bH hk,ao,hx]; rfl,fun hcall=>?_⟩
     have e:(args.toList.map a.eval++cs).toArray=args.map a.eval++cs.toArray:=bC (by simp);rw[e];exact gG
    rename_i hb;split at hraw
    ·rename_i hnn;have hj:=ap (Option.some.inj hraw);have hj1:=hj.1;have hj2:=hj.2;subst hj1;subst hj2;rw[yBu hb]at hfe;refine⟨cs++args.toList.map a.eval,hcs.append hargs,zIs hcl (zRd hc.envlt _ _),fun cal args' ts' k x ho' hx hn=>by
      rw[ho]at ho'; cases ho'
      have:=bo.1 hnn x (av hx)
      rw[hn]at this;exact absurd this (by decide),fun hcall=>?_⟩
     have e:(cs++args.toList.map a.eval).toArray=cs.toArray++args.map a.eval:=bC (by simp);rw[e];exact gG
    cases hraw
   cases hraw
  obtain⟨vs,hargs,hxl,hvs,hex⟩:=hpre;clear hraw;split at h
  ·exact h.elim
  rename_i s hs;obtain⟨hcall,zNP,hown,hheap⟩:=hΓ g s hs;have hexec:=hex hcall;unfold Oper.wp;rw[hexec];simp only[Oper.upon_enter];split at h
  ·rename_i R hR;obtain⟨Φ,hΦ,h⟩:=h;refine(hheap R hR G w O xs vs V.hp V.nx Φ hc.lt hc.glob hargs hxl hc.hpAt hΦ).mono fun e w' he=>?_
   obtain⟨v,G',O',x,hp',n',rfl,q1,q2,q3,q4,q5,q6,q7,q8,q9,q10⟩:=he;exact hK x _ G' O' w' v (h x hp' n' q1) (hc.heaped q2 q3 q4 q5 q6 q9 q10) q7 q8
  split at h
  ·split at h
   ·exact h.elim
   rename_i hp;obtain⟨r,hr,h⟩:=h;have hl:=AVals.lend hc (ks:=AV.keysAll xs) (fun _ h=>h) hargs;refine(zNP (zUo G O V (AV.keysAll xs)) w _ _ r (hc.giveAll (AV.keysAll xs)).lt (hc.giveAll (AV.keysAll xs)).glob hp (AVals.pers hp hl) hr).mono fun e w' he=>?_
   obtain⟨v,G',rfl,h1,h2⟩:=he;cases hfl:r.flat with
   | true =>
    rw[hfl]at h;dsimp only at h;split at h
    ·exact h.elim
    rename_i x V' hx;have hext:Ext G G w w':=⟨h1.os,h1.tape,h1.output,h1.size,h1.old,fun _ h=>h,fun _ h=>.inl h,fun b hb=>a9 (hc.lt b hb) h1.size⟩;exact zJP hc hext (RetAt.flat (G1:=G) (fun b hb=>h1.sub b (.inl hb)) hfl h2) hx fun G' O' w'' v' e1 e2 h3 h4 h5=>by subst e1; subst e2; exact hK x V' G' O' _ _ h h3 h4 h5
   | false=>
   rw[hfl]at h;dsimp only at h;split at h
   ·exact h.elim
   rename_i x V' hx;exact zJP (hc.giveAll (AV.keysAll xs)) h1 h2 hx fun G' O' w'' v' e1 e2 h3 h4 h5=>by subst e1; subst e2; exact hK x V' G' O' _ _ h h3 h4 h5
  rename_i R hR;cases hna:zFB T s.nil o xs V with
  | mk xs1 V1 =>
  rw[hna]at h;dsimp only at h;obtain⟨O1,hc1,hargs1⟩:=zS5 hc hargs hxl hvs hna;clear hna hargs hxl hc hρ;revert hc1 hargs1 h;generalize V1=V;generalize O1=O;generalize xs1=xs;intro h hc hargs;generalize zAo V.hp 64 (AV.keysAll xs) []=ks at h;split at h
  ·rename_i os hd hos;obtain⟨x,os',hR',h⟩:=h;obtain⟨l1,l2⟩:=zN0 hos;have hb:∀ k j,look k (zipI 0 ks)=some j->(fun i=>O (ks.getD i 0)) j=O k:=fun k j hkj=>by
    obtain⟨_,h2⟩:=zIq hkj;simp only[Nat.sub_zero]at h2;simp[h2]
   have hlt:∀ k j,look k (zipI 0 ks)=some j->j<os.length:=fun k j hkj=>by
    obtain⟨_,h2⟩:=zIq hkj;rw[l1]; simpa using (aa.1 h2).1
   have hget:∀ (i:Nat) k,ks[i]? = some k->(fun i=>O (ks.getD i 0)) i=O k:=fun i k hk=>by simp[hk]
   have hnod:=zGW hd;have hobs:zV7 (zET c.P w (fun i=>O (ks.getD i 0)) os.length G 0) G w (fun i=>O (ks.getD i 0)) (os.map some):=by
    have hk:∀ (i:Nat) ob,(os.map some)[i]? = some (some ob)->∃ k o,ks[i]? = some k/\V.hp k=some o/\ob=o.ren (zipI 0 ks):=fun i ob hi=>by
     rw[ao]at hi;obtain⟨ob',hi',e⟩:=aH.1 hi;cases e;have hil:i<ks.length :=(by rw[← l1]; exact(aa.1 hi').1);obtain⟨o,q1,q2⟩:=l2 i _ (ac hil);rw[hi']at q2; cases q2;exact⟨_,o,ac hil,q1,rfl⟩
    refine⟨fun i ob hi=>?_,fun i j ob ob' hi hj hne b hb1 hb2=>?_⟩
    ·obtain⟨k,o,q1,q2,rfl⟩:=hk i ob hi;rw[hget i k q1];refine⟨ObAt.ren hb (fun b hb' _=>.inl ⟨i,by rw[l1]; exact(List.getElem?_eq_some_iff.1 q1).1,by have:=hget i k q1; dsimp only at this ⊢; rw[this]; exact hb'⟩) (hc.hp k o q2),?_⟩;rw[az];exact Ob.ren_lt hlt
    exact jZ
   refine(hown R hR G w _ _ _ os x os' hc.lt hc.glob (AVals.ren hb hargs) (AV.renAll_lt hlt) hobs hR').mono fun e w' he=>?_
   obtain⟨v,G',O',rfl,h1,h2,h3,h4,h5,h6,h7,h8,h9⟩:=he;obtain⟨O2,r1,r2,r3⟩:=hc.handed hnod (fun i k hk=>(l2 i k hk).imp fun o h=>h.1) l1 hget h1 h2 h3 h4 h7 h8 h9;exact hK _ _ G' O2 w' v h r3 (AVal.ren r1 h5) (AV.ren_lt fun i k hik=>by
    obtain⟨_,⟨ob,hob⟩,rfl⟩:=zE3 hik;rw[Nat.sub_zero]at hob;have hj:i<os'.length:=(aa.1 hob).1;show zER ks V.nx i<V.nx+(os'.length - ks.length)
    by_cases hi:i<ks.length
    ·have hb':=zED (ks:=ks) (nx:=V.nx) hi;obtain⟨o,q1,_⟩:=l2 i _ hb';have:=(hc.hplt _ o q1).1; omega
    rw[zFe (by omega)]; omega)
  exact h.elim
 cases hraw
end
open Go.ChangeMaps (setBlock)
def zFP (s:List UInt8):List (List UInt8)->Nat->Option Nat
 | [],_=>none
 | k::ks,i=>if s=k then some i else zFP s ks (i+1)
def zVx {s:List UInt8}:∀ {ks:List (List UInt8)}{i j:Nat},zFP s ks i=some j->i<=j/\j<i+ks.length
 | [],_,_,h=>by cases h
 | k::ks,i,j,h=>by
  simp only[zFP]at h;split at h
  ·cases h; simp
  ·have:=zVx h;simp only[ah]; omega
def beqB {s k:List UInt8}:((⟨s.toArray⟩:ByteArray) == ⟨k.toArray⟩)=decide (s=k):=by
 show(s.toArray == k.toArray)=decide (s=k);by_cases h:s=k
 ·subst h; simp
 rw[aW h];simp only[aw,ne_eq];intro e;exact h (by simpa using congrArg Array.toList e)
def zMe {s:List UInt8}:∀ (ks:List (List UInt8)) (vs:List Value) (n i:Nat),ks.length=vs.length ->
  Instr.findNow .string (.string ⟨s.toArray⟩) (zCH n ks vs) i=some (match zFP s ks i with | some j=>(vs[j - i]?).map (fun v=>(j,v)) | none=>none)
 | [],_,_,_,_=>by simp[zCH,Instr.findNow,zFP]
 | k::ks,[],_,_,h=>by simp at h
 | k::ks,v::vs,n,i,h=>by
  simp only[zCH,Instr.findNow,Instr.sameNow,zFP,beqB];by_cases e:s=k
  ·simp[e]
  ·simp only[aW e,if_neg e];rw[zMe ks vs (n+1) (i+1) (by simpa using h)];cases hj:zFP s ks (i+1) with
   | none=>rfl
   | some j =>
    have:=zVx hj;simp only[aC];rw[show j - i=(j - (i+1))+1 by omega,List.getElem?_cons_succ]
def zSD {k:List UInt8}{v:Value}:∀ (ks:List (List UInt8)) (vs:List Value) (n:Nat),ks.length=vs.length->zCH n (ks++[k]) (vs++[v])=zCH n ks vs++[{ key:=.string ⟨k.toArray⟩,val:=v,born:=n+ks.length }]
 | [],[],n,_=>by simp[zCH]
 | k'::ks,v'::vs,n,h=>by
  simp only[bj,zCH,ah];rw[zSD ks vs (n+1) (by simpa using h),show n+1+ks.length=n+(ks.length+1) by omega]
 | [],v::vs,_,h=>by simp at h
 | k::ks,[],_,h=>by simp at h
def zMR {e:MapEntry}:∀ {ks:List (List UInt8)}{vs:List Value}{n:Nat},e∈zCH n ks vs->∃ (i:Nat) (s:List UInt8) (v:Value),ks[i]? = some s/\vs[i]? = some v/\e={ key:=.string ⟨s.toArray⟩,val:=v,born:=n+i }
 | [],_,_,h=>by simp[zCH]at h
 | k::ks,[],_,h=>by simp[zCH]at h
 | k::ks,v::vs,n,h=>by
  simp only[zCH,mem_cons]at h;rcases h with rfl | h
  ·exact⟨0,k,v,rfl,rfl,rfl⟩
  ·obtain⟨i,s,u,h1,h2,rfl⟩:=zMR h;exact⟨i+1,s,u,by simpa using h1,by simpa using h2,by rw[show n+1+i=n+(i+1) by omega]⟩
def zQH:∀ {ks:List (List UInt8)}{vs:List Value}{n i:Nat}{s:List UInt8}{v:Value},ks[i]? = some s->vs[i]? = some v->({ key:=.string ⟨s.toArray⟩,val:=v,born:=n+i }:MapEntry)∈zCH n ks vs
 | [],_,_,_,_,_,h,_=>by simp at h
 | k::ks,[],_,_,_,_,_,h=>by simp at h
 | k::ks,v::vs,n,0,s,u,h1,h2=>by
  simp at h1 h2; subst h1; subst h2; simp[zCH]
 | k::ks,v::vs,n,i+1,s,u,h1,h2=>by
  have:=zQH (n:=n+1) (i:=i) (by simpa using h1) (by simpa using h2);simp only[zCH,mem_cons];right;rwa [show n+1+i=n+(i+1) by omega]at this
def zZE (T:Nat->Option TI) (e:Nat):Option AV :=
 match T e with
 | some i=>match i.k.agg with
  | true=>some (.agg (i.zero.map zAV))
  | false=>match i.zero with | [z]=>some (zAV z) | _=>none
 | none=>none
def zIz (ok:Bool) (y:AV) (b:Bool):AV:=match ok with | true=>.tup [y,.s (.bool b)] | false=>y
def mapQ (T:Nat->Option TI) (o:Oper) (V:St):Option ((AV->St->Prop)->Prop) :=
 match o.op with
 | .makeMap _ none=>some fun K=>K (.mref V.nx) (zA6 V (.any (.map []) []))
 | .insert t m k x=>match tk T t,opd T V.env 0 m,opd T V.env 0 k with
  | .mp kt e,.mref q,.s (.str s)=>match tk T kt,V.hp q,(opd T V.env e x).nrm.one with
   | .str,some (.any (.map keys) xs),true=>some fun K=>zFP s keys 0=none/\K .junk (zDW V q (.any (.map (keys++[s])) (xs++[(opd T V.env e x).nrm])))
   | _,_,_=>none
  | _,_,_=>none
 | .lookup t m k ok=>match tk T t,opd T V.env 0 m,opd T V.env 0 k with
  | .mp kt e,.mref q,.s (.str s)=>match tk T kt,V.hp q with
   | .str,some (.any (.map keys) xs)=>some fun K=>∃ r,zFP s keys 0=r/\match r with
    | some i=>match xs[i]? with | some y=>K (zIz ok y true) V | none=>False
    | none=>match zZE T e with | some z=>K (zIz ok z false) V | none=>False
   | _,_=>none
  | _,_,_=>none
 | .range t m=>match tk T t,opd T V.env 0 m with
  | .mp _ _,.mref q=>match V.hp q with
   | some (.any (.map keys) _)=>some fun K=>K (.op V.nx 0) (zA6 V (.any (.iter keys.length [] keys.length) [.mref q]))
   | _=>none
  | _,_=>none
 | .next it false=>match opd T V.env 0 it with
  | .op q 0=>match V.hp q with
   | some (.any (.iter since seen c) [.mref k])=>match V.hp k with
    | some (.any (.map keys) xs)=>some fun K=>(keys.length=since/\since<=c) /\
     (∀ (i:Nat) s x,keys[i]? = some s->xs[i]? = some x->i ∉ seen->K (.tup [.s (.bool true),.s (.str s),x]) (zDW V q (.any (.iter since (seen++[i]) keys.length) [.mref k]))) /\
     ((∀ i,i<keys.length->i∈seen)->K (.tup [.s (.bool false)]) V)
    | _=>none
   | _=>none
  | _=>none
 | .entry it=>match opd T V.env 0 it with
  | .op q 0=>match V.hp q with
   | some (.any (.iter since seen c) [.mref k])=>match V.hp k,seen.getLast? with
    | some (.any (.map keys) xs),some i=>match Nat.beq c keys.length,keys[i]?,xs[i]? with
     | true,some s,some x=>some fun K=>K (.tup [.s (.str s),x]) V
     | _,_,_=>none
    | _,_=>none
   | _=>none
  | _=>none
 | _=>none
def zES (T:Nat->Option TI) (o:Oper) (V:St):Option (Option Prop×AV×St) :=
 match o.op with
 | .lookup t m k ok=>match tk T t,opd T V.env 0 m,opd T V.env 0 k with
  | .mp kt e,.mref q,.s (.str s)=>match tk T kt,V.hp q with
   | .str,some (.any (.map keys) xs)=>match zFP s keys 0 with
    | some i=>match xs[i]? with | some y=>some (none,zIz ok y true,V) | none=>none
    | none=>match zZE T e with | some z=>some (none,zIz ok z false,V) | none=>none
   | _,_=>none
  | _,_,_=>none
 | _=>none
theorem zNS {T:Nat->Option TI}{o:Oper}{V V':St}{φ:Option Prop}{x:AV} (h:zES T o V=some (φ,x,V')):φ=none/\V'=V/\∃ Φ,mapQ T o V=some Φ/\∀ K:AV->St->Prop,K x V'->Φ K:=by
 unfold zES at h;unfold mapQ;split at h
 ·rename_i ho;try simp only[ho]
  split at h
  ·rename_i h1 h2 h3;try simp only[h1,h2,h3]
   split at h
   ·rename_i h4 h5;try simp only[h4,h5]
    split at h
    ·rename_i i h6;split at h
     ·rename_i y h7; cases h; exact⟨rfl,rfl,_,rfl,fun K hk=>⟨_,h6,by simp only[h7]; exact hk⟩⟩
     cases h
    rename_i h6;split at h
    ·rename_i y h7; cases h; exact⟨rfl,rfl,_,rfl,fun K hk=>⟨_,h6,by simp only[h7]; exact hk⟩⟩
    cases h
   cases h
  cases h
 cases h
section
variable {c:Cx} {T:Nat->Option TI} {G:Nat->Prop} {O:Nat->Value} {V:St} {a:Act} {w:World}
def Conc.freshO (h:Conc c G O V a w) (o:Obj){ob:Ob}{v:Value} (hb:blk v=some w.heap.size)
  (ho:ObAt c G (w.alloc o) O v ob) (hl:ob.lt V.nx=true):∃ O',(∀ k,k<V.nx->O' k=O k)/\O' V.nx=v/\Conc c G O' (zA6 V ob) a (w.alloc o):=by
 have h1:=h.ext (Ext.own h.lt o);obtain⟨O',b1,b2,b3⟩:=h1.make ho hl (fun k ob' hk b hv e'=>by
  have:=h.blk_lt hk e';rw[hb]at hv; cases hv
  omega)
 exact⟨O',b1,b2,b3⟩
theorem zLb (hT:TOk c.P T){t k e:Nat} (h:tk T t = .mp k e):c.P.underlying t=some (.map k e):=by
 obtain⟨d,hd,e1⟩:=zCN hT h (by simp);cases d <;> simp only[tkOf,reduceCtorEq,TK.mp.injEq]at e1
 obtain⟨rfl,rfl⟩:=e1;exact hd
theorem zIQ (hT:TOk c.P T){t:Nat} (h:tk T t = .str):c.P.underlying t=some .string:=by
 obtain⟨d,hd,e1⟩:=zCN hT h (by simp);cases d <;> simp only[tkOf,reduceCtorEq]at e1
 exact hd
variable {kt:Nat}{P:Program}
def run_findKey  (hk:P.underlying kt=some .string){s:List UInt8}{ks:List (List UInt8)}{vs:List Value} (hl:ks.length=vs.length) (w:World) :
  (Instr.findKey kt (.string ⟨s.toArray⟩) (zCH 0 ks vs)).run P w = .ok (match zFP s ks 0 with | some j=>(vs[j]?).map (fun v=>(j,v)) | none=>none) w:=by
 have h:=zMe (s:=s) ks vs 0 0 hl;simp only[Nat.sub_zero]at h;simp[Instr.findKey,zAi w hk,h]
variable {s:ByteArray}
def zRn  (hk:P.underlying kt=some .string){b:Bool} (n:Nat) (w:World):(Instr.checkKey b (n+1) kt (.string s)).run P w = .ok () w:=by
 simp[Instr.checkKey,zAi w hk]
def run_checkKey  (hk:P.underlying kt=some .string){b:Bool} (w:World):(Instr.checkKey b 10000 kt (.string s)).run P w = .ok () w:=zRn hk 9999 w
variable {b cl:Nat}{es:Array MapEntry}{w:World}
def zLG  (h:w.heap[b]? = some (.map es cl)):(getObj b).run P w = .ok (.map es cl) w:=by
 simp[getObj,Sem.run,h]
def zPx:∀ {ks:List (List UInt8)}{vs:List Value}{n:Nat},((zCH n ks vs).map (·.born)).Nodup
 | [],_,_=>by simp[zCH]
 | k::ks,[],_=>by simp[zCH]
 | k::ks,v::vs,n=>by
  simp only[zCH,ba,nodup_cons];refine⟨fun h=>?_,zPx⟩;obtain⟨e,he,hb⟩:=be.1 h;obtain⟨i,s,u,r1,r2,rfl⟩:=zMR he;simp only at hb;omega
def zZF {z:List S} (h:z.all S.zok=true):AVals G w O (z.map zAV) (z.map S.zval) :=
 AVals.mk (by simp) fun i x v hx hv=>by
  rw[ao]at hx hv;obtain⟨y,hy,rfl⟩:=aH.1 hx;rw[hy]at hv; cases hv;exact zRC (bo.1 h y (av hy))
def yBU (s:S) (n:Nat):(zAV s).lt n=true:=by unfold zAV; split <;> rfl
def zVZ {x:Obj} (h:w.heap[b]? = some x) (o:Obj):(setBlock w b o).heap[b]? = some o:=by
 have:=(aJ.1 h).1;simp[setBlock,this]
def zOs {i:Nat} (o:Obj) (h:i ≠ b):(setBlock w b o).heap[i]? = w.heap[i]?:=by
 simp only[setBlock];rw[Array.getElem?_setIfInBounds_ne (Ne.symm h)]
def zV0  (o:Obj):(setBlock w b o).heap.size=w.heap.size:=by simp[setBlock]
def yA2  (h:w.heap[b]? = some (.map es cl)) (o:Obj):(setObj b o).run P w = .ok () (setBlock w b o):=by
 simp[setObj,Sem.run,h,setBlock]
variable {Q:Exit->Act->World->Prop}{K:Act->World->Prop}{o:Oper}
def wp_skip {a:Act}{w':World}
  (hr:(execOp a.eval o).run P w = .ok .skip w') (h:K (a.put o.dst undef) w'):o.wp P a w K Q:=by
 unfold Oper.wp; rw[hr]; exact h
theorem zPM (hT:TOk c.P T) (hc:Conc c G O V a w){Φ:(AV->St->Prop)->Prop} (h:mapQ T o V=some Φ){K0:AV->St->Prop} (hΦ:Φ K0)
  (hK:∀ x V' G' O' w' v,K0 x V'->Conc c G' O' V' a w'->AVal G' w' O' x v->x.lt V'.nx=true->K (a.put o.dst v) w'):o.wp c.P a w K Q:=by
 have hρ:∀ ty x,AVal G w O (opd T V.env ty x) (a.eval x):=zEO hc T;have hlt:∀ ty x,(opd T V.env ty x).lt V.nx=true:=zMl hc.envlt T;have hmap:∀ {q:Nat} {keys:List (List UInt8)} {xs:List AV},V.hp q=some (.any (.map keys) xs)->∃ b vs,O q = .map (some b)/\w.heap[b]? = some (.map (zCH 0 keys vs).toArray keys.length)/\¬ G b/\c.mine b/\AVals G w O xs vs/\keys.length=vs.length/\∀ u∈vs,u.oneCell'=true:=fun {q keys xs} hh=>by
  obtain⟨b,obj,vs,h1,h2,h3,h4,h5,⟨b',h6⟩,rfl,h8,h9⟩:=hc.hp q _ hh;have h6':=h6;rw[h6]at h1;have hbb:b'=b :=(by simpa [blk] using h1);subst hbb;exact⟨b',vs,h6',h2,h3,h4,h5,h8,h9⟩
 unfold mapQ at h;split at h
 ·rename_i t ho;cases h;obtain⟨O',b1,b2,b3⟩:=hc.freshO (.map #[] 0) (ob:=.any (.map []) []) (v:=.map (some w.heap.size)) rfl ⟨w.heap.size,_,[],rfl,zCm w _,zI0 hc,zIZ hc,by simp only[AVals],⟨_,rfl⟩,rfl,rfl,fun u hu=>by cases hu⟩ rfl;refine zAA (v:=.map (some w.heap.size)) (w':=w.alloc (.map #[] 0)) ?_ (hK _ _ G O' _ _ hΦ b3 ?_ ?_)
  ·simp only[execOp,ho]; rfl
  ·simp only[AVal]; exact⟨b2.symm,rfl⟩
  simp[AV.lt,zA6]
 ·rename_i t m k x ho;split at h
  ·rename_i kt e q s hk hm hs;split at h
   ·rename_i keys xs hkt hh hone;cases h;obtain⟨hnew,hΦ⟩:=hΦ;obtain⟨b,vs,g1,g2,g3,g4,g5,g6,g7⟩:=hmap hh;have hmv:=hρ 0 m;rw[hm]at hmv;simp only[AVal]at hmv;have hkv:=hρ 0 k;rw[hs]at hkv;simp only[AVal,Rep]at hkv;have hxv:=(hρ e x).nrm;have hrun:(execOp a.eval o).run c.P w = .ok .skip (setBlock w b (.map ((zCH 0 keys vs).toArray.push { key:=.string ⟨s.toArray⟩,val:=a.eval x,born:=keys.length }) (keys.length+1))):=by
     have hf:=run_findKey (zIQ hT hkt) (s:=s) g6 w;rw[hnew]at hf;simp[execOp,ho,Instr.mapUpdate,zAi w (zLb hT hk),hmv.1,g1,hkv,zLG g2,run_checkKey (zIQ hT hkt),hf,yA2 g2]
    refine wp_skip hrun (hK .junk _ G O _ _ hΦ (hc.write hh (b:=b) (by rw[g1]; rfl) g3 g4 rfl rfl rfl (zV0 _) (fun i hi=>zOs _ hi) (fun hkp=>?_) ?_) (by simp only[AVal]) rfl)
    ·refine⟨b,_,vs++[a.eval x],by rw[g1]; rfl,zVZ g2 _,g3,g4,?_,⟨b,g1⟩,?_,by simp[g6],fun u hu=>?_⟩
     ·exact AVals.append (g5.keep hkp) (by simp only[AVals]; exact⟨_,[],rfl,hxv.keep hkp,rfl⟩)
     ·rw[zSD keys vs 0 g6];simp
     rcases aN.1 hu with hu | hu
     ·exact g7 u hu
     rw[aD.1 hu]; exact hxv.one hone
    have h1:=(hc.hplt q _ hh).2;simp only[Ob.lt]at h1 ⊢;refine zCB fun i y hi=>?_
    rcases aN.1 (av hi) with hy | hy
    ·obtain⟨j,hj,rfl⟩:=List.mem_iff_getElem.1 hy;exact zA7 h1 (ac hj)
    rw[aD.1 hy]; exact AV.nrm_lt (hlt e x)
   cases h
  cases h
 ·rename_i t m k ok ho;split at h
  ·rename_i kt e q s hk hm hs;split at h
   ·rename_i keys xs hkt hh;cases h;obtain⟨r,hr,hΦ⟩:=hΦ;obtain⟨b,vs,g1,g2,g3,g4,g5,g6,g7⟩:=hmap hh;have hmv:=hρ 0 m;rw[hm]at hmv;simp only[AVal]at hmv;have hkv:=hρ 0 k;rw[hs]at hkv;simp only[AVal,Rep]at hkv;have hf:=run_findKey (zIQ hT hkt) (s:=s) g6 w;rw[hr]at hf;have hpair:∀ {y:AV} {u:Value} {bb:Bool},AVal G w O y u->AVal G w O (zIz ok y bb) (if ok then .tuple #[u,.bool bb] else u):=fun {y u bb} hy=>by
     cases ok with
     | true=>simp only[zIz,AVal,if_true]; exact⟨[u,.bool bb],rfl,u,[.bool bb],rfl,hy,.bool bb,[],rfl,by simp[AVal,Rep],rfl⟩
     | false=>simp only[zIz]; exact hy
    have hplt:∀ {y:AV} {bb:Bool},y.lt V.nx=true->(zIz ok y bb).lt V.nx=true:=fun {y bb} hy=>by
     cases ok with
     | true=>simp only[zIz,AV.lt,AV.ltAll,hy,Bool.and_self]
     | false=>exact hy
    cases r with
    | some i =>
     dsimp only at hΦ hf;cases hx:xs[i]? with
     | none=>rw[hx]at hΦ; exact hΦ.elim
     | some y=>
     rw[hx]at hΦ;obtain⟨u,hu,hyu⟩:=g5.get hx;rw[hu,bu]at hf;refine zAA (v:=if ok then .tuple #[u,.bool true] else u) (w':=w) ?_ (hK _ _ G O w _ hΦ hc (hpair hyu) (hplt (zA7 (hc.hplt q _ hh).2 hx)));simp[execOp,ho,Instr.lookup,zAi w (zLb hT hk),hmv.1,g1,hkv,zLG g2,run_checkKey (zIQ hT hkt),hf]
    | none=>
    dsimp only at hΦ hf;cases hz:zZE T e with
    | none=>rw[hz]at hΦ; exact hΦ.elim
    | some z=>
    rw[hz]at hΦ;unfold zZE at hz;split at hz
    ·rename_i i hi;obtain⟨d,info,zv,q1,q2,q3,q4,q5,q6,q7,q8,q9,q10⟩:=hT e i hi;have hzz:AVal G w O z zv:=by
      split at hz
      ·rename_i hag;cases hz;rw[if_pos hag]at q7;subst q7;simp only[AVal];exact⟨_,rfl,zZF q10⟩
      rename_i hag;rw[if_neg (by rw[hag]; exact fun h=>by cases h)]at q7;split at hz
      ·rename_i z0 hz0;cases hz;subst q7;rw[hz0];rw[hz0]at q10;exact zRC (by simpa using q10)
      cases hz
     have hzl:z.lt V.nx=true:=by
      split at hz
      ·cases hz;simp only[AV.lt];refine zCB fun j y hj=>?_
       rw[ao]at hj;obtain⟨z1,_,rfl⟩:=aH.1 hj;exact yBU z1 _
      split at hz
      ·cases hz; exact yBU _ _
      cases hz
     refine zAA (v:=if ok then .tuple #[zv,.bool false] else zv) (w':=w) ?_ (hK _ _ G O w _ hΦ hc (hpair hzz) (hplt hzl));simp[execOp,ho,Instr.lookup,zAi w (zLb hT hk),hmv.1,g1,hkv,zLG g2,run_checkKey (zIQ hT hkt),hf,zHn w q3 q6]
    cases hz
   cases h
  cases h
 ·rename_i t m ho;split at h
  ·rename_i kt e q hk hm;split at h
   ·rename_i keys xs hh;cases h;obtain⟨b,vs,g1,g2,g3,g4,g5,g6,g7⟩:=hmap hh;have hmv:=hρ 0 m;rw[hm]at hmv;have hmv':=hmv;simp only[AVal]at hmv;have hq:=(hc.hplt q _ hh).1;obtain⟨O',b1,b2,b3⟩:=hc.freshO (.mapIter (some b) keys.length #[] keys.length) (ob:=.any (.iter keys.length [] keys.length) [.mref q]) (v:=.pointer (some ⟨w.heap.size,0,none⟩)) rfl
     ⟨w.heap.size,_,[.map (some b)],rfl,zCm w _,zI0 hc,zIZ hc,by simp only[AVals,AVal]; exact⟨_,[],rfl,⟨g1.symm,rfl⟩,rfl⟩,⟨_,rfl⟩,b,rfl,rfl⟩ (by simp only[Ob.lt,AV.ltAll,AV.lt,Bool.and_true]; exact aP hq)
    refine zAA (v:=.pointer (some ⟨w.heap.size,0,none⟩)) (w':=w.alloc (.mapIter (some b) keys.length #[] keys.length)) ?_ (hK _ _ G O' _ _ hΦ b3 ?_ ?_)
    ·have:=run_range_map (P:=c.P) w t kt e b _ _ (zLb hT hk) g2;simp[execOp,ho,hmv.1,g1,this]
    ·simp only[AVal]; exact⟨_,b2,rfl⟩
    simp[AV.lt,zA6]
   cases h
  cases h
 ·rename_i it ho;split at h
  ·rename_i q hq;split at h
   ·rename_i since seen c0 k hh;split at h
    ·rename_i keys xs hh2;cases h;obtain⟨⟨hks,hsc⟩,hΦ1,hΦ2⟩:=hΦ;obtain⟨bm,vs,g1,g2,g3,g4,g5,g6,g7⟩:=hmap hh2;obtain⟨b,obj,us,h1,h2,h3,h4,h5,⟨b',h6⟩,bm',rfl,rfl⟩:=hc.hp q _ hh;have hb0:b'=b :=(by rw[h6]at h1; simpa [blk] using h1);subst hb0;simp only[AVals,AVal]at h5;obtain⟨v0,_,e0,⟨hv0,e2⟩,rfl⟩:=h5;have e1:Value.map (some bm')=v0 :=(by simpa using e0);rw[hv0,g1]at e1;have hbm:bm'=bm :=(by simpa using e1);subst hbm;have hiv:=hρ 0 it;rw[hq]at hiv;simp only[AVal]at hiv;obtain⟨bb,hb1,hb2⟩:=hiv;rw[h6]at hb1;have hbb:b'=bb :=(by simpa using hb1);subst hbb;have hold:∀ x∈((zCH 0 keys vs).toArray).toList,x.born<since:=fun x hx=>by
      obtain⟨i,s,v,r1,r2,rfl⟩:=zMR (by simpa using hx);have:=(aa.1 r1).1;simp only; omega
     rcases run_next_at (P:=c.P) w o.type b' bm' since c0 seen.toArray _ _ h2 g2 hold hsc with ⟨hs0,hrun⟩ | ⟨e,he,w1,hw1,hrun⟩
     ·refine zAA (v:=.tuple #[.bool false]) (w':=w) ?_ (hK _ _ G O w _ (hΦ2 fun i hi=>?_) hc (by simp only[AVal,AVals]; exact⟨[.bool false],rfl,_,[],rfl,by simp[Rep],rfl⟩) rfl)
      ·simp[execOp,ho,hb2,hrun]
      have hi2:i<vs.length :=(by omega);have hm:=zQH (n:=0) (ac hi) (ac hi2);have hnil:leftOf (zCH 0 keys vs).toArray seen.toArray = #[]:=Array.eq_empty_of_size_eq_zero hs0;unfold leftOf at hnil;rw[Array.filter_eq_empty_iff]at hnil;have:=hnil _ (by simpa using hm);exact qA
     obtain⟨he1,he2⟩:e∈zCH 0 keys vs/\e.born ∉ seen:=by
      unfold leftOf at he;simp at he;exact⟨he.1,by simpa using he.2⟩
     obtain⟨i,s,v,r1,r2,rfl⟩:=zMR he1;simp only[a8]at he2 hrun;obtain⟨x,rx,hx⟩:∃ x,xs[i]? = some x/\AVal G w O x v:=by
      have hi:i<xs.length :=(by rw[← g5.length]; exact(aa.1 r2).1);obtain⟨v',hv',hr⟩:=g5.get (ac hi);rw[r2]at hv'; cases hv';exact⟨_,ac hi,hr⟩
     have hc1:Conc c G O V a w1:=by
      rcases hw1 with rfl | rfl
      ·exact hc
      exact hc.ext (Ext.drew hc.lt)
     have h2':w1.heap[b']? = some (.mapIter (some bm') since seen.toArray c0):=by rcases hw1 with rfl | rfl <;> exact h2
     have hheap:w1.heap=w.heap:=by rcases hw1 with rfl | rfl <;> rfl
     have hkq:AVal G w1 O (.mref k) (.map (some bm')) :=(by simp only[AVal]; exact⟨g1.symm,rfl⟩);refine zAA (v:=.tuple #[.bool true,.string ⟨s.toArray⟩,v]) (w':=setBlock w1 b' (.mapIter (some bm') since (seen.toArray.push i) keys.length)) ?_
      (hK _ _ G O _ _ (hΦ1 i s x r1 rx he2) (hc1.write hh (b:=b') (by rw[h6]; rfl) h3 h4 rfl rfl rfl (zV0 _) (fun i hi=>zOs _ hi) (fun hkp=>?_) ?_) ?_ ?_)
     ·simp[execOp,ho,hb2,hrun]
     ·exact⟨b',_,[.map (some bm')],by rw[h6]; rfl,zVZ h2' _,h3,h4,by simp only[AVals]; exact⟨_,[],rfl,hkq.keep hkp,rfl⟩,⟨b',h6⟩,bm',rfl,by simp⟩
     ·have:=(hc.hplt q _ hh).2;simpa only[Ob.lt] using this
     ·have hkp:Keep G G w (setBlock w1 b' (.mapIter (some bm') since (seen.toArray.push i) keys.length)):=⟨fun _ h=>h,fun j hj=>by rw[zOs _ (show j ≠ b' from fun e=>h3 (by rw[← e]; exact hj)),hheap]⟩;simp only[AVal,AVals];exact⟨[.bool true,.string ⟨s.toArray⟩,v],rfl,_,_,rfl,by simp[Rep],_,_,rfl,by simp[Rep],_,[],rfl,hx.keep hkp,rfl⟩
     simp only[AV.lt,AV.ltAll,Bool.and_true,Bool.true_and];exact AV.lt_mono (ar _) (zA7 (hc.hplt k _ hh2).2 rx)
    cases h
   cases h
  cases h
 ·rename_i it ho;split at h
  ·rename_i q hq;split at h
   ·rename_i since seen c0 k hh;split at h
    ·rename_i keys xs i hh2 hlast;split at h
     ·rename_i s x hcl hks hxs;cases h;obtain⟨bm,vs,g1,g2,g3,g4,g5,g6,g7⟩:=hmap hh2;obtain⟨b,obj,us,h1,h2,h3,h4,h5,⟨b',h6⟩,bm',rfl,rfl⟩:=hc.hp q _ hh;have hb0:b'=b :=(by rw[h6]at h1; simpa [blk] using h1);subst hb0;simp only[AVals,AVal]at h5;obtain⟨v0,_,e0,⟨hv0,e2⟩,rfl⟩:=h5;have e1:Value.map (some bm')=v0 :=(by simpa using e0);rw[hv0,g1]at e1;have hbm:bm'=bm :=(by simpa using e1);subst hbm;have hiv:=hρ 0 it;rw[hq]at hiv;simp only[AVal]at hiv;obtain⟨bb,hb1,hb2⟩:=hiv;rw[h6]at hb1;have hbb:b'=bb :=(by simpa using hb1);subst hbb;obtain⟨v,hv,hxv⟩:=g5.get hxs;have hse:seen.toArray=(seen.dropLast.toArray).push i:=by
       obtain⟨ys,hys⟩:=getLast?_eq_some_iff.1 hlast;subst hys;simp
      rw[hse]at h2;obtain rfl:=ab hcl;have hrun:=run_entry_at (P:=c.P) w b' bm' since seen.dropLast.toArray (zCH 0 keys vs).toArray keys.length { key:=.string ⟨s.toArray⟩,val:=v,born:=i } h2 g2 (by simpa using zQH (n:=0) hks hv) (by simpa using zPx (ks:=keys) (vs:=vs) (n:=0));refine zAA (v:=.tuple #[.string ⟨s.toArray⟩,v]) (w':=w) ?_ (hK _ _ G O w _ hΦ hc (by simp only[AVal,AVals]; exact⟨[.string ⟨s.toArray⟩,v],rfl,_,_,rfl,by simp[Rep],_,_,rfl,hxv,rfl⟩) ?_)
      ·simp[execOp,ho,hb2,hrun]
      simp only[AV.lt,AV.ltAll,Bool.true_and,Bool.and_true];have hl:AV.ltAll V.nx xs=true :=(by simpa [Ob.lt] using (hc.hplt _ _ hh2).2);exact zA7 hl hxs
     cases h
    cases h
   cases h
  cases h
 cases h
end
section
variable {c:Cx} {V:St} {G:Nat->Prop} {O:Nat->Value} {a:Act} {w:World}
def zMX {T:Nat->Option TI}{V:St} (h:∀ t,(V.env t).lt V.nx=true):∀ (xs:List Operand) (ts:List Nat),AV.ltAll V.nx (zLw T V.env xs ts)=true
 | [],_=>rfl
 | x::xs,ts=>by
  simp only[zLw,AV.ltAll,af];exact⟨zMl h T _ x,zMX h xs ts.tail⟩
def zFS (T:Nat->Option TI) (o:Oper) (env:Nat->AV):Option (Nat×List AV) :=
 match o.op with
 | .call { callee:=.value f,args:=args,argTypes:=ts }=>match opd T env 0 f with
  | .s (.fn g)=>some (g,zLw T env args.toList ts.toList)
  | .clo g caps=>match Nat.ble 1048576 g with
   | false=>some (g,zLw T env args.toList ts.toList++caps)
   | true=>some (g - 1048576,caps++zLw T env args.toList ts.toList)
  | _=>none
 | _=>none
def zLk (T:Nat->Option TI) (Γ:Nat->Option zAq) (o:Oper) (V:St):Option ((AV->St->Prop)->Prop) :=
 match zFS T o V.env with
 | none=>none
 | some (g,xs)=>match Γ g with
  | none=>none
  | some s=>match s.nils,s.own with
   | true,some R=>some fun K=>match distinct (zAo V.hp 64 (AV.keysAll xs) []),zLo V.hp (zipI 0 (zAo V.hp 64 (AV.keysAll xs) [])) (zAo V.hp 64 (AV.keysAll xs) []) with
    | true,some os=>∃ x os',R (AV.renAll (zipI 0 (zAo V.hp 64 (AV.keysAll xs) [])) xs) os x os' /\
      K (x.ren (zEc (zAo V.hp 64 (AV.keysAll xs) []) V.nx 0 os')) (handed V (zAo V.hp 64 (AV.keysAll xs) []) os')
    | _,_=>False
   | _,_=>none
def zUf {T:Nat->Option TI}{Γ:Nat->Option zAq} (hΓ:∀ f s,Γ f=some s->PSound c.P f s) (hc:Conc c G O V a w){o:Oper}{Φ:(AV->St->Prop)->Prop} (hΦ:zLk T Γ o V=some Φ){K0:AV->St->Prop} (h:Φ K0){K:Act->World->Prop}{Q:Exit->Act->World->Prop}
  (hK:∀ x V' G' O' w' v,K0 x V'->Conc c G' O' V' a w'->AVal G' w' O' x v->x.lt V'.nx=true->K (a.put o.dst v) w'):o.wp c.P a w K Q:=by
 have hρ:∀ ty x,AVal G w O (opd T V.env ty x) (a.eval x):=zEO hc T;unfold zLk at hΦ;split at hΦ
 ·cases hΦ
 rename_i g xs hraw;split at hΦ
 ·cases hΦ
 rename_i s hs;split at hΦ
 ·rename_i R hnils hR;cases hΦ;unfold zFS at hraw;split at hraw
  ·rename_i f args ts ho;have hpre:∃ vs:List Value,AVals G w O xs vs/\AV.ltAll V.nx xs=true/\∀ (hcall:∀ args w,(callFunc g args).run c.P w = .ok (.enter g args) w),(execOp a.eval o).run c.P w = .ok (.enter g vs.toArray) w:=by
    have hargs:=zOb hρ args.toList ts.toList;split at hraw
    ·rename_i g' e;cases hraw;have hfe:=hρ 0 f;rw[e]at hfe;simp only[AVal,Rep]at hfe;refine⟨_,hargs,zMX hc.envlt _ _,fun hcall=>?_⟩;have e:(args.toList.map a.eval).toArray=args.map a.eval:=bC (by simp);rw[e];exact gG
    ·rename_i g' caps e;have hfe:=hρ 0 f;rw[e]at hfe;simp only[AVal]at hfe;obtain⟨cs,hfe,hcs⟩:=hfe;have hcl:(opd T V.env 0 f).lt V.nx=true:=zMl hc.envlt T 0 f;rw[e]at hcl;simp only[AV.lt]at hcl;split at hraw
     ·rename_i hb;cases hraw;rw[zVl hb]at hfe;refine⟨args.toList.map a.eval++cs,hargs.append hcs,zIs (zMX hc.envlt _ _) hcl,fun hcall=>?_⟩;have e:(args.toList.map a.eval++cs).toArray=args.map a.eval++cs.toArray:=bC (by simp);rw[e];exact gG
     rename_i hb;have hj:=ap (Option.some.inj hraw);have hj1:=hj.1;have hj2:=hj.2;subst hj1;subst hj2;rw[yBu hb]at hfe;refine⟨cs++args.toList.map a.eval,hcs.append hargs,zIs hcl (zMX hc.envlt _ _),fun hcall=>?_⟩;have e:(cs++args.toList.map a.eval).toArray=cs.toArray++args.map a.eval:=bC (by simp);rw[e];exact gG
    cases hraw
   obtain⟨vs,hargs,hxl,hex⟩:=hpre;clear hraw;obtain⟨hcall,zNP,hown,hheap⟩:=hΓ g s hs;have hexec:=hex hcall;unfold Oper.wp;rw[hexec];simp only[Oper.upon_enter];clear hρ hex hexec;generalize zAo V.hp 64 (AV.keysAll xs) []=ks at h;split at h
   ·rename_i os hd hos;obtain⟨x,os',hR',h⟩:=h;obtain⟨l1,l2⟩:=zN0 hos;have hb:∀ k j,look k (zipI 0 ks)=some j->(fun i=>O (ks.getD i 0)) j=O k:=fun k j hkj=>by
     obtain⟨_,h2⟩:=zIq hkj;simp only[Nat.sub_zero]at h2;simp[h2]
    have hlt:∀ k j,look k (zipI 0 ks)=some j->j<os.length:=fun k j hkj=>by
     obtain⟨_,h2⟩:=zIq hkj;rw[l1]; simpa using (aa.1 h2).1
    have hget:∀ (i:Nat) k,ks[i]? = some k->(fun i=>O (ks.getD i 0)) i=O k:=fun i k hk=>by simp[hk]
    have hnod:=zGW hd;have hobs:zV7 (zET c.P w (fun i=>O (ks.getD i 0)) os.length G 0) G w (fun i=>O (ks.getD i 0)) (os.map some):=by
     have hk:∀ (i:Nat) ob,(os.map some)[i]? = some (some ob)->∃ k o,ks[i]? = some k/\V.hp k=some o/\ob=o.ren (zipI 0 ks):=fun i ob hi=>by
      rw[ao]at hi;obtain⟨ob',hi',e⟩:=aH.1 hi;cases e;have hil:i<ks.length :=(by rw[← l1]; exact(aa.1 hi').1);obtain⟨o,q1,q2⟩:=l2 i _ (ac hil);rw[hi']at q2; cases q2;exact⟨_,o,ac hil,q1,rfl⟩
     refine⟨fun i ob hi=>?_,fun i j ob ob' hi hj hne b hb1 hb2=>?_⟩
     ·obtain⟨k,o,q1,q2,rfl⟩:=hk i ob hi;rw[hget i k q1];refine⟨ObAt.ren hb (fun b hb' _=>.inl ⟨i,by rw[l1]; exact(List.getElem?_eq_some_iff.1 q1).1,by have:=hget i k q1; dsimp only at this ⊢; rw[this]; exact hb'⟩) (hc.hp k o q2),?_⟩;rw[az];exact Ob.ren_lt hlt
     exact jZ
    refine(hown R hR G w _ _ _ os x os' hc.lt hc.glob (AVals.ren hb hargs) (AV.renAll_lt hlt) hobs hR').mono fun e w' he=>?_
    obtain⟨v,G',O',rfl,h1,h2,h3,h4,h5,h6,h7,h8,h9⟩:=he;obtain⟨O2,r1,r2,r3⟩:=hc.handed hnod (fun i k hk=>(l2 i k hk).imp fun o h=>h.1) l1 hget h1 h2 h3 h4 h7 h8 h9;exact hK _ _ G' O2 w' v h r3 (AVal.ren r1 h5) (AV.ren_lt fun i k hik=>by
     obtain⟨_,⟨ob,hob⟩,rfl⟩:=zE3 hik;rw[Nat.sub_zero]at hob;have hj:i<os'.length:=(aa.1 hob).1;show zER ks V.nx i<V.nx+(os'.length - ks.length)
     by_cases hi:i<ks.length
     ·have hb':=zED (ks:=ks) (nx:=V.nx) hi;obtain⟨o,q1,_⟩:=l2 i _ hb';have:=(hc.hplt _ o q1).1; omega
     rw[zFe (by omega)]; omega)
   exact h.elim
  cases hraw
 cases hΦ
end
variable {n:Nat}{x:AV}
def zXN  (h:x.lt n=true):AV.ltAll n x.cellsA=true:=by
 cases x <;> simp only[AV.cellsA,AV.nrm,AV.ltAll,Bool.and_true] <;> first | exact h | rfl | simpa only[AV.lt] using h
variable {xs:List AV}
def zMf {ys:List AV} (h1:AV.ltAll n xs=true) (h2:AV.ltAll n ys=true):AV.ltAll n (xs++ys)=true :=
 zCB fun q y hq=>by
  rw[aA]at hq;split at hq
  ·exact zA7 h1 hq
  ·exact zA7 h2 hq
def zPL  (h:AV.ltAll n xs=true) (k:Nat):AV.ltAll n (xs.take k)=true :=
 zCB fun q y hq=>by
  rw[aU]at hq;split at hq
  ·exact zA7 h hq
  ·cases hq
def zPK  (h:AV.ltAll n xs=true) (k:Nat):AV.ltAll n (xs.drop k)=true :=
 zCB fun q y hq=>by
  rw[List.getElem?_drop]at hq;exact zA7 h hq
theorem zVo {T:Nat->Option TI}{env:Nat->AV}{n:Nat} (h:∀ ty x,(opd T env ty x).lt n=true){place:Nat->Option (Nat×Nat)}:∀ {parts:List (Nat×Operand)}{cells xs:List AV},zME T env place cells parts=some xs->AV.ltAll n cells=true->AV.ltAll n xs=true
 | [],cells,xs,hf,hc=>by simp only[zME,aC]at hf; subst hf; exact hc
 | (j,x)::r,cells,xs,hf,hc=>by
  simp only[zME,zCt]at hf;split at hf
  ·cases hf
  ·split at hf
   ·cases hf
   ·split at hf
    ·exact zVo h hf (zMf (zMf (zPL hc _) (zXN (h _ _))) (zPK hc _))
    ·cases hf
variable {y:AV}{off t:Nat}{T:Nat->Option TI}
theorem zVQ  (h:zW5 T t xs off=some y) (hx:AV.ltAll n xs=true):y.lt n=true:=by
 unfold zW5 at h;split at h
 ·cases h
 split at h
 ·split at h
  ·cases h; simp only[AV.lt]; exact zPL (zPK hx _) _
  cases h
 exact zA7 hx h
def zVP  (h:zO3 x off=some y) (hx:x.lt n=true):y.lt n=true:=by
 unfold zO3 at h;split at h <;> cases h <;> first | rfl | (simp only[AV.lt]at hx ⊢; exact hx)
variable {φ:Option Prop}
theorem zYz {f:Nat} (h:zPU T t x f=some (φ,y)) (hx:x.lt n=true):y.lt n=true:=by
 unfold zPU at h;split at h
 ·simp only[AV.lt]at hx;split at h
  ·split at h
   ·split at h
    ·rename_i hp; cases h; exact zVQ hp hx
    cases h
   cases h
  cases h
 cases h
theorem zYA {i:AV} (h:zOc T t x i=some (φ,y)) (hx:x.lt n=true):y.lt n=true:=by
 unfold zOc at h;split at h
 ·split at h <;> cases h; rfl
 ·simp only[AV.lt]at hx;split at h
  ·split at h
   ·split at h
    ·rename_i hp; cases h; exact zVQ hp hx
    cases h
   cases h
  cases h
 cases h
theorem zRg {i:AV} (h:zEx T t x i=some (φ,y)) (hx:x.lt n=true):y.lt n=true:=by
 unfold zEx at h;split at h
 ·split at h
  ·split at h
   ·split at h <;> cases h; rfl
   cases h
  ·split at h
   ·split at h
    ·rename_i hp; cases h; exact zVP hp hx
    cases h
   cases h
  cases h
 cases h
variable {V:St}{o:Oper}{own:Bool}
theorem yAI  (hl:∀ t,(V.env t).lt V.nx=true) (h:zBH T own o V.env=some (φ,x)):x.lt V.nx=true:=by
 have ho:∀ ty x,(opd T V.env ty x).lt V.nx=true:=zMl hl T;unfold zBH at h;split at h;case h_1=>split at h <;> cases h; exact AV.nrm_lt (ho _ _)
 case h_2=>split at h <;> cases h; exact AV.nrm_lt (ho _ _)
 case h_3=>split at h <;> cases h <;> exact AV.nrm_lt (ho _ _)
 case h_4 =>
  split at h
  ·cases h
  split at h <;> cases h; rfl
 case h_5 =>
  repeat' split at h
  all_goals cases h
  rfl
 case h_6 =>
  unfold zTn at h;repeat' split at h
  all_goals cases h
  all_goals (rename_i hf; simp only[AV.lt]; exact zVo ho hf (zOF _))
 case h_7 =>
  repeat' split at h
  all_goals cases h
  rename_i hf; exact zQO hf
 case h_8 y _ =>
  have:=ho 0 y;split at h <;> cases h <;> first | rfl | (rename_i e; rw[e]at this; exact this)
 case h_9 =>
  unfold pBin at h;split at h
  ·rename_i r0 h0;cases h;unfold zYy pInt pStr at h0;repeat' split at h0
   all_goals first | (cases h0; rfl) | cases h0
  unfold pArr at h;repeat' split at h
  all_goals first | (cases h; rfl) | cases h
 case h_10 =>
  unfold pUn at h;split at h <;> cases h <;> rfl
 case h_11 =>
  unfold zW3 at h;repeat' split at h
  all_goals first | (cases h; rfl) | cases h
 case h_12 =>
  have hm:∀ (l:List Operand),AV.ltAll V.nx (l.map (opd T V.env 0))=true:=fun l=>zCB fun q y hq=>by
   rw[ao]at hq;obtain⟨z,_,rfl⟩:=aH.1 hq;exact ho _ _
  split at h
  ·cases h; rfl
  ·split at h
   ·cases h;simp only[AV.lt];exact hm _
   cases h
  ·have hx:=(ap (Option.some.inj h)).2;rw[← hx];simp only[AV.lt];exact hm _
  cases h
 case h_13 =>
  split at h
  ·split at h
   ·unfold zLz at h;repeat' split at h
    all_goals first | (cases h; rfl) | cases h
   unfold zKX at h;repeat' split at h
   all_goals first | (cases h; rfl) | cases h
  unfold zKX at h;repeat' split at h
  all_goals first | (cases h; rfl) | cases h
 case h_14 =>
  unfold zF2 at h;repeat' split at h
  all_goals first | (cases h; rename_i hp; exact zVP hp (ho _ _)) | cases h
 case h_15 t y f _=>exact zYz h (ho t y)
 case h_16=>exact zRg h (AV.nrm_lt (ho _ _))
 case h_17=>exact zYA h (ho _ _)
 case h_18 y i _ =>
  have:=ho 0 y;split at h
  ·rename_i xs e;split at h
   ·rename_i hz;cases h;rw[e]at this;simp only[AV.lt]at this;exact zA7 this hz
   cases h
  cases h
 case h_19 =>
  split at h
  ·unfold pLen at h;split at h <;> first | (cases h; rfl) | cases h
  cases h
 case h_20 =>
  unfold pMin at h;repeat' split at h
  all_goals first | (cases h; rfl) | cases h
 case h_21 =>
  unfold pMin at h;repeat' split at h
  all_goals first | (cases h; rfl) | cases h
 case h_22 =>
  split at h
  ·unfold zW4 at h;repeat' split at h
   all_goals first | (cases h; rfl) | cases h
  cases h
 case h_23 =>
  split at h
  ·unfold pCap at h;repeat' split at h
   all_goals first | (cases h; rfl) | cases h
  cases h
 all_goals cases h
def zBx (T:Nat->Option TI) (own:Bool) (o:Oper) (V:St):Option (Option Prop×AV×St) :=
 match zES T o V with
 | some r=>some r
 | none=>match zCO T own o V with
  | some r=>some r
  | none=>zCA T o V
def step1 (T:Nat->Option TI) (own:Bool) (o:Oper) (V:St):Option (Option Prop×AV×St) :=
 match zBH T own o V.env with
 | some (φ,x)=>some (φ,x,V)
 | none=>zBx T own o V
variable {w:World}{a:Act}{O:Nat->Value}{G:Nat->Prop}{c:Cx}
theorem zLK {V':St} (hT:TOk c.P T)
  (hc:Conc c G O V a w) {own:Bool} {o:Oper} {φ:Option Prop} {x:AV} (h:step1 T own o V=some (φ,x,V')) (hφ:φ.getD True) (hd:∀ t,o.dst=some t->t<c.N) {K:Act->World->Prop} {Q:Exit->Act->World->Prop}
  (hK:∀ G' O' a' w',Conc c G' O' (V'.put o.dst x) a' w'->K a' w'):o.wp c.P a w K Q:=by
 unfold step1 at h;split at h
 ·rename_i φ' x' hp;cases h;exact yDW hT hc hp hφ fun G' w' v he hv=>hK G' O _ w' ((hc.ext he).put hd hv (yAI hc.envlt hp))
 unfold zBx at h;split at h
 ·rename_i hl;cases h;obtain⟨rfl,rfl,Φ,h1,h2⟩:=zNS hl;exact zPM hT hc h1 (h2 (fun y τ=>y=x/\τ=V') ⟨rfl,rfl⟩) fun y τ G' O' w' v hk k1 k2 k3=>by
   obtain⟨rfl,rfl⟩:=hk;exact hK G' O' _ w' (k1.put hd k2 k3)
 split at h
 ·rename_i hl;cases h;exact yDK hT hc hl hφ fun G' O' w' v h1 h2 h3=>hK G' O' _ w' (h1.put hd h2 h3)
 exact yDb hT hc h hφ fun O' w' v h1 h2 h3=>hK G O' _ w' (h1.put hd h2 h3)
mutual
def forced:AV->(AV->Prop)->Prop
 | .s (.int k n),K=>K (.s (.int k n))
 | .s (.bool b),K=>K (.s (.bool b))
 | .s (.str l),K=>K (.s (.str l))
 | .s (.sl sz rows),K=>K (.s (.sl sz rows))
 | .s .np,K=>K (.s .np)
 | .s (.pt row),K=>K (.s (.pt row))
 | .s (.fn f),K=>K (.s (.fn f))
 | .s .nf,K=>K (.s .nf)
 | .s .nm,K=>K (.s .nm)
 | .nl sz,K=>K (.nl sz)
 | .agg xs,K=>zFo xs fun ys=>K (.agg ys)
 | .tup xs,K=>zFo xs fun ys=>K (.tup ys)
 | .op k o,K=>K (.op k o)
 | .orow k,K=>K (.orow k)
 | .rp k sz i o,K=>K (.rp k sz i o)
 | .mref k,K=>K (.mref k)
 | .clo f xs,K=>zFo xs fun ys=>K (.clo f ys)
 | .junk,K=>K .junk
def zFo:List AV->(List AV->Prop)->Prop
 | [],K=>K []
 | x::xs,K=>forced x fun y=>zFo xs fun ys=>K (y::ys)
end
mutual
def zHd:∀ (x:AV) (K:AV->Prop),forced x K=K x
 | .s (.int k n),K=>rfl
 | .s (.bool b),K=>rfl
 | .s (.str l),K=>rfl
 | .s (.sl sz rows),K=>rfl
 | .s .np,K=>rfl
 | .s (.pt row),K=>rfl
 | .s (.fn f),K=>rfl
 | .s .nf,K=>rfl
 | .s .nm,K=>rfl
 | .nl sz,K=>rfl
 | .agg xs,K=>by simp only[forced]; exact zEq xs _
 | .tup xs,K=>by simp only[forced]; exact zEq xs _
 | .op k o,K=>rfl
 | .orow k,K=>rfl
 | .rp k sz i o,K=>rfl
 | .mref k,K=>rfl
 | .clo f xs,K=>by simp only[forced]; exact zEq xs _
 | .junk,K=>rfl
def zEq:∀ (xs:List AV) (K:List AV->Prop),zFo xs K=K xs
 | [],K=>rfl
 | x::xs,K=>by
  simp only[zFo]
  rw[zHd x]
  exact zEq xs _
end
def natF (n:Nat) (K:Nat->Prop):Prop :=
 match n with
 | 0=>K 0
 | m+1=>K (m+1)
def zLn (n:Nat) (K:Nat->Prop):natF n K=K n:=by cases n <;> rfl
def yAq:List Nat->(List Nat->Prop)->Prop
 | [],K=>K []
 | k::ks,K=>natF k fun k'=>yAq ks fun l=>K (k'::l)
def zQQ:∀ (l:List Nat) (K:List Nat->Prop),yAq l K=K l
 | [],K=>rfl
 | k::ks,K=>by
  simp only[yAq];rw[zLn];exact zQQ ks _
def obF (o:Option Ob) (K:Option Ob->Prop):Prop :=
 match o with
 | some (.box t cs)=>zFo cs fun l=>K (some (.box t l))
 | some (.row e sz rows)=>K (some (.row e sz rows))
 | some (.arow e sz rows)=>K (some (.arow e sz rows))
 | some (.any τ xs)=>zFo xs fun l=>K (some (.any τ l))
 | none=>K none
def yBE (o:Option Ob) (K:Option Ob->Prop):obF o K=K o:=by
 unfold obF;split
 ·exact zEq _ _
 ·rfl
 ·rfl
 ·exact zEq _ _
 rfl
def lookO:List (Nat×Option Ob)->(Nat->Option Ob)->Nat->Option Ob
 | [],hp,k=>hp k
 | (j,o)::r,hp,k=>bif Nat.beq k j then o else lookO r hp k
def St.lay (V:St) (l:List (Nat×Option Ob)) (nx:Nat):St:=⟨V.env,lookO l V.hp,nx⟩
def layG (ρ:List (Nat×Nat)) (f:Nat->Nat):Nat->List (Option Ob)->List (Nat×Option Ob)->(List (Nat×Option Ob)->Prop)->Prop
 | _,[],acc,K=>K acc
 | i,o::os,acc,K=>natF (f i) fun j=>obF (o.map (Ob.ren ρ)) fun o'=>layG ρ f (i+1) os ((j,o')::acc) K
def zUn {ρ:List (Nat×Nat)}{f:Nat->Nat}{hp:Nat->Option Ob}:∀ (i:Nat) (os:List (Option Ob)) (acc:List (Nat×Option Ob)) (K:(Nat->Option Ob)->Prop),layG ρ f i os acc (fun l=>K (lookO l hp))=K (zJw ρ f i os (lookO acc hp))
 | _,[],acc,K=>rfl
 | i,o::os,acc,K=>by
  simp only[layG];rw[zLn,yBE];exact zUn (i+1) os _ K
def zMC (T:Nat->Option TI) (Γ:Nat->Option zAq) (own:Bool) (o:Oper) (V:St) (K:AV->St->Prop):Prop :=
 match zA1 T o V.env with
 | none=>zGZ T o V K
 | some (g,xs)=>match Γ g with
  | none=>False
  | some s=>match s.heap with
   | some R=>∃ Φ,R xs V.hp V.nx Φ/\∀ x hp' n',Φ x hp' n'->K x ⟨V.env,hp',n'⟩
   | none=>match s.own with
   | none=>match AV.persAll (AV.lendAll V.hp xs) with
    | false=>False
    | true=>∃ r,s.spec (AV.lendAll V.hp xs) r/\match zBj own (match r.flat with | true=>V | false=>zOk (AV.keysAll xs) V) r with
     | none=>False
     | some (x,V')=>K x V'
   | some R=>match zFB T s.nil o xs V with
    | (xs,V)=>yAq (zAo V.hp 64 (AV.keysAll xs) []) fun ks=>natF V.nx fun nx0=>match distinct ks,zLo V.hp (zipI 0 ks) ks with
     | true,some os=>∃ x os',R (AV.renAll (zipI 0 ks) xs) os x os' /\
       layG (zEc ks nx0 0 os') (zER ks nx0) 0 os' [] fun l=>natF (nx0+(os'.length - ks.length)) fun nx'=>K (x.ren (zEc ks nx0 0 os')) (St.lay V l nx')
     | _,_=>False
theorem zQB {Γ:Nat->Option zAq}{K:AV->St->Prop}:zMC T Γ own o V K=zGf T Γ own o V K:=by
 unfold zMC zGf;cases zA1 T o V.env with
 | none=>rfl
 | some q=>
 obtain⟨g,xs⟩:=q;dsimp only;cases Γ g with
 | none=>rfl
 | some s=>
 dsimp only;cases s.heap with
 | some R=>rfl
 | none=>
 dsimp only;cases s.own with
 | none=>rfl
 | some R=>
 dsimp only;generalize zFB T s.nil o xs V=q;obtain⟨xs',V'⟩:=q;dsimp only;rw[zQQ,zLn];cases distinct (zAo V'.hp 64 (AV.keysAll xs') []) with
 | false=>rfl
 | true=>
 cases zLo V'.hp (zipI 0 (zAo V'.hp 64 (AV.keysAll xs') [])) (zAo V'.hp 64 (AV.keysAll xs') []) with
 | none=>rfl
 | some os=>
 simp only[zLn,handed,St.lay];refine congrArg _ (funext fun x=>congrArg _ (funext fun os'=>congrArg _ ?_));exact zUn (hp:=V'.hp) 0 os' [] fun hp'=>K (x.ren (zEc (zAo V'.hp 64 (AV.keysAll xs') []) V'.nx 0 os')) ⟨V'.env,hp',V'.nx+(os'.length - (zAo V'.hp 64 (AV.keysAll xs') []).length)⟩
def named (x:AV) (K:AV->Prop):Prop :=
 match x with
 | .s (.bool b)=>∀ b',b'=b->K (.s (.bool b'))
 | .s (.int k n)=>∀ n',n'=n->K (.s (.int k n'))
 | .s (.pt r)=>∀ r',r'=r->K (.s (.pt r'))
 | .s (.str l)=>∀ l',l'=l->K (.s (.str l'))
 | .s (.sl sz rows)=>∀ rows',rows'=rows->K (.s (.sl sz rows'))
 | x=>forced x K
def zYp {K:AV->Prop} (h:named x K):K x:=by
 unfold named at h;split at h <;> first | exact h _ rfl | exact(zHd _ K) ▸ h
def St.putN (V:St) (d:Nat) (x:AV):St:={ V with env:=fun t=>bif Nat.beq t d then x else V.env t }
def lay (nm:Bool) (d:Option Nat) (x:AV) (V:St) (K:St->Prop):Prop :=
 match d with
 | none=>K V
 | some d=>match nm with
  | true=>named x fun y=>K (V.putN d y)
  | false=>forced x fun y=>K (V.putN d y)
def zEE {nm:Bool}{d:Option Nat}{K:St->Prop} (h:lay nm d x V K):K (V.put d x):=by
 unfold lay at h;split at h
 ·exact h
 split at h
 ·exact zYp h
 rw[zHd]at h; exact h
def andO (φ:Option Prop) (K:Prop):Prop :=
 match φ with
 | none=>K
 | some p=>p/\K
def zQz {K:Prop} (h:andO φ K):φ.getD True/\K:=by
 cases φ with
 | none=>exact⟨trivial,h⟩
 | some p=>exact h
def inL (t:Nat):List Nat->Bool
 | []=>false
 | x::xs=>Nat.beq t x||inL t xs
def dIn (d:Option Nat) (l:List Nat):Bool:=match d with | some t=>inL t l | none=>false
def zTK:AVal G w O (.tup []) undef:=by
 simp only[AVal];exact⟨[],rfl,by simp only[AVals]⟩
def nilQ (T:Nat->Option TI) (o:Oper) (V:St):Option (List (List S)) :=
 match o.op with
 | .binOp .eql t x y _=>match zAY y with
  | true=>match tk T t,opd T V.env t x with
   | .slice _,.s (.sl _ rows)=>some rows
   | .slice _,.orow k=>match V.hp k with | some (.row _ _ rows)=>some rows | _=>none
   | _,_=>none
  | false=>none
 | _=>none
variable {P:Program}
def zOo  (w:World) (t e:TypeId) (a:Option Addr) (l c:Nat) (h:P.underlying t=some (.slice e)):(binOp .eql t (.slice a l c) (.slice none 0 0)).run P w = .ok (.bool a.isNone) w:=by
 have h1:∀ d,(Op.equalIn (d+1) t (.slice a l c) (.slice none 0 0)).run P w = .ok a.isNone w:=fun d=>by cases a <;> simp[Op.equalIn,zAi w h]
 have h2:(Op.equal t (.slice a l c) (.slice none 0 0)).run P w = .ok a.isNone w:=h1 9999;simp[binOp,h2]
variable {Q:Exit->Act->World->Prop}{K:Act->World->Prop}
theorem zWP  (hT:TOk c.P T) (hc:Conc c G O V a w){rows:List (List S)} (h:nilQ T o V=some rows)
  (hK:∀ b:Bool,(b=true->rows=[])->K (a.put o.dst (.bool b)) w):o.wp c.P a w K Q:=by
 have fin:∀ t x y u e d,o.op = .binOp .eql t x y u->zAY y=true->c.P.underlying t=some d->tkOf d = .slice e->(∃ ob n cp,a.eval x = .slice ob n cp/\(ob.isNone=true->rows=[]))->o.wp c.P a w K Q:=fun t x y u e d ho hn hd e1 key=>by
  cases d <;> simp only[tkOf,reduceCtorEq,TK.slice.injEq]at e1
  have hy:a.eval y = .slice none 0 0:=by
   unfold zAY at hn;split at hn
   ·rfl
   cases hn
  obtain⟨ob,n,cp,h1,h2⟩:=key;refine zAA (v:=.bool ob.isNone) ?_ (hK _ h2);simp only[execOp,ho,h1,hy];simp[eqGuard,zOo w t _ ob n cp hd]
 unfold nilQ at h;split at h
 ·rename_i t x y u ho;split at h
  ·rename_i hn;split at h
   ·rename_i e sz rows' hk hx;cases h;obtain⟨d,hd,e1⟩:=zCN hT hk (by simp);refine fin t x y u e d ho hn hd e1 ?_;have hv:=zEO hc T t x;rw[hx]at hv;simp only[AVal,Rep]at hv;rcases hv with ⟨h1,o,cp,h2⟩ | ⟨b,off,cp,h1,_⟩
    ·exact⟨o,0,cp,h2,fun _=>h1⟩
    exact⟨_,_,cp,h1,fun h=>by cases h⟩
   ·rename_i e k hk hx;split at h
    ·rename_i e' sz rows' hh;cases h;obtain⟨d,hd,e1⟩:=zCN hT hk (by simp);refine fin t x y u e d ho hn hd e1 ?_;have hv:=zEO hc T t x;rw[hx]at hv;simp only[AVal]at hv;obtain⟨_,_,hob⟩:=hc.hp k _ hh;rcases hob with ⟨h1,h2⟩ | ⟨b,cap,cur,h1,_⟩
     ·exact⟨none,0,0,hv.1.trans h1,fun _=>h2⟩
     exact⟨_,_,cap,hv.1.trans h1,fun h=>by cases h⟩
    cases h
   cases h
  cases h
 cases h
def zIm (T:Nat->Option TI) (nmd:Bool) (o:Oper) (V:St):Option AV :=
 match nmd with
 | false=>none
 | true=>match o.op with
  | .move x | .assign x=>match opd T V.env o.type x with
   | .nl sz=>some (.nl sz)
   | _=>none
  | _=>none
theorem zSR:zIm T false o V=none:=rfl
theorem zQM  (hc:Conc c G O V a w){nmd:Bool} (h:zIm T nmd o V=some x)
  (hK:∀ v,AVal G w O x v->x.lt V.nx=true->K (a.put o.dst v) w):o.wp c.P a w K Q:=by
 unfold zIm at h;split at h
 ·cases h
 have go:∀ y,(execOp a.eval o).run c.P w = .ok (.value (a.eval y)) w->(match opd T V.env o.type y with | .nl sz=>some (AV.nl sz) | _=>none)=some x->o.wp c.P a w K Q:=fun y hr h=>by
  split at h
  ·rename_i sz hx;cases h;have:=zEO hc T o.type y;rw[hx]at this;exact zAA hr (hK _ this rfl)
  cases h
 split at h
 ·rename_i y ho;exact go y (by simp[execOp,ho]) h
 ·rename_i y ho;exact go y (by simp[execOp,ho]) h
 cases h
def zL9 (T:Nat->Option TI) (o:Oper) (V:St):Option AV :=
 match o.op with
 | .binOp .eql t x y _=>match zAY y,tk T t,opd T V.env t x with
  | true,.slice _,.nl _=>some (.s (.bool true))
  | _,_,_=>none
 | .binOp .neq t x y _=>match zAY y,tk T t,opd T V.env t x with
  | true,.slice _,.nl _=>some (.s (.bool false))
  | true,.slice _,.s (.sl _ (_::_))=>some (.s (.bool true))
  | true,.slice _,.orow k=>match V.hp k with
   | some (.row _ _ (_::_))=>some (.s (.bool true))
   | some (.arow _ _ (_::_))=>some (.s (.bool true))
   | _=>none
  | _,_,_=>none
 | _=>none
def zUZ  (w:World) (t e:TypeId) (a:Option Addr) (l c:Nat) (h:P.underlying t=some (.slice e)):(binOp .neq t (.slice a l c) (.slice none 0 0)).run P w = .ok (.bool (!a.isNone)) w:=by
 have h1:∀ d,(Op.equalIn (d+1) t (.slice a l c) (.slice none 0 0)).run P w = .ok a.isNone w:=fun d=>by cases a <;> simp[Op.equalIn,zAi w h]
 have h2:(Op.equal t (.slice a l c) (.slice none 0 0)).run P w = .ok a.isNone w:=h1 9999;simp[binOp,h2]
theorem zSu  (hT:TOk c.P T) (hc:Conc c G O V a w) (h:zL9 T o V=some x)
  (hK:∀ v,AVal G w O x v->x.lt V.nx=true->K (a.put o.dst v) w):o.wp c.P a w K Q:=by
 have nil:∀ {y:Operand},zAY y=true->a.eval y = .slice none 0 0:=fun {y} hn=>by
  unfold zAY at hn;split at hn
  ·rfl
  cases hn
 have sld:∀ {t e:Nat},tk T t = .slice e->c.P.underlying t=some (.slice e):=fun {t e} hk=>by
  obtain⟨d,hd,e1⟩:=zCN hT hk (by simp);cases d <;> simp only[tkOf,reduceCtorEq,TK.slice.injEq]at e1
  subst e1; exact hd
 have eqf:∀ {t y u e:_} {x:Operand} {ob:Option Addr} {n cp:Nat},o.op = .binOp .eql t x y u->zAY y=true->tk T t = .slice e->a.eval x = .slice ob n cp->(execOp a.eval o).run c.P w = .ok (.value (.bool ob.isNone)) w:=fun {t y u e x ob n cp} ho hn hk h1=>by
  simp only[execOp,ho,h1,nil hn];simp[eqGuard,zOo w t _ ob n cp (sld hk)]
 have nef:∀ {t y u e:_} {x:Operand} {ob:Option Addr} {n cp:Nat},o.op = .binOp .neq t x y u->zAY y=true->tk T t = .slice e->a.eval x = .slice ob n cp->(execOp a.eval o).run c.P w = .ok (.value (.bool (!ob.isNone))) w:=fun {t y u e x ob n cp} ho hn hk h1=>by
  simp only[execOp,ho,h1,nil hn];simp[eqGuard,zUZ w t _ ob n cp (sld hk)]
 have hbool:∀ {b:Bool},AVal G w O (.s (.bool b)) (.bool b):=fun {b}=>by simp only[AVal,Rep]
 unfold zL9 at h;split at h
 ·rename_i t x' y u ho;split at h
  ·rename_i e sz hn hk hx;cases h;have hv:=zEO hc T t x';rw[hx]at hv;simp only[AVal]at hv;exact zAA (eqf ho hn hk hv) (hK _ hbool rfl)
  cases h
 ·rename_i t x' y u ho;have hv:=zEO hc T t x';split at h
  ·rename_i e sz hn hk hx;cases h;rw[hx]at hv;simp only[AVal]at hv;exact zAA (nef ho hn hk hv) (hK _ hbool rfl)
  ·rename_i e sz r rs hn hk hx;cases h;rw[hx]at hv;simp only[AVal,Rep,cons_ne_nil,false_and,false_or]at hv;obtain⟨b,off,cap,h1,_⟩:=hv;exact zAA (nef ho hn hk h1) (hK _ hbool rfl)
  ·rename_i e k hn hk hx;rw[hx]at hv;simp only[AVal]at hv;split at h
   ·rename_i e' sz r rs hh;cases h;obtain⟨_,_,hob⟩:=hc.hp k _ hh;rcases hob with ⟨_,h2⟩ | ⟨b,cap,cur,h1,_⟩
    ·cases h2
    exact zAA (nef ho hn hk (hv.1.trans h1)) (hK _ hbool rfl)
   ·rename_i e' sz r rs hh;cases h;obtain⟨_,_,hob⟩:=hc.hp k _ hh;rcases hob with ⟨_,h2⟩ | ⟨b,cap,cur,h1,_⟩
    ·cases h2
    exact zAA (nef ho hn hk (hv.1.trans h1)) (hK _ hbool rfl)
   cases h
  cases h
 cases h
def zBo (T:Nat->Option TI) (Γ:Nat->Option zAq) (M nm:List Nat) (N:Nat) (all:List Oper):List Oper->St->(St->Prop)->Prop
 | [],V,K=>K V
 | o::os,V,K =>
  match (match o.dst with | some t=>Nat.blt t N | none=>true) with
  | false=>False
  | true =>
   let run:Prop:=match zIm T (dIn o.dst nm) o V with
    | some x=>lay false o.dst x V fun V''=>zBo T Γ M nm N all os V'' K
    | none=>match zLk T Γ o V with
    | some Φ=>Φ fun x V'=>lay (dIn o.dst nm) o.dst x V' fun V''=>zBo T Γ M nm N all os V'' K
    | none=>match callOf T Γ o V.env with
    | some (_,s,xs)=>∃ r,s.spec xs r/\match zBj (dIn o.dst M) V r with
     | none=>False
     | some (x,V')=>lay (dIn o.dst nm) o.dst x V' fun V''=>zBo T Γ M nm N all os V'' K
    | none=>match step1 T (dIn o.dst M) o V with
     | none=>match zL9 T o V with
      | some x=>lay (dIn o.dst nm) o.dst x V fun V''=>zBo T Γ M nm N all os V'' K
      | none=>match nilQ T o V with
      | some rows=>∀ b:Bool,(b=true->rows=[])->lay (dIn o.dst nm) o.dst (.s (.bool b)) V fun V''=>zBo T Γ M nm N all os V'' K
      | none=>match mapQ T o V with
       | some Φ=>Φ fun x V'=>lay (dIn o.dst nm) o.dst x V' fun V''=>zBo T Γ M nm N all os V'' K
       | none=>zMC T Γ (dIn o.dst M) o V fun x V'=>lay (dIn o.dst nm) o.dst x V' fun V''=>zBo T Γ M nm N all os V'' K
     | some (φ,x,V')=>andO φ (lay (dIn o.dst nm) o.dst x V' fun V''=>zBo T Γ M nm N all os V'' K)
   match o.guard with
   | none=>run
   | some (j,want)=>match (all[j]?).bind (·.dst) with
    | some g=>match V.env g with
     | .s (.bool true)=>match want with | true=>run | false=>lay false o.dst (.tup []) V fun V''=>zBo T Γ M nm N all os V'' K
     | .s (.bool false)=>match want with | false=>run | true=>lay false o.dst (.tup []) V fun V''=>zBo T Γ M nm N all os V'' K
     | .tup []=>lay false o.dst (.tup []) V fun V''=>zBo T Γ M nm N all os V'' K
     | _=>False
    | none=>False
variable {ops:Array Oper}
def zLO  (hc:Conc c G O V a w){j g:Nat}{b:Bool} (hj:(ops[j]?).bind (·.dst)=some g) (hg:g<c.N)
  (hb:V.env g = .s (.bool b)):yielded ops a.tmps j=some b:=by
 have h1:=hc.env g;rw[hb]at h1;simp only[AVal,Rep]at h1;have h2:a.tmps[g]? = some (.bool b):=by
  have hlt:g<a.tmps.size :=(by rw[hc.size]; exact hg);rw[Array.getElem?_eq_getElem hlt];rw[Array.getD_eq_getD_getElem?,Array.getElem?_eq_getElem hlt]at h1
  simpa using h1
 simp[yielded,hj,h2]
def zMu  (hc:Conc c G O V a w){j g:Nat} (hj:(ops[j]?).bind (·.dst)=some g) (hg:g<c.N)
  (hb:V.env g = .tup []):yielded ops a.tmps j=none:=by
 have h1:=hc.env g;rw[hb]at h1;simp only[AVal]at h1;obtain⟨vs,h1,h2⟩:=h1;simp only[AVals]at h2;subst h2;have h3:a.tmps[g]? = some (.tuple #[]):=by
  have hlt:g<a.tmps.size :=(by rw[hc.size]; exact hg);rw[Array.getElem?_eq_getElem hlt];rw[Array.getD_eq_getD_getElem?,Array.getElem?_eq_getElem hlt]at h1
  simpa using h1
 simp[yielded,hj,h3]
theorem zBO {c:Cx}{T:Nat->Option TI}{Γ:Nat->Option zAq}{M nm:List Nat} (hT:TOk c.P T) (hΓ:∀ f s,Γ f=some s->PSound c.P f s){all:List Oper}{Q:Exit->Act->World->Prop}{K:St->Prop}
  (hK:∀ V G O a w,K V->Conc c G O V a w->Q .normal a w) (hN:∀ (j g:Nat),(all[j]?).bind (fun o=>o.dst)=some g->g<c.N) :
  ∀ (os:List Oper) (V:St) (G:Nat->Prop) (O:Nat->Value) (a:Act) (w:World),zBo T Γ M nm c.N all os V K->Conc c G O V a w->wpList c.P all.toArray Q os a w
 | [],V,G,O,a,w,h,hc=>hK V G O a w h hc
 | o::os,V,G,O,a,w,h,hc=>by
  unfold zBo at h;split at h
  ·exact h.elim
  rename_i hdst;have hd:∀ t,o.dst=some t->t<c.N:=fun t ht=>by
   rw[ht]at hdst;exact aj hdst
  have hrun:(match zIm T (dIn o.dst nm) o V with
   | some x=>lay false o.dst x V fun V''=>zBo T Γ M nm c.N all os V'' K
   | none=>match zLk T Γ o V with
   | some Φ=>Φ fun x V'=>lay (dIn o.dst nm) o.dst x V' fun V''=>zBo T Γ M nm c.N all os V'' K
   | none=>match callOf T Γ o V.env with
   | some (_,s,xs)=>∃ r,s.spec xs r/\match zBj (dIn o.dst M) V r with
    | none=>False
    | some (x,V')=>lay (dIn o.dst nm) o.dst x V' fun V''=>zBo T Γ M nm c.N all os V'' K
   | none=>match step1 T (dIn o.dst M) o V with
    | none=>match zL9 T o V with
     | some x=>lay (dIn o.dst nm) o.dst x V fun V''=>zBo T Γ M nm c.N all os V'' K
     | none=>match nilQ T o V with
     | some rows=>∀ b:Bool,(b=true->rows=[])->lay (dIn o.dst nm) o.dst (.s (.bool b)) V fun V''=>zBo T Γ M nm c.N all os V'' K
     | none=>match mapQ T o V with
      | some Φ=>Φ fun x V'=>lay (dIn o.dst nm) o.dst x V' fun V''=>zBo T Γ M nm c.N all os V'' K
      | none=>zMC T Γ (dIn o.dst M) o V fun x V'=>lay (dIn o.dst nm) o.dst x V' fun V''=>zBo T Γ M nm c.N all os V'' K
    | some (φ,x,V')=>andO φ (lay (dIn o.dst nm) o.dst x V' fun V''=>zBo T Γ M nm c.N all os V'' K))->o.wp c.P a w (wpList c.P all.toArray Q os) Q:=fun h=>by
   split at h
   ·rename_i x hx;exact zQM hc hx fun v h1 h2=>zBO (M:=M) (nm:=nm) hT hΓ hK hN os _ G O _ w (zEE h) (hc.put hd h1 h2)
   split at h
   ·rename_i Φ hm;exact zUf hΓ hc hm h fun x V' G' O' w' v hk h1 h2 h3=>zBO (M:=M) (nm:=nm) hT hΓ hK hN os _ G' O' _ w' (zEE hk) (h1.put hd h2 h3)
   split at h
   ·rename_i g s xs hco;obtain⟨r,hr,h⟩:=h;split at h
    ·exact h.elim
    rename_i x V' hx;refine zPt hΓ hc hco hr hx fun G' O' w' v h1 h2 h3=>zBO (M:=M) (nm:=nm) hT hΓ hK hN os _ G' O' _ w' (zEE h) (h1.put hd h2 h3)
   split at h
   ·split at h
    ·rename_i x hx;exact zSu hT hc hx fun v h1 h2=>zBO (M:=M) (nm:=nm) hT hΓ hK hN os _ G O _ w (zEE h) (hc.put hd h1 h2)
    split at h
    ·rename_i rows hq;exact zWP hT hc hq fun b hb=>zBO (M:=M) (nm:=nm) hT hΓ hK hN os _ G O _ w (zEE (h b hb)) (hc.put hd (by simp only[AVal,Rep]) rfl)
    split at h
    ·rename_i Φ hm;exact zPM hT hc hm h fun x V' G' O' w' v hk h1 h2 h3=>zBO (M:=M) (nm:=nm) hT hΓ hK hN os _ G' O' _ w' (zEE hk) (h1.put hd h2 h3)
    rw[zQB]at h;exact zND hT hΓ hc h fun x V' G' O' w' v hk h1 h2 h3=>zBO (M:=M) (nm:=nm) hT hΓ hK hN os _ G' O' _ w' (zEE hk) (h1.put hd h2 h3)
   rename_i φ x V' hs;obtain⟨h1,h2⟩:=zQz h;refine zLK hT hc hs h1 hd fun G' O' a' w' hc'=>zBO (M:=M) (nm:=nm) hT hΓ hK hN os _ G' O' a' w' (zEE h2) hc'
  have hskip:(lay false o.dst (.tup []) V fun V''=>zBo T Γ M nm c.N all os V'' K)->wpList c.P all.toArray Q os (a.put o.dst undef) w:=fun h =>
   zBO (M:=M) (nm:=nm) hT hΓ hK hN os _ G O _ w (zEE h) (hc.put hd zTK rfl)
  dsimp only at h;unfold wpList;split at h
  ·rename_i hg;rw[if_pos (by simp[Region.wanted,hg])];exact .inl (hrun h)
  rename_i j want hg;split at h
  ·rename_i g hj;have hj':(all.toArray[j]?).bind (·.dst)=some g :=(by simpa using hj);split at h
   ·rename_i hb;have hy:=zLO hc hj' (hN j g hj) hb;split at h
    ·rw[if_pos (by simp[Region.wanted,hg,hy])];exact .inl (hrun h)
    rw[if_neg (by simp[Region.wanted,hg,hy])];exact hskip h
   ·rename_i hb;have hy:=zLO hc hj' (hN j g hj) hb;split at h
    ·rw[if_pos (by simp[Region.wanted,hg,hy])];exact .inl (hrun h)
    rw[if_neg (by simp[Region.wanted,hg,hy])];exact hskip h
   ·rename_i hb;have hy:=zMu hc hj' (hN j g hj) hb;rw[if_neg (by simp[Region.wanted,hg,hy])];exact hskip h
   exact h.elim
  exact h.elim
def zYs (o:Oper):Bool:=match o.op with | .defer _=>false | _=>true
def zD4 (N:Nat):List Oper->Bool
 | []=>true
 | o::os=>((match o.dst with | some t=>Nat.blt t N | none=>true)&&zYs o)&&zD4 N os
def zIg {N:Nat}:∀ {os:List Oper},zD4 N os=true->∀ o∈os,∀ c,o.op ≠ .defer c
 | [],_,o,h=>by cases h
 | o::os,ho,o',h=>by
  simp only[zD4,af]at ho;rcases aR.1 h with rfl | h
  ·intro c e;have:=ho.1.2;unfold zYs at this;rw[e]at this;cases this
  ·exact zIg ho.2 o' h
def zDs {N:Nat}:∀ {os:List Oper},zD4 N os=true->∀ (j g:Nat),(os[j]?).bind (fun o=>o.dst)=some g->g<N
 | [],_,j,g,h=>by simp at h
 | o::os,ho,0,g,h=>by
  simp only[zD4,af]at ho;simp at h;rw[h]at ho;exact aj ho.1.1
 | o::os,ho,j+1,g,h=>by
  simp only[zD4,af]at ho;exact zDs ho.2 j g (by simpa using h)
inductive End where
 | normal
 | exit (id:Nat)
 | ret
def zEX:End->Exit
 | .normal=>.normal
 | .exit id=>.exit id
 | .ret=>.ret
def rF (ro:Option Nat):Fence:={ Fence.wide with round:=ro }
def yCG (ro:Option Nat) (n:Nat):(rF ro).room n:=room_wide n
variable {w:World}{P:Program}{ro:Option Nat}
def zZC {n m:Nat}{x:Code}{Q:Exit->Act->World->Prop}{a:Act} (h:x.wpIn (rF ro) n P Q a w):x.wpIn (rF ro) m P Q a w :=
 fun b k cs hro hb _=>h b k cs hro hb (yCG ro _)
def yCy {n:Nat}{o:Oper}{a:Act}{K K':Act->World->Prop}{Q:Exit->Act->World->Prop} (hd:∀ c,o.op ≠ .defer c) (hK:∀ a w,K a w->K' a w) (h:o.wp P a w K Q):o.wpIn (rF ro) n P a w K' Q:=by
 refine⟨fun _ _=>trivial,?_⟩;rw[Oper.semAt_eq _ _ _ hd];unfold Oper.wp at h;unfold Oper.upon at h;unfold Oper.uponIn;generalize Sem.run P (execOp a.eval o) w=r at h ⊢;split at h
 ·exact hK _ _ h
 ·exact hK _ _ h
 ·exact hK _ _ h
 ·refine⟨fun h=>(by cases h),callsIn_wide.2 (h.mono fun e w' he=>?_)⟩;cases e with
  | returned v=>exact hK _ _ he
  | panicked c=>exact he
  | outgrown=>exact he
 ·exact⟨fun h=>(by cases h),fun c cs _=>let ⟨v,w',r,s⟩:=h c cs; ⟨v,w',hK _ _ r,stepsIn_wide.2 s⟩⟩
 ·exact h
 exact h.elim
def zOD {ro:Option Nat}{n:Nat}{P:Program}{ops:Array Oper}{Q:Exit->Act->World->Prop} (hQ:¬ LetsOut Q):∀ (l:List Oper),(∀ o∈l,∀ c,o.op ≠ .defer c)->∀ a w,wpList P ops Q l a w->wpListIn (rF ro) n P ops Q l a w
 | [],_,a,w,h=>h
 | o::l,hd,a,w,h=>by
  have ih:=fun a w=>zOD (P:=P) (ops:=ops) (ro:=ro) (n:=n) hQ l (fun o ho=>hd o (aG _ ho)) a w
  unfold wpList at h;unfold wpListIn;split
  ·rename_i hw;rw[if_pos hw]at h;rcases h with h | ⟨_,h⟩
   ·exact yCy (hd o ak) ih h
   exact absurd h hQ
  rename_i hw;rw[if_neg hw]at h;exact⟨fun _ _=>trivial,ih _ _ h⟩
variable {Q:End->St->Prop}{c:Cx}
def zJU:¬ LetsOut (fun e a' w'=>∃ e' G' O' V',e=zEX e'/\Q e' V'/\Conc c G' O' V' a' w'):=by
 rintro⟨a,w,e',_,_,_,h,_⟩;cases e' <;> cases h
def Tri (c:Cx) (code:Code) (V:St) (Q:End->St->Prop):Prop :=
 ∀ G O a w,Conc c G O V a w->code.wpIn (rF c.ro) 2 c.P (fun e a' w'=>∃ e' G' O' V',e=zEX e'/\Q e' V'/\Conc c G' O' V' a' w') a w
variable {V:St}{ops:List Oper}{id:Nat}{T:Nat->Option TI}
theorem zLL {Γ:Nat->Option zAq} (hT:TOk c.P T) (hΓ:∀ f s,Γ f=some s->PSound c.P f s) (M nm:List Nat)
  (hN:zD4 c.N ops=true) (h:zBo T Γ M nm c.N ops ops V (Q .normal)):Tri c (.region id ops.toArray false) V Q:=fun G O a w hc =>
 wpIn_region_lit (zOD zJU ops (zIg hN) a w <| zBO hT hΓ (Q:=fun e a' w'=>∃ e' G' O' V',e=zEX e'/\Q e' V'/\Conc c G' O' V' a' w') (fun V' G' O' a' w' hk hc'=>⟨.normal,G',O',V',rfl,hk,hc'⟩) (zDs hN) ops V G O a w h hc)
theorem zAb {Γ:Nat->Option zAq} (M nm:List Nat) (hN:zD4 c.N ops=true) (h:zBo T Γ M nm c.N ops ops V (Q .normal)) (hT:TOk c.P T:=by exact tokW) (hΓ:∀ f s,Γ f=some s->PSound c.P f s:=by exact gok):Tri c (.region id ops.toArray false) V Q :=
 zLL hT hΓ M nm hN h
theorem yEV {Γ:Nat->Option zAq} (h:zBo T Γ [] [] c.N ops ops V (Q .normal)) (hN:zD4 c.N ops=true:=by rfl) (hT:TOk c.P T:=by exact tokW) (hΓ:∀ f s,Γ f=some s->PSound c.P f s:=by exact gok):Tri c (.region id ops.toArray false) V Q :=
 zAb [] [] hN h hT hΓ
def yBh (c:Cx) (y:Code) (Q:End->St->Prop):End->St->Prop
 | .normal,V=>Tri c y V Q
 | e,V=>Q e V
def zPr (id:Nat) (Q:End->St->Prop):End->St->Prop
 | .exit j,V=>match Nat.beq j id with | true=>Q .normal V | false=>Q (.exit j) V
 | e,V=>Q e V
section
variable {c:Cx} {V:St} {Q:End->St->Prop}
variable {x y:Code}
theorem zAa  (h:Tri c x V (yBh c y Q)):Tri c (.seq x y) V Q:=fun G O a w hc=>by
 refine wpIn_seq (wpIn_mono (h G O a w hc) ?_);rintro e a' w' ⟨e',G',O',V',rfl,hq,hc'⟩;cases e' with
 | normal=>exact hq G' O' a' w' hc'
 | exit id=>exact⟨.exit id,G',O',V',rfl,hq,hc'⟩
 | ret=>exact⟨.ret,G',O',V',rfl,hq,hc'⟩
variable {Q:End->St->Prop}{V:St}{ops:List Oper}{id:Nat}{T:Nat->Option TI}{c:Cx}
theorem yCZ {Γ:Nat->Option zAq} (M nm:List Nat) (hN:zD4 c.N ops=true) (h:zBo T Γ M nm c.N ops ops V (yBh c y Q .normal)) (hT:TOk c.P T:=by exact tokW) (hΓ:∀ f s,Γ f=some s->PSound c.P f s:=by exact gok):Tri c (.seq (.region id ops.toArray false) y) V Q :=
 zAa (zLL hT hΓ M nm hN h)
theorem yEW {Γ:Nat->Option zAq} (h:zBo T Γ [] [] c.N ops ops V (yBh c y Q .normal)) (hN:zD4 c.N ops=true:=by rfl) (hT:TOk c.P T:=by exact tokW) (hΓ:∀ f s,Γ f=some s->PSound c.P f s:=by exact gok):Tri c (.seq (.region id ops.toArray false) y) V Q :=
 yCZ [] [] hN h hT hΓ
def zAe (h:Q .normal V):Tri c .skip V Q:=fun G O a w hc=>wpIn_skip ⟨.normal,G,O,V,rfl,h,hc⟩
theorem zAy  (h:Q (.exit id) V):Tri c (.exit id) V Q:=fun G O a w hc=>wpIn_exit ⟨.exit id,G,O,V,rfl,h,hc⟩
def zAd (h:Q .ret V):Tri c .ret V Q:=fun G O a w hc=>wpIn_ret ⟨.ret,G,O,V,rfl,h,hc⟩
theorem zAk  (h:Tri c x V (zPr id Q)):Tri c (.block id x) V Q:=fun G O a w hc=>by
 refine wpIn_block (wpIn_mono (h G O a w hc) ?_);rintro e a' w' ⟨e',G',O',V',rfl,hq,hc'⟩;cases e' with
 | normal=>exact⟨.normal,G',O',V',rfl,hq,hc'⟩
 | ret=>exact⟨.ret,G',O',V',rfl,hq,hc'⟩
 | exit j=>
 simp only[zPr]at hq;show Exit.inBlock id _ (.exit j) a' w';unfold Exit.inBlock;dsimp only;split at hq
 ·rename_i e;rw[if_pos (ab e)];exact⟨.normal,G',O',V',rfl,hq,hc'⟩
 rename_i e;rw[if_neg (Nat.ne_of_beq_eq_false e)];exact⟨.exit j,G',O',V',rfl,hq,hc'⟩
def zAx {t:Nat}{b:Bool} (hb:V.env t = .s (.bool b)) (h1:b=true->Tri c x V Q) (h2:b=false->Tri c y V Q):Tri c (.cond (.tmp t) x y) V Q:=fun G O a w hc=>by
 have h:=hc.env t;rw[hb]at h;simp only[AVal,Rep]at h;exact wpIn_cond_split (t:=b) h (fun e=>h1 e G O a w hc) (fun e=>h2 e G O a w hc)
def Le (c:Cx) (V V':St):Prop:=∀ G O a w,Conc c G O V a w->∃ G' O',Conc c G' O' V' a w
def Le.refl (c:Cx) (V:St):Le c V V:=fun G O _ _ h=>⟨G,O,h⟩
variable {V':St}
def Le.trans {V'':St} (h:Le c V V') (k:Le c V' V''):Le c V V'':=fun G O a w hc =>
 let ⟨G',O',h'⟩:=h G O a w hc
 k G' O' a w h'
def zAj  (hl:Le c V V') (h:Tri c x V' Q):Tri c x V Q:=fun G O a w hc =>
 let ⟨G',O',h'⟩:=hl G O a w hc
 h G' O' a w h'
def zRv {Q':End->St->Prop} (h:Tri c x V Q) (hq:∀ e V',Q e V'->Q' e V'):Tri c x V Q':=fun G O a w hc =>
 wpIn_mono (h G O a w hc) fun e a' w' ⟨e',G',O',V',h1,h2,h3⟩=>⟨e',G',O',V',h1,hq _ _ h2,h3⟩
variable {X:Type}
def gW {P:Prop} (h:P:=by exact⟨e2,a2,w2,hq2,.of_steps (StepsIn.trans harr (.one (fenced_calm hb hr rfl) stepR_inLoop)) harr2⟩):P:=h
theorem yBk  (E:X->St) (m:X->Nat) (x0:X) (h0:Le c V (E x0))
  (h:∀ y,Tri c x (E y) (fun e V'=>match e with | .normal=>∃ z,Le c V' (E z)/\m z<m y | e=>Q e V')):Tri c (.loop x) V Q:=fun G O a w hc=>by
 obtain⟨G1,O1,hc1⟩:=h0 G O a w hc;intro b k cs hro hb hr;have key:∀ n y G O a w,m y=n->Conc c G O (E y) a w ->
   ∃ e a' w',(∃ e' G' O' V',e=zEX e'/\Q e' V'/\Conc c G' O' V' a' w')/\ArrivesIn (Machine.fenced c.P (rF c.ro)) c.P (lone (b.atR a (.code x::.inLoop x::k)) cs w) b k cs e a' w':=by
  intro n;induction n using Nat.strongRecOn with
  | _ n ih=>
  intro y G O a w hn hc;obtain⟨e,a',w',⟨e',G',O',V',rfl,hq,hc'⟩,harr⟩:=h y G O a w hc b (.inLoop x::k) cs hro hb hr;cases e' with
  | normal=>obtain⟨z,hle,hlt⟩:=hq;obtain⟨G2,O2,hc2⟩:=hle G' O' a' w' hc';obtain⟨e2,a2,w2,hq2,harr2⟩:=ih (m z) (by omega) z G2 O2 a' w' rfl hc2;exact gW
  | exit id=>exact⟨.exit id,a',w',⟨.exit id,G',O',V',rfl,hq,hc'⟩,.pass (x:=.inLoop x) rfl (fun _ _=>.inl (by simp[zEX])) harr⟩
  | ret=>exact⟨.ret,a',w',⟨.ret,G',O',V',rfl,hq,hc'⟩,.pass (x:=.inLoop x) rfl (fun _ _=>.inl (by simp[zEX])) harr⟩
 obtain⟨e,a',w',hq,harr⟩:=key _ x0 G1 O1 a w rfl hc1;exact⟨e,a',w',hq,.of_steps (.one (fenced_calm hb hr rfl) stepR_loop) harr⟩
theorem zAv  (E:X->St) (I:X->Prop) (m:X->Nat) (x0:X) (i0:I x0) (h0:Le c V (E x0))
  (h:∀ y,I y->Tri c x (E y) (fun e V'=>match e with | .normal=>∃ z,I z/\Le c V' (E z)/\m z<m y | e=>Q e V')):Tri c (.loop x) V Q :=
 yBk (X:={ y:X // I y }) (fun y=>E y.1) (fun y=>m y.1) ⟨x0,i0⟩ h0 fun y=>zRv (h y.1 y.2) fun e V' hq=>by
  cases e with
  | normal=>obtain⟨z,h1,h2,h3⟩:=hq; exact⟨⟨z,h1⟩,h2,h3⟩
  | exit id=>exact hq
  | ret=>exact hq
def ofL (l:List (Nat×AV)):Nat->AV :=
 match l with
 | []=>fun _=>.junk
 | (t,x)::r=>fun s=>bif Nat.beq s t then x else ofL r s
def ofH (l:List (Nat×Ob)):Nat->Option Ob :=
 match l with
 | []=>fun _=>none
 | (t,x)::r=>fun s=>bif Nat.beq s t then some x else ofH r s
def holds (env:Nat->AV):List (Nat×AV)->Prop
 | []=>True
 | (t,x)::r=>env t=x/\holds env r
def zSN {P:AV->Prop} (hj:P .junk):∀ {l:List (Nat×AV)}{env:Nat->AV},holds env l->(∀ t,P (env t))->∀ t,ofL l t = .junk∨ofL l t=env t
 | [],env,_,_,t=>.inl rfl
 | (s,x)::r,env,h,hp,t=>by
  simp only[ofL];cases e:Nat.beq t s with
  | true=>obtain rfl:=ab e; exact .inr h.1.symm
  | false=>exact zSN hj h.2 hp t
def Le.forget (l:List (Nat×AV)) (h:holds V.env l):Le c V { V with env:=ofL l }:=fun G O a w hc=>by
 have he:=zSN (P:=fun _=>True) trivial h (fun _=>trivial);refine⟨G,O,{ hc with env:=fun t=>?_,envlt:=fun t=>?_ }⟩
 ·rcases he t with e | e <;> (dsimp only; rw[e])
  ·simp only[AVal]
  exact hc.env t
 rcases he t with e | e <;> (dsimp only; rw[e])
 ·rfl
 exact hc.envlt t
def Le.fgt {l:List (Nat×AV)} (h:holds V.env l:=by repeat (first | exact trivial | refine⟨rfl,?_⟩)):Le c V { V with env:=ofL l } :=
 Le.forget l h
def kept (hp:Nat->Option Ob) (ρ:List (Nat×Nat)):List (Nat×Nat)->List (Nat×Ob)->Prop
 | [],[]=>True
 | (k,j)::r,(j',o)::l=>j=j'/\(∃ o0,hp k=some o0/\o0.ren ρ=o)/\kept hp ρ r l
 | _,_=>False
variable {l:List (Nat×Nat)}
def zSz:distinct (l.map (·.1))=true->∀ {k j j'},(k,j)∈l->(k,j')∈l->j=j':=by
 induction l with
 | nil=>intro _ k j j' h; cases h
 | cons p r ih=>
 intro h k j j' h1 h2;simp only[ba,distinct,af]at h;have hn:=zHD h.1;rcases aR.1 h1 with h1 | h1 <;> rcases aR.1 h2 with h2 | h2
 ·rw[← h1]at h2; cases h2; rfl
 ·exact absurd (be.2 ⟨_,h2,by rw[← h1]⟩) hn
 ·exact absurd (be.2 ⟨_,h1,by rw[← h2]⟩) hn
 exact ih h.2 h1 h2
def zMb:distinct (l.map (·.2))=true->∀ {k k' j},(k,j)∈l->(k',j)∈l->k=k':=by
 induction l with
 | nil=>intro _ k k' j h; cases h
 | cons p r ih=>
 intro h k k' j h1 h2;simp only[ba,distinct,af]at h;have hn:=zHD h.1;rcases aR.1 h1 with h1 | h1 <;> rcases aR.1 h2 with h2 | h2
 ·rw[← h1]at h2; cases h2; rfl
 ·exact absurd (be.2 ⟨_,h2,by rw[← h1]⟩) hn
 ·exact absurd (be.2 ⟨_,h1,by rw[← h2]⟩) hn
 exact ih h.2 h1 h2
def zSY (j:Nat):List (Nat×Nat)->Option Nat
 | []=>none
 | (a,b)::r=>bif Nat.beq j b then some a else zSY j r
def zKL {k j:Nat}:∀ {l:List (Nat×Nat)},zSY j l=some k->(k,j)∈l
 | [],h=>by simp[zSY]at h
 | (a,b)::r,h=>by
  simp only[zSY]at h;cases e:Nat.beq j b with
  | true=>rw[e,ag]at h; cases h; obtain rfl:=ab e; simp
  | false=>rw[e,ae]at h; simp[zKL h]
def zIp {k j:Nat}:∀ {l:List (Nat×Nat)},(k,j)∈l->∃ k',zSY j l=some k'
 | [],h=>by cases h
 | (a,b)::r,h=>by
  simp only[zSY];cases e:Nat.beq j b with
  | true=>exact⟨a,by simp⟩
  | false =>
   rw[ae];rcases aR.1 h with h | h
   ·cases h; exact absurd rfl (Nat.ne_of_beq_eq_false e)
   ·exact zIp h
def rens (env:Nat->AV) (ρ:List (Nat×Nat)):List (Nat×AV)->Prop
 | []=>True
 | (t,x)::r=>(env t).ren ρ=x/\rens env ρ r
def zMV {hp:Nat->Option Ob}{ρ:List (Nat×Nat)}:∀ {r:List (Nat×Nat)}{l:List (Nat×Ob)},kept hp ρ r l->∀ {j o},ofH l j=some o->∃ k o0,(k,j)∈r/\hp k=some o0/\o0.ren ρ=o
 | [],[],_,j,o,h=>by simp[ofH]at h
 | [],_::_,hk,_,_,_=>hk.elim
 | _::_,[],hk,_,_,_=>hk.elim
 | (k,j1)::r,(j2,o2)::l,hk,j,o,h=>by
  simp only[kept]at hk;obtain⟨rfl,⟨o0,h1,h2⟩,h4⟩:=hk;simp only[ofH]at h;cases e:Nat.beq j j1 with
  | true =>
   rw[e,ag]at h; cases h;obtain rfl:=ab e;exact⟨k,o0,by simp,h1,h2⟩
  | false =>
   rw[e,ae]at h;obtain⟨k',o',h5,h6⟩:=zMV h4 h;exact⟨k',o',by simp[h5],h6⟩
def ltL (n:Nat):List (Nat×AV)->Bool
 | []=>true
 | (_,x)::r=>x.lt n&&ltL n r
def ltH (n:Nat):List (Nat×Ob)->Bool
 | []=>true
 | (k,o)::r=>Nat.blt k n&&o.lt n&&ltH n r
def zVE {n:Nat}:∀ {l:List (Nat×AV)},ltL n l=true->∀ t,(ofL l t).lt n=true
 | [],_,t=>rfl
 | (s,x)::r,h,t=>by
  simp only[ltL,af]at h;simp only[ofL];cases Nat.beq t s with
  | true=>exact h.1
  | false=>exact zVE h.2 t
def zVD {n:Nat}:∀ {l:List (Nat×Ob)},ltH n l=true->∀ k o,ofH l k=some o->k<n/\o.lt n=true
 | [],_,k,o,h=>by simp[ofH]at h
 | (s,x)::r,h,k,o,hk=>by
  simp only[ltH,af]at h;simp only[ofH]at hk;cases e:Nat.beq k s with
  | true =>
   rw[e,ag]at hk; cases hk;obtain rfl:=ab e;exact⟨aj h.1.1,h.1.2⟩
  | false=>rw[e,ae]at hk; exact zVD h.2 k o hk
def zJE (n0 n:Nat):List (Nat×Nat)->Bool
 | []=>Nat.ble n0 n
 | (k,j)::r=>(Nat.ble n0 j||Nat.beq k j)&&zJE n0 n r
def zJ2 {n0 n:Nat}:∀ {ρ:List (Nat×Nat)},zJE n0 n ρ=true->n0<=n/\∀ k j,(k,j)∈ρ->j<n0->k=j
 | [],h=>⟨aj h,fun k j h=>by cases h⟩
 | (a,b)::r,h=>by
  simp only[zJE,af,bv]at h;obtain⟨h1,h2⟩:=zJ2 h.2;refine⟨h1,fun k j hm hj=>?_⟩;rcases aR.1 hm with hm | hm
  ·cases hm;rcases h.1 with h3 | h3
   ·have:=aj h3; omega
   ·exact ab h3
  ·exact h2 k j hm hj
def zSl (O:Nat->Value) (ρ:List (Nat×Nat)) (j:Nat):Value:=match zSY j ρ with | some k=>O k | none=>O j
def Le.renameG (ρ r:List (Nat×Nat)) (hr:∀ p∈r,p∈ρ) (l:List (Nat×AV)) (hl:List (Nat×Ob)) (n:Nat) (h1:rens V.env ρ l) (h2:kept V.hp ρ r hl) (h3:distinct (ρ.map (·.1))=true) (h4:distinct (ρ.map (·.2))=true)
  (h5:ltL n l=true) (h6:ltH n hl=true) (h7:zJE c.n0 n ρ=true):Le c V { env:=ofL l,hp:=ofH hl,nx:=n }:=fun G O a w hc=>by
 have hb:∀ k j,look k ρ=some j->(zSl O ρ) j=O k:=fun k j hkj=>by
  have hm:=zVC hkj;obtain⟨k',hk'⟩:=zIp hm;have:=zMb h4 hm (zKL hk');subst this;simp only[zSl,hk']
 have henv:∀ {l:List (Nat×AV)},rens V.env ρ l->∀ t,AVal G w (zSl O ρ) (ofL l t) (a.tmps.getD t undef):=fun {l}=>by
  induction l with
  | nil=>intro _ t; simp only[ofL,AVal]
  | cons p r ih=>
  obtain⟨s,x⟩:=p;intro h t;simp only[ofL];cases e:Nat.beq t s with
  | true=>obtain rfl:=ab e; rw[ag,← h.1]; exact(hc.env t).ren hb
  | false=>exact ih h.2 t
 have hat:∀ {v:Value} {o o':Ob},o.ren ρ=o'->ObAt c G w O v o->ObAt c G w (zSl O ρ) v o':=fun {v o o'} ho h=>by
  subst ho;cases o with
  | box xs=>obtain⟨b,e,cur,q1,q2,q3,q4,q5,q6⟩:=h;exact⟨b,e,cur,q1,q2,q3,q4,q5.ren hb,q6⟩
  | row e sz rows=>exact h
  | arow e sz rows=>exact ObAt.ren hb (fun _ _ h=>h) h
  | any τ xs=>obtain⟨b,o,vs,q1,q2,q3,q4,q5,q6⟩:=h;exact⟨b,o,vs,q1,q2,q3,q4,q5.ren hb,q6⟩
 have hβ:∀ {k j},(k,j)∈ρ->(zSl O ρ) j=O k:=fun {k j} hm=>by
  obtain⟨k',hk'⟩:=zIp hm;have:=zMb h4 hm (zKL hk');subst this;simp only[zSl,hk']
 refine⟨G,zSl O ρ,{ defers:=hc.defers,size:=hc.size,env:=henv h1,envlt:=zVE h5,hp:=fun j o hj=>?_,hplt:=zVD h6,inj:=?_,lt:=hc.lt,sub:=hc.sub,new:=hc.new,fr:=hc.fr,stay:=⟨(zJ2 h7).1,fun j hj=>?_⟩,glob:=hc.glob }⟩
 ·obtain⟨k,o0,hm,hk,ho⟩:=zMV h2 hj;replace hm:=hr _ hm;rw[hβ hm];exact hat ho (hc.hp k o0 hk)
 ·intro j j' o o' hj hj' hne b hb1 hb2;obtain⟨k,o0,hm,hk,_⟩:=zMV h2 hj;obtain⟨k',o0',hm',hk',_⟩:=zMV h2 hj';replace hm:=hr _ hm;replace hm':=hr _ hm';rw[hβ hm]at hb1;rw[hβ hm']at hb2;exact hc.inj k k' o0 o0' hk hk' (fun e=>hne (by subst e; exact zSz h3 hm hm')) b hb1 hb2
 unfold zSl;cases hl:zSY j ρ with
 | none=>exact hc.stay.2 j hj
 | some k=>obtain rfl:=(zJ2 h7).2 k j (zKL hl) hj;exact hc.stay.2 k hj
def Le.rename (ρ:List (Nat×Nat)) (l:List (Nat×AV)) (hl:List (Nat×Ob)) (n:Nat) (h1:rens V.env ρ l) (h2:kept V.hp ρ ρ hl) (h3:distinct (ρ.map (·.1))=true) (h4:distinct (ρ.map (·.2))=true)
  (h5:ltL n l=true) (h6:ltH n hl=true) (h7:zJE c.n0 n ρ=true):Le c V { env:=ofL l,hp:=ofH hl,nx:=n }:=Le.renameG ρ ρ (fun _ h=>h) l hl n h1 h2 h3 h4 h5 h6 h7
def Le.rnm  (ρ:List (Nat×Nat)) (l:List (Nat×AV)) (hl:List (Nat×Ob)) (n:Nat) (h1:rens V.env ρ l) (h2:kept V.hp ρ ρ hl) (h3:distinct (ρ.map (·.1))=true:=by exact rfl) (h4:distinct (ρ.map (·.2))=true:=by exact rfl) (h5:ltL n l=true:=by exact rfl) (h6:ltH n hl=true:=by exact rfl) (h7:zJE c.n0 n ρ=true:=by exact rfl):Le c V { env:=ofL l,hp:=ofH hl,nx:=n } :=
 Le.rename ρ l hl n h1 h2 h3 h4 h5 h6 h7
def Le.rnq  (ρ:List (Nat×Nat)) (l:List (Nat×AV)) (hl:List (Nat×Ob)) (n:Nat) (h1:rens V.env ρ l:=by repeat (first | exact trivial | refine⟨rfl,?_⟩)) (h2:kept V.hp ρ ρ hl:=by repeat (first | exact trivial | refine⟨rfl,⟨_,rfl,rfl⟩,?_⟩)) (h3:distinct (ρ.map (·.1))=true:=by exact rfl) (h4:distinct (ρ.map (·.2))=true:=by exact rfl) (h5:ltL n l=true:=by exact rfl) (h6:ltH n hl=true:=by exact rfl) (h7:zJE c.n0 n ρ=true:=by exact rfl):Le c V { env:=ofL l,hp:=ofH hl,nx:=n } :=
 Le.rename ρ l hl n h1 h2 h3 h4 h5 h6 h7
mutual
def AV.frz (k:Nat) (r:AV) (p:Nat->AV):AV->AV
 | .op j o=>match Nat.beq j k with | true=>p o | false=>.op j o
 | .orow j=>match Nat.beq j k with | true=>r | false=>.orow j
 | .rp j sz i o=>match Nat.beq j k with | true=>.junk | false=>.rp j sz i o
 | .mref j=>match Nat.beq j k with | true=>.junk | false=>.mref j
 | .agg xs=>.agg (AV.frzAll k r p xs)
 | .tup xs=>.tup (AV.frzAll k r p xs)
 | .clo f xs=>.clo f (AV.frzAll k r p xs)
 | x=>x
def AV.frzAll (k:Nat) (r:AV) (p:Nat->AV):List AV->List AV
 | []=>[]
 | x::xs=>AV.frz k r p x::AV.frzAll k r p xs
end
mutual
def AVal.frz {G G':Nat->Prop}{w:World}{O:Nat->Value}{k:Nat}{r:AV}{p:Nat->AV} (hG:∀ b,G b->G' b) (hr:(∃ o n cp,O k = .slice o n cp)->AVal G' w O r (O k)) (hp:∀ b o,O k = .pointer (some ⟨b,0,none⟩)->AVal G' w O (p o) (.pointer (some ⟨b,o,none⟩))) :
  ∀ {x:AV} {v:Value},AVal G w O x v->AVal G' w O (AV.frz k r p x) v
 | .s x,v,h=>by simp only[AVal,AV.frz]at h ⊢; exact h.keep ⟨hG,fun _ _=>rfl⟩
 | .nl _,v,h=>by simp only[AVal,AV.frz]at h ⊢; exact h
 | .agg xs,v,h=>by
  simp only[AVal,AV.frz]at h ⊢
  obtain⟨vs,h1,h2⟩:=h
  exact⟨vs,h1,AVals.frz hG hr hp h2⟩
 | .tup xs,v,h=>by
  simp only[AVal,AV.frz]at h ⊢
  obtain⟨vs,h1,h2⟩:=h
  exact⟨vs,h1,AVals.frz hG hr hp h2⟩
 | .clo f xs,v,h=>by
  simp only[AVal,AV.frz]at h ⊢
  obtain⟨vs,h1,h2⟩:=h
  exact⟨vs,h1,AVals.frz hG hr hp h2⟩
 | .op j o,v,h=>by
  simp only[AV.frz]
  split
  ·rename_i e; obtain rfl:=ab e
   simp only[AVal]at h
   obtain⟨b,h1,rfl⟩:=h
   exact hp b o h1
  ·simp only[AVal]at h ⊢; exact h
 | .orow j,v,h=>by
  simp only[AV.frz]
  split
  ·rename_i e; obtain rfl:=ab e
   simp only[AVal]at h
   obtain⟨rfl,h1⟩:=h
   exact hr h1
  ·simp only[AVal]at h ⊢; exact h
 | .rp j sz i o,v,h=>by
  simp only[AV.frz]
  split
  ·simp only[AVal]
  ·simp only[AVal]at h ⊢; exact h
 | .mref j,v,h=>by
  simp only[AV.frz]
  split
  ·simp only[AVal]
  ·simp only[AVal]at h ⊢; exact h
 | .junk,_,_=>by simp only[AV.frz,AVal]
def AVals.frz {G G':Nat->Prop}{w:World}{O:Nat->Value}{k:Nat}{r:AV}{p:Nat->AV} (hG:∀ b,G b->G' b) (hr:(∃ o n cp,O k = .slice o n cp)->AVal G' w O r (O k)) (hp:∀ b o,O k = .pointer (some ⟨b,0,none⟩)->AVal G' w O (p o) (.pointer (some ⟨b,o,none⟩))) :
  ∀ {xs:List AV} {vs:List Value},AVals G w O xs vs->AVals G' w O (AV.frzAll k r p xs) vs
 | [],_,h=>by simp only[AVals,AV.frzAll]at h ⊢; exact h
 | x::xs,vs,h=>by
  simp only[AVals,AV.frzAll]at h ⊢
  obtain⟨v,vs',h1,h2,h3⟩:=h
  exact⟨v,vs',h1,AVal.frz hG hr hp h2,AVals.frz hG hr hp h3⟩
end
mutual
def AV.frz_lt {n k:Nat}{r:AV}{p:Nat->AV} (hr:r.lt n=true) (hp:∀ o,(p o).lt n=true):∀ {x:AV},x.lt n=true->(AV.frz k r p x).lt n=true
 | .s _,h=>rfl
 | .nl _,h=>rfl
 | .junk,h=>rfl
 | .agg xs,h=>by simp only[AV.frz,AV.lt]at *; exact AV.frzAll_lt hr hp h
 | .tup xs,h=>by simp only[AV.frz,AV.lt]at *; exact AV.frzAll_lt hr hp h
 | .clo _ xs,h=>by simp only[AV.frz,AV.lt]at *; exact AV.frzAll_lt hr hp h
 | .op j o,h=>by simp only[AV.frz]; split <;> first | exact hp o | exact h
 | .orow j,h=>by simp only[AV.frz]; split <;> first | exact hr | exact h
 | .rp j sz i o,h=>by simp only[AV.frz]; split <;> first | rfl | exact h
 | .mref j,h=>by simp only[AV.frz]; split <;> first | rfl | exact h
def AV.frzAll_lt {n k:Nat}{r:AV}{p:Nat->AV} (hr:r.lt n=true) (hp:∀ o,(p o).lt n=true):∀ {xs:List AV},AV.ltAll n xs=true->AV.ltAll n (AV.frzAll k r p xs)=true
 | [],_=>rfl
 | x::xs,h=>by
  simp only[AV.frzAll,AV.ltAll,af]at *
  exact⟨AV.frz_lt hr hp h.1,AV.frzAll_lt hr hp h.2⟩
end
def Ob.frz (k:Nat) (r:AV) (p:Nat->AV):Ob->Ob
 | .box t xs=>.box t (AV.frzAll k r p xs)
 | .arow e sz rows=>.arow e sz (rows.map (AV.frzAll k r p))
 | .any τ xs=>.any τ (AV.frzAll k r p xs)
 | o=>o
def zNM {k:Nat}{r:AV}{p:Nat->AV}:∀ (l:List AV),AV.frzAll k r p l=l.map (AV.frz k r p)
 | []=>rfl
 | x::l=>by simp[AV.frzAll,zNM l]
def zGY {k:Nat}{r:AV}{p:Nat->AV}:∀ (rows:List (List AV)),(rows.map (AV.frzAll k r p)).flatten=rows.flatten.map (AV.frz k r p)
 | []=>rfl
 | x::rows=>by simp[zNM,zGY rows,bn]
def zKG (V:St) (k:Nat) (r:AV) (p:Nat->AV):St :=
 { env:=fun t=>AV.frz k r p (V.env t),hp:=fun j=>bif Nat.beq j k then none else (V.hp j).map (Ob.frz k r p),nx:=V.nx }
variable {w:World}{a:Act}{O:Nat->Value}{G:Nat->Prop}
theorem Conc.given {G':Nat->Prop} (hc:Conc c G O V a w){k:Nat}{ob:Ob} (hk:V.hp k=some ob){r:AV}{p:Nat->AV} (hsub:∀ b,G b->G' b)
  (hnew:∀ b,G' b->G b∨blk (O k)=some b)
  (hr:(∃ o n cp,O k = .slice o n cp)->AVal G' w O r (O k)) (hp:∀ b o,O k = .pointer (some ⟨b,0,none⟩)->AVal G' w O (p o) (.pointer (some ⟨b,o,none⟩)))
  (hrl:r.lt V.nx=true) (hpl:∀ o,(p o).lt V.nx=true):Conc c G' O (zKG V k r p) a w:=by
 have hkeep:Keep G G' w w:=⟨hsub,fun _ _=>rfl⟩;have hget:∀ {j o'},(zKG V k r p).hp j=some o'->j ≠ k/\∃ o,V.hp j=some o/\o'=Ob.frz k r p o:=fun {j o'} h=>by
  simp only[zKG]at h;cases e:Nat.beq j k with
  | true=>rw[e,ag]at h; cases h
  | false=>rw[e,ae]at h;obtain⟨o,h1,h2⟩:=aH.1 h;exact⟨Nat.ne_of_beq_eq_false e,o,h1,h2.symm⟩
 have hmk:=row_block (hc.hp k ob hk);refine { defers:=hc.defers,size:=hc.size,env:=fun t=>(hc.env t).frz hsub hr hp,envlt:=fun t=>AV.frz_lt hrl hpl (hc.envlt t),hp:=fun j o' hj=>?_,hplt:=fun j o' hj=>?_,inj:=?_,lt:=fun b hb=>?_,sub:=fun b hb=>hsub b (hc.sub b hb),new:=fun b hb=>?_,fr:=hc.fr,stay:=hc.stay,glob:=hc.glob.keep hkeep }
 ·obtain⟨hne,o,h1,rfl⟩:=hget hj;have ho:=hc.hp j o h1;have hng:∀ b,blk (O j)=some b->¬ G' b:=fun b hb hg'=>by
   rcases hnew b hg' with h | h
   ·exact(row_block ho b hb).1 h
   exact hc.inj j k o ob h1 hk hne b hb h
  cases o with
  | box xs=>obtain⟨b,e,cur,q1,q2,q3,q4,q5,q6⟩:=ho;exact⟨b,e,cur,q1,q2,hng b (by rw[q1]; rfl),q4,AVals.frz hsub hr hp q5,q6⟩
  | row e sz rows =>
   obtain⟨q1,q2,q3⟩:=ho;refine⟨q1,q2,q3.imp id ?_⟩;rintro⟨b,cap,cur,g1,g2,g3,g4,g5,g6,g7⟩;exact⟨b,cap,cur,g1,g2,g3,g4,hng b (by rw[g1]; rfl),g6,fun i s hi=>let ⟨u,hu,hr'⟩:=g7 i s hi; ⟨u,hu,hr'.keep hkeep⟩⟩
  | arow e sz rows =>
   obtain⟨q1,q2,q3⟩:=ho;refine⟨fun x hx=>by obtain⟨y,hy,rfl⟩:=be.1 hx; rw[zNM,az]; exact q1 y hy,q2,q3.imp (fun h=>⟨h.1,by rw[h.2]; rfl⟩) ?_⟩;rintro⟨b,cap,cur,g1,g2,g3,g4,g5,g6,g7⟩;refine⟨b,cap,cur,by rw[az]; exact g1,by rw[az]; exact g2,g3,g4,hng b (by rw[g1]; rfl),g6,fun i x hi=>?_⟩;rw[zGY,ao]at hi;obtain⟨y,hy,rfl⟩:=aH.1 hi;obtain⟨u,hu,hr',h1⟩:=g7 i y hy;exact⟨u,hu,AVal.frz hsub hr hp hr',h1⟩
  | any τ xs=>obtain⟨b,o,vs,q1,q2,q3,q4,q5,q6⟩:=ho;exact⟨b,o,vs,q1,q2,hng b q1,q4,AVals.frz hsub hr hp q5,q6⟩
 ·obtain⟨hne,o,h1,rfl⟩:=hget hj;obtain⟨h2,h3⟩:=hc.hplt j o h1;refine⟨h2,?_⟩;cases o with
  | box xs=>simp only[Ob.lt,Ob.frz]at *; exact AV.frzAll_lt hrl hpl h3
  | any xs=>simp only[Ob.lt,Ob.frz]at *; exact AV.frzAll_lt hrl hpl h3
  | row=>rfl
  | arow e sz rows=>
  simp only[Ob.lt,Ob.frz]at *;refine zCB fun q y hq=>?_
  rw[zGY,ao]at hq;obtain⟨z,hz,rfl⟩:=aH.1 hq;exact AV.frz_lt hrl hpl (zA7 h3 hz)
 ·intro j j' o o' hj hj' hne b hb hb';obtain⟨_,o1,h1,_⟩:=hget hj;obtain⟨_,o2,h2,_⟩:=hget hj';exact hc.inj j j' o1 o2 h1 h2 hne b hb hb'
 ·rcases hnew b hb with h | h
  ·exact hc.lt b h
  exact hc.blk_lt hk h
 rcases hnew b hb with h | h
 ·exact hc.new b h
 exact .inr (hmk b h).2
variable {rows:List (List S)}{e sz:Nat}
theorem Le.giveRow (k:Nat) (hk:V.hp k=some (.row e sz rows)):Le c V (zKG V k (.s (.sl sz rows)) (fun _=>.junk)):=fun G O a w hc=>by
 obtain⟨hlen,hsz,ho⟩:=hc.hp k _ hk;rcases ho with ⟨h1,rfl⟩ | ⟨b,cap,cur,h1,h2,h3,⟨mk,hmk,h4⟩,h5,h6,h7⟩
 ·refine⟨G,O,hc.given hk (fun _ h=>h) (fun _ h=>.inl h) (fun _=>?_) (fun b o h=>by rw[h1]at h; cases h) rfl (fun _=>rfl)⟩;rw[h1]; simp[AVal,Rep]
 refine⟨fun i=>G i∨i=b,O,hc.given hk (fun _ h=>.inl h) (fun i h=>h.imp id (fun e=>by rw[h1,e]; rfl)) (fun _=>?_) (fun b o h=>by rw[h1]at h; cases h) rfl (fun _=>rfl)⟩;rw[h1];simp only[AVal,Rep];refine .inr ⟨b,0,cap,rfl,h2,zCl hlen (RepRow.mk fun i s hi=>⟨.inr rfl,?_⟩)⟩;obtain⟨u,hu,hr⟩:=h7 i s hi;exact⟨u,by simp[World.cell?,h4,hu],hr.keep ⟨fun _ h=>.inl h,fun _ _=>rfl⟩⟩
def zGu:List (List AV)->Option (List (List S))
 | []=>some []
 | r::rs=>match zLI r,zGu rs with | some y,some ys=>some (y::ys) | _,_=>none
def zTB:∀ {xs:List AV}{ss:List S},zLI xs=some ss->xs.map AV.sc=ss.map some
 | [],ss,h=>by simp only[zLI,aC]at h; subst h; rfl
 | x::xs,ss,h=>by
  simp only[zLI]at h;split at h
  ·rename_i y ys h1 h2;cases h;simp[h1,zTB h2]
  ·cases h
def zLJ:∀ {rows:List (List AV)}{rs:List (List S)},zGu rows=some rs->rows.flatten.map AV.sc=rs.flatten.map some/\rows.length=rs.length/\∀ sz,(∀ r∈rows,r.length=sz)->∀ r∈rs,r.length=sz
 | [],rs,h=>by simp only[zGu,aC]at h; subst h; exact⟨rfl,rfl,fun _ _ _ h=>by cases h⟩
 | r::rows,rs,h=>by
  simp only[zGu]at h;split at h
  ·rename_i y ys h1 h2;cases h;obtain⟨a1,a2,a3⟩:=zLJ h2;have a0:=zTB h1;have al:r.length=y.length :=(by simpa using congrArg List.length a0);refine⟨by simp[a0,a1],by simp[a2],fun sz hl r' hr'=>?_⟩;rcases aR.1 hr' with rfl | hr'
   ·rw[← al]; exact hl r (by simp)
   ·exact a3 sz (fun q hq=>hl q (by simp[hq])) r' hr'
  ·cases h
theorem Le.giveArow (k:Nat){rows:List (List AV)} (rs:List (List S)) (hk:V.hp k=some (.arow e sz rows)) (hs:zGu rows=some rs):Le c V (zKG V k (.s (.sl sz rs)) (fun _=>.junk)):=fun G O a w hc=>by
 obtain⟨hlen,hsz,ho⟩:=hc.hp k _ hk;obtain⟨s1,s2,s3⟩:=zLJ hs;rcases ho with ⟨h1,rfl⟩ | ⟨b,cap,cur,h1,h2,h3,⟨mk,hmk,h4⟩,h5,h6,h7⟩
 ·refine⟨G,O,hc.given hk (fun _ h=>h) (fun _ h=>.inl h) (fun _=>?_) (fun b o h=>by rw[h1]at h; cases h) rfl (fun _=>rfl)⟩;obtain rfl:rs=[]:=List.length_eq_zero_iff.1 (by simpa using s2.symm);rw[h1]; simp[AVal,Rep]
 refine⟨fun i=>G i∨i=b,O,hc.given hk (fun _ h=>.inl h) (fun i h=>h.imp id (fun e=>by rw[h1,e]; rfl)) (fun _=>?_) (fun b o h=>by rw[h1]at h; cases h) rfl (fun _=>rfl)⟩;rw[h1];simp only[AVal,Rep];refine .inr ⟨b,0,cap,by rw[s2],by rw[← s2]; exact h2,zCl (s3 sz hlen) (RepRow.mk fun i s hi=>⟨.inr rfl,?_⟩)⟩;have hm:(rows.flatten.map AV.sc)[i]? = some (some s) :=(by rw[s1,ao,hi]; rfl);rw[ao]at hm;obtain⟨x,hx,hxs⟩:=aH.1 hm;obtain⟨u,hu,hr,_⟩:=h7 i x hx;exact⟨u,by simp[World.cell?,h4,hu],(AV.sc_rep hxs hr).keep ⟨fun _ h=>.inl h,fun _ _=>rfl⟩⟩
def Le.toA (k:Nat) (hk:V.hp k=some (.row e sz rows)):Le c V (zDW V k (.arow e sz (rows.map (·.map AV.s)))):=fun G O a w hc=>by
 have hf:(rows.map (·.map AV.s)).flatten=rows.flatten.map AV.s :=(by simp[map_flatten]);have hget:∀ {j o},(zDW V k (.arow e sz (rows.map (·.map AV.s)))).hp j=some o->(j=k/\o = .arow e sz (rows.map (·.map AV.s)))∨(j ≠ k/\V.hp j=some o):=fun {j o} h=>by
  simp only[zDW]at h;cases hq:Nat.beq j k with
  | true=>rw[hq,ag]at h; cases h; exact .inl ⟨ab hq,rfl⟩
  | false=>rw[hq,ae]at h; exact .inr ⟨Nat.ne_of_beq_eq_false hq,h⟩
 have hget':∀ {j o},(zDW V k (.arow e sz (rows.map (·.map AV.s)))).hp j=some o->∃ o',V.hp j=some o':=fun {j o} h=>by
  rcases hget h with ⟨rfl,_⟩ | ⟨_,h⟩
  ·exact⟨_,hk⟩
  exact⟨_,h⟩
 refine⟨G,O,{ hc with hp:=fun j o hj=>?_,hplt:=fun j o hj=>?_,inj:=fun j j' o o' hj hj'=>(let ⟨_,h1⟩:=hget' hj; let ⟨_,h2⟩:=hget' hj'; hc.inj j j' _ _ h1 h2) }⟩
 ·rcases hget hj with ⟨rfl,rfl⟩ | ⟨_,h⟩
  ·obtain⟨hlen,hsz,ho⟩:=hc.hp j _ hk;refine⟨fun r hr=>by obtain⟨r',hr',rfl⟩:=be.1 hr; simpa using hlen r' hr',hsz,ho.imp (fun h=>⟨h.1,by rw[h.2]; rfl⟩) ?_⟩;rintro⟨b,cap,cur,h1,h2,h3,h4,h5,h6,h7⟩;refine⟨b,cap,cur,by rw[az]; exact h1,by rw[az]; exact h2,h3,h4,h5,h6,fun i x hi=>?_⟩;rw[hf,ao]at hi;obtain⟨s,hs,rfl⟩:=aH.1 hi;obtain⟨u,hu,hr⟩:=h7 i s hs;exact⟨u,hu,by simpa only[AVal] using hr,hr.one⟩
  exact hc.hp j o h
 rcases hget hj with ⟨rfl,rfl⟩ | ⟨_,h⟩
 ·refine⟨(hc.hplt j _ hk).1,?_⟩;simp only[Ob.lt]; rw[hf]; exact zYm _
 exact hc.hplt j o h
variable {cells:List AV}{bt:Nat}
theorem Le.giveBox (k:Nat) (ss:List S) (hk:V.hp k=some (.box bt cells)) (hs:zLI cells=some ss):Le c V (zKG V k .junk (fun o=>.s (.pt (ss.drop o)))):=fun G O a w hc=>by
 obtain⟨b,e,cur,h1,h2,h3,h4,h5,h6⟩:=hc.hp k _ hk;have hreps:=zK5 hs h5;refine⟨fun i=>G i∨i=b,O,hc.given hk (fun _ h=>.inl h) (fun i h=>h.imp id (fun e=>by rw[h1,e]; rfl)) (fun _=>by simp only[AVal]) (fun b' o h=>?_) rfl (fun _=>rfl)⟩;rw[h1]at h; cases h;simp only[AVal,Rep];have hrow:RepRow (fun i=>G i∨i=b) w b ss 0:=RepRow.mk fun i s hi=>⟨.inr rfl,by
  obtain⟨u,hu,hr⟩:=zK3 hreps hi;rw[aI]at hu;exact⟨u,by simp[World.cell?,h2,hu],hr.keep ⟨fun _ h=>.inl h,fun _ _=>rfl⟩⟩⟩
 exact⟨b,o,rfl,by simpa using hrow.drop o⟩
def Le.takeNil (k off e:Nat) (hk:V.hp k=some (.box bt cells)) (ho:cells[off]? = some (.nl sz)) (hs:0<sz) :
  Le c V (zA6 (zDW V k (.box bt (cells.set off (.orow V.nx)))) (.row e sz [])):=fun G O a w hc=>by
 obtain⟨b,e0,cur,h1,h2,h3,h4,h5,h6⟩:=hc.hp k _ hk;have hkn:=(hc.hplt k _ hk).1;have hcl:AV.ltAll V.nx cells=true:=(hc.hplt k _ hk).2;obtain⟨O',b1,b2,b3⟩:=hc.make (ob:=.row e sz []) (v:=.slice none 0 0) ⟨fun r hr=>(by cases hr),hs,.inl ⟨rfl,rfl⟩⟩ rfl (fun _ _ _ b hb=>by cases hb);have hk':(zA6 V (.row e sz [])).hp k=some (.box bt cells):=by
  show(bif Nat.beq k V.nx then some (Ob.row e sz []) else V.hp k)=_;cases e1:Nat.beq k V.nx with
  | true=>have:=ab e1; omega
  | false=>rw[ae]; exact hk
 have hset:AVals G w O' (cells.set off (.orow V.nx)) cur.toList:=by
  have h5':=h5.beta b1 hcl;refine AVals.mk (by rw[length_set]; exact h5.length) fun i x v hx hv=>?_
  rw[br]at hx;split at hx
  ·rename_i hio;subst hio;split at hx
   ·cases hx;obtain⟨u,hu,hn⟩:=h5'.get ho;rw[hu]at hv; cases hv;simp only[AVal]at hn ⊢;exact⟨hn.trans b2.symm,_,_,_,hn⟩
   cases hx
  obtain⟨u,hu,hn⟩:=h5'.get hx;rw[hu]at hv; cases hv; exact hn
 have hlt2:AV.ltAll (V.nx+1) (cells.set off (.orow V.nx))=true:=zCB fun q y hq=>by
  rw[br]at hq;split at hq
  ·split at hq
   ·cases hq; simp[AV.lt]
   cases hq
  exact AV.lt_mono (bw _) (zA7 hcl hq)
 have hβk:O' k=O k:=b1 k hkn;have:=b3.write (j:=k) (ob:=.box bt cells) (ob':=.box bt (cells.set off (.orow V.nx))) (w':=w) hk' (b:=b) (by rw[hβk,h1]; rfl) h3 h4 rfl rfl rfl rfl (fun _ _=>rfl)
  (fun _=>by rw[hβk]; exact⟨b,e0,cur,h1,h2,h3,h4,hset,h6⟩) hlt2
 refine⟨G,O',?_⟩;have e2:(zA6 (zDW V k (.box bt (cells.set off (.orow V.nx)))) (.row e sz []))={ zA6 V (.row e sz []) with hp:=fun k'=>bif Nat.beq k' k then some (.box bt (cells.set off (.orow V.nx))) else (zA6 V (.row e sz [])).hp k' }:=by
  simp only[zA6,zDW,St.mk.injEq,true_and,and_true];funext k';cases e3:Nat.beq k' V.nx with
  | true =>
   have h8:=ab e3;cases e4:Nat.beq k' k with
   | true=>have:=ab e4; omega
   | false=>rfl
  | false=>rfl
 rw[e2]; exact this
def zOj (tmps:Array Value):ResultVar->Sem Value
 | .tmp t=>pure (tmps.getD t undef)
 | .cell a t=>do loadVar t (← asAddr (tmps.getD a undef))
def zP0 (fn:Func) (tmps:Array Value):results fn tmps=(do let vs←fn.results.mapM (zOj tmps); pure (if h:vs.size=1 then vs[0] else .tuple vs)):=rfl
def zTu (T:Nat->Option TI) (V:St):ResultVar->Option AV
 | .tmp t=>some (V.env t).deep
 | .cell t ty=>match V.env t with
  | .op k 0=>match V.hp k,T ty with
   | some (.box _ cells),some i=>match i.k.agg with
    | true=>match Nat.ble i.size cells.length with | true=>some (AV.deep (.agg (cells.take i.size))) | false=>none
    | false=>match cells with | x::_=>some x.nrm | []=>none
   | _,_=>none
  | .s (.pt row)=>zMG T ty row
  | _=>none
theorem zYR  (hT:TOk c.P T) (hc:Conc c G O V a w){rv:ResultVar}{x:AV} (h:zTu T V rv=some x) :
  ∃ v,(zOj a.tmps rv).run c.P w = .ok v w/\AVal G w O x v:=by
 cases rv with
 | tmp t=>simp only[zTu,aC]at h; subst h; exact⟨_,rfl,(hc.env t).deep⟩
 | cell t ty=>
 have he:=hc.env t;simp only[zTu]at h;split at h
 ·rename_i k e;rw[e]at he;simp only[AVal]at he;obtain⟨b,hβ,hv⟩:=he;split at h
  ·rename_i cells i hh hi;obtain⟨d,info,z,b1,b2,b3,b4,_⟩:=hT ty i hi;obtain⟨b',e',cur,o1,o2,o3,o4,o5,o6⟩:=hc.hp k _ hh;rw[hβ]at o1; cases o1;have hcell:∀ q v,cur[q]? = some v->w.cell? ⟨b,q,none⟩=some v:=fun q v hq=>by simp[World.cell?,o2,hq]
   split at h
   ·rename_i hag;split at h
    ·rename_i hle;cases h;have hle:=aj hle;have hl:=o5.length;simp only[Array.length_toList]at hl;have hlc:=run_loadCells_list (P:=c.P) w ⟨b,0,none⟩ (cur.toList.take i.size) fun q v hq=>by
      rw[aU]at hq;split at hq
      ·rw[aI]at hq;rw[addr_add,a8]; exact hcell _ _ hq
      cases hq
     have hlen:(cur.toList.take i.size).length=i.size :=(by simp; omega);rw[hlen]at hlc;refine⟨.agg (cur.toList.take i.size).toArray,?_,AVal.deep (by simp only[AVal]; exact⟨_,rfl,o5.take i.size⟩)⟩;simp[zOj,hv,asAddr,loadVar,zDV w b1,b2,hag,zAt w b3,b4,hlc]
    cases h
   rename_i hag;split at h
   ·rename_i z r hz;cases h;obtain⟨u,hu,hr⟩:=o5.get (i:=0) rfl;rw[aI]at hu;exact⟨u,by simp[zOj,hv,asAddr,loadVar,zDV w b1,b2,hag,hcell _ _ hu],hr.nrm⟩
   cases h
  cases h
 ·rename_i row e;rw[e]at he;simp only[AVal,Rep]at he;obtain⟨b,off,hv,hr⟩:=he;obtain⟨z,h1,h2⟩:=zLH (O:=O) hT h (fun i s hi=>(hr.get hi).2);exact⟨z,by simpa [zOj,hv,asAddr,Instr.loadAt,Instr.sureAddr] using h1,h2⟩
 cases h
def zIL (T:Nat->Option TI) (V:St):List ResultVar->Option (List AV)
 | []=>some []
 | r::rs=>match zTu T V r,zIL T V rs with | some x,some xs=>some (x::xs) | _,_=>none
theorem zPZ {T:Nat->Option TI} (hT:TOk c.P T){G:Nat->Prop}{O:Nat->Value}{a:Act}{w:World} (hc:Conc c G O V a w):∀ {rs:List ResultVar}{xs:List AV},zIL T V rs=some xs ->
  ∃ vs,(rs.mapM (m:=Sem) (zOj a.tmps)).run c.P w = .ok vs w/\AVals G w O xs vs
 | [],xs,h=>by simp only[zIL,aC]at h; subst h; exact⟨[],rfl,by simp only[AVals]⟩
 | r::rs,xs,h=>by
  simp only[zIL]at h;split at h
  ·rename_i x xs' h1 h2;cases h;obtain⟨v,h3,h4⟩:=zYR hT hc h1;obtain⟨vs,h5,h6⟩:=zPZ hT hc h2;refine⟨v::vs,?_,by simp only[AVals]; exact⟨v,vs,rfl,h4,h6⟩⟩;rw[mapM_cons];simp only[Sem.run_bind,Sem.run_pure];rw[h3]; simp only[Result.andThen_ok,h5]
  ·cases h
def zHX (T:Nat->Option TI) (V:St) (rs:List ResultVar):Option AV :=
 match zIL T V rs with
 | some [x]=>some x
 | some xs=>some (.tup xs)
 | none=>none
theorem zHm  (hT:TOk c.P T) (hc:Conc c G O V a w){fn:Func}{x:AV} (h:zHX T V fn.results.toList=some x) :
  ∃ v,(results fn a.tmps).run c.P w = .ok v w/\AVal G w O x v:=by
 unfold zHX at h;have key:∀ {xs},zIL T V fn.results.toList=some xs->∃ vs:List Value,(fn.results.mapM (m:=Sem) (zOj a.tmps)).run c.P w = .ok vs.toArray w/\AVals G w O xs vs:=fun {xs} hx=>by
  obtain⟨vs,h1,h2⟩:=zPZ hT hc hx;refine⟨vs,?_,h2⟩;rw[Array.mapM_eq_mapM_toList];simp only[Sem.run_map,h1,Result.andThen_ok]
 split at h
 ·rename_i y hy;cases h;obtain⟨vs,h1,h2⟩:=key hy;simp only[AVals]at h2;obtain⟨v,vs',rfl,h3,rfl⟩:=h2;exact⟨v,by rw[zP0]; simp only[Sem.run_bind]; rw[h1]; rfl,h3⟩
 ·rename_i xs hn hy;cases h;obtain⟨vs,h1,h2⟩:=key hy;refine⟨.tuple vs.toArray,?_,by simp only[AVal]; exact⟨vs,rfl,h2⟩⟩;rw[zP0];simp only[Sem.run_bind];rw[h1];have hl:=h2.length;have:¬ (vs.toArray.size=1):=fun e=>by
   have:xs.length=1 :=(by rw[← hl]; simpa using e);obtain⟨y,rfl⟩:=aT.1 this;exact hn y rfl
  simp only[Result.andThen_ok,Sem.run_pure];rw[dif_neg this]
 cases h
end
variable {xs:List AV}{O:Nat->Value}{w:World}{G:Nat->Prop}
def zKs {vs:List Value}{N:Nat} (hv:AVals G w O xs vs) (t:Nat):AVal G w O (xs.getD t .junk) ((vs.toArray++Array.replicate (N - vs.toArray.size) undef).getD t undef):=by
 have hlen:=hv.length;by_cases ht:t<xs.length
 ·obtain⟨v,h1,h2⟩:=hv.get (i:=t) (x:=xs[t]) (ac ht);have e1:xs.getD t .junk=xs[t] :=(by simp[ac ht]);have e2:(vs.toArray++Array.replicate (N - vs.toArray.size) undef).getD t undef=v:=by
   rw[Array.getD_eq_getD_getElem?,Array.getElem?_append_left (by simpa [hlen] using ht)];simp[h1]
  rw[e1,e2]; exact h2
 have:xs.getD t .junk = .junk :=(by simp[List.getElem?_eq_none (by omega:xs.length<=t)]);rw[this]; simp only[AVal]
def zNv {n:Nat} (h:AV.ltAll n xs=true) (t:Nat):(xs.getD t .junk).lt n=true:=by
 by_cases ht:t<xs.length
 ·have e1:xs.getD t .junk=xs[t] :=(by simp[ac ht]);rw[e1]; exact zA7 h (ac ht)
 have:xs.getD t .junk = .junk :=(by simp[List.getElem?_eq_none (by omega:xs.length<=t)]);rw[this]; rfl
def start (xs:List AV):St:={ env:=fun t=>xs.getD t .junk,hp:=fun _=>none,nx:=0 }
def zBF (c:Cx) (T:Nat->Option TI) (rs:List ResultVar) (r:Ret) (V:St):Prop :=
 ∃ V',Le c V V'/\match r with
  | .val x=>zHX T V' rs=some x/\x.pers=true
  | .row e sz rows=>∃ k,zHX T V' rs=some (.orow k)/\V'.hp k=some (.row e sz rows)
def zDX (P:Program) (w0:World) (G0:Nat->Prop) (N:Nat):Cx:={ P:=P,w0:=w0,X:=fun _=>False,G0:=G0,N:=N }
variable {code:Code}{fn:Func}{f:Nat}{T:Nat->Option TI}{P:Program}
theorem yD6  (hT:TOk P T){s:zAq} (hcall:∀ args w,(callFunc f args).run P w = .ok (.enter f args) w)
  (hf:P.funcs[f]? = some fn) (hb:fn.body=some code) (hn:∀ xs r,s.spec xs r->xs.length<=fn.ntmps)
  (N:Nat) (hN:fn.ntmps=N)
  (h:∀ xs r w0 G0,s.spec xs r->AV.persAll xs=true->Tri (zDX P w0 G0 N) code (start xs) (fun e V=>match e with | .exit _=>False | _=>zBF (zDX P w0 G0 N) T fn.results.toList r V)) (hown:s.own=none:=by rfl) (hheap:s.heap=none:=by rfl):PSound P f s:=by
 subst hN;refine⟨hcall,fun G w xs vs r hlt hgl hp hv hpre=>?_,fun R hR=>(by rw[hown]at hR; cases hR),fun R hR=>(by rw[hheap]at hR; cases hR)⟩;let c:Cx:=zDX P w G fn.ntmps;have hlen:=hv.length;have hxn:=hn xs r hpre;have hc:Conc c G (fun _=>.tuple #[]) (start xs) { tmps:=vs.toArray++Array.replicate (fn.ntmps - vs.toArray.size) undef,defers:=[] } w:={
  defers:=rfl
  size:=by simp only[Array.size_append,size_toArray,Array.size_replicate]; show _=fn.ntmps; omega
  env:=zKs hv
  envlt:=zNv (AV.persAll_lt hp)
  hp:=fun k ob hk=>by simp[start]at hk
  hplt:=fun k ob hk=>by simp[start]at hk
  inj:=fun k k' ob ob' hk=>by simp[start]at hk
  lt:=hlt
  sub:=fun b hb=>hb
  new:=fun b hb=>.inl hb
  fr:=Fr.refl _ _
  stay:=⟨ar _,fun k hk=>by cases hk⟩
  glob:=hgl }
 refine calls_of_wp hf hb ?_;refine wpIn_wide.1 (wpIn_mono (h xs r w G hpre hp G _ _ w hc) ?_);rintro e a' w' ⟨e',G',O',V',rfl,hq,hc'⟩;have fin:zBF c T fn.results.toList r V'->a'.defers=[]/\∃ v,(results fn a'.tmps).run P w' = .ok v w'/\(∃ v₀ G'',Ending.returned v = .returned v₀/\Ext G G'' w w'/\RetAt G'' w w' r v₀):=fun hq=>by
  obtain⟨V2,hle,hr⟩:=hq;obtain⟨G2,O2,hc2⟩:=hle G' O' a' w' hc';have hext:Ext G G2 w w':=⟨hc2.fr.os,hc2.fr.tape,hc2.fr.output,hc2.fr.size,fun b hb=>hc2.fr.old b hb (fun h=>h),hc2.sub,fun b hb=>(hc2.new b hb).imp id (fun h=>h.elim False.elim id),hc2.lt⟩;refine⟨hc2.defers,?_⟩;unfold RetAt;split at hr
  ·rename_i x;obtain⟨v,h1,h2⟩:=zHm (c:=c) hT hc2 hr.1;refine⟨v,h1,v,G2,rfl,hext,?_⟩;exact⟨hr.2,AVal.pers hr.2 h2⟩
  rename_i e sz rows;obtain⟨k,hk1,hk2⟩:=hr;obtain⟨v,h1,h2⟩:=zHm (c:=c) hT hc2 hk1;refine⟨v,h1,v,G2,rfl,hext,?_⟩;simp only[AVal]at h2;obtain⟨rfl,_⟩:=h2;obtain⟨q1,q2,q3⟩:=hc2.hp k _ hk2;refine⟨q1,q2,q3.imp id ?_⟩;rintro⟨b,cap,cur,g1,g2,g3,g4,g5,g6,g7⟩;exact⟨b,cap,cur,g1,g2,g3,g4,g5,g6.elim False.elim id,g7⟩
 cases e' with
 | normal=>exact fin hq
 | ret=>exact fin hq
 | exit id=>exact hq.elim
variable {V:St}{x:AV}{rs:List ResultVar}{c:Cx}
theorem fin0  (h1:zHX T V rs=some x) (h2:x.pers=true):zBF c T rs (.val x) V :=
 ⟨V,Le.refl _ _,h1,h2⟩
theorem psq  (hT:TOk P T){s:zAq} (hcall:∀ args w,(callFunc f args).run P w = .ok (.enter f args) w) (hf:P.funcs[f]? = some fn) (hb:fn.body=some code) (h:∀ xs r w0 G0,s.spec xs r->AV.persAll xs=true->Tri (zDX P w0 G0 fn.ntmps) code (start xs) (fun e V=>match e with | .exit _=>False | _=>zBF (zDX P w0 G0 fn.ntmps) T fn.results.toList r V)) (hn:∀ xs r,s.spec xs r->xs.length<=fn.ntmps:=by intro xs r h; repeat (first | (obtain⟨rfl,_⟩:=h; exact aj rfl) | (obtain⟨_,h⟩:=h))) (hown:s.own=none:=by rfl) (hheap:s.heap=none:=by rfl):PSound P f s :=
 yD6 hT hcall hf hb hn _ rfl h hown hheap
def zP3 (xs:List AV) (os:List Ob):St:={ env:=fun t=>xs.getD t .junk,hp:=fun k=>os[k]?,nx:=os.length }
def zPD (hp:Nat->Option Ob) (n:Nat):Nat->List (Option Ob)->Prop
 | _,[]=>True
 | i,none::r=>zPD hp n (i+1) r
 | i,some ob::r=>hp i=some ob/\ob.lt n=true/\zPD hp n (i+1) r
def zLm {hp:Nat->Option Ob}{n:Nat}:∀ {os:List (Option Ob)}{i j:Nat}{ob:Ob},zPD hp n i os->os[j]? = some (some ob)->hp (i+j)=some ob/\ob.lt n=true
 | [],_,_,_,_,h=>by simp at h
 | none::r,i,j,ob,h,hj=>by
  cases j with
  | zero=>simp at hj
  | succ j=>rw[show i+(j+1)=i+1+j by omega]; exact zLm (os:=r) h (by simpa using hj)
 | some o::r,i,j,ob,h,hj=>by
  cases j with
  | zero=>simp at hj; subst hj; exact⟨h.1,h.2.1⟩
  | succ j=>rw[show i+(j+1)=i+1+j by omega]; exact zLm (os:=r) h.2.2 (by simpa using hj)
def zCf (c:Cx) (T:Nat->Option TI) (rs:List ResultVar) (x:AV) (os':List (Option Ob)) (V:St):Prop :=
 ∃ V',Le c V V'/\zHX T V' rs=some x/\x.lt os'.length=true/\zPD V'.hp os'.length 0 os'
theorem ObAt.cx {c1 c2:Cx}{v:Value}{o:Ob} (hm:∀ b,c1.mine b->c2.mine b) (h:ObAt c1 G w O v o):ObAt c2 G w O v o:=by
 cases o with
 | box xs=>obtain⟨b,e,cur,q1,q2,q3,q4,q5,q6⟩:=h;exact⟨b,e,cur,q1,q2,q3,hm b q4,q5,q6⟩
 | row e sz rows =>
  obtain⟨h1,h2,h3⟩:=h;refine⟨h1,h2,h3.imp id ?_⟩;rintro⟨b,cap,cur,k1,k2,k3,k4,k5,k6,k7⟩;exact⟨b,cap,cur,k1,k2,k3,k4,k5,hm b k6,k7⟩
 | arow e sz rows=>exact h.mv (fun b _=>hm b)
 | any τ xs=>obtain⟨b,o,vs,q1,q2,q3,q4,q5,q6⟩:=h;exact⟨b,o,vs,q1,q2,q3,hm b q4,q5,q6⟩
variable {R:List AV->List Ob->AV->List (Option Ob)->Prop}
theorem zYw  (hT:TOk P T) (hcall:∀ args w,(callFunc f args).run P w = .ok (.enter f args) w)
  (hf:P.funcs[f]? = some fn) (hb:fn.body=some code) (hn:∀ xs os x os',R xs os x os'->xs.length<=fn.ntmps/\os.length<=os'.length)
  (N:Nat) (hN:fn.ntmps=N)
  (h:∀ xs os x os' w0 G0 B0,R xs os x os'->AV.ltAll os.length xs=true->Tri (zET P w0 B0 os.length G0 N) code (zP3 xs os) (fun e V=>match e with | .exit _=>False | _=>zCf (zET P w0 B0 os.length G0 N) T fn.results.toList x os' V)):PSound P f (zD8 R):=by
 subst hN;refine⟨hcall,fun G w xs vs r _ _ _ _ hpre=>hpre.elim,fun R' hR'=>?_,fun R hR=>(by cases hR)⟩;obtain rfl:R=R' :=(by simpa [zD8] using hR');intro G w O xs vs os x os' hlt hgl hv hxl hobs hR;let c:Cx:=zET P w O os.length G fn.ntmps;have hlen:=hv.length;obtain⟨hxn,hol⟩:=hn xs os x os' hR;have hget:∀ (k:Nat) ob,(zP3 xs os).hp k=some ob->(os.map some)[k]? = some (some ob):=fun k ob hk=>by
  simp only[zP3]at hk;rw[ao,hk]; rfl
 have hc:Conc c G O (zP3 xs os) { tmps:=vs.toArray++Array.replicate (fn.ntmps - vs.toArray.size) undef,defers:=[] } w:={
  defers:=rfl
  size:=by simp only[Array.size_append,size_toArray,Array.size_replicate]; show _=fn.ntmps; omega
  env:=zKs hv
  envlt:=zNv hxl
  hp:=fun k ob hk=>ObAt.cx (fun _ h=>h) (hobs.1 k ob (hget k ob hk)).1
  hplt:=fun k ob hk=>⟨(aa.1 hk).1,by have:=(hobs.1 k ob (hget k ob hk)).2; rwa [az]at this⟩
  inj:=fun k k' ob ob' hk hk' hne b=>hobs.2 k k' ob ob' (hget k ob hk) (hget k' ob' hk') hne b
  lt:=hlt
  sub:=fun b hb=>hb
  new:=fun b hb=>.inl hb
  fr:=Fr.refl _ _
  stay:=⟨ar _,fun _ _=>rfl⟩
  glob:=hgl }
 refine calls_of_wp hf hb ?_;refine wpIn_wide.1 (wpIn_mono (h xs os x os' w G O hR hxl G O _ w hc) ?_);rintro e a' w' ⟨e',G',O',V',rfl,hq,hc'⟩;have fin:zCf c T fn.results.toList x os' V'->a'.defers=[]/\∃ v,(results fn a'.tmps).run P w' = .ok v w'/\(∃ v₀ G'' O'',Ending.returned v = .returned v₀/\Fr (zET P w O os.length G 0).X w w'/\(∀ b,G b->G'' b)/\(∀ b,G'' b->G b∨(zET P w O os.length G 0).mine b)/\(∀ b,G'' b->b<w'.heap.size) /\
   AVal G'' w' O'' x v₀/\x.lt os'.length=true/\os.length<=os'.length/\zV7 (zET P w O os.length G 0) G'' w' O'' os'/\∀ (i:Nat) ob,i<os.length->os'[i]? = some (some ob)->O'' i=O i):=fun hq=>by
  obtain⟨V2,hle,hr,hxl,hh⟩:=hq;obtain⟨G2,O2,hc2⟩:=hle G' O' a' w' hc';refine⟨hc2.defers,?_⟩;obtain⟨v,h1,h2⟩:=zHm (c:=c) hT hc2 hr;have hg:∀ (i:Nat) ob,os'[i]? = some (some ob)->V2.hp i=some ob/\ob.lt os'.length=true:=fun i ob hi=>by simpa using zLm hh hi
  exact⟨v,h1,v,G2,O2,rfl,hc2.fr,hc2.sub,hc2.new,hc2.lt,h2,hxl,hol,
   ⟨fun i ob hi=>⟨ObAt.cx (fun _ h=>h) (hc2.hp i ob (hg i ob hi).1),(hg i ob hi).2⟩,fun i j ob ob' hi hj hne b=>hc2.inj i j ob ob' (hg i ob hi).1 (hg j ob' hj).1 hne b⟩,
   fun i ob hi ho=>hc2.stay.2 i hi⟩
 cases e' with
 | normal=>exact fin hq
 | exit=>exact hq.elim
 | ret=>exact fin hq
theorem osq  (hT:TOk P T) (hcall:∀ args w,(callFunc f args).run P w = .ok (.enter f args) w) (hf:P.funcs[f]? = some fn) (hb:fn.body=some code) (h:∀ xs os x os' w0 G0 B0,R xs os x os'->AV.ltAll os.length xs=true->Tri (zET P w0 B0 os.length G0 fn.ntmps) code (zP3 xs os) (fun e V=>match e with | .exit _=>False | _=>zCf (zET P w0 B0 os.length G0 fn.ntmps) T fn.results.toList x os' V)) (hn:∀ xs os x os',R xs os x os'->xs.length<=fn.ntmps/\os.length<=os'.length:=by intro xs os x os2 h; repeat (first | (obtain⟨rfl,rfl,_,rfl⟩:=h; exact⟨aj rfl,aj rfl⟩) | (obtain⟨_,h⟩:=h))):PSound P f (zD8 R) :=
 zYw hT hcall hf hb hn _ rfl h
theorem yAR {a:Act} (hc:Conc c G O V a w){rv:ResultVar} (h:zTu T V rv=some x):x.lt V.nx=true:=by
 unfold zTu at h;split at h
 ·cases h; exact AV.deep_lt (hc.envlt _)
 split at h
 ·split at h
  ·rename_i cells i hk hi;have hl:AV.ltAll V.nx cells=true :=(by simpa [Ob.lt] using (hc.hplt _ _ hk).2);split at h
   ·split at h
    ·cases h;refine AV.deep_lt ?_;simp only[AV.lt];exact zCB fun q y hq=>zA7 hl (by
      rw[aU]at hq;split at hq
      ·exact hq
      cases hq)
    cases h
   split at h
   ·cases h;simp only[AV.ltAll,af]at hl;exact AV.nrm_lt hl.1
   cases h
  cases h
 ·exact zQO h
 cases h
theorem zOi {c:Cx}{T:Nat->Option TI}{V:St}{G:Nat->Prop}{O:Nat->Value}{a:Act}{w:World} (hc:Conc c G O V a w):∀ {rs:List ResultVar}{xs:List AV},zIL T V rs=some xs->AV.ltAll V.nx xs=true
 | [],xs,h=>by simp only[zIL,aC]at h; subst h; rfl
 | r::rs,xs,h=>by
  simp only[zIL]at h;split at h
  ·rename_i x ys h1 h2;cases h;simp only[AV.ltAll,af];exact⟨yAR hc h1,zOi hc h2⟩
  ·cases h
theorem yAS {a:Act} (hc:Conc c G O V a w) (h:zHX T V rs=some x):x.lt V.nx=true:=by
 unfold zHX at h;split at h
 ·rename_i y hy;cases h;have:=zOi hc hy;simp only[AV.ltAll,Bool.and_true]at this;exact this
 ·rename_i xs _ hy;cases h;simp only[AV.lt];exact zOi hc hy
 cases h
def zJk (c:Cx) (T:Nat->Option TI) (rs:List ResultVar) (Φ:AV->(Nat->Option Ob)->Nat->Prop) (V:St):Prop :=
 ∃ V',Le c V V'/\∃ x,zHX T V' rs=some x/\Φ x V'.hp V'.nx
theorem zNP  (hT:TOk P T){R:List AV->(Nat->Option Ob)->Nat->(AV->(Nat->Option Ob)->Nat->Prop)->Prop} (hcall:∀ args w,(callFunc f args).run P w = .ok (.enter f args) w)
  (hf:P.funcs[f]? = some fn) (hb:fn.body=some code) (hn:∀ xs hp n Φ,R xs hp n Φ->xs.length<=fn.ntmps)
  (N:Nat) (hN:fn.ntmps=N)
  (h:∀ xs hp n Φ w0 G0 B0,R xs hp n Φ->AV.ltAll n xs=true->(∀ k ob,hp k=some ob->k<n/\ob.lt n=true)->Tri (zFp P w0 B0 hp n G0 N) code ⟨fun t=>xs.getD t .junk,hp,n⟩ (fun e V=>match e with | .exit _=>False | _=>zJk (zFp P w0 B0 hp n G0 N) T fn.results.toList Φ V)):PSound P f (zSO R):=by
 subst hN;refine⟨hcall,fun G w xs vs r _ _ _ _ hpre=>hpre.elim,fun R hR=>(by cases hR),fun R' hR'=>?_⟩;obtain rfl:R=R' :=(by simpa [zSO] using hR');intro G w O xs vs hp n Φ hlt hgl hv hxl hobs hR;let c:Cx:=zFp P w O hp n G fn.ntmps;have hlen:=hv.length;have hxn:=hn xs hp n Φ hR;have hc:Conc c G O ⟨fun t=>xs.getD t .junk,hp,n⟩ { tmps:=vs.toArray++Array.replicate (fn.ntmps - vs.toArray.size) undef,defers:=[] } w:={
  defers:=rfl
  size:=by simp only[Array.size_append,size_toArray,Array.size_replicate]; show _=fn.ntmps; omega
  env:=zKs hv
  envlt:=zNv hxl
  hp:=fun k ob hk=>ObAt.cx (fun _ h=>h) (hobs.obs k ob hk)
  hplt:=hobs.lts
  inj:=hobs.inj
  lt:=hlt
  sub:=fun b hb=>hb
  new:=fun b hb=>.inl hb
  fr:=Fr.refl _ _
  stay:=⟨ar _,fun _ _=>rfl⟩
  glob:=hgl }
 refine calls_of_wp hf hb ?_;refine wpIn_wide.1 (wpIn_mono (h xs hp n Φ w G O hR hxl hobs.lts G O _ w hc) ?_);rintro e a' w' ⟨e',G',O',V',rfl,hq,hc'⟩;have fin:zJk c T fn.results.toList Φ V'->a'.defers=[]/\∃ v,(results fn a'.tmps).run P w' = .ok v w'/\(∃ v₀ G'' O'' x hp' n',Ending.returned v = .returned v₀/\Φ x hp' n'/\n<=n'/\Fr (zFp P w O hp n G 0).X w w'/\(∀ b,G b->G'' b)/\(∀ b,G'' b->G b∨(zFp P w O hp n G 0).mine b)/\(∀ b,G'' b->b<w'.heap.size) /\
   AVal G'' w' O'' x v₀/\x.lt n'=true/\HpAt (zFp P w O hp n G 0) G'' w' O'' hp' n'/\∀ k,k<n->O'' k=O k):=fun hq=>by
  obtain⟨V2,hle,x,hr,hΦ⟩:=hq;obtain⟨G2,O2,hc2⟩:=hle G' O' a' w' hc';refine⟨hc2.defers,?_⟩;obtain⟨v,h1,h2⟩:=zHm (c:=c) hT hc2 hr;exact⟨v,h1,v,G2,O2,x,V2.hp,V2.nx,rfl,hΦ,hc2.stay.1,hc2.fr,hc2.sub,hc2.new,hc2.lt,h2,yAS hc2 hr,
   ⟨fun k ob hk=>ObAt.cx (fun _ h=>h) (hc2.hp k ob hk),hc2.hplt,hc2.inj⟩,hc2.stay.2⟩
 cases e' with
 | normal=>exact fin hq
 | exit=>exact hq.elim
 | ret=>exact fin hq
attribute [irreducible] Tri Le zBF zCf zJk
section
variable {T:Nat->Option TI} {Γ:Nat->Option zAq} {env env':Nat->AV}
theorem zJR {place:Nat->Option (Nat×Nat)}:∀ {parts:List (Nat×Operand)}{cells:List AV},(∀ p∈parts,∀ ty,opd T env ty p.2=opd T env' ty p.2)->zME T env place cells parts=zME T env' place cells parts
 | [],_,_=>rfl
 | (j,x)::r,cells,h=>by
  have h1:=h (j,x) (by simp);simp only[zME,zCt];split
  ·rfl
  ·split
   ·rfl
   ·simp only[h1];split
    ·exact zJR fun p hp=>h p (by simp[hp])
    ·rfl
theorem zII {e:Nat}:∀ {parts:List (Nat×Operand)}{i:Nat},(∀ p∈parts,∀ ty,opd T env ty p.2=opd T env' ty p.2)->zKY T env e i parts=zKY T env' e i parts
 | [],_,_=>rfl
 | (j,x)::r,i,h=>by
  have h1:=h (j,x) (by simp);simp only[zKY,h1,zII (parts:=r) fun p hp=>h p (by simp[hp])]
variable {ty:Nat}
theorem zKO {xs:List Operand} (h:∀ x∈xs,∀ ty,opd T env ty x=opd T env' ty x):xs.map (opd T env ty)=xs.map (opd T env' ty) :=
 map_congr_left fun x hx=>h x hx ty
theorem zLx:∀ {xs:List Operand}{ts:List Nat},(∀ x∈xs,∀ ty,opd T env ty x=opd T env' ty x)->opds T env xs ts=opds T env' xs ts
 | [],_,_=>rfl
 | x::xs,ts,h=>by
  simp only[opds,h x (by simp),zLx (xs:=xs) fun y hy=>h y (by simp[hy])]
theorem zOa:∀ {xs:List Operand}{ts:List Nat},(∀ x∈xs,∀ ty,opd T env ty x=opd T env' ty x)->zLw T env xs ts=zLw T env' xs ts
 | [],_,_=>rfl
 | x::xs,ts,h=>by
  simp only[zLw];rw[h x ak,zOa fun y hy=>h y (aG _ hy)]
theorem zPT {x:Option Operand} (h:∀ y,x=some y->∀ ty,opd T env ty y=opd T env' ty y):x.map (opd T env ty)=x.map (opd T env' ty):=by
 cases x with
 | none=>rfl
 | some y=>simp[h y rfl]
variable {o:Oper}{own:Bool}
theorem zGr  (h:∀ x∈o.op.operands,∀ ty,opd T env ty x=opd T env' ty x):zBH T own o env=zBH T own o env':=by
 unfold zBH;cases hop:o.op <;> rw[hop]at h <;> simp only[Op.operands]at h <;> (try dsimp only)
 case move x=>simp only[h x (by simp)]
 case assign x=>simp only[h x (by simp)]
 case pick c x y=>simp only[h c (by simp),h x (by simp),h y (by simp)]
 case box t x=>simp only[h x (by simp)]
 case build t parts =>
  unfold zTn;have hp:∀ p∈parts.toList,∀ ty,opd T env ty p.2=opd T env' ty p.2:=fun p hp=>h p.2 (by simp; exact⟨p.1,by simpa using hp⟩)
  split
  ·rfl
  split
  ·rw[zJR hp]
  ·split
   ·rw[zJR hp]
   rfl
  rfl
 case buildSlice t n parts =>
  have hp:∀ p∈parts.toList,∀ ty,opd T env ty p.2=opd T env' ty p.2:=fun p hp=>h p.2 (by simp; exact⟨p.1,by simpa using hp⟩)
  split
  ·split
   ·split
    ·rw[zII hp]
    rfl
   rfl
  rfl
 case load t x=>simp only[h x (by simp)]
 case nilCheck x=>simp only[h x (by simp)]
 case binOp op t x y u=>simp only[h x (by simp),h y (by simp)]
 case unOp op t x=>simp only[h x (by simp)]
 case convert src dst x=>simp only[h x (by simp)]
 case makeFunc fn first caps =>
  cases fn <;> dsimp only
  split
  ·rfl
  ·rename_i cs e1 e2 e3;have:∀ x∈caps.toList,∀ ty,opd T env ty x=opd T env' ty x:=fun x hx=>h x (by simp; exact .inr (by simpa using hx))
   rw[zKO this]
  ·have:∀ x∈first.toList,∀ ty,opd T env ty x=opd T env' ty x:=fun x hx=>h x (by simp; exact .inl (by simpa using hx))
   rw[zKO this]
  rfl
 case slice t x lo hi mx =>
  cases mx <;> dsimp only
  rw[h x (by simp),zPT (fun y e=>h y (by subst e; simp)),zPT (x:=hi) (fun y e=>h y (by subst e; simp))]
 case fieldAddr t x f=>simp only[h x (by simp)]
 case field t x f=>simp only[h x (by simp)]
 case indexAddr t x i=>simp only[h x (by simp),h i (by simp)]
 case index t x i=>simp only[h x (by simp),h i (by simp)]
 case extract x i=>simp only[h x (by simp)]
 case call c =>
  obtain⟨callee,args,ts⟩:=c;have ha:∀ x∈args.toList,∀ ty,opd T env ty x=opd T env' ty x:=fun x hx=>h x (by simp[Call.operands]; exact .inr (by simpa using hx))
  cases callee with
  | builtin b =>
   cases b <;> dsimp only
   case len =>
    split
    ·rename_i x t e1 e2;rw[ha x (by rw[e1]; simp)]
    rfl
   case cap =>
    split
    ·rename_i x t e1 e2;rw[ha x (by rw[e1]; simp)]
    rfl
   case min=>rw[zKO ha]
   case max=>rw[zKO ha]
   case copy =>
    split
    ·rename_i x y t tx e1 e2;rw[ha x (by rw[e1]; simp),ha y (by rw[e1]; simp)]
    rfl
  | value f=>rfl
  | invoke r m=>rfl
theorem zCj  (h:∀ x∈o.op.operands,∀ ty,opd T env ty x=opd T env' ty x):callOf T Γ o env=callOf T Γ o env':=by
 unfold callOf;split
 ·rename_i f args ts ho;rw[ho]at h;simp only[Op.operands,Call.operands]at h;have ha:∀ x∈args.toList,∀ ty,opd T env ty x=opd T env' ty x:=fun x hx=>h x (by simp; exact .inr (by simpa using hx))
  unfold zSk;rw[h f (by simp),zLx ha,zOa ha]
 rfl
theorem zC6  (h:∀ x∈o.op.operands,∀ ty,opd T env ty x=opd T env' ty x):zA1 T o env=zA1 T o env':=by
 unfold zA1;split
 ·rename_i f args ts ho;rw[ho]at h;simp only[Op.operands,Call.operands]at h;have ha:∀ x∈args.toList,∀ ty,opd T env ty x=opd T env' ty x:=fun x hx=>h x (by simp; exact .inr (by simpa using hx))
  rw[h f (by simp),zLx ha]
 rfl
def zYQ (env:Nat->AV) (r:Option Prop×AV×St):Option Prop×AV×St:=(r.1,r.2.1,{ r.2.2 with env:=env })
variable {V:St}
theorem zUq  (h:∀ x∈o.op.operands,∀ ty,opd T V.env ty x=opd T env' ty x) :
  zCO T own o { V with env:=env' }=(zCO T own o V).map (zYQ env'):=by
 obtain⟨env,hp,nx⟩:=V;dsimp only at h;unfold zCO;simp only[zCt];cases hop:o.op <;> rw[hop]at h <;> simp only[Op.operands]at h <;> (try dsimp only)
 case move x =>
  split
  ·split <;> rfl
  rfl
 case assign x =>
  split
  ·split <;> rfl
  rfl
 case box t x =>
  rw[← h x (by simp)];split <;> rfl
 case alloc t=>split <;> rfl
 case buildSlice t n parts =>
  have hp:∀ p∈parts.toList,∀ ty,opd T env ty p.2=opd T env' ty p.2:=fun p hp=>h p.2 (by simp; exact⟨p.1,by simpa using hp⟩)
  split
  ·rw[← zII hp];split
   ·split <;> rfl
   rfl
  rfl
 case makeSlice t l c =>
  rw[← h l (by simp),← h c (by simp)];split
  ·split <;> rfl
  rfl
 case load t x =>
  rw[← h x (by simp)];split
  ·split
   ·split
    ·split <;> rfl
    split <;> rfl
   rfl
  rfl
 case store t x y =>
  rw[← h x (by simp),← h y (by simp)];split
  ·split
   ·split <;> rfl
   rfl
  ·split
   ·split <;> rfl
   rfl
  rfl
 case indexAddr t x i =>
  rw[← h x (by simp),← h i (by simp)];split
  ·split
   ·split <;> rfl
   rfl
  rfl
 case convert src dst x =>
  rw[← h x (by simp)];split
  ·split
   ·split <;> rfl
   rfl
  ·split
   ·split <;> rfl
   rfl
  rfl
 case slice t x lo hi mx =>
  cases lo <;> cases hi <;> cases mx <;> try rfl
  rename_i hi;dsimp only;rw[← h x (by simp),← h hi (by simp)];split
  ·split
   ·split <;> rfl
   rfl
  rfl
 case call c =>
  obtain⟨callee,args,ts⟩:=c;have ha:∀ x∈args.toList,∀ ty,opd T env ty x=opd T env' ty x:=fun x hx=>h x (by simp[Call.operands]; exact .inr (by simpa using hx))
  cases callee with
  | builtin b =>
   cases b <;> try rfl
   case len =>
    dsimp only;split
    ·rename_i x t e1 e2;rw[← ha x (by rw[e1]; simp)];split
     ·split <;> rfl
     rfl
    rfl
   case append =>
    dsimp only;split
    ·rename_i x y t tx e1 e2;rw[← ha x (by rw[e1]; simp),← ha y (by rw[e1]; simp)];unfold zIn;have e3:∀ z,zJt ⟨env',hp,nx⟩ z=zJt ⟨env,hp,nx⟩ z:=fun z=>by cases z <;> rfl
     have e4:∀ z,rowsOf T ⟨env',hp,nx⟩ tx z=rowsOf T ⟨env,hp,nx⟩ tx z:=fun z=>by unfold rowsOf; rfl
     rw[e3,e4];split
     ·split
      ·split
       ·rfl
       split <;> rfl
      rfl
     rfl
    rfl
  | value f=>rfl
  | invoke r m=>rfl
 all_goals rfl
theorem zS0  (h:∀ x∈o.op.operands,∀ ty,opd T V.env ty x=opd T env' ty x) :
  zCA T o { V with env:=env' }=(zCA T o V).map (zYQ env'):=by
 obtain⟨env,hp,nx⟩:=V;dsimp only at h;unfold zCA;cases hop:o.op <;> rw[hop]at h <;> simp only[Op.operands]at h <;> (try dsimp only)
 case buildSlice t n parts =>
  have hp:∀ p∈parts.toList,∀ ty,opd T env ty p.2=opd T env' ty p.2:=fun p hp=>h p.2 (by simp; exact⟨p.1,by simpa using hp⟩)
  have hc:∀ (e:Nat) (ps:List (Nat×Operand)) (i:Nat),(∀ p∈ps,∀ ty,opd T env ty p.2=opd T env' ty p.2)->zIH T env e i ps=zIH T env' e i ps:=by
   intro e ps;induction ps with
   | nil=>intro i _; rfl
   | cons p ps ih=>
   intro i hh;obtain⟨j,x⟩:=p;simp only[zIH];rw[hh (j,x) (by simp),ih (i+1) fun p hp=>hh p (by simp[hp])]
  split
  ·rw[← hc _ _ _ hp];split
   ·split <;> rfl
   rfl
  rfl
 case store t x y =>
  rw[← h x (by simp),← h y (by simp)];split
  ·split
   ·split <;> rfl
   rfl
  rfl
 case indexAddr t x i =>
  rw[← h x (by simp),← h i (by simp)];split
  ·split
   ·split <;> rfl
   rfl
  rfl
 case slice t x lo hi mx =>
  cases lo <;> cases hi <;> cases mx <;> try rfl
  rename_i hi;dsimp only;rw[← h x (by simp),← h hi (by simp)];split
  ·split
   ·split <;> rfl
   rfl
  rfl
 case call c =>
  obtain⟨callee,args,ts⟩:=c;have ha:∀ x∈args.toList,∀ ty,opd T env ty x=opd T env' ty x:=fun x hx=>h x (by simp[Call.operands]; exact .inr (by simpa using hx))
  cases callee with
  | builtin b =>
   cases b <;> try rfl
   case len =>
    dsimp only;split
    ·rename_i x t e1 e2;rw[← ha x (by rw[e1]; simp)];split
     ·split <;> rfl
     rfl
    rfl
   case append =>
    dsimp only;split
    ·rename_i x y t tx e1 e2;rw[← ha x (by rw[e1]; simp),← ha y (by rw[e1]; simp)];have e3:∀ z,zKu ⟨env',hp,nx⟩ z=zKu ⟨env,hp,nx⟩ z:=fun z=>by cases z <;> rfl
     have e4:∀ z,zK4 T ⟨env',hp,nx⟩ tx z=zK4 T ⟨env,hp,nx⟩ tx z:=fun z=>by unfold zK4; rfl
     rw[e3,e4];split
     ·split <;> rfl
     rfl
    rfl
   case copy =>
    dsimp only;split
    ·rename_i x y t tx e1 e2;rw[← ha x (by rw[e1]; simp),← ha y (by rw[e1]; simp)];have e3:∀ z,zKu ⟨env',hp,nx⟩ z=zKu ⟨env,hp,nx⟩ z:=fun z=>by cases z <;> rfl
     have e4:∀ z,zK4 T ⟨env',hp,nx⟩ tx z=zK4 T ⟨env,hp,nx⟩ tx z:=fun z=>by unfold zK4; rfl
     rw[e3,e4];split
     ·split <;> rfl
     rfl
    rfl
  | value f=>rfl
  | invoke r m=>rfl
 all_goals rfl
theorem zUp  (h:∀ x∈o.op.operands,∀ ty,opd T V.env ty x=opd T env' ty x) :
  zES T o { V with env:=env' }=(zES T o V).map (zYQ env'):=by
 obtain⟨env,hp,nx⟩:=V;dsimp only at h;unfold zES;cases hop:o.op <;> rw[hop]at h <;> simp only[Op.operands]at h <;> (try dsimp only)
 case lookup t m k ok =>
  rw[← h m (by simp),← h k (by simp)];split
  ·split
   ·split
    ·split <;> rfl
    split <;> rfl
   rfl
  rfl
 all_goals rfl
variable {x:AV}{φ:Option Prop}{V':St}
theorem zPH  (h:zES T o V=some (φ,x,V')):V'=V:=(zNS h).2.1
theorem zIr  (h:∀ x∈o.op.operands,∀ ty,opd T V.env ty x=opd T env' ty x) :
  zBx T own o { V with env:=env' }=(zBx T own o V).map (zYQ env'):=by
 unfold zBx;rw[zUp h,zUq h,zS0 h];cases zES T o V <;> cases zCO T own o V <;> rfl
theorem zWL  (h:zBx T own o V=some (φ,x,V')):V'.env=V.env:=by
 have:=zIr (T:=T) (own:=own) (o:=o) (V:=V) (env':=V.env) (fun _ _ _=>rfl);have e:({ V with env:=V.env }:St)=V:=rfl;rw[e,h]at this;simp only[bu,aC,zYQ,Prod.mk.injEq]at this;rw[this.2.2]
def noHeap (Γ:Nat->Option zAq) (f:Nat):Option zAq :=
 match Γ f with
 | some s=>match s.heap with | none=>some s | some _=>none
 | none=>none
def zHl {Γ:Nat->Option zAq}{f:Nat}{s:zAq} (h:noHeap Γ f=some s):Γ f=some s/\s.heap=none:=by
 unfold noHeap at h;split at h
 ·split at h
  ·cases h; exact⟨by assumption,by assumption⟩
  cases h
 cases h
def slO (own:Bool) (o:Oper):Bool :=
 match o.op with
 | .slice ..=>own
 | _=>false
def runs (T:Nat->Option TI) (Γ:Nat->Option zAq) (own loud:Bool) (o:Oper) (V V1:St):Prop :=
 match callOf T Γ o V.env with
 | some (_,s,xs)=>∃ r x V',s.spec xs r/\zBj (own&&loud) V r=some (x,V')/\V1=V'.put o.dst x
 | none=>match loud with
  | true=>match step1 T own o V with
   | some (φ,x,V')=>φ.getD True/\V1=V'.put o.dst x
   | none=>zGf T (noHeap Γ) own o V fun x V'=>V1=V'.put o.dst x
  | false=>∃ φ x,zBH T (slO own o) o V.env=some (φ,x)/\φ.getD True/\V1=V.put o.dst x
def gate (all:List Oper) (o:Oper) (env:Nat->AV):Option Bool :=
 match o.guard with
 | none=>some true
 | some (j,want)=>match (all[j]?).bind (fun o=>o.dst) with
  | some g=>match env g with
   | .s (.bool b)=>some (b == want)
   | .tup []=>some false
   | _=>none
  | none=>none
def outc (T:Nat->Option TI) (Γ:Nat->Option zAq) (all:List Oper) (own loud:Bool) (o:Oper) (V V1:St):Prop :=
 match gate all o V.env with
 | some true=>runs T Γ own loud o V V1
 | some false=>V1=V.put o.dst (.tup [])
 | none=>False
variable {d:Option Nat}
def put_comm {e:Option Nat}{y:AV} (h:∀ t,d=some t->e ≠ some t):(V.put d x).put e y=(V.put e y).put d x:=by
 cases d <;> cases e <;> try rfl
 rename_i d e;simp only[St.put,St.mk.injEq,and_self,and_true];funext t;cases h1:Nat.beq t e with
 | false=>simp
 | true=>
 cases h2:Nat.beq t d with
 | false=>simp
 | true=>have:=ab h1;have:=ab h2;exact absurd (by congr 1; omega) (h d rfl)
def yCj {t:Nat} (h:∀ s,d=some s->s ≠ t):(V.put d x).env t=V.env t:=by
 cases d with
 | none=>rfl
 | some d=>
 simp only[St.put];cases e:Nat.beq t d with
 | false=>rfl
 | true=>exact absurd (ab e).symm (h d rfl)
def Alike (all:List Oper) (o:Oper) (env env':Nat->AV):Prop:=∀ t∈o.looksAt all.toArray,env t=env' t
variable {all:List Oper}
theorem Alike.opds  (h:Alike all o env env'):∀ x∈o.op.operands,∀ ty,opd T env ty x=opd T env' ty x:=fun x hx ty=>by
 cases x with
 | tmp t=>refine h t ?_;unfold Oper.looksAt;refine aN.2 (.inl (List.mem_filterMap.2 ⟨.tmp t,by simpa using hx,rfl⟩))
 | _=>rfl
theorem Alike.gate  (h:Alike all o env env'):gate all o env=gate all o env':=by
 unfold YtbfnjnljboncgaaGreat.gate;cases hg:o.guard with
 | none=>rfl
 | some p=>
 obtain⟨j,want⟩:=p;dsimp only;cases hj:(all[j]?).bind (fun o=>o.dst) with
 | none=>rfl
 | some g=>
 dsimp only;have:env g=env' g:=h g (by
  unfold Oper.looksAt;refine aN.2 (.inr ?_)
  rw[hg]
  dsimp only;have:(all.toArray[j]?).bind (fun o=>o.dst)=some g :=(by simpa using hj);rw[this]; simp)
 rw[this]
def Alike.put  (h:∀ t,d=some t->t ∉ o.looksAt all.toArray):Alike all o (V.put d x).env V.env:=fun t ht =>
 yCj fun s hs e=>h s hs (e ▸ ht)
variable {r:Ret}
def zNr  (h:zBj false V r=some (x,V')):V'=V/\∀ V2,zBj false V2 r=some (x,V2):=by
 unfold zBj at h ⊢;split at h
 ·split at h
  ·rename_i e; cases h; exact⟨rfl,fun V2=>by simp[e]⟩
  cases h
 cases h; exact⟨rfl,fun V2=>rfl⟩
theorem zKp  (h:zBj own V r=some (x,V')):V'.env=V.env/\∀ env',zBj own { V with env:=env' } r=some (x,{ V' with env:=env' }):=by
 unfold zBj at h ⊢;split at h
 ·split at h
  ·rename_i e; cases h; exact⟨rfl,fun V2=>by simp[e]⟩
  cases h
 split at h <;> cases h <;> exact⟨rfl,fun V2=>rfl⟩
theorem zL6  (h:zBj own V r=some (x,V')):V.nx<=V'.nx:=by
 unfold zBj at h;split at h
 ·split at h
  ·cases h; exact ar _
  cases h
 split at h
 ·cases h; exact bw _
 cases h; exact ar _
theorem zYl  (h:zBx T own o V=some (φ,x,V')):V.nx<=V'.nx:=by
 have a1:∀ (ob:Ob),V.nx<=(zA6 V ob).nx:=fun _=>bw _
 have a2:∀ (k:Nat) (ob:Ob),V.nx<=(zA6 (zHJ V k) ob).nx:=fun _ _=>bw _
 have a3:∀ (k:Nat) (ob:Ob),V.nx<=(zDW V k ob).nx:=fun _ _=>ar _
 have a4:∀ (k:Nat),V.nx<=(zHJ V k).nx:=fun _=>ar _
 have hA:∀ {φ x V'},zCA T o V=some (φ,x,V')->V.nx<=V'.nx:=fun {φ x V'} h=>by
  unfold zCA at h;repeat' split at h
  all_goals first | (cases h; first | exact ar _ | exact a1 _ | exact a2 _ _ | exact a3 _ _ | exact a4 _) | cases h
 unfold zBx at h;split at h
 ·rename_i hl;cases h;rw[zPH hl]; exact ar _
 split at h
 ·rename_i r hl;cases h;unfold zCO at hl;simp only[zCt]at hl;repeat' split at hl
  all_goals first | (cases hl; first | exact ar _ | exact a1 _ | exact a2 _ _ | exact a3 _ _ | exact a4 _) | cases hl | skip
  unfold zIn at hl;repeat' split at hl
  all_goals first | (cases hl; first | exact ar _ | exact a1 _ | exact a2 _ _ | exact a3 _ _ | exact a4 _) | cases hl
 exact hA h
variable {K:AV->St->Prop}
theorem zNC  (h:zGf T (noHeap Γ) own o V K):∃ x hp nx,K x ⟨V.env,hp,nx⟩/\V.nx<=nx /\
  ∀ env',(∀ x∈o.op.operands,∀ ty,opd T V.env ty x=opd T env' ty x)->∀ K':AV->St->Prop,K' x ⟨env',hp,nx⟩->zGf T (noHeap Γ) own o { V with env:=env' } K':=by
 unfold zGf at h;split at h
 ·rename_i hraw;unfold zGZ at h;split at h
  ·rename_i t y ho;split at h
   ·rename_i k sz i off e;split at h
    ·rename_i e' sz' rows hh;split at h
     ·rename_i hsz;obtain⟨hi,row,hrow,h⟩:=h;split at h
      ·rename_i x hl;refine⟨x,V.hp,V.nx,h,ar _,fun env' ha K' hk=>?_⟩;unfold zGf;dsimp only;rw[← zC6 ha,hraw];dsimp only;unfold zGZ;rw[ho];dsimp only;rw[← ha y (by rw[ho]; simp[Op.operands]),e];dsimp only;rw[hh];dsimp only;rw[hsz];dsimp only;refine⟨hi,row,hrow,?_⟩;rw[hl];exact hk
      exact h.elim
     exact h.elim
    ·rename_i e' sz' rows hh;split at h
     ·rename_i hsz;obtain⟨hi,row,hrow,h⟩:=h;split at h
      ·rename_i x hl;refine⟨x,V.hp,V.nx,h,ar _,fun env' ha K' hk=>?_⟩;unfold zGf;dsimp only;rw[← zC6 ha,hraw];dsimp only;unfold zGZ;rw[ho];dsimp only;rw[← ha y (by rw[ho]; simp[Op.operands]),e];dsimp only;rw[hh];dsimp only;rw[hsz];dsimp only;refine⟨hi,row,hrow,?_⟩;rw[hl];exact hk
      exact h.elim
     exact h.elim
    exact h.elim
   exact h.elim
  exact h.elim
 rename_i g xs hraw;split at h
 ·exact h.elim
 rename_i s hs;have hnh:=(zHl hs).2;rw[hnh]at h;dsimp only at h;split at h
 ·rename_i hown;split at h
  ·exact h.elim
  rename_i hp;obtain⟨r,hr,h⟩:=h;split at h
  ·exact h.elim
  rename_i x V' hx;obtain⟨e1,e2⟩:=zKp hx;have e3:V'.env=V.env :=(by rw[e1]; cases r.flat <;> rfl);refine⟨x,V'.hp,V'.nx,by rw[← e3]; exact h,(by have:=zL6 hx; revert this; cases r.flat <;> exact id),fun env' ha K' hk=>?_⟩;unfold zGf;dsimp only;rw[← zC6 ha,hraw];dsimp only;rw[hs];dsimp only;rw[hnh];dsimp only;rw[hown];dsimp only;rw[hp];refine⟨r,hr,?_⟩;have e4:=e2 env';cases hf:r.flat with
  | true=>rw[hf]at e4; dsimp only at e4 ⊢; rw[e4]; exact hk
  | false=>rw[hf]at e4;have e5:({ zOk (AV.keysAll xs) V with env:=env' }:St)=zOk (AV.keysAll xs) { V with env:=env' }:=rfl;dsimp only at e4 ⊢;rw[e5]at e4;rw[e4]; exact hk
 rename_i R hown;have hnil:∀ env',zFB T s.nil o xs { V with env:=env' }=((zFB T s.nil o xs V).1,{ (zFB T s.nil o xs V).2 with env:=env' }):=fun env'=>by
  unfold zFB;split
  ·rfl
  split
  ·split
   ·split <;> rfl
   rfl
  rfl
 have hnenv:(zFB T s.nil o xs V).2.env=V.env:=by
  unfold zFB;split
  ·rfl
  split
  ·split
   ·split <;> rfl
   rfl
  rfl
 have hnnx:V.nx<=(zFB T s.nil o xs V).2.nx:=by
  unfold zFB;split
  ·exact ar _
  split
  ·split
   ·split
    ·exact bw _
    exact ar _
   exact ar _
  exact ar _
 cases hna:zFB T s.nil o xs V with
 | mk xs1 V1 =>
 rw[hna]at h hnil hnenv hnnx;dsimp only at h hnil hnenv hnnx;split at h
 ·rename_i os hd hos;obtain⟨x,os',hR,h⟩:=h;refine⟨_,_,_,by rw[← hnenv]; exact h,bc hnnx (Nat.le_add_right _ _),fun env' ha K' hk=>?_⟩;unfold zGf;dsimp only;rw[← zC6 ha,hraw];dsimp only;rw[hs];dsimp only;rw[hnh];dsimp only;rw[hown];dsimp only;rw[hnil];dsimp only;rw[hd,hos];exact⟨x,os',hR,hk⟩
 exact h.elim
variable {V1:St}
theorem zK0  (h:outc T Γ all own false o V V1):∃ x,V1=V.put o.dst x/\∀ V2:St,Alike all o V.env V2.env->outc T Γ all own false o V2 (V2.put o.dst x):=by
 unfold outc at h;split at h
 ·rename_i hg;unfold runs at h;split at h
  ·rename_i g s xs hco;obtain⟨r,x,V',h1,h2,h3⟩:=h;rw[Bool.and_false]at h2;obtain⟨rfl,h4⟩:=zNr h2;refine⟨x,h3,fun V2 ha=>?_⟩;unfold outc;rw[← ha.gate,hg];dsimp only;unfold runs;rw[← zCj (Γ:=Γ) (T:=T) ha.opds,hco];exact⟨r,x,V2,h1,by rw[Bool.and_false]; exact h4 V2,rfl⟩
  rename_i hco;obtain⟨φ,x,h1,h2,h3⟩:=h;refine⟨x,h3,fun V2 ha=>?_⟩;unfold outc;rw[← ha.gate,hg];dsimp only;unfold runs;rw[← zCj (Γ:=Γ) (T:=T) ha.opds,hco];exact⟨φ,x,by rw[← zGr ha.opds]; exact h1,h2,rfl⟩
 ·rename_i hg;refine⟨.tup [],h,fun V2 ha=>?_⟩;unfold outc;rw[← ha.gate,hg]
 exact h.elim
variable {loud:Bool}
theorem zEF  (h:outc T Γ all own loud o V V1):∃ x hp nx,V1=St.put ⟨V.env,hp,nx⟩ o.dst x/\∀ env',Alike all o V.env env'->outc T Γ all own loud o { V with env:=env' } (St.put ⟨env',hp,nx⟩ o.dst x):=by
 unfold outc at h;split at h
 ·rename_i hg;unfold runs at h;split at h
  ·rename_i g s xs hco;obtain⟨r,x,V',h1,h2,h3⟩:=h;obtain⟨h4,h5⟩:=zKp h2;refine⟨x,V'.hp,V'.nx,by rw[h3,← h4],fun env' ha=>?_⟩;unfold outc;dsimp only;rw[← ha.gate,hg];dsimp only;unfold runs;dsimp only;rw[← zCj (Γ:=Γ) (T:=T) ha.opds,hco];exact⟨r,x,_,h1,h5 env',rfl⟩
  rename_i hco;split at h
  ·split at h
   ·rename_i φ x V' h1;obtain⟨h2,h3⟩:=h;have key:V'.env=V.env/\∀ env',Alike all o V.env env'->step1 T own o { V with env:=env' }=some (φ,x,{ V' with env:=env' }):=by
     unfold step1 at h1 ⊢;split at h1
     ·rename_i p hp;cases h1;refine⟨rfl,fun env' ha=>?_⟩;dsimp only;rw[← zGr ha.opds,hp]
     rename_i hp;refine⟨zWL h1,fun env' ha=>?_⟩;dsimp only;rw[← zGr ha.opds,hp];dsimp only;rw[zIr (V:=V) ha.opds,h1];rfl
    refine⟨x,V'.hp,V'.nx,by rw[h3,← key.1],fun env' ha=>?_⟩;unfold outc;dsimp only;rw[← ha.gate,hg];dsimp only;unfold runs;dsimp only;rw[← zCj (Γ:=Γ) (T:=T) ha.opds,hco];dsimp only;rw[key.2 env' ha];exact⟨h2,rfl⟩
   rename_i h1;have key:∀ env',Alike all o V.env env'->step1 T own o { V with env:=env' }=none:=fun env' ha=>by
    unfold step1 at h1 ⊢;split at h1
    ·cases h1
    rename_i hp;dsimp only;rw[← zGr ha.opds,hp];dsimp only;rw[zIr (V:=V) ha.opds,h1];rfl
   obtain⟨x,hp,nx,e1,_,e2⟩:=zNC h;refine⟨x,hp,nx,e1,fun env' ha=>?_⟩;unfold outc;dsimp only;rw[← ha.gate,hg];dsimp only;unfold runs;dsimp only;rw[← zCj (Γ:=Γ) (T:=T) ha.opds,hco];dsimp only;rw[key env' ha];exact e2 env' ha.opds _ rfl
  obtain⟨φ,x,h1,h2,h3⟩:=h;refine⟨x,V.hp,V.nx,h3,fun env' ha=>?_⟩;unfold outc;dsimp only;rw[← ha.gate,hg];dsimp only;unfold runs;dsimp only;rw[← zCj (Γ:=Γ) (T:=T) ha.opds,hco];exact⟨φ,x,by rw[← zGr ha.opds]; exact h1,h2,rfl⟩
 ·rename_i hg;refine⟨.tup [],V.hp,V.nx,h,fun env' ha=>?_⟩;unfold outc;dsimp only;rw[← ha.gate,hg]
 exact h.elim
def rdOp (o:Oper):Bool :=
 match o.op with
 | .load _ _=>true
 | .indexAddr _ _ _=>true
 | .call { callee:=.builtin .len,args:=_,argTypes:=_ }=>true
 | _=>false
theorem zWM  (hr:rdOp o=true) (h:zCO T own o V=some (φ,x,V')):V'=V:=by
 unfold rdOp at hr;split at hr
 ·rename_i t y ho;unfold zCO at h; try simp only[zCt]at h
  rw[ho]at h;dsimp only at h;repeat' split at h
  all_goals first | (cases h; rfl) | cases h
 ·rename_i t y i ho;unfold zCO at h; try simp only[zCt]at h
  rw[ho]at h;dsimp only at h;repeat' split at h
  all_goals first | (cases h; rfl) | cases h
 ·rename_i args ts ho;unfold zCO at h; try simp only[zCt]at h
  rw[ho]at h;dsimp only at h;repeat' split at h
  all_goals first | (cases h; rfl) | cases h
 cases hr
theorem zJW  (hr:rdOp o=true) (h:zBx T own o V=some (φ,x,V')):V'=V:=by
 unfold zBx at h;split at h
 ·rename_i hl;cases h;exact zPH hl
 split at h
 ·rename_i hl;cases h;exact zWM hr hl
 unfold rdOp at hr;split at hr
 ·rename_i t y ho;unfold zCA at h;rw[ho]at h;cases h
 ·rename_i t y i ho;unfold zCA at h;rw[ho]at h;dsimp only at h;repeat' split at h
  all_goals first | (cases h; rfl) | cases h
 ·rename_i args ts ho;unfold zCA at h;rw[ho]at h;dsimp only at h;repeat' split at h
  all_goals first | (cases h; rfl) | cases h
 cases hr
theorem zWK  (h:zGZ T o V K):∃ x,K x V:=by
 unfold zGZ at h;repeat' split at h
 all_goals first | exact h.elim | skip
 all_goals
  obtain⟨_,row,_,h⟩:=h;split at h
  ·exact⟨_,h⟩
  exact h.elim
def gC {P:Prop} (h:P:=by rename_i ho; unfold callOf zA1; rw[ho]; exact⟨rfl,rfl⟩):P:=h
theorem zEz  (hr:rdOp o=true) (h:outc T Γ all own true o V V1):V1.hp=V.hp/\V1.nx=V.nx:=by
 have hput:∀ (V:St) (d:Option Nat) (x:AV),(V.put d x).hp=V.hp/\(V.put d x).nx=V.nx:=fun V d x=>by cases d <;> exact⟨rfl,rfl⟩
 have hco:callOf T Γ o V.env=none/\zA1 T o V.env=none:=by
  unfold rdOp at hr;split at hr
  ·exact gC
  ·exact gC
  ·exact gC
  cases hr
 unfold outc at h;split at h
 ·unfold runs at h;rw[hco.1]at h;dsimp only at h;split at h
  ·rename_i φ x V' hs;obtain⟨_,rfl⟩:=h;unfold step1 at hs;split at hs
   ·cases hs; exact hput _ _ _
   rw[zJW hr hs]; exact hput _ _ _
  unfold zGf at h;rw[hco.2]at h;obtain⟨x,rfl⟩:=zWK h;exact hput _ _ _
 ·subst h; exact hput _ _ _
 exact h.elim
def zDo (V:St) (d:Option Nat) (x:AV):(V.put d x).nx=V.nx:=by cases d <;> rfl
def zDn (V:St) (d:Option Nat) (x:AV):(V.put d x).hp=V.hp:=by cases d <;> rfl
theorem zRf  (h:outc T Γ all own loud o V V1):V.nx<=V1.nx:=by
 unfold outc at h;split at h
 ·unfold runs at h;split at h
  ·obtain⟨r,x,V',_,h2,rfl⟩:=h;rw[zDo]; exact zL6 h2
  split at h
  ·split at h
   ·rename_i φ x V' hs;obtain⟨_,rfl⟩:=h;rw[zDo];unfold step1 at hs;split at hs
    ·cases hs; exact ar _
    exact zYl hs
   obtain⟨x,hp,nx,e1,e2,_⟩:=zNC h;rw[e1,zDo]; exact e2
  obtain⟨φ,x,_,_,rfl⟩:=h;rw[zDo]; exact ar _
 ·subst h; rw[zDo]; exact ar _
 exact h.elim
def zTl (n:Nat->Bool):AV->Bool
 | .op k _=>n k
 | .orow k=>n k
 | .rp k _ _ _=>n k
 | .mref k=>n k
 | _=>true
def yAr (n:Nat->Bool):AV->Bool
 | .orow k=>!(n k)
 | _=>false
def zS2 (n:Nat->Bool):AV->Bool
 | .op k _=>!(n k)
 | .rp k _ _ _=>!(n k)
 | _=>false
def zDT (T:Nat->Option TI) (n:Nat->Bool) (o:Oper) (env:Nat->AV):Bool :=
 match o.op with
 | .load _ x=>zTl n (opd T env 0 x)
 | .indexAddr t x _=>zTl n (opd T env t x)
 | .call { callee:=.builtin .len,args:=args,argTypes:=ts }=>match args.toList,ts.toList with
  | [x],[t]=>zTl n (opd T env t x)
  | _,_=>true
 | .call { callee:=.builtin .append,args:=args,argTypes:=ts }=>match args.toList,ts.toList with
  | [x,_],[t,_]=>yAr n (opd T env t x)
  | _,_=>false
 | .store _ x _=>zS2 n (opd T env 0 x)
 | _=>false
variable {n:Nat->Bool}
theorem zGt  (h:∀ x∈o.op.operands,∀ ty,opd T env ty x=opd T env' ty x):zDT T n o env=zDT T n o env':=by
 unfold zDT;cases hop:o.op <;> rw[hop]at h <;> simp only[Op.operands]at h <;> (try dsimp only) <;> try rfl
 case load t x=>rw[h x (by simp)]
 case indexAddr t x i=>rw[h x (by simp)]
 case store t x y=>rw[h x (by simp)]
 case call c =>
  obtain⟨callee,args,ts⟩:=c;have ha:∀ x∈args.toList,∀ ty,opd T env ty x=opd T env' ty x:=fun x hx=>h x (by simp[Call.operands]; exact .inr (by simpa using hx))
  cases callee with
  | builtin b =>
   cases b <;> try rfl
   all_goals
    dsimp only;split
    ·rename_i e1 e2;rw[ha _ (by rw[e1]; simp)]
    rfl
  | value f=>rfl
  | invoke r m=>rfl
variable {nx nx':Nat}{hp hp':Nat->Option Ob}
theorem zYM  (hr:rdOp o=true) (ho:zDT T n o env=true) (hh:∀ k,n k=true->hp' k=hp k)
  (hs:zBx T own o ⟨env,hp,nx⟩=some (φ,x,V')):zBx T own o ⟨env,hp',nx'⟩=some (φ,x,⟨env,hp',nx'⟩):=by
 have hlt:∀ {k},n k=true->hp' k=hp k:=fun {k} h=>hh k h
 have hsame:=zJW hr hs;subst hsame;unfold rdOp at hr;unfold zDT at ho;unfold zBx zES zCO zCA at hs ⊢;split at hr
 ·rename_i t y hop;rw[hop]at ho hs ⊢;dsimp only at ho hs ⊢;cases e:opd T env 0 y <;> rw[e]at hs ho
  case op k off =>
   dsimp only at hs ho ⊢;simp only[zTl]at ho;rw[hlt ho];revert hs;cases hp k with
   | none=>intro hs; cases hs
   | some ob=>
   cases ob with
   | box bt cells =>
    cases T t with
    | none=>intro hs; cases hs
    | some i=>
    dsimp only;cases i.k.agg <;> dsimp only
    ·cases cells[off]? <;> (intro hs; cases hs) <;> rfl
    cases Nat.ble (off+i.size) cells.length <;> (intro hs; cases hs) <;> rfl
   | row=>intro hs; cases hs
   | arow=>intro hs; cases hs
   | any=>intro hs; cases hs
  all_goals ((try dsimp only at hs); cases hs)
 ·rename_i t y i hop;rw[hop]at ho hs ⊢;dsimp only at ho hs ⊢;cases e:opd T env t y <;> rw[e]at hs ho
  case orow k =>
   simp only[zTl]at ho;revert hs;cases elemOf T t with
   | none=>intro hs; cases hs
   | some p=>
   obtain⟨_,j⟩:=p;cases opd T env 0 i with
   | s s =>
    cases s with
    | int kk m =>
     dsimp only;rw[hlt ho];cases hp k with
     | none=>intro hs; cases hs
     | some ob=>
     cases ob with
     | box=>intro hs; cases hs
     | row e sz rows=>dsimp only; cases Nat.beq sz j.size <;> (intro hs; cases hs) <;> rfl
     | arow e sz rows=>dsimp only; cases Nat.beq sz j.size <;> (intro hs; cases hs) <;> rfl
     | any=>intro hs; cases hs
    | _=>intro hs; cases hs
   | _=>intro hs; cases hs
  all_goals
   revert hs;cases elemOf T t with
   | none=>intro hs; cases hs
   | some p=>
   obtain⟨_,j⟩:=p;cases opd T env 0 i with
   | s s=>cases s <;> (try dsimp only) <;> (intro hs; cases hs)
   | _=>intro hs; cases hs
 ·rename_i args ts hop;rw[hop]at ho hs ⊢;dsimp only at ho hs ⊢;revert hs ho;cases args.toList with
  | nil=>dsimp only; (intro h1 h2; first | exact absurd h1 (by simp) | exact absurd h2 (by simp))
  | cons y l=>
  cases l with
  | cons _ _=>dsimp only; (intro h1 h2; first | exact absurd h1 (by simp) | exact absurd h2 (by simp))
  | nil=>
  cases ts.toList with
  | nil=>dsimp only; (intro h1 h2; first | exact absurd h1 (by simp) | exact absurd h2 (by simp))
  | cons t l=>
  cases l with
  | cons _ _=>dsimp only; (intro h1 h2; first | exact absurd h1 (by simp) | exact absurd h2 (by simp))
  | nil=>
  dsimp only;cases tk T t with
  | slice e =>
   cases opd T env t y with
   | orow k =>
    dsimp only;intro hs ho;simp only[zTl]at ho;rw[hlt ho];revert hs;cases hp k with
    | none=>dsimp only; intro hs; cases hs
    | some ob=>cases ob <;> dsimp only <;> (intro hs; cases hs) <;> rfl
   | _=>dsimp only; intro hs; cases hs
  | _=>dsimp only; intro hs; cases hs
 cases hr
theorem yAP  (ho:zDT T n o env=true) (hh:∀ k,n k=true->hp' k=hp k) (h:zGZ T o ⟨env,hp,nx⟩ K) :
  ∃ x,K x ⟨env,hp,nx⟩/\∀ K':AV->St->Prop,K' x ⟨env,hp',nx'⟩->zGZ T o ⟨env,hp',nx'⟩ K':=by
 have hlt:∀ {k},n k=true->hp' k=hp k:=fun {k} h=>hh k h
 unfold zDT at ho;unfold zGZ at h ⊢;split at h
 ·rename_i t y hop;rw[hop]at ho;dsimp only at ho h ⊢;cases e:opd T env 0 y <;> rw[e]at h ho <;> dsimp only at h ho⊢<;> try (exact h.elim)
  simp only[zTl]at ho;rw[hlt ho];revert h;cases hp _ with
  | none=>intro h; exact h.elim
  | some ob=>
  cases ob with
  | box=>intro h; exact h.elim
  | any=>intro h; exact h.elim
  | row e2 sz rows =>
   dsimp only;cases Nat.beq _ sz with
   | false=>intro h; exact h.elim
   | true=>
   dsimp only;rintro⟨h1,row,h2,h3⟩;cases hl:zMG T t (row.drop _) with
   | none=>rw[hl]at h3; exact h3.elim
   | some c=>rw[hl]at h3;exact⟨c,h3,fun K' hk=>⟨h1,row,h2,by rw[hl]; exact hk⟩⟩
  | arow e2 sz rows=>
  dsimp only;cases Nat.beq _ sz with
  | false=>intro h; exact h.elim
  | true=>
  dsimp only;rintro⟨h1,row,h2,h3⟩;cases hl:zOQ T t (row.drop _) with
  | none=>rw[hl]at h3; exact h3.elim
  | some c=>rw[hl]at h3;exact⟨c,h3,fun K' hk=>⟨h1,row,h2,by rw[hl]; exact hk⟩⟩
 exact h.elim
theorem yCI  (hr:rdOp o=true) (ho:zDT T n o env=true) (hh:∀ k,n k=true->hp' k=hp k) (hn:∀ k,∀ (h:hp k=none),n k=true->hp' k=none) (h:outc T Γ all own true o ⟨env,hp,nx⟩ V1)
  (hboth:∀ (r:Option Prop×AV×St),zBx T own o ⟨env,hp',nx'⟩=some r->∃ r',zBx T own o ⟨env,hp,nx⟩=some r') :
  ∃ y,V1=St.put ⟨env,hp,nx⟩ o.dst y/\outc T Γ all own true o ⟨env,hp',nx'⟩ (St.put ⟨env,hp',nx'⟩ o.dst y):=by
 have hco:callOf T Γ o env=none/\zA1 T o env=none:=by
  unfold rdOp at hr;split at hr
  ·exact gC
  ·exact gC
  ·exact gC
  cases hr
 unfold outc at h;dsimp only at h;split at h
 ·rename_i hg;unfold runs at h;dsimp only at h;rw[hco.1]at h;dsimp only at h;split at h
  ·rename_i φ x V' hs;obtain⟨h2,rfl⟩:=h;have:V'=⟨env,hp,nx⟩/\step1 T own o ⟨env,hp',nx'⟩=some (φ,x,⟨env,hp',nx'⟩):=by
    unfold step1 at hs ⊢;dsimp only at hs ⊢;split at hs
    ·cases hs; exact⟨rfl,rfl⟩
    exact⟨zJW hr hs,zYM hr ho hh hs⟩
   obtain⟨rfl,h3⟩:=this;refine⟨x,rfl,?_⟩;unfold outc;dsimp only;rw[hg];dsimp only;unfold runs;dsimp only;rw[hco.1];dsimp only;rw[h3];exact⟨h2,rfl⟩
  rename_i hs;have h3:step1 T own o ⟨env,hp',nx'⟩=none:=by
   unfold step1 at hs ⊢;dsimp only at hs ⊢;split at hs
   ·cases hs
   cases hq:zBx T own o ⟨env,hp',nx'⟩ with
   | none=>rfl
   | some r=>obtain⟨r',hr'⟩:=hboth r hq;rw[hr']at hs; cases hs
  unfold zGf at h;dsimp only at h;rw[hco.2]at h;dsimp only at h;obtain⟨x,rfl,hx⟩:=yAP (nx':=nx') ho hh h;refine⟨x,rfl,?_⟩;unfold outc;dsimp only;rw[hg];dsimp only;unfold runs;dsimp only;rw[hco.1];dsimp only;rw[h3];dsimp only;unfold zGf;dsimp only;rw[hco.2];exact hx _ rfl
 ·rename_i hg;subst h;refine⟨.tup [],rfl,?_⟩;unfold outc;dsimp only;rw[hg]
 exact h.elim
theorem zVV  (hr:rdOp o=true) (ho:zDT T n o env=true) (hh:∀ k,n k=true->hp' k=hp k) (h:outc T Γ all own true o ⟨env,hp,nx⟩ V1) :
  ∃ y,V1=St.put ⟨env,hp,nx⟩ o.dst y/\outc T Γ all own true o ⟨env,hp',nx'⟩ (St.put ⟨env,hp',nx'⟩ o.dst y) :=
 yCI hr ho hh (fun k h hk=>by rw[hh k hk]; exact h) h fun⟨φ,x,V'⟩ hq=>⟨_,zYM (nx':=nx) hr ho (fun k hk=>(hh k hk).symm) hq⟩
def mkOp (o:Oper):Bool :=
 match o.op with
 | .alloc _=>true
 | .makeSlice _ _ _=>true
 | .box _ _=>true
 | .buildSlice _ _ _=>true
 | _=>false
theorem yAk  (hm:mkOp o=true) (h:zCO T own o V=some (φ,x,V')):∃ ob,V'=zA6 V ob:=by
 unfold zCO at h;simp only[zCt]at h;unfold mkOp at hm;split at hm
 ·rename_i hop;rw[hop]at h;dsimp only at h;repeat' split at h
  all_goals first | (cases h; exact⟨_,rfl⟩) | cases h
 ·rename_i hop;rw[hop]at h;dsimp only at h;repeat' split at h
  all_goals first | (cases h; exact⟨_,rfl⟩) | cases h
 ·rename_i hop;rw[hop]at h;dsimp only at h;repeat' split at h
  all_goals first | (cases h; exact⟨_,rfl⟩) | cases h
 ·rename_i hop;rw[hop]at h;dsimp only at h;repeat' split at h
  all_goals first | (cases h; exact⟨_,rfl⟩) | cases h
 cases hm
theorem zYi  (hm:mkOp o=true) (h:zCA T o V=some (φ,x,V')):∃ ob,V'=zA6 V ob:=by
 unfold zCA at h;unfold mkOp at hm;split at hm
 ·rename_i hop;rw[hop]at h;dsimp only at h;repeat' split at h
  all_goals first | (cases h; exact⟨_,rfl⟩) | cases h
 ·rename_i hop;rw[hop]at h;dsimp only at h;repeat' split at h
  all_goals first | (cases h; exact⟨_,rfl⟩) | cases h
 ·rename_i hop;rw[hop]at h;dsimp only at h;repeat' split at h
  all_goals first | (cases h; exact⟨_,rfl⟩) | cases h
 ·rename_i hop;rw[hop]at h;dsimp only at h;repeat' split at h
  all_goals first | (cases h; exact⟨_,rfl⟩) | cases h
 cases hm
theorem zYk  (hm:mkOp o=true) (h:zBx T own o V=some (φ,x,V')):∃ ob,V'=zA6 V ob:=by
 unfold zBx at h;split at h
 ·rename_i hl;unfold zES at hl;split at hl
  ·rename_i ho;simp only[mkOp,ho]at hm;cases hm
  cases hl
 split at h
 ·rename_i hl;cases h;exact yAk hm hl
 exact zYi hm h
theorem zUr  (hm:mkOp o=true) (h:outc T Γ all own true o V V1):∀ k,k<V.nx->V1.hp k=V.hp k:=fun k hk=>by
 have hadd:∀ ob,(zA6 V ob).hp k=V.hp k:=fun ob=>by
  show(bif Nat.beq k V.nx then _ else V.hp k)=V.hp k;have:Nat.beq k V.nx=false:=by
   cases e:Nat.beq k V.nx with
   | false=>rfl
   | true=>have:=ab e; omega
  rw[this]; rfl
 have hc:callOf T Γ o V.env=none/\zA1 T o V.env=none/\∀ K,¬ zGZ T o V K:=by
  unfold mkOp at hm;split at hm <;> first | (rename_i hop; unfold callOf zA1; rw[hop]; exact⟨rfl,rfl,fun K h=>by unfold zGZ at h; rw[hop]at h; exact h⟩) | cases hm
 unfold outc at h;split at h
 ·unfold runs at h;rw[hc.1]at h;dsimp only at h;split at h
  ·rename_i φ x V' hs;obtain⟨_,rfl⟩:=h;rw[zDn];unfold step1 at hs;split at hs
   ·cases hs; rfl
   obtain⟨ob,rfl⟩:=zYk hm hs;exact hadd ob
  unfold zGf at h;rw[hc.2.1]at h;exact(hc.2.2 _ h).elim
 ·subst h; rw[zDn]
 exact h.elim
def apOp (o:Oper):Bool :=
 match o.op with
 | .call { callee:=.builtin .append,args:=_,argTypes:=_ }=>true
 | _=>false
def below (n:Nat->Bool) (V:St):Prop:=∀ k,n k=true->k<V.nx
def below_le  (h:below n V) (h':V.nx<=V'.nx):below n V':=fun k hk=>a9 (h k hk) h'
def kp (n:Nat->Bool) (V V1:St):Prop:=∀ k,n k=true->V1.hp k=V.hp k
def cOp (o:Oper):Bool :=
 match o.op with
 | .call { callee:=.value _,args:=_,argTypes:=_ }=>true
 | _=>false
def roOk (T:Nat->Option TI) (n:Nat->Bool) (o:Oper) (V V1:St):Prop:=zDT T n o V.env=true∨(rdOp o=false/\kp n V V1)
def mkS (o:Oper) (r:Bool):Bool:=mkOp o||r
variable {ob:Ob}{k:Nat}
def yDf {j:Nat} (hj:j ≠ k) (hn:j<V.nx):(zA6 (zHJ V k) ob).hp j=V.hp j:=by
 show(bif Nat.beq j V.nx then _ else (bif Nat.beq j k then none else V.hp j))=V.hp j;have e1:Nat.beq j V.nx=false:=by
  cases e:Nat.beq j V.nx with
  | false=>rfl
  | true=>have:=ab e; omega
 have e2:Nat.beq j k=false:=by
  cases e:Nat.beq j k with
  | false=>rfl
  | true=>exact absurd (ab e) hj
 rw[e1,e2]; rfl
def zPN  (h:yAr n x=true):∃ k,x = .orow k/\n k=false:=by
 cases x <;> simp only[yAr]at h <;> first | cases h | exact⟨_,rfl,by simpa using h⟩
variable {sz:Nat}
def zUc {e:Nat}{kk:Option Nat}{rows:List (List S)} (h:zJt V (.orow k)=some (kk,e,sz,rows)):kk=some k:=by
 unfold zJt at h;dsimp only at h;split at h
 ·cases h; rfl
 cases h
def zWr {e kk:Nat}{rows:List (List AV)} (h:zKu V (.orow k)=some (kk,e,sz,rows)):kk=k:=by
 unfold zKu at h;dsimp only at h;split at h
 ·cases h; rfl
 cases h
theorem zWI {t tx:Nat}{y:AV}{z:AV} (hx:yAr n x=true) (hn:below n V) (h:zIn T V t tx x y=some (φ,z,V')):∀ j,n j=true->V'.hp j=V.hp j:=fun j hj=>by
 obtain⟨k,rfl,hk⟩:=zPN hx;unfold zIn at h;split at h
 ·rename_i h2 h3;have hb:=zUc h2;subst hb;split at h
  ·dsimp only at h;split at h
   ·cases h; exact yDf (fun e=>by rw[e,hk]at hj; cases hj) (hn j hj)
   cases h
  cases h
 cases h
theorem yB2  (hn:below n V) (hm:apOp o=true) (ho:zDT T n o V.env=true) (h:outc T Γ all own true o V V1):∀ k,n k=true->V1.hp k=V.hp k:=fun k hk=>by
 obtain⟨args,ts,hop⟩:∃ args ts,o.op = .call { callee:=.builtin .append,args:=args,argTypes:=ts }:=by
  unfold apOp at hm;split at hm
  ·rename_i a b hop; exact⟨_,_,hop⟩
  cases hm
 unfold zDT at ho;rw[hop]at ho;dsimp only at ho;split at ho;case h_2=>cases ho
 rename_i x y t tx e1 e2;have hc:callOf T Γ o V.env=none/\zA1 T o V.env=none/\∀ K,¬ zGZ T o V K:=by
  unfold callOf zA1; rw[hop]; exact⟨rfl,rfl,fun K h=>by unfold zGZ at h; rw[hop]at h; exact h⟩
 unfold outc at h;split at h
 ·unfold runs at h;rw[hc.1]at h;dsimp only at h;split at h
  ·rename_i φ z V' hs;obtain⟨_,rfl⟩:=h;rw[zDn];unfold step1 at hs;split at hs
   ·cases hs; rfl
   unfold zBx zES at hs;rw[hop]at hs;dsimp only at hs;split at hs
   ·rename_i hl;cases hs;unfold zCO at hl;simp only[zCt]at hl;rw[hop]at hl;dsimp only at hl;rw[e1,e2]at hl;exact zWI ho hn hl k hk
   rename_i hl;unfold zCA at hs;rw[hop]at hs;dsimp only at hs;rw[e1,e2]at hs;dsimp only at hs;obtain⟨q,hq,hqn⟩:=zPN ho;rw[hq]at hs;split at hs
   ·rename_i h2 h3;have hb:=zWr h2;subst hb;split at hs
    ·cases hs; exact yDf (fun e=>by rw[e,hqn]at hk; cases hk) (hn _ hk)
    cases hs
   cases hs
  unfold zGf at h;rw[hc.2.1]at h;exact(hc.2.2 _ h).elim
 ·subst h; rw[zDn]
 exact h.elim
def stOp (o:Oper):Bool :=
 match o.op with
 | .store _ _ _=>true
 | _=>false
def zZz {j:Nat} (hj:j ≠ k):(zDW V k ob).hp j=V.hp j:=by
 show(bif Nat.beq j k then _ else V.hp j)=V.hp j;have e2:Nat.beq j k=false:=by
  cases e:Nat.beq j k with
  | false=>rfl
  | true=>exact absurd (ab e) hj
 rw[e2]; rfl
theorem zZf  (hm:stOp o=true) (ho:zDT T n o V.env=true) (h:outc T Γ all own true o V V1):∀ k,n k=true->V1.hp k=V.hp k:=fun k hk=>by
 obtain⟨t,x,y,hop⟩:∃ t x y,o.op = .store t x y:=by
  unfold stOp at hm;split at hm
  ·rename_i a b c hop; exact⟨_,_,_,hop⟩
  cases hm
 unfold zDT at ho;rw[hop]at ho;dsimp only at ho;have hc:callOf T Γ o V.env=none/\zA1 T o V.env=none/\∀ K,¬ zGZ T o V K:=by
  unfold callOf zA1; rw[hop]; exact⟨rfl,rfl,fun K h=>by unfold zGZ at h; rw[hop]at h; exact h⟩
 unfold outc at h;split at h
 ·unfold runs at h;rw[hc.1]at h;dsimp only at h;split at h
  ·rename_i φ z V' hs;obtain⟨_,rfl⟩:=h;rw[zDn];unfold step1 at hs;split at hs
   ·cases hs; rfl
   unfold zBx zES at hs;rw[hop]at hs;dsimp only at hs;have ne:∀ q,n q=false->k ≠ q:=fun q hq e=>by rw[e,hq]at hk; cases hk
   split at hs
   ·rename_i hl;cases hs;unfold zCO at hl;simp only[zCt]at hl;rw[hop]at hl;dsimp only at hl;split at hl
    ·rename_i q off i e1 e2;rw[e1]at ho;simp only[zS2,Bool.not_eq_true']at ho;repeat' split at hl
     all_goals first | (cases hl; exact zZz (ne _ ho)) | cases hl
    ·rename_i q sz j off i e1 e2;rw[e1]at ho;simp only[zS2,Bool.not_eq_true']at ho;repeat' split at hl
     all_goals first | (cases hl; exact zZz (ne _ ho)) | cases hl
    cases hl
   rename_i hl;unfold zCA at hs;rw[hop]at hs;dsimp only at hs;split at hs
   ·rename_i q sz j off i e1 e2;rw[e1]at ho;simp only[zS2,Bool.not_eq_true']at ho;repeat' split at hs
    all_goals first | (cases hs; exact zZz (ne _ ho)) | cases hs
   cases hs
  unfold zGf at h;rw[hc.2.1]at h;exact(hc.2.2 _ h).elim
 ·subst h; rw[zDn]
 exact h.elim
theorem zRj  (h:outc T Γ all own false o V V1):V1.hp=V.hp:=by
 obtain⟨x,rfl,_⟩:=zK0 h;exact zDn _ _ _
theorem zEa  (hl:loud=false∨rdOp o=true) (h:outc T Γ all own loud o V V1):V1.hp=V.hp:=by
 cases loud with
 | false=>exact zRj h
 | true=>
 rcases hl with hl | hl
 ·cases hl
 exact(zEz hl h).1
theorem yCK  (hn:below n V) (hm:roOk T n o V V1) (h:outc T Γ all own loud o V V1):kp n V V1:=by
 cases loud with
 | false=>intro k _; rw[zRj h]
 | true=>
 rcases hm with hm | ⟨_,hm⟩
 ·cases hr:rdOp o with
  | true=>intro k _; rw[(zEz hr h).1]
  | false=>
  cases hst:stOp o with
  | true=>exact zZf hst hm h
  | false =>
  have ha:apOp o=true:=by
   unfold apOp;split
   ·rfl
   rename_i hne;exfalso;unfold zDT at hm;unfold rdOp at hr;split at hm
   ·rename_i hop; rw[hop]at hr; cases hr
   ·rename_i hop; rw[hop]at hr; cases hr
   ·rename_i hop; rw[hop]at hr; cases hr
   ·rename_i hop; exact hne _ _ hop
   ·rename_i hop; unfold stOp at hst; rw[hop]at hst; cases hst
   cases hm
  exact yB2 hn ha hm h
 exact hm
theorem zYT  (hr:rdOp o=true) (h:roOk T n o V V1):zDT T n o V.env=true:=by
 rcases h with h | ⟨h,_⟩
 ·exact h
 rw[hr]at h; cases h
theorem yBy {r:Bool} (hn:below n V) (h:mkS o r=true) (hr:r=true->roOk T n o V V1) (ho:outc T Γ all own loud o V V1):kp n V V1:=by
 cases loud with
 | false=>intro k _; rw[zRj ho]
 | true=>
 unfold mkS at h;simp only[bv]at h;rcases h with h | h
 ·intro k hk; exact zUr h ho k (hn k hk)
 exact yCK hn (hr h) ho
variable {Vi Vij:St}{owi owj:Bool}{oi oj:Oper}
theorem kJ {P:Prop} (h:P:=by have e4:outc T Γ all owi true oi (⟨(V.put oj.dst y).env,V.hp,V.nx⟩:St) (St.put ⟨(V.put oj.dst y).env,V.hp,V.nx⟩ oi.dst x):=this;rw[e1]at e4;exact e4):P:=h
theorem zYx {li lj:Bool} (hn:below n V) (hap:oi.apart all.toArray oj=true) (hl:li=false∨lj=false∨(rdOp oi=true/\rdOp oj=true) ∨
   (kp n V Vi/\rdOp oj=true/\zDT T n oj Vi.env=true)∨(rdOp oi=true/\kp n Vi Vij/\zDT T n oi V.env=true))
  (h1:outc T Γ all owi li oi V Vi) (h2:outc T Γ all owj lj oj Vi Vij):∃ Vj,outc T Γ all owj lj oj V Vj/\outc T Γ all owi li oi Vj Vij:=by
 obtain⟨a1,a2,a3⟩:=Oper.apart_spec hap;have hl':li=false∨lj=false∨(li=true/\lj=true/\((rdOp oi=true/\rdOp oj=true) ∨
   (kp n V Vi/\rdOp oj=true/\zDT T n oj Vi.env=true)∨(rdOp oi=true/\kp n Vi Vij/\zDT T n oi V.env=true))):=by
  cases li with
  | false=>exact .inl rfl
  | true=>
  cases lj with
  | false=>exact .inr (.inl rfl)
  | true =>
       rcases hl with h | h | h
       ·cases h
       ·cases h
       exact .inr (.inr ⟨rfl,rfl,h⟩)
 rcases hl' with rfl | rfl | ⟨rfl,rfl,⟨r1,r2⟩ | ⟨r1,r2,r3⟩ | ⟨r1,r2,r3⟩⟩
 ·obtain⟨x,rfl,hq⟩:=zK0 h1;obtain⟨y,hp,nx,rfl,hy⟩:=zEF h2;have hb:=hy V.env (Alike.put a1);have e:({ (V.put oi.dst x) with env:=V.env }:St)=V :=(by cases oi.dst <;> rfl);rw[e]at hb;refine⟨_,hb,?_⟩;have:=hq (St.put ⟨V.env,hp,nx⟩ oj.dst y) (fun t ht=>(Alike.put (V:=⟨V.env,hp,nx⟩) (x:=y) a3 t ht).symm);rw[put_comm (fun t ht=>fun e=>a2 t e ht)]at this;have e2:St.put ⟨V.env,hp,nx⟩ oi.dst x=⟨(V.put oi.dst x).env,hp,nx⟩ :=(by cases oi.dst <;> rfl);rw[e2]at this;exact this
 ·obtain⟨x,hp,nx,rfl,hx⟩:=zEF h1;obtain⟨y,rfl,hq⟩:=zK0 h2;refine⟨_,hq V (fun t ht=>Alike.put (V:=⟨V.env,hp,nx⟩) (x:=x) a1 t ht),?_⟩;have:=hx (V.put oj.dst y).env (fun t ht=>(Alike.put a3 t ht).symm);have e1:({ V with env:=(V.put oj.dst y).env }:St)=V.put oj.dst y :=(by cases oj.dst <;> rfl);rw[e1]at this;have e2:(⟨(V.put oj.dst y).env,hp,nx⟩:St)=St.put ⟨V.env,hp,nx⟩ oj.dst y :=(by cases oj.dst <;> rfl);rw[e2,put_comm (fun t ht=>fun e=>a2 t e ht)]at this;exact this
 ·have s1:=zEz r1 h1;have s2:=zEz r2 h2;obtain⟨x,hp,nx,rfl,hx⟩:=zEF h1;obtain⟨y,hp2,nx2,rfl,hy⟩:=zEF h2;have f1:hp=V.hp/\nx=V.nx :=(by cases h:oi.dst <;> (rw[h]at s1; exact s1));obtain⟨rfl,rfl⟩:=f1;have f2:hp2=V.hp/\nx2=V.nx :=(by cases h:oi.dst <;> cases h':oj.dst <;> (rw[h,h']at s2; exact s2));obtain⟨rfl,rfl⟩:=f2;have hb:=hy V.env (Alike.put a1);have e:({ St.put ⟨V.env,V.hp,V.nx⟩ oi.dst x with env:=V.env }:St)=V :=(by cases oi.dst <;> rfl);rw[e]at hb;refine⟨_,hb,?_⟩;have:=hx (V.put oj.dst y).env (fun t ht=>(Alike.put a3 t ht).symm);have e1:(⟨(V.put oj.dst y).env,V.hp,V.nx⟩:St)=St.put ⟨V.env,V.hp,V.nx⟩ oj.dst y :=(by cases oj.dst <;> rfl);have e3:St.put ⟨V.env,V.hp,V.nx⟩ oi.dst x=⟨(St.put ⟨V.env,V.hp,V.nx⟩ oi.dst x).env,V.hp,V.nx⟩ :=(by cases oi.dst <;> rfl);have key:St.put (St.put ⟨V.env,V.hp,V.nx⟩ oj.dst y) oi.dst x=St.put ⟨(St.put ⟨V.env,V.hp,V.nx⟩ oi.dst x).env,V.hp,V.nx⟩ oj.dst y:=by
   rw[put_comm (fun t ht=>fun e=>a2 t e ht),← e3]
  rw[← key];exact kJ
 ·have m1:=r1;unfold kp at m1;have s2:=zEz r2 h2;obtain⟨x,hp,nx,rfl,hx⟩:=zEF h1;obtain⟨y,hp2,nx2,rfl,hy⟩:=zEF h2;rw[zDn]at m1;have f2:hp2=hp/\nx2=nx:=by
   rw[zDn,zDo,zDn,zDo]at s2; exact s2
  obtain⟨rfl,rfl⟩:=f2;have hb:=hy V.env (Alike.put a1);have e:({ St.put ⟨V.env,hp2,nx2⟩ oi.dst x with env:=V.env }:St)=⟨V.env,hp2,nx2⟩ :=(by cases oi.dst <;> rfl);rw[e]at hb;have hal:Alike all oj (St.put ⟨V.env,hp2,nx2⟩ oi.dst x).env V.env:=Alike.put a1;have r3':zDT T n oj V.env=true :=(by rw[← zGt (n:=n) hal.opds]; exact r3);obtain⟨y',ey,hb'⟩:=zVV (hp':=V.hp) (nx':=V.nx) r2 r3' (fun k hk=>(m1 k hk).symm) hb;refine⟨_,hb',?_⟩;have h3:=hx (V.put oj.dst y').env (fun t ht=>(Alike.put a3 t ht).symm);have e1:({ V with env:=(V.put oj.dst y').env }:St)=V.put oj.dst y' :=(by cases oj.dst <;> rfl);rw[e1]at h3;have e2:(⟨(V.put oj.dst y').env,hp2,nx2⟩:St)=St.put ⟨V.env,hp2,nx2⟩ oj.dst y' :=(by cases oj.dst <;> rfl);rw[e2,put_comm (fun t ht=>fun e=>a2 t e ht)]at h3;have e3:St.put (St.put ⟨V.env,hp2,nx2⟩ oi.dst x) oj.dst y'=St.put ⟨(St.put ⟨V.env,hp2,nx2⟩ oi.dst x).env,hp2,nx2⟩ oj.dst y:=by
   have e5:(⟨(St.put ⟨V.env,hp2,nx2⟩ oi.dst x).env,hp2,nx2⟩:St)=St.put ⟨V.env,hp2,nx2⟩ oi.dst x :=(by cases oi.dst <;> rfl);rw[e5,put_comm (V:=⟨V.env,hp2,nx2⟩) (d:=oi.dst) (e:=oj.dst) (x:=x) (y:=y') (fun t ht=>a2 t ht),put_comm (V:=⟨V.env,hp2,nx2⟩) (d:=oi.dst) (e:=oj.dst) (x:=x) (y:=y) (fun t ht=>a2 t ht),ey]
  rw[e3]at h3;exact h3
 have s1:=zEz r1 h1;have m2:=r2;unfold kp at m2;obtain⟨x,hp,nx,rfl,hx⟩:=zEF h1;obtain⟨y,hp2,nx2,rfl,hy⟩:=zEF h2;rw[zDn,zDo]at s1;obtain⟨rfl,rfl⟩:=s1;rw[zDn,zDn]at m2;have hb:=hy V.env (Alike.put a1);have e:({ St.put ⟨V.env,V.hp,V.nx⟩ oi.dst x with env:=V.env }:St)=V :=(by cases oi.dst <;> rfl);rw[e]at hb;refine⟨_,hb,?_⟩;have hal:Alike all oi V.env (St.put ⟨V.env,hp2,nx2⟩ oj.dst y).env:=fun t ht=>(Alike.put (V:=⟨V.env,hp2,nx2⟩) (x:=y) a3 t ht).symm
 have r3':zDT T n oi (St.put ⟨V.env,hp2,nx2⟩ oj.dst y).env=true :=(by rw[← zGt (n:=n) hal.opds]; exact r3);have h1':=hx _ hal;have e6:({ V with env:=(St.put ⟨V.env,hp2,nx2⟩ oj.dst y).env }:St)=⟨(St.put ⟨V.env,hp2,nx2⟩ oj.dst y).env,V.hp,V.nx⟩:=rfl;rw[e6]at h1';obtain⟨x',ex,h3⟩:=zVV (hp':=hp2) (nx':=nx2) r1 r3' (fun k hk=>m2 k hk) h1';have e7:(⟨(St.put ⟨V.env,hp2,nx2⟩ oj.dst y).env,hp2,nx2⟩:St)=St.put ⟨V.env,hp2,nx2⟩ oj.dst y :=(by cases oj.dst <;> rfl);rw[e7]at h3;have e8:St.put (St.put ⟨V.env,hp2,nx2⟩ oj.dst y) oi.dst x'=St.put ⟨(St.put ⟨V.env,V.hp,V.nx⟩ oi.dst x).env,hp2,nx2⟩ oj.dst y:=by
  have e9:(⟨(St.put ⟨V.env,V.hp,V.nx⟩ oi.dst x).env,hp2,nx2⟩:St)=St.put ⟨V.env,hp2,nx2⟩ oi.dst x :=(by cases oi.dst <;> rfl);rw[e9,← put_comm (V:=⟨V.env,hp2,nx2⟩) (d:=oj.dst) (e:=oi.dst) (x:=y) (y:=x) (fun t ht=>fun e=>a2 t e ht)];cases hd:oi.dst with
  | none=>rfl
  | some d=>
  rw[hd]at ex;have e10:x=x':=by
   have:=congrArg (fun s:St=>s.env d) ex;simpa [St.put,aS] using this
  rw[e10]
 rw[e8]at h3;exact h3
def alOp (o:Oper):Bool :=
 match o.op,o.guard with
 | .alloc _,none=>true
 | _,_=>false
def zKq  (h:alOp o=true):(∃ t,o.op = .alloc t)/\o.guard=none:=by
 unfold alOp at h;split at h
 ·rename_i t hop hg; exact⟨⟨t,hop⟩,hg⟩
 cases h
theorem yDc  (ha:alOp o=true) (h:outc T Γ all own true o V V1) :
  ∃ ob,V1=(zA6 V ob).put o.dst (.op V.nx 0)/\∀ V2,outc T Γ all own true o V2 ((zA6 V2 ob).put o.dst (.op V2.nx 0)):=by
 obtain⟨⟨t,hop⟩,hg⟩:=zKq ha;have hc:∀ env,callOf T Γ o env=none:=fun env=>by unfold callOf; rw[hop]
 have hp:∀ env,zBH T own o env=none:=fun env=>by unfold zBH; rw[hop]
 have hgt:∀ env,gate all o env=some true:=fun env=>by unfold gate; rw[hg]
 have hr:∀ V K,¬ zGf T (noHeap Γ) own o V K:=fun V K hk=>by
  unfold zGf zA1 at hk;rw[hop]at hk;dsimp only at hk;unfold zGZ at hk;rw[hop]at hk;exact hk
 unfold outc runs at h;rw[hgt]at h;dsimp only at h;rw[hc]at h;dsimp only at h;cases hT:T t with
 | none =>
  have hs:step1 T own o V=none:=by
   unfold step1 zBx zES zCO zCA;rw[hp,hop];dsimp only;rw[hT]
  rw[hs]at h;exact(hr _ _ h).elim
 | some i=>
 have hs:∀ V:St,step1 T own o V=some (none,.op V.nx 0,zA6 V (.box t (i.zero.map zAV))):=fun V=>by
  unfold step1 zBx zES zCO;rw[hp,hop];dsimp only;rw[hT];dsimp only;rw[zCt]
 rw[hs]at h;refine⟨.box t (i.zero.map zAV),h.2,fun V2=>?_⟩;unfold outc runs;rw[hgt];dsimp only;rw[hc];dsimp only;rw[hs];exact⟨trivial,rfl⟩
def lowK (m:Nat):List Nat->Bool
 | []=>true
 | k::ks=>match Nat.blt k m with | true=>lowK m ks | false=>false
def zSZ {m:Nat}:∀ {ks:List Nat},lowK m ks=true->∀ k∈ks,k<m
 | [],_,k,hk=>by cases hk
 | q::ks,h,k,hk=>by
  unfold lowK at h;split at h
  ·rename_i e;rcases aR.1 hk with rfl | hk
   ·exact aj e
   ·exact zSZ h k hk
  ·cases h
def zYh {m:Nat}:∀ {ks:List Nat},(∀ k∈ks,k<m)->lowK m ks=true
 | [],_=>rfl
 | q::ks,h=>by
  unfold lowK;have e:Nat.blt q m=true:=Nat.ble_eq_true_of_le (h q ak);rw[e];exact zYh fun k hk=>h k (aG _ hk)
def cmF (T:Nat->Option TI) (Γ:Nat->Option zAq) (o:Oper) (V V1:St):Prop :=
 callOf T Γ o V.env=none/\V1.nx=V.nx/\∃ g xs s R,zA1 T o V.env=some (g,xs)/\noHeap Γ g=some s/\s.own=some R/\s.nil=none/\lowK V.nx (zAo V.hp 64 (AV.keysAll xs) [])=true
def cmP (T:Nat->Option TI) (Γ:Nat->Option zAq) (o:Oper) (V V1:St):Prop :=
 match zA1 T o V.env with
 | some (g,xs)=>match noHeap Γ g with
  | some s=>match s.own,s.nil with
   | some _,none=>lowK V.nx (zAo V.hp 64 (AV.keysAll xs) [])=true/\V1.nx=V.nx
   | _,_=>False
  | none=>False
 | none=>False
theorem yCf  (hc:callOf T Γ o V.env=none) (h:cmP T Γ o V V1):cmF T Γ o V V1:=by
 unfold cmP at h;split at h
 ·rename_i g xs h1;split at h
  ·rename_i s h2;split at h
   ·rename_i R h3 h4;exact⟨hc,h.2,g,xs,s,R,h1,h2,h3,h4,h.1⟩
   exact h.elim
  exact h.elim
 exact h.elim
theorem zLD {env:Nat->AV}{p:Nat×List AV} (h:zA1 T o env=some p):∃ f args ts,o.op = .call { callee:=.value f,args:=args,argTypes:=ts }:=by
 unfold zA1 at h;split at h
 ·rename_i f args ts hop; exact⟨f,args,ts,hop⟩
 cases h
theorem yDs  (h:cmF T Γ o V V1):alOp o=false:=by
 obtain⟨_,_,g,xs,s,R,h1,_⟩:=h;obtain⟨f,args,ts,hop⟩:=zLD h1;cases e:alOp o with
 | false=>rfl
 | true=>obtain⟨⟨t,hop'⟩,_⟩:=zKq e;rw[hop]at hop'; cases hop'
theorem zXR  (h:cmF T Γ o V V1):rdOp o=false:=by
 obtain⟨_,_,g,xs,s,R,h1,_⟩:=h;obtain⟨f,args,ts,hop⟩:=zLD h1;unfold rdOp;rw[hop]
theorem zQD {V1':St} (h:cmF T Γ o V V1) (ha:∀ x∈o.op.operands,∀ ty,opd T V.env ty x=opd T V'.env ty x) (hh:V'.hp=V.hp) (hn:V'.nx=V.nx) (hn1:V1'.nx=V1.nx):cmF T Γ o V' V1':=by
 obtain⟨h0,h1,g,xs,s,R,h2,h3,h4,h5,h6⟩:=h;exact⟨by rw[← zCj (Γ:=Γ) ha]; exact h0,by rw[hn1,hn]; exact h1,g,xs,s,R,by rw[← zC6 ha]; exact h2,h3,h4,h5,by rw[hn,hh]; exact h6⟩
def addk (hp:Nat->Option Ob) (m:Nat) (ob:Ob):Nat->Option Ob:=fun k=>bif Nat.beq k m then some ob else hp k
def zXD {m:Nat} (h:k ≠ m):addk hp m ob k=hp k:=by
 unfold addk;cases e:Nat.beq k m with
 | false=>rfl
 | true=>exact absurd (ab e) h
def qI {P:Prop} (h:P:=by exact zBU n _ _ k (mem_append_left _ h)):P:=h
def zBU {hp:Nat->Option Ob}:∀ (n:Nat) (ks acc:List Nat),∀ k∈acc,k∈zAo hp n ks acc
 | 0,_,acc,k,h=>by unfold zAo; exact h
 | n+1,[],acc,k,h=>by unfold zAo; exact h
 | n+1,q::ks,acc,k,h=>by
  unfold zAo;split
  ·exact zBU n ks acc k h
  ·split
   ·exact qI
   ·exact qI
   ·exact qI
   ·exact qI
def gY {P:Prop} (h:P:=by exact h q (zBU n _ _ q (mem_append_right _ ak))):P:=h
def zDG {hp:Nat->Option Ob}{m:Nat}{ob:Ob}:∀ (n:Nat) (ks acc:List Nat),(∀ k∈zAo hp n ks acc,k ≠ m)->zAo (addk hp m ob) n ks acc=zAo hp n ks acc
 | 0,_,acc,h=>by unfold zAo; rfl
 | n+1,[],acc,h=>by unfold zAo; rfl
 | n+1,q::ks,acc,h=>by
  unfold zAo at h ⊢;cases e:kin q acc with
  | true=>rw[e]at h;dsimp only at h ⊢;exact zDG n ks acc h
  | false=>
  rw[e]at h;dsimp only at h ⊢;have hq:q ≠ m:=by
   split at h
   ·exact gY
   ·exact gY
   ·exact gY
   exact gY
  rw[zXD hq];split
  ·rename_i t cells e2;rw[e2]at h;exact zDG n _ _ h
  ·rename_i e sz rows e2;rw[e2]at h;exact zDG n _ _ h
  ·rename_i τ xs e2;rw[e2]at h;exact zDG n _ _ h
  rename_i e2 e4 e5;split at h
  ·rename_i t cells e3; exact absurd e3 (e2 t cells)
  ·rename_i e sz rows e3; exact absurd e3 (e4 e sz rows)
  ·rename_i τ xs e3; exact absurd e3 (e5 τ xs)
  exact zDG n _ _ h
def zS7 {hp:Nat->Option Ob}{m:Nat}{ob:Ob}{ρ:List (Nat×Nat)}:∀ {ks:List Nat},(∀ k∈ks,k ≠ m)->zLo (addk hp m ob) ρ ks=zLo hp ρ ks
 | [],_=>rfl
 | k::ks,h=>by
  unfold zLo;rw[zXD (h k ak),zS7 fun q hq=>h q (aG _ hq)]
def zNz {nx nx':Nat}:∀ {ks:List Nat}{i:Nat},i<ks.length->zER ks nx i=zER ks nx' i/\zER ks nx i∈ks
 | [],i,h=>by simp at h
 | k::ks,0,_=>⟨rfl,ak⟩
 | k::ks,i+1,h=>by
  have:=zNz (nx:=nx) (nx':=nx') (ks:=ks) (i:=i) (by simpa using h);exact⟨this.1,aG _ this.2⟩
def zNA {ks:List Nat}{nx nx':Nat}:∀ {os:List (Option Ob)}{i:Nat},i+os.length<=ks.length->zEc ks nx i os=zEc ks nx' i os
 | [],_,_=>rfl
 | none::r,i,h=>by
  unfold zEc;exact zNA (by simp only[ah]at h; omega)
 | some o::r,i,h=>by
  unfold zEc;simp only[ah]at h;rw[(zNz (nx:=nx) (nx':=nx') (by omega)).1,zNA (nx:=nx) (nx':=nx') (by omega)]
def zPF {ρ:List (Nat×Nat)}{f f':Nat->Nat}{m:Nat}{ob:Ob}:∀ {os:List (Option Ob)}{i:Nat}{hp:Nat->Option Ob},(∀ j,j<os.length->f' (i+j)=f (i+j)/\f (i+j) ≠ m) ->
  zJw ρ f' i os (addk hp m ob)=addk (zJw ρ f i os hp) m ob
 | [],_,_,_=>rfl
 | o::os,i,hp,h=>by
  unfold zJw;obtain⟨h1,h2⟩:=h 0 (by simp);rw[bz]at h1 h2;rw[← zPF (os:=os) (i:=i+1) fun j hj=>by
   have:=h (j+1) (by simp only[ah]; omega)
   rw[show i+(j+1)=i+1+j by omega]at this;exact this]
  congr 1;funext k;rw[h1];unfold addk;cases e1:Nat.beq k (f i) with
  | false=>simp only[e1,ae]
  | true =>
   cases e2:Nat.beq k m with
   | false=>simp only[e1,ae,ag]
   | true=>exact absurd ((ab e1).symm.trans (ab e2)) h2
theorem zSq {Γ':Nat->Option zAq}{g:Nat}{xs:List AV}{s:zAq}{R:List AV->List Ob->AV->List (Option Ob)->Prop} (h1:zA1 T o V.env=some (g,xs)) (h2:Γ' g=some s) (h3:s.heap=none) (h4:s.own=some R) (h5:s.nil=none) :
  zGf T Γ' own o V K↔∃ os,distinct (zAo V.hp 64 (AV.keysAll xs) [])=true/\zLo V.hp (zipI 0 (zAo V.hp 64 (AV.keysAll xs) [])) (zAo V.hp 64 (AV.keysAll xs) [])=some os /\
   ∃ x os',R (AV.renAll (zipI 0 (zAo V.hp 64 (AV.keysAll xs) [])) xs) os x os'/\K (x.ren (zEc (zAo V.hp 64 (AV.keysAll xs) []) V.nx 0 os')) (handed V (zAo V.hp 64 (AV.keysAll xs) []) os'):=by
 unfold zGf;rw[h1];dsimp only;rw[h2];dsimp only;rw[h3];dsimp only;rw[h4];unfold zFB;rw[h5];dsimp only;constructor
 ·intro h;split at h
  ·rename_i os e1 e2;exact⟨os,e1,e2,h⟩
  exact h.elim
 rintro⟨os,e1,e2,h⟩;rw[e1,e2];exact h
theorem zP4 {f:Operand}{args:Array Operand}{ts:Array TypeId} (hop:o.op = .call { callee:=.value f,args:=args,argTypes:=ts }):step1 T own o V=none:=by
 unfold step1 zBH zBx zES zCO zCA;rw[hop]
theorem yCg  (hap:oi.apart all.toArray oj=true) (hc:cmF T Γ oi V Vi) (hal:alOp oj=true)
  (h1:outc T Γ all owi true oi V Vi) (h2:outc T Γ all owj true oj Vi Vij):∃ Vj,outc T Γ all owj true oj V Vj/\outc T Γ all owi true oi Vj Vij/\cmF T Γ oi Vj Vij:=by
 obtain⟨a1,a2,a3⟩:=Oper.apart_spec hap;obtain⟨ob,hij,hany⟩:=yDc hal h2;obtain⟨c0,c1,g,xs,s,R,c2,c3,c4,c5,c6⟩:=hc;obtain⟨f,args,ts,hop⟩:=zLD c2;have hlow:=zSZ c6;have hne:∀ k∈zAo V.hp 64 (AV.keysAll xs) [],k ≠ V.nx:=fun k hk e=>by have:=hlow k hk; omega
 refine⟨_,hany V,?_⟩;have henv:((zA6 V ob).put oj.dst (.op V.nx 0)).env=(V.put oj.dst (.op V.nx 0)).env :=(by cases oj.dst <;> rfl);have hhp:((zA6 V ob).put oj.dst (.op V.nx 0)).hp=addk V.hp V.nx ob :=(by cases oj.dst <;> rfl);have hnx:((zA6 V ob).put oj.dst (.op V.nx 0)).nx=V.nx+1 :=(by cases oj.dst <;> rfl);have al:Alike all oi V.env ((zA6 V ob).put oj.dst (.op V.nx 0)).env:=by
  rw[henv];exact fun t ht=>(Alike.put (V:=V) (x:=.op V.nx 0) a3 t ht).symm
 have nij:Vij.nx=V.nx+1:=by
  rw[hij,zDo];show Vi.nx+1=V.nx+1;rw[c1]
 have ck:zAo (addk V.hp V.nx ob) 64 (AV.keysAll xs) []=zAo V.hp 64 (AV.keysAll xs) []:=zDG _ _ _ hne;refine⟨?_,⟨by rw[← zCj (Γ:=Γ) al.opds]; exact c0,by rw[nij,hnx],g,xs,s,R,by rw[← zC6 al.opds]; exact c2,c3,c4,c5,?_⟩⟩
 ·generalize hσj:(zA6 V ob).put oj.dst (.op V.nx 0)=Vj at *;unfold outc at h1 ⊢;rw[← al.gate];split at h1
  ·rename_i hg;unfold runs at h1 ⊢;rw[c0]at h1;rw[← zCj (Γ:=Γ) al.opds,c0];dsimp only at h1 ⊢;rw[zP4 hop]at h1 ⊢;dsimp only at h1 ⊢;rw[zSq c2 c3 (zHl c3).2 c4 c5]at h1;rw[zSq (by rw[← zC6 al.opds]; exact c2) c3 (zHl c3).2 c4 c5];obtain⟨os,e1,e2,x,os',e3,e4⟩:=h1;rw[hhp,hnx,ck,zS7 hne];refine⟨os,e1,e2,x,os',e3,?_⟩;have hle:os'.length<=(zAo V.hp 64 (AV.keysAll xs) []).length:=by
    have:(handed V (zAo V.hp 64 (AV.keysAll xs) []) os').nx=V.nx:=by
     rw[← c1,e4,zDo]
    have h3:V.nx+(os'.length - (zAo V.hp 64 (AV.keysAll xs) []).length)=V.nx:=this;omega
   have hbl:zEc (zAo V.hp 64 (AV.keysAll xs) []) (V.nx+1) 0 os'=zEc (zAo V.hp 64 (AV.keysAll xs) []) V.nx 0 os':=zNA (by omega);have hlay:zJw (zEc (zAo V.hp 64 (AV.keysAll xs) []) (V.nx+1) 0 os') (zER (zAo V.hp 64 (AV.keysAll xs) []) (V.nx+1)) 0 os' (addk V.hp V.nx ob) =
     addk (zJw (zEc (zAo V.hp 64 (AV.keysAll xs) []) V.nx 0 os') (zER (zAo V.hp 64 (AV.keysAll xs) []) V.nx) 0 os' V.hp) V.nx ob:=by
    rw[hbl];refine zPF fun j hj=>?_
    have hb:=zNz (nx:=V.nx) (nx':=V.nx+1) (ks:=zAo V.hp 64 (AV.keysAll xs) []) (i:=0+j) (by omega);exact⟨hb.1.symm,hne _ hb.2⟩
   rw[hbl];have hh:handed Vj (zAo V.hp 64 (AV.keysAll xs) []) os'=⟨Vj.env,addk (handed V (zAo V.hp 64 (AV.keysAll xs) []) os').hp V.nx ob,V.nx+1⟩:=by
    unfold handed;rw[hhp,hnx,hlay];have:V.nx+1+(os'.length - (zAo V.hp 64 (AV.keysAll xs) []).length)=V.nx+1 :=(by omega);rw[this]
   rw[hh,hij,e4,← hσj];have hn2:(handed V (zAo V.hp 64 (AV.keysAll xs) []) os').nx=V.nx :=(by rw[← c1,e4,zDo]);have he2:(handed V (zAo V.hp 64 (AV.keysAll xs) []) os').env=V.env:=rfl;generalize handed V (zAo V.hp 64 (AV.keysAll xs) []) os'=τ at *;obtain⟨te,th,tn⟩:=τ;dsimp only at hn2 he2;subst hn2;subst he2;have hcm:=put_comm (V:=(⟨V.env,addk th V.nx ob,V.nx+1⟩:St)) (d:=oi.dst) (e:=oj.dst) (x:=x.ren (zEc (zAo V.hp 64 (AV.keysAll xs) []) V.nx 0 os')) (y:=.op V.nx 0) (fun t ht e=>a2 t ht e);have l1:(zA6 (St.put ⟨V.env,th,V.nx⟩ oi.dst (x.ren (zEc (zAo V.hp 64 (AV.keysAll xs) []) V.nx 0 os'))) ob)=St.put ⟨V.env,addk th V.nx ob,V.nx+1⟩ oi.dst (x.ren (zEc (zAo V.hp 64 (AV.keysAll xs) []) V.nx 0 os')) :=(by cases oi.dst <;> rfl);have l2:(St.put ⟨V.env,th,V.nx⟩ oi.dst (x.ren (zEc (zAo V.hp 64 (AV.keysAll xs) []) V.nx 0 os'))).nx=V.nx :=(by rw[zDo]);rw[l1,l2,hcm];have l3:(⟨((zA6 V ob).put oj.dst (.op V.nx 0)).env,addk th V.nx ob,V.nx+1⟩:St)=St.put ⟨V.env,addk th V.nx ob,V.nx+1⟩ oj.dst (.op V.nx 0) :=(by cases oj.dst <;> rfl);rw[l3]
  ·rename_i hg;subst h1;rw[hij,← hσj];have l1:zA6 (V.put oi.dst (.tup [])) ob=(zA6 V ob).put oi.dst (.tup []) :=(by cases oi.dst <;> rfl);rw[l1,zDo,put_comm (fun t ht e=>a2 t ht e)]
  exact h1.elim
 rw[hhp,ck,hnx];exact zYh fun k hk=>Nat.lt_succ_of_lt (hlow k hk)
def fct (T:Nat->Option TI) (Γ:Nat->Option zAq) (L Ro:List Nat) (n:Nat->Bool) (i:Nat) (o:Oper) (V V1:St):Prop :=
 (inL i Ro=true->roOk T n o V V1)/\(inL (i+1000) Ro=true->inL i L=true->cmF T Γ o V V1)
theorem zM1  (hl:loud=false∨rdOp o=true) (h:outc T Γ all own loud o V V1):V1.nx=V.nx:=by
 cases loud with
 | false=>obtain⟨x,rfl,_⟩:=zK0 h;rw[zDo]
 | true=>
 rcases hl with h' | h'
 ·cases h'
 exact(zEz h' h).2
def aOp (T:Nat->Option TI) (Γ:Nat->Option zAq) (M L Ro:List Nat) (n:Nat->Bool) (ops:List Oper) (i:Nat) (K:St->Prop) (V:St):Prop :=
 match ops[i]? with
 | none=>K V
 | some o=>∃ V1,outc T Γ ops (dIn o.dst M) (inL i L) o V V1/\fct T Γ L Ro n i o V V1/\K V1
def aAny (T:Nat->Option TI) (Γ:Nat->Option zAq) (M L Ro:List Nat) (n:Nat->Bool) (ops:List Oper) (Q:St->Prop):Nat->Array Bool->St->Prop
 | 0,listed,V=>Region.ready .any ops.toArray listed=[]/\Q V
 | fuel+1,listed,V =>
  (Region.ready .any ops.toArray listed=[]->Q V) /\
  ∀ i∈Region.ready .any ops.toArray listed,aOp T Γ M L Ro n ops i (aAny T Γ M L Ro n ops Q fuel (listed.setIfInBounds i true)) V
theorem zLy {o':Oper} (hd:∀ t,o.dst=some t->t ∉ o'.looksAt all.toArray) (h:outc T Γ all own loud o V V1):Alike all o' V1.env V.env:=by
 obtain⟨x,hp,nx,rfl,_⟩:=zEF h;intro t ht;exact Alike.put (V:=⟨V.env,hp,nx⟩) (x:=x) hd t ht
variable {ops:List Oper}{L Ro:List Nat}
theorem zWo {M:List Nat}{Q:St->Prop}{i:Nat} (hi:ops[i]? = some oi){D:List Nat}
  (hD:∀ d od,d∈D->d ≠ i->ops[d]? = some od->∃ e∈od.after,Region.binds .any e=true/\e.on∈D) :
  ∀ (fuel:Nat) (listed:Array Bool) (V Vi:St),below n V->fct T Γ L Ro n i oi V Vi->(∀ d,d∈D->listed.getD d true=false) ->
   (∀ j oj,ops[j]? = some oj->j ≠ i->listed.getD j true=false->j ∉ D->oi.apart ops.toArray oj=true/\(inL i L=false∨inL j L=false∨(rdOp oi=true/\rdOp oj=true)∨(mkS oi (inL i Ro)=true/\rdOp oj=true/\inL j Ro=true)∨(rdOp oi=true/\mkS oj (inL j Ro)=true/\inL i Ro=true)∨(inL i L=true/\inL j L=true/\inL (i+1000) Ro=true/\alOp oj=true))) ->
   i∈Region.ready .any ops.toArray listed->outc T Γ ops (dIn oi.dst M) (inL i L) oi V Vi ->
   aAny T Γ M L Ro n ops Q fuel (listed.setIfInBounds i true) Vi->aAny T Γ M L Ro n ops Q (fuel+1) listed V:=by
 intro fuel;induction fuel with
 | zero =>
  intro listed V Vi _ hro _ _ hr ho H;refine⟨fun h=>(by rw[h]at hr; cases hr),fun j hj=>?_⟩;by_cases hji:j=i
  ·subst hji; unfold aOp; rw[hi]; exact⟨Vi,ho,hro,H⟩
  have:=ready_mono hj hji;rw[H.1]at this;cases this
 | succ fuel ih=>
 intro listed V Vi hn hro hU hfree hr ho H;refine⟨fun h=>(by rw[h]at hr; cases hr),fun j hj=>?_⟩;by_cases hji:j=i
 ·subst hji; unfold aOp; rw[hi]; exact⟨Vi,ho,hro,H⟩
 have h1:=H.2 j (ready_mono hj hji);obtain⟨hjun,oj,hoj,hall⟩:=mem_ready.1 hj;have hoj':ops[j]? = some oj :=(by simpa using hoj);have hnot:j ∉ D:=fun hjD=>by
  obtain⟨e,he,hb,heD⟩:=hD j oj hjD hji hoj';have h1:=hall e he hb;have h0:=hU _ heD;rcases Nat.lt_or_ge e.on listed.size with h' | h'
  ·simp[h']at h0 h1; rw[h0]at h1; cases h1
  simp[Array.getElem?_eq_none h']at h1
 unfold aOp at h1 ⊢;rw[hoj']at h1 ⊢;obtain⟨Vij,h2,h2r,h3⟩:=h1;obtain⟨hap,hll⟩:=hfree j oj hoj' hji hjun hnot;obtain⟨p1,p2,p3⟩:=Oper.apart_spec hap;have key:∃ Vj,outc T Γ ops (dIn oj.dst M) (inL j L) oj V Vj/\outc T Γ ops (dIn oi.dst M) (inL i L) oi Vj Vij/\fct T Γ L Ro n j oj V Vj/\fct T Γ L Ro n i oi Vj Vij:=by
  have old:(inL i L=false∨inL j L=false∨(rdOp oi=true/\rdOp oj=true)∨(mkS oi (inL i Ro)=true/\rdOp oj=true/\inL j Ro=true)∨(rdOp oi=true/\mkS oj (inL j Ro)=true/\inL i Ro=true)) ->
    ∃ Vj,outc T Γ ops (dIn oj.dst M) (inL j L) oj V Vj/\outc T Γ ops (dIn oi.dst M) (inL i L) oi Vj Vij/\fct T Γ L Ro n j oj V Vj/\fct T Γ L Ro n i oi Vj Vij:=fun hll=>by
   obtain⟨Vj,h4,h5⟩:=zYx (n:=n) hn hap (by
    rcases hll with h | h | h | ⟨h,h',h''⟩ | ⟨h,h',h''⟩
    ·exact .inl h
    ·exact .inr (.inl h)
    ·exact .inr (.inr (.inl h))
    ·exact .inr (.inr (.inr (.inl ⟨yBy hn h hro.1 ho,h',zYT h' (h2r.1 h'')⟩)))
    exact .inr (.inr (.inr (.inr ⟨h,yBy (below_le hn (zRf ho)) h' h2r.1 h2,zYT h (hro.1 h'')⟩)))) ho h2
   have al1:Alike ops oj Vi.env V.env:=zLy p1 ho;have al2:Alike ops oi Vj.env V.env:=zLy p3 h4;have still:(Vi.hp=V.hp/\Vij.hp=Vj.hp)∨(Vj.hp=V.hp/\Vij.hp=Vi.hp):=by
    rcases hll with h | h | ⟨h,_⟩ | ⟨_,h,_⟩ | ⟨h,_,_⟩
    ·exact .inl ⟨zEa (.inl h) ho,zEa (.inl h) h5⟩
    ·exact .inr ⟨zEa (.inl h) h4,zEa (.inl h) h2⟩
    ·exact .inl ⟨zEa (.inr h) ho,zEa (.inr h) h5⟩
    ·exact .inr ⟨zEa (.inr h) h4,zEa (.inr h) h2⟩
    exact .inl ⟨zEa (.inr h) ho,zEa (.inr h) h5⟩
   refine⟨Vj,h4,h5,⟨fun h=>?_,fun h hL=>?_⟩,⟨fun h=>?_,fun h hL=>?_⟩⟩
   ·rcases h2r.1 h with h1 | ⟨hr,h1⟩
    ·exact .inl (by rw[← zGt (n:=n) al1.opds]; exact h1)
    refine .inr ⟨hr,fun k hk=>?_⟩;rcases still with ⟨e1,e2⟩ | ⟨e1,_⟩
    ·rw[← e2,h1 k hk,e1]
    rw[e1]
   ·have hc:=h2r.2 h hL;have hs:inL i L=false∨rdOp oi=true:=by
     rcases hll with h | h | ⟨h,_⟩ | ⟨_,h,_⟩ | ⟨h,_,_⟩
     ·exact .inl h
     ·rw[hL]at h; cases h
     ·exact .inr h
     ·rw[zXR hc]at h; cases h
     exact .inr h
    exact zQD hc al1.opds (zEa hs ho).symm (zM1 hs ho).symm (zM1 hs h5).symm
   ·rcases hro.1 h with h1 | ⟨hr,h1⟩
    ·exact .inl (by rw[zGt (n:=n) al2.opds]; exact h1)
    refine .inr ⟨hr,fun k hk=>?_⟩;rcases still with ⟨_,e2⟩ | ⟨e1,e2⟩
    ·rw[e2]
    rw[e2,h1 k hk,e1]
   have hc:=hro.2 h hL;have hs:inL j L=false∨rdOp oj=true:=by
    rcases hll with h | h | ⟨h,_⟩ | ⟨_,h,_⟩ | ⟨h,_,_⟩
    ·rw[hL]at h; cases h
    ·exact .inl h
    ·rw[zXR hc]at h; cases h
    ·exact .inr h
    rw[zXR hc]at h; cases h
   exact zQD hc (fun x hx ty=>(al2.opds x hx ty).symm) (zEa hs h4) (zM1 hs h4) (zM1 hs h2)
  rcases hll with h | h | h | h | h | ⟨hiL,hjL,hf,hal⟩
  ·exact old (.inl h)
  ·exact old (.inr (.inl h))
  ·exact old (.inr (.inr (.inl h)))
  ·exact old (.inr (.inr (.inr (.inl h))))
  ·exact old (.inr (.inr (.inr (.inr h))))
  rw[hiL]at ho;rw[hjL]at h2;obtain⟨Vj,h4,h5,h6⟩:=yCg hap (hro.2 hf hiL) hal ho h2;have al2:Alike ops oi Vj.env V.env:=zLy p3 h4;have hmk:mkOp oj=true:=by
   obtain⟨⟨t,hop⟩,_⟩:=zKq hal;unfold mkOp; rw[hop]
  have hrj:rdOp oj=false:=by
   obtain⟨⟨t,hop⟩,_⟩:=zKq hal;unfold rdOp; rw[hop]
  have m1:=zUr hmk h4;have m2:=zUr hmk h2;refine⟨Vj,by rw[hjL]; exact h4,by rw[hiL]; exact h5,⟨fun _=>.inr ⟨hrj,fun k hk=>m1 k (hn k hk)⟩,fun h hL=>?_⟩,⟨fun h=>?_,fun _ _=>h6⟩⟩
  ·have:=yDs (h2r.2 h hL);rw[hal]at this; cases this
  rcases hro.1 h with h1 | ⟨hr,h1⟩
  ·exact .inl (by rw[zGt (n:=n) al2.opds]; exact h1)
  refine .inr ⟨hr,fun k hk=>?_⟩;rw[m2 k (below_le hn (zRf ho) k hk),h1 k hk,m1 k (hn k hk)]
 obtain⟨Vj,h4,h5,tj,ti⟩:=key;refine⟨Vj,h4,tj,ih (listed.setIfInBounds j true) Vj Vij (below_le hn (zRf h4)) ti (fun d hd=>by rw[getD_set_ne true (fun e=>hnot (by rw[e]; exact hd))]; exact hU d hd) (fun k ok hk hki hun hno=>?_) (ready_mono hr (Ne.symm hji)) h5 (by rw[Array.setIfInBounds_comm _ _ hji]; exact h3)⟩;refine hfree k ok hk hki ?_ hno;by_cases hjk:j=k
 ·subst hjk; exact hjun
 rw[getD_set_ne true hjk]at hun; exact hun
def aLex (T:Nat->Option TI) (Γ:Nat->Option zAq) (M L Ro:List Nat) (n:Nat->Bool) (all:List Oper) (Q:St->Prop):List Oper->Nat->St->Prop
 | [],_,V=>Q V
 | o::os,k,V=>∃ V1,outc T Γ all (dIn o.dst M) (inL k L) o V V1/\fct T Γ L Ro n k o V V1/\aLex T Γ M L Ro n all Q os (k+1) V1
def depL (ops:Array Oper) (i:Nat):List Nat :=
 (List.range ops.size).foldl (fun acc j=>match j == i||(match ops[j]? with | some oj=>oj.after.any (fun e=>Region.binds .any e&&inL e.on acc) | none=>false) with | true=>j::acc | false=>acc) []
def yCn (ops:Array Oper) (L Ro:List Nat) (listed:Array Bool) (i:Nat):Bool :=
 (depL ops i).all (fun d=>!(listed.getD d true))&&(List.range ops.size).all fun j=>j == i||listed.getD j true||inL j (depL ops i)||match ops[i]?,ops[j]? with
  | some oi,some oj=>oi.apart ops oj&&(!(inL i L)||!(inL j L)||(rdOp oi&&rdOp oj)||(mkS oi (inL i Ro)&&rdOp oj&&inL j Ro)||(rdOp oi&&mkS oj (inL j Ro)&&inL i Ro)||(inL i L&&inL j L&&inL (i+1000) Ro&&alOp oj))
  | _,_=>true
def lexD (ops:Array Oper) (L Ro:List Nat):Nat->Nat->Array Bool->Bool
 | 0,_,listed=>(Region.ready .any ops listed).isEmpty
 | fuel+1,k,listed=>(Region.ready .any ops listed).contains k&&yCn ops L Ro listed k&&lexD ops L Ro fuel (k+1) (listed.setIfInBounds k true)
theorem zIl {t:Nat}:∀ {l:List Nat},inL t l=true↔t∈l
 | []=>by simp[inL]
 | x::l=>by
  simp only[inL,bv,mem_cons,zIl (l:=l)];exact⟨fun h=>h.imp ab id,fun h=>h.imp (fun e=>by rw[e]; exact aS _) id⟩
def zSx (ops:Array Oper) (i:Nat):∀ d od,d∈depL ops i->d ≠ i->ops[d]? = some od->∃ e∈od.after,Region.binds .any e=true/\e.on∈depL ops i:=by
 have key:∀ (l:List Nat) (acc:List Nat),(∀ d od,d∈acc->d ≠ i->ops[d]? = some od->∃ e∈od.after,Region.binds .any e=true/\e.on∈acc) ->
   ∀ d od,d∈l.foldl (fun acc j=>match j == i||(match ops[j]? with | some oj=>oj.after.any (fun e=>Region.binds .any e&&inL e.on acc) | none=>false) with | true=>j::acc | false=>acc) acc->d ≠ i->ops[d]? = some od ->
    ∃ e∈od.after,Region.binds .any e=true/\e.on∈l.foldl (fun acc j=>match j == i||(match ops[j]? with | some oj=>oj.after.any (fun e=>Region.binds .any e&&inL e.on acc) | none=>false) with | true=>j::acc | false=>acc) acc:=by
  intro l;induction l with
  | nil=>intro acc h; exact h
  | cons j l ih=>
  intro acc h;simp only[foldl_cons];refine ih _ ?_;intro d od hd hne hod;split at hd
  ·rename_i hc;rcases aR.1 hd with rfl | hd
   ·simp only[bv,bD,hne,false_or,hod]at hc;obtain⟨e,he,hb⟩:=Array.any_eq_true'.1 hc;simp only[af]at hb;exact⟨e,he,hb.1,aG _ (zIl.1 hb.2)⟩
   obtain⟨e,he,hb,hm⟩:=h d od hd hne hod;exact⟨e,he,hb,aG _ hm⟩
  rename_i hc;obtain⟨e,he,hb,hm⟩:=h d od hd hne hod;exact⟨e,he,hb,hm⟩
 exact key _ [] (fun d od hd=>by cases hd)
def zWC {ops:Array Oper}{listed:Array Bool}{i:Nat} (h:yCn ops L Ro listed i=true):(∀ d,d∈depL ops i->listed.getD d true=false) /\
  ∀ (j:Nat) (oj:Oper),ops[j]? = some oj->j ≠ i->listed.getD j true=false->j ∉ depL ops i->∀ {oi:Oper},ops[i]? = some oi->oi.apart ops oj=true/\(inL i L=false∨inL j L=false∨(rdOp oi=true/\rdOp oj=true)∨(mkS oi (inL i Ro)=true/\rdOp oj=true/\inL j Ro=true)∨(rdOp oi=true/\mkS oj (inL j Ro)=true/\inL i Ro=true)∨(inL i L=true/\inL j L=true/\inL (i+1000) Ro=true/\alOp oj=true)):=by
 unfold yCn at h;simp only[af,all_eq_true,mem_range]at h;obtain⟨h1,h2⟩:=h;refine⟨fun d hd=>by simpa using h1 d hd,fun j oj hj hne hun hnd oi hoi=>?_⟩;have h3:=h2 j (aJ.1 hj).1;have hnl:inL j (depL ops i)=false:=by
  cases e:inL j (depL ops i) with
  | false=>rfl
  | true=>exact absurd (zIl.1 e) hnd
 simp only[hj,hoi,bv,af,bD,hne,false_or,hun,bL,Bool.not_eq_true',hnl]at h3;refine⟨h3.1,?_⟩;rcases h3.2 with ((((h3 | h3) | h3) | h3) | h3) | h3
 ·exact .inl h3
 ·exact .inr (.inl h3)
 ·exact .inr (.inr (.inl h3))
 ·exact .inr (.inr (.inr (.inl ⟨h3.1.1,h3.1.2,h3.2⟩)))
 ·exact .inr (.inr (.inr (.inr (.inl ⟨h3.1.1,h3.1.2,h3.2⟩))))
 exact .inr (.inr (.inr (.inr (.inr ⟨h3.1.1.1,h3.1.1.2,h3.1.2,h3.2⟩))))
theorem zVf {M L Ro:List Nat}{n:Nat->Bool}{ops:List Oper}{Q:St->Prop}:∀ (l:List Oper) (k:Nat) (listed:Array Bool) (V:St),below n V->(∀ j,l[j]? = ops[k+j]?) ->
  lexD ops.toArray L Ro l.length k listed=true->aLex T Γ M L Ro n ops Q l k V->aAny T Γ M L Ro n ops Q l.length listed V
 | [],_,_,_,_,_,hB,h=>⟨by simpa [lexD] using hB,h⟩
 | o::l,k,listed,V,hn,hl,hB,h=>by
  have h0:ops[k]? = some o :=(by simpa using (hl 0).symm);have h0':ops.toArray[k]? = some o :=(by simpa using h0);simp only[ah,lexD,af]at hB;obtain⟨⟨hr,hf⟩,hB'⟩:=hB;obtain⟨hf1,hf2⟩:=zWC hf;obtain⟨V1,h1,hro,h2⟩:=h;exact zWo h0 (fun d od hd hne hod=>zSx ops.toArray k d od hd hne (by simpa using hod)) l.length listed V V1 hn hro hf1 (fun j oj hj hne hun hno=>hf2 j oj (by simpa using hj) hne hun hno h0') (by simpa using hr) h1
   (zVf l (k+1) _ V1 (below_le hn (zRf h1)) (fun j=>by have:=hl (j+1); simpa [Nat.add_assoc,Nat.add_comm 1 j] using this) hB' h2)
variable {w:World}{O:Nat->Value}{G:Nat->Prop}{c:Cx}
def zNN {a:Act} (hc:Conc c G O V a w) (hN:∀ (j g:Nat),(all[j]?).bind (fun o=>o.dst)=some g->g<c.N){b:Bool} (hb:gate all o V.env=some b):Region.wanted o (yielded all.toArray a.tmps)=b:=by
 unfold gate at hb;cases hg:o.guard with
 | none=>rw[hg]at hb; cases hb; simp[Region.wanted,hg]
 | some p=>
 obtain⟨j,want⟩:=p;rw[hg]at hb;dsimp only at hb;split at hb
 ·rename_i g hj;split at hb
  ·rename_i b' he;cases hb;have hj':(all.toArray[j]?).bind (·.dst)=some g :=(by simpa using hj);have hy:=zLO hc hj' (hN j g hj) he;simp only[Region.wanted,hg,hy];cases b' <;> cases want <;> rfl
  ·rename_i he;cases hb;have hj':(all.toArray[j]?).bind (·.dst)=some g :=(by simpa using hj);have hy:=zMu hc hj' (hN j g hj) he;simp only[Region.wanted,hg,hy];cases want <;> rfl
  cases hb
 cases hb
theorem zW2 {a:Act} (hT:TOk c.P T) (hΓ:∀ f s,Γ f=some s->PSound c.P f s) (hc:Conc c G O V a w)
  (hN:∀ (j g:Nat),(all[j]?).bind (fun o=>o.dst)=some g->g<c.N) (hd:∀ t,o.dst=some t->t<c.N) (h:outc T Γ all own loud o V V1) {K:Act->World->Prop} {Q:Exit->Act->World->Prop}
  (hK:∀ G' O' a' w',Conc c G' O' V1 a' w'->K a' w') :
  if Region.wanted o (yielded all.toArray a.tmps) then o.wp c.P a w K Q∨(o.asks c.P a w/\LetsOut Q) else K (a.put o.dst undef) w:=by
 have hgate:∀ b,gate all o V.env=some b->Region.wanted o (yielded all.toArray a.tmps)=b:=fun b hb=>zNN hc hN hb
 unfold outc at h;split at h
 ·rename_i hg;rw[if_pos (hgate _ hg)];refine .inl ?_;unfold runs at h;split at h
  ·rename_i g s xs hco;obtain⟨r,x,V',h1,h2,rfl⟩:=h;exact zPt hΓ hc hco h1 h2 fun G' O' w' v h3 h4 h5=>hK G' O' _ w' (h3.put hd h4 h5)
  split at h
  ·split at h
   ·rename_i φ x V' h1;obtain⟨h2,rfl⟩:=h;exact zLK hT hc h1 h2 hd hK
   exact zND hT (fun f s h=>hΓ f s (zHl h).1) hc h fun x V' G' O' w' v e1 h1 h2 h3=>by subst e1; exact hK G' O' _ w' (h1.put hd h2 h3)
  obtain⟨φ,x,h1,h2,rfl⟩:=h;exact zLK (own:=slO own o) hT hc (by unfold step1; rw[h1]) h2 hd hK
 ·rename_i hg;rw[if_neg (by rw[hgate _ hg]; simp)];subst h;exact hK G O _ w (hc.put hd zTK rfl)
 exact h.elim
theorem zKr {c:Cx} (hT:TOk c.P T) (hΓ:∀ f s,Γ f=some s->PSound c.P f s){M L Ro:List Nat}{n:Nat->Bool}{ops:List Oper}{Q:Exit->Act->World->Prop}{K:St->Prop}
  (hK:∀ V G O a w,K V->Conc c G O V a w->Q .normal a w) (hN:∀ (j g:Nat),(ops[j]?).bind (fun o=>o.dst)=some g->g<c.N) :
  ∀ (fuel:Nat) (listed:Array Bool) (V:St) (G:Nat->Prop) (O:Nat->Value) (a:Act) (w:World),aAny T Γ M L Ro n ops K fuel listed V->Conc c G O V a w->wpAny c.P .any ops.toArray Q fuel listed a w
 | 0,listed,V,G,O,a,w,h,hc=>⟨h.1,hK V G O a w h.2 hc⟩
 | fuel+1,listed,V,G,O,a,w,h,hc=>by
  refine⟨fun h0=>hK V G O a w (h.1 h0) hc,fun i hi=>?_⟩;have h1:=h.2 i hi;unfold aOp at h1;unfold wpOp;have hgo:ops.toArray[i]? = ops[i]? :=(by simp);rw[hgo];cases ho:ops[i]? with
  | none=>rw[ho]at h1; exact zKr hT hΓ hK hN fuel _ V G O a w h1 hc
  | some o =>
   rw[ho]at h1;obtain⟨V1,h2,_,h3⟩:=h1;exact zW2 hT hΓ hc hN (fun t ht=>hN i t (by rw[ho]; exact ht)) h2 fun G' O' a' w' hc'=>zKr hT hΓ hK hN fuel _ V1 G' O' a' w' h3 hc'
def yAd (b:Bool) (n:Nat->Bool) (V V':St) (P:Prop):Prop :=
 match b with
 | true=>kp n V V'/\P
 | false=>P
def yAo (b:Bool) (P Q:Prop):Prop :=
 match b with
 | true=>P/\Q
 | false=>Q
def clB (T:Nat->Option TI) (Γ:Nat->Option zAq) (own l:Bool) (o:Oper) (V:St):Bool :=
 match cOp o with
 | false=>false
 | true=>match callOf T Γ o V.env with
  | some _=>false
  | none=>match l with
   | false=>false
   | true=>match step1 T own o V with
    | some _=>false
    | none=>true
def evD (T:Nat->Option TI) (Γ:Nat->Option zAq) (M nm L Ro:List Nat) (n:Nat->Bool) (all:List Oper):List Oper->Nat->St->(St->Prop)->Prop
 | [],_,V,K=>K V
 | o::os,k,V,K =>
   let run:Prop:=match callOf T Γ o V.env with
    | some (_,s,xs)=>∃ r,s.spec xs r/\match zBj (dIn o.dst M&&inL k L) V r with
     | none=>False
     | some (x,V')=>lay (dIn o.dst nm) o.dst x V' fun V''=>evD T Γ M nm L Ro n all os (k+1) V'' K
    | none=>match inL k L with
     | true=>match step1 T (dIn o.dst M) o V with
      | none=>zMC T (noHeap Γ) (dIn o.dst M) o V fun x V'=>yAd (inL k Ro&&cOp o) n V V' (yAo (inL (k+1000) Ro) (cmP T Γ o V V') (lay (dIn o.dst nm) o.dst x V' fun V''=>evD T Γ M nm L Ro n all os (k+1) V'' K))
      | some (φ,x,V')=>andO φ (lay (dIn o.dst nm) o.dst x V' fun V''=>evD T Γ M nm L Ro n all os (k+1) V'' K)
     | false=>match zBH T (slO (dIn o.dst M) o) o V.env with
      | none=>False
      | some (φ,x)=>andO φ (lay (dIn o.dst nm) o.dst x V fun V''=>evD T Γ M nm L Ro n all os (k+1) V'' K)
   match (inL k Ro&&!(zDT T n o V.env||clB T Γ (dIn o.dst M) (inL k L) o V))||(inL (k+1000) Ro&&!(clB T Γ (dIn o.dst M) (inL k L) o V&&o.guard.isNone)) with
   | true=>False
   | false=>match o.guard with
   | none=>run
   | some (j,want)=>match (all[j]?).bind (fun o=>o.dst) with
    | some g=>match V.env g with
     | .s (.bool true)=>match want with | true=>run | false=>lay false o.dst (.tup []) V fun V''=>evD T Γ M nm L Ro n all os (k+1) V'' K
     | .s (.bool false)=>match want with | false=>run | true=>lay false o.dst (.tup []) V fun V''=>evD T Γ M nm L Ro n all os (k+1) V'' K
     | .tup []=>lay false o.dst (.tup []) V fun V''=>evD T Γ M nm L Ro n all os (k+1) V'' K
     | _=>False
    | none=>False
variable {l:Bool}
theorem zZW  (h:clB T Γ own l o V=true):cOp o=true:=by
 unfold clB at h;cases e:cOp o with
 | true=>rfl
 | false=>rw[e]at h; cases h
theorem zXP  (h:clB T Γ own l o V=true):callOf T Γ o V.env=none:=by
 unfold clB at h;cases e:cOp o with
 | false=>rw[e]at h; cases h
 | true=>
 rw[e]at h;cases e2:callOf T Γ o V.env with
 | none=>rfl
 | some y=>rw[e2]at h; cases h
theorem yCc  (h:clB T Γ own l o V=true):l=true:=by
 have h1:=zZW h;have h2:=zXP h;unfold clB at h;rw[h1,h2]at h;cases l with
 | true=>rfl
 | false=>cases h
theorem yDl  (h:clB T Γ own l o V=true):∀ x,¬ step1 T own o V=some x:=fun x hx=>by
 have h1:=zZW h;have h2:=zXP h;have h3:=yCc h;unfold clB at h;rw[h1,h2,h3,hx]at h;cases h
def yBs  (h:cOp o=true):rdOp o=false:=by
 unfold cOp at h;split at h
 ·rename_i hop; unfold rdOp; rw[hop]
 cases h
def kU {P:Prop} (h:P:=by exact hskip (by rw[hg]; exact fun h=>by cases h) (by simp[gate,hg,hj,he]) h):P:=h
theorem zFX {M nm L Ro:List Nat}{n:Nat->Bool}{all:List Oper}{K:St->Prop}:∀ {os:List Oper}{k:Nat}{V:St},evD T Γ M nm L Ro n all os k V K->aLex T Γ M L Ro n all K os k V
 | [],k,V,h=>h
 | o::os,k,V,h=>by
  unfold evD at h;dsimp only at h;have hrun:(match callOf T Γ o V.env with
    | some (_,s,xs)=>∃ r,s.spec xs r/\match zBj (dIn o.dst M&&inL k L) V r with
     | none=>False
     | some (x,V')=>lay (dIn o.dst nm) o.dst x V' fun V''=>evD T Γ M nm L Ro n all os (k+1) V'' K
    | none=>match inL k L with
     | true=>match step1 T (dIn o.dst M) o V with
      | none=>zMC T (noHeap Γ) (dIn o.dst M) o V fun x V'=>yAd (inL k Ro&&cOp o) n V V' (yAo (inL (k+1000) Ro) (cmP T Γ o V V') (lay (dIn o.dst nm) o.dst x V' fun V''=>evD T Γ M nm L Ro n all os (k+1) V'' K))
      | some (φ,x,V')=>andO φ (lay (dIn o.dst nm) o.dst x V' fun V''=>evD T Γ M nm L Ro n all os (k+1) V'' K)
     | false=>match zBH T (slO (dIn o.dst M) o) o V.env with
      | none=>False
      | some (φ,x)=>andO φ (lay (dIn o.dst nm) o.dst x V fun V''=>evD T Γ M nm L Ro n all os (k+1) V'' K)) ->
    (inL k Ro=true->zDT T n o V.env=true∨clB T Γ (dIn o.dst M) (inL k L) o V=true)->(inL (k+1000) Ro=true->clB T Γ (dIn o.dst M) (inL k L) o V=true)->∃ V1,runs T Γ (dIn o.dst M) (inL k L) o V V1/\fct T Γ L Ro n k o V V1/\aLex T Γ M L Ro n all K os (k+1) V1:=fun h hro hcm=>by
   unfold runs;split at h
   ·rename_i g0 s0 xs0 hcoo;obtain⟨r,h1,h2⟩:=h;split at h2
    ·exact h2.elim
    rename_i x V' hx;exact⟨_,⟨r,x,V',h1,hx,rfl⟩,⟨(fun hk=>(hro hk).elim .inl fun hc=>by have hcn:=zXP hc; rw[hcoo]at hcn; cases hcn),(fun hk _=>by have hcn:=zXP (hcm hk); rw[hcoo]at hcn; cases hcn)⟩,zFX (zEE h2)⟩
   split at h
   ·split at h
    ·rename_i hs;rw[zQB]at h;obtain⟨x,hp,nx,e1,_,e2⟩:=zNC h;have e3:((lay (dIn o.dst nm) o.dst x ⟨V.env,hp,nx⟩ fun V''=>evD T Γ M nm L Ro n all os (k+1) V'' K)/\(inL k Ro=true->cOp o=true->kp n V ⟨V.env,hp,nx⟩))/\(inL (k+1000) Ro=true->cmP T Γ o V ⟨V.env,hp,nx⟩):=by
      unfold yAd at e1;unfold yAo at e1;cases e6:inL (k+1000) Ro <;> cases e4:inL k Ro <;> cases e5:cOp o <;> rw[e4,e5,e6]at e1
      ·exact⟨⟨e1,fun h=>by cases h⟩,fun h=>by cases h⟩
      ·exact⟨⟨e1,fun h=>by cases h⟩,fun h=>by cases h⟩
      ·exact⟨⟨e1,fun _ h=>by cases h⟩,fun h=>by cases h⟩
      ·exact⟨⟨e1.2,fun _ _=>e1.1⟩,fun h=>by cases h⟩
      ·exact⟨⟨e1.2,fun h=>by cases h⟩,fun _=>e1.1⟩
      ·exact⟨⟨e1.2,fun h=>by cases h⟩,fun _=>e1.1⟩
      ·exact⟨⟨e1.2,fun _ h=>by cases h⟩,fun _=>e1.1⟩
      exact⟨⟨e1.2.2,fun _ _=>e1.1⟩,fun _=>e1.2.1⟩
     refine⟨_,?_,⟨(fun hk=>(hro hk).elim .inl fun hc=>?_),fun hk _=>?_⟩,zFX (zEE e3.1.1)⟩
     ·rw[hs];exact e2 V.env (fun _ _ _=>rfl) _ rfl
     ·have hco:=zZW hc;exact .inr ⟨yBs hco,fun j hj=>by rw[zDn]; exact e3.1.2 hk hco j hj⟩
     have h8:=yCf (zXP (hcm hk)) (e3.2 hk);exact zQD h8 (fun _ _ _=>rfl) rfl rfl (zDo _ _ _)
    rename_i φ x V' hs;obtain⟨h1,h2⟩:=zQz h;refine⟨_,?_,⟨(fun hk=>(hro hk).elim .inl fun hc=>by exact absurd hs (yDl hc _)),(fun hk _=>absurd hs (yDl (hcm hk) _))⟩,zFX (zEE h2)⟩;rw[hs];exact⟨h1,rfl⟩
   rename_i hll;split at h
   ·exact h.elim
   rename_i φ x hs;obtain⟨h1,h2⟩:=zQz h;exact⟨_,⟨φ,x,hs,h1,rfl⟩,⟨(fun hk=>(hro hk).elim .inl fun hc=>by have hcl:=yCc hc; rw[hll]at hcl; cases hcl),(fun hk _=>by have hcl:=yCc (hcm hk); rw[hll]at hcl; cases hcl)⟩,zFX (zEE h2)⟩
  split at h
  ·exact h.elim
  rename_i hro1;have hro0:=(Bool.or_eq_false_iff.1 hro1).1;have hcm0:=(Bool.or_eq_false_iff.1 hro1).2;have hcm:inL (k+1000) Ro=true->clB T Γ (dIn o.dst M) (inL k L) o V=true/\o.guard=none:=fun hk=>by
   rw[hk]at hcm0;cases e':clB T Γ (dIn o.dst M) (inL k L) o V with
   | false=>rw[e']at hcm0; cases hcm0
   | true=>
   cases e:o.guard with
   | none=>exact⟨rfl,rfl⟩
   | some p=>rw[e',e]at hcm0; cases hcm0
  have hro:inL k Ro=true->zDT T n o V.env=true∨clB T Γ (dIn o.dst M) (inL k L) o V=true:=fun hk=>by
   rw[hk]at hro0;cases e:zDT T n o V.env with
   | true=>exact .inl rfl
   | false=>
   cases e':clB T Γ (dIn o.dst M) (inL k L) o V with
   | true=>exact .inr rfl
   | false=>rw[e,e']at hro0; cases hro0
  have hgo:gate all o V.env=some true->(∃ V1,runs T Γ (dIn o.dst M) (inL k L) o V V1/\fct T Γ L Ro n k o V V1/\aLex T Γ M L Ro n all K os (k+1) V1)->aLex T Γ M L Ro n all K (o::os) k V:=fun hg ⟨V1,h1,h2,h3⟩ =>
   ⟨V1,by unfold outc; rw[hg]; exact h1,h2,h3⟩
  have hskip:o.guard ≠ none->gate all o V.env=some false->(lay false o.dst (.tup []) V fun V''=>evD T Γ M nm L Ro n all os (k+1) V'' K)->aLex T Γ M L Ro n all K (o::os) k V:=fun hgn hg h =>
   ⟨V.put o.dst (.tup []),by unfold outc; rw[hg],⟨(fun hk=>(hro hk).elim .inl fun hc=>.inr ⟨yBs (zZW hc),fun j _=>by rw[zDn]⟩),(fun hk _=>absurd (hcm hk).2 hgn)⟩,zFX (zEE h)⟩
  split at h
  ·rename_i hg;exact hgo (by simp[gate,hg]) (hrun h hro fun hk=>(hcm hk).1)
  rename_i j want hg;split at h
  ·rename_i g hj;split at h
   ·rename_i he;split at h
    ·exact hgo (by simp[gate,hg,hj,he]) (hrun h hro fun hk=>(hcm hk).1)
    exact kU
   ·rename_i he;split at h
    ·exact hgo (by simp[gate,hg,hj,he]) (hrun h hro fun hk=>(hcm hk).1)
    exact kU
   ·rename_i he;exact kU
   exact h.elim
  exact h.elim
def zLd {ro:Option Nat}{n:Nat}{P:Program}{md:Region.Mode}{ops:Array Oper}{Q:Exit->Act->World->Prop} (hQ:¬ LetsOut Q) (hd:∀ (i:Nat) o,ops[i]? = some o->∀ c,o.op ≠ .defer c) :
  ∀ (fuel:Nat) (listed:Array Bool) (a:Act) (w:World),wpAny P md ops Q fuel listed a w->wpAnyIn (rF ro) n P md ops Q fuel listed a w
 | 0,_,_,_,h=>h
 | fuel+1,listed,a,w,h=>⟨h.1,fun i hi=>by
  have h1:=h.2 i hi;unfold wpOp at h1;unfold wpOpIn;cases ho:ops[i]? with
  | none=>rw[ho]at h1; exact zLd hQ hd fuel _ a w h1
  | some o =>
   rw[ho]at h1;dsimp only at h1 ⊢;split
   ·rename_i hw
    rw[if_pos hw]at h1;rcases h1 with h1 | ⟨_,h1⟩
    ·exact yCy (hd i o ho) (fun a w h=>zLd hQ hd fuel _ a w h) h1
    ·exact absurd h1 hQ
   ·rename_i hw
    rw[if_neg hw]at h1;exact⟨fun _ _=>trivial,zLd hQ hd fuel _ _ w h1⟩⟩
variable {Q:End->St->Prop}{id:Nat}
theorem zI6  (hT:TOk c.P T) (hΓ:∀ f s,Γ f=some s->PSound c.P f s) (hm:c.P.follows .mixedOrders=true) (n:Nat->Bool) (hnx:below n V) (M nm L Ro:List Nat)
  (hN:zD4 c.N ops=true) (hB:lexD ops.toArray L Ro ops.length 0 (Array.replicate ops.length false)=true) (h:evD T Γ M nm L Ro n ops ops 0 V (Q .normal)):Tri c (.region id ops.toArray true) V Q:=by
 unfold Tri;intro G O a w hc;refine wpIn_region_any hm (zLd zJU (fun i o hi=>zIg hN o (av (by simpa using hi))) _ _ _ _ ?_);have h1:=zVf (ops:=ops) (M:=M) (L:=L) (Ro:=Ro) (n:=n) ops 0 (Array.replicate ops.length false) V hnx (fun j=>by simp) hB (zFX h);have hc':=hc.ext (Ext.drew hc.lt);have:=zKr hT hΓ (Q:=fun e a' w'=>∃ e' G' O' V',e=zEX e'/\Q e' V'/\Conc c G' O' V' a' w') (fun V' G' O' a' w' hk hc'=>⟨.normal,G',O',V',rfl,hk,hc'⟩) (zDs hN) _ _ V G O a _ h1 hc';exact qA
variable {T:Nat->Option TI}
theorem yEw {Γ:Nat->Option zAq} (n:Nat->Bool) (hnx:below n V) (M nm L Ro:List Nat) (hN:zD4 c.N ops=true) (hB:lexD ops.toArray L Ro ops.length 0 (Array.replicate ops.length false)=true) (h:evD T Γ M nm L Ro n ops ops 0 V (Q .normal)) (hT:TOk c.P T:=by exact tokW) (hΓ:∀ f s,Γ f=some s->PSound c.P f s:=by exact gok) (hm:c.P.follows .mixedOrders=true:=by exact mixed):Tri c (.region id ops.toArray true) V Q :=
 zI6 hT hΓ hm n hnx M nm L Ro hN hB h
def two (a b:Nat) (k:Nat):Bool:=Nat.beq k a||Nat.beq k b
theorem zP8  (hT:TOk c.P T) (hΓ:∀ f s,Γ f=some s->PSound c.P f s) (hm:c.P.follows .mixedOrders=true) (M nm L Ro:List Nat)
  (hN:zD4 c.N ops=true) (hB:lexD ops.toArray L Ro ops.length 0 (Array.replicate ops.length false)=true) (h:evD T Γ M nm L Ro (fun k=>Nat.blt k V.nx) ops ops 0 V (Q .normal)):Tri c (.region id ops.toArray true) V Q :=
 zI6 hT hΓ hm (fun k=>Nat.blt k V.nx) (fun k hk=>aj hk) M nm L Ro hN hB h
theorem zCE {Γ:Nat->Option zAq} (M nm L Ro:List Nat) (hN:zD4 c.N ops=true) (hB:lexD ops.toArray L Ro ops.length 0 (Array.replicate ops.length false)=true) (h:evD T Γ M nm L Ro (fun k=>Nat.blt k V.nx) ops ops 0 V (Q .normal)) (hT:TOk c.P T:=by exact tokW) (hΓ:∀ f s,Γ f=some s->PSound c.P f s:=by exact gok) (hm:c.P.follows .mixedOrders=true:=by exact mixed):Tri c (.region id ops.toArray true) V Q :=
 zP8 hT hΓ hm M nm L Ro hN hB h
theorem zOA  (hT:TOk c.P T) (hΓ:∀ f s,Γ f=some s->PSound c.P f s) (hm:c.P.follows .mixedOrders=true) (M nm L:List Nat)
  (hN:zD4 c.N ops=true) (hB:lexD ops.toArray L [] ops.length 0 (Array.replicate ops.length false)=true) (h:evD T Γ M nm L [] (fun k=>Nat.blt k V.nx) ops ops 0 V (Q .normal)):Tri c (.region id ops.toArray true) V Q :=
 zP8 hT hΓ hm M nm L [] hN hB h
theorem zAw {Γ:Nat->Option zAq} (M nm L:List Nat) (hN:zD4 c.N ops=true) (hB:lexD ops.toArray L [] ops.length 0 (Array.replicate ops.length false)=true) (h:evD T Γ M nm L [] (fun k=>Nat.blt k V.nx) ops ops 0 V (Q .normal)) (hT:TOk c.P T:=by exact tokW) (hΓ:∀ f s,Γ f=some s->PSound c.P f s:=by exact gok) (hm:c.P.follows .mixedOrders=true:=by exact mixed):Tri c (.region id ops.toArray true) V Q :=
 zOA hT hΓ hm M nm L hN hB h
end
end
end Go.Proofs.YtbfnjnljboncgaaGreat
