/-
  Joined out of: AbsL, AbsM, AbsN, AbsO, AbsP, AbsQ, MTyp, MLib, MNod, MCnt, AbsS, AbsT, AbsU, AbsV, AbsW, AbsX, MOwn, DtA.
-/
import Derived.OrdersIn
import Derived.Test.YtbfnjnljboncgaaGreatDoorRows
import Derived.WalkKit
import Derived.ProofKit
import Derived.OpenShut
import Derived.JoinedCond
import Derived.Carry
import Derived.Deep.Slices
import Derived.Lib.Strings
import Derived.Lib.Slices
import Derived.Lib.Bytealg
import Derived.Lib.ItoaNum
import Derived.Test.YtbfnjnljboncgaaGreatDoorProg
import Derived.KernelRfl
import Derived.Test.YtbfnjnljboncgaaGreatDoorZb
set_option linter.unusedVariables false
set_option linter.unusedSimpArgs false
set_option maxHeartbeats 2000000
set_option maxRecDepth 100000
namespace Go.Abs
section
variable {T:Nat->Option TI} {Γ:Nat->Option zAp} {env env':Nat->AV}
theorem zIQ {place:Nat->Option (Nat×Nat)}:∀ {parts:List (Nat×Operand)}{cells:List AV},(∀ p∈parts,∀ ty,opd T env ty p.2=opd T env' ty p.2)->zLq T env place cells parts=zLq T env' place cells parts
 | [],_,_=>rfl
 | (j,x)::r,cells,h=>by
  have h1:=h (j,x) (by simp)
  simp only[zLq,zCw]
  split
  ·rfl
  ·split
   ·rfl
   ·simp only[h1]
    split
    ·exact zIQ fun p hp=>h p (by simp[hp])
    ·rfl
theorem zHP {e:Nat}:∀ {parts:List (Nat×Operand)}{i:Nat},(∀ p∈parts,∀ ty,opd T env ty p.2=opd T env' ty p.2)->zJW T env e i parts=zJW T env' e i parts
 | [],_,_=>rfl
 | (j,x)::r,i,h=>by
  have h1:=h (j,x) (by simp)
  simp only[zJW,h1,zHP (parts:=r) fun p hp=>h p (by simp[hp])]
theorem zJG {ty:Nat}{xs:List Operand} (h:∀ x∈xs,∀ ty,opd T env ty x=opd T env' ty x):xs.map (opd T env ty)=xs.map (opd T env' ty) :=
 List.map_congr_left fun x hx=>h x hx ty
theorem zKA:∀ {xs:List Operand}{ts:List Nat},(∀ x∈xs,∀ ty,opd T env ty x=opd T env' ty x)->opds T env xs ts=opds T env' xs ts
 | [],_,_=>rfl
 | x::xs,ts,h=>by
  simp only[opds,h x (by simp),zKA (xs:=xs) fun y hy=>h y (by simp[hy])]
theorem zM2:∀ {xs:List Operand}{ts:List Nat},(∀ x∈xs,∀ ty,opd T env ty x=opd T env' ty x)->zKz T env xs ts=zKz T env' xs ts
 | [],_,_=>rfl
 | x::xs,ts,h=>by
  simp only[zKz]
  rw[h x List.mem_cons_self,zM2 fun y hy=>h y (List.mem_cons_of_mem _ hy)]
theorem zOD {ty:Nat}{x:Option Operand} (h:∀ y,x=some y->∀ ty,opd T env ty y=opd T env' ty y):x.map (opd T env ty)=x.map (opd T env' ty):=by
 cases x with
 | none=>rfl
 | some y=>simp[h y rfl]
theorem zFH {own:Bool}{o:Oper} (h:∀ x∈o.op.operands,∀ ty,opd T env ty x=opd T env' ty x):zB2 T own o env=zB2 T own o env':=by
 unfold zB2;cases hop:o.op <;> rw[hop]at h <;> simp only[Op.operands]at h <;> (try dsimp only)
 case move x=>simp only[h x (by simp)]
 case assign x=>simp only[h x (by simp)]
 case pick c x y=>simp only[h c (by simp),h x (by simp),h y (by simp)]
 case box t x=>simp only[h x (by simp)]
 case build t parts =>
  unfold zRM;have hp:∀ p∈parts.toList,∀ ty,opd T env ty p.2=opd T env' ty p.2:=fun p hp=>h p.2 (by simp; exact⟨p.1,by simpa using hp⟩)
  split
  ·rfl
  ·split
   ·rw[zIQ hp]
   ·split
    ·rw[zIQ hp]
    ·rfl
   ·rfl
 case buildSlice t n parts =>
  have hp:∀ p∈parts.toList,∀ ty,opd T env ty p.2=opd T env' ty p.2:=fun p hp=>h p.2 (by simp; exact⟨p.1,by simpa using hp⟩)
  split
  ·split
   ·split
    ·rw[zHP hp]
    ·rfl
   ·rfl
  ·rfl
 case load t x=>simp only[h x (by simp)]
 case nilCheck x=>simp only[h x (by simp)]
 case binOp op t x y u=>simp only[h x (by simp),h y (by simp)]
 case unOp op t x=>simp only[h x (by simp)]
 case convert src dst x=>simp only[h x (by simp)]
 case makeFunc fn first caps =>
  cases fn <;> dsimp only
  split
  ·rfl
  ·rename_i cs e1 e2 e3
   have:∀ x∈caps.toList,∀ ty,opd T env ty x=opd T env' ty x:=fun x hx=>h x (by simp; exact .inr (by simpa using hx))
   rw[zJG this]
  ·have:∀ x∈first.toList,∀ ty,opd T env ty x=opd T env' ty x:=fun x hx=>h x (by simp; exact .inl (by simpa using hx))
   rw[zJG this]
  ·rfl
 case slice t x lo hi mx =>
  cases mx <;> dsimp only
  rw[h x (by simp),zOD (fun y e=>h y (by subst e; simp)),zOD (x:=hi) (fun y e=>h y (by subst e; simp))]
 case fieldAddr t x f=>simp only[h x (by simp)]
 case field t x f=>simp only[h x (by simp)]
 case indexAddr t x i=>simp only[h x (by simp),h i (by simp)]
 case index t x i=>simp only[h x (by simp),h i (by simp)]
 case extract x i=>simp only[h x (by simp)]
 case call c =>
  obtain⟨callee,args,ts⟩:=c;have ha:∀ x∈args.toList,∀ ty,opd T env ty x=opd T env' ty x:=fun x hx=>h x (by simp[Call.operands]; exact .inr (by simpa using hx))
  cases callee with
  | builtin b =>
   cases b <;> dsimp only
   case len =>
    split
    ·rename_i x t e1 e2
     rw[ha x (by rw[e1]; simp)]
    ·rfl
   case cap =>
    split
    ·rename_i x t e1 e2
     rw[ha x (by rw[e1]; simp)]
    ·rfl
   case min=>rw[zJG ha]
   case max=>rw[zJG ha]
   case copy =>
    split
    ·rename_i x y t tx e1 e2
     rw[ha x (by rw[e1]; simp),ha y (by rw[e1]; simp)]
    ·rfl
  | value f=>rfl
  | invoke r m=>rfl
theorem zCn {o:Oper} (h:∀ x∈o.op.operands,∀ ty,opd T env ty x=opd T env' ty x):callOf T Γ o env=callOf T Γ o env':=by
 unfold callOf;split
 ·rename_i f args ts ho
  rw[ho]at h;simp only[Op.operands,Call.operands]at h;have ha:∀ x∈args.toList,∀ ty,opd T env ty x=opd T env' ty x:=fun x hx=>h x (by simp; exact .inr (by simpa using hx))
  unfold zQG;rw[h f (by simp),zKA ha,zM2 ha]
 ·rfl
theorem zC1 {o:Oper} (h:∀ x∈o.op.operands,∀ ty,opd T env ty x=opd T env' ty x):zBk T o env=zBk T o env':=by
 unfold zBk;split
 ·rename_i f args ts ho
  rw[ho]at h;simp only[Op.operands,Call.operands]at h;have ha:∀ x∈args.toList,∀ ty,opd T env ty x=opd T env' ty x:=fun x hx=>h x (by simp; exact .inr (by simpa using hx))
  rw[h f (by simp),zKA ha]
 ·rfl
def zWj (env:Nat->AV) (r:Option Prop×AV×St):Option Prop×AV×St:=(r.1,r.2.1,{ r.2.2 with env:=env })
theorem zSH {own:Bool}{o:Oper}{σ:St} (h:∀ x∈o.op.operands,∀ ty,opd T σ.env ty x=opd T env' ty x) :
  zCW T own o { σ with env:=env' }=(zCW T own o σ).map (zWj env'):=by
 obtain⟨env,hp,nx⟩:=σ;dsimp only at h;unfold zCW;simp only[zCw]
 cases hop:o.op <;> rw[hop]at h <;> simp only[Op.operands]at h <;> (try dsimp only)
 case move x =>
  split
  ·split <;> rfl
  ·rfl
 case assign x =>
  split
  ·split <;> rfl
  ·rfl
 case box t x =>
  rw[← h x (by simp)]
  split <;> rfl
 case alloc t=>split <;> rfl
 case buildSlice t n parts =>
  have hp:∀ p∈parts.toList,∀ ty,opd T env ty p.2=opd T env' ty p.2:=fun p hp=>h p.2 (by simp; exact⟨p.1,by simpa using hp⟩)
  split
  ·rw[← zHP hp]
   split
   ·split <;> rfl
   ·rfl
  ·rfl
 case makeSlice t l c =>
  rw[← h l (by simp),← h c (by simp)]
  split
  ·split <;> rfl
  ·rfl
 case load t x =>
  rw[← h x (by simp)]
  split
  ·split
   ·split
    ·split <;> rfl
    ·split <;> rfl
   ·rfl
  ·rfl
 case store t x y =>
  rw[← h x (by simp),← h y (by simp)]
  split
  ·split
   ·split <;> rfl
   ·rfl
  ·split
   ·split <;> rfl
   ·rfl
  ·rfl
 case indexAddr t x i =>
  rw[← h x (by simp),← h i (by simp)]
  split
  ·split
   ·split <;> rfl
   ·rfl
  ·rfl
 case convert src dst x =>
  rw[← h x (by simp)]
  split
  ·split
   ·split <;> rfl
   ·rfl
  ·split
   ·split <;> rfl
   ·rfl
  ·rfl
 case slice t x lo hi mx =>
  cases lo <;> cases hi <;> cases mx <;> try rfl
  rename_i hi
  dsimp only;rw[← h x (by simp),← h hi (by simp)]
  split
  ·split
   ·split <;> rfl
   ·rfl
  ·rfl
 case call c =>
  obtain⟨callee,args,ts⟩:=c;have ha:∀ x∈args.toList,∀ ty,opd T env ty x=opd T env' ty x:=fun x hx=>h x (by simp[Call.operands]; exact .inr (by simpa using hx))
  cases callee with
  | builtin b =>
   cases b <;> try rfl
   case len =>
    dsimp only;split
    ·rename_i x t e1 e2
     rw[← ha x (by rw[e1]; simp)]
     split
     ·split <;> rfl
     ·rfl
    ·rfl
   case append =>
    dsimp only;split
    ·rename_i x y t tx e1 e2
     rw[← ha x (by rw[e1]; simp),← ha y (by rw[e1]; simp)]
     unfold zHA;have e3:∀ z,zIw ⟨env',hp,nx⟩ z=zIw ⟨env,hp,nx⟩ z:=fun z=>by cases z <;> rfl
     have e4:∀ z,rowsOf T ⟨env',hp,nx⟩ tx z=rowsOf T ⟨env,hp,nx⟩ tx z:=fun z=>by unfold rowsOf; rfl
     rw[e3,e4]
     split
     ·split
      ·split
       ·rfl
       ·split <;> rfl
      ·rfl
     ·rfl
    ·rfl
  | value f=>rfl
  | invoke r m=>rfl
 all_goals rfl
theorem zRr {o:Oper}{σ:St} (h:∀ x∈o.op.operands,∀ ty,opd T σ.env ty x=opd T env' ty x) :
  zCC T o { σ with env:=env' }=(zCC T o σ).map (zWj env'):=by
 obtain⟨env,hp,nx⟩:=σ;dsimp only at h;unfold zCC;cases hop:o.op <;> rw[hop]at h <;> simp only[Op.operands]at h <;> (try dsimp only)
 case buildSlice t n parts =>
  have hp:∀ p∈parts.toList,∀ ty,opd T env ty p.2=opd T env' ty p.2:=fun p hp=>h p.2 (by simp; exact⟨p.1,by simpa using hp⟩)
  have hc:∀ (e:Nat) (ps:List (Nat×Operand)) (i:Nat),(∀ p∈ps,∀ ty,opd T env ty p.2=opd T env' ty p.2)->zHO T env e i ps=zHO T env' e i ps:=by
   intro e ps
   induction ps with
   | nil=>intro i _; rfl
   | cons p ps ih =>
    intro i hh;obtain⟨j,x⟩:=p;simp only[zHO]
    rw[hh (j,x) (by simp),ih (i+1) fun p hp=>hh p (by simp[hp])]
  split
  ·rw[← hc _ _ _ hp]
   split
   ·split <;> rfl
   ·rfl
  ·rfl
 case store t x y =>
  rw[← h x (by simp),← h y (by simp)]
  split
  ·split
   ·split <;> rfl
   ·rfl
  ·rfl
 case indexAddr t x i =>
  rw[← h x (by simp),← h i (by simp)]
  split
  ·split
   ·split <;> rfl
   ·rfl
  ·rfl
 case slice t x lo hi mx =>
  cases lo <;> cases hi <;> cases mx <;> try rfl
  rename_i hi
  dsimp only;rw[← h x (by simp),← h hi (by simp)]
  split
  ·split
   ·split <;> rfl
   ·rfl
  ·rfl
 case call c =>
  obtain⟨callee,args,ts⟩:=c;have ha:∀ x∈args.toList,∀ ty,opd T env ty x=opd T env' ty x:=fun x hx=>h x (by simp[Call.operands]; exact .inr (by simpa using hx))
  cases callee with
  | builtin b =>
   cases b <;> try rfl
   case len =>
    dsimp only;split
    ·rename_i x t e1 e2
     rw[← ha x (by rw[e1]; simp)]
     split
     ·split <;> rfl
     ·rfl
    ·rfl
   case append =>
    dsimp only;split
    ·rename_i x y t tx e1 e2
     rw[← ha x (by rw[e1]; simp),← ha y (by rw[e1]; simp)]
     have e3:∀ z,zJu ⟨env',hp,nx⟩ z=zJu ⟨env,hp,nx⟩ z:=fun z=>by cases z <;> rfl
     have e4:∀ z,zJ2 T ⟨env',hp,nx⟩ tx z=zJ2 T ⟨env,hp,nx⟩ tx z:=fun z=>by unfold zJ2; rfl
     rw[e3,e4]
     split
     ·split <;> rfl
     ·rfl
    ·rfl
   case copy =>
    dsimp only;split
    ·rename_i x y t tx e1 e2
     rw[← ha x (by rw[e1]; simp),← ha y (by rw[e1]; simp)]
     have e3:∀ z,zJu ⟨env',hp,nx⟩ z=zJu ⟨env,hp,nx⟩ z:=fun z=>by cases z <;> rfl
     have e4:∀ z,zJ2 T ⟨env',hp,nx⟩ tx z=zJ2 T ⟨env,hp,nx⟩ tx z:=fun z=>by unfold zJ2; rfl
     rw[e3,e4]
     split
     ·split <;> rfl
     ·rfl
    ·rfl
  | value f=>rfl
  | invoke r m=>rfl
 all_goals rfl
theorem zSG {o:Oper}{σ:St} (h:∀ x∈o.op.operands,∀ ty,opd T σ.env ty x=opd T env' ty x) :
  zEV T o { σ with env:=env' }=(zEV T o σ).map (zWj env'):=by
 obtain⟨env,hp,nx⟩:=σ;dsimp only at h;unfold zEV;cases hop:o.op <;> rw[hop]at h <;> simp only[Op.operands]at h <;> (try dsimp only)
 case lookup t m k ok =>
  rw[← h m (by simp),← h k (by simp)]
  split
  ·split
   ·split
    ·split <;> rfl
    ·split <;> rfl
   ·rfl
  ·rfl
 all_goals rfl
theorem zOs {o:Oper}{σ σ':St}{φ:Option Prop}{x:AV} (h:zEV T o σ=some (φ,x,σ')):σ'=σ:=(zMO h).2.1
theorem zHD {own:Bool}{o:Oper}{σ:St} (h:∀ x∈o.op.operands,∀ ty,opd T σ.env ty x=opd T env' ty x) :
  zBN T own o { σ with env:=env' }=(zBN T own o σ).map (zWj env'):=by
 unfold zBN;rw[zSG h,zSH h,zRr h]
 cases zEV T o σ <;> cases zCW T own o σ <;> rfl
theorem zUq {own:Bool}{o:Oper}{σ σ':St}{φ:Option Prop}{x:AV} (h:zBN T own o σ=some (φ,x,σ')):σ'.env=σ.env:=by
 have:=zHD (T:=T) (own:=own) (o:=o) (σ:=σ) (env':=σ.env) (fun _ _ _=>rfl)
 have e:({ σ with env:=σ.env }:St)=σ:=rfl;rw[e,h]at this;simp only[Option.map_some,Option.some.injEq,zWj,Prod.mk.injEq]at this;rw[this.2.2]
def noHeap (Γ:Nat->Option zAp) (f:Nat):Option zAp :=
 match Γ f with
 | some s=>match s.heap with | none=>some s | some _=>none
 | none=>none
theorem zGE {Γ:Nat->Option zAp}{f:Nat}{s:zAp} (h:noHeap Γ f=some s):Γ f=some s/\s.heap=none:=by
 unfold noHeap at h;split at h
 ·split at h
  ·cases h; exact⟨by assumption,by assumption⟩
  ·cases h
 ·cases h
def slO (own:Bool) (o:Oper):Bool :=
 match o.op with
 | .slice ..=>own
 | _=>false
def runs (T:Nat->Option TI) (Γ:Nat->Option zAp) (own loud:Bool) (o:Oper) (σ σ1:St):Prop :=
 match callOf T Γ o σ.env with
 | some (_,s,xs)=>∃ r x σ',s.spec xs r/\zBt (own&&loud) σ r=some (x,σ')/\σ1=σ'.put o.dst x
 | none=>match loud with
  | true=>match step1 T own o σ with
   | some (φ,x,σ')=>φ.getD True/\σ1=σ'.put o.dst x
   | none=>zFx T (noHeap Γ) own o σ fun x σ'=>σ1=σ'.put o.dst x
  | false=>∃ φ x,zB2 T (slO own o) o σ.env=some (φ,x)/\φ.getD True/\σ1=σ.put o.dst x
def gate (all:List Oper) (o:Oper) (env:Nat->AV):Option Bool :=
 match o.guard with
 | none=>some true
 | some (j,want)=>match (all[j]?).bind (fun o=>o.dst) with
  | some g=>match env g with
   | .s (.bool b)=>some (b == want)
   | .tup []=>some false
   | _=>none
  | none=>none
def outc (T:Nat->Option TI) (Γ:Nat->Option zAp) (all:List Oper) (own loud:Bool) (o:Oper) (σ σ1:St):Prop :=
 match gate all o σ.env with
 | some true=>runs T Γ own loud o σ σ1
 | some false=>σ1=σ.put o.dst (.tup [])
 | none=>False
theorem put_comm {σ:St}{d e:Option Nat}{x y:AV} (h:∀ t,d=some t->e ≠ some t):(σ.put d x).put e y=(σ.put e y).put d x:=by
 cases d <;> cases e <;> try rfl
 rename_i d e
 simp only[St.put,St.mk.injEq,and_self,and_true]
 funext t
 cases h1:Nat.beq t e with
 | false=>simp
 | true =>
  cases h2:Nat.beq t d with
  | false=>simp
  | true =>
   have:=Nat.eq_of_beq_eq_true h1;have:=Nat.eq_of_beq_eq_true h2;exact absurd (by congr 1; omega) (h d rfl)
theorem zYY {σ:St}{d:Option Nat}{x:AV}{t:Nat} (h:∀ s,d=some s->s ≠ t):(σ.put d x).env t=σ.env t:=by
 cases d with
 | none=>rfl
 | some d =>
  simp only[St.put]
  cases e:Nat.beq t d with
  | false=>rfl
  | true=>exact absurd (Nat.eq_of_beq_eq_true e).symm (h d rfl)
def Alike (all:List Oper) (o:Oper) (env env':Nat->AV):Prop:=∀ t∈o.looksAt all.toArray,env t=env' t
theorem Alike.opds {all:List Oper}{o:Oper} (h:Alike all o env env'):∀ x∈o.op.operands,∀ ty,opd T env ty x=opd T env' ty x:=fun x hx ty=>by
 cases x with
 | tmp t =>
  refine h t ?_;unfold Oper.looksAt;refine List.mem_append.2 (.inl (List.mem_filterMap.2 ⟨.tmp t,by simpa using hx,rfl⟩))
 | _=>rfl
theorem Alike.gate {all:List Oper}{o:Oper} (h:Alike all o env env'):gate all o env=gate all o env':=by
 unfold Abs.gate;cases hg:o.guard with
 | none=>rfl
 | some p =>
  obtain⟨j,want⟩:=p;dsimp only;cases hj:(all[j]?).bind (fun o=>o.dst) with
  | none=>rfl
  | some g =>
   dsimp only;have:env g=env' g:=h g (by
    unfold Oper.looksAt;refine List.mem_append.2 (.inr ?_)
    rw[hg]
    dsimp only;have:(all.toArray[j]?).bind (fun o=>o.dst)=some g :=(by simpa using hj);rw[this]; simp)
   rw[this]
theorem Alike.put {all:List Oper}{o:Oper}{σ:St}{d:Option Nat}{x:AV} (h:∀ t,d=some t->t ∉ o.looksAt all.toArray):Alike all o (σ.put d x).env σ.env:=fun t ht =>
 zYY fun s hs e=>h s hs (e ▸ ht)
theorem zMf {σ σ':St}{r:Ret}{x:AV} (h:zBt false σ r=some (x,σ')):σ'=σ/\∀ σ2,zBt false σ2 r=some (x,σ2):=by
 unfold zBt at h ⊢;split at h
 ·split at h
  ·rename_i e; cases h; exact⟨rfl,fun σ2=>by simp[e]⟩
  ·cases h
 ·cases h; exact⟨rfl,fun σ2=>rfl⟩
theorem zJr {own:Bool}{σ σ':St}{r:Ret}{x:AV} (h:zBt own σ r=some (x,σ')):σ'.env=σ.env/\∀ env',zBt own { σ with env:=env' } r=some (x,{ σ' with env:=env' }):=by
 unfold zBt at h ⊢;split at h
 ·split at h
  ·rename_i e; cases h; exact⟨rfl,fun σ2=>by simp[e]⟩
  ·cases h
 ·split at h <;> cases h <;> exact⟨rfl,fun σ2=>rfl⟩
theorem zK5 {own:Bool}{σ σ':St}{r:Ret}{x:AV} (h:zBt own σ r=some (x,σ')):σ.nx<=σ'.nx:=by
 unfold zBt at h;split at h
 ·split at h
  ·cases h; exact Nat.le_refl _
  ·cases h
 ·split at h
  ·cases h; exact Nat.le_succ _
  ·cases h; exact Nat.le_refl _
theorem zVQ {own:Bool}{o:Oper}{σ σ':St}{φ:Option Prop}{x:AV} (h:zBN T own o σ=some (φ,x,σ')):σ.nx<=σ'.nx:=by
 have a1:∀ (ob:Ob),σ.nx<=(zBe σ ob).nx:=fun _=>Nat.le_succ _
 have a2:∀ (k:Nat) (ob:Ob),σ.nx<=(zBe (zG1 σ k) ob).nx:=fun _ _=>Nat.le_succ _
 have a3:∀ (k:Nat) (ob:Ob),σ.nx<=(zEv σ k ob).nx:=fun _ _=>Nat.le_refl _
 have a4:∀ (k:Nat),σ.nx<=(zG1 σ k).nx:=fun _=>Nat.le_refl _
 have hA:∀ {φ x σ'},zCC T o σ=some (φ,x,σ')->σ.nx<=σ'.nx:=fun {φ x σ'} h=>by
  unfold zCC at h
  repeat' split at h
  all_goals first | (cases h; first | exact Nat.le_refl _ | exact a1 _ | exact a2 _ _ | exact a3 _ _ | exact a4 _) | cases h
 unfold zBN at h;split at h
 ·rename_i hl
  cases h;rw[zOs hl]; exact Nat.le_refl _
 split at h
 ·rename_i r hl
  cases h;unfold zCW at hl;simp only[zCw]at hl
  repeat' split at hl
  all_goals first | (cases hl; first | exact Nat.le_refl _ | exact a1 _ | exact a2 _ _ | exact a3 _ _ | exact a4 _) | cases hl | skip
  unfold zHA at hl
  repeat' split at hl
  all_goals first | (cases hl; first | exact Nat.le_refl _ | exact a1 _ | exact a2 _ _ | exact a3 _ _ | exact a4 _) | cases hl
 ·exact hA h
theorem zMu {own:Bool}{o:Oper}{σ:St}{K:AV->St->Prop} (h:zFx T (noHeap Γ) own o σ K):∃ x hp nx,K x ⟨σ.env,hp,nx⟩/\σ.nx<=nx /\
  ∀ env',(∀ x∈o.op.operands,∀ ty,opd T σ.env ty x=opd T env' ty x)->∀ K':AV->St->Prop,K' x ⟨env',hp,nx⟩->zFx T (noHeap Γ) own o { σ with env:=env' } K':=by
 unfold zFx at h;split at h
 ·rename_i hraw
  unfold zGk at h;split at h
  ·rename_i t y ho
   split at h
   ·rename_i k sz i off e
    split at h
    ·rename_i e' sz' rows hh
     split at h
     ·rename_i hsz
      obtain⟨hi,row,hrow,h⟩:=h;split at h
      ·rename_i x hl
       refine⟨x,σ.hp,σ.nx,h,Nat.le_refl _,fun env' ha K' hk=>?_⟩
       unfold zFx;dsimp only;rw[← zC1 ha,hraw]
       dsimp only;unfold zGk;rw[ho]
       dsimp only;rw[← ha y (by rw[ho]; simp[Op.operands]),e]
       dsimp only;rw[hh]
       dsimp only;rw[hsz]
       dsimp only;refine⟨hi,row,hrow,?_⟩
       rw[hl]
       exact hk
      ·exact h.elim
     ·exact h.elim
    ·rename_i e' sz' rows hh
     split at h
     ·rename_i hsz
      obtain⟨hi,row,hrow,h⟩:=h;split at h
      ·rename_i x hl
       refine⟨x,σ.hp,σ.nx,h,Nat.le_refl _,fun env' ha K' hk=>?_⟩
       unfold zFx;dsimp only;rw[← zC1 ha,hraw]
       dsimp only;unfold zGk;rw[ho]
       dsimp only;rw[← ha y (by rw[ho]; simp[Op.operands]),e]
       dsimp only;rw[hh]
       dsimp only;rw[hsz]
       dsimp only;refine⟨hi,row,hrow,?_⟩
       rw[hl]
       exact hk
      ·exact h.elim
     ·exact h.elim
    ·exact h.elim
   ·exact h.elim
  ·exact h.elim
 ·rename_i g xs hraw
  split at h
  ·exact h.elim
  ·rename_i s hs
   have hnh:=(zGE hs).2;rw[hnh]at h;dsimp only at h;split at h
   ·rename_i hown
    split at h
    ·exact h.elim
    ·rename_i hp
     obtain⟨r,hr,h⟩:=h;split at h
     ·exact h.elim
     ·rename_i x σ' hx
      obtain⟨e1,e2⟩:=zJr hx;have e3:σ'.env=σ.env :=(by rw[e1]; cases r.flat <;> rfl);refine⟨x,σ'.hp,σ'.nx,by rw[← e3]; exact h,(by have:=zK5 hx; revert this; cases r.flat <;> exact id),fun env' ha K' hk=>?_⟩
      unfold zFx;dsimp only;rw[← zC1 ha,hraw]
      dsimp only;rw[hs]
      dsimp only;rw[hnh]
      dsimp only;rw[hown]
      dsimp only;rw[hp]
      refine⟨r,hr,?_⟩
      have e4:=e2 env';cases hf:r.flat with
      | true=>rw[hf]at e4; dsimp only at e4 ⊢; rw[e4]; exact hk
      | false =>
       rw[hf]at e4;have e5:({ zM9 (AV.keysAll xs) σ with env:=env' }:St)=zM9 (AV.keysAll xs) { σ with env:=env' }:=rfl;dsimp only at e4 ⊢;rw[e5]at e4;rw[e4]; exact hk
   ·rename_i R hown
    have hnil:∀ env',zE0 T s.nil o xs { σ with env:=env' }=((zE0 T s.nil o xs σ).1,{ (zE0 T s.nil o xs σ).2 with env:=env' }):=fun env'=>by
     unfold zE0;split
     ·rfl
     ·split
      ·split
       ·split <;> rfl
       ·rfl
      ·rfl
    have hnenv:(zE0 T s.nil o xs σ).2.env=σ.env:=by
     unfold zE0;split
     ·rfl
     ·split
      ·split
       ·split <;> rfl
       ·rfl
      ·rfl
    have hnnx:σ.nx<=(zE0 T s.nil o xs σ).2.nx:=by
     unfold zE0;split
     ·exact Nat.le_refl _
     ·split
      ·split
       ·split
        ·exact Nat.le_succ _
        ·exact Nat.le_refl _
       ·exact Nat.le_refl _
      ·exact Nat.le_refl _
    cases hna:zE0 T s.nil o xs σ with
    | mk xs1 σ1 =>
    rw[hna]at h hnil hnenv hnnx;dsimp only at h hnil hnenv hnnx;split at h
    ·rename_i os hd hos
     obtain⟨x,os',hR,h⟩:=h;refine⟨_,_,_,by rw[← hnenv]; exact h,Nat.le_trans hnnx (Nat.le_add_right _ _),fun env' ha K' hk=>?_⟩
     unfold zFx;dsimp only;rw[← zC1 ha,hraw]
     dsimp only;rw[hs]
     dsimp only;rw[hnh]
     dsimp only;rw[hown]
     dsimp only;rw[hnil]
     dsimp only;rw[hd,hos]
     exact⟨x,os',hR,hk⟩
    ·exact h.elim
theorem zJZ {all:List Oper}{own:Bool}{o:Oper}{σ σ1:St} (h:outc T Γ all own false o σ σ1):∃ x,σ1=σ.put o.dst x/\∀ σ2:St,Alike all o σ.env σ2.env->outc T Γ all own false o σ2 (σ2.put o.dst x):=by
 unfold outc at h;split at h
 ·rename_i hg
  unfold runs at h;split at h
  ·rename_i g s xs hco
   obtain⟨r,x,σ',h1,h2,h3⟩:=h;rw[Bool.and_false]at h2;obtain⟨rfl,h4⟩:=zMf h2;refine⟨x,h3,fun σ2 ha=>?_⟩
   unfold outc;rw[← ha.gate,hg]
   dsimp only;unfold runs;rw[← zCn (Γ:=Γ) (T:=T) ha.opds,hco]
   exact⟨r,x,σ2,h1,by rw[Bool.and_false]; exact h4 σ2,rfl⟩
  ·rename_i hco
   obtain⟨φ,x,h1,h2,h3⟩:=h;refine⟨x,h3,fun σ2 ha=>?_⟩
   unfold outc;rw[← ha.gate,hg]
   dsimp only;unfold runs;rw[← zCn (Γ:=Γ) (T:=T) ha.opds,hco]
   exact⟨φ,x,by rw[← zFH ha.opds]; exact h1,h2,rfl⟩
 ·rename_i hg
  refine⟨.tup [],h,fun σ2 ha=>?_⟩
  unfold outc;rw[← ha.gate,hg]
 ·exact h.elim
theorem zFb {all:List Oper}{own loud:Bool}{o:Oper}{σ σ1:St} (h:outc T Γ all own loud o σ σ1):∃ x hp nx,σ1=St.put ⟨σ.env,hp,nx⟩ o.dst x/\∀ env',Alike all o σ.env env'->outc T Γ all own loud o { σ with env:=env' } (St.put ⟨env',hp,nx⟩ o.dst x):=by
 unfold outc at h;split at h
 ·rename_i hg
  unfold runs at h;split at h
  ·rename_i g s xs hco
   obtain⟨r,x,σ',h1,h2,h3⟩:=h;obtain⟨h4,h5⟩:=zJr h2;refine⟨x,σ'.hp,σ'.nx,by rw[h3,← h4],fun env' ha=>?_⟩
   unfold outc;dsimp only;rw[← ha.gate,hg]
   dsimp only;unfold runs;dsimp only;rw[← zCn (Γ:=Γ) (T:=T) ha.opds,hco]
   exact⟨r,x,_,h1,h5 env',rfl⟩
  ·rename_i hco
   split at h
   ·split at h
    ·rename_i φ x σ' h1
     obtain⟨h2,h3⟩:=h;have key:σ'.env=σ.env/\∀ env',Alike all o σ.env env'->step1 T own o { σ with env:=env' }=some (φ,x,{ σ' with env:=env' }):=by
      unfold step1 at h1 ⊢;split at h1
      ·rename_i p hp
       cases h1;refine⟨rfl,fun env' ha=>?_⟩
       dsimp only;rw[← zFH ha.opds,hp]
      ·rename_i hp
       refine⟨zUq h1,fun env' ha=>?_⟩
       dsimp only;rw[← zFH ha.opds,hp]
       dsimp only;rw[zHD (σ:=σ) ha.opds,h1]
       rfl
     refine⟨x,σ'.hp,σ'.nx,by rw[h3,← key.1],fun env' ha=>?_⟩
     unfold outc;dsimp only;rw[← ha.gate,hg]
     dsimp only;unfold runs;dsimp only;rw[← zCn (Γ:=Γ) (T:=T) ha.opds,hco]
     dsimp only;rw[key.2 env' ha]
     exact⟨h2,rfl⟩
    ·rename_i h1
     have key:∀ env',Alike all o σ.env env'->step1 T own o { σ with env:=env' }=none:=fun env' ha=>by
      unfold step1 at h1 ⊢;split at h1
      ·cases h1
      ·rename_i hp
       dsimp only;rw[← zFH ha.opds,hp]
       dsimp only;rw[zHD (σ:=σ) ha.opds,h1]
       rfl
     obtain⟨x,hp,nx,e1,_,e2⟩:=zMu h;refine⟨x,hp,nx,e1,fun env' ha=>?_⟩
     unfold outc;dsimp only;rw[← ha.gate,hg]
     dsimp only;unfold runs;dsimp only;rw[← zCn (Γ:=Γ) (T:=T) ha.opds,hco]
     dsimp only;rw[key env' ha]
     exact e2 env' ha.opds _ rfl
   ·obtain⟨φ,x,h1,h2,h3⟩:=h;refine⟨x,σ.hp,σ.nx,h3,fun env' ha=>?_⟩
    unfold outc;dsimp only;rw[← ha.gate,hg]
    dsimp only;unfold runs;dsimp only;rw[← zCn (Γ:=Γ) (T:=T) ha.opds,hco]
    exact⟨φ,x,by rw[← zFH ha.opds]; exact h1,h2,rfl⟩
 ·rename_i hg
  refine⟨.tup [],σ.hp,σ.nx,h,fun env' ha=>?_⟩
  unfold outc;dsimp only;rw[← ha.gate,hg]
 ·exact h.elim
def rdOp (o:Oper):Bool :=
 match o.op with
 | .load _ _=>true
 | .indexAddr _ _ _=>true
 | .call { callee:=.builtin .len,args:=_,argTypes:=_ }=>true
 | _=>false
theorem zUr {own:Bool}{o:Oper}{σ σ':St}{φ:Option Prop}{x:AV} (hr:rdOp o=true) (h:zCW T own o σ=some (φ,x,σ')):σ'=σ:=by
 unfold rdOp at hr;split at hr
 ·rename_i t y ho
  unfold zCW at h; try simp only[zCw]at h
  rw[ho]at h;dsimp only at h
  repeat' split at h
  all_goals first | (cases h; rfl) | cases h
 ·rename_i t y i ho
  unfold zCW at h; try simp only[zCw]at h
  rw[ho]at h;dsimp only at h
  repeat' split at h
  all_goals first | (cases h; rfl) | cases h
 ·rename_i args ts ho
  unfold zCW at h; try simp only[zCw]at h
  rw[ho]at h;dsimp only at h
  repeat' split at h
  all_goals first | (cases h; rfl) | cases h
 ·cases hr
theorem zIU {own:Bool}{o:Oper}{σ σ':St}{φ:Option Prop}{x:AV} (hr:rdOp o=true) (h:zBN T own o σ=some (φ,x,σ')):σ'=σ:=by
 unfold zBN at h;split at h
 ·rename_i hl
  cases h;exact zOs hl
 split at h
 ·rename_i hl
  cases h;exact zUr hr hl
 unfold rdOp at hr;split at hr
 ·rename_i t y ho
  unfold zCC at h;rw[ho]at h;cases h
 ·rename_i t y i ho
  unfold zCC at h;rw[ho]at h;dsimp only at h
  repeat' split at h
  all_goals first | (cases h; rfl) | cases h
 ·rename_i args ts ho
  unfold zCC at h;rw[ho]at h;dsimp only at h
  repeat' split at h
  all_goals first | (cases h; rfl) | cases h
 ·cases hr
theorem zUp {o:Oper}{σ:St}{K:AV->St->Prop} (h:zGk T o σ K):∃ x,K x σ:=by
 unfold zGk at h
 repeat' split at h
 all_goals first | exact h.elim | skip
 all_goals
  obtain⟨_,row,_,h⟩:=h;split at h
  ·exact⟨_,h⟩
  ·exact h.elim
theorem zEK {all:List Oper}{own:Bool}{o:Oper}{σ σ1:St} (hr:rdOp o=true) (h:outc T Γ all own true o σ σ1):σ1.hp=σ.hp/\σ1.nx=σ.nx:=by
 have hput:∀ (σ:St) (d:Option Nat) (x:AV),(σ.put d x).hp=σ.hp/\(σ.put d x).nx=σ.nx:=fun σ d x=>by cases d <;> exact⟨rfl,rfl⟩
 have hco:callOf T Γ o σ.env=none/\zBk T o σ.env=none:=by
  unfold rdOp at hr;split at hr
  ·rename_i ho; unfold callOf zBk; rw[ho]; exact⟨rfl,rfl⟩
  ·rename_i ho; unfold callOf zBk; rw[ho]; exact⟨rfl,rfl⟩
  ·rename_i ho; unfold callOf zBk; rw[ho]; exact⟨rfl,rfl⟩
  ·cases hr
 unfold outc at h;split at h
 ·unfold runs at h;rw[hco.1]at h;dsimp only at h;split at h
  ·rename_i φ x σ' hs
   obtain⟨_,rfl⟩:=h;unfold step1 at hs;split at hs
   ·cases hs; exact hput _ _ _
   ·rw[zIU hr hs]; exact hput _ _ _
  ·unfold zFx at h;rw[hco.2]at h;obtain⟨x,rfl⟩:=zUp h;exact hput _ _ _
 ·subst h; exact hput _ _ _
 ·exact h.elim
theorem zFK (σ:St) (d:Option Nat) (x:AV):(σ.put d x).nx=σ.nx:=by cases d <;> rfl
theorem zFJ (σ:St) (d:Option Nat) (x:AV):(σ.put d x).hp=σ.hp:=by cases d <;> rfl
theorem zPV {all:List Oper}{own loud:Bool}{o:Oper}{σ σ1:St} (h:outc T Γ all own loud o σ σ1):σ.nx<=σ1.nx:=by
 unfold outc at h;split at h
 ·unfold runs at h;split at h
  ·obtain⟨r,x,σ',_,h2,rfl⟩:=h;rw[zFK]; exact zK5 h2
  ·split at h
   ·split at h
    ·rename_i φ x σ' hs
     obtain⟨_,rfl⟩:=h;rw[zFK]
     unfold step1 at hs;split at hs
     ·cases hs; exact Nat.le_refl _
     ·exact zVQ hs
    ·obtain⟨x,hp,nx,e1,e2,_⟩:=zMu h;rw[e1,zFK]; exact e2
   ·obtain⟨φ,x,_,_,rfl⟩:=h;rw[zFK]; exact Nat.le_refl _
 ·subst h; rw[zFK]; exact Nat.le_refl _
 ·exact h.elim
def zRJ (n:Nat->Bool):AV->Bool
 | .op k _=>n k
 | .orow k=>n k
 | .rp k _ _ _=>n k
 | .mref k=>n k
 | _=>true
def zXy (n:Nat->Bool):AV->Bool
 | .orow k=>!(n k)
 | _=>false
def zUt (n:Nat->Bool):AV->Bool
 | .op k _=>!(n k)
 | .rp k _ _ _=>!(n k)
 | _=>false
def zDO (T:Nat->Option TI) (n:Nat->Bool) (o:Oper) (env:Nat->AV):Bool :=
 match o.op with
 | .load _ x=>zRJ n (opd T env 0 x)
 | .indexAddr t x _=>zRJ n (opd T env t x)
 | .call { callee:=.builtin .len,args:=args,argTypes:=ts }=>match args.toList,ts.toList with
  | [x],[t]=>zRJ n (opd T env t x)
  | _,_=>true
 | .call { callee:=.builtin .append,args:=args,argTypes:=ts }=>match args.toList,ts.toList with
  | [x,_],[t,_]=>zXy n (opd T env t x)
  | _,_=>false
 | .store _ x _=>zUt n (opd T env 0 x)
 | _=>false
theorem zFL {n:Nat->Bool}{o:Oper} (h:∀ x∈o.op.operands,∀ ty,opd T env ty x=opd T env' ty x):zDO T n o env=zDO T n o env':=by
 unfold zDO;cases hop:o.op <;> rw[hop]at h <;> simp only[Op.operands]at h <;> (try dsimp only) <;> try rfl
 case load t x=>rw[h x (by simp)]
 case indexAddr t x i=>rw[h x (by simp)]
 case store t x y=>rw[h x (by simp)]
 case call c =>
  obtain⟨callee,args,ts⟩:=c;have ha:∀ x∈args.toList,∀ ty,opd T env ty x=opd T env' ty x:=fun x hx=>h x (by simp[Call.operands]; exact .inr (by simpa using hx))
  cases callee with
  | builtin b =>
   cases b <;> try rfl
   all_goals
    dsimp only;split
    ·rename_i e1 e2
     rw[ha _ (by rw[e1]; simp)]
    ·rfl
  | value f=>rfl
  | invoke r m=>rfl
theorem zWf {own:Bool}{o:Oper}{n:Nat->Bool}{hp hp':Nat->Option Ob}{nx nx':Nat}{φ:Option Prop}{x:AV}{σ':St} (hr:rdOp o=true) (ho:zDO T n o env=true) (hh:∀ k,n k=true->hp' k=hp k)
  (hs:zBN T own o ⟨env,hp,nx⟩=some (φ,x,σ')):zBN T own o ⟨env,hp',nx'⟩=some (φ,x,⟨env,hp',nx'⟩):=by
 have hlt:∀ {k},n k=true->hp' k=hp k:=fun {k} h=>hh k h
 have hsame:=zIU hr hs;subst hsame;unfold rdOp at hr;unfold zDO at ho;unfold zBN zEV zCW zCC at hs ⊢;split at hr
 ·rename_i t y hop
  rw[hop]at ho hs ⊢;dsimp only at ho hs ⊢;cases e:opd T env 0 y <;> rw[e]at hs ho
  case op k off =>
   dsimp only at hs ho ⊢;simp only[zRJ]at ho;rw[hlt ho]
   revert hs
   cases hp k with
   | none=>intro hs; cases hs
   | some ob =>
    cases ob with
    | box bt cells =>
     cases T t with
     | none=>intro hs; cases hs
     | some i =>
      dsimp only;cases i.k.agg <;> dsimp only
      ·cases cells[off]? <;> (intro hs; cases hs) <;> rfl
      ·cases Nat.ble (off+i.size) cells.length <;> (intro hs; cases hs) <;> rfl
    | row=>intro hs; cases hs
    | arow=>intro hs; cases hs
    | any=>intro hs; cases hs
  all_goals ((try dsimp only at hs); cases hs)
 ·rename_i t y i hop
  rw[hop]at ho hs ⊢;dsimp only at ho hs ⊢;cases e:opd T env t y <;> rw[e]at hs ho
  case orow k =>
   simp only[zRJ]at ho
   revert hs
   cases elemOf T t with
   | none=>intro hs; cases hs
   | some p =>
    obtain⟨_,j⟩:=p;cases opd T env 0 i with
    | s s =>
     cases s with
     | int kk m =>
      dsimp only;rw[hlt ho]
      cases hp k with
      | none=>intro hs; cases hs
      | some ob =>
       cases ob with
       | box=>intro hs; cases hs
       | row e sz rows=>dsimp only; cases Nat.beq sz j.size <;> (intro hs; cases hs) <;> rfl
       | arow e sz rows=>dsimp only; cases Nat.beq sz j.size <;> (intro hs; cases hs) <;> rfl
       | any=>intro hs; cases hs
     | _=>intro hs; cases hs
    | _=>intro hs; cases hs
  all_goals
   revert hs
   cases elemOf T t with
   | none=>intro hs; cases hs
   | some p =>
    obtain⟨_,j⟩:=p;cases opd T env 0 i with
    | s s=>cases s <;> (try dsimp only) <;> (intro hs; cases hs)
    | _=>intro hs; cases hs
 ·rename_i args ts hop
  rw[hop]at ho hs ⊢;dsimp only at ho hs ⊢
  revert hs ho
  cases args.toList with
  | nil=>dsimp only; (intro h1 h2; first | exact absurd h1 (by simp) | exact absurd h2 (by simp))
  | cons y l =>
   cases l with
   | cons _ _=>dsimp only; (intro h1 h2; first | exact absurd h1 (by simp) | exact absurd h2 (by simp))
   | nil =>
    cases ts.toList with
    | nil=>dsimp only; (intro h1 h2; first | exact absurd h1 (by simp) | exact absurd h2 (by simp))
    | cons t l =>
     cases l with
     | cons _ _=>dsimp only; (intro h1 h2; first | exact absurd h1 (by simp) | exact absurd h2 (by simp))
     | nil =>
      dsimp only;cases tk T t with
      | slice e =>
       cases opd T env t y with
       | orow k =>
        dsimp only;intro hs ho;simp only[zRJ]at ho;rw[hlt ho]
        revert hs
        cases hp k with
        | none=>dsimp only; intro hs; cases hs
        | some ob=>cases ob <;> dsimp only <;> (intro hs; cases hs) <;> rfl
       | _=>dsimp only; intro hs; cases hs
      | _=>dsimp only; intro hs; cases hs
 ·cases hr
theorem zXN {o:Oper}{n:Nat->Bool}{hp hp':Nat->Option Ob}{nx nx':Nat}{K:AV->St->Prop} (ho:zDO T n o env=true) (hh:∀ k,n k=true->hp' k=hp k) (h:zGk T o ⟨env,hp,nx⟩ K) :
  ∃ x,K x ⟨env,hp,nx⟩/\∀ K':AV->St->Prop,K' x ⟨env,hp',nx'⟩->zGk T o ⟨env,hp',nx'⟩ K':=by
 have hlt:∀ {k},n k=true->hp' k=hp k:=fun {k} h=>hh k h
 unfold zDO at ho;unfold zGk at h ⊢;split at h
 ·rename_i t y hop
  rw[hop]at ho;dsimp only at ho h ⊢;cases e:opd T env 0 y <;> rw[e]at h ho <;> dsimp only at h ho⊢<;> try (exact h.elim)
  simp only[zRJ]at ho;rw[hlt ho]
  revert h
  cases hp _ with
  | none=>intro h; exact h.elim
  | some ob =>
   cases ob with
   | box=>intro h; exact h.elim
   | any=>intro h; exact h.elim
   | row e2 sz rows =>
    dsimp only;cases Nat.beq _ sz with
    | false=>intro h; exact h.elim
    | true =>
     dsimp only;rintro⟨h1,row,h2,h3⟩
     cases hl:zMN T t (row.drop _) with
     | none=>rw[hl]at h3; exact h3.elim
     | some c =>
      rw[hl]at h3;exact⟨c,h3,fun K' hk=>⟨h1,row,h2,by rw[hl]; exact hk⟩⟩
   | arow e2 sz rows =>
    dsimp only;cases Nat.beq _ sz with
    | false=>intro h; exact h.elim
    | true =>
     dsimp only;rintro⟨h1,row,h2,h3⟩
     cases hl:zNJ T t (row.drop _) with
     | none=>rw[hl]at h3; exact h3.elim
     | some c =>
      rw[hl]at h3;exact⟨c,h3,fun K' hk=>⟨h1,row,h2,by rw[hl]; exact hk⟩⟩
 ·exact h.elim
theorem zZl {all:List Oper}{own:Bool}{o:Oper}{n:Nat->Bool}{hp hp':Nat->Option Ob}{nx nx':Nat}{σ1:St} (hr:rdOp o=true) (ho:zDO T n o env=true) (hh:∀ k,n k=true->hp' k=hp k) (hn:∀ k,∀ (h:hp k=none),n k=true->hp' k=none) (h:outc T Γ all own true o ⟨env,hp,nx⟩ σ1)
  (hboth:∀ (r:Option Prop×AV×St),zBN T own o ⟨env,hp',nx'⟩=some r->∃ r',zBN T own o ⟨env,hp,nx⟩=some r') :
  ∃ y,σ1=St.put ⟨env,hp,nx⟩ o.dst y/\outc T Γ all own true o ⟨env,hp',nx'⟩ (St.put ⟨env,hp',nx'⟩ o.dst y):=by
 have hco:callOf T Γ o env=none/\zBk T o env=none:=by
  unfold rdOp at hr;split at hr
  ·rename_i ho; unfold callOf zBk; rw[ho]; exact⟨rfl,rfl⟩
  ·rename_i ho; unfold callOf zBk; rw[ho]; exact⟨rfl,rfl⟩
  ·rename_i ho; unfold callOf zBk; rw[ho]; exact⟨rfl,rfl⟩
  ·cases hr
 unfold outc at h;dsimp only at h;split at h
 ·rename_i hg
  unfold runs at h;dsimp only at h;rw[hco.1]at h;dsimp only at h;split at h
  ·rename_i φ x σ' hs
   obtain⟨h2,rfl⟩:=h;have:σ'=⟨env,hp,nx⟩/\step1 T own o ⟨env,hp',nx'⟩=some (φ,x,⟨env,hp',nx'⟩):=by
    unfold step1 at hs ⊢;dsimp only at hs ⊢;split at hs
    ·cases hs; exact⟨rfl,rfl⟩
    ·exact⟨zIU hr hs,zWf hr ho hh hs⟩
   obtain⟨rfl,h3⟩:=this;refine⟨x,rfl,?_⟩
   unfold outc;dsimp only;rw[hg]
   dsimp only;unfold runs;dsimp only;rw[hco.1]
   dsimp only;rw[h3]
   exact⟨h2,rfl⟩
  ·rename_i hs
   have h3:step1 T own o ⟨env,hp',nx'⟩=none:=by
    unfold step1 at hs ⊢;dsimp only at hs ⊢;split at hs
    ·cases hs
    ·cases hq:zBN T own o ⟨env,hp',nx'⟩ with
     | none=>rfl
     | some r =>
      obtain⟨r',hr'⟩:=hboth r hq;rw[hr']at hs; cases hs
   unfold zFx at h;dsimp only at h;rw[hco.2]at h;dsimp only at h;obtain⟨x,rfl,hx⟩:=zXN (nx':=nx') ho hh h;refine⟨x,rfl,?_⟩
   unfold outc;dsimp only;rw[hg]
   dsimp only;unfold runs;dsimp only;rw[hco.1]
   dsimp only;rw[h3]
   dsimp only;unfold zFx;dsimp only;rw[hco.2]
   exact hx _ rfl
 ·rename_i hg
  subst h;refine⟨.tup [],rfl,?_⟩
  unfold outc;dsimp only;rw[hg]
 ·exact h.elim
theorem zTC {all:List Oper}{own:Bool}{o:Oper}{n:Nat->Bool}{hp hp':Nat->Option Ob}{nx nx':Nat}{σ1:St} (hr:rdOp o=true) (ho:zDO T n o env=true) (hh:∀ k,n k=true->hp' k=hp k) (h:outc T Γ all own true o ⟨env,hp,nx⟩ σ1) :
  ∃ y,σ1=St.put ⟨env,hp,nx⟩ o.dst y/\outc T Γ all own true o ⟨env,hp',nx'⟩ (St.put ⟨env,hp',nx'⟩ o.dst y) :=
 zZl hr ho hh (fun k h hk=>by rw[hh k hk]; exact h) h fun⟨φ,x,σ'⟩ hq=>⟨_,zWf (nx':=nx) hr ho (fun k hk=>(hh k hk).symm) hq⟩
def mkOp (o:Oper):Bool :=
 match o.op with
 | .alloc _=>true
 | .makeSlice _ _ _=>true
 | .box _ _=>true
 | .buildSlice _ _ _=>true
 | _=>false
theorem zXr {own:Bool}{o:Oper}{σ σ':St}{φ:Option Prop}{x:AV} (hm:mkOp o=true) (h:zCW T own o σ=some (φ,x,σ')):∃ ob,σ'=zBe σ ob:=by
 unfold zCW at h;simp only[zCw]at h;unfold mkOp at hm;split at hm
 ·rename_i hop
  rw[hop]at h;dsimp only at h
  repeat' split at h
  all_goals first | (cases h; exact⟨_,rfl⟩) | cases h
 ·rename_i hop
  rw[hop]at h;dsimp only at h
  repeat' split at h
  all_goals first | (cases h; exact⟨_,rfl⟩) | cases h
 ·rename_i hop
  rw[hop]at h;dsimp only at h
  repeat' split at h
  all_goals first | (cases h; exact⟨_,rfl⟩) | cases h
 ·rename_i hop
  rw[hop]at h;dsimp only at h
  repeat' split at h
  all_goals first | (cases h; exact⟨_,rfl⟩) | cases h
 ·cases hm
theorem zVN {o:Oper}{σ σ':St}{φ:Option Prop}{x:AV} (hm:mkOp o=true) (h:zCC T o σ=some (φ,x,σ')):∃ ob,σ'=zBe σ ob:=by
 unfold zCC at h;unfold mkOp at hm;split at hm
 ·rename_i hop
  rw[hop]at h;dsimp only at h
  repeat' split at h
  all_goals first | (cases h; exact⟨_,rfl⟩) | cases h
 ·rename_i hop
  rw[hop]at h;dsimp only at h
  repeat' split at h
  all_goals first | (cases h; exact⟨_,rfl⟩) | cases h
 ·rename_i hop
  rw[hop]at h;dsimp only at h
  repeat' split at h
  all_goals first | (cases h; exact⟨_,rfl⟩) | cases h
 ·rename_i hop
  rw[hop]at h;dsimp only at h
  repeat' split at h
  all_goals first | (cases h; exact⟨_,rfl⟩) | cases h
 ·cases hm
theorem zVP {own:Bool}{o:Oper}{σ σ':St}{φ:Option Prop}{x:AV} (hm:mkOp o=true) (h:zBN T own o σ=some (φ,x,σ')):∃ ob,σ'=zBe σ ob:=by
 unfold zBN at h;split at h
 ·rename_i hl
  unfold zEV at hl;split at hl
  ·rename_i ho
   simp only[mkOp,ho]at hm;cases hm
  ·cases hl
 split at h
 ·rename_i hl
  cases h;exact zXr hm hl
 ·exact zVN hm h
theorem zSI {all:List Oper}{own:Bool}{o:Oper}{σ σ1:St} (hm:mkOp o=true) (h:outc T Γ all own true o σ σ1):∀ k,k<σ.nx->σ1.hp k=σ.hp k:=fun k hk=>by
 have hadd:∀ ob,(zBe σ ob).hp k=σ.hp k:=fun ob=>by
  show(bif Nat.beq k σ.nx then _ else σ.hp k)=σ.hp k;have:Nat.beq k σ.nx=false:=by
   cases e:Nat.beq k σ.nx with
   | false=>rfl
   | true=>have:=Nat.eq_of_beq_eq_true e; omega
  rw[this]; rfl
 have hc:callOf T Γ o σ.env=none/\zBk T o σ.env=none/\∀ K,¬ zGk T o σ K:=by
  unfold mkOp at hm;split at hm <;> first | (rename_i hop; unfold callOf zBk; rw[hop]; exact⟨rfl,rfl,fun K h=>by unfold zGk at h; rw[hop]at h; exact h⟩) | cases hm
 unfold outc at h;split at h
 ·unfold runs at h;rw[hc.1]at h;dsimp only at h;split at h
  ·rename_i φ x σ' hs
   obtain⟨_,rfl⟩:=h;rw[zFJ]
   unfold step1 at hs;split at hs
   ·cases hs; rfl
   ·obtain⟨ob,rfl⟩:=zVP hm hs;exact hadd ob
  ·unfold zFx at h;rw[hc.2.1]at h;exact(hc.2.2 _ h).elim
 ·subst h; rw[zFJ]
 ·exact h.elim
def apOp (o:Oper):Bool :=
 match o.op with
 | .call { callee:=.builtin .append,args:=_,argTypes:=_ }=>true
 | _=>false
def below (n:Nat->Bool) (σ:St):Prop:=∀ k,n k=true->k<σ.nx
theorem below_le {n:Nat->Bool}{σ σ':St} (h:below n σ) (h':σ.nx<=σ'.nx):below n σ':=fun k hk=>Nat.lt_of_lt_of_le (h k hk) h'
def kp (n:Nat->Bool) (σ σ1:St):Prop:=∀ k,n k=true->σ1.hp k=σ.hp k
def cOp (o:Oper):Bool :=
 match o.op with
 | .call { callee:=.value _,args:=_,argTypes:=_ }=>true
 | _=>false
def roOk (T:Nat->Option TI) (n:Nat->Bool) (o:Oper) (σ σ1:St):Prop:=zDO T n o σ.env=true∨(rdOp o=false/\kp n σ σ1)
def mkS (o:Oper) (r:Bool):Bool:=mkOp o||r
theorem zZN {σ:St}{k j:Nat}{ob:Ob} (hj:j ≠ k) (hn:j<σ.nx):(zBe (zG1 σ k) ob).hp j=σ.hp j:=by
 show(bif Nat.beq j σ.nx then _ else (bif Nat.beq j k then none else σ.hp j))=σ.hp j;have e1:Nat.beq j σ.nx=false:=by
  cases e:Nat.beq j σ.nx with
  | false=>rfl
  | true=>have:=Nat.eq_of_beq_eq_true e; omega
 have e2:Nat.beq j k=false:=by
  cases e:Nat.beq j k with
  | false=>rfl
  | true=>exact absurd (Nat.eq_of_beq_eq_true e) hj
 rw[e1,e2]; rfl
theorem zOx {n:Nat->Bool}{x:AV} (h:zXy n x=true):∃ k,x = .orow k/\n k=false:=by
 cases x <;> simp only[zXy]at h <;> first | cases h | exact⟨_,rfl,by simpa using h⟩
theorem zSp {σ:St}{k e sz:Nat}{kk:Option Nat}{rows:List (List S)} (h:zIw σ (.orow k)=some (kk,e,sz,rows)):kk=some k:=by
 unfold zIw at h;dsimp only at h;split at h
 ·cases h; rfl
 ·cases h
theorem zUa {σ:St}{k e sz kk:Nat}{rows:List (List AV)} (h:zJu σ (.orow k)=some (kk,e,sz,rows)):kk=k:=by
 unfold zJu at h;dsimp only at h;split at h
 ·cases h; rfl
 ·cases h
theorem zUo {σ σ':St}{t tx:Nat}{n:Nat->Bool}{x y:AV}{φ:Option Prop}{z:AV} (hx:zXy n x=true) (hn:below n σ) (h:zHA T σ t tx x y=some (φ,z,σ')):∀ j,n j=true->σ'.hp j=σ.hp j:=fun j hj=>by
 obtain⟨k,rfl,hk⟩:=zOx hx;unfold zHA at h;split at h
 ·rename_i h2 h3
  have hb:=zSp h2;subst hb;split at h
  ·dsimp only at h;split at h
   ·cases h; exact zZN (fun e=>by rw[e,hk]at hj; cases hj) (hn j hj)
   ·cases h
  ·cases h
 ·cases h
theorem zYP {all:List Oper}{own:Bool}{o:Oper}{n:Nat->Bool}{σ σ1:St} (hn:below n σ) (hm:apOp o=true) (ho:zDO T n o σ.env=true) (h:outc T Γ all own true o σ σ1):∀ k,n k=true->σ1.hp k=σ.hp k:=fun k hk=>by
 obtain⟨args,ts,hop⟩:∃ args ts,o.op = .call { callee:=.builtin .append,args:=args,argTypes:=ts }:=by
  unfold apOp at hm;split at hm
  ·rename_i a b hop; exact⟨_,_,hop⟩
  ·cases hm
 unfold zDO at ho;rw[hop]at ho;dsimp only at ho;split at ho
 case h_2=>cases ho
 rename_i x y t tx e1 e2
 have hc:callOf T Γ o σ.env=none/\zBk T o σ.env=none/\∀ K,¬ zGk T o σ K:=by
  unfold callOf zBk; rw[hop]; exact⟨rfl,rfl,fun K h=>by unfold zGk at h; rw[hop]at h; exact h⟩
 unfold outc at h;split at h
 ·unfold runs at h;rw[hc.1]at h;dsimp only at h;split at h
  ·rename_i φ z σ' hs
   obtain⟨_,rfl⟩:=h;rw[zFJ]
   unfold step1 at hs;split at hs
   ·cases hs; rfl
   ·unfold zBN zEV at hs;rw[hop]at hs;dsimp only at hs;split at hs
    ·rename_i hl
     cases hs;unfold zCW at hl;simp only[zCw]at hl;rw[hop]at hl;dsimp only at hl;rw[e1,e2]at hl;exact zUo ho hn hl k hk
    ·rename_i hl
     unfold zCC at hs;rw[hop]at hs;dsimp only at hs;rw[e1,e2]at hs;dsimp only at hs;obtain⟨q,hq,hqn⟩:=zOx ho;rw[hq]at hs;split at hs
     ·rename_i h2 h3
      have hb:=zUa h2;subst hb;split at hs
      ·cases hs; exact zZN (fun e=>by rw[e,hqn]at hk; cases hk) (hn _ hk)
      ·cases hs
     ·cases hs
  ·unfold zFx at h;rw[hc.2.1]at h;exact(hc.2.2 _ h).elim
 ·subst h; rw[zFJ]
 ·exact h.elim
def stOp (o:Oper):Bool :=
 match o.op with
 | .store _ _ _=>true
 | _=>false
theorem zWN {σ:St}{k j:Nat}{ob:Ob} (hj:j ≠ k):(zEv σ k ob).hp j=σ.hp j:=by
 show(bif Nat.beq j k then _ else σ.hp j)=σ.hp j;have e2:Nat.beq j k=false:=by
  cases e:Nat.beq j k with
  | false=>rfl
  | true=>exact absurd (Nat.eq_of_beq_eq_true e) hj
 rw[e2]; rfl
theorem zZr {all:List Oper}{own:Bool}{o:Oper}{n:Nat->Bool}{σ σ1:St} (hm:stOp o=true) (ho:zDO T n o σ.env=true) (h:outc T Γ all own true o σ σ1):∀ k,n k=true->σ1.hp k=σ.hp k:=fun k hk=>by
 obtain⟨t,x,y,hop⟩:∃ t x y,o.op = .store t x y:=by
  unfold stOp at hm;split at hm
  ·rename_i a b c hop; exact⟨_,_,_,hop⟩
  ·cases hm
 unfold zDO at ho;rw[hop]at ho;dsimp only at ho;have hc:callOf T Γ o σ.env=none/\zBk T o σ.env=none/\∀ K,¬ zGk T o σ K:=by
  unfold callOf zBk; rw[hop]; exact⟨rfl,rfl,fun K h=>by unfold zGk at h; rw[hop]at h; exact h⟩
 unfold outc at h;split at h
 ·unfold runs at h;rw[hc.1]at h;dsimp only at h;split at h
  ·rename_i φ z σ' hs
   obtain⟨_,rfl⟩:=h;rw[zFJ]
   unfold step1 at hs;split at hs
   ·cases hs; rfl
   ·unfold zBN zEV at hs;rw[hop]at hs;dsimp only at hs;have ne:∀ q,n q=false->k ≠ q:=fun q hq e=>by rw[e,hq]at hk; cases hk
    split at hs
    ·rename_i hl
     cases hs;unfold zCW at hl;simp only[zCw]at hl;rw[hop]at hl;dsimp only at hl;split at hl
     ·rename_i q off i e1 e2
      rw[e1]at ho;simp only[zUt,Bool.not_eq_true']at ho
      repeat' split at hl
      all_goals first | (cases hl; exact zWN (ne _ ho)) | cases hl
     ·rename_i q sz j off i e1 e2
      rw[e1]at ho;simp only[zUt,Bool.not_eq_true']at ho
      repeat' split at hl
      all_goals first | (cases hl; exact zWN (ne _ ho)) | cases hl
     ·cases hl
    ·rename_i hl
     unfold zCC at hs;rw[hop]at hs;dsimp only at hs;split at hs
     ·rename_i q sz j off i e1 e2
      rw[e1]at ho;simp only[zUt,Bool.not_eq_true']at ho
      repeat' split at hs
      all_goals first | (cases hs; exact zWN (ne _ ho)) | cases hs
     ·cases hs
  ·unfold zFx at h;rw[hc.2.1]at h;exact(hc.2.2 _ h).elim
 ·subst h; rw[zFJ]
 ·exact h.elim
theorem zP0 {all:List Oper}{own:Bool}{o:Oper}{σ σ1:St} (h:outc T Γ all own false o σ σ1):σ1.hp=σ.hp:=by
 obtain⟨x,rfl,_⟩:=zJZ h;exact zFJ _ _ _
theorem zDQ {all:List Oper}{own loud:Bool}{o:Oper}{σ σ1:St} (hl:loud=false∨rdOp o=true) (h:outc T Γ all own loud o σ σ1):σ1.hp=σ.hp:=by
 cases loud with
 | false=>exact zP0 h
 | true =>
  rcases hl with hl | hl
  ·cases hl
  ·exact(zEK hl h).1
theorem zZm {all:List Oper}{own loud:Bool}{o:Oper}{n:Nat->Bool}{σ σ1:St} (hn:below n σ) (hm:roOk T n o σ σ1) (h:outc T Γ all own loud o σ σ1):kp n σ σ1:=by
 cases loud with
 | false=>intro k _; rw[zP0 h]
 | true =>
  rcases hm with hm | ⟨_,hm⟩
  ·cases hr:rdOp o with
   | true=>intro k _; rw[(zEK hr h).1]
   | false =>
    cases hst:stOp o with
    | true=>exact zZr hst hm h
    | false =>
    have ha:apOp o=true:=by
     unfold apOp;split
     ·rfl
     ·rename_i hne
      exfalso
      unfold zDO at hm;unfold rdOp at hr;split at hm
      ·rename_i hop; rw[hop]at hr; cases hr
      ·rename_i hop; rw[hop]at hr; cases hr
      ·rename_i hop; rw[hop]at hr; cases hr
      ·rename_i hop; exact hne _ _ hop
      ·rename_i hop; unfold stOp at hst; rw[hop]at hst; cases hst
      ·cases hm
    exact zYP hn ha hm h
  ·exact hm
theorem zWn {o:Oper}{n:Nat->Bool}{σ σ1:St} (hr:rdOp o=true) (h:roOk T n o σ σ1):zDO T n o σ.env=true:=by
 rcases h with h | ⟨h,_⟩
 ·exact h
 ·rw[hr]at h; cases h
theorem zYq {all:List Oper}{own loud:Bool}{o:Oper}{r:Bool}{n:Nat->Bool}{σ σ1:St} (hn:below n σ) (h:mkS o r=true) (hr:r=true->roOk T n o σ σ1) (ho:outc T Γ all own loud o σ σ1):kp n σ σ1:=by
 cases loud with
 | false=>intro k _; rw[zP0 ho]
 | true =>
  unfold mkS at h;simp only[Bool.or_eq_true]at h;rcases h with h | h
  ·intro k hk; exact zSI h ho k (hn k hk)
  ·exact zZm hn (hr h) ho
theorem zV1 {all:List Oper}{oi oj:Oper}{owi owj li lj:Bool}{n:Nat->Bool}{σ σi σij:St} (hn:below n σ) (hap:oi.apart all.toArray oj=true) (hl:li=false∨lj=false∨(rdOp oi=true/\rdOp oj=true) ∨
   (kp n σ σi/\rdOp oj=true/\zDO T n oj σi.env=true)∨(rdOp oi=true/\kp n σi σij/\zDO T n oi σ.env=true))
  (h1:outc T Γ all owi li oi σ σi) (h2:outc T Γ all owj lj oj σi σij):∃ σj,outc T Γ all owj lj oj σ σj/\outc T Γ all owi li oi σj σij:=by
 obtain⟨a1,a2,a3⟩:=Oper.apart_spec hap;have hl':li=false∨lj=false∨(li=true/\lj=true/\((rdOp oi=true/\rdOp oj=true) ∨
   (kp n σ σi/\rdOp oj=true/\zDO T n oj σi.env=true)∨(rdOp oi=true/\kp n σi σij/\zDO T n oi σ.env=true))):=by
  cases li with
  | false=>exact .inl rfl
  | true =>
   cases lj with
   | false=>exact .inr (.inl rfl)
   | true =>
        rcases hl with h | h | h
        ·cases h
        ·cases h
        ·exact .inr (.inr ⟨rfl,rfl,h⟩)
 rcases hl' with rfl | rfl | ⟨rfl,rfl,⟨r1,r2⟩ | ⟨r1,r2,r3⟩ | ⟨r1,r2,r3⟩⟩
 ·obtain⟨x,rfl,hq⟩:=zJZ h1;obtain⟨y,hp,nx,rfl,hy⟩:=zFb h2;have hb:=hy σ.env (Alike.put a1)
  have e:({ (σ.put oi.dst x) with env:=σ.env }:St)=σ :=(by cases oi.dst <;> rfl);rw[e]at hb;refine⟨_,hb,?_⟩
  have:=hq (St.put ⟨σ.env,hp,nx⟩ oj.dst y) (fun t ht=>(Alike.put (σ:=⟨σ.env,hp,nx⟩) (x:=y) a3 t ht).symm)
  rw[put_comm (fun t ht=>fun e=>a2 t e ht)]at this;have e2:St.put ⟨σ.env,hp,nx⟩ oi.dst x=⟨(σ.put oi.dst x).env,hp,nx⟩ :=(by cases oi.dst <;> rfl);rw[e2]at this;exact this
 ·obtain⟨x,hp,nx,rfl,hx⟩:=zFb h1;obtain⟨y,rfl,hq⟩:=zJZ h2;refine⟨_,hq σ (fun t ht=>Alike.put (σ:=⟨σ.env,hp,nx⟩) (x:=x) a1 t ht),?_⟩
  have:=hx (σ.put oj.dst y).env (fun t ht=>(Alike.put a3 t ht).symm)
  have e1:({ σ with env:=(σ.put oj.dst y).env }:St)=σ.put oj.dst y :=(by cases oj.dst <;> rfl);rw[e1]at this;have e2:(⟨(σ.put oj.dst y).env,hp,nx⟩:St)=St.put ⟨σ.env,hp,nx⟩ oj.dst y :=(by cases oj.dst <;> rfl);rw[e2,put_comm (fun t ht=>fun e=>a2 t e ht)]at this;exact this
 ·have s1:=zEK r1 h1;have s2:=zEK r2 h2;obtain⟨x,hp,nx,rfl,hx⟩:=zFb h1;obtain⟨y,hp2,nx2,rfl,hy⟩:=zFb h2;have f1:hp=σ.hp/\nx=σ.nx :=(by cases h:oi.dst <;> (rw[h]at s1; exact s1));obtain⟨rfl,rfl⟩:=f1;have f2:hp2=σ.hp/\nx2=σ.nx :=(by cases h:oi.dst <;> cases h':oj.dst <;> (rw[h,h']at s2; exact s2));obtain⟨rfl,rfl⟩:=f2;have hb:=hy σ.env (Alike.put a1)
  have e:({ St.put ⟨σ.env,σ.hp,σ.nx⟩ oi.dst x with env:=σ.env }:St)=σ :=(by cases oi.dst <;> rfl);rw[e]at hb;refine⟨_,hb,?_⟩
  have:=hx (σ.put oj.dst y).env (fun t ht=>(Alike.put a3 t ht).symm)
  have e1:(⟨(σ.put oj.dst y).env,σ.hp,σ.nx⟩:St)=St.put ⟨σ.env,σ.hp,σ.nx⟩ oj.dst y :=(by cases oj.dst <;> rfl);have e3:St.put ⟨σ.env,σ.hp,σ.nx⟩ oi.dst x=⟨(St.put ⟨σ.env,σ.hp,σ.nx⟩ oi.dst x).env,σ.hp,σ.nx⟩ :=(by cases oi.dst <;> rfl);have key:St.put (St.put ⟨σ.env,σ.hp,σ.nx⟩ oj.dst y) oi.dst x=St.put ⟨(St.put ⟨σ.env,σ.hp,σ.nx⟩ oi.dst x).env,σ.hp,σ.nx⟩ oj.dst y:=by
   rw[put_comm (fun t ht=>fun e=>a2 t e ht),← e3]
  rw[← key]
  have e4:outc T Γ all owi true oi (⟨(σ.put oj.dst y).env,σ.hp,σ.nx⟩:St) (St.put ⟨(σ.put oj.dst y).env,σ.hp,σ.nx⟩ oi.dst x):=this;rw[e1]at e4;exact e4
 ·have m1:=r1;unfold kp at m1;have s2:=zEK r2 h2;obtain⟨x,hp,nx,rfl,hx⟩:=zFb h1;obtain⟨y,hp2,nx2,rfl,hy⟩:=zFb h2;rw[zFJ]at m1;have f2:hp2=hp/\nx2=nx:=by
   rw[zFJ,zFK,zFJ,zFK]at s2; exact s2
  obtain⟨rfl,rfl⟩:=f2;have hb:=hy σ.env (Alike.put a1)
  have e:({ St.put ⟨σ.env,hp2,nx2⟩ oi.dst x with env:=σ.env }:St)=⟨σ.env,hp2,nx2⟩ :=(by cases oi.dst <;> rfl);rw[e]at hb;have hal:Alike all oj (St.put ⟨σ.env,hp2,nx2⟩ oi.dst x).env σ.env:=Alike.put a1;have r3':zDO T n oj σ.env=true :=(by rw[← zFL (n:=n) hal.opds]; exact r3);obtain⟨y',ey,hb'⟩:=zTC (hp':=σ.hp) (nx':=σ.nx) r2 r3' (fun k hk=>(m1 k hk).symm) hb;refine⟨_,hb',?_⟩
  have h3:=hx (σ.put oj.dst y').env (fun t ht=>(Alike.put a3 t ht).symm)
  have e1:({ σ with env:=(σ.put oj.dst y').env }:St)=σ.put oj.dst y' :=(by cases oj.dst <;> rfl);rw[e1]at h3;have e2:(⟨(σ.put oj.dst y').env,hp2,nx2⟩:St)=St.put ⟨σ.env,hp2,nx2⟩ oj.dst y' :=(by cases oj.dst <;> rfl);rw[e2,put_comm (fun t ht=>fun e=>a2 t e ht)]at h3;have e3:St.put (St.put ⟨σ.env,hp2,nx2⟩ oi.dst x) oj.dst y'=St.put ⟨(St.put ⟨σ.env,hp2,nx2⟩ oi.dst x).env,hp2,nx2⟩ oj.dst y:=by
   have e5:(⟨(St.put ⟨σ.env,hp2,nx2⟩ oi.dst x).env,hp2,nx2⟩:St)=St.put ⟨σ.env,hp2,nx2⟩ oi.dst x :=(by cases oi.dst <;> rfl);rw[e5,put_comm (σ:=⟨σ.env,hp2,nx2⟩) (d:=oi.dst) (e:=oj.dst) (x:=x) (y:=y') (fun t ht=>a2 t ht),put_comm (σ:=⟨σ.env,hp2,nx2⟩) (d:=oi.dst) (e:=oj.dst) (x:=x) (y:=y) (fun t ht=>a2 t ht),ey]
  rw[e3]at h3;exact h3
 ·have s1:=zEK r1 h1;have m2:=r2;unfold kp at m2;obtain⟨x,hp,nx,rfl,hx⟩:=zFb h1;obtain⟨y,hp2,nx2,rfl,hy⟩:=zFb h2;rw[zFJ,zFK]at s1;obtain⟨rfl,rfl⟩:=s1;rw[zFJ,zFJ]at m2;have hb:=hy σ.env (Alike.put a1)
  have e:({ St.put ⟨σ.env,σ.hp,σ.nx⟩ oi.dst x with env:=σ.env }:St)=σ :=(by cases oi.dst <;> rfl);rw[e]at hb;refine⟨_,hb,?_⟩
  have hal:Alike all oi σ.env (St.put ⟨σ.env,hp2,nx2⟩ oj.dst y).env:=fun t ht=>(Alike.put (σ:=⟨σ.env,hp2,nx2⟩) (x:=y) a3 t ht).symm
  have r3':zDO T n oi (St.put ⟨σ.env,hp2,nx2⟩ oj.dst y).env=true :=(by rw[← zFL (n:=n) hal.opds]; exact r3);have h1':=hx _ hal;have e6:({ σ with env:=(St.put ⟨σ.env,hp2,nx2⟩ oj.dst y).env }:St)=⟨(St.put ⟨σ.env,hp2,nx2⟩ oj.dst y).env,σ.hp,σ.nx⟩:=rfl;rw[e6]at h1';obtain⟨x',ex,h3⟩:=zTC (hp':=hp2) (nx':=nx2) r1 r3' (fun k hk=>m2 k hk) h1';have e7:(⟨(St.put ⟨σ.env,hp2,nx2⟩ oj.dst y).env,hp2,nx2⟩:St)=St.put ⟨σ.env,hp2,nx2⟩ oj.dst y :=(by cases oj.dst <;> rfl);rw[e7]at h3;have e8:St.put (St.put ⟨σ.env,hp2,nx2⟩ oj.dst y) oi.dst x'=St.put ⟨(St.put ⟨σ.env,σ.hp,σ.nx⟩ oi.dst x).env,hp2,nx2⟩ oj.dst y:=by
   have e9:(⟨(St.put ⟨σ.env,σ.hp,σ.nx⟩ oi.dst x).env,hp2,nx2⟩:St)=St.put ⟨σ.env,hp2,nx2⟩ oi.dst x :=(by cases oi.dst <;> rfl);rw[e9,← put_comm (σ:=⟨σ.env,hp2,nx2⟩) (d:=oj.dst) (e:=oi.dst) (x:=y) (y:=x) (fun t ht=>fun e=>a2 t e ht)]
   cases hd:oi.dst with
   | none=>rfl
   | some d =>
    rw[hd]at ex;have e10:x=x':=by
     have:=congrArg (fun s:St=>s.env d) ex
     simpa [St.put,Nat.beq_refl] using this
    rw[e10]
  rw[e8]at h3;exact h3
def alOp (o:Oper):Bool :=
 match o.op,o.guard with
 | .alloc _,none=>true
 | _,_=>false
theorem zJs {o:Oper} (h:alOp o=true):(∃ t,o.op = .alloc t)/\o.guard=none:=by
 unfold alOp at h;split at h
 ·rename_i t hop hg; exact⟨⟨t,hop⟩,hg⟩
 ·cases h
theorem zZM {all:List Oper}{own:Bool}{o:Oper}{σ σ1:St} (ha:alOp o=true) (h:outc T Γ all own true o σ σ1) :
  ∃ ob,σ1=(zBe σ ob).put o.dst (.op σ.nx 0)/\∀ σ2,outc T Γ all own true o σ2 ((zBe σ2 ob).put o.dst (.op σ2.nx 0)):=by
 obtain⟨⟨t,hop⟩,hg⟩:=zJs ha;have hc:∀ env,callOf T Γ o env=none:=fun env=>by unfold callOf; rw[hop]
 have hp:∀ env,zB2 T own o env=none:=fun env=>by unfold zB2; rw[hop]
 have hgt:∀ env,gate all o env=some true:=fun env=>by unfold gate; rw[hg]
 have hr:∀ σ K,¬ zFx T (noHeap Γ) own o σ K:=fun σ K hk=>by
  unfold zFx zBk at hk;rw[hop]at hk;dsimp only at hk;unfold zGk at hk;rw[hop]at hk;exact hk
 unfold outc runs at h;rw[hgt]at h;dsimp only at h;rw[hc]at h;dsimp only at h;cases hT:T t with
 | none =>
  have hs:step1 T own o σ=none:=by
   unfold step1 zBN zEV zCW zCC;rw[hp,hop]
   dsimp only;rw[hT]
  rw[hs]at h;exact(hr _ _ h).elim
 | some i =>
  have hs:∀ σ:St,step1 T own o σ=some (none,.op σ.nx 0,zBe σ (.box t (i.zero.map zAV))):=fun σ=>by
   unfold step1 zBN zEV zCW;rw[hp,hop]
   dsimp only;rw[hT]
   dsimp only;rw[zCw]
  rw[hs]at h;refine⟨.box t (i.zero.map zAV),h.2,fun σ2=>?_⟩
  unfold outc runs;rw[hgt]
  dsimp only;rw[hc]
  dsimp only;rw[hs]
  exact⟨trivial,rfl⟩
def lowK (m:Nat):List Nat->Bool
 | []=>true
 | k::ks=>match Nat.blt k m with | true=>lowK m ks | false=>false
theorem zRq {m:Nat}:∀ {ks:List Nat},lowK m ks=true->∀ k∈ks,k<m
 | [],_,k,hk=>by cases hk
 | q::ks,h,k,hk=>by
  unfold lowK at h;split at h
  ·rename_i e
   rcases List.mem_cons.1 hk with rfl | hk
   ·exact Nat.le_of_ble_eq_true e
   ·exact zRq h k hk
  ·cases h
theorem zVM {m:Nat}:∀ {ks:List Nat},(∀ k∈ks,k<m)->lowK m ks=true
 | [],_=>rfl
 | q::ks,h=>by
  unfold lowK;have e:Nat.blt q m=true:=Nat.ble_eq_true_of_le (h q List.mem_cons_self)
  rw[e]
  exact zVM fun k hk=>h k (List.mem_cons_of_mem _ hk)
def cmF (T:Nat->Option TI) (Γ:Nat->Option zAp) (o:Oper) (σ σ1:St):Prop :=
 callOf T Γ o σ.env=none/\σ1.nx=σ.nx/\∃ g xs s R,zBk T o σ.env=some (g,xs)/\noHeap Γ g=some s/\s.own=some R/\s.nil=none/\lowK σ.nx (zAl σ.hp 64 (AV.keysAll xs) [])=true
def cmP (T:Nat->Option TI) (Γ:Nat->Option zAp) (o:Oper) (σ σ1:St):Prop :=
 match zBk T o σ.env with
 | some (g,xs)=>match noHeap Γ g with
  | some s=>match s.own,s.nil with
   | some _,none=>lowK σ.nx (zAl σ.hp 64 (AV.keysAll xs) [])=true/\σ1.nx=σ.nx
   | _,_=>False
  | none=>False
 | none=>False
theorem zYU {o:Oper}{σ σ1:St} (hc:callOf T Γ o σ.env=none) (h:cmP T Γ o σ σ1):cmF T Γ o σ σ1:=by
 unfold cmP at h;split at h
 ·rename_i g xs h1
  split at h
  ·rename_i s h2
   split at h
   ·rename_i R h3 h4
    exact⟨hc,h.2,g,xs,s,R,h1,h2,h3,h4,h.1⟩
   ·exact h.elim
  ·exact h.elim
 ·exact h.elim
theorem zKG {o:Oper}{env:Nat->AV}{p:Nat×List AV} (h:zBk T o env=some p):∃ f args ts,o.op = .call { callee:=.value f,args:=args,argTypes:=ts }:=by
 unfold zBk at h;split at h
 ·rename_i f args ts hop; exact⟨f,args,ts,hop⟩
 ·cases h
theorem zZQ {o:Oper}{σ σ1:St} (h:cmF T Γ o σ σ1):alOp o=false:=by
 obtain⟨_,_,g,xs,s,R,h1,_⟩:=h;obtain⟨f,args,ts,hop⟩:=zKG h1;cases e:alOp o with
 | false=>rfl
 | true =>
  obtain⟨⟨t,hop'⟩,_⟩:=zJs e;rw[hop]at hop'; cases hop'
theorem zVh {o:Oper}{σ σ1:St} (h:cmF T Γ o σ σ1):rdOp o=false:=by
 obtain⟨_,_,g,xs,s,R,h1,_⟩:=h;obtain⟨f,args,ts,hop⟩:=zKG h1;unfold rdOp;rw[hop]
theorem zPl {o:Oper}{σ σ1 σ' σ1':St} (h:cmF T Γ o σ σ1) (ha:∀ x∈o.op.operands,∀ ty,opd T σ.env ty x=opd T σ'.env ty x) (hh:σ'.hp=σ.hp) (hn:σ'.nx=σ.nx) (hn1:σ1'.nx=σ1.nx):cmF T Γ o σ' σ1':=by
 obtain⟨h0,h1,g,xs,s,R,h2,h3,h4,h5,h6⟩:=h;exact⟨by rw[← zCn (Γ:=Γ) ha]; exact h0,by rw[hn1,hn]; exact h1,g,xs,s,R,by rw[← zC1 ha]; exact h2,h3,h4,h5,by rw[hn,hh]; exact h6⟩
def addk (hp:Nat->Option Ob) (m:Nat) (ob:Ob):Nat->Option Ob:=fun k=>bif Nat.beq k m then some ob else hp k
theorem zU1 {hp:Nat->Option Ob}{m k:Nat}{ob:Ob} (h:k ≠ m):addk hp m ob k=hp k:=by
 unfold addk;cases e:Nat.beq k m with
 | false=>rfl
 | true=>exact absurd (Nat.eq_of_beq_eq_true e) h
theorem zB3 {hp:Nat->Option Ob}:∀ (n:Nat) (ks acc:List Nat),∀ k∈acc,k∈zAl hp n ks acc
 | 0,_,acc,k,h=>by unfold zAl; exact h
 | n+1,[],acc,k,h=>by unfold zAl; exact h
 | n+1,q::ks,acc,k,h=>by
  unfold zAl;split
  ·exact zB3 n ks acc k h
  ·split
   ·exact zB3 n _ _ k (List.mem_append_left _ h)
   ·exact zB3 n _ _ k (List.mem_append_left _ h)
   ·exact zB3 n _ _ k (List.mem_append_left _ h)
   ·exact zB3 n _ _ k (List.mem_append_left _ h)
theorem zDu {hp:Nat->Option Ob}{m:Nat}{ob:Ob}:∀ (n:Nat) (ks acc:List Nat),(∀ k∈zAl hp n ks acc,k ≠ m)->zAl (addk hp m ob) n ks acc=zAl hp n ks acc
 | 0,_,acc,h=>by unfold zAl; rfl
 | n+1,[],acc,h=>by unfold zAl; rfl
 | n+1,q::ks,acc,h=>by
  unfold zAl at h ⊢;cases e:kin q acc with
  | true =>
   rw[e]at h;dsimp only at h ⊢;exact zDu n ks acc h
  | false =>
   rw[e]at h;dsimp only at h ⊢;have hq:q ≠ m:=by
    split at h
    ·exact h q (zB3 n _ _ q (List.mem_append_right _ List.mem_cons_self))
    ·exact h q (zB3 n _ _ q (List.mem_append_right _ List.mem_cons_self))
    ·exact h q (zB3 n _ _ q (List.mem_append_right _ List.mem_cons_self))
    ·exact h q (zB3 n _ _ q (List.mem_append_right _ List.mem_cons_self))
   rw[zU1 hq]
   split
   ·rename_i t cells e2
    rw[e2]at h;exact zDu n _ _ h
   ·rename_i e sz rows e2
    rw[e2]at h;exact zDu n _ _ h
   ·rename_i τ xs e2
    rw[e2]at h;exact zDu n _ _ h
   ·rename_i e2 e4 e5
    split at h
    ·rename_i t cells e3; exact absurd e3 (e2 t cells)
    ·rename_i e sz rows e3; exact absurd e3 (e4 e sz rows)
    ·rename_i τ xs e3; exact absurd e3 (e5 τ xs)
    ·exact zDu n _ _ h
theorem zRy {hp:Nat->Option Ob}{m:Nat}{ob:Ob}{ρ:List (Nat×Nat)}:∀ {ks:List Nat},(∀ k∈ks,k ≠ m)->zJI (addk hp m ob) ρ ks=zJI hp ρ ks
 | [],_=>rfl
 | k::ks,h=>by
  unfold zJI;rw[zU1 (h k List.mem_cons_self),zRy fun q hq=>h q (List.mem_cons_of_mem _ hq)]
theorem zMn {nx nx':Nat}:∀ {ks:List Nat}{i:Nat},i<ks.length->zEc ks nx i=zEc ks nx' i/\zEc ks nx i∈ks
 | [],i,h=>by simp at h
 | k::ks,0,_=>⟨rfl,List.mem_cons_self⟩
 | k::ks,i+1,h=>by
  have:=zMn (nx:=nx) (nx':=nx') (ks:=ks) (i:=i) (by simpa using h)
  exact⟨this.1,List.mem_cons_of_mem _ this.2⟩
theorem zMo {ks:List Nat}{nx nx':Nat}:∀ {os:List (Option Ob)}{i:Nat},i+os.length<=ks.length->zDG ks nx i os=zDG ks nx' i os
 | [],_,_=>rfl
 | none::r,i,h=>by
  unfold zDG;exact zMo (by simp only[List.length_cons]at h; omega)
 | some o::r,i,h=>by
  unfold zDG;simp only[List.length_cons]at h;rw[(zMn (nx:=nx) (nx':=nx') (by omega)).1,zMo (nx:=nx) (nx':=nx') (by omega)]
theorem zOr {ρ:List (Nat×Nat)}{f f':Nat->Nat}{m:Nat}{ob:Ob}:∀ {os:List (Option Ob)}{i:Nat}{hp:Nat->Option Ob},(∀ j,j<os.length->f' (i+j)=f (i+j)/\f (i+j) ≠ m) ->
  zIA ρ f' i os (addk hp m ob)=addk (zIA ρ f i os hp) m ob
 | [],_,_,_=>rfl
 | o::os,i,hp,h=>by
  unfold zIA;obtain⟨h1,h2⟩:=h 0 (by simp)
  rw[Nat.add_zero]at h1 h2;rw[← zOr (os:=os) (i:=i+1) fun j hj=>by
   have:=h (j+1) (by simp only[List.length_cons]; omega)
   rw[show i+(j+1)=i+1+j by omega]at this;exact this]
  congr 1
  funext k
  rw[h1]
  unfold addk;cases e1:Nat.beq k (f i) with
  | false=>simp only[e1,cond_false]
  | true =>
   cases e2:Nat.beq k m with
   | false=>simp only[e1,cond_false,cond_true]
   | true=>exact absurd ((Nat.eq_of_beq_eq_true e1).symm.trans (Nat.eq_of_beq_eq_true e2)) h2
theorem zQL {own:Bool}{o:Oper}{σ:St}{K:AV->St->Prop}{Γ':Nat->Option zAp}{g:Nat}{xs:List AV}{s:zAp}{R:List AV->List Ob->AV->List (Option Ob)->Prop} (h1:zBk T o σ.env=some (g,xs)) (h2:Γ' g=some s) (h3:s.heap=none) (h4:s.own=some R) (h5:s.nil=none) :
  zFx T Γ' own o σ K↔∃ os,distinct (zAl σ.hp 64 (AV.keysAll xs) [])=true/\zJI σ.hp (zipI 0 (zAl σ.hp 64 (AV.keysAll xs) [])) (zAl σ.hp 64 (AV.keysAll xs) [])=some os /\
   ∃ x os',R (AV.renAll (zipI 0 (zAl σ.hp 64 (AV.keysAll xs) [])) xs) os x os'/\K (x.ren (zDG (zAl σ.hp 64 (AV.keysAll xs) []) σ.nx 0 os')) (handed σ (zAl σ.hp 64 (AV.keysAll xs) []) os'):=by
 unfold zFx;rw[h1]
 dsimp only;rw[h2]
 dsimp only;rw[h3]
 dsimp only;rw[h4]
 unfold zE0;rw[h5]
 dsimp only
 constructor
 ·intro h;split at h
  ·rename_i os e1 e2
   exact⟨os,e1,e2,h⟩
  ·exact h.elim
 ·rintro⟨os,e1,e2,h⟩
  rw[e1,e2]
  exact h
theorem zOS {own:Bool}{o:Oper}{σ:St}{f:Operand}{args:Array Operand}{ts:Array TypeId} (hop:o.op = .call { callee:=.value f,args:=args,argTypes:=ts }):step1 T own o σ=none:=by
 unfold step1 zB2 zBN zEV zCW zCC;rw[hop]
theorem zYV {all:List Oper}{oi oj:Oper}{owi owj:Bool}{σ σi σij:St} (hap:oi.apart all.toArray oj=true) (hc:cmF T Γ oi σ σi) (hal:alOp oj=true)
  (h1:outc T Γ all owi true oi σ σi) (h2:outc T Γ all owj true oj σi σij):∃ σj,outc T Γ all owj true oj σ σj/\outc T Γ all owi true oi σj σij/\cmF T Γ oi σj σij:=by
 obtain⟨a1,a2,a3⟩:=Oper.apart_spec hap;obtain⟨ob,hij,hany⟩:=zZM hal h2;obtain⟨c0,c1,g,xs,s,R,c2,c3,c4,c5,c6⟩:=hc;obtain⟨f,args,ts,hop⟩:=zKG c2;have hlow:=zRq c6;have hne:∀ k∈zAl σ.hp 64 (AV.keysAll xs) [],k ≠ σ.nx:=fun k hk e=>by have:=hlow k hk; omega
 refine⟨_,hany σ,?_⟩
 have henv:((zBe σ ob).put oj.dst (.op σ.nx 0)).env=(σ.put oj.dst (.op σ.nx 0)).env :=(by cases oj.dst <;> rfl);have hhp:((zBe σ ob).put oj.dst (.op σ.nx 0)).hp=addk σ.hp σ.nx ob :=(by cases oj.dst <;> rfl);have hnx:((zBe σ ob).put oj.dst (.op σ.nx 0)).nx=σ.nx+1 :=(by cases oj.dst <;> rfl);have al:Alike all oi σ.env ((zBe σ ob).put oj.dst (.op σ.nx 0)).env:=by
  rw[henv]
  exact fun t ht=>(Alike.put (σ:=σ) (x:=.op σ.nx 0) a3 t ht).symm
 have nij:σij.nx=σ.nx+1:=by
  rw[hij,zFK]
  show σi.nx+1=σ.nx+1;rw[c1]
 have ck:zAl (addk σ.hp σ.nx ob) 64 (AV.keysAll xs) []=zAl σ.hp 64 (AV.keysAll xs) []:=zDu _ _ _ hne;refine⟨?_,⟨by rw[← zCn (Γ:=Γ) al.opds]; exact c0,by rw[nij,hnx],g,xs,s,R,by rw[← zC1 al.opds]; exact c2,c3,c4,c5,?_⟩⟩
 ·generalize hσj:(zBe σ ob).put oj.dst (.op σ.nx 0)=σj at *;unfold outc at h1 ⊢;rw[← al.gate]
  split at h1
  ·rename_i hg
   unfold runs at h1 ⊢;rw[c0]at h1;rw[← zCn (Γ:=Γ) al.opds,c0]
   dsimp only at h1 ⊢;rw[zOS hop]at h1 ⊢;dsimp only at h1 ⊢;rw[zQL c2 c3 (zGE c3).2 c4 c5]at h1;rw[zQL (by rw[← zC1 al.opds]; exact c2) c3 (zGE c3).2 c4 c5]
   obtain⟨os,e1,e2,x,os',e3,e4⟩:=h1;rw[hhp,hnx,ck,zRy hne]
   refine⟨os,e1,e2,x,os',e3,?_⟩
   have hle:os'.length<=(zAl σ.hp 64 (AV.keysAll xs) []).length:=by
    have:(handed σ (zAl σ.hp 64 (AV.keysAll xs) []) os').nx=σ.nx:=by
     rw[← c1,e4,zFK]
    have h3:σ.nx+(os'.length - (zAl σ.hp 64 (AV.keysAll xs) []).length)=σ.nx:=this
    omega
   have hbl:zDG (zAl σ.hp 64 (AV.keysAll xs) []) (σ.nx+1) 0 os'=zDG (zAl σ.hp 64 (AV.keysAll xs) []) σ.nx 0 os':=zMo (by omega)
   have hlay:zIA (zDG (zAl σ.hp 64 (AV.keysAll xs) []) (σ.nx+1) 0 os') (zEc (zAl σ.hp 64 (AV.keysAll xs) []) (σ.nx+1)) 0 os' (addk σ.hp σ.nx ob) =
     addk (zIA (zDG (zAl σ.hp 64 (AV.keysAll xs) []) σ.nx 0 os') (zEc (zAl σ.hp 64 (AV.keysAll xs) []) σ.nx) 0 os' σ.hp) σ.nx ob:=by
    rw[hbl]
    refine zOr fun j hj=>?_
    have hb:=zMn (nx:=σ.nx) (nx':=σ.nx+1) (ks:=zAl σ.hp 64 (AV.keysAll xs) []) (i:=0+j) (by omega)
    exact⟨hb.1.symm,hne _ hb.2⟩
   rw[hbl]
   have hh:handed σj (zAl σ.hp 64 (AV.keysAll xs) []) os'=⟨σj.env,addk (handed σ (zAl σ.hp 64 (AV.keysAll xs) []) os').hp σ.nx ob,σ.nx+1⟩:=by
    unfold handed;rw[hhp,hnx,hlay]
    have:σ.nx+1+(os'.length - (zAl σ.hp 64 (AV.keysAll xs) []).length)=σ.nx+1 :=(by omega);rw[this]
   rw[hh,hij,e4,← hσj]
   have hn2:(handed σ (zAl σ.hp 64 (AV.keysAll xs) []) os').nx=σ.nx :=(by rw[← c1,e4,zFK]);have he2:(handed σ (zAl σ.hp 64 (AV.keysAll xs) []) os').env=σ.env:=rfl;generalize handed σ (zAl σ.hp 64 (AV.keysAll xs) []) os'=τ at *;obtain⟨te,th,tn⟩:=τ;dsimp only at hn2 he2;subst hn2;subst he2;have hcm:=put_comm (σ:=(⟨σ.env,addk th σ.nx ob,σ.nx+1⟩:St)) (d:=oi.dst) (e:=oj.dst) (x:=x.ren (zDG (zAl σ.hp 64 (AV.keysAll xs) []) σ.nx 0 os')) (y:=.op σ.nx 0) (fun t ht e=>a2 t ht e)
   have l1:(zBe (St.put ⟨σ.env,th,σ.nx⟩ oi.dst (x.ren (zDG (zAl σ.hp 64 (AV.keysAll xs) []) σ.nx 0 os'))) ob)=St.put ⟨σ.env,addk th σ.nx ob,σ.nx+1⟩ oi.dst (x.ren (zDG (zAl σ.hp 64 (AV.keysAll xs) []) σ.nx 0 os')) :=(by cases oi.dst <;> rfl);have l2:(St.put ⟨σ.env,th,σ.nx⟩ oi.dst (x.ren (zDG (zAl σ.hp 64 (AV.keysAll xs) []) σ.nx 0 os'))).nx=σ.nx :=(by rw[zFK]);rw[l1,l2,hcm]
   have l3:(⟨((zBe σ ob).put oj.dst (.op σ.nx 0)).env,addk th σ.nx ob,σ.nx+1⟩:St)=St.put ⟨σ.env,addk th σ.nx ob,σ.nx+1⟩ oj.dst (.op σ.nx 0) :=(by cases oj.dst <;> rfl);rw[l3]
  ·rename_i hg
   subst h1;rw[hij,← hσj]
   have l1:zBe (σ.put oi.dst (.tup [])) ob=(zBe σ ob).put oi.dst (.tup []) :=(by cases oi.dst <;> rfl);rw[l1,zFK,put_comm (fun t ht e=>a2 t ht e)]
  ·exact h1.elim
 ·rw[hhp,ck,hnx]
  exact zVM fun k hk=>Nat.lt_succ_of_lt (hlow k hk)
def fct (T:Nat->Option TI) (Γ:Nat->Option zAp) (L Ro:List Nat) (n:Nat->Bool) (i:Nat) (o:Oper) (σ σ1:St):Prop :=
 (inL i Ro=true->roOk T n o σ σ1)/\(inL (i+1000) Ro=true->inL i L=true->cmF T Γ o σ σ1)
theorem zLQ {all:List Oper}{own loud:Bool}{o:Oper}{σ σ1:St} (hl:loud=false∨rdOp o=true) (h:outc T Γ all own loud o σ σ1):σ1.nx=σ.nx:=by
 cases loud with
 | false =>
  obtain⟨x,rfl,_⟩:=zJZ h;rw[zFK]
 | true =>
  rcases hl with h' | h'
  ·cases h'
  ·exact(zEK h' h).2
def aOp (T:Nat->Option TI) (Γ:Nat->Option zAp) (M L Ro:List Nat) (n:Nat->Bool) (ops:List Oper) (i:Nat) (K:St->Prop) (σ:St):Prop :=
 match ops[i]? with
 | none=>K σ
 | some o=>∃ σ1,outc T Γ ops (dIn o.dst M) (inL i L) o σ σ1/\fct T Γ L Ro n i o σ σ1/\K σ1
def aAny (T:Nat->Option TI) (Γ:Nat->Option zAp) (M L Ro:List Nat) (n:Nat->Bool) (ops:List Oper) (Q:St->Prop):Nat->Array Bool->St->Prop
 | 0,listed,σ=>Region.ready .any ops.toArray listed=[]/\Q σ
 | fuel+1,listed,σ =>
  (Region.ready .any ops.toArray listed=[]->Q σ) /\
  ∀ i∈Region.ready .any ops.toArray listed,aOp T Γ M L Ro n ops i (aAny T Γ M L Ro n ops Q fuel (listed.setIfInBounds i true)) σ
theorem zKC {all:List Oper}{own loud:Bool}{o o':Oper}{σ σ1:St} (hd:∀ t,o.dst=some t->t ∉ o'.looksAt all.toArray) (h:outc T Γ all own loud o σ σ1):Alike all o' σ1.env σ.env:=by
 obtain⟨x,hp,nx,rfl,_⟩:=zFb h;intro t ht;exact Alike.put (σ:=⟨σ.env,hp,nx⟩) (x:=x) hd t ht
theorem zT7 {M L Ro:List Nat}{n:Nat->Bool}{ops:List Oper}{Q:St->Prop}{i:Nat}{oi:Oper} (hi:ops[i]? = some oi){D:List Nat}
  (hD:∀ d od,d∈D->d ≠ i->ops[d]? = some od->∃ e∈od.after,Region.binds .any e=true/\e.on∈D) :
  ∀ (fuel:Nat) (listed:Array Bool) (σ σi:St),below n σ->fct T Γ L Ro n i oi σ σi->(∀ d,d∈D->listed.getD d true=false) ->
   (∀ j oj,ops[j]? = some oj->j ≠ i->listed.getD j true=false->j ∉ D->oi.apart ops.toArray oj=true/\(inL i L=false∨inL j L=false∨(rdOp oi=true/\rdOp oj=true)∨(mkS oi (inL i Ro)=true/\rdOp oj=true/\inL j Ro=true)∨(rdOp oi=true/\mkS oj (inL j Ro)=true/\inL i Ro=true)∨(inL i L=true/\inL j L=true/\inL (i+1000) Ro=true/\alOp oj=true))) ->
   i∈Region.ready .any ops.toArray listed->outc T Γ ops (dIn oi.dst M) (inL i L) oi σ σi ->
   aAny T Γ M L Ro n ops Q fuel (listed.setIfInBounds i true) σi->aAny T Γ M L Ro n ops Q (fuel+1) listed σ:=by
 intro fuel
 induction fuel with
 | zero =>
  intro listed σ σi _ hro _ _ hr ho H;refine⟨fun h=>(by rw[h]at hr; cases hr),fun j hj=>?_⟩
  by_cases hji:j=i
  ·subst hji; unfold aOp; rw[hi]; exact⟨σi,ho,hro,H⟩
  ·have:=ready_mono hj hji;rw[H.1]at this;cases this
 | succ fuel ih =>
  intro listed σ σi hn hro hU hfree hr ho H;refine⟨fun h=>(by rw[h]at hr; cases hr),fun j hj=>?_⟩
  by_cases hji:j=i
  ·subst hji; unfold aOp; rw[hi]; exact⟨σi,ho,hro,H⟩
  ·have h1:=H.2 j (ready_mono hj hji)
   obtain⟨hjun,oj,hoj,hall⟩:=mem_ready.1 hj;have hoj':ops[j]? = some oj :=(by simpa using hoj);have hnot:j ∉ D:=fun hjD=>by
    obtain⟨e,he,hb,heD⟩:=hD j oj hjD hji hoj';have h1:=hall e he hb;have h0:=hU _ heD;rcases Nat.lt_or_ge e.on listed.size with h' | h'
    ·simp[h']at h0 h1; rw[h0]at h1; cases h1
    ·simp[Array.getElem?_eq_none h']at h1
   unfold aOp at h1 ⊢;rw[hoj']at h1 ⊢;obtain⟨σij,h2,h2r,h3⟩:=h1;obtain⟨hap,hll⟩:=hfree j oj hoj' hji hjun hnot;obtain⟨p1,p2,p3⟩:=Oper.apart_spec hap;have key:∃ σj,outc T Γ ops (dIn oj.dst M) (inL j L) oj σ σj/\outc T Γ ops (dIn oi.dst M) (inL i L) oi σj σij/\fct T Γ L Ro n j oj σ σj/\fct T Γ L Ro n i oi σj σij:=by
    have old:(inL i L=false∨inL j L=false∨(rdOp oi=true/\rdOp oj=true)∨(mkS oi (inL i Ro)=true/\rdOp oj=true/\inL j Ro=true)∨(rdOp oi=true/\mkS oj (inL j Ro)=true/\inL i Ro=true)) ->
      ∃ σj,outc T Γ ops (dIn oj.dst M) (inL j L) oj σ σj/\outc T Γ ops (dIn oi.dst M) (inL i L) oi σj σij/\fct T Γ L Ro n j oj σ σj/\fct T Γ L Ro n i oi σj σij:=fun hll=>by
     obtain⟨σj,h4,h5⟩:=zV1 (n:=n) hn hap (by
      rcases hll with h | h | h | ⟨h,h',h''⟩ | ⟨h,h',h''⟩
      ·exact .inl h
      ·exact .inr (.inl h)
      ·exact .inr (.inr (.inl h))
      ·exact .inr (.inr (.inr (.inl ⟨zYq hn h hro.1 ho,h',zWn h' (h2r.1 h'')⟩)))
      ·exact .inr (.inr (.inr (.inr ⟨h,zYq (below_le hn (zPV ho)) h' h2r.1 h2,zWn h (hro.1 h'')⟩)))) ho h2
     have al1:Alike ops oj σi.env σ.env:=zKC p1 ho;have al2:Alike ops oi σj.env σ.env:=zKC p3 h4;have still:(σi.hp=σ.hp/\σij.hp=σj.hp)∨(σj.hp=σ.hp/\σij.hp=σi.hp):=by
      rcases hll with h | h | ⟨h,_⟩ | ⟨_,h,_⟩ | ⟨h,_,_⟩
      ·exact .inl ⟨zDQ (.inl h) ho,zDQ (.inl h) h5⟩
      ·exact .inr ⟨zDQ (.inl h) h4,zDQ (.inl h) h2⟩
      ·exact .inl ⟨zDQ (.inr h) ho,zDQ (.inr h) h5⟩
      ·exact .inr ⟨zDQ (.inr h) h4,zDQ (.inr h) h2⟩
      ·exact .inl ⟨zDQ (.inr h) ho,zDQ (.inr h) h5⟩
     refine⟨σj,h4,h5,⟨fun h=>?_,fun h hL=>?_⟩,⟨fun h=>?_,fun h hL=>?_⟩⟩
     ·rcases h2r.1 h with h1 | ⟨hr,h1⟩
      ·exact .inl (by rw[← zFL (n:=n) al1.opds]; exact h1)
      ·refine .inr ⟨hr,fun k hk=>?_⟩
       rcases still with ⟨e1,e2⟩ | ⟨e1,_⟩
       ·rw[← e2,h1 k hk,e1]
       ·rw[e1]
     ·have hc:=h2r.2 h hL;have hs:inL i L=false∨rdOp oi=true:=by
       rcases hll with h | h | ⟨h,_⟩ | ⟨_,h,_⟩ | ⟨h,_,_⟩
       ·exact .inl h
       ·rw[hL]at h; cases h
       ·exact .inr h
       ·rw[zVh hc]at h; cases h
       ·exact .inr h
      exact zPl hc al1.opds (zDQ hs ho).symm (zLQ hs ho).symm (zLQ hs h5).symm
     ·rcases hro.1 h with h1 | ⟨hr,h1⟩
      ·exact .inl (by rw[zFL (n:=n) al2.opds]; exact h1)
      ·refine .inr ⟨hr,fun k hk=>?_⟩
       rcases still with ⟨_,e2⟩ | ⟨e1,e2⟩
       ·rw[e2]
       ·rw[e2,h1 k hk,e1]
     ·have hc:=hro.2 h hL;have hs:inL j L=false∨rdOp oj=true:=by
       rcases hll with h | h | ⟨h,_⟩ | ⟨_,h,_⟩ | ⟨h,_,_⟩
       ·rw[hL]at h; cases h
       ·exact .inl h
       ·rw[zVh hc]at h; cases h
       ·exact .inr h
       ·rw[zVh hc]at h; cases h
      exact zPl hc (fun x hx ty=>(al2.opds x hx ty).symm) (zDQ hs h4) (zLQ hs h4) (zLQ hs h2)
    rcases hll with h | h | h | h | h | ⟨hiL,hjL,hf,hal⟩
    ·exact old (.inl h)
    ·exact old (.inr (.inl h))
    ·exact old (.inr (.inr (.inl h)))
    ·exact old (.inr (.inr (.inr (.inl h))))
    ·exact old (.inr (.inr (.inr (.inr h))))
    ·rw[hiL]at ho;rw[hjL]at h2;obtain⟨σj,h4,h5,h6⟩:=zYV hap (hro.2 hf hiL) hal ho h2;have al2:Alike ops oi σj.env σ.env:=zKC p3 h4;have hmk:mkOp oj=true:=by
      obtain⟨⟨t,hop⟩,_⟩:=zJs hal;unfold mkOp; rw[hop]
     have hrj:rdOp oj=false:=by
      obtain⟨⟨t,hop⟩,_⟩:=zJs hal;unfold rdOp; rw[hop]
     have m1:=zSI hmk h4;have m2:=zSI hmk h2;refine⟨σj,by rw[hjL]; exact h4,by rw[hiL]; exact h5,⟨fun _=>.inr ⟨hrj,fun k hk=>m1 k (hn k hk)⟩,fun h hL=>?_⟩,⟨fun h=>?_,fun _ _=>h6⟩⟩
     ·have:=zZQ (h2r.2 h hL)
      rw[hal]at this; cases this
     ·rcases hro.1 h with h1 | ⟨hr,h1⟩
      ·exact .inl (by rw[zFL (n:=n) al2.opds]; exact h1)
      ·refine .inr ⟨hr,fun k hk=>?_⟩
       rw[m2 k (below_le hn (zPV ho) k hk),h1 k hk,m1 k (hn k hk)]
   obtain⟨σj,h4,h5,tj,ti⟩:=key;refine⟨σj,h4,tj,ih (listed.setIfInBounds j true) σj σij (below_le hn (zPV h4)) ti (fun d hd=>by rw[getD_set_ne true (fun e=>hnot (by rw[e]; exact hd))]; exact hU d hd) (fun k ok hk hki hun hno=>?_) (ready_mono hr (Ne.symm hji)) h5 (by rw[Array.setIfInBounds_comm _ _ hji]; exact h3)⟩
   refine hfree k ok hk hki ?_ hno
   by_cases hjk:j=k
   ·subst hjk; exact hjun
   ·rw[getD_set_ne true hjk]at hun; exact hun
def aLex (T:Nat->Option TI) (Γ:Nat->Option zAp) (M L Ro:List Nat) (n:Nat->Bool) (all:List Oper) (Q:St->Prop):List Oper->Nat->St->Prop
 | [],_,σ=>Q σ
 | o::os,k,σ=>∃ σ1,outc T Γ all (dIn o.dst M) (inL k L) o σ σ1/\fct T Γ L Ro n k o σ σ1/\aLex T Γ M L Ro n all Q os (k+1) σ1
def depL (ops:Array Oper) (i:Nat):List Nat :=
 (List.range ops.size).foldl (fun acc j=>match j == i||(match ops[j]? with | some oj=>oj.after.any (fun e=>Region.binds .any e&&inL e.on acc) | none=>false) with | true=>j::acc | false=>acc) []
def zY6 (ops:Array Oper) (L Ro:List Nat) (listed:Array Bool) (i:Nat):Bool :=
 (depL ops i).all (fun d=>!(listed.getD d true))&&(List.range ops.size).all fun j=>j == i||listed.getD j true||inL j (depL ops i)||match ops[i]?,ops[j]? with
  | some oi,some oj=>oi.apart ops oj&&(!(inL i L)||!(inL j L)||(rdOp oi&&rdOp oj)||(mkS oi (inL i Ro)&&rdOp oj&&inL j Ro)||(rdOp oi&&mkS oj (inL j Ro)&&inL i Ro)||(inL i L&&inL j L&&inL (i+1000) Ro&&alOp oj))
  | _,_=>true
def lexD (ops:Array Oper) (L Ro:List Nat):Nat->Nat->Array Bool->Bool
 | 0,_,listed=>(Region.ready .any ops listed).isEmpty
 | fuel+1,k,listed=>(Region.ready .any ops listed).contains k&&zY6 ops L Ro listed k&&lexD ops L Ro fuel (k+1) (listed.setIfInBounds k true)
theorem zMK {t:Nat}:∀ {l:List Nat},inL t l=true↔t∈l
 | []=>by simp[inL]
 | x::l=>by
  simp only[inL,Bool.or_eq_true,List.mem_cons,zMK (l:=l)]
  exact⟨fun h=>h.imp Nat.eq_of_beq_eq_true id,fun h=>h.imp (fun e=>by rw[e]; exact Nat.beq_refl _) id⟩
theorem zVt (ops:Array Oper) (i:Nat):∀ d od,d∈depL ops i->d ≠ i->ops[d]? = some od->∃ e∈od.after,Region.binds .any e=true/\e.on∈depL ops i:=by
 have key:∀ (l:List Nat) (acc:List Nat),(∀ d od,d∈acc->d ≠ i->ops[d]? = some od->∃ e∈od.after,Region.binds .any e=true/\e.on∈acc) ->
   ∀ d od,d∈l.foldl (fun acc j=>match j == i||(match ops[j]? with | some oj=>oj.after.any (fun e=>Region.binds .any e&&inL e.on acc) | none=>false) with | true=>j::acc | false=>acc) acc->d ≠ i->ops[d]? = some od ->
    ∃ e∈od.after,Region.binds .any e=true/\e.on∈l.foldl (fun acc j=>match j == i||(match ops[j]? with | some oj=>oj.after.any (fun e=>Region.binds .any e&&inL e.on acc) | none=>false) with | true=>j::acc | false=>acc) acc:=by
  intro l
  induction l with
  | nil=>intro acc h; exact h
  | cons j l ih =>
   intro acc h;simp only[List.foldl_cons]
   refine ih _ ?_;intro d od hd hne hod;split at hd
   ·rename_i hc
    rcases List.mem_cons.1 hd with rfl | hd
    ·simp only[Bool.or_eq_true,beq_iff_eq,hne,false_or,hod]at hc;obtain⟨e,he,hb⟩:=Array.any_eq_true'.1 hc;simp only[Bool.and_eq_true]at hb;exact⟨e,he,hb.1,List.mem_cons_of_mem _ (zMK.1 hb.2)⟩
    ·obtain⟨e,he,hb,hm⟩:=h d od hd hne hod;exact⟨e,he,hb,List.mem_cons_of_mem _ hm⟩
   ·rename_i hc
    obtain⟨e,he,hb,hm⟩:=h d od hd hne hod;exact⟨e,he,hb,hm⟩
 exact key _ [] (fun d od hd=>by cases hd)
theorem zUm {ops:Array Oper}{L Ro:List Nat}{listed:Array Bool}{i:Nat} (h:zY6 ops L Ro listed i=true):(∀ d,d∈depL ops i->listed.getD d true=false) /\
  ∀ (j:Nat) (oj:Oper),ops[j]? = some oj->j ≠ i->listed.getD j true=false->j ∉ depL ops i->∀ {oi:Oper},ops[i]? = some oi->oi.apart ops oj=true/\(inL i L=false∨inL j L=false∨(rdOp oi=true/\rdOp oj=true)∨(mkS oi (inL i Ro)=true/\rdOp oj=true/\inL j Ro=true)∨(rdOp oi=true/\mkS oj (inL j Ro)=true/\inL i Ro=true)∨(inL i L=true/\inL j L=true/\inL (i+1000) Ro=true/\alOp oj=true)):=by
 unfold zY6 at h;simp only[Bool.and_eq_true,List.all_eq_true,List.mem_range]at h;obtain⟨h1,h2⟩:=h;refine⟨fun d hd=>by simpa using h1 d hd,fun j oj hj hne hun hnd oi hoi=>?_⟩
 have h3:=h2 j (Array.getElem?_eq_some_iff.1 hj).1;have hnl:inL j (depL ops i)=false:=by
  cases e:inL j (depL ops i) with
  | false=>rfl
  | true=>exact absurd (zMK.1 e) hnd
 simp only[hj,hoi,Bool.or_eq_true,Bool.and_eq_true,beq_iff_eq,hne,false_or,hun,Bool.false_eq_true,Bool.not_eq_true',hnl]at h3;refine⟨h3.1,?_⟩
 rcases h3.2 with ((((h3 | h3) | h3) | h3) | h3) | h3
 ·exact .inl h3
 ·exact .inr (.inl h3)
 ·exact .inr (.inr (.inl h3))
 ·exact .inr (.inr (.inr (.inl ⟨h3.1.1,h3.1.2,h3.2⟩)))
 ·exact .inr (.inr (.inr (.inr (.inl ⟨h3.1.1,h3.1.2,h3.2⟩))))
 ·exact .inr (.inr (.inr (.inr (.inr ⟨h3.1.1.1,h3.1.1.2,h3.1.2,h3.2⟩))))
theorem zS7 {M L Ro:List Nat}{n:Nat->Bool}{ops:List Oper}{Q:St->Prop}:∀ (l:List Oper) (k:Nat) (listed:Array Bool) (σ:St),below n σ->(∀ j,l[j]? = ops[k+j]?) ->
  lexD ops.toArray L Ro l.length k listed=true->aLex T Γ M L Ro n ops Q l k σ->aAny T Γ M L Ro n ops Q l.length listed σ
 | [],_,_,_,_,_,hB,h=>⟨by simpa [lexD] using hB,h⟩
 | o::l,k,listed,σ,hn,hl,hB,h=>by
  have h0:ops[k]? = some o :=(by simpa using (hl 0).symm);have h0':ops.toArray[k]? = some o :=(by simpa using h0);simp only[List.length_cons,lexD,Bool.and_eq_true]at hB;obtain⟨⟨hr,hf⟩,hB'⟩:=hB;obtain⟨hf1,hf2⟩:=zUm hf;obtain⟨σ1,h1,hro,h2⟩:=h;exact zT7 h0 (fun d od hd hne hod=>zVt ops.toArray k d od hd hne (by simpa using hod)) l.length listed σ σ1 hn hro hf1 (fun j oj hj hne hun hno=>hf2 j oj (by simpa using hj) hne hun hno h0') (by simpa using hr) h1
   (zS7 l (k+1) _ σ1 (below_le hn (zPV h1)) (fun j=>by have:=hl (j+1); simpa [Nat.add_assoc,Nat.add_comm 1 j] using this) hB' h2)
theorem zMG {c:Cx}{G:Nat->Prop}{β:Nat->Value}{σ:St}{a:Act}{w:World} (hc:Conc c G β σ a w){all:List Oper}{o:Oper} (hN:∀ (j g:Nat),(all[j]?).bind (fun o=>o.dst)=some g->g<c.N){b:Bool} (hb:gate all o σ.env=some b):Region.wanted o (yielded all.toArray a.tmps)=b:=by
 unfold gate at hb;cases hg:o.guard with
 | none=>rw[hg]at hb; cases hb; simp[Region.wanted,hg]
 | some p =>
  obtain⟨j,want⟩:=p;rw[hg]at hb;dsimp only at hb;split at hb
  ·rename_i g hj
   split at hb
   ·rename_i b' he
    cases hb;have hj':(all.toArray[j]?).bind (·.dst)=some g :=(by simpa using hj);have hy:=zKW hc hj' (hN j g hj) he;simp only[Region.wanted,hg,hy]
    cases b' <;> cases want <;> rfl
   ·rename_i he
    cases hb;have hj':(all.toArray[j]?).bind (·.dst)=some g :=(by simpa using hj);have hy:=zLl hc hj' (hN j g hj) he;simp only[Region.wanted,hg,hy]
    cases want <;> rfl
   ·cases hb
  ·cases hb
theorem zUB {c:Cx}{G:Nat->Prop}{β:Nat->Value}{σ σ1:St}{a:Act}{w:World} (hT:TOk c.P T) (hΓ:∀ f s,Γ f=some s->PSound c.P f s) (hc:Conc c G β σ a w){all:List Oper}{own loud:Bool}{o:Oper}
  (hN:∀ (j g:Nat),(all[j]?).bind (fun o=>o.dst)=some g->g<c.N) (hd:∀ t,o.dst=some t->t<c.N) (h:outc T Γ all own loud o σ σ1) {K:Act->World->Prop} {Q:Exit->Act->World->Prop}
  (hK:∀ G' β' a' w',Conc c G' β' σ1 a' w'->K a' w') :
  if Region.wanted o (yielded all.toArray a.tmps) then o.wp c.P a w K Q∨(o.asks c.P a w/\LetsOut Q) else K (a.put o.dst undef) w:=by
 have hgate:∀ b,gate all o σ.env=some b->Region.wanted o (yielded all.toArray a.tmps)=b:=fun b hb=>zMG hc hN hb
 unfold outc at h;split at h
 ·rename_i hg
  rw[if_pos (hgate _ hg)]
  refine .inl ?_;unfold runs at h;split at h
  ·rename_i g s xs hco
   obtain⟨r,x,σ',h1,h2,rfl⟩:=h;exact zOf hΓ hc hco h1 h2 fun G' β' w' v h3 h4 h5=>hK G' β' _ w' (h3.put hd h4 h5)
  ·split at h
   ·split at h
    ·rename_i φ x σ' h1
     obtain⟨h2,rfl⟩:=h;exact zKN hT hc h1 h2 hd hK
    ·exact zMv hT (fun f s h=>hΓ f s (zGE h).1) hc h fun x σ' G' β' w' v e1 h1 h2 h3=>by subst e1; exact hK G' β' _ w' (h1.put hd h2 h3)
   ·obtain⟨φ,x,h1,h2,rfl⟩:=h;exact zKN (own:=slO own o) hT hc (by unfold step1; rw[h1]) h2 hd hK
 ·rename_i hg
  rw[if_neg (by rw[hgate _ hg]; simp)]
  subst h;exact hK G β _ w (hc.put hd zR5 rfl)
 ·exact h.elim
theorem zMj {c:Cx} (hT:TOk c.P T) (hΓ:∀ f s,Γ f=some s->PSound c.P f s){M L Ro:List Nat}{n:Nat->Bool}{ops:List Oper}{Q:Exit->Act->World->Prop}{K:St->Prop}
  (hK:∀ σ G β a w,K σ->Conc c G β σ a w->Q .normal a w) (hN:∀ (j g:Nat),(ops[j]?).bind (fun o=>o.dst)=some g->g<c.N) :
  ∀ (fuel:Nat) (listed:Array Bool) (σ:St) (G:Nat->Prop) (β:Nat->Value) (a:Act) (w:World),aAny T Γ M L Ro n ops K fuel listed σ->Conc c G β σ a w->wpAny c.P .any ops.toArray Q fuel listed a w
 | 0,listed,σ,G,β,a,w,h,hc=>⟨h.1,hK σ G β a w h.2 hc⟩
 | fuel+1,listed,σ,G,β,a,w,h,hc=>by
  refine⟨fun h0=>hK σ G β a w (h.1 h0) hc,fun i hi=>?_⟩
  have h1:=h.2 i hi;unfold aOp at h1;unfold wpOp;have hgo:ops.toArray[i]? = ops[i]? :=(by simp);rw[hgo]
  cases ho:ops[i]? with
  | none=>rw[ho]at h1; exact zMj hT hΓ hK hN fuel _ σ G β a w h1 hc
  | some o =>
   rw[ho]at h1;obtain⟨σ1,h2,_,h3⟩:=h1;exact zUB hT hΓ hc hN (fun t ht=>hN i t (by rw[ho]; exact ht)) h2 fun G' β' a' w' hc'=>zMj hT hΓ hK hN fuel _ σ1 G' β' a' w' h3 hc'
def zXk (b:Bool) (n:Nat->Bool) (σ σ':St) (P:Prop):Prop :=
 match b with
 | true=>kp n σ σ'/\P
 | false=>P
def zXu (b:Bool) (P Q:Prop):Prop :=
 match b with
 | true=>P/\Q
 | false=>Q
def clB (T:Nat->Option TI) (Γ:Nat->Option zAp) (own l:Bool) (o:Oper) (σ:St):Bool :=
 match cOp o with
 | false=>false
 | true=>match callOf T Γ o σ.env with
  | some _=>false
  | none=>match l with
   | false=>false
   | true=>match step1 T own o σ with
    | some _=>false
    | none=>true
def evD (T:Nat->Option TI) (Γ:Nat->Option zAp) (M nm L Ro:List Nat) (n:Nat->Bool) (all:List Oper):List Oper->Nat->St->(St->Prop)->Prop
 | [],_,σ,K=>K σ
 | o::os,k,σ,K =>
   let run:Prop:=match callOf T Γ o σ.env with
    | some (_,s,xs)=>∃ r,s.spec xs r/\match zBt (dIn o.dst M&&inL k L) σ r with
     | none=>False
     | some (x,σ')=>lay (dIn o.dst nm) o.dst x σ' fun σ''=>evD T Γ M nm L Ro n all os (k+1) σ'' K
    | none=>match inL k L with
     | true=>match step1 T (dIn o.dst M) o σ with
      | none=>zMt T (noHeap Γ) (dIn o.dst M) o σ fun x σ'=>zXk (inL k Ro&&cOp o) n σ σ' (zXu (inL (k+1000) Ro) (cmP T Γ o σ σ') (lay (dIn o.dst nm) o.dst x σ' fun σ''=>evD T Γ M nm L Ro n all os (k+1) σ'' K))
      | some (φ,x,σ')=>andO φ (lay (dIn o.dst nm) o.dst x σ' fun σ''=>evD T Γ M nm L Ro n all os (k+1) σ'' K)
     | false=>match zB2 T (slO (dIn o.dst M) o) o σ.env with
      | none=>False
      | some (φ,x)=>andO φ (lay (dIn o.dst nm) o.dst x σ fun σ''=>evD T Γ M nm L Ro n all os (k+1) σ'' K)
   match (inL k Ro&&!(zDO T n o σ.env||clB T Γ (dIn o.dst M) (inL k L) o σ))||(inL (k+1000) Ro&&!(clB T Γ (dIn o.dst M) (inL k L) o σ&&o.guard.isNone)) with
   | true=>False
   | false=>match o.guard with
   | none=>run
   | some (j,want)=>match (all[j]?).bind (fun o=>o.dst) with
    | some g=>match σ.env g with
     | .s (.bool true)=>match want with | true=>run | false=>lay false o.dst (.tup []) σ fun σ''=>evD T Γ M nm L Ro n all os (k+1) σ'' K
     | .s (.bool false)=>match want with | false=>run | true=>lay false o.dst (.tup []) σ fun σ''=>evD T Γ M nm L Ro n all os (k+1) σ'' K
     | .tup []=>lay false o.dst (.tup []) σ fun σ''=>evD T Γ M nm L Ro n all os (k+1) σ'' K
     | _=>False
    | none=>False
theorem zW7 {own l:Bool}{o:Oper}{σ:St} (h:clB T Γ own l o σ=true):cOp o=true:=by
 unfold clB at h;cases e:cOp o with
 | true=>rfl
 | false=>rw[e]at h; cases h
theorem zVf {own l:Bool}{o:Oper}{σ:St} (h:clB T Γ own l o σ=true):callOf T Γ o σ.env=none:=by
 unfold clB at h;cases e:cOp o with
 | false=>rw[e]at h; cases h
 | true =>
  rw[e]at h;cases e2:callOf T Γ o σ.env with
  | none=>rfl
  | some y=>rw[e2]at h; cases h
theorem zYS {own l:Bool}{o:Oper}{σ:St} (h:clB T Γ own l o σ=true):l=true:=by
 have h1:=zW7 h;have h2:=zVf h;unfold clB at h;rw[h1,h2]at h;cases l with
 | true=>rfl
 | false=>cases h
theorem zZP {own l:Bool}{o:Oper}{σ:St} (h:clB T Γ own l o σ=true):∀ x,¬ step1 T own o σ=some x:=fun x hx=>by
 have h1:=zW7 h;have h2:=zVf h;have h3:=zYS h;unfold clB at h;rw[h1,h2,h3,hx]at h;cases h
theorem zYn {o:Oper} (h:cOp o=true):rdOp o=false:=by
 unfold cOp at h;split at h
 ·rename_i hop; unfold rdOp; rw[hop]
 ·cases h
theorem zFg {M nm L Ro:List Nat}{n:Nat->Bool}{all:List Oper}{K:St->Prop}:∀ {os:List Oper}{k:Nat}{σ:St},evD T Γ M nm L Ro n all os k σ K->aLex T Γ M L Ro n all K os k σ
 | [],k,σ,h=>h
 | o::os,k,σ,h=>by
  unfold evD at h;dsimp only at h;have hrun:(match callOf T Γ o σ.env with
    | some (_,s,xs)=>∃ r,s.spec xs r/\match zBt (dIn o.dst M&&inL k L) σ r with
     | none=>False
     | some (x,σ')=>lay (dIn o.dst nm) o.dst x σ' fun σ''=>evD T Γ M nm L Ro n all os (k+1) σ'' K
    | none=>match inL k L with
     | true=>match step1 T (dIn o.dst M) o σ with
      | none=>zMt T (noHeap Γ) (dIn o.dst M) o σ fun x σ'=>zXk (inL k Ro&&cOp o) n σ σ' (zXu (inL (k+1000) Ro) (cmP T Γ o σ σ') (lay (dIn o.dst nm) o.dst x σ' fun σ''=>evD T Γ M nm L Ro n all os (k+1) σ'' K))
      | some (φ,x,σ')=>andO φ (lay (dIn o.dst nm) o.dst x σ' fun σ''=>evD T Γ M nm L Ro n all os (k+1) σ'' K)
     | false=>match zB2 T (slO (dIn o.dst M) o) o σ.env with
      | none=>False
      | some (φ,x)=>andO φ (lay (dIn o.dst nm) o.dst x σ fun σ''=>evD T Γ M nm L Ro n all os (k+1) σ'' K)) ->
    (inL k Ro=true->zDO T n o σ.env=true∨clB T Γ (dIn o.dst M) (inL k L) o σ=true)->(inL (k+1000) Ro=true->clB T Γ (dIn o.dst M) (inL k L) o σ=true)->∃ σ1,runs T Γ (dIn o.dst M) (inL k L) o σ σ1/\fct T Γ L Ro n k o σ σ1/\aLex T Γ M L Ro n all K os (k+1) σ1:=fun h hro hcm=>by
   unfold runs;split at h
   ·rename_i g0 s0 xs0 hcoo
    obtain⟨r,h1,h2⟩:=h;split at h2
    ·exact h2.elim
    ·rename_i x σ' hx
     exact⟨_,⟨r,x,σ',h1,hx,rfl⟩,⟨(fun hk=>(hro hk).elim .inl fun hc=>by have hcn:=zVf hc; rw[hcoo]at hcn; cases hcn),(fun hk _=>by have hcn:=zVf (hcm hk); rw[hcoo]at hcn; cases hcn)⟩,zFg (zEk h2)⟩
   ·split at h
    ·split at h
     ·rename_i hs
      rw[zPh]at h;obtain⟨x,hp,nx,e1,_,e2⟩:=zMu h;have e3:((lay (dIn o.dst nm) o.dst x ⟨σ.env,hp,nx⟩ fun σ''=>evD T Γ M nm L Ro n all os (k+1) σ'' K)/\(inL k Ro=true->cOp o=true->kp n σ ⟨σ.env,hp,nx⟩))/\(inL (k+1000) Ro=true->cmP T Γ o σ ⟨σ.env,hp,nx⟩):=by
       unfold zXk at e1;unfold zXu at e1;cases e6:inL (k+1000) Ro <;> cases e4:inL k Ro <;> cases e5:cOp o <;> rw[e4,e5,e6]at e1
       ·exact⟨⟨e1,fun h=>by cases h⟩,fun h=>by cases h⟩
       ·exact⟨⟨e1,fun h=>by cases h⟩,fun h=>by cases h⟩
       ·exact⟨⟨e1,fun _ h=>by cases h⟩,fun h=>by cases h⟩
       ·exact⟨⟨e1.2,fun _ _=>e1.1⟩,fun h=>by cases h⟩
       ·exact⟨⟨e1.2,fun h=>by cases h⟩,fun _=>e1.1⟩
       ·exact⟨⟨e1.2,fun h=>by cases h⟩,fun _=>e1.1⟩
       ·exact⟨⟨e1.2,fun _ h=>by cases h⟩,fun _=>e1.1⟩
       ·exact⟨⟨e1.2.2,fun _ _=>e1.1⟩,fun _=>e1.2.1⟩
      refine⟨_,?_,⟨(fun hk=>(hro hk).elim .inl fun hc=>?_),fun hk _=>?_⟩,zFg (zEk e3.1.1)⟩
      ·rw[hs]
       exact e2 σ.env (fun _ _ _=>rfl) _ rfl
      ·have hco:=zW7 hc;exact .inr ⟨zYn hco,fun j hj=>by rw[zFJ]; exact e3.1.2 hk hco j hj⟩
      ·have h8:=zYU (zVf (hcm hk)) (e3.2 hk)
       exact zPl h8 (fun _ _ _=>rfl) rfl rfl (zFK _ _ _)
     ·rename_i φ x σ' hs
      obtain⟨h1,h2⟩:=zLz h;refine⟨_,?_,⟨(fun hk=>(hro hk).elim .inl fun hc=>by exact absurd hs (zZP hc _)),(fun hk _=>absurd hs (zZP (hcm hk) _))⟩,zFg (zEk h2)⟩
      rw[hs]
      exact⟨h1,rfl⟩
    ·rename_i hll
     split at h
     ·exact h.elim
     ·rename_i φ x hs
      obtain⟨h1,h2⟩:=zLz h;exact⟨_,⟨φ,x,hs,h1,rfl⟩,⟨(fun hk=>(hro hk).elim .inl fun hc=>by have hcl:=zYS hc; rw[hll]at hcl; cases hcl),(fun hk _=>by have hcl:=zYS (hcm hk); rw[hll]at hcl; cases hcl)⟩,zFg (zEk h2)⟩
  split at h
  ·exact h.elim
  rename_i hro1
  have hro0:=(Bool.or_eq_false_iff.1 hro1).1;have hcm0:=(Bool.or_eq_false_iff.1 hro1).2;have hcm:inL (k+1000) Ro=true->clB T Γ (dIn o.dst M) (inL k L) o σ=true/\o.guard=none:=fun hk=>by
   rw[hk]at hcm0;cases e':clB T Γ (dIn o.dst M) (inL k L) o σ with
   | false=>rw[e']at hcm0; cases hcm0
   | true =>
    cases e:o.guard with
    | none=>exact⟨rfl,rfl⟩
    | some p=>rw[e',e]at hcm0; cases hcm0
  have hro:inL k Ro=true->zDO T n o σ.env=true∨clB T Γ (dIn o.dst M) (inL k L) o σ=true:=fun hk=>by
   rw[hk]at hro0;cases e:zDO T n o σ.env with
   | true=>exact .inl rfl
   | false =>
    cases e':clB T Γ (dIn o.dst M) (inL k L) o σ with
    | true=>exact .inr rfl
    | false=>rw[e,e']at hro0; cases hro0
  have hgo:gate all o σ.env=some true->(∃ σ1,runs T Γ (dIn o.dst M) (inL k L) o σ σ1/\fct T Γ L Ro n k o σ σ1/\aLex T Γ M L Ro n all K os (k+1) σ1)->aLex T Γ M L Ro n all K (o::os) k σ:=fun hg ⟨σ1,h1,h2,h3⟩ =>
   ⟨σ1,by unfold outc; rw[hg]; exact h1,h2,h3⟩
  have hskip:o.guard ≠ none->gate all o σ.env=some false->(lay false o.dst (.tup []) σ fun σ''=>evD T Γ M nm L Ro n all os (k+1) σ'' K)->aLex T Γ M L Ro n all K (o::os) k σ:=fun hgn hg h =>
   ⟨σ.put o.dst (.tup []),by unfold outc; rw[hg],⟨(fun hk=>(hro hk).elim .inl fun hc=>.inr ⟨zYn (zW7 hc),fun j _=>by rw[zFJ]⟩),(fun hk _=>absurd (hcm hk).2 hgn)⟩,zFg (zEk h)⟩
  split at h
  ·rename_i hg
   exact hgo (by simp[gate,hg]) (hrun h hro fun hk=>(hcm hk).1)
  ·rename_i j want hg
   split at h
   ·rename_i g hj
    split at h
    ·rename_i he
     split at h
     ·exact hgo (by simp[gate,hg,hj,he]) (hrun h hro fun hk=>(hcm hk).1)
     ·exact hskip (by rw[hg]; exact fun h=>by cases h) (by simp[gate,hg,hj,he]) h
    ·rename_i he
     split at h
     ·exact hgo (by simp[gate,hg,hj,he]) (hrun h hro fun hk=>(hcm hk).1)
     ·exact hskip (by rw[hg]; exact fun h=>by cases h) (by simp[gate,hg,hj,he]) h
    ·rename_i he
     exact hskip (by rw[hg]; exact fun h=>by cases h) (by simp[gate,hg,hj,he]) h
    ·exact h.elim
   ·exact h.elim
theorem zLT {ro:Option Nat}{n:Nat}{P:Program}{md:Region.Mode}{ops:Array Oper}{Q:Exit->Act->World->Prop} (hQ:¬ LetsOut Q) (hd:∀ (i:Nat) o,ops[i]? = some o->∀ c,o.op ≠ .defer c) :
  ∀ (fuel:Nat) (listed:Array Bool) (a:Act) (w:World),wpAny P md ops Q fuel listed a w->wpAnyIn (rF ro) n P md ops Q fuel listed a w
 | 0,_,_,_,h=>h
 | fuel+1,listed,a,w,h=>⟨h.1,fun i hi=>by
  have h1:=h.2 i hi;unfold wpOp at h1;unfold wpOpIn;cases ho:ops[i]? with
  | none=>rw[ho]at h1; exact zLT hQ hd fuel _ a w h1
  | some o =>
   rw[ho]at h1;dsimp only at h1 ⊢;split
   ·rename_i hw
    rw[if_pos hw]at h1;rcases h1 with h1 | ⟨_,h1⟩
    ·exact zUA (hd i o ho) (fun a w h=>zLT hQ hd fuel _ a w h) h1
    ·exact absurd h1 hQ
   ·rename_i hw
    rw[if_neg hw]at h1;exact⟨fun _ _=>trivial,zLT hQ hd fuel _ _ w h1⟩⟩
theorem zKQ {c:Cx} (hT:TOk c.P T) (hΓ:∀ f s,Γ f=some s->PSound c.P f s) (hm:c.P.follows .mixedOrders=true){id:Nat}{ops:List Oper}{σ:St}{Q:End->St->Prop} (n:Nat->Bool) (hnx:below n σ) (M nm L Ro:List Nat)
  (hN:zD1 c.N ops=true) (hB:lexD ops.toArray L Ro ops.length 0 (Array.replicate ops.length false)=true) (h:evD T Γ M nm L Ro n ops ops 0 σ (Q .normal)):Tri c (.region id ops.toArray true) σ Q:=by
 unfold Tri;intro G β a w hc;refine wpIn_region_any hm (zLT zMM (fun i o hi=>zJB hN o (List.mem_of_getElem? (by simpa using hi))) _ _ _ _ ?_)
 have h1:=zS7 (ops:=ops) (M:=M) (L:=L) (Ro:=Ro) (n:=n) ops 0 (Array.replicate ops.length false) σ hnx (fun j=>by simp) hB (zFg h)
 have hc':=hc.ext (Ext.drew hc.lt)
 have:=zMj hT hΓ (Q:=fun e a' w'=>∃ e' G' β' σ',e=zEx e'/\Q e' σ'/\Conc c G' β' σ' a' w') (fun σ' G' β' a' w' hk hc'=>⟨.normal,G',β',σ',rfl,hk,hc'⟩) (zDS hN) _ _ σ G β a _ h1 hc'
 simpa using this
theorem yAr {c:Cx}{T:Nat->Option TI}{Γ:Nat->Option zAp}{id:Nat}{ops:List Oper}{σ:St}{Q:End->St->Prop} (n:Nat->Bool) (hnx:below n σ) (M nm L Ro:List Nat) (hN:zD1 c.N ops=true) (hB:lexD ops.toArray L Ro ops.length 0 (Array.replicate ops.length false)=true) (h:evD T Γ M nm L Ro n ops ops 0 σ (Q .normal)) (hT:TOk c.P T:=by exact tokW) (hΓ:∀ f s,Γ f=some s->PSound c.P f s:=by exact gok) (hm:c.P.follows .mixedOrders=true:=by exact mixed):Tri c (.region id ops.toArray true) σ Q :=
 zKQ hT hΓ hm n hnx M nm L Ro hN hB h
theorem zOV {c:Cx} (hT:TOk c.P T) (hΓ:∀ f s,Γ f=some s->PSound c.P f s) (hm:c.P.follows .mixedOrders=true){id:Nat}{ops:List Oper}{σ:St}{Q:End->St->Prop} (M nm L Ro:List Nat)
  (hN:zD1 c.N ops=true) (hB:lexD ops.toArray L Ro ops.length 0 (Array.replicate ops.length false)=true) (h:evD T Γ M nm L Ro (fun k=>Nat.blt k σ.nx) ops ops 0 σ (Q .normal)):Tri c (.region id ops.toArray true) σ Q :=
 zKQ hT hΓ hm (fun k=>Nat.blt k σ.nx) (fun k hk=>Nat.le_of_ble_eq_true hk) M nm L Ro hN hB h
theorem zKb {c:Cx}{T:Nat->Option TI}{Γ:Nat->Option zAp}{id:Nat}{ops:List Oper}{σ:St}{Q:End->St->Prop} (M nm L Ro:List Nat) (hN:zD1 c.N ops=true) (hB:lexD ops.toArray L Ro ops.length 0 (Array.replicate ops.length false)=true) (h:evD T Γ M nm L Ro (fun k=>Nat.blt k σ.nx) ops ops 0 σ (Q .normal)) (hT:TOk c.P T:=by exact tokW) (hΓ:∀ f s,Γ f=some s->PSound c.P f s:=by exact gok) (hm:c.P.follows .mixedOrders=true:=by exact mixed):Tri c (.region id ops.toArray true) σ Q :=
 zOV hT hΓ hm M nm L Ro hN hB h
theorem zKa {c:Cx} (hT:TOk c.P T) (hΓ:∀ f s,Γ f=some s->PSound c.P f s) (hm:c.P.follows .mixedOrders=true){id:Nat}{ops:List Oper}{σ:St}{Q:End->St->Prop} (M nm L:List Nat)
  (hN:zD1 c.N ops=true) (hB:lexD ops.toArray L [] ops.length 0 (Array.replicate ops.length false)=true) (h:evD T Γ M nm L [] (fun k=>Nat.blt k σ.nx) ops ops 0 σ (Q .normal)):Tri c (.region id ops.toArray true) σ Q :=
 zOV hT hΓ hm M nm L [] hN hB h
theorem zA0 {c:Cx}{T:Nat->Option TI}{Γ:Nat->Option zAp}{id:Nat}{ops:List Oper}{σ:St}{Q:End->St->Prop} (M nm L:List Nat) (hN:zD1 c.N ops=true) (hB:lexD ops.toArray L [] ops.length 0 (Array.replicate ops.length false)=true) (h:evD T Γ M nm L [] (fun k=>Nat.blt k σ.nx) ops ops 0 σ (Q .normal)) (hT:TOk c.P T:=by exact tokW) (hΓ:∀ f s,Γ f=some s->PSound c.P f s:=by exact gok) (hm:c.P.follows .mixedOrders=true:=by exact mixed):Tri c (.region id ops.toArray true) σ Q :=
 zKa hT hΓ hm M nm L hN hB h
end
open Go.ChangeShapes Go.WideShapes Go.RowKit Go.Proofs.YtbfnjnljboncgaaGreatDoor
def szOf (T:Nat->Option TI) (t:Nat):Nat:=match T t with | some i=>i.size | none=>0
def zWz (p:Nat->List S->Prop):List Nat->List S->Prop
 | [],ss=>ss=[]
 | t::ts,ss=>∃ a b,ss=a++b/\p t a/\zWz p ts b
def Typed (T:Nat->Option TI):Nat->Nat->List S->Prop
 | 0,_,_=>False
 | n+1,t,ss=>match T t with
  | none=>False
  | some i=>match i.k with
   | .bool=>∃ b,ss=[.bool b]
   | .int k=>∃ x:Int,ss=[.int k x]/\k.min<=x/\x<=k.max
   | .str=>∃ l:List UInt8,ss=[.str l]/\l.length<=maxLen
   | .slice e=>∃ rows:List (List S),ss=[.sl (szOf T e) rows]/\rows.length<=maxLen/\∀ r∈rows,Typed T n e r
   | .ptr e=>ss=[.np]∨∃ row,ss=[.pt row]/\Typed T n e row
   | .struct fs=>zWz (Typed T n) (fs.map (·.2)) ss
   | .arr len e=>zWz (Typed T n) (List.replicate len e) ss
   | _=>False
mutual
def S.bulk:S->Nat
 | .str l=>l.length+1
 | .sl _ rows=>zEe rows+1
 | .pt row=>zDR row+1
 | _=>1
def zDR:List S->Nat
 | []=>0
 | s::r=>s.bulk+zDR r
def zEe:List (List S)->Nat
 | []=>0
 | r::rs=>zDR r+zEe rs
end
theorem zK6:∀ (a b:List S),zDR (a++b)=zDR a+zDR b
 | [],b=>by simp[zDR]
 | s::a,b=>by simp only[List.cons_append,zDR,zK6 a b]; omega
def fits (T:Nat->Option TI):List (Nat×Nat)->Nat->Nat->Bool
 | [],off,n=>Nat.beq off n
 | (o,t)::r,off,n=>Nat.beq o off&&(T t).isSome&&fits T r (off+szOf T t) n
def zDv (T:Nat->Option TI) (i:TI):Bool:=match i.k with
 | .bool | .int _ | .str=>true
 | .slice e=>(T e).isSome&&Nat.ble 1 (szOf T e)
 | .ptr e=>(T e).isSome&&Nat.ble 1 (szOf T e)
 | .struct fs=>fits T fs 0 i.size
 | .arr n e=>(T e).isSome&&Nat.beq (n * szOf T e) i.size
 | _=>false
section
variable {H:Type} {enc:TypeId×Value->H} {P:Program} {T:Nat->Option TI} {w:World} {spare:Nat->Bool} {held:Bool}
theorem zEB (hT:TOk P T){t:Nat} (h:(T t).isSome=true):P.cellsOf t=szOf T t:=by
 obtain⟨i,hi⟩:=Option.isSome_iff_exists.1 h;obtain⟨d,info,z,h1,h2,h3,h4,_⟩:=hT t i hi;simp[Program.cellsOf,h3,h4,szOf,hi]
def old (w:World) (b:Nat):Prop:=b<w.heap.size
theorem zPj {w:World}{a:Addr}{v:Value} (h:w.cell? a=some v):old w a.block/\a.spot=none:=by
 unfold World.cell? at h;unfold old;split at h
 ·rename_i c x y e
  refine⟨(Array.getElem?_eq_some_iff.1 e).1,?_⟩
  split at h
  ·cases h
  ·rename_i hs
   cases hh:a.spot with
   | none=>rfl
   | some s=>rw[hh]at hs; simp at hs
 ·cases h
theorem zLi {b off:Nat}{ss:List S}{cs:List Value} (h:Reps (old w) w ss cs) (hc:∀ i,i<ss.length->w.cell? ⟨b,off+i,none⟩=cs[i]?):RepRow (old w) w b ss off :=
 RepRow.mk fun i s hs=>by
  have hi:i<ss.length:=(List.getElem?_eq_some_iff.1 hs).1;have hi':i<cs.length :=(by rw[h.1]; exact hi);have hv:cs[i]? = some cs[i]:=List.getElem?_eq_getElem hi';have hcell:=(hc i hi).trans hv;exact⟨(zPj hcell).1,_,hcell,h.2 i s _ hs hv⟩
theorem zSm {a:Addr} (hs:a.spot=none) (k:Nat):a.add k=⟨a.block,a.off+k,none⟩:=by
 unfold Addr.add;obtain⟨b,o,s⟩:=a;simp only at hs; subst hs
 split
 ·rename_i h; subst h; rfl
 ·rfl
theorem zOe {R:Nat->List S}{D:Nat->DataW H}:∀ {l:List Nat},(∀ i∈l,zDR (R i)<=Rows.uptoBulk (D i))->zEe (l.map R)<=Rows.uptoBulkAll (l.map D)
 | [],_=>by simp[zEe]
 | i::l,h=>by
  simp only[List.map_cons,zEe,Rows.uptoBulkAll]
  have h1:=h i List.mem_cons_self;have h2:=zOe (fun j hj=>h j (List.mem_cons_of_mem _ hj))
  omega
theorem zP9 {n:Nat}{p:Nat->List S->Prop} (hT:TOk P T)
  (ih:∀ t cs x,(T t).isSome=true->DataW.trod enc P w 0 spare held n t cs=some x->∃ ss,Reps (old w) w ss cs/\p t ss/\zDR ss<=Rows.uptoBulk x.1) :
  ∀ (fs:List (Nat×Nat)) (off tot:Nat) (cs:List Value) (xs:List (DataW H×List MemPlace)),fits T fs off tot=true->cs.length=tot->xs.length=fs.length ->
   (∀ (i:Nat) f,fs[i]? = some f->DataW.trod enc P w 0 spare held n f.2 ((cs.drop f.1).take (P.cellsOf f.2))=xs[i]?) ->
   ∃ ss,Reps (old w) w ss (cs.drop off)/\zWz p (fs.map (·.2)) ss/\zDR ss<=Rows.uptoBulkAll (xs.map (·.1))
 | [],off,tot,cs,xs,hf,hl,_,_=>by
  obtain rfl:=Nat.eq_of_beq_eq_true hf;refine⟨[],⟨by simp[hl],fun i s v h=>by simp at h⟩,rfl,by simp[zDR]⟩
 | (o,t)::fs,off,tot,cs,xs,hf,hl,hxl,hx=>by
  simp only[fits,Bool.and_eq_true]at hf;obtain⟨⟨ho,ht⟩,hr⟩:=hf;obtain rfl:=Nat.eq_of_beq_eq_true ho
  match xs,hxl with
  | y::ys,hxl =>
   have h0:=hx 0 (o,t) rfl;simp only[List.getElem?_cons_zero]at h0;obtain⟨s1,r1,p1,b1⟩:=ih t _ y ht h0;obtain⟨s2,r2,p2,b2⟩:=zP9 hT ih fs (o+szOf T t) tot cs ys hr hl (by simpa using hxl) (fun i f hi=>by simpa using hx (i+1) f (by simpa using hi))
   rw[zEB hT ht]at r1;have e:cs.drop o=(cs.drop o).take (szOf T t)++cs.drop (o+szOf T t):=by
    rw[← List.drop_drop,List.take_append_drop]
   refine⟨s1++s2,?_,⟨s1,s2,rfl,p1,p2⟩,?_⟩
   ·rw[e]; exact r1.append r2
   ·simp only[List.map_cons,Rows.uptoBulkAll,zK6]; omega
theorem zTi {e:Nat} (he:(T e).isSome=true):∀ (n off:Nat),fits T ((List.range n).map (fun i=>(off+i * szOf T e,e))) off (off+n * szOf T e)=true
 | 0,off=>by simp[fits]
 | n+1,off=>by
  rw[List.range_succ_eq_map]
  simp only[List.map_cons,List.map_map,fits,Nat.zero_mul,Nat.add_zero,Nat.beq_eq,he,Bool.true_and,Bool.and_true]
  have:=zTi he n (off+szOf T e)
  have e1:(List.range n).map (fun i=>(off+szOf T e+i * szOf T e,e))=(List.range n).map ((fun i=>(off+i * szOf T e,e))∘Nat.succ):=by
   refine List.map_congr_left fun i _=>?_
   simp only[Function.comp,Nat.succ_eq_add_one,Nat.add_mul]
   congr 1; omega
  rw[← e1,show off+(n+1) * szOf T e=off+szOf T e+n * szOf T e by rw[Nat.add_mul]; omega,this]
  simp
theorem conv (hT:TOk P T) (hC:∀ t i,T t=some i->zDv T i=true):∀ (n:Nat) (t:Nat) (cs:List Value) (x:DataW H×List MemPlace),(T t).isSome=true ->
  DataW.trod enc P w 0 spare held n t cs=some x->∃ ss,Reps (old w) w ss cs/\Typed T n t ss/\zDR ss<=Rows.uptoBulk x.1
 | 0,t,cs,x,_,h=>by simp[DataW.trod]at h
 | n+1,t,cs,x,ht,h=>by
  obtain⟨i,hi⟩:=Option.isSome_iff_exists.1 ht;have hcl:=hC t i hi;obtain⟨d,info,z,h1,h2,h3,h4,h5,h6,h7,h8,h9,h10⟩:=hT t i hi;have one:∀ {s:S} {v:Value},Rep (old w) w s v->Reps (old w) w [s] [v]:=fun {s v} hr=>⟨rfl,fun j s' v' hs hv=>by
   cases j with
   | zero=>simp at hs hv; subst hs; subst hv; exact hr
   | succ j=>simp at hs⟩
  cases d <;> simp only[tkOf]at h2
  case bool =>
   obtain⟨b,rfl,rfl⟩:=DataW.trod_bool h1 h;exact⟨[.bool b],one (by simp[Rep]),by simp[Typed,hi,← h2],by simp[zDR,S.bulk,Rows.uptoBulk]⟩
  case int k =>
   obtain⟨m,rfl,rfl,hw⟩:=DataW.trod_int h1 h;have hb:k.min<=m/\m<=k.max :=(by simpa [Lit.wf] using hw);exact⟨[.int k m],one (by simp[Rep]),by simp[Typed,hi,← h2,hb],by simp[zDR,S.bulk,Rows.uptoBulk]⟩
  case string =>
   obtain⟨s,rfl,rfl,hl⟩:=DataW.trod_string h1 h;refine⟨[.str s.data.toList],one (by simp[Rep]),?_,by simp[zDR,S.bulk,Rows.uptoBulk]⟩
   simp only[Typed,hi,← h2]
   exact⟨_,rfl,by simpa using hl⟩
  case pointer e =>
   simp only[zDv,← h2,Bool.and_eq_true]at hcl;rcases DataW.trod_pointer h1 h with ⟨rfl,rfl⟩ | ⟨a,cs',y,m,hm,rfl,rfl,hcs,hy⟩
   ·exact⟨[.np],one (by simp[Rep]),by simp[Typed,hi,← h2],by simp[zDR,S.bulk,Rows.uptoBulk]⟩
   ·cases hm;obtain⟨ss,r1,r2,r3⟩:=conv hT hC n e cs' y hcl.1 hy;obtain⟨_,g2,g3⟩:=World.cells?_some hcs;rw[zEB hT hcl.1]at g2 g3;have hpos:=Nat.le_of_ble_eq_true hcl.2;have hspot:a.spot=none:=by
     have:=g3 0 (by omega)
     rw[List.getElem?_eq_getElem (by omega)]at this;have:=(zPj this).2
     simpa [Addr.add] using this
    refine⟨[.pt ss],one ?_,?_,by simp only[zDR,S.bulk,Rows.uptoBulk]; omega⟩
    ·simp only[Rep]
     refine⟨a.block,a.off,?_,zLi r1 fun j hj=>?_⟩
     ·obtain⟨b,o,s⟩:=a; simp only at hspot; subst hspot; rfl
     ·rw[← zSm hspot]; exact g3 j (by rw[← g2,r1.1]; exact hj)
    ·simp only[Typed,hi,← h2]
     exact .inr ⟨ss,rfl,r2⟩
  case slice e =>
   simp only[zDv,← h2,Bool.and_eq_true]at hcl;have hpos:=Nat.le_of_ble_eq_true hcl.2;rcases DataW.trod_slice h1 h with ⟨rfl,rfl⟩ | ⟨a,len,cap,elems,rest,m,hm,rfl,rfl,hb,hl,hcm,hlen,hel,_,_⟩
   ·refine⟨[.sl (szOf T e) []],one (by simp only[Rep]; exact .inl ⟨trivial,none,0,rfl⟩),?_,by simp[zDR,S.bulk,Rows.uptoBulk,zEe]⟩
    simp only[Typed,hi,← h2]
    exact⟨[],rfl,by simp,fun r hr=>by cases hr⟩
   ·cases hm;subst hlen;have key:∀ j,j<elems.length->∃ ss:List S,ss.length=szOf T e/\a.spot=none/\RepRow (old w) w a.block ss (a.off+j * szOf T e)/\Typed T n e ss/\zDR ss<=Rows.uptoBulk ((elems.map (·.1)).getD j .nil):=fun j hj=>by
     have hspot:a.spot=none:=by
      have h0:=hel 0 (by omega)
      rw[List.getElem?_eq_getElem (by omega)]at h0;obtain⟨cs',g1,_⟩:=Option.bind_eq_some_iff.1 h0;obtain⟨_,g2,g3⟩:=World.cells?_some g1;rw[zEB hT hcl.1]at g2 g3;have:=g3 0 (by omega)
      rw[List.getElem?_eq_getElem (by omega)]at this;have:=(zPj this).2
      simpa [Addr.add] using this
     have h0:=hel j hj;rw[List.getElem?_eq_getElem hj]at h0;obtain⟨cs',g1,gy⟩:=Option.bind_eq_some_iff.1 h0;obtain⟨_,g2,g3⟩:=World.cells?_some g1;rw[zEB hT hcl.1]at g2 g3;obtain⟨ss,r1,r2,r3⟩:=conv hT hC n e cs' elems[j] hcl.1 gy;refine⟨ss,by rw[← r1.1,g2],hspot,zLi r1 fun q hq=>?_,r2,by simpa [List.getD,List.getElem?_eq_getElem hj] using r3⟩
     have:=g3 q (by rw[← g2,r1.1]; exact hq)
     rw[zSm hspot,zSm (a:=⟨a.block,_,none⟩) rfl]at this;exact this
    obtain⟨R,hR⟩:=Go.Deep.choose_lt key;refine⟨[.sl (szOf T e) ((List.range elems.length).map R)],one ?_,?_,?_⟩
    ·simp only[Rep]
     by_cases h0:elems.length=0
     ·exact .inl ⟨by simp[h0],some a,cap,by rw[h0]⟩
     ·have hspot:=(hR 0 (by omega)).2.1;refine .inr ⟨a.block,a.off,cap,?_,by simpa using hl,RepRows.mk fun j r hr=>?_⟩
      ·obtain⟨b,o,s⟩:=a; simp only at hspot; subst hspot; simp
      ·simp only[List.getElem?_map,Option.map_eq_some_iff]at hr;obtain⟨j',hj',rfl⟩:=hr;obtain⟨hlt,rfl⟩:=List.getElem?_eq_some_iff.1 hj';simp only[List.getElem_range,List.length_range]at hlt ⊢;exact⟨(hR j hlt).1,(hR j hlt).2.2.1⟩
    ·simp only[Typed,hi,← h2]
     refine⟨_,rfl,by simp; omega,fun r hr=>?_⟩
     obtain⟨j,hj,rfl⟩:=List.mem_map.1 hr;exact(hR j (by simpa using hj)).2.2.2.1
    ·have hb:=zOe (R:=R) (D:=fun j=>(elems.map (·.1)).getD j .nil) (l:=List.range elems.length) (fun j hj=>(hR j (by simpa using hj)).2.2.2.2)
     have e1:(List.range elems.length).map (fun j=>(elems.map (·.1)).getD j DataW.nil)=elems.map (·.1):=by
      apply List.ext_getElem (by simp)
      intro j g1 g2;simp only[List.length_map]at g2;simp[List.getD,List.getElem?_eq_getElem g2]
     rw[e1]at hb;simp only[zDR,S.bulk,Rows.uptoBulk]; omega
  case struct fs =>
   simp only[zDv,← h2]at hcl;obtain⟨xs,m,hm,rfl,hlen,hxl,hx⟩:=DataW.trod_struct h1 h;cases hm;rw[zEB hT ht]at hlen;obtain⟨ss,r1,r2,r3⟩:=zP9 (p:=Typed T n) hT (conv hT hC n) (fs.toList.map fun f=>(f.offset,f.type)) 0 i.size cs xs hcl (by rw[hlen,szOf,hi]) (by simpa using hxl) (fun j f hf=>by
    simp only[List.getElem?_map,Option.map_eq_some_iff]at hf;obtain⟨g,hg,rfl⟩:=hf;exact hx j g (by simpa using hg))
   refine⟨ss,by simpa using r1,?_,by simp only[Rows.uptoBulk]; omega⟩
   simp only[Typed,hi,← h2]
   exact r2
  case array len e =>
   simp only[zDv,← h2,Bool.and_eq_true]at hcl;obtain⟨he,hsz⟩:=hcl;have hsz:=Nat.eq_of_beq_eq_true hsz;have h':cs.length=P.cellsOf t/\∃ xs,(List.range len).mapM (fun i=>DataW.trod enc P w 0 spare held n e ((cs.drop (i * P.cellsOf e)).take (P.cellsOf e)))=some xs/\x=(.agg (xs.map (·.1)),xs.flatMap (·.2)):=by
    unfold DataW.trod at h;rw[h1]at h;split at h <;> simp_all
    obtain⟨hl,xs,hp,hd⟩:=h;exact⟨xs,hp,hd.symm⟩
   obtain⟨hlen,xs,hp,rfl⟩:=h';rw[zEB hT ht]at hlen;have hxl:=mapM_some_length hp;obtain⟨ss,r1,r2,r3⟩:=zP9 (p:=Typed T n) hT (conv hT hC n) ((List.range len).map fun i=>(0+i * szOf T e,e)) 0 i.size cs xs (by
     have:=zTi he len 0
     rwa [Nat.zero_add (len * szOf T e),hsz]at this) (by rw[hlen,szOf,hi]) (by simpa using hxl) (fun j f hf=>by
    simp only[List.getElem?_map,Option.map_eq_some_iff]at hf;obtain⟨g,hg,rfl⟩:=hf;have:=mapM_some_get hp j g hg;rw[zEB hT he]at this ⊢
    simpa using this)
   refine⟨ss,by simpa using r1,?_,by simp only[Rows.uptoBulk]; omega⟩
   simp only[Typed,hi,← h2]
   have e1:((List.range len).map fun i=>(0+i * szOf T e,e)).map (·.2)=List.replicate len e:=by
    rw[List.map_map]
    apply List.ext_getElem (by simp)
    intro j g1 g2;simp
   rwa [e1]at r2
  all_goals simp[zDv,← h2]at hcl
end
def zW3 (T:Nat->Option TI) (t:Nat) (ss:List S):AV:=match T t with
 | some i=>match i.k.agg with
  | true=>.agg (ss.map .s)
  | false=>.s (ss.headD .np)
 | none=>.junk
def zMk (T:Nat->Option TI):List Nat->List (List S)->List AV
 | t::ts,ss::sss=>zW3 T t ss::zMk T ts sss
 | _,_=>[]
def zWY (T:Nat->Option TI):List Nat->List (List S)->Prop
 | [],sss=>sss=[]
 | t::ts,sss=>∃ ss r,sss=ss::r/\(∃ n,Typed T n t ss)/\zWY T ts r
theorem zMl {T:Nat->Option TI}:∀ {ts:List Nat}{sss:List (List S)},(∀ t∈ts,(T t).isSome=true)->AV.persAll (zMk T ts sss)=true
 | [],_,_=>by cases ‹List (List S)› <;> rfl
 | _::_,[],_=>rfl
 | t::ts,ss::sss,h=>by
  simp only[zMk,AV.persAll,Bool.and_eq_true]
  refine⟨?_,zMl fun t' h'=>h t' (List.mem_cons_of_mem _ h')⟩
  obtain⟨i,hi⟩:=Option.isSome_iff_exists.1 (h t List.mem_cons_self)
  unfold zW3;rw[hi]
  simp only;split
  ·simp only[AV.pers]
   clear hi
   induction ss with
   | nil=>rfl
   | cons s r ih=>simp[AV.persAll,AV.pers,ih]
  ·rfl
section
variable {H:Type} {enc:TypeId×Value->H} {P:Program} {T:Nat->Option TI} {w:World} {spare:Nat->Bool} {held:Bool}
theorem zUy {r:Reach}{base t:Nat}{d:TypeDesc}{v:Value} (h:P.underlying t=some d) (hk:(tkOf d).agg=false) (hok:Value.okWide P w r base t v):v.oneCell'=true:=by
 cases d <;> simp only[tkOf,TK.agg,reduceCtorEq,Bool.true_eq_false]at hk <;> simp only[Value.okWide,h]at hok <;> cases v <;> first
  | rfl
  | (exfalso; simp only[Cell.okWide,Cell.ok,h]at hok)
theorem zUx {r:Reach}{base t:Nat}{d:TypeDesc}{v:Value} (h:P.underlying t=some d) (hk:(tkOf d).agg=true) (hok:Value.okWide P w r base t v):∃ cs,v = .agg cs:=by
 cases d <;> simp only[tkOf,TK.agg,reduceCtorEq,Bool.false_eq_true]at hk <;> simp only[Value.okWide,h]at hok <;> exact⟨_,hok.choose_spec.1⟩
theorem zOb {G:Nat->Prop}{β:Nat->Value}:∀ {ss:List S}{vs:List Value},Reps G w ss vs->AVals G w β (ss.map .s) vs
 | [],vs,h=>by simp only[List.map_nil,AVals]; exact List.length_eq_zero_iff.1 h.1
 | s::ss,[],h=>by simp[Reps]at h
 | s::ss,v::vs,h=>by
  simp only[List.map_cons,AVals]
  exact⟨v,vs,rfl,by simp only[AVal]; exact h.2 0 s v rfl rfl,zOb ⟨by simpa using h.1,fun i s v h1 h2=>h.2 (i+1) s v (by simpa using h1) (by simpa using h2)⟩⟩
theorem zXb (hT:TOk P T) (hC:∀ t i,T t=some i->zDv T i=true){β:Nat->Value}{r:Reach}{base t:Nat}{v:Value}{d:DataW H}{p:List MemPlace} (ht:(T t).isSome=true)
  (hok:Value.okWide P w r base t v) (h:DataW.Trod enc P w 0 spare held t v d p):∃ ss,(∃ n,Typed T n t ss)/\AVal (old w) w β (zW3 T t ss) v/\zDR ss<=Rows.uptoBulk d:=by
 obtain⟨n,hn⟩:=h;obtain⟨ss,r1,r2,r3⟩:=conv hT hC n t _ _ ht hn;obtain⟨i,hi⟩:=Option.isSome_iff_exists.1 ht;obtain⟨d',info,z,h1,h2,_⟩:=hT t i hi;refine⟨ss,⟨n,r2⟩,?_,r3⟩
 unfold zW3;rw[hi]
 simp only;cases hag:i.k.agg with
 | true =>
  obtain⟨cs,rfl⟩:=zUx h1 (by rw[h2]; exact hag) hok;simp only[AVal]
  exact⟨cs.toList,by simp,zOb r1⟩
 | false =>
  have hone:=zUy h1 (by rw[h2]; exact hag) hok;rw[cells_one hone]at r1
  match ss,r1 with
  | [s],r1=>simp only[AVal,List.headD_cons]; exact r1.2 0 s v rfl rfl
theorem zQP (hT:TOk P T) (hC:∀ t i,T t=some i->zDv T i=true){β:Nat->Value}{r:Reach}{base:Nat}:∀ {ts:List Nat}{vs:List Value}{ds:List (DataW H)}{ps:List MemPlace},
  (∀ t∈ts,(T t).isSome=true)->(∀ (j:Nat) t v,ts[j]? = some t->vs[j]? = some v->Value.okWide P w r base t v)->DataW.TrodAll enc P w 0 spare held ts vs ds ps ->
  ∃ sss,zWY T ts sss/\AVals (old w) w β (zMk T ts sss) vs/\zEe sss<=Rows.uptoBulkAll ds
 | [],vs,ds,ps,_,_,h=>by
  obtain⟨rfl,rfl,rfl⟩:=trodAll_nil h;exact⟨[],rfl,by simp only[zMk,AVals],by simp[zEe]⟩
 | t::ts,vs,ds,ps,ht,hok,h=>by
  obtain⟨v,vs',d,ds',p,q,rfl,rfl,rfl,h1,h2⟩:=trodAll_cons h;obtain⟨ss,a1,a2,a3⟩:=zXb hT hC (β:=β) (ht t List.mem_cons_self) (hok 0 t v rfl rfl) h1;obtain⟨sss,b1,b2,b3⟩:=zQP hT hC (β:=β) (fun t' h'=>ht t' (List.mem_cons_of_mem _ h')) (fun j t' v' e1 e2=>hok (j+1) t' v' (by simpa using e1) (by simpa using e2)) h2;refine⟨ss::sss,⟨ss,sss,rfl,a1,b1⟩,?_,?_⟩
  ·simp only[zMk,AVals]; exact⟨v,vs',rfl,a2,b2⟩
  ·simp only[zEe,Rows.uptoBulkAll]; omega
theorem zKc (hl:laidOutB P=true){W W':World} (hb:Below W.heap.size W W'):∀ {ts:List Nat}{vs:List Value}{ds:List (DataW H)}{ps:List MemPlace},(∀ t∈ts,P.readableRec t=true/\t<P.types.size) ->
  DataW.TrodAll enc P W 0 (fun _=>true) true ts vs ds ps->(∀ p∈ps,p.block<W.heap.size)->DataW.TrodAll enc P W' 0 (fun b=>decide (b<W.heap.size)) true ts vs ds ps
 | [],vs,ds,ps,_,h,_=>by
  obtain⟨rfl,rfl,rfl⟩:=trodAll_nil h;exact trodAll_mk0
 | t::ts,vs,ds,ps,ht,h,hlt=>by
  obtain⟨v,vs',d,ds',p,q,rfl,rfl,rfl,h1,h2⟩:=trodAll_cons h;exact⟨p,q,Below.trod hl (ht t List.mem_cons_self).1 (ht t List.mem_cons_self).2 h1 hb (fun x hx=>hlt x (List.mem_append_left _ hx)),
   zKc hl hb (fun t' h'=>ht t' (List.mem_cons_of_mem _ h')) h2 (fun x hx=>hlt x (List.mem_append_right _ hx)),rfl⟩
theorem trodAll_length {base:Nat}:∀ {ts:List Nat}{vs:List Value}{ds:List (DataW H)}{ps:List MemPlace},DataW.TrodAll enc P w base spare held ts vs ds ps->ds.length=ts.length
 | [],vs,ds,ps,h=>by
  obtain⟨rfl,rfl,rfl⟩:=trodAll_nil h
  rfl
 | t::ts,vs,ds,ps,h=>by
  obtain⟨v,vs',d,ds',p,q,rfl,rfl,rfl,h1,h2⟩:=trodAll_cons h;simp[trodAll_length h2]
theorem zRl (hT:TOk P T) (hC:∀ t i,T t=some i->zDv T i=true) (hl:laidOutB P=true){f tb:Nat}{fn:Func}{s:ChangeSpec}{ps:zAp} (hs:PSound P f ps) (hvars:s.vars=[])
  (hpar:∀ t∈fn.params.toList,(T t).isSome=true/\P.readableRec t=true/\t<P.types.size) (hres:fn.resultTypes = #[tb]) (htb:P.underlying tb=some .bool)
  (hfn:∀ (ds:List (DataW H)),ds.length=fn.params.size->s.fn H ds={ results:=[.lit (.bool true)],args:=ds })
  (zRa:∀ sss,zWY T fn.params.toList sss->zEe sss<=1048576->ps.spec (zMk T fn.params.toList sss) (.val (.s (.bool true))))
  {F:Stop.Interp} (W:World) (base:Nat) (args:Array Value) (ds gs:List (DataW H)) (before:List MemPlace)
  (hval:∀ (j:Nat) t v,fn.params[j]? = some t->args[j]? = some v->Value.okWide P W .any base t v)
  (hW:DataW.Whole enc P fn.params.toList s.vars false W args.toList ds gs before) (hk:Rows.uptoSmall H (ds++gs)=true) (hgl:GlobOk (old W) W:=by exact⟨fun g row h=>(by cases h),fun g cs h=>(by cases h)⟩) :
  Calls P f args W fun e W'=>∃ v,e = .returned v/\s.post enc P fn false true false false W args v W':=by
 have hW':=hW;obtain⟨p,q,hA,hV,rfl,hfz,hnd⟩:=hW;rw[hvars]at hV;obtain⟨rfl,rfl⟩:=trodVars_none hV;have hb:Rows.uptoBulkAll ds<=1048576:=by
  have:=of_decide_eq_true hk
  simpa using this
 obtain⟨sss,c1,c2,c3⟩:=zQP hT hC (β:=fun _=>.tuple #[]) (fun t ht=>(hpar t ht).1) (fun j t v h1 h2=>hval j t v (by simpa using h1) (by simpa using h2)) hA;have hcall:=hs.2.1 (old W) W _ _ _ (fun _ h=>h) hgl (zMl fun t ht=>(hpar t ht).1) c2 (zRa sss c1 (Nat.le_trans c3 hb))
 refine hcall.mono fun e W' ⟨v,G',he,hext,hret⟩=>⟨v,he,?_⟩
 obtain⟨_,hret⟩:=hret;simp only[AVal,Rep]at hret;subst hret;have hbelow:Below W.heap.size W W':=⟨hext.os,hext.tape,hext.output,hext.size,fun k hk=>hext.old k hk⟩
 have hlen:ds.length=fn.params.size :=(by simpa using trodAll_length hA);have hlt:∀ x∈p,x.block<W.heap.size:=fun x hx=>by simpa using hW'.lt x (by simpa using hx)
 refine⟨ds,[],p++[],[],p,[],hW',?_,?_,?_,hbelow.frame _,fun h=>by cases h⟩
 ·rw[List.append_nil,hfn ds hlen,hres]
  exact trodAll_cons_mk (shut_bool htb true) trodAll_mk0
 ·rw[List.append_nil,hfn ds hlen]
  exact zKc hl hbelow (fun t ht=>(hpar t ht).2) hA hlt
 ·rw[List.append_nil,hfn ds hlen,hvars]
  rfl
end
def look? {α:Type} (k:Nat):List (Nat×α)->Option α
 | []=>none
 | (a,b)::r=>match Nat.beq k a with | true=>some b | false=>look? k r
theorem zAo {α:Type}{Q:Nat->α->Prop}:∀ {l:List (Nat×α)},(∀ p∈l,Q p.1 p.2)->∀ t i,look? t l=some i->Q t i
 | [],_,t,i,h=>by simp[look?]at h
 | (a,b)::r,hl,t,i,h=>by
  simp only[look?]at h;split at h
  ·rename_i e; cases h; obtain rfl:=Nat.eq_of_beq_eq_true e; exact hl _ List.mem_cons_self
  ·exact zAo (fun p hp=>hl p (List.mem_cons_of_mem _ hp)) t i h
def okT (P:Program) (t:Nat) (i:TI):Prop:=∃ d info z,P.underlying t=some d/\tkOf d=i.k/\P.info? t=some info/\info.size=i.size/\info.bytes=i.bytes /\
  info.zero=some z/\z=(if i.k.agg then .agg (i.zero.map S.zval).toArray else (i.zero.headD .np).zval)/\i.zero.length=i.size/\(i.k.agg=false->i.size=1)/\i.zero.all S.zok=true
theorem zYE {P:Program}{tab:List (Nat×TI)} (h:∀ p∈tab,okT P p.1 p.2):TOk P (fun t=>look? t tab):=zAo (Q:=okT P) h
theorem zVg {tab:List (Nat×TI)} (h:tab.all (fun p=>zDv (fun t=>look? t tab) p.2)=true):∀ t i,look? t tab=some i->zDv (fun t=>look? t tab) i=true :=
 zAo (Q:=fun _ i=>zDv (fun t=>look? t tab) i=true) fun p hp=>List.all_eq_true.1 h p hp
theorem wrap64_in {n:Int} (h0 : -9223372036854775808<=n) (h1:n<9223372036854775808):IntKind.i64.wrap n=n:=by
 simp only[IntKind.wrap,IntKind.bits,IntKind.signed]
 by_cases hn:0<=n
 ·have e:n % (2 ^ 64:Int)=n:=Int.emod_eq_of_lt hn (by omega)
  simp only[e]
  rw[if_neg (by simp; omega)]
 ·have e:n % (2 ^ 64:Int)=n+2 ^ 64:=by
   rw[← Int.add_emod_right]; exact Int.emod_eq_of_lt (by omega) (by omega)
  simp only[e]
  rw[if_pos (by simp; omega)]
  omega
section
variable {T:Nat->Option TI}
theorem zFP {n t:Nat}{ss:List S}{i:TI}{k:IntKind} (ht:T t=some i) (hk:i.k = .int k) (h:Typed T n t ss):∃ x:Int,ss=[.int k x]/\k.min<=x/\x<=k.max:=by
 cases n with
 | zero=>exact h.elim
 | succ n=>simpa only[Typed,ht,hk] using h
theorem zNu {n t:Nat}{ss:List S}{i:TI} (ht:T t=some i) (hk:i.k = .str) (h:Typed T n t ss):∃ l:List UInt8,ss=[.str l]/\l.length<=maxLen:=by
 cases n with
 | zero=>exact h.elim
 | succ n=>simpa only[Typed,ht,hk] using h
theorem zG3 {n t e:Nat}{ss:List S}{i:TI} (ht:T t=some i) (hk:i.k = .slice e) (h:Typed T n t ss):∃ m rows,n=m+1/\ss=[.sl (szOf T e) rows]/\rows.length<=maxLen/\∀ r∈rows,Typed T m e r:=by
 cases n with
 | zero=>exact h.elim
 | succ n =>
  simp only[Typed,ht,hk]at h;obtain⟨rows,h1,h2,h3⟩:=h;exact⟨n,rows,rfl,h1,h2,h3⟩
theorem zLk {n t:Nat}{fs:List (Nat×Nat)}{ss:List S}{i:TI} (ht:T t=some i) (hk:i.k = .struct fs) (h:Typed T n t ss):∃ m,n=m+1/\zWz (Typed T m) (fs.map (·.2)) ss:=by
 cases n with
 | zero=>exact h.elim
 | succ n =>
  simp only[Typed,ht,hk]at h;exact⟨n,rfl,h⟩
theorem zMi {α β:Type}{f:α->β}{q:α->Prop}:∀ {l:List β},(∀ y∈l,∃ x,y=f x/\q x)->∃ xs:List α,l=xs.map f/\∀ x∈xs,q x
 | [],_=>⟨[],rfl,fun _ h=>by cases h⟩
 | y::l,h=>by
  obtain⟨x,hx,hq⟩:=h y List.mem_cons_self;obtain⟨xs,h1,h2⟩:=zMi (fun z hz=>h z (List.mem_cons_of_mem _ hz))
  refine⟨x::xs,by rw[hx,h1]; rfl,fun z hz=>?_⟩
  rcases List.mem_cons.1 hz with rfl | hz
  ·exact hq
  ·exact h2 z hz
def irow (k:IntKind) (x:Int):List S:=[.int k x]
theorem zUO {n t e:Nat}{ss:List S}{i j:TI}{k:IntKind} (ht:T t=some i) (hk:i.k = .slice e) (he:T e=some j) (hj:j.k = .int k) (h:Typed T n t ss) :
  ∃ xs:List Int,ss=[.sl j.size (xs.map (irow k))]/\xs.length<=maxLen/\∀ x∈xs,k.min<=x/\x<=k.max:=by
 obtain⟨m,rows,_,rfl,h2,h3⟩:=zG3 ht hk h;obtain⟨xs,rfl,hq⟩:=zMi (f:=irow k) (q:=fun x=>k.min<=x/\x<=k.max) (l:=rows) fun r hr=>by
  obtain⟨x,h4,h5⟩:=zFP he hj (h3 r hr)
  exact⟨x,h4,h5⟩
 exact⟨xs,by simp[szOf,he],by simpa using h2,hq⟩
end
theorem zQI:∀ (l:List S),l.length<=zDR l
 | []=>by simp[zDR]
 | s::l=>by
  have:=zQI l;have h1:1<=s.bulk :=(by cases s <;> simp[S.bulk]);simp only[zDR,List.length_cons]; omega
theorem zQJ:∀ {rows:List (List S)},(∀ r∈rows,1<=r.length)->rows.length<=zEe rows
 | [],_=>by simp[zEe]
 | r::rows,h=>by
  have h1:=h r List.mem_cons_self;have h2:=zQI r;have h3:=zQJ (rows:=rows) (fun r' hr=>h r' (List.mem_cons_of_mem _ hr))
  simp only[zEe,List.length_cons]; omega
theorem zU8 (k:IntKind) (xs:List Int):xs.length<=zEe (xs.map (irow k)):=by
 have:=zQJ (rows:=xs.map (irow k)) (fun r hr=>by obtain⟨c,_,rfl⟩:=List.mem_map.1 hr; exact Nat.le_refl 1)
 simpa using this
theorem zFk {P:Program}{f:Nat}{s:Nat->List AV->Ret->Prop} (h:∀ n,PSound P f (zAu (s n))):PSound P f (zAu fun xs r=>∃ n,s n xs r) :=
 ⟨(h 0).1,fun G w xs vs r hl hgl hp hv ⟨n,hn⟩=>(h n).2.1 G w xs vs r hl hgl hp hv hn,fun R hR=>(by cases hR),fun R hR=>(by cases hR)⟩
theorem zDr {P:Program}{f:Nat}{s:List AV->Ret->Prop} (hcall:∀ args w,(callFunc f args).run P w = .ok (.enter f args) w) (h:∀ xs r,¬ s xs r):PSound P f (zAu s) :=
 ⟨hcall,fun G w xs vs r _ _ _ _ hs=>absurd hs (h xs r),fun R hR=>(by cases hR),fun R hR=>(by cases hR)⟩
def req {α:Type} (φ:Prop) [Decidable φ] (K:Option α):Option α:=if φ then K else none
theorem zAK {α:Type}{φ:Prop} [Decidable φ] {K:Option α}{r:α} (h:req φ K=some r):φ/\K=some r:=by
 unfold req at h;split at h
 ·exact⟨by assumption,h⟩
 ·cases h
theorem zCs {α:Type}{φ:Prop} [Decidable φ] {K:Option α} (h:φ):req φ K=K:=if_pos h
theorem zAc {α β:Type}{o:Option α}{f:α->Option β}{r:β} (h:o.bind f=some r):∃ x,o=some x/\f x=some r:=by
 cases o with
 | none=>cases h
 | some x=>exact⟨x,rfl,h⟩
theorem zAw {α:Type}{b:Bool}{A B:Option α}{r:α} (hb:b=true) (h:(bif b then A else B)=some r):A=some r:=by subst hb; exact h
theorem zAv {α:Type}{b:Bool}{A B:Option α}{r:α} (hb:b=false) (h:(bif b then A else B)=some r):B=some r:=by subst hb; exact h
theorem obs {α β:Type} (a:α) (f:α->Option β):(some a).bind f=f a :=
 rfl
theorem osi {α:Type}{a b:α} (h:some a=some b):a=b :=
 Option.some.inj h
theorem zAm {c:Cx}{σ:St}{Q:End->St->Prop}{x y:Code}{t:Nat}{b:Bool}{α:Type}{A B:Option α}{r:α} (hb:σ.env t = .s (.bool b)) (h:(bif b then A else B)=some r) (h1:b=true->A=some r->Tri c x σ Q) (h2:b=false->B=some r->Tri c y σ Q):Tri c (.cond (.tmp t) x y) σ Q :=
 zAx hb (fun e=>h1 e (zAw e h)) (fun e=>h2 e (zAv e h))
theorem pij {α β:Type}{a c:α}{b d:β} (h:some (a,b)=some (c,d)):a=c/\b=d :=
 Prod.mk.inj (Option.some.inj h)
inductive Fl (R G:Type) where
 | ret (r:R)
 | go (g:G)
def at? {α:Type} (l:List α) (i:Int):Option α:=if 0<=i then l[i.toNat]? else none
theorem zAq {α:Type}{R:List α->List (List S)}{f:α->List S} (hR:∀ l,R l=l.map f){l:List α}{i:Int}{y:α} (h:at? l i=some y) :
  (0<=i/\i<((R l).length:Int))/\(R l).getD i.toNat []=f y/\i.toNat<(R l).length:=by
 unfold at? at h;split at h
 ·rename_i h0
  obtain⟨hl,hy⟩:=List.getElem?_eq_some_iff.1 h;rw[hR,List.length_map]
  exact⟨⟨h0,by omega⟩,by simp[h],hl⟩
 ·cases h
theorem zBJ {α:Type}{l:List α}{i:Nat} (h:i<l.length):at? l (i:Int)=some l[i]:=by
 simp[at?,h]
theorem rlen {α:Type}{R:List α->List (List S)}{f:α->List S} (hR:∀ l,R l=l.map f) (l:List α):(R l).length=l.length:=by rw[hR,List.length_map]
theorem rlE {α:Type}{f:α->List S}{R:List α->List (List S)} (hR:∀ l,R l=l.map f) (l:List α){n:Int} (h:n=(((R l).length:Nat):Int)):((l.length:Nat):Int)=n :=
 (h.trans (congrArg (fun m:Nat=>(m:Int)) (rlen hR l))).symm
theorem rcut {α:Type}{R:List α->List (List S)}{f:α->List S} (hR:∀ l,R l=l.map f) (l:List α) (a b:Nat):((R l).take b).drop a=R ((l.take b).drop a):=by
 rw[hR,hR,List.map_drop,List.map_take]
theorem at_set {α:Type}{l:List α}{i:Int}{y:α} (h:at? l i=some y) (y':α):at? (l.set i.toNat y') i=some y':=by
 unfold at? at h ⊢;split at h
 ·rename_i h0
  rw[if_pos h0]
  rw[List.getElem?_set_self (List.getElem?_eq_some_iff.1 h).1]
 ·cases h
theorem rset {α:Type}{R:List α->List (List S)}{f:α->List S} (hR:∀ l,R l=l.map f){l:List α}{i:Int}{y:α} (h:at? l i=some y) (y':α) (o n:Nat) (ss:List S) (hs:(f y).take o++ss++(f y).drop n=f y') :
  (R l).set i.toNat (((R l).getD i.toNat []).take o++ss++((R l).getD i.toNat []).drop n)=R (l.set i.toNat y'):=by
 rw[(zAq hR h).2.1,hs,hR,hR,List.map_set]
def b8of (n:Int):UInt8:=UInt8.ofNat n.toNat
theorem zF2 {n:Int} (h0:0<=n) (h1:n<=255):[S.int .u8 n]=brow (b8of n):=by
 have:(b8of n).toNat=n.toNat :=(by simp[b8of,UInt8.toNat_ofNat']; omega);simp only[brow,this,Int.toNat_of_nonneg h0]
theorem zNw (n:Int):0<=IntKind.u8.wrap n/\IntKind.u8.wrap n<=255:=by
 have:IntKind.u8.wrap n=n % 256:=by
  simp only[IntKind.wrap,IntKind.bits,IntKind.signed]
  simp
 rw[this]; omega
theorem zFw (n:Int):[S.int .u8 (IntKind.u8.wrap n)]=brow (b8of (IntKind.u8.wrap n)):=zF2 (zNw n).1 (zNw n).2
theorem zAn {c:Cx}{σ:St}{Q:End->St->Prop}{x:Code} (σ1:St) (h1:Tri c x σ (fun e σ'=>match e with | .normal=>Le c σ' σ1 | e=>Q e σ')) (h2:∀ σ',Le c σ' σ1->Q .normal σ'):Tri c x σ Q :=
 zQc h1 fun e σ' hq=>by
  cases e with
  | normal=>exact h2 σ' hq
  | exit id=>exact hq
  | ret=>exact hq
theorem zF9 {c:Cx}{σ:St}{Q:End->St->Prop}{x:Code}{R Z:Type}{fl:Fl R Z} (E:Z->St) (h1:Tri c x σ (fun e σ'=>match e with | .normal=>∃ z,fl = .go z/\Le c σ' (E z) | e=>Q e σ'))
  (h2:∀ z σ',fl = .go z->Le c σ' (E z)->Q .normal σ'):Tri c x σ Q :=
 zQc h1 fun e σ' hq=>by
  cases e with
  | normal=>obtain⟨z,h3,h4⟩:=hq; exact h2 z σ' h3 h4
  | exit id=>exact hq
  | ret=>exact hq
theorem zCD {l:List UInt8}{i:Int}{y:UInt8} (h:at? l i=some y):(0<=i/\i<(l.length:Int))/\((l.getD i.toNat 0).toNat:Int)=(y.toNat:Int):=by
 unfold at? at h;split at h
 ·rename_i h0
  obtain⟨hl,hy⟩:=List.getElem?_eq_some_iff.1 h;exact⟨⟨h0,by omega⟩,by simp[h]⟩
 ·cases h
theorem PSound.withNil {P:Program}{f:Nat}{R:List AV->List Ob->AV->List (Option Ob)->Prop} (h:PSound P f (zB1 R)) (k:Option Nat):PSound P f (zB1 R k):=⟨h.1,h.2.1,h.2.2.1,fun R hR=>by cases hR⟩
theorem zEJ {P:Program}{f:Nat}{R:List AV->List Ob->AV->List (Option Ob)->Prop} (hcall:∀ args w,(callFunc f args).run P w = .ok (.enter f args) w) (h:∀ xs os x os',¬ R xs os x os') (k:Option Nat):PSound P f (zB1 R k) :=
 ⟨hcall,fun G w xs vs r _ _ _ _ hs=>hs.elim,fun R' hR'=>(by
  obtain rfl:R=R' :=(by simpa [zB1] using hR');exact fun G w β xs vs os x os' _ _ _ _ _ hs=>absurd hs (h xs os x os')),fun R hR=>(by cases hR)⟩
theorem zKB {P:Program}{f:Nat}{s:Nat->List AV->List Ob->AV->List (Option Ob)->Prop}{k:Option Nat} (h:∀ n,PSound P f (zB1 (s n) k)) (k':Option Nat):PSound P f (zB1 (fun xs os x os'=>∃ n,s n xs os x os') k') :=
 ⟨(h 0).1,fun G w xs vs r _ _ _ _ hs=>hs.elim,fun R' hR'=>(by
  obtain rfl:(fun xs os x os'=>∃ n,s n xs os x os')=R' :=(by simpa [zB1] using hR');exact fun G w β xs vs os x os' h1 h2 h3 h4 h5 ⟨n,hs⟩=>(h n).2.2.1 (s n) rfl G w β xs vs os x os' h1 h2 h3 h4 h5 hs),fun R hR=>(by cases hR)⟩
theorem zAP {i:Nat} (h:i<9223372036854775807):IntKind.i64.wrap ((i:Int)+1)=((i+1:Nat):Int):=by
 rw[wrap64_in (by omega) (by omega)]; rfl
end Go.Abs
namespace Go.Proofs.YtbfnjnljboncgaaGreatDoor
open Go.Abs
inductive Nd where
 | mk (kind:Int) (text:List UInt8) (cols:Int) (kids:List Nd)
abbrev zO8:=Int×List Int×Int×Int×List Nd×Int×List UInt8×List UInt8
abbrev zCu:=List Int×List Int
abbrev zRc:=List zO8×zCu×zCu
mutual
def Nd.enc:Nd->List S
 | .mk k t c ks=>[.int .i64 k,.str t,.int .i64 c,.sl 4 (Nd.encs ks)]
def Nd.encs:List Nd->List (List S)
 | []=>[]
 | v::vs=>v.enc::Nd.encs vs
end
mutual
def Nd.w:Nd->Nat
 | .mk _ t _ ks=>t.length+Nd.ws ks+1
def Nd.ws:List Nd->Nat
 | []=>0
 | v::vs=>v.w+Nd.ws vs+1
end
def zLr (n:Int):Prop:=-9223372036854775808<=n/\n<=9223372036854775807
mutual
def Nd.rng:Nd->Prop
 | .mk k _ c ks=>zLr k/\zLr c/\Nd.rngs ks
def Nd.rngs:List Nd->Prop
 | []=>True
 | v::vs=>v.rng/\Nd.rngs vs
end
theorem Nd.encs_eq:∀ (vs:List Nd),Nd.encs vs=vs.map Nd.enc
 | []=>rfl
 | v::vs=>by simp[Nd.encs,Nd.encs_eq vs]
theorem Nd.rngAll:∀ {vs:List Nd},(∀ v∈vs,v.rng)->Nd.rngs vs
 | [],_=>trivial
 | v::vs,h=>⟨h v List.mem_cons_self,Nd.rngAll fun u hu=>h u (List.mem_cons_of_mem _ hu)⟩
theorem Nd.rng_mem:∀ {vs:List Nd}{v:Nd},Nd.rngs vs->v∈vs->v.rng
 | u::vs,v,h,hm=>by
  rcases List.mem_cons.1 hm with rfl | hm
  ·exact h.1
  ·exact Nd.rng_mem h.2 hm
theorem Nd.w_mem:∀ {vs:List Nd}{v:Nd},v∈vs->v.w<Nd.ws vs
 | u::vs,v,hm=>by
  simp only[Nd.ws]
  rcases List.mem_cons.1 hm with rfl | hm
  ·omega
  ·have:=Nd.w_mem hm; omega
theorem Nd.ws_len:∀ (vs:List Nd),vs.length<=Nd.ws vs
 | []=>Nat.le_refl _
 | v::vs=>by have:=Nd.ws_len vs; simp only[Nd.ws,List.length_cons]; omega
theorem Nd.ws_append:∀ (a b:List Nd),Nd.ws (a++b)=Nd.ws a+Nd.ws b
 | [],b=>by simp[Nd.ws]
 | v::a,b=>by simp only[List.cons_append,Nd.ws,Nd.ws_append a b]; omega
mutual
theorem Nd.w_bulk:∀ (v:Nd),v.w+1<=zDR v.enc
 | .mk k t c vs=>by
  have:=Nd.ws_bulk vs
  simp only[Nd.w,Nd.enc,zDR,S.bulk]; omega
theorem Nd.ws_bulk:∀ (vs:List Nd),Nd.ws vs<=zEe (Nd.encs vs)
 | []=>Nat.zero_le _
 | v::vs=>by
  have h1:=Nd.w_bulk v
  have h2:=Nd.ws_bulk vs
  simp only[Nd.ws,Nd.encs,zEe]; omega
end
theorem zOX {T:Nat->Option TI}{e s ki st:Nat}{i j k1 k2:TI} (he:T e=some i) (hk:i.k = .struct [(0,ki),(1,st),(2,ki),(3,s)]) (hs:T s=some j) (hj:j.k = .slice e) (hz:szOf T e=4)
  (hi:T ki=some k1) (hki:k1.k = .int .i64) (ht:T st=some k2) (hkt:k2.k = .str) :
  ∀ (n:Nat) {ss:List S},Typed T n e ss->∃ t:Nd,ss=t.enc/\t.rng:=by
 intro n
 induction n using Nat.strongRecOn with
 | _ n ih =>
  intro ss h;obtain⟨m,rfl,a0,q0,rfl,u0,a1,q1,rfl,u1,a2,q2,rfl,u2,a3,q3,rfl,u3,rfl⟩:=zLk (T:=T) he hk h;obtain⟨k,rfl,k1,k2⟩:=zFP (T:=T) (k:=.i64) hi hki u0;obtain⟨t,rfl,_⟩:=zNu (T:=T) ht hkt u1;obtain⟨c,rfl,c1,c2⟩:=zFP (T:=T) (k:=.i64) hi hki u2;obtain⟨m',rows,rfl,rfl,_,hr⟩:=zG3 (T:=T) hs hj u3;obtain⟨ks,rfl,hks⟩:=zMi (f:=Nd.enc) (q:=Nd.rng) (l:=rows) fun r hr'=>ih m' (by omega) (hr r hr')
  refine⟨.mk k t c ks,by simp only[Nd.enc,Nd.encs_eq,hz]; rfl,?_⟩
  have e1:IntKind.i64.min = -9223372036854775808/\IntKind.i64.max=9223372036854775807 :=(by decide);rw[e1.1]at k1 c1; rw[e1.2]at k2 c2
  exact⟨⟨k1,k2⟩,⟨c1,c2⟩,Nd.rngAll hks⟩
def zCZ (s p:List UInt8):Option Int:=req (p.length=1) <| some (Lib.indexByte s (p.headD 0))
def zEq (s p:List UInt8):Option Bool:=req (p.length=1) <| some (decide (0<=Lib.indexByte s (p.headD 0)))
def zCY (s:List UInt8) (c:Int):Option Int:=some (Lib.indexByte s c.toNat.toUInt8)
def zAY (b:List UInt8):Option (List UInt8):=some b
def zCN (b:List UInt8):Option (List UInt8):=req (b ≠ []/\b.length<=9223372036854775807) <| some b
def zDN (n:Int):Option (List UInt8):=req (-9223372036854775808<=n/\n<=9223372036854775807) <| some (Lib.itoa n)
def zDU (n:Int):Option (List Nd):=req (0<=n/\n<=1073741824) (some [])
def zDh (n:Int):Option (List Int):=req (0<=n/\n<=1073741824) (some [])
def zDH (l:List Nd):Option (List Nd):=req (l.length<=4294967296) (some l)
def zCX (l:List Int):Option (List Int):=req (l.length<=4294967296) (some l)
def zCb:(List UInt8)->Option Bool
| s1=>some (s1 == [])
def zBu (s1:List UInt8):Nat->Int->Option (Fl Bool Unit)
| 0,_=>none
| k+1,i2=>bif decide (i2<(s1.length:Int)) then ((at? s1 i2).bind fun c3=>(bif decide ((zKm .or .u8 (c3.toNat:Int) 32)<97) then (some true) else (some (decide (122<(zKm .or .u8 (c3.toNat:Int) 32)))):Option (Bool)).bind fun x5=>bif x5 then (some (.ret false)) else (zBu s1 k (IntKind.i64.wrap (i2+1)))) else (some (.go ()))
def zDb (n:Nat):(List UInt8)->Option Bool
| s1=>(zBu s1 n 0).bind fun fl=>match fl with
 | .ret r=>some r
 | .go _=>some true
def zDM:(List UInt8)->Option Bool
| s1=>((bif (s1 == [102,114,97,99]) then (some (s1 == [102,114,97,99])) else (bif (s1 == [114,111,111,116]) then (some (s1 == [114,111,111,116])) else (bif (s1 == [109,97,116,114,105,120]) then (some (s1 == [109,97,116,114,105,120])) else (some (s1 == [102,101,110,99,101])))):Option (Bool)).bind fun x2=>bif x2 then (some (.ret true)) else (some (.go ())):Option (Fl Bool Unit)).bind fun fl=>match fl with
 | .ret r=>some r
 | .go _=>some false
def zDz:(List UInt8)->Option Bool
| s1=>((bif (s1 == [104,97,116]) then (some (s1 == [104,97,116])) else (bif (s1 == [98,97,114]) then (some (s1 == [98,97,114])) else (bif (s1 == [118,101,99]) then (some (s1 == [118,101,99])) else (bif (s1 == [100,111,116]) then (some (s1 == [100,111,116])) else (bif (s1 == [116,105,108,100,101]) then (some (s1 == [116,105,108,100,101])) else (some (s1 == [99,104,101,99,107])))))):Option (Bool)).bind fun x2=>bif x2 then (some (.ret true)) else (some (.go ())):Option (Fl Bool Unit)).bind fun fl=>match fl with
 | .ret r=>some r
 | .go _=>some false
def zEp (n:Nat):(List UInt8)->Option Bool
| s1=>bif ((s1.length:Int) == 1) then (((zDb n s1).bind fun y3=>bif y3 then (some true) else ((zEq [43,45,42,47,61,60,62,44,59,58,33,124,39,63,126,64] s1).bind fun y4=>some y4):Option (Bool)).bind fun x2=>some x2) else ((bif decide (2<=(s1.length:Int)) then (bif decide ((s1.length:Int)<=16) then ((zDb n s1).bind fun y6=>bif y6 then ((zDM s1).bind fun y7=>bif (!y7) then ((zDz s1).bind fun y8=>some (!y8)) else (some false)) else (some false)) else (some false)) else (some false):Option (Bool)).bind fun x5=>some x5)
def zCO:(List UInt8)->(List UInt8)->Option ((List UInt8)×(List UInt8)×Bool)
| s1,sep2=>(zCZ s1 sep2).bind fun y3=>bif decide (0<=y3) then (req (0<=(0:Int)/\(0:Int)<=y3/\y3<=(s1.length:Int)) <| req (0<=(IntKind.i64.wrap (y3+(sep2.length:Int)))/\(IntKind.i64.wrap (y3+(sep2.length:Int)))<=(s1.length:Int)/\(s1.length:Int)<=(s1.length:Int)) <| some ((s1.take y3.toNat).drop (0:Int).toNat,(s1.take (s1.length:Int).toNat).drop (IntKind.i64.wrap (y3+(sep2.length:Int))).toNat,true)) else (some (s1,[],false))
def zEr:(List UInt8)->(List UInt8)->Option ((List UInt8)×(List UInt8)×Bool)
| s1,sep2=>(zCO s1 sep2).bind fun⟨y3,y4,y5⟩=>some (y3,y4,y5)
def zBI (s1:List UInt8):Nat->Int->Option (Fl Bool Unit)
| 0,_=>none
| k+1,i2=>bif decide (i2<(s1.length:Int)) then (((at? s1 i2).bind fun c4=>bif decide ((c4.toNat:Int)<48) then (some true) else ((at? s1 i2).bind fun c6=>some (decide (57<(c6.toNat:Int)))):Option (Bool)).bind fun x3=>bif x3 then (some (.ret false)) else (zBI s1 k (IntKind.i64.wrap (i2+1)))) else (some (.go ()))
def zDA (n:Nat):(List UInt8)->Option Bool
| s1=>(zBI s1 n 0).bind fun fl=>match fl with
 | .ret r=>some r
 | .go _=>some (!(s1 == []))
def zDy (n:Nat):(List UInt8)->Option Bool
| s1=>(zEr s1 [46]).bind fun⟨y2,y3,y4⟩=>(bif decide ((s1.length:Int)<=20) then ((zDA n y2).bind fun y6=>bif y6 then (bif (!y4) then (some true) else ((zDA n y3).bind fun y7=>some y7)) else (some false)) else (some false):Option (Bool)).bind fun x5=>some x5
def zBO (s1:List UInt8):Nat->Int->Option (Fl Bool Unit)
| 0,_=>none
| k+1,i2=>bif decide (i2<(s1.length:Int)) then (((at? s1 i2).bind fun c4=>bif decide ((c4.toNat:Int)<32) then (some true) else ((at? s1 i2).bind fun c6=>some (decide (126<(c6.toNat:Int)))):Option (Bool)).bind fun x3=>bif x3 then (some (.ret false)) else (zBO s1 k (IntKind.i64.wrap (i2+1)))) else (some (.go ()))
def zEZ (n:Nat):(List UInt8)->Option Bool
| s1=>(zBO s1 n 0).bind fun fl=>match fl with
 | .ret r=>some r
 | .go _=>some (decide ((s1.length:Int)<=200))
def zEY:(List UInt8)->Option Bool
| s1=>(bif ((s1.length:Int) == 2) then ((at? s1 0).bind fun c3=>(zCY [40,41,91,93,123,125,60,62,47,124,46] (c3.toNat:Int)).bind fun y5=>bif decide (0<=y5) then ((at? s1 1).bind fun c6=>(zCY [40,41,91,93,123,125,60,62,47,124,46] (c6.toNat:Int)).bind fun y8=>some (decide (0<=y8))) else (some false)) else (some false):Option (Bool)).bind fun x2=>some x2
def zD7:Option Unit
:= some ()
def zCq (n:Nat):(Unit×Int)->Nd->Option (Bool×(Unit×Int))
| ⟨_,o1E⟩,⟨a2A,a2C,a2D,a2B⟩=>(bif decide (a2A<1) then (some true) else (bif decide (12<a2A) then (some true) else (bif (a2A == 1) then ((zCb a2C).bind fun y4=>some (!y4)) else (bif (a2A == 2) then ((zEp n a2C).bind fun y5=>some (!y5)) else (bif (a2A == 3) then ((zDy n a2C).bind fun y6=>some (!y6)) else (bif (a2A == 4) then ((zEZ n a2C).bind fun y7=>some (!y7)) else (bif (a2A == 5) then ((zCb a2C).bind fun y8=>some (!y8)) else (bif (a2A == 6) then ((zCb a2C).bind fun y9=>some (!y9)) else (bif (a2A == 7) then ((zCb a2C).bind fun y10=>some (!y10)) else (bif (a2A == 8) then ((zCb a2C).bind fun y11=>some (!y11)) else (bif (a2A == 9) then ((zCb a2C).bind fun y12=>some (!y12)) else (
             bif (a2A == 10) then ((zDz a2C).bind fun y13=>some (!y13)) else (bif (a2A == 11) then ((zEY a2C).bind fun y14=>some (!y14)) else (bif (a2A == 12) then ((zCb a2C).bind fun y15=>some (!y15)) else (none)))))))))))))):Option (Bool)).bind fun x3=>bif x3 then (some (false,((),o1E))) else (bif (a2A == 1) then ((bif (a2D == 0) then (some (decide ((a2B.length:Int)<=200))) else (some false):Option (Bool)).bind fun x16=>some (x16,((),o1E))) else (bif (a2A == 12) then ((bif decide (1<=a2D) then (bif decide (a2D<=16) then (bif decide (1<=(a2B.length:Int)) then (bif decide ((a2B.length:Int)<=256) then (req (a2D ≠ 0) <| some (((a2B.length:Int).tmod a2D) == 0)) else (some false)) else (some false)) else (some false)) else (some false)
     : Option (Bool)).bind fun x18=>some (x18,((),o1E))) else ((bif (a2D == 0) then (bif (a2A == 1) then (some ((a2B.length:Int) == 0)) else (bif (a2A == 2) then (some ((a2B.length:Int) == 0)) else (bif (a2A == 3) then (some ((a2B.length:Int) == 0)) else (bif (a2A == 4) then (some ((a2B.length:Int) == 0)) else (bif (a2A == 5) then (some ((a2B.length:Int) == 2)) else (bif (a2A == 6) then (some ((a2B.length:Int) == 2)) else (bif (a2A == 7) then (some ((a2B.length:Int) == 2)) else (bif (a2A == 8) then (some ((a2B.length:Int) == 2)) else (bif (a2A == 9) then (some ((a2B.length:Int) == 3)) else (bif (a2A == 10) then (some ((a2B.length:Int) == 1)) else (bif (a2A == 11) then (some ((a2B.length:Int) == 1)) else (bif (a2A == 12) then (some ((a2B.length:Int) == 0)
                 ) else (none))))))))))))) else (some false):Option (Bool)).bind fun x22=>some (x22,((),o1E)))))
def zAQ (F_node_checker_node:(Unit×Int)->Nd->Int->Option (Bool×(Unit×Int))) (a2A:Int) (a2B:List Nd) (a3:Int):Nat->Int->Int->Option (Fl (Bool×(Unit×Int)) (Int))
| 0,_,_=>none
| k+1,x9,x10=>bif decide (x10<(a2B.length:Int)) then (((at? a2B x10).bind fun⟨e14A,e14C,e14D,e14B⟩=>bif ((a2A == 1) == (e14A == 1)) then (some (true,x9)) else ((at? a2B x10).bind fun⟨e16A,e16C,e16D,e16B⟩=>(F_node_checker_node ((),x9) (Nd.mk e16A e16C e16D e16B) (IntKind.i64.wrap (a3+1))).bind fun⟨y18,⟨_,w19E⟩⟩=>some ((!y18),w19E)):Option (Bool×Int)).bind fun⟨x12,x13⟩=>bif x12 then (some (.ret (false,((),x13)))) else (zAQ F_node_checker_node a2A a2B a3 k x13 (IntKind.i64.wrap (x10+1)))) else (some (.go x9))
def zA4:Nat->(Unit×Int)->Nd->Int->Option (Bool×(Unit×Int))
| 0,_,_,_=>none
| n+1,⟨_,o1E⟩,⟨a2A,a2C,a2D,a2B⟩,a3=>(bif decide (1000<(IntKind.i64.wrap (o1E+1))) then (some (true,IntKind.i64.wrap (o1E+1))) else (bif decide (24<a3) then (some (true,IntKind.i64.wrap (o1E+1))) else ((zCq n ((),IntKind.i64.wrap (o1E+1)) (Nd.mk a2A a2C a2D a2B)).bind fun⟨y6,⟨_,w7E⟩⟩=>some ((!y6),w7E))):Option (Bool×Int)).bind fun⟨x4,x5⟩=>bif x4 then (some (false,((),x5))) else ((zAQ (zA4 n) a2A a2B a3 n x5 0).bind fun fl=>match fl with
  | .ret r=>some r
  | .go x11=>some (true,((),x11)))
def zA2 (n:Nat):Nd->Option Bool
| ⟨n1A,n1C,n1D,n1B⟩=>(zD7 ).bind fun _=>(bif (n1A == 1) then ((zA4 n ((),0) (Nd.mk n1A n1C n1D n1B) 1).bind fun⟨y4,⟨_,w5E⟩⟩=>some y4) else (some false):Option (Bool)).bind fun x3=>some x3
def zEO:Int->Int->Option Int
| a1,o2=>some (IntKind.i64.wrap (o2+1))
def zCz (e9T:List Nd) (e9Y:Int):Nat->Int->(List (Nd×Int))->Option ((List (Nd×Int)))
| 0,_,_=>none
| k+1,x13,l15=>bif decide (x13<(e9T.length:Int)) then ((at? e9T x13).bind fun⟨e17A,e17C,e17D,e17B⟩=>req (l15.length + [(Nd.mk e17A e17C e17D e17B,IntKind.i64.wrap (e9Y+1))].length<=4294967296) <| zCz e9T e9Y k (IntKind.i64.wrap (x13+1)) (l15++[(Nd.mk e17A e17C e17D e17B,IntKind.i64.wrap (e9Y+1))])) else (some l15)
def zCy (n:Nat):Nat->Int->(List (Nd×Int))->Option (Int)
| 0,_,_=>none
| k+1,x3,l5=>bif decide (0<(l5.length:Int)) then ((at? l5 (IntKind.i64.wrap ((l5.length:Int) - 1))).bind fun⟨⟨e9Z,e9Aa,e9Ab,e9T⟩,e9Y⟩=>req (0<=IntKind.i64.wrap ((l5.length:Int) - 1)/\IntKind.i64.wrap ((l5.length:Int) - 1)<=(l5.length:Int)) <| (zEO e9Y x3).bind fun w11=>(zCz e9T e9Y n 0 (l5.take (IntKind.i64.wrap ((l5.length:Int) - 1)).toNat)).bind fun l16=>zCy n k w11 l16) else (some x3)
def zGV (n:Nat):Nd->Int->Option Int
| ⟨n1A,n1C,n1D,n1B⟩,o2=>(zCy n n o2 [(Nd.mk n1A n1C n1D n1B,1)]).bind fun x6=>some x6
def zD6 (n:Nat):Nd->Option Int
| ⟨n1A,n1C,n1D,n1B⟩=>(zGV n (Nd.mk n1A n1C n1D n1B) 0).bind fun w2=>some w2
def zBG (F_r09_Equal:Nd->Nd->Option Bool) (a1:List Nd) (b2:List Nd):Nat->Int->Option (Fl Bool Unit)
| 0,_=>none
| k+1,i5=>bif decide (i5<(a1.length:Int)) then ((at? a1 i5).bind fun⟨e7A,e7C,e7D,e7B⟩=>(at? b2 i5).bind fun⟨e9A,e9C,e9D,e9B⟩=>(F_r09_Equal (Nd.mk e7A e7C e7D e7B) (Nd.mk e9A e9C e9D e9B)).bind fun y11=>bif (!y11) then (some (.ret false)) else (zBG F_r09_Equal a1 b2 k (IntKind.i64.wrap (i5+1)))) else (some (.go ()))
mutual
def zCj:Nat->Nd->Nd->Option Bool
| 0,_,_=>none
| n+1,⟨a1A,a1C,a1D,a1B⟩,⟨b2A,b2C,b2D,b2B⟩ =>
 (
  bif (a1A == b2A) then (
   bif (a1C == b2C) then (
    bif (a1D == b2D) then (
     (zCM n a1B b2B).bind fun y4 =>
     some y4
    ) else (
     some false
    )
   ) else (
    some false
   )
  ) else (
   some false
  )
  : Option (Bool)).bind fun x3 =>
 some x3
def zCM:Nat->(List Nd)->(List Nd)->Option Bool
| 0,_,_=>none
| n+1,a1,b2 =>
 bif ((a1.length:Int) != (b2.length:Int)) then (
  some false
 ) else (
  (zBG (zCj n) a1 b2 n 0).bind fun fl=>match fl with
  | .ret r=>some r
  | .go _ =>
   some true
 )
end
def zCr (F_r09_left:Nd->Int->Option Int) (n1B:List Nd):Nat->Int->Int->Option (Int)
| 0,_,_=>none
| k+1,most3,i4=>(bif decide (i4<(n1B.length:Int)) then (some (decide (0<=most3))) else (some false):Option (Bool)).bind fun x6=>bif x6 then ((at? n1B i4).bind fun⟨e8A,e8C,e8D,e8B⟩=>(F_r09_left (Nd.mk e8A e8C e8D e8B) most3).bind fun y10=>zCr F_r09_left n1B k y10 (IntKind.i64.wrap (i4+1))) else (some most3)
def zDB:Nat->Nd->Int->Option Int
| 0,_,_=>none
| n+1,⟨n1A,n1C,n1D,n1B⟩,most2=>(zCr (zDB n) n1B n (IntKind.i64.wrap (most2 - 1)) 0).bind fun most5=>some most5
def zGD (n:Nat):Nd->Int->Option Bool
| ⟨n1A,n1C,n1D,n1B⟩,most2=>(zDB n (Nd.mk n1A n1C n1D n1B) most2).bind fun y3=>some (decide (0<=y3))
def zD5 (n:Nat):Nd->Nd->Option Bool
| ⟨a1A,a1C,a1D,a1B⟩,⟨b2A,b2C,b2D,b2B⟩=>((zA2 n (Nd.mk a1A a1C a1D a1B)).bind fun y4=>bif y4 then ((zA2 n (Nd.mk b2A b2C b2D b2B)).bind fun y5=>some y5) else (some false):Option (Bool)).bind fun x3=>some x3
def zGW:(List Nd)->Option Nd
| l1=>some (Nd.mk 1 [] 0 l1)
def zHF (n:Nat):zO8->Option Bool
| ⟨op1A,op1I,op1L,op1J,op1E,op1K,op1H,op1C⟩=>((zGW op1E).bind fun⟨y3A,y3C,y3D,y3B⟩=>(zGD n (Nd.mk y3A y3C y3D y3B) 100).bind fun y4=>bif y4 then (some (decide ((op1I.length:Int)<=60))) else (some false):Option (Bool)).bind fun x2=>some x2
def zBW (n:Nat) (e7E:List Nd):Nat->Int->Int->Option (Int)
| 0,_,_=>none
| k+1,x11,cost12=>bif decide (x11<(e7E.length:Int)) then ((at? e7E x11).bind fun⟨e14A,e14C,e14D,e14B⟩=>(zD6 n (Nd.mk e14A e14C e14D e14B)).bind fun y16=>zBW n e7E k (IntKind.i64.wrap (x11+1)) (IntKind.i64.wrap (cost12+y16))) else (some cost12)
def zBV (n:Nat) (ops1:List zO8):Nat->Int->Int->Option (Fl (Int×Int) (Int))
| 0,_,_=>none
| k+1,x3,cost4=>bif decide (x3<(ops1.length:Int)) then (((at? ops1 x3).bind fun⟨e7A,e7I,e7L,e7J,e7E,e7K,e7H,e7C⟩=>(bif (e7A == 1) then (some (e7A == 1)) else (some (e7A == 2)):Option (Bool)).bind fun x9=>bif x9 then ((zBW n e7E n 0 cost4).bind fun cost13=>some (.go cost13)) else (bif (e7A == 5) then (some (.go (IntKind.i64.wrap (cost4+1)))) else (some (.ret (0,1)))):Option (Fl (Int×Int) (Int))).bind fun fl=>match fl with
  | .ret r=>some (.ret r)
  | .go cost6=>zBV n ops1 k (IntKind.i64.wrap (x3+1)) cost6) else (some (.go cost4))
def zEl (n:Nat):(List zO8)->Option (Int×Int)
| ops1=>(zBV n ops1 n 0 0).bind fun fl=>match fl with
 | .ret r=>some r
 | .go cost5=>some (cost5,0)
def zCh (n:Nat) (l1:List Nd):Nat->Int->(List Int)->Option ((List Int))
| 0,_,_=>none
| k+1,x4,l5=>bif decide (x4<(l1.length:Int)) then ((at? l1 x4).bind fun⟨e7A,e7C,e7D,e7B⟩=>(zD6 n (Nd.mk e7A e7C e7D e7B)).bind fun y9=>(at? l5 x4).bind fun e10=>zCh n l1 k (IntKind.i64.wrap (x4+1)) (l5.set x4.toNat y9)) else (some l5)
def zD4 (n:Nat):(List Nd)->Option (List Int)
| l1=>req (0<=(l1.length:Int)/\(l1.length:Int)<=4294967296) <| (zCh n l1 n 0 (List.replicate (l1.length:Int).toNat 0)).bind fun l6=>some l6
def zAR:List Int->List Int
| []=>[0]
| o::os=>IntKind.i64.wrap ((zAR os).headD 0+o)::zAR os
def zAr (F_diff_pairing:Nd->Nd->Option Int) (x:Nd) (f:Int):List Nd->List Int->List Int->Option zCu
| [],[],[v]=>some ([IntKind.i64.wrap (v+f)],[])
| y::ys,o::os,v::v2::vs =>
 (zAr F_diff_pairing x f ys os (v2::vs)).bind fun p =>
 (F_diff_pairing x y).bind fun c =>
 let c0:=if IntKind.i64.wrap (v+f)<IntKind.i64.wrap (p.1.headD 0+o) then IntKind.i64.wrap (v+f) else IntKind.i64.wrap (p.1.headD 0+o)
 let c1:=if 0<=c then (if IntKind.i64.wrap (v2+c)<c0 then IntKind.i64.wrap (v2+c) else c0) else c0
 some (c1::p.1,c::p.2)
| _,_,_=>none
def zAC (F_diff_pairing:Nd->Nd->Option Int) (b:List Nd) (other:List Int):List Nd->List Int->Option (List (List Int)×List (List Int))
| [],[]=>some ([zAR other],[])
| x::xs,f::fs=>(zAC F_diff_pairing b other xs fs).bind fun p=>match p.1 with
 | []=>none
 | r1::_=>(zAr F_diff_pairing x f b other r1).bind fun q=>some (q.1::p.1,q.2::p.2)
| _,_=>none
def zBL (F_diff_fill:(List Nd)->(List Nd)->Option (List (List Int)×List (List Int)×List Int×List Int)) (a1B:List Nd) (a2B:List Nd):Nat->Int->Int->Option (Int)
| 0,_,_=>none
| k+1,x8,x9=>bif decide (x9<(a1B.length:Int)) then ((at? a1B x9).bind fun⟨e11A,e11C,e11D,e11B⟩=>(at? a2B x9).bind fun⟨e13A,e13C,e13D,e13B⟩=>(F_diff_fill e11B e13B).bind fun⟨y15U,y15V,y15W,y15X⟩=>(at? y15U 0).bind fun e16=>(at? e16 0).bind fun e18=>zBL F_diff_fill a1B a2B k (IntKind.i64.wrap (x8+e18)) (IntKind.i64.wrap (x9+1))) else (some x8)
mutual
def zCg:Nat->(List Nd)->(List Nd)->Option (List (List Int)×List (List Int)×List Int×List Int)
| 0,_,_=>none
| n+1,a,b =>
 (zD4 n a).bind fun first =>
 (zD4 n b).bind fun other =>
 req (a.length<=1048576/\b.length<=1048576/\other.length=b.length) <|
 (zAC (zBM n) b other a first).bind fun p =>
 some (p.1,p.2,first,other)
def zBM:Nat->Nd->Nd->Option Int
| 0,_,_=>none
| n+1,⟨a1A,a1C,a1D,a1B⟩,⟨a2A,a2C,a2D,a2B⟩ =>
 (
  bif (a1A != a2A) then (
   some true
  ) else (
   bif (a1D != a2D) then (
    some true
   ) else (
    some ((a1B.length:Int) != (a2B.length:Int))
   )
  )
  : Option (Bool)).bind fun x3 =>
 bif x3 then (
  some (-1)
 ) else (
  (
   bif (!(a1C == a2C)) then (
    some 1
   ) else (
    some 0
   )
   : Option (Int)).bind fun x6 =>
  (zBL (zCg n) a1B a2B n x6 0).bind fun x10 =>
  some x10
 )
end
def zFD (n:Nat):Nd->Nd->Option (Int×Int)
| ⟨a1A,a1C,a1D,a1B⟩,⟨b2A,b2C,b2D,b2B⟩=>(zD5 n (Nd.mk a1A a1C a1D a1B) (Nd.mk b2A b2C b2D b2B)).bind fun y3=>bif (!y3) then (some (0,1)) else ((zCg n a1B b2B).bind fun⟨y4U,y4V,y4W,y4X⟩=>(at? y4U 0).bind fun e5=>(at? e5 0).bind fun e7=>some (e7,0))
def zAg:(List UInt8)->(List UInt8)->Option (Int×Unit×(List UInt8))
| s1,b2=>(zAY b2).bind fun b3=>req (b3.length+s1.length<=4294967296) <| some ((s1.length:Int),(),b3++s1)
def zAt:UInt8->(List UInt8)->Option (Unit×(List UInt8))
| c1,b2=>(zAY b2).bind fun b3=>req (b3.length + [c1].length<=4294967296) <| some ((),b3++[c1])
def zAI (a1C:List UInt8):Nat->Int->(List UInt8)->Option ((List UInt8))
| 0,_,_=>none
| k+1,x49,l50=>bif decide (x49<(a1C.length:Int)) then ((((at? a1C x49).bind fun c54=>bif ((c54.toNat:Int) == 34) then (some true) else ((at? a1C x49).bind fun c56=>some ((c56.toNat:Int) == 92)):Option (Bool)).bind fun x53=>(bif x53 then ((zAt (b8of 92) l50).bind fun⟨_,b60⟩=>some b60) else (some l50):Option ((List UInt8))).bind fun l58=>(at? a1C x49).bind fun c61=>(zAt c61 l58).bind fun⟨_,b64⟩=>some b64:Option ((List UInt8))).bind fun l52=>zAI a1C k (IntKind.i64.wrap (x49+1)) l52) else (some l50)
def zBm (n:Nat):Nd->(List UInt8)->Option (List UInt8)
| ⟨a1A,a1C,a1D,a1B⟩,b2=>(bif decide (1<=a1A) then (some (decide (a1A<=12))) else (some false):Option (Bool)).bind fun x3=>(bif x3 then (bif (a1A == 1) then ((zAg [114,111,119] b2).bind fun⟨y5,_,b7⟩=>some b7) else (bif (a1A == 2) then ((zAg [115,121,109] b2).bind fun⟨y8,_,b10⟩=>some b10) else (bif (a1A == 3) then ((zAg [110,117,109] b2).bind fun⟨y11,_,b13⟩=>some b13) else (bif (a1A == 4) then ((zAg [116,101,120,116] b2).bind fun⟨y14,_,b16⟩=>some b16) else (bif (a1A == 5) then ((zAg [102,114,97,99] b2).bind fun⟨y17,_,b19⟩=>some b19) else (bif (a1A == 6) then ((zAg [114,111,111,116] b2).bind fun⟨y20,_,b22⟩=>some b22) else (
         bif (a1A == 7) then ((zAg [115,117,98] b2).bind fun⟨y23,_,b25⟩=>some b25) else (bif (a1A == 8) then ((zAg [115,117,112] b2).bind fun⟨y26,_,b28⟩=>some b28) else (bif (a1A == 9) then ((zAg [98,111,116,104] b2).bind fun⟨y29,_,b31⟩=>some b31) else (bif (a1A == 10) then ((zAg [97,99,99,101,110,116] b2).bind fun⟨y32,_,b34⟩=>some b34) else (bif (a1A == 11) then ((zAg [102,101,110,99,101] b2).bind fun⟨y35,_,b37⟩=>some b37) else (bif (a1A == 12) then ((zAg [109,97,116,114,105,120] b2).bind fun⟨y38,_,b40⟩=>some b40) else (none))))))))))))) else ((zDN a1A).bind fun y41=>req ([110,111,100,101].length+y41.length<=1099511627776) <|
   (zAg ([110,111,100,101]++y41) b2).bind fun⟨y42,_,b44⟩=>some b44):Option ((List UInt8))).bind fun l4=>(bif (!(a1C == [])) then ((zAg [58,34] l4).bind fun⟨y46,_,b48⟩=>(zAI a1C n 0 b48).bind fun l51=>(zAt (b8of 34) l51).bind fun⟨_,b66⟩=>some b66) else (some l4):Option ((List UInt8))).bind fun l45=>bif (a1D != 0) then ((zDN a1D).bind fun y67=>req ([42].length+y67.length<=1099511627776) <| (zAg ([42]++y67) l45).bind fun⟨y68,_,b70⟩=>some b70) else (some l45)
def zB9 (n:Nat):Nat->(List UInt8)->(List (Nd×Int))->Option ((List UInt8))
| 0,_,_=>none
| k+1,l5,l6=>bif decide (0<(l6.length:Int)) then ((at? l6 (IntKind.i64.wrap ((l6.length:Int) - 1))).bind fun⟨⟨e10Z,e10Aa,e10Ab,e10T⟩,e10B⟩=>bif (e10B == (e10T.length:Int)) then ((bif decide (0<e10B) then ((zAt (b8of 41) l5).bind fun⟨_,b14⟩=>some b14) else (some l5):Option ((List UInt8))).bind fun l12=>req (0<=IntKind.i64.wrap ((l6.length:Int) - 1)/\IntKind.i64.wrap ((l6.length:Int) - 1)<=(l6.length:Int)) <| zB9 n k l12 (l6.take (IntKind.i64.wrap ((l6.length:Int) - 1)).toNat)) else ((at? e10T e10B).bind fun⟨e17A,e17C,e17D,e17B⟩=>(at? ([40,32]:List UInt8) (if 1<e10B then 1 else e10B)).bind fun c19=>(zAt c19 l5).bind fun⟨_,b22⟩ =>
   (zBm n (Nd.mk e17A e17C e17D e17B) b22).bind fun b23=>req ((l6.set (IntKind.i64.wrap ((l6.length:Int) - 1)).toNat (Nd.mk e10Z e10Aa e10Ab e10T,IntKind.i64.wrap (e10B+1))).length + [(Nd.mk e17A e17C e17D e17B,0)].length<=4294967296) <| zB9 n k b23 ((l6.set (IntKind.i64.wrap ((l6.length:Int) - 1)).toNat (Nd.mk e10Z e10Aa e10Ab e10T,IntKind.i64.wrap (e10B+1)))++[(Nd.mk e17A e17C e17D e17B,0)]))) else (some l5)
def zEG (n:Nat):Nd->Option (List UInt8)
| ⟨a1A,a1C,a1D,a1B⟩=>(zD7 ).bind fun _=>(zBm n (Nd.mk a1A a1C a1D a1B) []).bind fun b3=>(zB9 n n b3 [(Nd.mk a1A a1C a1D a1B,0)]).bind fun l7=>(zCN l7).bind fun y25=>some y25
def zDp:Nd->Option Int
| ⟨n1A,n1C,n1D,n1B⟩=>bif (n1A == 1) then (some 0) else (some (n1B.length:Int))
def zCc (n:Nat):(List Nd)->Option Bool
| l1=>(zA2 n (Nd.mk 1 [] 0 l1)).bind fun y2=>some y2
def zAJ (F_node_Equal:Nd->Nd->Option Bool) (s11:List Nd) (s22:List Nd):Nat->Int->Option (Fl Bool Unit)
| 0,_=>none
| k+1,x6=>bif decide (x6<(s11.length:Int)) then ((at? s11 x6).bind fun⟨e7A,e7C,e7D,e7B⟩=>(at? s22 x6).bind fun⟨e9A,e9C,e9D,e9B⟩=>(F_node_Equal (Nd.mk e7A e7C e7D e7B) (Nd.mk e9A e9C e9D e9B)).bind fun y11=>bif (!y11) then (some (.ret false)) else (zAJ F_node_Equal s11 s22 k (IntKind.i64.wrap (x6+1)))) else (some (.go ()))
mutual
def zCa:Nat->Nd->Nd->Option Bool
| 0,_,_=>none
| n+1,⟨a1A,a1C,a1D,a1B⟩,⟨b2A,b2C,b2D,b2B⟩ =>
 (
  bif (a1A == b2A) then (
   bif (a1C == b2C) then (
    bif (a1D == b2D) then (
     (zAX n a1B b2B).bind fun y4 =>
     some y4
    ) else (
     some false
    )
   ) else (
    some false
   )
  ) else (
   some false
  )
  : Option (Bool)).bind fun x3 =>
 some x3
def zAX:Nat->(List Nd)->(List Nd)->Option Bool
| 0,_,_=>none
| n+1,s11,s22 =>
 bif ((s11.length:Int) != (s22.length:Int)) then (
  some false
 ) else (
  (zAJ (zCa n) s11 s22 n 0).bind fun fl=>match fl with
  | .ret r=>some r
  | .go _ =>
   some true
 )
end
def zBz (n:Nat) (a1:List Nd) (a2:List Nd) (y3U:List (List Int)) (y3V:List (List Int)) (y3W:List Int) (y3X:List Int):Nat->Int->Int->(List (Int×Int))->Option ((List (Int×Int)))
| 0,_,_,_=>none
| k+1,x5,x6,l7=>(bif decide (x5<(a1.length:Int)) then (some (decide (x6<(a2.length:Int)))) else (some false):Option (Bool)).bind fun x9=>bif x9 then ((at? y3U x5).bind fun e12=>(at? e12 x6).bind fun e14=>(at? y3U (IntKind.i64.wrap (x5+1))).bind fun e16=>(at? e16 x6).bind fun e18=>(at? y3W x5).bind fun e20=>(at? y3U x5).bind fun e22=>(at? e22 (IntKind.i64.wrap (x6+1))).bind fun e24=>(at? y3X x6).bind fun e26=>((at? y3V x5).bind fun e29=>(at? e29 x6).bind fun e31=>bif decide (0<=e31) then ((at? y3U (IntKind.i64.wrap (x5+1))).bind fun e33=>(at? e33 (IntKind.i64.wrap (x6+1))).bind fun e35=>(at? y3V x5).bind fun e37=>(at? e37 x6).bind fun e39=>some (e14 == (IntKind.i64.wrap (e35+e39)))) else (some false):Option (Bool)).bind fun x28=>bif x28 then (
   req (l7.length + [(x5,x6)].length<=4294967296) <| zBz n a1 a2 y3U y3V y3W y3X k (IntKind.i64.wrap (x5+1)) (IntKind.i64.wrap (x6+1)) (l7++[(x5,x6)])) else ((bif (e14 == (IntKind.i64.wrap (e18+e20))) then (bif (!(e14 == (IntKind.i64.wrap (e24+e26)))) then (some true) else ((at? a1 x5).bind fun⟨e43A,e43C,e43D,e43B⟩=>(zEG n (Nd.mk e43A e43C e43D e43B)).bind fun y45=>(at? a2 x6).bind fun⟨e46A,e46C,e46D,e46B⟩=>(zEG n (Nd.mk e46A e46C e46D e46B)).bind fun y48=>some (Op.bytesLess y45 y48))) else (some false):Option (Bool)).bind fun x42=>bif x42 then (zBz n a1 a2 y3U y3V y3W y3X k (IntKind.i64.wrap (x5+1)) x6 l7) else (zBz n a1 a2 y3U y3V y3W y3X k x5 (IntKind.i64.wrap (x6+1)) l7))
 ) else (some l7)
def zD3 (n:Nat):(List Nd)->(List Nd)->Option (List (Int×Int))
| a1,a2=>(zCg n a1 a2).bind fun⟨y3U,y3V,y3W,y3X⟩=>(zBz n a1 a2 y3U y3V y3W y3X n 0 0 []).bind fun l8=>some l8
mutual
def Nd.cnt:Nd->Nat
 | .mk _ _ _ ks=>Nd.cnts ks+1
def Nd.cnts:List Nd->Nat
 | []=>0
 | v::vs=>v.cnt+Nd.cnts vs
end
theorem Nd.cnt_pos:∀ v:Nd,1<=v.cnt
 | .mk _ _ _ ks=>by simp only[Nd.cnt]; omega
theorem Nd.cnts_append:∀ a b:List Nd,Nd.cnts (a++b)=Nd.cnts a+Nd.cnts b
 | [],b=>by simp[Nd.cnts]
 | v::a,b=>by simp only[List.cons_append,Nd.cnts,Nd.cnts_append a b]; omega
theorem Nd.cnts_len:∀ a:List Nd,a.length<=Nd.cnts a
 | []=>Nat.le_refl _
 | v::a=>by have:=Nd.cnts_len a; have:=v.cnt_pos; simp only[Nd.cnts,List.length_cons]; omega
theorem Nd.cnts_mem:∀ {a:List Nd}{v:Nd},v∈a->v.cnt<=Nd.cnts a
 | u::a,v,h=>by
  simp only[Nd.cnts]
  rcases List.mem_cons.1 h with rfl | h
  ·omega
  ·have:=Nd.cnts_mem h; omega
theorem Nd.cnts_drop {a:List Nd}{i:Nat} (h:i<a.length):Nd.cnts (a.drop i)=(a[i]).cnt+Nd.cnts (a.drop (i+1)):=by
 rw[List.drop_eq_getElem_cons h]; rfl
def zBK (n:Nd):Option Nd:=req (n.cnt<=1000000000) (some n)
def Nd.kids:Nd->List Nd
 | .mk _ _ _ ks=>ks
theorem zXl (n:Nd):n.kids ≠ []↔n.kids.isEmpty=false:=by cases n.kids <;> simp
instance (n:Nd):Decidable (n.kids ≠ []):=decidable_of_iff _ (zXl n).symm
def zCL (n:Nd):Option Nd:=req (n.cnt<=1000000000/\n.kids ≠ []) (some n)
def zCx:Nd->List Int->Option Nd
 | n,[]=>some n
 | _,[_]=>none
 | n,i::s::path=>if 0<=i/\i<n.kids.length then
   let item:=n.kids.getD i.toNat n
   if 0<=s/\s<item.kids.length then zCx (item.kids.getD s.toNat n) path else none
  else none
def zDt:Nd:=.mk 0 [] 0 []
def putL:Nd->List Int->Nd->Nd
 | .mk k t c ks,i::s::path,r=>.mk k t c (ks.set i.toNat (match ks[i.toNat]? with
  | some (.mk k2 t2 c2 ks2)=>.mk k2 t2 c2 (ks2.set s.toNat (match ks2[s.toNat]? with
   | some z=>putL z path r
   | none=>r))
  | none=>r))
 | _,_,r=>r
def zGC (f:Nat) (n:Nd) (path:List Int):Option (Nd×Int) :=
 (zA2 f n).bind fun b=>if b=true then (match zCx n path with
  | some r=>(zBK r).bind fun r=>some (r,0)
  | none=>some (zDt,8)) else some (zDt,1)
def zEH (f:Nat) (n:Nd) (path:List Int) (row:Nd):Option (Nd×Int) :=
 (zA2 f n).bind fun b=>if b=true then (zBK n).bind fun n=>(match zCx n path with
  | some _=>(zA2 f row).bind fun b=>if b=true then (zBK row).bind fun row=>(zA2 f (putL n path row)).bind fun b=>if b=true then some (putL n path row,0) else some (zDt,6) else some (zDt,4)
  | none=>some (zDt,8)) else some (zDt,1)
end Go.Proofs.YtbfnjnljboncgaaGreatDoor
namespace Go.Abs
section
variable {T:Nat->Option TI} {Γ:Nat->Option zAp} {M nm L:List Nat} {N k:Nat} {n:Nat->Bool} {all os:List Oper} {o:Oper} {σ σ':St} {K:St->Prop} {φ:Option Prop} {x:AV} {d:Nat}
theorem zU2 {φ:Option Prop}{K:Prop} (h1:φ.getD True) (h2:K):andO φ K:=by
 cases φ with
 | none=>exact h2
 | some p=>exact⟨h1,h2⟩
theorem zRm (h:K (σ.putN d x)):lay false (some d) x σ K:=by
 simp only[lay,zGA]; exact h
theorem zMw {own:Bool}{r:Option Prop×AV×St} (h:step1 T own o σ=some r):zKo T Γ o σ=none:=by
 unfold zKo zFd;split
 ·rfl
 ·rename_i hq
  split at hq
  ·rename_i ho
   rw[zOS ho]at h;cases h
  ·cases hq
theorem zAd (hg:o.guard=none) (hd:o.dst=some d) (hN:Nat.blt d N=true) (hc:callOf T Γ o σ.env=none) (hn:dIn (some d) nm=false) (hs:step1 T (dIn (some d) M) o σ=some (φ,x,σ')) (hφ:φ.getD True)
  (h:zBv T Γ M nm N all os (σ'.putN d x) K):zBv T Γ M nm N all (o::os) σ K:=by
 unfold zBv;rw[hg,hd]
 dsimp only;rw[hN,hn,zRh,zMw hs,hc,hs]
 exact zU2 hφ (zRm h)
theorem zFy (hg:o.guard=none) (hd:o.dst=none) (hc:callOf T Γ o σ.env=none) (hs:step1 T (dIn none M) o σ=some (φ,x,σ')) (hφ:φ.getD True)
  (h:zBv T Γ M nm N all os σ' K):zBv T Γ M nm N all (o::os) σ K:=by
 unfold zBv;have e0:zHz T (dIn none nm) o σ=none:=rfl;rw[hg,hd,e0,zMw hs,hc,hs]
 exact zU2 hφ h
theorem zP6 {own:Bool}{t e q sz kk:Nat}{j ti:TI}{y i:Operand}{n:Int}{ki:IntKind}{rows:List (List AV)} (ho:o.op = .indexAddr t y i) (ht:T t=some ti) (hk:ti.k = .slice e) (hj:T e=some j) (hy:opd T σ.env t y = .orow q)
  (hi:opd T σ.env 0 i = .s (.int ki n)) (hh:σ.hp q=some (.arow kk sz rows)) (hz:Nat.beq sz j.size=true):step1 T own o σ=some (some (0<=n/\n<rows.length),.rp q sz n.toNat 0,σ):=by
 have e1:zB2 T own o σ.env=none :=(by simp only[zB2,ho,zD8,hy,hi,AV.nrm,ht,hk]);simp only[step1,e1,zBN,zEV,zCW,zCC,ho,elemOf,ht,hk,hj,hy,hi,hh,hz]
theorem zRV {own:Bool}{t q sz r off kk:Nat}{ti:TI}{y z:Operand}{rows:List (List AV)} (ho:o.op = .store t y z) (ht:T t=some ti) (hy:opd T σ.env 0 y = .rp q sz r off)
  (hh:σ.hp q=some (.arow kk sz rows)) (h1:Nat.beq sz sz=true) (h2:Nat.beq (opd T σ.env t z).cellsA.length ti.size=true) (h3:Nat.ble (off+ti.size) sz=true) (h4:((opd T σ.env t z).cellsA).all AV.one=true) :
  step1 T own o σ=some (some (r<rows.length),.junk,zEv σ q (.arow kk sz (rows.set r ((rows.getD r []).take off++(opd T σ.env t z).cellsA++(rows.getD r []).drop (off+ti.size))))):=by
 have e1:zB2 T own o σ.env=none :=(by simp only[zB2,ho]);have e2:zCW T own o σ=none:=by
  simp only[zCW,ho,hy,ht,hh]
 simp only[step1,e1,zBN,zEV,e2,zCC,ho,ht,hy,hh,h1,h2,h3,h4]
theorem zNh {own:Bool}{t q off:Nat}{ti:TI}{y z:Operand}{bt:Nat}{cells:List AV} (ho:o.op = .store t y z) (ht:T t=some ti) (hy:opd T σ.env 0 y = .op q off)
  (hh:σ.hp q=some (.box bt cells)) (h2:Nat.beq (opd T σ.env t z).cellsA.length ti.size=true) (h3:Nat.ble (off+ti.size) cells.length=true) (h4:((opd T σ.env t z).cellsA).all AV.one=true) (h5:AV.ltAll σ.nx (opd T σ.env t z).cellsA=true) :
  step1 T own o σ=some (none,.junk,zEv σ q (.box bt (cells.take off++(opd T σ.env t z).cellsA++cells.drop (off+ti.size)))):=by
 have e1:zB2 T own o σ.env=none :=(by simp only[zB2,ho]);simp only[step1,e1,zBN,zEV,zCW,ho,ht,hy,hh,h2,h3,h4,h5,zCw]
theorem zX1 {own:Bool}{t q off:Nat}{ti:TI}{y:Operand}{bt:Nat}{cells:List AV}{c:AV} (ho:o.op = .load t y) (ht:T t=some ti) (ha:ti.k.agg=false) (hy:opd T σ.env 0 y = .op q off) (hh:σ.hp q=some (.box bt cells)) (hc:cells[off]? = some c) :
  step1 T own o σ=some (none,c,σ):=by
 have e1:zB2 T own o σ.env=none :=(by simp only[zB2,ho,hy]);simp only[step1,e1,zBN,zEV,zCW,ho,ht,hy,hh,ha,hc]
theorem zWv {own:Bool}{t q off:Nat}{ti:TI}{y:Operand}{bt:Nat}{cells:List AV} (ho:o.op = .load t y) (ht:T t=some ti) (ha:ti.k.agg=true) (hy:opd T σ.env 0 y = .op q off) (hh:σ.hp q=some (.box bt cells)) (hc:Nat.ble (off+ti.size) cells.length=true) :
  step1 T own o σ=some (none,.agg ((cells.drop off).take ti.size),σ):=by
 have e1:zB2 T own o σ.env=none :=(by simp only[zB2,ho,hy]);simp only[step1,e1,zBN,zEV,zCW,ho,ht,hy,hh,ha,hc]
theorem zNg {own:Bool}{t q kk sz:Nat}{e:Nat}{args:Array Operand}{ts:Array Nat}{y:Operand}{rows:List (List AV)} (ho:o.op = .call { callee:=.builtin .len,args:=args,argTypes:=ts }) (ha:args.toList=[y]) (hts:ts.toList=[t]) (ht:tk T t = .slice e)
  (hy:opd T σ.env t y = .orow q) (hh:σ.hp q=some (.arow kk sz rows)):step1 T own o σ=some (none,.s (.int .i64 (rows.length:Int)),σ):=by
 have e1:zB2 T own o σ.env=none :=(by simp only[zB2,ho,ha,hts,pLen,ht,hy]);have e2:zCW T own o σ=none :=(by simp only[zCW,ho,ha,hts,ht,hy,hh]);simp only[step1,e1,zBN,zEV,e2,zCC,ho,ha,hts,ht,hy,hh]
theorem zX4 {own:Bool}{t q sz r off:Nat}{y:Operand} (ho:o.op = .load t y) (hy:opd T σ.env 0 y = .rp q sz r off):step1 T own o σ=none/\callOf T Γ o σ.env=none/\zBk T o σ.env=none:=by
 have e1:zB2 T own o σ.env=none :=(by simp only[zB2,ho,hy]);have e2:zCW T own o σ=none :=(by simp only[zCW,ho,hy]);have e3:zCC T o σ=none :=(by simp only[zCC,ho]);exact⟨by simp only[step1,e1,zBN,zEV,ho,e2,e3],by simp only[callOf,ho],by simp only[zBk,ho]⟩
theorem zZa {t:Nat}{y:Operand} (ho:o.op = .load t y):mapQ T o σ=none:=by simp only[mapQ,ho]
theorem zZb {t:Nat}{y:Operand} (ho:o.op = .load t y):nilQ T o σ=none:=by simp only[nilQ,ho]
theorem zQ1 {t q sz r off kk:Nat}{y:Operand}{rows:List (List AV)}{c:AV} (hg:o.guard=none) (hd:o.dst=some d) (hN:Nat.blt d N=true) (hn:dIn (some d) nm=false) (ho:o.op = .load t y) (hy:opd T σ.env 0 y = .rp q sz r off)
  (hh:σ.hp q=some (.arow kk sz rows)) (hr:r<rows.length) (hc:zNJ T t ((rows.getD r []).drop off)=some c) (h:zBv T Γ M nm N all os (σ.putN d c) K):zBv T Γ M nm N all (o::os) σ K:=by
 obtain⟨e1,e2,e3⟩:=zX4 (Γ:=Γ) (own:=dIn (some d) M) ho hy;unfold zBv;rw[hg,hd]
 dsimp only;have e0:zK7 T o σ=none :=(by simp only[zK7,ho]);have e9:zKo T Γ o σ=none :=(by simp only[zKo,zFd,ho]);rw[hN,hn,zRh,e9,e2,e1,e0,zZb ho,zZa ho]
 have hz:Nat.beq sz sz=true:=Nat.beq_refl sz;simp only[zPh,zFx,e3,zGk,ho,hy,hh,hz]
 exact⟨hr,_,rfl,by rw[hc]; exact zRm h⟩
end
inductive Rd (hp:Nat->Option Ob):AV->S->Prop
 | s (x:S):Rd hp (.s x) x
 | nl (sz:Nat):Rd hp (.nl sz) (.sl sz [])
 | row {k e sz:Nat} {rows:List (List S)} (h:hp k=some (.row e sz rows)):Rd hp (.orow k) (.sl sz rows)
 | arow {k e sz:Nat} {rows:List (List AV)} {rs:List (List S)} (h:hp k=some (.arow e sz rows)) (hl:rows.length=rs.length) (hr:∀ r∈rs,r.length=sz)
   (hc:∀ (i:Nat) x s,rows.flatten[i]? = some x->rs.flatten[i]? = some s->Rd hp x s):Rd hp (.orow k) (.sl sz rs)
 | box {k off bt:Nat} {cells:List AV} {ss:List S} (h:hp k=some (.box bt cells)) (hl:cells.length=ss.length)
   (hc:∀ (i:Nat) x s,cells[i]? = some x->ss[i]? = some s->Rd hp x s):Rd hp (.op k off) (.pt (ss.drop off))
 | el {k e sz i off:Nat} {rows:List (List AV)} {rs:List (List S)} (h:hp k=some (.arow e sz rows)) (hl:rows.length=rs.length) (hr:∀ r∈rs,r.length=sz) (hi:i<rs.length)
   (hc:∀ (i:Nat) x s,rows.flatten[i]? = some x->rs.flatten[i]? = some s->Rd hp x s):Rd hp (.rp k sz i off) (.pt ((rs.getD i []).drop off))
def allG (G:Nat->Prop) (β:Nat->Value) (hp:Nat->Option Ob) (b:Nat):Prop:=G b∨∃ k ob,hp k=some ob/\blk (β k)=some b
theorem Rd.rep {c:Cx}{G:Nat->Prop}{β:Nat->Value}{σ:St}{a:Act}{w:World} (hc:Conc c G β σ a w){x:AV}{s:S} (h:Rd σ.hp x s):∀ {v:Value},AVal G w β x v->Rep (allG G β σ.hp) w s v:=by
 have hk:Keep G (allG G β σ.hp) w w:=⟨fun _ h=>.inl h,fun _ _=>rfl⟩
 induction h with
 | s x=>intro v hv; simp only[AVal]at hv; exact hv.keep hk
 | nl sz=>intro v hv; simp only[AVal]at hv; subst hv; simp[Rep]
 | @row k e sz rows h =>
  intro v hv;simp only[AVal]at hv;obtain⟨hlen,hsz,ho⟩:=hc.hp k _ h;rw[hv.1]
  rcases ho with ⟨h1,rfl⟩ | ⟨b,cap,cur,h1,h2,h3,⟨mk,hmk,h4⟩,h5,h6,h7⟩
  ·rw[h1]; simp[Rep]
  ·rw[h1]
   simp only[Rep]
   refine .inr ⟨b,0,cap,rfl,h2,zCo hlen (RepRow.mk fun i s hi=>⟨.inr ⟨k,_,h,by rw[h1]; rfl⟩,?_⟩)⟩
   obtain⟨u,hu,hr⟩:=h7 i s hi;exact⟨u,by simp[World.cell?,h4,hu],hr.keep hk⟩
 | @arow k e sz rows rs h hl hr hcc ih =>
  intro v hv;simp only[AVal]at hv;obtain⟨hlen,hsz,ho⟩:=hc.hp k _ h;rw[hv.1]
  rcases ho with ⟨h1,rfl⟩ | ⟨b,cap,cur,h1,h2,h3,⟨mk,hmk,h4⟩,h5,h6,h7⟩
  ·obtain rfl:rs=[]:=List.length_eq_zero_iff.1 (by simpa using hl.symm)
   rw[h1]; simp[Rep]
  ·rw[h1]
   simp only[Rep]
   refine .inr ⟨b,0,cap,by rw[hl],by rw[← hl]; exact h2,zCo hr (RepRow.mk fun i s hi=>⟨.inr ⟨k,_,h,by rw[h1]; rfl⟩,?_⟩)⟩
   have hfl:=zAS hlen;have hfs:=zAS hr;have hil:i<rows.flatten.length :=(by rw[hfl,hl,← hfs]; exact(List.getElem?_eq_some_iff.1 hi).1);obtain⟨u,hu,hr',_⟩:=h7 i _ (List.getElem?_eq_getElem hil)
   exact⟨u,by simp[World.cell?,h4,hu],ih i _ s (List.getElem?_eq_getElem hil) hi hr'⟩
 | @box k off bt cells ss h hl hcc ih =>
  intro v hv;simp only[AVal]at hv;obtain⟨b,e,cur,h1,h2,h3,h4,h5,h6⟩:=hc.hp k _ h;obtain⟨b',hβ,rfl⟩:=hv;rw[h1]at hβ; cases hβ
  simp only[Rep]
  have hrow:RepRow (allG G β σ.hp) w b ss 0:=RepRow.mk fun i s hi=>by
   refine⟨.inr ⟨k,_,h,by rw[h1]; rfl⟩,?_⟩
   have hil:i<cells.length :=(by rw[hl]; exact(List.getElem?_eq_some_iff.1 hi).1);obtain⟨u,hu,hr⟩:=h5.get (List.getElem?_eq_getElem hil)
   rw[Array.getElem?_toList]at hu;exact⟨u,by simp[World.cell?,h2,hu],ih i _ s (List.getElem?_eq_getElem hil) hi hr⟩
  exact⟨b,off,rfl,by simpa using hrow.drop off⟩
 | @el k e sz i off rows rs h hl hr hi hcc ih =>
  intro v hv;simp only[AVal]at hv;obtain⟨b,n,cp,hβ,rfl⟩:=hv;obtain⟨hlen,hsz,ho⟩:=hc.hp k _ h;rcases ho with ⟨h1,rfl⟩ | ⟨b',cap,cur,h1,h2,h3,h4,h5,h6,h7⟩
  ·simp at hl; omega
  rw[hβ]at h1; cases h1
  simp only[Rep]
  refine⟨b,i * sz+off,rfl,?_⟩
  have hfl:=zAS hlen;have hfs:=zAS hr;have hrow:RepRow (allG G β σ.hp) w b rs.flatten 0:=RepRow.mk fun q s hq=>by
   refine⟨.inr ⟨k,_,h,by rw[hβ]; rfl⟩,?_⟩
   have hil:q<rows.flatten.length :=(by rw[hfl,hl,← hfs]; exact(List.getElem?_eq_some_iff.1 hq).1);obtain⟨u,hu,hr',_⟩:=h7 q _ (List.getElem?_eq_getElem hil)
   obtain⟨mk,hmk,h4⟩:=h4;exact⟨u,by simp[World.cell?,h4,hu],ih q _ s (List.getElem?_eq_getElem hil) hq hr'⟩
  have hrows:=(zCo hr hrow).get (i:=i) (r:=rs[i]) (List.getElem?_eq_getElem hi)
  have hg:rs.getD i []=rs[i] :=(by simp[List.getElem?_eq_getElem hi]);rw[hg]
  have:=hrows.2.drop off
  simpa using this
def RdV (hp:Nat->Option Ob):AV->AV->Prop
 | x,.s y=>Rd hp x y
 | .agg xs,.agg ys=>xs.length=ys.length/\∀ (i:Nat) x y,xs[i]? = some x->ys[i]? = some y->∃ s,y = .s s/\Rd hp x s
 | _,.junk=>True
 | _,_=>False
theorem RdV.aval {c:Cx}{G:Nat->Prop}{β:Nat->Value}{σ:St}{a:Act}{w:World} (hc:Conc c G β σ a w){x y:AV} (h:RdV σ.hp x y){v:Value} (hv:AVal G w β x v):AVal (allG G β σ.hp) w β y v:=by
 unfold RdV at h;split at h
 ·simp only[AVal]; exact h.rep hc hv
 ·simp only[AVal]at hv ⊢;obtain⟨vs,rfl,hvs⟩:=hv;refine⟨vs,rfl,AVals.mk (by rw[← h.1]; exact hvs.length) fun i y u hy hu=>?_⟩
  rename_i xs ys
  have hil:i<xs.length :=(by rw[h.1]; exact(List.getElem?_eq_some_iff.1 hy).1);obtain⟨s,rfl,hs⟩:=h.2 i _ y (List.getElem?_eq_getElem hil) hy;obtain⟨u',hu',hr⟩:=hvs.get (List.getElem?_eq_getElem hil)
  rw[hu]at hu'; cases hu'
  simp only[AVal]; exact hs.rep hc hr
 ·simp only[AVal]
 ·exact h.elim
def RdL (hp:Nat->Option Ob) (env:Nat->AV):List (Nat×AV)->Prop
 | []=>True
 | (t,y)::r=>RdV hp (env t) y/\RdL hp env r
theorem RdL.get {c:Cx}{G:Nat->Prop}{β:Nat->Value}{σ:St}{a:Act}{w:World} (hc:Conc c G β σ a w):∀ {l:List (Nat×AV)},RdL σ.hp σ.env l->∀ t,AVal (allG G β σ.hp) w β (ofL l t) (a.tmps.getD t undef)
 | [],_,t=>by simp only[ofL,AVal]
 | (u,y)::r,h,t=>by
  simp only[ofL]
  cases e:Nat.beq t u with
  | true=>obtain rfl:=Nat.eq_of_beq_eq_true e; exact h.1.aval hc (hc.env t)
  | false=>exact RdL.get hc h.2 t
def zXF:List (Nat×AV)->Bool
 | []=>true
 | (_,y)::r=>(y.pers||(match y with | .junk=>true | _=>false))&&zXF r
theorem zTz {n:Nat}:∀ {l:List (Nat×AV)},zXF l=true->∀ t,(ofL l t).lt n=true
 | [],_,t=>rfl
 | (u,y)::r,h,t=>by
  simp only[zXF,Bool.and_eq_true,Bool.or_eq_true]at h;simp only[ofL]
  cases Nat.beq t u with
  | true =>
   rcases h.1 with h1 | h1
   ·exact AV.pers_lt h1
   ·cases y <;> simp at h1
    rfl
  | false=>exact zTz h.2 t
theorem Le.giveWhole {c:Cx}{σ:St} (l:List (Nat×AV)) (h:RdL σ.hp σ.env l) (hp:zXF l=true):Le c σ ⟨ofL l,fun _=>none,σ.nx⟩:=by
 unfold Le;intro G β a w hc;have hk:Keep G (allG G β σ.hp) w w:=⟨fun _ h=>.inl h,fun _ _=>rfl⟩
 refine⟨allG G β σ.hp,β,{ defers:=hc.defers,size:=hc.size,env:=RdL.get hc h,envlt:=zTz hp,hp:=fun k ob hk=>(by cases hk),hplt:=fun k ob hk=>(by cases hk),inj:=fun k k' ob ob' hk=>(by cases hk),lt:=fun b hb=>?_,sub:=fun b hb=>.inl (hc.sub b hb),new:=fun b hb=>?_,fr:=hc.fr,stay:=hc.stay,glob:=hc.glob.keep hk }⟩
 ·rcases hb with hb | ⟨k,ob,h1,h2⟩
  ·exact hc.lt b hb
  ·exact hc.blk_lt h1 h2
 ·rcases hb with hb | ⟨k,ob,h1,h2⟩
  ·exact hc.new b hb
  ·exact .inr (row_block (hc.hp k ob h1) b h2).2
def zAD (L:List (List Int)):List (List AV):=L.map fun r=>[.s (.sl 1 (r.map (irow .i64)))]
def nils (k:Nat):List (List AV):=List.replicate k [.s (.sl 1 [])]
theorem zY4 {α β:Type} (f:α->β):∀ (l:List α),(l.map fun r=>[f r]).flatten=l.map f
 | []=>rfl
 | x::l=>by simp[zY4 f l]
theorem zRP {hp:Nat->Option Ob}{k e:Nat}{L:List (List Int)} (h:hp k=some (.arow e 1 (zAD L))):Rd hp (.orow k) (.sl 1 (L.map fun r=>[S.sl 1 (r.map (irow .i64))])) :=
 .arow h (by simp[zAD]) (fun r hr=>by obtain⟨r',_,rfl⟩:=List.mem_map.1 hr; rfl) fun i x s hx hs=>by
  have e1:(zAD L).flatten=L.map fun r=>AV.s (.sl 1 (r.map (irow .i64))):=zY4 _ L
  have e2:(L.map fun r=>[S.sl 1 (r.map (irow .i64))]).flatten=L.map fun r=>S.sl 1 (r.map (irow .i64)):=zY4 _ L
  rw[e1,List.getElem?_map]at hx;rw[e2,List.getElem?_map]at hs;cases hi:L[i]? with
  | none=>rw[hi]at hx; cases hx
  | some r =>
   rw[hi]at hx hs;cases hx; cases hs
   exact .s _
theorem zTW (m:Nat):(List.replicate m [S.sl 1 []]).map (·.map AV.s)=nils m:=by simp[nils]
theorem zFM {ρ:List (Nat×Nat)} (L:List (List Int)):(zAD L).map (AV.renAll ρ)=zAD L:=by
 simp[zAD,AV.renAll,AV.ren]
theorem zG0 {ρ:List (Nat×Nat)} (m:Nat):(nils m).map (AV.renAll ρ)=nils m:=by
 simp[nils,AV.renAll,AV.ren]
theorem zXt {n:Nat}{l:List AV} (h:∀ x∈l,∃ s,x=AV.s s):AV.ltAll n l=true:=zFh fun x hx=>by obtain⟨s,rfl⟩:=h x hx; rfl
theorem zGU {n k:Nat}{L:List (List Int)}:AV.ltAll n (nils k++zAD L).flatten=true:=zXt fun x hx=>by
 simp only[nils,zAD,List.mem_flatten,List.mem_append,List.mem_replicate,List.mem_map]at hx;obtain⟨l,(⟨_,rfl⟩ | ⟨r,_,rfl⟩),hx⟩:=hx
 ·exact⟨_,List.mem_singleton.1 hx⟩
 ·exact⟨_,List.mem_singleton.1 hx⟩
theorem zKu {n:Nat}:∀ {xs ys:List AV},AV.ltAll n (xs++ys)=(AV.ltAll n xs&&AV.ltAll n ys)
 | [],_=>rfl
 | x::xs,ys=>by simp[AV.ltAll,zKu (xs:=xs),Bool.and_assoc]
theorem lt_1 {n k q:Nat}{L:List (List Int)}:AV.ltAll n (nils k++[.orow q]::zAD L).flatten=decide (q<n):=by
 have h1:AV.ltAll n (nils k).flatten=true :=(by have:=zGU (n:=n) (k:=k) (L:=[]); simpa [zAD] using this);have h2:AV.ltAll n (zAD L).flatten=true:=zGU (k:=0)
 rw[List.flatten_append,List.flatten_cons,zKu,zKu,h1,h2]
 simp[AV.ltAll,AV.lt]
theorem lt_p {n:Nat}{L:List (List Int)}:AV.ltAll n (zAD L).flatten=true:=zGU (k:=0)
theorem zEj {k:Nat}{x:List AV}{l:List (List AV)}:(nils k++x::l).getD k []=x:=by
 simp[nils,List.getD_eq_getElem?_getD,List.getElem?_append]
theorem zKt {k:Nat}{x y:List AV}{l:List (List AV)}:(nils k++x::y::l).getD (k+1) []=y:=by
 simp[nils,List.getD_eq_getElem?_getD,List.getElem?_append]
theorem zTN {k:Nat}{x:List AV}{L:List (List Int)}:(nils (k+1)++zAD L).set k x=nils k++x::zAD L:=by
 have:nils (k+1)++zAD L=nils k++[.s (.sl 1 [])]::zAD L :=(by simp[nils,List.replicate_succ']);rw[this,List.set_append_right _ _ (by simp[nils])]
 simp[nils]
theorem zQ8 {k:Nat}{L:List (List Int)}:(nils (k+1)++zAD L).getD k []=[.s (.sl 1 [])]:=by
 have:nils (k+1)++zAD L=nils k++[.s (.sl 1 [])]::zAD L :=(by simp[nils,List.replicate_succ']);rw[this,zEj]
theorem zDP {l:List Int}{i:Nat}{v:Int} (h:l[i]? = some v):(l.map (irow .i64)).getD i []=[.int .i64 v]:=by
 simp[List.getD_eq_getElem?_getD,h,irow]
theorem zGT (l:List Int):(l.map (irow .i64)).length=l.length:=List.length_map ..
theorem zGZ {e:Nat}{k q:Nat}{L:List (List Int)} (ρ:List (Nat×Nat)) (h:look q ρ=some q):(Ob.arow e 1 (nils k++[.orow q]::zAD L)).ren ρ = .arow e 1 (nils k++[.orow q]::zAD L):=by
 simp[Ob.ren,zG0,zFM,AV.renAll,AV.ren,h]
theorem zTE {e:Nat}{k:Nat}{L:List (List Int)} (ρ:List (Nat×Nat)):(Ob.arow e 1 (nils k++zAD L)).ren ρ = .arow e 1 (nils k++zAD L):=by
 simp[Ob.ren,zG0,zFM]
theorem zQa {l:List Int}{j:Nat}{v x:Int} (h:l[j]? = some v):(l.map (irow .i64)).set j (((l.map (irow .i64)).getD j []).take 0++[.int .i64 x]++((l.map (irow .i64)).getD j []).drop (0+1))=(l.set j x).map (irow .i64):=by
 rw[zDP h,List.map_set]; rfl
theorem zLO {j:Nat}{x:Int} (l:List Int):(List.replicate (j+1) 0++l).set j x=List.replicate j 0++x::l:=by
 rw[List.replicate_succ',List.append_assoc,List.set_append_right _ _ (by simp)]
 simp
theorem yAz {e:Nat}{a q:Nat}{r:List Int}{L:List (List Int)}{p:Nat->AV} (ρ:List (Nat×Nat)) (h:Nat.beq q q=true):(Ob.frz q (.s (.sl 1 (r.map (irow .i64)))) p (.arow e 1 (nils a++[.orow q]::zAD L))).ren ρ = .arow e 1 (nils a++zAD (r::L)):=by
 simp[Ob.frz,Ob.ren,nils,zAD,AV.frzAll,AV.frz,AV.renAll,AV.ren,h]
theorem zZ0 {e:Nat}{a q:Nat}{L:List (List Int)} (r:AV) (p:Nat->AV) (ρ:List (Nat×Nat)):(Ob.frz q r p (.arow e 1 (nils a++zAD L))).ren ρ = .arow e 1 (nils a++zAD L):=by
 simp[Ob.frz,Ob.ren,nils,zAD,AV.frzAll,AV.frz,AV.renAll,AV.ren]
theorem Le.forgetH {c:Cx}{σ:St} (l:List (Nat×AV)) (hp':Nat->Option Ob) (n:Nat) (h:holds σ.env l) (hh:∀ k,σ.hp k=hp' k) (hn:σ.nx=n):Le c σ ⟨ofL l,hp',n⟩:=by
 obtain rfl:σ.hp=hp':=funext hh;subst hn;exact Le.forget l h
theorem PSound.ofOwn {P:Program}{f:Nat}{R:List AV->List Ob->AV->List (Option Ob)->Prop} (hcall:∀ args w,(callFunc f args).run P w = .ok (.enter f args) w) (h:zI6 P f R):PSound P f (zB1 R) :=
 ⟨hcall,fun _ _ _ _ _ _ _ _ _ hs=>hs.elim,fun R' hR'=>(by
  obtain rfl:R=R' :=(by simpa [zB1] using hR');exact h),fun R hR=>(by cases hR)⟩
def zXC (s:zAp):List AV->List Ob->AV->List (Option Ob)->Prop:=match s.own with | some R=>R | none=>fun _ _ _ _=>False
def orS (s t:zAp):zAp:=zB1 fun xs os x os'=>zXC s xs os x os'∨zXC t xs os x os'
theorem zRK {P:Program}{f:Nat}{s t:zAp} (hs:PSound P f s) (ht:PSound P f t):PSound P f (orS s t) :=
 PSound.ofOwn hs.1 fun G w β xs vs os x os' h1 h2 h3 h4 h5 h6=>by
  rcases h6 with h6 | h6
  ·unfold zXC at h6;cases hR:s.own with
   | none=>rw[hR]at h6; exact h6.elim
   | some R=>rw[hR]at h6; exact hs.2.2.1 R hR G w β xs vs os x os' h1 h2 h3 h4 h5 h6
  ·unfold zXC at h6;cases hR:t.own with
   | none=>rw[hR]at h6; exact h6.elim
   | some R=>rw[hR]at h6; exact ht.2.2.1 R hR G w β xs vs os x os' h1 h2 h3 h4 h5 h6
def ownS (s:zAp):zAp:=zB1 fun xs os x os'=>AV.persAll xs=true/\s.spec xs (.val x)/\os=[]/\os'=[]
theorem PSound.toOwn {P:Program}{f:Nat}{s:zAp} (h:PSound P f s):PSound P f (ownS s) :=
 PSound.ofOwn h.1 fun G w β xs vs os x os' h1 h2 h3 _ _ h6=>by
  obtain⟨hp,hs,rfl,rfl⟩:=h6;refine(h.2.1 G w xs vs (.val x) h1 h2 hp (AVals.pers hp h3) hs).mono fun e w' he=>?_
  obtain⟨v,G',rfl,hx,hv1,hv2⟩:=he;exact⟨v,G',β,rfl,⟨hx.os,hx.tape,hx.output,hx.size,fun b hb _=>hx.old b hb⟩,hx.sub,fun b hb=>(hx.new b hb).imp id .inr,hx.lt,AVal.pers hv1 hv2,AV.pers_lt hv1,Nat.le_refl _,⟨fun i ob hi=>by simp at hi,fun i j ob ob' hi=>by simp at hi⟩,fun i ob hi=>by simp at hi⟩
structure Wrote (b off:Nat) (v:Value) (cur:Array Value) (e:Nat) (w w':World):Prop where
 os:w'.os=w.os
 tape:w'.tape=w.tape
 output:w'.output=w.output
 size:w'.heap.size=w.heap.size
 old:∀ i,i ≠ b->w'.heap[i]? = w.heap[i]?
 new:w'.heap[b]? = some (.cells (cur.setIfInBounds off v) e (0,0))
theorem Wrote.cell {b off e:Nat}{v:Value}{cur:Array Value}{w:World} (h:w.heap[b]? = some (.cells cur e (0,0))):Wrote b off v cur e w (w.setCell ⟨b,off,none⟩ v) :=
 ⟨rfl,rfl,rfl,by simp[World.setCell],fun i hi=>by
  simp only[World.setCell,Array.getElem?_modify]
  rw[if_neg (Ne.symm hi)],by simp[World.setCell,Array.getElem?_modify,h]⟩
theorem Wrote.same {b off e:Nat}{v:Value}{cur:Array Value}{w:World} (h:w.heap[b]? = some (.cells cur e (0,0))) (hc:cur[off]? = some v):Wrote b off v cur e w w :=
 ⟨rfl,rfl,rfl,rfl,fun _ _=>rfl,by
  rw[h]
  have:cur.setIfInBounds off v=cur:=by
   apply Array.ext
   ·simp
   ·intro i h1 h2;rw[Array.getElem_setIfInBounds (by simpa using h2)]
    split
    ·rename_i e; subst e
     rw[Array.getElem?_eq_getElem h2]at hc;exact(Option.some.inj hc).symm
    ·rfl
  rw[this]⟩
theorem zSA {G:Nat->Prop}{w w':World}{b:Nat} (hb:¬ G b) (h:∀ i,i ≠ b->w'.heap[i]? = w.heap[i]?):Keep G G w w':=⟨fun _ h=>h,fun i hi=>h i fun e=>hb (e ▸ hi)⟩
theorem zU7 {P:Program}{f D e off:Nat}{cells cells':List AV}{p:AV} (hoff:cells[off]? = some p) (hp:p = .s .np∨p = .op 0 off) (hrow:cells[off+1]? = some (.orow 1))
  (hc':cells'=(cells.set off (.op 0 off)).set (off+1) (.orow 2)) (hpers:∀ (i:Nat) x,cells[i]? = some x->i ≠ off->i ≠ off+1->x.pers=true)
  (hwalk:∀ (b:Nat) (w:World) (cur:Array Value),w.heap[b]? = some (.cells cur D (0,0))->cur.size=cells.length->(p = .s .np->cur[off]? = some (.pointer none))->(p = .op 0 off->cur[off]? = some (.pointer (some ⟨b,off,none⟩))) ->
   Calls P f #[.pointer (some ⟨b,off,none⟩)] w fun e w'=>e = .returned (.tuple #[])/\Wrote b off (.pointer (some ⟨b,off,none⟩)) cur D w w') :
  zI6 P f fun xs os x os'=>∃ bs,xs=[.op 0 off]/\os=[.box D cells,.row e 1 bs]/\x = .tup []/\os'=[some (.box D cells'),none,some (.row e 1 bs)]:=by
 rintro G w β xs vs os x os' hlt hgl hv hxl hobs ⟨bs,rfl,rfl,rfl,rfl⟩
 obtain⟨hob0,_⟩:=hobs.1 0 (.box D cells) rfl;obtain⟨hob1,_⟩:=hobs.1 1 (.row e 1 bs) rfl;have hdis:∀ b,blk (β 0)=some b->blk (β 1) ≠ some b:=fun b=>hobs.2 0 1 (.box D cells) (.row e 1 bs) rfl rfl (by decide) b
 obtain⟨b,e',cur,h1,h2,h3,h4,h5,h6,rfl⟩:=hob0;simp only[AVals,AVal]at hv;obtain⟨v,vs',rfl,⟨b',hb',rfl⟩,rfl⟩:=hv;have hbb:b'=b :=(by rw[h1]at hb'; simpa using hb'.symm);subst hbb;have hsz:cur.size=cells.length :=(by simpa using h5.length);have hval:∀ v,cur[off]? = some v->AVal G w β p v:=fun v hv=>by
  obtain⟨u,hu,hr⟩:=h5.get hoff;rw[Array.getElem?_toList,hv]at hu; cases hu; exact hr
 have hin:off<cur.size :=(by rw[hsz]; exact(List.getElem?_eq_some_iff.1 hoff).1);refine(hwalk b' w cur h2 hsz (fun e=>?_) (fun e=>?_)).mono fun e2 w' ⟨he,hw⟩=>?_
 ·have:=hval _ (Array.getElem?_eq_getElem hin)
  rw[e]at this;simp only[AVal,Rep]at this;rw[Array.getElem?_eq_getElem hin,this]
 ·have:=hval _ (Array.getElem?_eq_getElem hin)
  rw[e]at this;simp only[AVal]at this;obtain⟨b2,hb2,hv2⟩:=this;rw[h1]at hb2; cases hb2
  rw[Array.getElem?_eq_getElem hin,hv2]
 ·have hk:Keep G G w w':=zSA h3 hw.old
  let β':Nat->Value:=fun k=>if k=2 then β 1 else β k
  have hβ0:β' 0=β 0:=if_neg (by decide)
  have hβ2:β' 2=β 1:=if_pos rfl;have hpp:AVals G w' β' cells' (cur.setIfInBounds off (.pointer (some ⟨b',off,none⟩))).toList:=by
   rw[hc']
   refine AVals.mk (by simp[hsz]) fun i x v hx hv=>?_
   rw[Array.getElem?_toList,Array.getElem?_setIfInBounds]at hv;rw[List.getElem?_set]at hx;split at hx
   ·rename_i hi
    subst hi;split at hx
    ·cases hx;rw[if_neg (by omega)]at hv;obtain⟨u,hu,hr⟩:=h5.get hrow;rw[Array.getElem?_toList,hv]at hu; cases hu
     simp only[AVal]at hr ⊢;rw[hβ2]; exact hr
    ·cases hx
   ·rename_i hi
    rw[List.getElem?_set]at hx;split at hx
    ·rename_i hi2
     subst hi2;rw[if_pos rfl]at hv;split at hx
     ·cases hx;rw[if_pos hin]at hv;cases hv;simp only[AVal]
      exact⟨b',by rw[hβ0]; exact h1,rfl⟩
     ·cases hx
    ·rename_i hi2
     rw[if_neg hi2]at hv;obtain⟨u,hu,hr⟩:=h5.get hx;rw[Array.getElem?_toList,hv]at hu; cases hu
     exact AVal.pers (hpers i x hx (Ne.symm hi2) (Ne.symm hi)) (hr.keep hk)
  have hone:∀ u∈(cur.setIfInBounds off (.pointer (some ⟨b',off,none⟩))).toList,u.oneCell'=true:=fun u hu=>by
   obtain⟨i,hi⟩:=List.getElem?_of_mem hu;rw[Array.getElem?_toList,Array.getElem?_setIfInBounds]at hi;split at hi
   ·first | (cases hi; rfl) | (split at hi <;> first | (cases hi; rfl) | cases hi)
   ·exact h6 u (List.mem_of_getElem? (by rw[Array.getElem?_toList]; exact hi))
  have hX:(zDI P w β 2 G 0).X b':=⟨0,by decide,by rw[h1]; rfl⟩
  have hltc:AV.ltAll 3 cells'=true:=by
   rw[hc']
   refine zCp fun q y hq=>?_
   rw[List.getElem?_set]at hq;split at hq
   ·split at hq
    ·cases hq; rfl
    ·cases hq
   ·rename_i hi
    rw[List.getElem?_set]at hq;split at hq
    ·split at hq
     ·cases hq; rfl
     ·cases hq
    ·rename_i hi2
     exact AV.pers_lt (hpers q y hq (Ne.symm hi2) (Ne.symm hi))
  refine⟨.tuple #[],G,β',he,⟨hw.os,hw.tape,hw.output,by rw[hw.size]; exact Nat.le_refl _,fun i hi hx=>hw.old i fun e=>hx (e ▸ hX)⟩,fun _ h=>h,fun _ h=>.inl h,fun i hi=>by rw[hw.size]; exact hlt i hi,
   ⟨[],rfl,by simp only[AVals]⟩,rfl,(show 2<=3 by decide),⟨fun i ob hi=>?_,fun i j ob ob' hi hj hne bb hbi=>?_⟩,fun i ob hi ho=>?_⟩
  ·match i,hi with
   | 0,hi =>
    cases hi;refine⟨⟨b',_,_,by rw[hβ0]; exact h1,hw.new,h3,h4,hpp,hone,rfl⟩,by simpa [Ob.lt] using hltc⟩
   | 1,hi=>cases hi
   | 2,hi =>
    cases hi;refine⟨?_,rfl⟩
    rw[hβ2]
    obtain⟨g1,g2,g3⟩:=hob1;refine⟨g1,g2,g3.imp id ?_⟩
    rintro⟨bg,cap,gc,k1,k2,k3,k4,k5,k6,k7⟩
    have hne:bg ≠ b':=fun e=>hdis b' (by rw[h1]; rfl) (by rw[k1,e]; rfl)
    exact⟨bg,cap,gc,k1,k2,k3,k4.to fun x hx=>(hw.old bg hne).trans hx,k5,k6,fun i s hi=>let ⟨u,hu,hr⟩:=k7 i s hi; ⟨u,hu,hr.keep hk⟩⟩
   | k+3,hi=>simp at hi
  ·match i,j,hi,hj with
   | 0,0,_,_=>exact absurd rfl hne
   | 0,2,_,_=>rw[hβ0]at hbi; rw[hβ2]; exact hdis bb hbi
   | 2,0,_,_=>rw[hβ2]at hbi; rw[hβ0]; exact fun e=>hdis bb e hbi
   | 2,2,_,_=>exact absurd rfl hne
   | 1,_,hi,_=>cases hi
   | _,1,_,hj=>cases hj
   | k+3,_,hi,_=>simp at hi
   | _,k+3,_,hj=>simp at hj
  ·match i,hi with
   | 0,_=>exact hβ0
   | 1,_=>cases ho
theorem zMr {P:Program}{f D e off:Nat}{cells cells':List AV} (hrow:cells[off+1]? = some (.orow 1)) (hself:cells[off]? = some (.op 0 off))
  (hc':cells'=cells.set (off+1) .junk) (hpers:∀ (i:Nat) x,cells[i]? = some x->i ≠ off->i ≠ off+1->x.pers=true)
  (hwalk:∀ (b g cap:Nat) (l:List UInt8) (w:World) (cur:Array Value) (mk:Nat×Nat),l ≠ []->w.cell? ⟨b,off+1,none⟩=some (.slice (some ⟨g,0,none⟩) l.length cap)->w.heap[g]? = some (.cells cur e mk)->cur.size=cap * 1->l.length<=cap->l.length<=9223372036854775807 ->
   (∀ (j:Nat) x,l[j]? = some x->cur[j]? = some (.int .u8 x.toNat)) ->
   Calls P f #[.pointer (some ⟨b,off,none⟩)] w fun e w'=>e = .returned (.string ⟨l.toArray⟩)/\w'=w.drew.freeze ⟨g,0,none⟩ l.length) :
  zI6 P f fun xs os x os'=>∃ l:List UInt8,l ≠ []/\l.length<=9223372036854775807/\xs=[.op 0 off]/\os=[.box D cells,.row e 1 (l.map brow)]/\x = .s (.str l)/\os'=[some (.box D cells'),none]:=by
 rintro G w β xs vs os x os' hlt hgl hv hxl hobs ⟨l,hl0,hlm,rfl,rfl,rfl,rfl⟩
 obtain⟨hob0,_⟩:=hobs.1 0 (.box D cells) rfl;obtain⟨hob1,_⟩:=hobs.1 1 (.row e 1 (l.map brow)) rfl;have hdis:∀ b,blk (β 0)=some b->blk (β 1) ≠ some b:=fun b=>hobs.2 0 1 (.box D cells) (.row e 1 (l.map brow)) rfl rfl (by decide) b
 obtain⟨b,e',cur,h1,h2,h3,h4,h5,h6,rfl⟩:=hob0;simp only[AVals,AVal]at hv;obtain⟨v,vs',rfl,⟨b',hb',rfl⟩,rfl⟩:=hv;have hbb:b'=b :=(by rw[h1]at hb'; simpa using hb'.symm);subst hbb;have hsz:cur.size=cells.length :=(by simpa using h5.length);obtain⟨g1,g2,g3⟩:=hob1;rcases g3 with ⟨_,hnil⟩ | ⟨g,cap,gc,k1,k2,k3,⟨mk,hmk,k4⟩,k5,k6,k7⟩
 ·exact absurd (by simpa using hnil) hl0
 have hgb:g ≠ b':=fun e=>hdis b' (by rw[h1]; rfl) (by rw[k1,e]; rfl)
 have hc1:cur[off+1]? = some (β 1):=by
  obtain⟨u,hu,hr⟩:=h5.get hrow;simp only[AVal]at hr;rw[Array.getElem?_toList]at hu;rw[hu,hr.1]
 have hlen:(l.map brow).length=l.length :=(by simp);refine(hwalk b' g cap l w gc mk hl0 (by simp[World.cell?,h2,hc1,k1]) k4 k3 (by simpa using k2) hlm (fun j x hx=>?_)).mono fun e2 w' ⟨he,hw⟩=>?_
 ·obtain⟨u,hu,hr⟩:=k7 j (.int .u8 x.toNat) (by rw[zF3,List.getElem?_map,hx]; rfl)
  simp only[Rep]at hr;rw[hu,hr]
 ·have hold:∀ i,i ≠ g->w'.heap[i]? = w.heap[i]?:=fun i hi=>by
   rw[hw]
   unfold World.freeze;rw[if_neg (by simpa using hl0)]
   simp only[Array.getElem?_modify]
   rw[if_neg (Ne.symm hi)]; rfl
  have hsize:w'.heap.size=w.heap.size:=by
   rw[hw]; unfold World.freeze; rw[if_neg (by simpa using hl0)]; simp
  have hrest:w'.os=w.os/\w'.tape=w.tape/\w'.output=w.output:=by
   rw[hw]; unfold World.freeze; rw[if_neg (by simpa using hl0)]; exact⟨rfl,rfl,rfl⟩
  have hk:Keep G G w w':=zSA k5 hold;have hX:(zDI P w β 2 G 0).X g:=⟨1,by decide,by rw[k1]; rfl⟩
  have hpp:AVals G w' β cells' cur.toList:=by
   rw[hc']
   refine AVals.mk (by simp[hsz]) fun i x v hx hv=>?_
   rw[List.getElem?_set]at hx;split at hx
   ·split at hx
    ·cases hx; simp only[AVal]
    ·cases hx
   ·obtain⟨u,hu,hr⟩:=h5.get hx;rw[hv]at hu; cases hu
    exact hr.keep hk
  have hltc:AV.ltAll 2 cells'=true:=by
   rw[hc']
   refine zCp fun q y hq=>?_
   rw[List.getElem?_set]at hq;split at hq
   ·split at hq
    ·cases hq; rfl
    ·cases hq
   ·rename_i hi
    by_cases hi2:q=off
    ·subst hi2;rw[hself]at hq; cases hq; rfl
    ·exact AV.pers_lt (hpers q y hq hi2 (Ne.symm hi))
  refine⟨.string ⟨l.toArray⟩,G,β,he,⟨hrest.1,hrest.2.1,hrest.2.2,by rw[hsize]; exact Nat.le_refl _,fun i hi hx=>hold i fun e=>hx (e ▸ hX)⟩,fun _ h=>h,fun _ h=>.inl h,fun i hi=>by rw[hsize]; exact hlt i hi,
   by simp only[AVal,Rep],rfl,(show 2<=2 by decide),⟨fun i ob hi=>?_,fun i j ob ob' hi hj hne bb hbi=>?_⟩,fun i ob hi ho=>rfl⟩
  ·match i,hi with
   | 0,hi =>
    cases hi;exact⟨⟨b',_,cur,h1,(hold b' (Ne.symm hgb)).trans h2,h3,h4,hpp,h6,rfl⟩,by simpa [Ob.lt] using hltc⟩
   | 1,hi=>cases hi
   | k+2,hi=>simp at hi
  ·match i,j,hi,hj with
   | 0,0,_,_=>exact absurd rfl hne
   | 1,_,hi,_=>cases hi
   | _,1,_,hj=>cases hj
   | k+2,_,hi,_=>simp at hi
   | _,k+2,_,hj=>simp at hj
section
variable {T:Nat->Option TI} {Γ:Nat->Option zAp} {M nm L:List Nat} {N k n:Nat} {all os:List Oper} {o:Oper} {σ σ':St} {K:St->Prop} {φ:Option Prop} {x:AV} {d:Nat}
theorem zWw {own:Bool}{t e q kk sz:Nat}{j ti:TI}{y hi:Operand}{n:Int}{ki:IntKind}{rows:List (List AV)} (ho:o.op = .slice t y none (some hi) none) (ht:T t=some ti) (hk:ti.k = .slice e) (hj:T e=some j) (hy:opd T σ.env t y = .orow q)
  (hi':opd T σ.env 0 hi = .s (.int ki n)) (hh:σ.hp q=some (.arow kk sz rows)) (hz:Nat.beq sz j.size=true) :
  step1 T own o σ=some (some (0<=n/\n<=rows.length),.orow σ.nx,zBe (zG1 σ q) (.arow kk sz (rows.take n.toNat))):=by
 have e1:zB2 T own o σ.env=none :=(by simp only[zB2,ho,zJT,hy,AV.nrm,ht,hk,Option.map_none,Option.map_some,hi']);have e2:zCW T own o σ=none :=(by simp only[zCW,ho,elemOf,ht,hk,hj,hy,hi',hh]);simp only[step1,e1,zBN,zEV,e2,zCC,ho,elemOf,ht,hk,hj,hy,hi',hh,hz]
theorem zZo {own:Bool}{t tx e q q2 kk kk2 sz sz2:Nat}{j ti:TI}{args:Array Operand}{ts:Array Nat}{y z:Operand}{rows rows2:List (List AV)} (ho:o.op = .call { callee:=.builtin .append,args:=args,argTypes:=ts }) (ha:args.toList=[y,z]) (hts:ts.toList=[t,tx])
  (ht:T t=some ti) (hk:ti.k = .slice e) (hj:T e=some j) (htx:tk T tx = .slice e) (hy:opd T σ.env t y = .orow q) (hz:opd T σ.env tx z = .orow q2) (hh:σ.hp q=some (.arow kk sz rows)) (hh2:σ.hp q2=some (.arow kk2 sz2 rows2))
  (h1:Nat.beq sz j.size=true) (h2:Nat.beq sz2 j.size=true) (h3:Nat.beq e kk=true) :
  step1 T own o σ=some (some ((rows.length+rows2.length) * j.bytes<=140737488355328/\rows.length+rows2.length<=9223372036854775807),.orow σ.nx,zBe (zG1 σ q) (.arow e sz (rows++rows2))):=by
 have e1:zB2 T own o σ.env=none :=(by simp only[zB2,ho]);have e2:zCW T own o σ=none :=(by simp only[zCW,ho,ha,hts,zHA,elemOf,ht,hk,hj,hy,zIw,hh]);simp only[step1,e1,zBN,zEV,e2,zCC,ho,ha,hts,elemOf,ht,hk,hj,hy,hz,zJu,hh,zJ2,htx,hh2,h1,h2,h3]
theorem zX0 {own:Bool}{t tx e q kk sz sz2 e2:Nat}{j ti:TI}{args:Array Operand}{ts:Array Nat}{y z:Operand}{rows:List (List AV)}{rows2:List (List S)} (ho:o.op = .call { callee:=.builtin .copy,args:=args,argTypes:=ts }) (ha:args.toList=[y,z]) (hts:ts.toList=[t,tx])
  (ht:T t=some ti) (hk:ti.k = .slice e) (hj:T e=some j) (htx:tk T tx = .slice e2) (hy:opd T σ.env t y = .orow q) (hz:opd T σ.env tx z = .s (.sl sz2 rows2)) (hh:σ.hp q=some (.arow kk sz rows))
  (h1:Nat.beq sz j.size=true) (h2:Nat.beq sz2 j.size=true) :
  step1 T own o σ=some (some ((rows2.map (·.map AV.s)).length=rows.length),.s (.int .i64 (rows.length:Int)),zEv σ q (.arow kk sz (rows2.map (·.map AV.s)))):=by
 have e1:zB2 T own o σ.env=none :=(by simp only[zB2,ho,ha,hts,zUD,hy]);have e2:zCW T own o σ=none :=(by simp only[zCW,ho]);simp only[step1,e1,zBN,zEV,e2,zCC,ho,ha,hts,elemOf,ht,hk,hj,hy,hz,zJu,hh,zJ2,htx,h1,h2]
theorem yAB {own:Bool}{t e:Nat}{j ti:TI}{y z:Operand}{n m:Int}{k1 k2:IntKind} (hw:own=true) (ho:o.op = .makeSlice t y z) (ht:T t=some ti) (hk:ti.k = .slice e) (hj:T e=some j) (hy:opd T σ.env 0 y = .s (.int k1 n)) (hz:opd T σ.env 0 z = .s (.int k2 m)) (h1:Nat.ble 1 j.size=true)
  (hp:zB2 T own o σ.env=none) :
  step1 T own o σ=some (some (0<=n/\n<=m/\m * j.bytes<=281474976710656/\m<=281474976710656),.orow σ.nx,zBe σ (.row e j.size (List.replicate n.toNat j.zero))):=by
 simp only[step1,hp,zBN,zEV,zCW,ho,elemOf,ht,hk,hj,hy,hz,h1]
end
def isL (sz:Nat) (p:AV):Prop:=(∃ q i,p = .rp q sz i 0)∨(∃ q,p = .op q 0)
def zBr:AV->Nat
 | .op q _=>q
 | .rp q _ _ _=>q
 | _=>0
def locO (p:AV) (off:Nat):AV:=match p with
 | .op q _=>.op q off
 | .rp q sz i _=>.rp q sz i off
 | x=>x
def zAO (hp:Nat->Option Ob):AV->Option (List AV)
 | .op q 0=>match hp q with | some (.box _ cs)=>some cs | _=>none
 | .rp q sz i 0=>match hp q with | some (.arow _ sz' rows)=>bif Nat.beq sz sz' then rows[i]? else none | _=>none
 | _=>none
def putC (hp:Nat->Option Ob) (p:AV) (c:List AV) (k:Nat):Option Ob:=match p with
 | .op q _=>match hp q with | some (.box bt _)=>bif Nat.beq k q then some (.box bt c) else hp k | _=>hp k
 | .rp q _ i _=>match hp q with | some (.arow e sz rows)=>bif Nat.beq k q then some (.arow e sz (rows.set i c)) else hp k | _=>hp k
 | _=>hp k
theorem zDY {k q:Nat} (h:k ≠ q):Nat.beq k q=false:=by
 cases e:Nat.beq k q with
 | true=>exact absurd (Nat.eq_of_beq_eq_true e) h
 | false=>rfl
theorem zBS {hp:Nat->Option Ob}{p:AV}{c:List AV}{k:Nat} (h:k ≠ zBr p):putC hp p c k=hp k:=by
 unfold putC;split
 ·rename_i q _
  have h:k ≠ q:=h;split
  ·rw[zDY h,cond_false]
  ·rfl
 ·rename_i q _ _ _
  have h:k ≠ q:=h;split
  ·rw[zDY h,cond_false]
  ·rfl
 ·rfl
theorem zFI {hp:Nat->Option Ob}{q o bt:Nat}{cs c:List AV} (h:hp q=some (.box bt cs)):putC hp (.op q o) c=fun k=>bif Nat.beq k q then some (.box bt c) else hp k:=by
 funext k; simp only[putC,h]
theorem zI0 {hp:Nat->Option Ob}{q s i o e sz:Nat}{rows:List (List AV)}{c:List AV} (h:hp q=some (.arow e sz rows)):putC hp (.rp q s i o) c=fun k=>bif Nat.beq k q then some (.arow e sz (rows.set i c)) else hp k:=by
 funext k; simp only[putC,h]
theorem zDZ {hp:Nat->Option Ob}{q bt:Nat}{cs:List AV} (h:hp q=some (.box bt cs)):zAO hp (.op q 0)=some cs:=by simp only[zAO,h]
theorem zFf {hp:Nat->Option Ob}{q e sz i:Nat}{rows:List (List AV)} (h:hp q=some (.arow e sz rows)):zAO hp (.rp q sz i 0)=rows[i]?:=by simp only[zAO,h,Nat.beq_refl,cond_true]
theorem zCU {hp:Nat->Option Ob}{sz:Nat}{p:AV}{cs:List AV} (hl:isL sz p) (h:zAO hp p=some cs):(∃ q i e rows,p = .rp q sz i 0/\hp q=some (.arow e sz rows)/\rows[i]? = some cs)∨∃ q bt,p = .op q 0/\hp q=some (.box bt cs):=by
 rcases hl with ⟨q,i,rfl⟩ | ⟨q,rfl⟩
 ·simp only[zAO]at h;split at h
  ·rename_i e sz' rows hq
   cases hb:Nat.beq sz sz' with
   | false=>rw[hb]at h; cases h
   | true =>
    rw[hb,cond_true]at h;obtain rfl:=Nat.eq_of_beq_eq_true hb;exact .inl ⟨q,i,e,rows,rfl,hq,h⟩
  ·cases h
 ·simp only[zAO]at h;split at h
  ·rename_i bt cs' hq
   cases h;exact .inr ⟨q,bt,rfl,hq⟩
  ·cases h
theorem zIO {hp:Nat->Option Ob}{sz:Nat}{p:AV}{c cs:List AV} (hl:isL sz p) (h:zAO hp p=some cs):zAO (putC hp p c) p=some c:=by
 rcases zCU hl h with ⟨q,i,e,rows,rfl,hq,hi⟩ | ⟨q,bt,rfl,hq⟩
 ·rw[zI0 hq,zFf (e:=e) (rows:=rows.set i c) (by simp only[Nat.beq_refl,cond_true]),List.getElem?_set,if_pos rfl,if_pos (List.getElem?_eq_some_iff.1 hi).1]
 ·rw[zFI hq,zDZ (bt:=bt) (cs:=c) (by simp only[Nat.beq_refl,cond_true])]
theorem zCl {hp hp':Nat->Option Ob}{sz:Nat}{p:AV} (hl:isL sz p) (h:hp' (zBr p)=hp (zBr p)):zAO hp' p=zAO hp p:=by
 rcases hl with ⟨q',i',rfl⟩ | ⟨q',rfl⟩ <;> (simp only[zBr]at h; simp only[zAO,h])
theorem zWc {hp:Nat->Option Ob}{sz:Nat}{p p':AV}{c cs:List AV} (hl:isL sz p) (hc:zAO hp p=some cs) (hl':isL sz p') (hne:p' ≠ p):zAO (putC hp p c) p'=zAO hp p':=by
 by_cases hb:zBr p'=zBr p
 ·rcases zCU hl hc with ⟨q,i,e,rows,rfl,hq,hi⟩ | ⟨q,bt,rfl,hq⟩
  ·have hp2:putC hp (.rp q sz i 0) c q=some (.arow e sz (rows.set i c)) :=(by rw[zI0 hq]; simp only[Nat.beq_refl,cond_true]);rcases hl' with ⟨q',i',rfl⟩ | ⟨q',rfl⟩ <;> (simp only[zBr]at hb; subst hb)
   ·have hi:i' ≠ i:=fun e=>hne (by rw[e])
    rw[zFf hp2,zFf hq,List.getElem?_set,if_neg (Ne.symm hi)]
   ·simp only[zAO,hp2,hq]
  ·have hp2:putC hp (.op q 0) c q=some (.box bt c) :=(by rw[zFI hq]; simp only[Nat.beq_refl,cond_true]);rcases hl' with ⟨q',i',rfl⟩ | ⟨q',rfl⟩ <;> (simp only[zBr]at hb; subst hb)
   ·simp only[zAO,hp2,hq]
   ·exact absurd rfl hne
 ·exact zCl hl' (zBS hb)
theorem zXG {hp:Nat->Option Ob}{sz':Nat}{p:AV}{c cs:List AV} (hl:isL sz' p) (hc:zAO hp p=some cs){q e sz:Nat}{rows:List (List AV)} (h:hp q=some (.arow e sz rows)):∃ rows',putC hp p c q=some (.arow e sz rows')/\rows'.length=rows.length:=by
 by_cases hb:q=zBr p
 ·subst hb;rcases zCU hl hc with ⟨q,i,e',rows',rfl,hq,hi⟩ | ⟨q,bt,rfl,hq⟩
  ·simp only[zBr]at h ⊢;rw[hq]at h; cases h
   rw[zI0 hq]; exact⟨_,by simp only[Nat.beq_refl,cond_true]; rfl,List.length_set ..⟩
  ·simp only[zBr]at h;rw[hq]at h; cases h
 ·rw[zBS hb]; exact⟨rows,h,rfl⟩
section
variable {T:Nat->Option TI} {Γ:Nat->Option zAp} {M nm L:List Nat} {N k n:Nat} {all os:List Oper} {o:Oper} {σ σ':St} {K:St->Prop} {φ:Option Prop} {x:AV} {d:Nat}
theorem zEL {own:Bool}{sz:Nat}{p:AV}{y:Operand} (hl:isL sz p) (ho:o.op = .nilCheck y) (hy:opd T σ.env 0 y=p):step1 T own o σ=some (none,p,σ):=by
 have e1:zB2 T own o σ.env=some (none,p):=by
  rcases hl with ⟨q,i,rfl⟩ | ⟨q,rfl⟩ <;> simp only[zB2,ho,hy]
 simp only[step1,e1]
theorem zE3 {own:Bool}{sz:Nat}{p:AV}{t f off ft:Nat}{ti j:TI}{fs:List (Nat×Nat)}{y:Operand} (hl:isL sz p) (ho:o.op = .fieldAddr t y f) (hy:opd T σ.env 0 y=p) (ht:T t=some ti) (hk:ti.k = .struct fs) (hf:fs[f]? = some (off,ft)) (hj:T ft=some j) (hz:Nat.ble 1 j.size=true) :
  step1 T own o σ=some (none,locO p off,σ):=by
 have e1:zB2 T own o σ.env=some (none,locO p off):=by
  rcases hl with ⟨q,i,rfl⟩ | ⟨q,rfl⟩ <;> simp only[zB2,ho,hy,zFj,ht,hk,hf,hj,hz,zNZ,locO,Nat.zero_add]
 simp only[step1,e1]
theorem zDK {sz t off:Nat}{ti:TI}{y:Operand}{p c:AV}{cs:List AV} (hg:o.guard=none) (hd:o.dst=some d) (hN:Nat.blt d N=true) (hn:dIn (some d) nm=false) (ho:o.op = .load t y) (ht:T t=some ti) (ha:ti.k.agg=false) (hl:isL sz p) (hy:opd T σ.env 0 y=locO p off)
  (hcs:zAO σ.hp p=some cs) (hc:cs[off]? = some c) (h:zBv T Γ M nm N all os (σ.putN d c) K):zBv T Γ M nm N all (o::os) σ K:=by
 rcases zCU hl hcs with ⟨q,i,e,rows,rfl,hq,hi⟩ | ⟨q,bt,rfl,hq⟩
 ·have hgd:rows.getD i []=cs :=(by rw[List.getD_eq_getElem?_getD,hi]; rfl);refine zQ1 hg hd hN hn ho hy hq (List.getElem?_eq_some_iff.1 hi).1 (c:=c) ?_ h;simp only[zNJ,ht,ha,hgd]
  rw[List.drop_eq_getElem_cons (List.getElem?_eq_some_iff.1 hc).1]
  simp only[(List.getElem?_eq_some_iff.1 hc).2]
 ·have hcall:callOf T Γ o σ.env=none :=(by simp only[callOf,ho]);exact zAd hg hd hN hcall hn (zX1 ho ht ha hy hq hc) trivial h
theorem zQ2 {sz t off:Nat}{ti:TI}{y z:Operand}{p c:AV}{cs:List AV} (hg:o.guard=none) (hd:o.dst=none) (ho:o.op = .store t y z) (ht:T t=some ti) (hs:ti.size=1) (hl:isL sz p) (hy:opd T σ.env 0 y=locO p off)
  (hcs:zAO σ.hp p=some cs) (hlen:cs.length=sz) (hoff:off<sz) (hz:(opd T σ.env t z).cellsA=[c]) (ho1:c.one=true) (hlt:c.lt σ.nx=true)
  (h:zBv T Γ M nm N all os { σ with hp:=putC σ.hp p (cs.set off c) } K):zBv T Γ M nm N all (o::os) σ K:=by
 have hcall:callOf T Γ o σ.env=none :=(by simp only[callOf,ho]);have hset:cs.take off++[c]++cs.drop (off+1)=cs.set off c:=by
  rw[List.set_eq_take_append_cons_drop,if_pos (by omega)]; simp
 have h1:Nat.ble (off+1) sz=true:=Nat.ble_eq_true_of_le hoff;rcases zCU hl hcs with ⟨q,i,e,rows,rfl,hq,hi⟩ | ⟨q,bt,rfl,hq⟩
 ·have hgd:rows.getD i []=cs :=(by rw[List.getD_eq_getElem?_getD,hi]; rfl);have hst:=zRV (T:=T) (own:=dIn none M) (o:=o) (σ:=σ) ho ht hy hq (Nat.beq_refl _) (by rw[hz,hs]; rfl) (by rw[hs]; exact h1) (by rw[hz]; simp[ho1])
  refine zFy hg hd hcall hst (List.getElem?_eq_some_iff.1 hi).1 ?_;rw[hgd,hz,hs,hset]
  rw[zI0 hq]at h;exact h
 ·have hst:=zNh (T:=T) (own:=dIn none M) (o:=o) (σ:=σ) ho ht hy hq (by rw[hz,hs]; rfl) (by rw[hs,hlen]; exact h1) (by rw[hz]; simp[ho1]) (by rw[hz]; simp[AV.ltAll,hlt])
  refine zFy hg hd hcall hst trivial ?_;rw[hz,hs,hset]
  rw[zFI hq]at h;exact h
theorem zGy {sz t:Nat}{ti:TI}{y z:Operand}{p:AV}{cs cs':List AV} (hg:o.guard=none) (hd:o.dst=none) (ho:o.op = .store t y z) (ht:T t=some ti) (hs:ti.size=sz) (hl:isL sz p) (hy:opd T σ.env 0 y=p)
  (hcs:zAO σ.hp p=some cs) (hlen:cs.length=sz) (hz:(opd T σ.env t z).cellsA=cs') (hlen':cs'.length=sz) (ho1:cs'.all AV.one=true) (hlt:AV.ltAll σ.nx cs'=true)
  (h:zBv T Γ M nm N all os { σ with hp:=putC σ.hp p cs' } K):zBv T Γ M nm N all (o::os) σ K:=by
 have hcall:callOf T Γ o σ.env=none :=(by simp only[callOf,ho]);have hset:cs.take 0++cs'++cs.drop (0+sz)=cs':=by
  rw[List.drop_eq_nil_of_le (by omega)]; simp
 have h1:Nat.ble (0+sz) sz=true:=Nat.ble_eq_true_of_le (by omega)
 have h2:Nat.beq cs'.length ti.size=true :=(by rw[hlen',hs]; exact Nat.beq_refl _);rcases zCU hl hcs with ⟨q,i,e,rows,rfl,hq,hi⟩ | ⟨q,bt,rfl,hq⟩
 ·have hgd:rows.getD i []=cs :=(by rw[List.getD_eq_getElem?_getD,hi]; rfl);have hst:=zRV (T:=T) (own:=dIn none M) (o:=o) (σ:=σ) ho ht hy hq (Nat.beq_refl _) (by rw[hz]; exact h2) (by rw[hs]; exact h1) (by rw[hz]; exact ho1)
  refine zFy hg hd hcall hst (List.getElem?_eq_some_iff.1 hi).1 ?_;rw[hgd,hz,hs,hset]
  rw[zI0 hq]at h;exact h
 ·have hst:=zNh (T:=T) (own:=dIn none M) (o:=o) (σ:=σ) ho ht hy hq (by rw[hz]; exact h2) (by rw[hs,hlen]; exact h1) (by rw[hz]; exact ho1) (by rw[hz]; exact hlt)
  refine zFy hg hd hcall hst trivial ?_;rw[hz,hs,hset]
  rw[zFI hq]at h;exact h
theorem zDf {j g:Nat}{want:Bool} (hg:o.guard=some (j,want)) (hj:(all[j]?).bind (·.dst)=some g) (hv:σ.env g = .s (.bool want)) (h:zBv T Γ M nm N all ({ o with guard:=none }::os) σ K):zBv T Γ M nm N all (o::os) σ K:=by
 unfold zBv at h ⊢;dsimp only at h ⊢;split
 ·rename_i h0
  rw[h0]at h;exact h
 ·rename_i h0
  rw[h0]at h;rw[hg]
  dsimp only;rw[hj]
  dsimp only;rw[hv]
  cases want <;> exact h
theorem Le.fewer {c:Cx}{σ:St} (l:List (Nat×AV)) (hp':Nat->Option Ob) (h:holds σ.env l) (hh:∀ k ob,hp' k=some ob->σ.hp k=some ob):Le c σ ⟨ofL l,hp',σ.nx⟩:=by
 refine Le.trans (Le.forget l h) ?_;unfold Le;intro G β a w hc;exact⟨G,β,{ hc with hp:=fun k ob hk=>hc.hp k ob (hh k ob hk),hplt:=fun k ob hk=>hc.hplt k ob (hh k ob hk),inj:=fun k k' ob ob' hk hk'=>hc.inj k k' ob ob' (hh k ob hk) (hh k' ob' hk') }⟩
end
theorem PSound.giveAll {P:Program}{f:Nat}{R:List AV->(Nat->Option Ob)->Nat->(AV->(Nat->Option Ob)->Nat->Prop)->Prop}{S:List AV->Ret->Prop} (h:PSound P f (zRa R))
  (hS:∀ xs r,S xs r->∃ y,r = .val y/\y.pers=true/\R xs (fun _=>none) 0 fun x hp n=>RdV hp x y):PSound P f (zAu S):=by
 refine⟨h.1,fun G w xs vs r hlt hgl hp hv hs=>?_,fun R hR=>(by cases hR),fun R hR=>(by cases hR)⟩
 obtain⟨y,rfl,hy,hR⟩:=hS xs r hs;refine(h.2.2.2 R rfl G w (fun _=>.tuple #[]) xs vs (fun _=>none) 0 _ hlt hgl hv (AV.persAll_lt hp) ⟨fun k ob hk=>(by cases hk),fun k ob hk=>(by cases hk),fun k k' ob ob' hk=>(by cases hk)⟩ hR).mono ?_;rintro e w' ⟨v,G',β',x,hp',n',rfl,hΦ,hn,hfr,hsub,hnew,hlt',hx,hxl,hob,hst⟩
 let c:Cx:=zEU P w (fun _=>.tuple #[]) (fun _=>none) 0 G 0
 have hk:Keep G G' w w':=⟨hsub,fun b hb=>hfr.old b (hlt b hb) (by rintro⟨k,ob,h,_⟩; cases h)⟩
 have hc:Conc c G' β' ⟨fun _=>.junk,hp',n'⟩ { tmps:=#[],defers:=[] } w':={
  defers:=rfl
  size:=rfl
  env:=fun t=>by simp only[AVal]
  envlt:=fun t=>rfl
  hp:=hob.obs
  hplt:=hob.lts
  inj:=hob.inj
  lt:=hlt'
  sub:=hsub
  new:=hnew
  fr:=hfr
  stay:=⟨hn,hst⟩
  glob:=hgl.keep hk }
 have hmine:∀ b,c.mine b->w.heap.size<=b:=fun b hb=>by
  rcases hb with ⟨k,ob,h,_⟩ | h
  ·cases h
  ·exact h
 refine⟨v,allG G' β' hp',rfl,⟨hfr.os,hfr.tape,hfr.output,hfr.size,fun b hb=>hfr.old b hb (by rintro⟨k,ob,h,_⟩; cases h),fun b hb=>.inl (hsub b hb),fun b hb=>?_,fun b hb=>?_⟩,hy,(hΦ.aval hc hx).pers hy⟩
 ·rcases hb with hb | ⟨k,ob,h1,h2⟩
  ·exact(hnew b hb).imp id (hmine b)
  ·exact .inr (hmine b (row_block (hc.hp k ob h1) b h2).2)
 ·rcases hb with hb | ⟨k,ob,h1,h2⟩
  ·exact hlt' b hb
  ·exact hc.blk_lt h1 h2
theorem ObAt.give {c:Cx}{G G':Nat->Prop}{w:World}{β:Nat->Value}{v:Value}{ob:Ob} (hs:∀ b,G b->G' b) (hng:∀ b,blk v=some b->¬ G' b) (h:ObAt c G w β v ob):ObAt c G' w β v ob:=by
 have hk:Keep G G' w w:=⟨hs,fun _ _=>rfl⟩
 cases ob with
 | box t xs =>
  obtain⟨b,e,cur,q1,q2,q3,q4,q5,q6⟩:=h;exact⟨b,e,cur,q1,q2,hng b (by rw[q1]; rfl),q4,q5.keep hk,q6⟩
 | row e sz rows =>
  obtain⟨q1,q2,q3⟩:=h;refine⟨q1,q2,q3.imp id ?_⟩
  rintro⟨b,cap,cur,g1,g2,g3,g4,g5,g6,g7⟩
  exact⟨b,cap,cur,g1,g2,g3,g4,hng b (by rw[g1]; rfl),g6,fun i s hi=>let ⟨u,hu,hr'⟩:=g7 i s hi; ⟨u,hu,hr'.keep hk⟩⟩
 | arow e sz rows =>
  obtain⟨q1,q2,q3⟩:=h;refine⟨q1,q2,q3.imp id ?_⟩
  rintro⟨b,cap,cur,g1,g2,g3,g4,g5,g6,g7⟩
  exact⟨b,cap,cur,g1,g2,g3,g4,hng b (by rw[g1]; rfl),g6,fun i x hi=>let ⟨u,hu,hr',h1⟩:=g7 i x hi; ⟨u,hu,hr'.keep hk,h1⟩⟩
 | any τ xs =>
  obtain⟨b,o,vs,q1,q2,q3,q4,q5,q6⟩:=h;exact⟨b,o,vs,q1,q2,hng b q1,q4,q5.keep hk,q6⟩
theorem RdV.lt {hp:Nat->Option Ob}{x y:AV} (h:RdV hp x y) (n:Nat):y.lt n=true:=by
 unfold RdV at h;split at h
 ·rfl
 ·rename_i xs ys
  simp only[AV.lt]
  refine zMP fun q y hq=>?_
  have hil:q<xs.length :=(by rw[h.1]; exact(List.getElem?_eq_some_iff.1 hq).1);obtain⟨s,rfl,_⟩:=h.2 q _ y (List.getElem?_eq_getElem hil) hq
  rfl
 ·rfl
 ·exact h.elim
def RdK (hp:Nat->Option Ob) (env:Nat->AV):List (Nat×AV)->Prop
 | []=>True
 | (t,y)::r=>(y=env t∨RdV hp (env t) y)/\RdK hp env r
theorem RdK.lt {hp:Nat->Option Ob}{env:Nat->AV}{n:Nat} (he:∀ t,(env t).lt n=true):∀ {l:List (Nat×AV)},RdK hp env l->∀ t,(ofL l t).lt n=true
 | [],_,t=>rfl
 | (u,y)::r,h,t=>by
  simp only[ofL]
  cases Nat.beq t u with
  | true =>
   rcases h.1 with h1 | h1
   ·rw[h1]; exact he u
   ·exact h1.lt n
  | false=>exact RdK.lt he h.2 t
theorem Le.givePart {c:Cx}{σ:St} (l:List (Nat×AV)) (hpD hpK:Nat->Option Ob) (hD:∀ k ob,hpD k=some ob->σ.hp k=some ob) (hK:∀ k ob,hpK k=some ob->σ.hp k=some ob) (dis:∀ k ob ob',hpD k=some ob->hpK k=some ob'->False)
  (h:RdK hpD σ.env l):Le c σ ⟨ofL l,hpK,σ.nx⟩:=by
 unfold Le;intro G β a w hc;have hk:Keep G (allG G β hpD) w w:=⟨fun _ h=>.inl h,fun _ _=>rfl⟩
 have hcD:Conc c G β ⟨σ.env,hpD,σ.nx⟩ a w:={ hc with hp:=fun k ob hk=>hc.hp k ob (hD k ob hk),hplt:=fun k ob hk=>hc.hplt k ob (hD k ob hk),inj:=fun k k' ob ob' hk hk'=>hc.inj k k' ob ob' (hD k ob hk) (hD k' ob' hk') }
 refine⟨allG G β hpD,β,{ defers:=hc.defers,size:=hc.size,env:=?_,envlt:=RdK.lt hc.envlt h,hp:=fun k ob hk'=>?_,hplt:=fun k ob hk=>hc.hplt k ob (hK k ob hk),inj:=fun k k' ob ob' hk hk'=>hc.inj k k' ob ob' (hK k ob hk) (hK k' ob' hk'),lt:=fun b hb=>?_,sub:=fun b hb=>.inl (hc.sub b hb),new:=fun b hb=>?_,fr:=hc.fr,stay:=hc.stay,glob:=hc.glob.keep hk }⟩
 ·intro t;show AVal (allG G β hpD) w β (ofL l t) (a.tmps.getD t undef)
  induction l with
  | nil=>simp only[ofL,AVal]
  | cons p r ih =>
   obtain⟨u,y⟩:=p;simp only[ofL]
   cases e:Nat.beq t u with
   | true =>
    obtain rfl:=Nat.eq_of_beq_eq_true e;rcases h.1 with h1 | h1
    ·rw[h1]; exact(hc.env t).keep hk
    ·exact h1.aval hcD (hc.env t)
   | false=>exact ih h.2
 ·refine(hc.hp k ob (hK k ob hk')).give (fun b h=>.inl h) fun b hb hg=>?_
  rcases hg with hg | ⟨k',ob',h1,h2⟩
  ·exact(row_block (hc.hp k ob (hK k ob hk')) b hb).1 hg
  ·by_cases e:k=k'
   ·subst e; exact dis k ob' ob h1 hk'
   ·exact hc.inj k k' ob ob' (hK k ob hk') (hD k' ob' h1) e b hb h2
 ·rcases hb with hb | ⟨k,ob,h1,h2⟩
  ·exact hc.lt b hb
  ·exact hc.blk_lt (hD k ob h1) h2
 ·rcases hb with hb | ⟨k,ob,h1,h2⟩
  ·exact hc.new b hb
  ·exact .inr (row_block (hc.hp k ob (hD k ob h1)) b h2).2
end Go.Abs
namespace Go.Proofs.YtbfnjnljboncgaaGreatDoor
open Go.Abs
def zBd (k:Int) (t:List UInt8) (c:Int) (v:AV):List AV:=[.s (.int .i64 k),.s (.str t),.s (.int .i64 c),v]
mutual
def At (hp:Nat->Option Ob) (e:Nat) (p:AV):Nd->List Nat->List AV->Nat->Prop
 | .mk k t c ks,keys,pd,w=>∃ v,zAO hp p=some (zBd k t c v) /\
   ((v = .s (.sl 4 (Nd.encs ks))/\keys=[]/\pd=[p]/\w=Nd.cnts ks+1)∨(ks=[]/\v = .s (.sl 4 [])/\keys=[]/\pd=[]/\w=0) ∨
    ∃ q rows keys',v = .orow q/\hp q=some (.arow e 4 rows)/\rows.length=ks.length/\keys=q::keys'/\LAt hp e q 0 ks keys' pd w)
def LAt (hp:Nat->Option Ob) (e q i:Nat):List Nd->List Nat->List AV->Nat->Prop
 | [],keys,pd,w=>keys=[]/\pd=[]/\w=0
 | t::ts,keys,pd,w=>∃ k1 k2 p1 p2 w1 w2,keys=k1++k2/\pd=p1++p2/\w=w1+w2/\At hp e (.rp q 4 i 0) t k1 p1 w1/\LAt hp e q (i+1) ts k2 p2 w2
end
mutual
theorem At.len {hp:Nat->Option Ob}{e:Nat}{p:AV}:∀ {t:Nd}{keys:List Nat}{pd:List AV}{w:Nat},At hp e p t keys pd w->pd.length<=w/\w<=t.cnt
 | .mk k t c ks,keys,pd,w,h=>by
  simp only[At]at h
  obtain⟨v,_,⟨_,_,rfl,rfl⟩ | ⟨_,_,_,rfl,rfl⟩ | ⟨q,rows,keys',_,_,_,_,h⟩⟩:=h
  ·simp[Nd.cnt]
  ·simp
  ·have:=LAt.len h
   simp only[Nd.cnt]; omega
theorem LAt.len {hp:Nat->Option Ob}{e q i:Nat}:∀ {ts:List Nd}{keys:List Nat}{pd:List AV}{w:Nat},LAt hp e q i ts keys pd w->pd.length<=w/\w<=Nd.cnts ts
 | [],keys,pd,w,h=>by
  simp only[LAt]at h
  obtain⟨_,rfl,rfl⟩:=h
  simp
 | t::ts,keys,pd,w,h=>by
  simp only[LAt]at h
  obtain⟨k1,k2,p1,p2,w1,w2,_,rfl,rfl,h1,h2⟩:=h
  have:=At.len h1
  have:=LAt.len h2
  simp only[Nd.cnts,List.length_append]; omega
end
structure Sim (hp hp':Nat->Option Ob) (e:Nat) (D:Nat->Prop) (p0:AV):Prop where
 row:∀ q rows,D q->hp q=some (.arow e 4 rows)->∃ rows',hp' q=some (.arow e 4 rows')/\rows'.length=rows.length
 cell:∀ p,D (zBr p)->p ≠ p0->isL 4 p->zAO hp' p=zAO hp p
theorem Sim.sub {hp hp':Nat->Option Ob}{e:Nat}{D D':Nat->Prop}{p0:AV} (h:Sim hp hp' e D p0) (hd:∀ q,D' q->D q):Sim hp hp' e D' p0 :=
 ⟨fun q rows hq=>h.row q rows (hd q hq),fun p hp=>h.cell p (hd _ hp)⟩
mutual
theorem At.sameQ {hp hp':Nat->Option Ob}{e:Nat}{p p0:AV}:∀ {t:Nd}{keys:List Nat}{pd:List AV}{w:Nat},At hp e p t keys pd w->isL 4 p->Sim hp hp' e (fun k=>k=zBr p∨k∈keys) p0->p ≠ p0->(∀ q j,q∈keys->AV.rp q 4 j 0 ≠ p0)->At hp' e p t keys pd w
 | .mk k t c ks,keys,pd,w,h,hl,hs,hne,hb=>by
  simp only[At]at h ⊢
  obtain⟨v,hc,h⟩:=h
  refine⟨v,by rw[hs.cell p (.inl rfl) hne hl,hc],?_⟩
  rcases h with h | h | ⟨q,rows,keys',h1,h2,h3,rfl,h5⟩
  ·exact .inl h
  ·exact .inr (.inl h)
  ·obtain⟨rows',h6,h7⟩:=hs.row q rows (.inr List.mem_cons_self) h2
   exact .inr (.inr ⟨q,rows',keys',h1,h6,h7.trans h3,rfl,LAt.sameQ h5 (hs.sub fun k hk=>.inr (List.mem_cons.2 hk)) (fun j _=>hb q j List.mem_cons_self) (fun q' j hm=>hb q' j (List.mem_cons_of_mem _ hm))⟩)
theorem LAt.sameQ {hp hp':Nat->Option Ob}{e q i:Nat}{p0:AV}:∀ {ts:List Nd}{keys:List Nat}{pd:List AV}{w:Nat},LAt hp e q i ts keys pd w->Sim hp hp' e (fun k=>k=q∨k∈keys) p0->(∀ j,i<=j->AV.rp q 4 j 0 ≠ p0)->(∀ q' j,q'∈keys->AV.rp q' 4 j 0 ≠ p0)->LAt hp' e q i ts keys pd w
 | [],_,_,_,h,_,_,_=>h
 | t::ts,keys,pd,w,h,hs,hne,hb=>by
  simp only[LAt]at h ⊢
  obtain⟨k1,k2,p1,p2,w1,w2,rfl,rfl,rfl,h1,h2⟩:=h
  exact⟨k1,k2,p1,p2,w1,w2,rfl,rfl,rfl,
   At.sameQ h1 (.inl ⟨q,i,rfl⟩) (hs.sub fun k hk=>hk.imp id (List.mem_append_left _)) (hne i (Nat.le_refl _)) (fun q' j hm=>hb q' j (List.mem_append_left _ hm)),
   LAt.sameQ h2 (hs.sub fun k hk=>hk.imp id (List.mem_append_right _)) (fun j hj=>hne j (by omega)) (fun q' j hm=>hb q' j (List.mem_append_right _ hm))⟩
end
theorem At.same {hp hp':Nat->Option Ob}{e:Nat}{p p0:AV}{t:Nd}{keys:List Nat}{pd:List AV}{w:Nat} (h:At hp e p t keys pd w) (hl:isL 4 p) (hs:Sim hp hp' e (fun k=>k=zBr p∨k∈keys) p0) (hne:p ≠ p0) (hb:zBr p0 ∉ keys):At hp' e p t keys pd w :=
 h.sameQ hl hs hne fun q j hm e=>hb (by rw[← e]; exact hm)
theorem LAt.same {hp hp':Nat->Option Ob}{e q i:Nat}{p0:AV}{ts:List Nd}{keys:List Nat}{pd:List AV}{w:Nat} (h:LAt hp e q i ts keys pd w) (hs:Sim hp hp' e (fun k=>k=q∨k∈keys) p0) (hne:∀ j,i<=j->AV.rp q 4 j 0 ≠ p0) (hb:zBr p0 ∉ keys):LAt hp' e q i ts keys pd w :=
 h.sameQ hs hne fun q j hm e=>hb (by rw[← e]; exact hm)
theorem Sim.same {hp hp':Nat->Option Ob}{e:Nat}{D:Nat->Prop}{p0:AV} (h:∀ k,D k->hp' k=hp k):Sim hp hp' e D p0 :=
 ⟨fun q rows hq hr=>⟨rows,(h q hq).trans hr,rfl⟩,fun p hp _ hl=>zCl hl (h _ hp)⟩
theorem At.frame {hp hp':Nat->Option Ob}{e:Nat}{p:AV}{t:Nd}{keys:List Nat}{pd:List AV}{w:Nat} (h:At hp e p t keys pd w) (hl:isL 4 p) (hs:∀ k,k=zBr p∨k∈keys->hp' k=hp k):At hp' e p t keys pd w :=
 h.sameQ hl (Sim.same (p0:=.junk) hs) (fun e=>by rcases hl with ⟨_,_,rfl⟩ | ⟨_,rfl⟩ <;> cases e) (fun q j _ e=>by cases e)
mutual
theorem At.base {hp:Nat->Option Ob}{e:Nat}{p p0:AV}:∀ {t:Nd}{keys:List Nat}{pd:List AV}{w:Nat},At hp e p t keys pd w->p0∈pd->p0=p∨zBr p0∈keys
 | .mk k t c ks,keys,pd,w,h,hm=>by
  simp only[At]at h
  obtain⟨v,_,⟨_,_,rfl,_⟩ | ⟨_,_,_,rfl,_⟩ | ⟨q,rows,keys',_,_,_,rfl,h⟩⟩:=h
  ·exact .inl (List.mem_singleton.1 hm)
  ·cases hm
  ·rcases LAt.base h hm with ⟨j,_,rfl⟩ | h
   ·exact .inr List.mem_cons_self
   ·exact .inr (List.mem_cons_of_mem _ h)
theorem LAt.base {hp:Nat->Option Ob}{e q i:Nat}{p0:AV}:∀ {ts:List Nd}{keys:List Nat}{pd:List AV}{w:Nat},LAt hp e q i ts keys pd w->p0∈pd->(∃ j,i<=j/\p0 = .rp q 4 j 0)∨zBr p0∈keys
 | [],keys,pd,w,h,hm=>by
  simp only[LAt]at h
  obtain⟨_,rfl,_⟩:=h
  cases hm
 | t::ts,keys,pd,w,h,hm=>by
  simp only[LAt]at h
  obtain⟨k1,k2,p1,p2,w1,w2,rfl,rfl,rfl,h1,h2⟩:=h
  rcases List.mem_append.1 hm with hm | hm
  ·rcases At.base h1 hm with rfl | hm
   ·exact .inl ⟨i,Nat.le_refl _,rfl⟩
   ·exact .inr (List.mem_append_left _ hm)
  ·rcases LAt.base h2 hm with ⟨j,hj,hm⟩ | hm
   ·exact .inl ⟨j,by omega,hm⟩
   ·exact .inr (List.mem_append_right _ hm)
end
mutual
theorem At.loc {hp:Nat->Option Ob}{e:Nat}{p p0:AV}:∀ {t:Nd}{keys:List Nat}{pd:List AV}{w:Nat},At hp e p t keys pd w->isL 4 p->p0∈pd->isL 4 p0
 | .mk k t c ks,keys,pd,w,h,hl,hm=>by
  simp only[At]at h
  obtain⟨v,_,⟨_,_,rfl,_⟩ | ⟨_,_,_,rfl,_⟩ | ⟨q,rows,keys',_,_,_,rfl,h⟩⟩:=h
  ·rw[List.mem_singleton.1 hm]; exact hl
  ·cases hm
  ·exact LAt.loc h hm
theorem LAt.loc {hp:Nat->Option Ob}{e q i:Nat}{p0:AV}:∀ {ts:List Nd}{keys:List Nat}{pd:List AV}{w:Nat},LAt hp e q i ts keys pd w->p0∈pd->isL 4 p0
 | [],keys,pd,w,h,hm=>by
  simp only[LAt]at h
  obtain⟨_,rfl,_⟩:=h
  cases hm
 | t::ts,keys,pd,w,h,hm=>by
  simp only[LAt]at h
  obtain⟨k1,k2,p1,p2,w1,w2,rfl,rfl,rfl,h1,h2⟩:=h
  rcases List.mem_append.1 hm with hm | hm
  ·exact At.loc h1 (.inl ⟨q,i,rfl⟩) hm
  ·exact LAt.loc h2 hm
end
theorem zW2 {α:Type}{a b S:List α}{x:α} (h:a++b=S++[x]):(b=[]/\a=S++[x])∨∃ S2,b=S2++[x]/\S=a++S2:=by
 rcases List.eq_nil_or_concat b with rfl | ⟨b',y,rfl⟩
 ·exact .inl ⟨rfl,by simpa using h⟩
 ·rw[List.concat_eq_append,← List.append_assoc]at h;have:=List.append_inj' h rfl;obtain⟨h1,h2⟩:=this;cases h2;exact .inr ⟨b',List.concat_eq_append,h1.symm⟩
def Repl (hp:Nat->Option Ob) (e:Nat) (p0:AV) (S:List AV) (w:Nat) (D:Nat->Prop) (keys:List Nat) (P:(Nat->Option Ob)->List Nat->List AV->Nat->Prop):Prop :=
 ∃ t0 w0,At hp e p0 t0 [] [p0] t0.cnt/\w=w0+t0.cnt/\∀ hp' new ch w',Sim hp hp' e D p0->At hp' e p0 t0 new ch w'->∃ keys2,keys2.Perm (keys++new)/\P hp' keys2 (S++ch) (w0+w')
theorem zXE {a b n:List Nat}{k2:List Nat} (h:k2.Perm (a++n)):(k2++b).Perm (a++b++n) :=
 (h.append_right b).trans (by rw[List.append_assoc,List.append_assoc]; exact(List.perm_append_comm).append_left a)
mutual
theorem At.repl {hp:Nat->Option Ob}{e:Nat}{p p0:AV}{S:List AV}:∀ {t:Nd}{keys:List Nat}{w:Nat},At hp e p t keys (S++[p0]) w->isL 4 p->(zBr p::keys).Nodup ->
  Repl hp e p0 S w (fun k=>k=zBr p∨k∈keys) keys fun hp' keys2 pd w=>At hp' e p t keys2 pd w
 | .mk k t c ks,keys,w,h,hl,hn=>by
  have h0:=h
  simp only[At]at h
  obtain⟨v,hc,⟨rfl,rfl,h2,rfl⟩ | ⟨_,_,_,h2,_⟩ | ⟨q,rows,keys',rfl,hq,hlen,rfl,h⟩⟩:=h
  ·cases S with
   | cons x S=>cases S <;> simp at h2
   | nil =>
    obtain rfl:p0=p:=by simpa using h2
    refine⟨.mk k t c ks,0,h0,by simp[Nd.cnt],fun hp' new ch w' _ ha=>⟨new,by simp,by simpa using ha⟩⟩
  ·simp at h2
  ·have hn2:=List.nodup_cons.1 hn
   have hb:zBr p0∈q::keys':=by
    rcases LAt.base h (p0:=p0) (by simp) with ⟨j,_,rfl⟩ | h
    ·exact List.mem_cons_self
    ·exact List.mem_cons_of_mem _ h
   have hne:p ≠ p0:=fun e=>hn2.1 (by rw[e]; exact hb)
   obtain⟨t0,w0,r1,r2,r3⟩:=LAt.repl h hn2.2
   refine⟨t0,w0,r1,r2,fun hp' new ch w' hs ha=>?_⟩
   obtain⟨rows',h6,h7⟩:=hs.row q rows (.inr List.mem_cons_self) hq
   obtain⟨keys2,hp2,hl2⟩:=r3 hp' new ch w' (hs.sub fun k hk=>.inr (List.mem_cons.2 hk)) ha
   refine⟨q::keys2,by simpa using hp2,?_⟩
   simp only[At]
   exact⟨.orow q,by rw[hs.cell p (.inl rfl) hne hl,hc],.inr (.inr ⟨q,rows',keys2,rfl,h6,h7.trans hlen,rfl,hl2⟩)⟩
theorem LAt.repl {hp:Nat->Option Ob}{e q i:Nat}{p0:AV}{S:List AV}:∀ {ts:List Nd}{keys:List Nat}{w:Nat},LAt hp e q i ts keys (S++[p0]) w->(q::keys).Nodup ->
  Repl hp e p0 S w (fun k=>k=q∨k∈keys) keys fun hp' keys2 pd w=>LAt hp' e q i ts keys2 pd w
 | [],keys,w,h,hn=>by
  simp only[LAt]at h
  simp at h
 | t::ts,keys,w,h,hn=>by
  simp only[LAt]at h
  obtain⟨k1,k2,p1,p2,w1,w2,rfl,hpd,rfl,h1,h2⟩:=h
  obtain⟨hq,hn2⟩:=List.nodup_cons.1 hn
  obtain⟨n1,n2,n12⟩:=List.nodup_append.1 hn2
  have hq1:q ∉ k1:=fun h=>hq (List.mem_append_left _ h)
  have hq2:q ∉ k2:=fun h=>hq (List.mem_append_right _ h)
  rcases zW2 hpd.symm with ⟨rfl,rfl⟩ | ⟨S2,rfl,rfl⟩
  ·have hb:=At.base h1 (p0:=p0) (by simp)
   obtain⟨t0,w0,r1,r2,r3⟩:=At.repl h1 (.inl ⟨q,i,rfl⟩) (List.nodup_cons.2 ⟨hq1,n1⟩)
   refine⟨t0,w0+w2,r1,by omega,fun hp' new ch w' hs ha=>?_⟩
   obtain⟨keys2,hp2,hl2⟩:=r3 hp' new ch w' (hs.sub fun k hk=>hk.imp id (List.mem_append_left _)) ha
   refine⟨keys2++k2,zXE hp2,?_⟩
   simp only[LAt]
   refine⟨keys2,k2,S++ch,[],w0+w',w2,rfl,by simp,by omega,hl2,?_⟩
   refine LAt.same h2 (hs.sub fun k hk=>hk.imp id (List.mem_append_right _)) (fun j hj e=>?_) (fun hm=>?_)
   ·rcases hb with rfl | hb
    ·cases e; omega
    ·rw[← e]at hb; exact hq1 hb
   ·rcases hb with rfl | hb
    ·exact hq2 hm
    ·exact n12 _ hb _ hm rfl
  ·have hb:=LAt.base h2 (p0:=p0) (by simp)
   obtain⟨t0,w0,r1,r2,r3⟩:=LAt.repl h2 (List.nodup_cons.2 ⟨hq2,n2⟩)
   refine⟨t0,w1+w0,r1,by omega,fun hp' new ch w' hs ha=>?_⟩
   obtain⟨keys2,hp2,hl2⟩:=r3 hp' new ch w' (hs.sub fun k hk=>hk.imp id (List.mem_append_right _)) ha
   refine⟨k1++keys2,by rw[List.append_assoc]; exact hp2.append_left k1,?_⟩
   simp only[LAt]
   refine⟨k1,keys2,p1,S2++ch,w1,w0+w',rfl,by simp,by omega,?_,hl2⟩
   refine At.same h1 (.inl ⟨q,i,rfl⟩) (hs.sub fun k hk=>hk.imp id (List.mem_append_left _)) (fun e=>?_) (fun hm=>?_)
   ·rcases hb with ⟨j,hj,hb⟩ | hb
    ·rw[hb]at e; cases e; omega
    ·rw[← e]at hb; exact hq2 hb
   ·rcases hb with ⟨j,hj,rfl⟩ | hb
    ·exact hq1 hm
    ·exact n12 _ hm _ hb rfl
end
theorem Sim.put {hp hp':Nat->Option Ob}{e:Nat}{D:Nat->Prop}{p0:AV}{c cs:List AV} (hl:isL 4 p0) (hc:zAO hp p0=some cs) (h:∀ k,D k->hp' k=putC hp p0 c k):Sim hp hp' e D p0 :=
 ⟨fun q rows hq hr=>by rw[h q hq]; exact zXG hl hc hr,fun p hp hne hl'=>(zCl hl' (h _ hp)).trans (zWc hl hc hl' hne)⟩
def locs (q i n:Nat):List AV:=(List.range' i n).map fun j=>.rp q 4 j 0
theorem LAt.fresh {hp:Nat->Option Ob}{e q:Nat}:∀ {ts:List Nd}{i:Nat},(∀ j x,ts[j]? = some x->zAO hp (.rp q 4 (i+j) 0)=some (x.enc.map AV.s))->LAt hp e q i ts [] (locs q i ts.length) (Nd.cnts ts)
 | [],i,_=>by simp[LAt,locs,Nd.cnts]
 | .mk k t c ks::ts,i,h=>by
  simp only[LAt]
  refine⟨[],[],[.rp q 4 i 0],locs q (i+1) ts.length,Nd.cnts ks+1,Nd.cnts ts,rfl,by simp[locs,List.range'_succ],by simp[Nd.cnts,Nd.cnt],?_,LAt.fresh fun j x hj=>?_⟩
  ·simp only[At]
   exact⟨.s (.sl 4 (Nd.encs ks)),h 0 (.mk k t c ks) rfl,.inl (by simp)⟩
  ·rw[show i+1+j=i+(j+1) by omega]; exact h (j+1) x (by simpa using hj)
theorem LAt.copied {hp:Nat->Option Ob}{e q:Nat}{ts:List Nd} (h:hp q=some (.arow e 4 ((Nd.encs ts).map (·.map AV.s)))):LAt hp e q 0 ts [] (locs q 0 ts.length) (Nd.cnts ts) :=
 LAt.fresh fun j x hj=>by
  rw[zFf h,Nat.zero_add,Nd.encs_eq,List.map_map,List.getElem?_map,hj]; rfl
theorem zSR {hp:Nat->Option Ob}:∀ {rows:List (List AV)}{rs:List (List S)},(∀ (j:Nat) r s,rows[j]? = some r->rs[j]? = some s->r.length=s.length/\∀ (i:Nat) x y,r[i]? = some x->s[i]? = some y->Rd hp x y)->∀ (i:Nat) x y,rows.flatten[i]? = some x->rs.flatten[i]? = some y->Rd hp x y
 | [],_,_,_,_,_,h,_=>by simp at h
 | _::_,[],_,_,_,_,_,h=>by simp at h
 | r::rows,s::rs,h,i,x,y,hx,hy=>by
  obtain⟨hl,h0⟩:=h 0 r s (by simp) (by simp)
  rw[List.flatten_cons,List.getElem?_append]at hx hy
  by_cases hi:i<r.length
  ·rw[if_pos hi]at hx;rw[if_pos (hl ▸ hi)]at hy;exact h0 i x y hx hy
  ·rw[if_neg hi]at hx;rw[if_neg (hl ▸ hi),← hl]at hy;exact zSR (fun j r s hr hs=>h (j+1) r s (by simpa using hr) (by simpa using hs)) _ x y hx hy
def RdC (hp:Nat->Option Ob) (cs:List AV) (ss:List S):Prop:=cs.length=ss.length/\∀ (i:Nat) x y,cs[i]? = some x->ss[i]? = some y->Rd hp x y
theorem RdC.node {hp:Nat->Option Ob}{k:Int}{t:List UInt8}{c:Int}{ks:List Nd}{v:AV} (h:Rd hp v (.sl 4 (Nd.encs ks))):RdC hp (zBd k t c v) (Nd.enc (.mk k t c ks)) :=
 ⟨rfl,fun i x y hx hy=>by
  match i with
  | 0=>cases hx; cases hy; exact .s _
  | 1=>cases hx; cases hy; exact .s _
  | 2=>cases hx; cases hy; exact .s _
  | 3=>cases hx; cases hy; exact h
  | i+4=>simp[zBd]at hx⟩
theorem Rd.rows {hp:Nat->Option Ob}{q e:Nat}{rows:List (List AV)}{ks:List Nd} (hq:hp q=some (.arow e 4 rows)) (hl:rows.length=ks.length) (h:∀ j x,ks[j]? = some x->∃ cs,zAO hp (.rp q 4 j 0)=some cs/\RdC hp cs x.enc):Rd hp (.orow q) (.sl 4 (Nd.encs ks)):=by
 rw[Nd.encs_eq]
 refine .arow hq (by simpa using hl) (fun r hr=>?_) (zSR fun j r s hr hs=>?_)
 ·obtain⟨x,_,rfl⟩:=List.mem_map.1 hr;cases x; rfl
 ·rw[List.getElem?_map]at hs;cases hx:ks[j]? with
  | none=>rw[hx]at hs; cases hs
  | some x =>
   rw[hx]at hs; cases hs
   obtain⟨cs,h1,h2⟩:=h j x hx;rw[zFf hq,hr]at h1;cases h1;exact h2
mutual
theorem At.rd {hp:Nat->Option Ob}{e:Nat}{p:AV}:∀ {t:Nd}{keys:List Nat}{pd:List AV}{w:Nat},At hp e p t keys pd w->∃ cs,zAO hp p=some cs/\RdC hp cs t.enc
 | .mk k t c ks,keys,pd,w,h=>by
  simp only[At]at h
  obtain⟨v,hc,⟨rfl,_⟩ | ⟨rfl,rfl,_⟩ | ⟨q,rows,keys',rfl,hq,hlen,rfl,h⟩⟩:=h
  ·exact⟨_,hc,.node (.s _)⟩
  ·exact⟨_,hc,.node (.s _)⟩
  ·exact⟨_,hc,.node (Rd.rows hq hlen fun j x hj=>(by have:=LAt.rd h j x hj; rwa [Nat.zero_add]at this))⟩
theorem LAt.rd {hp:Nat->Option Ob}{e q i:Nat}:∀ {ts:List Nd}{keys:List Nat}{pd:List AV}{w:Nat},LAt hp e q i ts keys pd w->∀ j x,ts[j]? = some x->∃ cs,zAO hp (.rp q 4 (i+j) 0)=some cs/\RdC hp cs x.enc
 | [],keys,pd,w,h,j,x,hj=>by simp at hj
 | t::ts,keys,pd,w,h,0,x,hj=>by
  simp only[LAt]at h
  obtain⟨k1,k2,p1,p2,w1,w2,rfl,rfl,rfl,h1,h2⟩:=h
  cases hj
  exact At.rd h1
 | t::ts,keys,pd,w,h,j+1,x,hj=>by
  simp only[LAt]at h
  obtain⟨k1,k2,p1,p2,w1,w2,rfl,rfl,rfl,h1,h2⟩:=h
  rw[show i+(j+1)=i+1+j by omega]
  exact LAt.rd h2 j x (by simpa using hj)
end
theorem zXM {hp:Nat->Option Ob}{cs:List AV}{t:Nd} (h:RdC hp cs t.enc):RdV hp (.agg cs) (.agg (t.enc.map AV.s)):=by
 refine⟨by simpa using h.1,fun i x y hx hy=>?_⟩
 rw[List.getElem?_map]at hy;cases hs:t.enc[i]? with
 | none=>rw[hs]at hy; cases hy
 | some s=>rw[hs]at hy; cases hy; exact⟨s,rfl,h.2 i x s hx hs⟩
def Hole (hp:Nat->Option Ob) (e:Nat) (p:AV) (keys:List Nat) (p1:AV) (y:Nd) (F:Nd->Nd):Prop :=
 ∃ keys0 rest w0,keys.Perm (keys0++rest)/\At hp e p1 y keys0 [] w0/\isL 4 p1/\(p1=p∨zBr p1∈rest) /\
  ∀ hp' t1 new w1,Sim hp hp' e (fun k=>k=zBr p∨k∈rest) p1->At hp' e p1 t1 new [] w1->∃ keys2 w2,keys2.Perm (rest++new)/\At hp' e p (F t1) keys2 [] w2
theorem Hole.refl {hp:Nat->Option Ob}{e w:Nat}{p:AV}{t:Nd}{keys:List Nat} (h:At hp e p t keys [] w) (hl:isL 4 p):Hole hp e p keys p t id :=
 ⟨keys,[],w,by simp,h,hl,.inl rfl,fun hp' t1 new w1 _ h1=>⟨new,w1,by simp,h1⟩⟩
theorem LAt.hole {hp:Nat->Option Ob}{e q:Nat}{x:Nd}:∀ {ts:List Nd}{keys:List Nat}{w i j:Nat},LAt hp e q i ts keys [] w->(q::keys).Nodup->ts[j]? = some x ->
  ∃ keys0 rest w0,keys.Perm (keys0++rest)/\At hp e (.rp q 4 (i+j) 0) x keys0 [] w0/\∀ hp' t1 new w1,Sim hp hp' e (fun k=>k=q∨k∈rest) (.rp q 4 (i+j) 0)->At hp' e (.rp q 4 (i+j) 0) t1 new [] w1 ->
   ∃ keys2 w2,keys2.Perm (rest++new)/\LAt hp' e q i (ts.set j t1) keys2 [] w2
 | [],keys,w,i,j,h,hn,hx=>by simp at hx
 | t::ts,keys,w,i,0,h,hn,hx=>by
  simp only[LAt]at h;obtain⟨k1,k2,p1,p2,w1,w2,rfl,hpd,rfl,h1,h2⟩:=h;obtain⟨rfl,rfl⟩:=List.append_eq_nil_iff.1 hpd.symm;cases hx;have hq:=(List.nodup_cons.1 hn).1;refine⟨k1,k2,w1,List.Perm.refl _,h1,fun hp' t1 new w3 hs h3=>⟨new++k2,w3+w2,List.perm_append_comm,?_⟩⟩
  simp only[List.set_cons_zero,LAt]
  exact⟨new,k2,[],[],w3,w2,rfl,rfl,rfl,h3,LAt.same h2 hs (fun j hj e=>by cases e; omega) (fun hm=>hq (List.mem_append_right _ hm))⟩
 | t::ts,keys,w,i,j+1,h,hn,hx=>by
  simp only[LAt]at h;obtain⟨k1,k2,p1,p2,w1,w2,rfl,hpd,rfl,h1,h2⟩:=h;obtain⟨rfl,rfl⟩:=List.append_eq_nil_iff.1 hpd.symm;obtain⟨hq,hn2⟩:=List.nodup_cons.1 hn;obtain⟨n1,n2,_⟩:=List.nodup_append.1 hn2;obtain⟨keys0,rest,w0,r1,r2,r3⟩:=LAt.hole (i:=i+1) (j:=j) h2 (List.nodup_cons.2 ⟨fun hm=>hq (List.mem_append_right _ hm),n2⟩) (by simpa using hx)
  rw[show i+1+j=i+(j+1) by omega]at r2 r3;refine⟨keys0,k1++rest,w0,List.perm_iff_count.2 fun a=>?_,r2,fun hp' t1 new w3 hs h3=>?_⟩
  ·have:=r1.count_eq a;simp only[List.count_append]at this ⊢
   omega
  ·obtain⟨keys2,w4,q1,q2⟩:=r3 hp' t1 new w3 (hs.sub fun k hk=>hk.imp id (List.mem_append_right _)) h3;refine⟨k1++keys2,w1+w4,by rw[List.append_assoc]; exact q1.append_left k1,?_⟩
   simp only[List.set_cons_succ,LAt]
   exact⟨k1,keys2,[],[],w1,w4,rfl,rfl,rfl,At.same h1 (.inl ⟨q,i,rfl⟩) (hs.sub fun k hk=>hk.imp id (List.mem_append_left _)) (fun e=>by injection e with e1 e2 e3 e4; omega) (fun hm=>hq (List.mem_append_left _ hm)),q2⟩
theorem Hole.kid {hp:Nat->Option Ob}{e w i:Nat}{p:AV}{k c:Int}{tx:List UInt8}{ks:List Nd}{x:Nd}{keys:List Nat} (h:At hp e p (.mk k tx c ks) keys [] w) (hl:isL 4 p) (hn:(zBr p::keys).Nodup) (hx:ks[i]? = some x) :
  ∃ q rows,zAO hp p=some (zBd k tx c (.orow q))/\hp q=some (.arow e 4 rows)/\rows.length=ks.length/\Hole hp e p keys (.rp q 4 i 0) x (fun x'=>.mk k tx c (ks.set i x')):=by
 simp only[At]at h;obtain⟨v,hc,⟨_,_,h,_⟩ | ⟨rfl,_⟩ | ⟨q,rows,keys',rfl,hq,hlen,rfl,h⟩⟩:=h
 ·cases h
 ·simp at hx
 ·obtain⟨hb,hn2⟩:=List.nodup_cons.1 hn;obtain⟨keys0,rest,w0,r1,r2,r3⟩:=LAt.hole h hn2 hx;rw[Nat.zero_add]at r2 r3;refine⟨q,rows,hc,hq,hlen,keys0,q::rest,w0,List.perm_iff_count.2 fun a=>?_,r2,.inl ⟨q,i,rfl⟩,.inr List.mem_cons_self,fun hp' t1 new w1 hs h1=>?_⟩
  ·have:=r1.count_eq a;simp only[List.count_append,List.count_cons]at this ⊢
   omega
  ·obtain⟨rows',g1,g2⟩:=hs.row q rows (.inr List.mem_cons_self) hq;obtain⟨keys2,w2,q1,q2⟩:=r3 hp' t1 new w1 (hs.sub fun k hk=>.inr (List.mem_cons.2 hk)) h1;refine⟨q::keys2,w2,by simpa using q1,?_⟩
   simp only[At]
   refine⟨.orow q,by rw[hs.cell p (.inl rfl) (fun e=>hb (by rw[e]; exact List.mem_cons_self)) hl,hc],.inr (.inr ⟨q,rows',keys2,rfl,g1,by rw[g2,hlen,List.length_set],rfl,q2⟩)⟩
theorem Hole.trans {hp:Nat->Option Ob}{e:Nat}{p p1 p2:AV}{y z:Nd}{keys:List Nat}{F F2:Nd->Nd} (hn:(zBr p::keys).Nodup) (h:Hole hp e p keys p1 y F) (k:∀ keys0 w0,At hp e p1 y keys0 [] w0->isL 4 p1->(zBr p1::keys0).Nodup->Hole hp e p1 keys0 p2 z F2):Hole hp e p keys p2 z (fun x=>F (F2 x)):=by
 obtain⟨keys0,rest,w0,a1,a2,a3,a4,a5⟩:=h;obtain⟨hb,hnk⟩:=List.nodup_cons.1 hn;obtain⟨n0,n1,n01⟩:=List.nodup_append.1 (a1.nodup_iff.1 hnk)
 have hb1:zBr p1 ∉ keys0:=fun hm=>by
  rcases a4 with rfl | a4
  ·exact hb (a1.mem_iff.2 (List.mem_append_left _ hm))
  ·exact n01 _ hm _ a4 rfl
 obtain⟨keys1,rest1,w1,b1,b2,b3,b4,b5⟩:=k keys0 w0 a2 a3 (List.nodup_cons.2 ⟨hb1,n0⟩)
 refine⟨keys1,rest1++rest,w1,List.perm_iff_count.2 fun a=>?_,b2,b3,?_,fun hp' t1 new w2 hs h2=>?_⟩
 ·have:=a1.count_eq a;have:=b1.count_eq a;simp only[List.count_append]at *
  omega
 ·rcases b4 with rfl | b4
  ·exact a4.imp id (List.mem_append_right _)
  ·exact .inr (List.mem_append_left _ b4)
 ·have hp1:zBr p1=zBr p∨zBr p1∈rest:=a4.imp (fun e=>by rw[e]) id;obtain⟨keysA,wA,q1,q2⟩:=b5 hp' t1 new w2 (hs.sub fun k hk=>by
   rcases hk with rfl | hk
   ·exact hp1.imp id (List.mem_append_right _)
   ·exact .inr (List.mem_append_left _ hk)) h2
  have hs1:Sim hp hp' e (fun k=>k=zBr p∨k∈rest) p1:=⟨fun q rows hq=>hs.row q rows (hq.imp id (List.mem_append_right _)),fun p' hp' hne hl'=>by
   by_cases e2:p'=p2
   ·subst e2;rcases b4 with b4 | b4
    ·exact absurd b4 hne
    ·exfalso
     have hm:zBr p'∈keys0:=b1.mem_iff.2 (List.mem_append_right _ b4)
     rcases hp' with h3 | h3
     ·exact hb (a1.mem_iff.2 (List.mem_append_left _ (by rw[← h3]; exact hm)))
     ·exact n01 _ hm _ h3 rfl
   ·exact hs.cell p' (hp'.imp id (List.mem_append_right _)) e2 hl'⟩
  obtain⟨keysB,wB,q3,q4⟩:=a5 hp' (F2 t1) keysA wA hs1 q2;refine⟨keysB,wB,List.perm_iff_count.2 fun a=>?_,q4⟩
  have:=q1.count_eq a;have:=q3.count_eq a;simp only[List.count_append]at *
  omega
theorem okY {P:Program}{t:Nat}{i:TI}{d:TypeDesc} (info:TypeInfo) (h2:P.underlying t=some d) (h1:P.info? t=some info:=by kernel_rfl) (e1:tkOf d=i.k:=by rfl) (e2:info.size=i.size:=by rfl) (e3:info.bytes=i.bytes:=by rfl){z:Value} (e4:info.zero=some z:=by rfl)
  (e5:z=(if i.k.agg then .agg (i.zero.map S.zval).toArray else (i.zero.headD .np).zval):=by rfl) (e7:i.zero.length=i.size:=by rfl) (e6:i.k.agg=false->i.size=1:=by exact fun _=>rfl) (e8:i.zero.all S.zok=true:=by rfl):okT P t i:=⟨d,info,z,h2,e1,h1,e2,e3,e4,e5,e7,e6,e8⟩
def tab:List (Nat×TI):=[
 (3,⟨.int .i64,1,8,[.int .i64 0]⟩),
 (4,⟨.bool,1,1,[.bool false]⟩),
 (9,⟨.str,1,16,[.str []]⟩),
 (22,⟨.slice 24,1,24,[.sl 4 []]⟩),
 (24,⟨.struct [(0,3),(1,9),(2,3),(3,22)],4,56,[.int .i64 0,.str [],.int .i64 0,.sl 4 []]⟩),
 (25,⟨.slice 30,1,24,[.sl 8 []]⟩),
 (28,⟨.slice 3,1,24,[.sl 1 []]⟩),
 (30,⟨.struct [(0,3),(1,28),(2,3),(3,3),(4,22),(5,3),(6,9),(7,9)],8,112,[.int .i64 0,.sl 1 [],.int .i64 0,.int .i64 0,.sl 4 [],.int .i64 0,.str [],.str []]⟩)]
def T (t:Nat):Option TI:=look? t tab
theorem yAl:∀ p∈tab,okT Tryz.prog p.1 p.2:=by
 simp only[tab,List.forall_mem_cons]
 exact⟨okY Tryz.t3 Tryz.underlying3,okY Tryz.t4 Tryz.underlying4,okY Tryz.t9 Tryz.underlying9,okY Tryz.t22 Tryz.underlying22,okY Tryz.t24 Tryz.underlying24 (e6:=fun h=>by cases h),okY Tryz.t25 Tryz.underlying25,okY Tryz.t28 Tryz.underlying28,okY Tryz.t30 Tryz.underlying30 (e6:=fun h=>by cases h),by simp⟩
theorem tok:TOk Tryz.prog T:=zYE yAl
theorem tcl:∀ t i,T t=some i->zDv T i=true:=zVg (by rfl)
def tabX:List (Nat×TI):=[
 (2,⟨.int .i64,1,8,[.int .i64 0]⟩),
 (5,⟨.int .u8,1,1,[.int .u8 0]⟩),
 (21,⟨.int .i32,1,4,[.int .i32 0]⟩),
 (32,⟨.int .i64,1,8,[.int .i64 0]⟩),
 (41,⟨.fn,1,8,[.nf]⟩),
 (42,⟨.int .u64,1,8,[.int .u64 0]⟩),
 (54,⟨.fn,1,8,[.nf]⟩),
 (56,⟨.slice 28,1,24,[.sl 1 []]⟩),
 (58,⟨.struct [(0,56),(1,56),(2,28),(3,28)],4,96,[.sl 1 [],.sl 1 [],.sl 1 [],.sl 1 []]⟩),
 (61,⟨.fn,1,8,[.nf]⟩),
 (62,⟨.fn,1,8,[.nf]⟩),
 (66,⟨.ptr 24,1,8,[.np]⟩),
 (67,⟨.ptr 241,1,8,[.np]⟩),
 (69,⟨.struct [(0,3),(1,32)],2,16,[.int .i64 0,.int .i64 0]⟩),
 (72,⟨.slice 165,1,24,[.sl 2 []]⟩),
 (73,⟨.slice 75,1,24,[.sl 4 []]⟩),
 (75,⟨.struct [(0,9),(1,72),(2,73),(3,9)],4,80,[.str [],.sl 2 [],.sl 4 [],.str []]⟩),
 (80,⟨.ptr 87,1,8,[.np]⟩),
 (81,⟨.fn,1,8,[.nf]⟩),
 (83,⟨.struct [(0,9),(1,3),(2,81)],3,32,[.str [],.int .i64 0,.nf]⟩),
 (84,⟨.arr 13 83,39,416,[.str [],.int .i64 0,.nf,.str [],.int .i64 0,.nf,.str [],.int .i64 0,.nf,.str [],.int .i64 0,.nf,.str [],.int .i64 0,.nf,.str [],.int .i64 0,.nf,.str [],.int .i64 0,.nf,.str [],.int .i64 0,.nf,.str [],.int .i64 0,.nf,.str [],.int .i64 0,.nf,.str [],.int .i64 0,.nf,.str [],.int .i64 0,.nf,.str [],.int .i64 0,.nf]⟩),
 (87,⟨.struct [(0,84),(39,3)],40,424,[.str [],.int .i64 0,.nf,.str [],.int .i64 0,.nf,.str [],.int .i64 0,.nf,.str [],.int .i64 0,.nf,.str [],.int .i64 0,.nf,.str [],.int .i64 0,.nf,.str [],.int .i64 0,.nf,.str [],.int .i64 0,.nf,.str [],.int .i64 0,.nf,.str [],.int .i64 0,.nf,.str [],.int .i64 0,.nf,.str [],.int .i64 0,.nf,.str [],.int .i64 0,.nf,.int .i64 0]⟩),
 (89,⟨.slice 66,1,24,[.sl 1 []]⟩),
 (93,⟨.struct [(0,30),(8,22)],9,136,[.int .i64 0,.sl 1 [],.int .i64 0,.int .i64 0,.sl 4 [],.int .i64 0,.str [],.str [],.sl 4 []]⟩),
 (98,⟨.slice 103,1,24,[.sl 2 []]⟩),
 (100,⟨.fn,1,8,[.nf]⟩),
 (101,⟨.fn,1,8,[.nf]⟩),
 (103,⟨.arr 2 3,2,16,[.int .i64 0,.int .i64 0]⟩),
 (108,⟨.fn,1,8,[.nf]⟩),
 (109,⟨.fn,1,8,[.nf]⟩),
 (110,⟨.slice 42,1,24,[.sl 1 []]⟩),
 (112,⟨.slice 155,1,24,[.sl 4 []]⟩),
 (115,⟨.ptr 121,1,8,[.np]⟩),
 (118,⟨.fn,1,8,[.nf]⟩),
 (119,⟨.mp 9 118,1,8,[.nm]⟩),
 (121,⟨.struct [(0,112),(1,3),(2,3),(3,28),(4,67),(5,3),(6,119),(7,3),(8,4)],9,104,[.sl 4 [],.int .i64 0,.int .i64 0,.sl 1 [],.np,.int .i64 0,.nm,.int .i64 0,.bool false]⟩),
 (125,⟨.ptr 128,1,8,[.np]⟩),
 (126,⟨.slice 5,1,24,[.sl 1 []]⟩),
 (128,⟨.struct [(0,125),(1,126)],2,32,[.np,.sl 1 []]⟩),
 (130,⟨.ptr 75,1,8,[.np]⟩),
 (139,⟨.fn,1,8,[.nf]⟩),
 (142,⟨.struct [(0,66),(1,3)],2,16,[.np,.int .i64 0]⟩),
 (143,⟨.slice 142,1,24,[.sl 2 []]⟩),
 (146,⟨.ptr 150,1,8,[.np]⟩),
 (147,⟨.arr 256 5,256,256,List.replicate 256 (.int .u8 0)⟩),
 (150,⟨.struct [(0,147),(256,9),(257,3),(258,3),(259,32)],260,296,List.replicate 256 (.int .u8 0)++[.str [],.int .i64 0,.int .i64 0,.int .i64 0]⟩),
 (151,⟨.fn,1,8,[.nf]⟩),
 (152,⟨.fn,1,8,[.nf]⟩),
 (155,⟨.struct [(0,3),(1,9),(2,3),(3,3)],4,40,[.int .i64 0,.str [],.int .i64 0,.int .i64 0]⟩),
 (159,⟨.ptr 3,1,8,[.np]⟩),
 (165,⟨.struct [(0,9),(1,9)],2,32,[.str [],.str []]⟩),
 (168,⟨.ptr 5,1,8,[.np]⟩),
 (175,⟨.ptr 177,1,8,[.np]⟩),
 (177,⟨.struct [(0,84),(39,128)],41,448,[.str [],.int .i64 0,.nf,.str [],.int .i64 0,.nf,.str [],.int .i64 0,.nf,.str [],.int .i64 0,.nf,.str [],.int .i64 0,.nf,.str [],.int .i64 0,.nf,.str [],.int .i64 0,.nf,.str [],.int .i64 0,.nf,.str [],.int .i64 0,.nf,.str [],.int .i64 0,.nf,.str [],.int .i64 0,.nf,.str [],.int .i64 0,.nf,.str [],.int .i64 0,.nf,.np,.sl 1 []]⟩),
 (180,⟨.struct [(0,66),(1,3)],2,16,[.np,.int .i64 0]⟩),
 (181,⟨.slice 180,1,24,[.sl 2 []]⟩),
 (182,⟨.ptr 180,1,8,[.np]⟩),
 (184,⟨.fn,1,8,[.nf]⟩),
 (185,⟨.fn,1,8,[.nf]⟩),
 (194,⟨.mp 9 3,1,8,[.nm]⟩),
 (210,⟨.fn,1,8,[.nf]⟩),
 (213,⟨.slice 22,1,24,[.sl 1 []]⟩),
 (222,⟨.int .u64,1,8,[.int .u64 0]⟩),
 (227,⟨.int .u32,1,4,[.int .u32 0]⟩),
 (230,⟨.arr 24 5,24,24,List.replicate 24 (.int .u8 0)⟩),
 (236,⟨.struct [(0,3),(1,24)],5,64,[.int .i64 0,.int .i64 0,.str [],.int .i64 0,.sl 4 []]⟩),
 (238,⟨.slice 9,1,24,[.sl 1 []]⟩),
 (239,⟨.mp 9 236,1,8,[.nm]⟩),
 (241,⟨.struct [(0,238),(1,239)],2,32,[.sl 1 [],.nm]⟩),
 (244,⟨.arr 20 42,20,160,List.replicate 20 (.int .u64 0)⟩),
 (245,⟨.arr 65 5,65,65,List.replicate 65 (.int .u8 0)⟩),
 (250,⟨.ptr 252,1,8,[.np]⟩),
 (252,⟨.struct [(0,3),(1,3),(2,4)],3,24,[.int .i64 0,.int .i64 0,.bool false]⟩),
 (255,⟨.arr 32 5,32,32,List.replicate 32 (.int .u8 0)⟩),
 (256,⟨.arr 64 5,64,64,List.replicate 64 (.int .u8 0)⟩)]
theorem yAj:∀ p∈tabX,okT Tryz.prog p.1 p.2:=by
 simp only[tabX,List.forall_mem_cons]
 exact⟨okY Tryz.t2 Tryz.underlying2,okY Tryz.t5 Tryz.underlying5,okY Tryz.t21 Tryz.underlying21,okY Tryz.t32 Tryz.underlying32,okY Tryz.t41 Tryz.underlying41,okY Tryz.t42 Tryz.underlying42,okY Tryz.t54 Tryz.underlying54,okY Tryz.t56 Tryz.underlying56,okY Tryz.t58 Tryz.underlying58 (e6:=fun h=>by cases h),okY Tryz.t61 Tryz.underlying61,okY Tryz.t62 Tryz.underlying62,okY Tryz.t66 Tryz.underlying66,okY Tryz.t67 Tryz.underlying67,okY Tryz.t69 Tryz.underlying69 (e6:=fun h=>by cases h),okY Tryz.t72 Tryz.underlying72,okY Tryz.t73 Tryz.underlying73,okY Tryz.t75 Tryz.underlying75 (e6:=fun h=>by cases h),okY Tryz.t80 Tryz.underlying80,okY Tryz.t81 Tryz.underlying81,okY Tryz.t83 Tryz.underlying83 (e6:=fun h=>by cases h),okY Tryz.t84 Tryz.underlying84 (e6:=fun h=>by cases h),okY Tryz.t87 Tryz.underlying87 (e6:=fun h=>by cases h),okY Tryz.t89 Tryz.underlying89,okY Tryz.t93 Tryz.underlying93 (e6:=fun h=>by cases h),okY Tryz.t98 Tryz.underlying98,okY Tryz.t100 Tryz.underlying100,okY Tryz.t101 Tryz.underlying101,okY Tryz.t103 Tryz.underlying103 (e6:=fun h=>by cases h),okY Tryz.t108 Tryz.underlying108,okY Tryz.t109 Tryz.underlying109,okY Tryz.t110 Tryz.underlying110,okY Tryz.t112 Tryz.underlying112,okY Tryz.t115 Tryz.underlying115,okY Tryz.t118 Tryz.underlying118,okY Tryz.t119 Tryz.underlying119,okY Tryz.t121 Tryz.underlying121 (e6:=fun h=>by cases h),okY Tryz.t125 Tryz.underlying125,okY Tryz.t126 Tryz.underlying126,okY Tryz.t128 Tryz.underlying128 (e6:=fun h=>by cases h),okY Tryz.t130 Tryz.underlying130,okY Tryz.t139 Tryz.underlying139,okY Tryz.t142 Tryz.underlying142 (e6:=fun h=>by cases h),okY Tryz.t143 Tryz.underlying143,okY Tryz.t146 Tryz.underlying146,okY Tryz.t147 Tryz.underlying147 (e6:=fun h=>by cases h),okY Tryz.t150 Tryz.underlying150 (e6:=fun h=>by cases h),okY Tryz.t151 Tryz.underlying151,okY Tryz.t152 Tryz.underlying152,okY Tryz.t155 Tryz.underlying155 (e6:=fun h=>by cases h),okY Tryz.t159 Tryz.underlying159,okY Tryz.t165 Tryz.underlying165 (e6:=fun h=>by cases h),okY Tryz.t168 Tryz.underlying168,okY Tryz.t175 Tryz.underlying175,okY Tryz.t177 Tryz.underlying177 (e6:=fun h=>by cases h),okY Tryz.t180 Tryz.underlying180 (e6:=fun h=>by cases h),okY Tryz.t181 Tryz.underlying181,okY Tryz.t182 Tryz.underlying182,okY Tryz.t184 Tryz.underlying184,okY Tryz.t185 Tryz.underlying185,okY Tryz.t194 Tryz.underlying194,okY Tryz.t210 Tryz.underlying210,okY Tryz.t213 Tryz.underlying213,okY Tryz.t222 Tryz.underlying222,okY Tryz.t227 Tryz.underlying227,okY Tryz.t230 Tryz.underlying230 (e6:=fun h=>by cases h),okY Tryz.t236 Tryz.underlying236 (e6:=fun h=>by cases h),okY Tryz.t238 Tryz.underlying238,okY Tryz.t239 Tryz.underlying239,okY Tryz.t241 Tryz.underlying241 (e6:=fun h=>by cases h),okY Tryz.t244 Tryz.underlying244 (e6:=fun h=>by cases h),okY Tryz.t245 Tryz.underlying245 (e6:=fun h=>by cases h),okY Tryz.t250 Tryz.underlying250,okY Tryz.t252 Tryz.underlying252 (e6:=fun h=>by cases h),okY Tryz.t255 Tryz.underlying255 (e6:=fun h=>by cases h),okY Tryz.t256 Tryz.underlying256 (e6:=fun h=>by cases h),by simp⟩
def TW (t:Nat):Option TI:=look? t (tab++tabX)
theorem tokW:TOk Tryz.prog TW:=zYE fun p hp=>(List.mem_append.1 hp).elim (yAl p) (yAj p)
theorem mixed:Tryz.prog.follows .mixedOrders=true:=by kernel_rfl
end Go.Proofs.YtbfnjnljboncgaaGreatDoor
