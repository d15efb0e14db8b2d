/-
  Joined out of: AbsL, AbsM, AbsN, AbsO, AbsP, AbsQ, MTyp, MLib, MNod, MCnt, AbsS, AbsT, AbsU, AbsV, AbsW, AbsX, MOwn, WzA, LibS.
-/
import Derived.OrdersIn
import Derived.Test.YtbfnjnljboncgaaGreatRows
import Derived.WalkKit
import Derived.ProofKit
import Derived.OpenShut
import Derived.JoinedCond
import Derived.Carry
import Derived.Deep.Slices
import Derived.Lib.Strings
import Derived.Lib.Slices
import Derived.Lib.Bytealg
import Derived.Lib.ItoaNum
import Derived.Test.YtbfnjnljboncgaaGreatProg
import Derived.KernelRfl
import Derived.Lib.Walk
import Derived.Test.YtbfnjnljboncgaaGreatZb
open List
open Go.IntKind (i16 i32 i64 i8 u16 u32 u64 u8)
open Go.Proofs.Tryz
set_option linter.unusedVariables false
set_option linter.unusedSimpArgs false
set_option maxHeartbeats 2000000
set_option maxRecDepth 100000
namespace Go.Abs
section
variable {T:Nat->Option TI} {Γ:Nat->Option zAr} {env env':Nat->AV}
theorem zJ5 {place:Nat->Option (Nat×Nat)}:∀ {parts:List (Nat×Operand)}{cells:List AV},(∀ p∈parts,∀ ty,opd T env ty p.2=opd T env' ty p.2)->zMI T env place cells parts=zMI T env' place cells parts
 | [],_,_=>rfl
 | (j,x)::r,cells,h=>by
  have h1:=h (j,x) (by simp)
  simp only[zMI,zCL]
  split
  ·rfl
  ·split
   ·rfl
   ·simp only[h1]
    split
    ·exact zJ5 fun p hp=>h p (by simp[hp])
    ·rfl
theorem zIV {e:Nat}:∀ {parts:List (Nat×Operand)}{i:Nat},(∀ p∈parts,∀ ty,opd T env ty p.2=opd T env' ty p.2)->zK8 T env e i parts=zK8 T env' e i parts
 | [],_,_=>rfl
 | (j,x)::r,i,h=>by
  have h1:=h (j,x) (by simp)
  simp only[zK8,h1,zIV (parts:=r) fun p hp=>h p (by simp[hp])]
variable {ty:Nat}
theorem zKY {xs:List Operand} (h:∀ x∈xs,∀ ty,opd T env ty x=opd T env' ty x):xs.map (opd T env ty)=xs.map (opd T env' ty) :=
 map_congr_left fun x hx=>h x hx ty
theorem zLD:∀ {xs:List Operand}{ts:List Nat},(∀ x∈xs,∀ ty,opd T env ty x=opd T env' ty x)->opds T env xs ts=opds T env' xs ts
 | [],_,_=>rfl
 | x::xs,ts,h=>by
  simp only[opds,h x (by simp),zLD (xs:=xs) fun y hy=>h y (by simp[hy])]
theorem zOa:∀ {xs:List Operand}{ts:List Nat},(∀ x∈xs,∀ ty,opd T env ty x=opd T env' ty x)->zLC T env xs ts=zLC T env' xs ts
 | [],_,_=>rfl
 | x::xs,ts,h=>by
  simp only[zLC]
  rw[h x mem_cons_self,zOa fun y hy=>h y (mem_cons_of_mem _ hy)]
theorem zPR {x:Option Operand} (h:∀ y,x=some y->∀ ty,opd T env ty y=opd T env' ty y):x.map (opd T env ty)=x.map (opd T env' ty):=by
 cases x with
 | none=>rfl
 | some y=>simp[h y rfl]
variable {o:Oper}{own:Bool}
theorem zGE  (h:∀ x∈o.op.operands,∀ ty,opd T env ty x=opd T env' ty x):zB9 T own o env=zB9 T own o env':=by
 unfold zB9;cases hop:o.op <;> rw[hop]at h <;> simp only[Op.operands]at h <;> (try dsimp only)
 case move x=>simp only[h x (by simp)]
 case assign x=>simp only[h x (by simp)]
 case pick c x y=>simp only[h c (by simp),h x (by simp),h y (by simp)]
 case box t x=>simp only[h x (by simp)]
 case build t parts =>
  unfold zTs;have hp:∀ p∈parts.toList,∀ ty,opd T env ty p.2=opd T env' ty p.2:=fun p hp=>h p.2 (by simp; exact⟨p.1,by simpa using hp⟩)
  split
  ·rfl
  ·split
   ·rw[zJ5 hp]
   ·split
    ·rw[zJ5 hp]
    ·rfl
   ·rfl
 case buildSlice t n parts =>
  have hp:∀ p∈parts.toList,∀ ty,opd T env ty p.2=opd T env' ty p.2:=fun p hp=>h p.2 (by simp; exact⟨p.1,by simpa using hp⟩)
  split
  ·split
   ·split
    ·rw[zIV hp]
    ·rfl
   ·rfl
  ·rfl
 case load t x=>simp only[h x (by simp)]
 case nilCheck x=>simp only[h x (by simp)]
 case binOp op t x y u=>simp only[h x (by simp),h y (by simp)]
 case unOp op t x=>simp only[h x (by simp)]
 case convert src dst x=>simp only[h x (by simp)]
 case makeFunc fn first caps =>
  cases fn <;> dsimp only
  split
  ·rfl
  ·rename_i cs e1 e2 e3
   have:∀ x∈caps.toList,∀ ty,opd T env ty x=opd T env' ty x:=fun x hx=>h x (by simp; exact .inr (by simpa using hx))
   rw[zKY this]
  ·have:∀ x∈first.toList,∀ ty,opd T env ty x=opd T env' ty x:=fun x hx=>h x (by simp; exact .inl (by simpa using hx))
   rw[zKY this]
  ·rfl
 case slice t x lo hi mx =>
  cases mx <;> dsimp only
  rw[h x (by simp),zPR (fun y e=>h y (by subst e; simp)),zPR (x:=hi) (fun y e=>h y (by subst e; simp))]
 case fieldAddr t x f=>simp only[h x (by simp)]
 case field t x f=>simp only[h x (by simp)]
 case indexAddr t x i=>simp only[h x (by simp),h i (by simp)]
 case index t x i=>simp only[h x (by simp),h i (by simp)]
 case extract x i=>simp only[h x (by simp)]
 case call c =>
  obtain⟨callee,args,ts⟩:=c;have ha:∀ x∈args.toList,∀ ty,opd T env ty x=opd T env' ty x:=fun x hx=>h x (by simp[Call.operands]; exact .inr (by simpa using hx))
  cases callee with
  | builtin b =>
   cases b <;> dsimp only
   case len =>
    split
    ·rename_i x t e1 e2
     rw[ha x (by rw[e1]; simp)]
    ·rfl
   case cap =>
    split
    ·rename_i x t e1 e2
     rw[ha x (by rw[e1]; simp)]
    ·rfl
   case min=>rw[zKY ha]
   case max=>rw[zKY ha]
   case copy =>
    split
    ·rename_i x y t tx e1 e2
     rw[ha x (by rw[e1]; simp),ha y (by rw[e1]; simp)]
    ·rfl
  | value f=>rfl
  | invoke r m=>rfl
theorem zCB  (h:∀ x∈o.op.operands,∀ ty,opd T env ty x=opd T env' ty x):callOf T Γ o env=callOf T Γ o env':=by
 unfold callOf;split
 ·rename_i f args ts ho
  rw[ho]at h;simp only[Op.operands,Call.operands]at h;have ha:∀ x∈args.toList,∀ ty,opd T env ty x=opd T env' ty x:=fun x hx=>h x (by simp; exact .inr (by simpa using hx))
  unfold zSt;rw[h f (by simp),zLD ha,zOa ha]
 ·rfl
theorem zDk  (h:∀ x∈o.op.operands,∀ ty,opd T env ty x=opd T env' ty x):zBm T o env=zBm T o env':=by
 unfold zBm;split
 ·rename_i f args ts ho
  rw[ho]at h;simp only[Op.operands,Call.operands]at h;have ha:∀ x∈args.toList,∀ ty,opd T env ty x=opd T env' ty x:=fun x hx=>h x (by simp; exact .inr (by simpa using hx))
  rw[h f (by simp),zLD ha]
 ·rfl
def zYu (env:Nat->AV) (r:Option Prop×AV×St):Option Prop×AV×St:=(r.1,r.2.1,{ r.2.2 with env:=env })
variable {σ:St}
theorem zUv  (h:∀ x∈o.op.operands,∀ ty,opd T σ.env ty x=opd T env' ty x) :
  zDa T own o { σ with env:=env' }=(zDa T own o σ).map (zYu env'):=by
 obtain⟨env,hp,nx⟩:=σ;dsimp only at h;unfold zDa;simp only[zCL]
 cases hop:o.op <;> rw[hop]at h <;> simp only[Op.operands]at h <;> (try dsimp only)
 case move x =>
  split
  ·split <;> rfl
  ·rfl
 case assign x =>
  split
  ·split <;> rfl
  ·rfl
 case box t x =>
  rw[← h x (by simp)]
  split <;> rfl
 case alloc t=>split <;> rfl
 case buildSlice t n parts =>
  have hp:∀ p∈parts.toList,∀ ty,opd T env ty p.2=opd T env' ty p.2:=fun p hp=>h p.2 (by simp; exact⟨p.1,by simpa using hp⟩)
  split
  ·rw[← zIV hp]
   split
   ·split <;> rfl
   ·rfl
  ·rfl
 case makeSlice t l c =>
  rw[← h l (by simp),← h c (by simp)]
  split
  ·split <;> rfl
  ·rfl
 case load t x =>
  rw[← h x (by simp)]
  split
  ·split
   ·split
    ·split <;> rfl
    ·split <;> rfl
   ·rfl
  ·rfl
 case store t x y =>
  rw[← h x (by simp),← h y (by simp)]
  split
  ·split
   ·split <;> rfl
   ·rfl
  ·split
   ·split <;> rfl
   ·rfl
  ·rfl
 case indexAddr t x i =>
  rw[← h x (by simp),← h i (by simp)]
  split
  ·split
   ·split <;> rfl
   ·rfl
  ·rfl
 case convert src dst x =>
  rw[← h x (by simp)]
  split
  ·split
   ·split <;> rfl
   ·rfl
  ·split
   ·split <;> rfl
   ·rfl
  ·rfl
 case slice t x lo hi mx =>
  cases lo <;> cases hi <;> cases mx <;> try rfl
  rename_i hi
  dsimp only;rw[← h x (by simp),← h hi (by simp)]
  split
  ·split
   ·split <;> rfl
   ·rfl
  ·rfl
 case call c =>
  obtain⟨callee,args,ts⟩:=c;have ha:∀ x∈args.toList,∀ ty,opd T env ty x=opd T env' ty x:=fun x hx=>h x (by simp[Call.operands]; exact .inr (by simpa using hx))
  cases callee with
  | builtin b =>
   cases b <;> try rfl
   case len =>
    dsimp only;split
    ·rename_i x t e1 e2
     rw[← ha x (by rw[e1]; simp)]
     split
     ·split <;> rfl
     ·rfl
    ·rfl
   case append =>
    dsimp only;split
    ·rename_i x y t tx e1 e2
     rw[← ha x (by rw[e1]; simp),← ha y (by rw[e1]; simp)]
     unfold zIB;have e3:∀ z,zJF ⟨env',hp,nx⟩ z=zJF ⟨env,hp,nx⟩ z:=fun z=>by cases z <;> rfl
     have e4:∀ z,rowsOf T ⟨env',hp,nx⟩ tx z=rowsOf T ⟨env,hp,nx⟩ tx z:=fun z=>by unfold rowsOf; rfl
     rw[e3,e4]
     split
     ·split
      ·split
       ·rfl
       ·split <;> rfl
      ·rfl
     ·rfl
    ·rfl
  | value f=>rfl
  | invoke r m=>rfl
 all_goals rfl
theorem zS6  (h:∀ x∈o.op.operands,∀ ty,opd T σ.env ty x=opd T env' ty x) :
  zCQ T o { σ with env:=env' }=(zCQ T o σ).map (zYu env'):=by
 obtain⟨env,hp,nx⟩:=σ;dsimp only at h;unfold zCQ;cases hop:o.op <;> rw[hop]at h <;> simp only[Op.operands]at h <;> (try dsimp only)
 case buildSlice t n parts =>
  have hp:∀ p∈parts.toList,∀ ty,opd T env ty p.2=opd T env' ty p.2:=fun p hp=>h p.2 (by simp; exact⟨p.1,by simpa using hp⟩)
  have hc:∀ (e:Nat) (ps:List (Nat×Operand)) (i:Nat),(∀ p∈ps,∀ ty,opd T env ty p.2=opd T env' ty p.2)->zIU T env e i ps=zIU T env' e i ps:=by
   intro e ps
   induction ps with
   | nil=>intro i _; rfl
   | cons p ps ih =>
    intro i hh;obtain⟨j,x⟩:=p;simp only[zIU]
    rw[hh (j,x) (by simp),ih (i+1) fun p hp=>hh p (by simp[hp])]
  split
  ·rw[← hc _ _ _ hp]
   split
   ·split <;> rfl
   ·rfl
  ·rfl
 case store t x y =>
  rw[← h x (by simp),← h y (by simp)]
  split
  ·split
   ·split <;> rfl
   ·rfl
  ·rfl
 case indexAddr t x i =>
  rw[← h x (by simp),← h i (by simp)]
  split
  ·split
   ·split <;> rfl
   ·rfl
  ·rfl
 case slice t x lo hi mx =>
  cases lo <;> cases hi <;> cases mx <;> try rfl
  rename_i hi
  dsimp only;rw[← h x (by simp),← h hi (by simp)]
  split
  ·split
   ·split <;> rfl
   ·rfl
  ·rfl
 case call c =>
  obtain⟨callee,args,ts⟩:=c;have ha:∀ x∈args.toList,∀ ty,opd T env ty x=opd T env' ty x:=fun x hx=>h x (by simp[Call.operands]; exact .inr (by simpa using hx))
  cases callee with
  | builtin b =>
   cases b <;> try rfl
   case len =>
    dsimp only;split
    ·rename_i x t e1 e2
     rw[← ha x (by rw[e1]; simp)]
     split
     ·split <;> rfl
     ·rfl
    ·rfl
   case append =>
    dsimp only;split
    ·rename_i x y t tx e1 e2
     rw[← ha x (by rw[e1]; simp),← ha y (by rw[e1]; simp)]
     have e3:∀ z,zKL ⟨env',hp,nx⟩ z=zKL ⟨env,hp,nx⟩ z:=fun z=>by cases z <;> rfl
     have e4:∀ z,zLd T ⟨env',hp,nx⟩ tx z=zLd T ⟨env,hp,nx⟩ tx z:=fun z=>by unfold zLd; rfl
     rw[e3,e4]
     split
     ·split <;> rfl
     ·rfl
    ·rfl
   case copy =>
    dsimp only;split
    ·rename_i x y t tx e1 e2
     rw[← ha x (by rw[e1]; simp),← ha y (by rw[e1]; simp)]
     have e3:∀ z,zKL ⟨env',hp,nx⟩ z=zKL ⟨env,hp,nx⟩ z:=fun z=>by cases z <;> rfl
     have e4:∀ z,zLd T ⟨env',hp,nx⟩ tx z=zLd T ⟨env,hp,nx⟩ tx z:=fun z=>by unfold zLd; rfl
     rw[e3,e4]
     split
     ·split <;> rfl
     ·rfl
    ·rfl
  | value f=>rfl
  | invoke r m=>rfl
 all_goals rfl
theorem zUu  (h:∀ x∈o.op.operands,∀ ty,opd T σ.env ty x=opd T env' ty x) :
  zFB T o { σ with env:=env' }=(zFB T o σ).map (zYu env'):=by
 obtain⟨env,hp,nx⟩:=σ;dsimp only at h;unfold zFB;cases hop:o.op <;> rw[hop]at h <;> simp only[Op.operands]at h <;> (try dsimp only)
 case lookup t m k ok =>
  rw[← h m (by simp),← h k (by simp)]
  split
  ·split
   ·split
    ·split <;> rfl
    ·split <;> rfl
   ·rfl
  ·rfl
 all_goals rfl
variable {x:AV}{φ:Option Prop}{σ':St}
theorem zPG  (h:zFB T o σ=some (φ,x,σ')):σ'=σ:=(zNS h).2.1
theorem zIE  (h:∀ x∈o.op.operands,∀ ty,opd T σ.env ty x=opd T env' ty x) :
  zBQ T own o { σ with env:=env' }=(zBQ T own o σ).map (zYu env'):=by
 unfold zBQ;rw[zUu h,zUv h,zS6 h]
 cases zFB T o σ <;> cases zDa T own o σ <;> rfl
theorem zWA  (h:zBQ T own o σ=some (φ,x,σ')):σ'.env=σ.env:=by
 have:=zIE (T:=T) (own:=own) (o:=o) (σ:=σ) (env':=σ.env) (fun _ _ _=>rfl)
 have e:({ σ with env:=σ.env }:St)=σ:=rfl;rw[e,h]at this;simp only[Option.map_some,Option.some.injEq,zYu,Prod.mk.injEq]at this;rw[this.2.2]
def noHeap (Γ:Nat->Option zAr) (f:Nat):Option zAr :=
 match Γ f with
 | some s=>match s.heap with | none=>some s | some _=>none
 | none=>none
theorem zHx {Γ:Nat->Option zAr}{f:Nat}{s:zAr} (h:noHeap Γ f=some s):Γ f=some s/\s.heap=none:=by
 unfold noHeap at h;split at h
 ·split at h
  ·cases h; exact⟨by assumption,by assumption⟩
  ·cases h
 ·cases h
def slO (own:Bool) (o:Oper):Bool :=
 match o.op with
 | .slice ..=>own
 | _=>false
def runs (T:Nat->Option TI) (Γ:Nat->Option zAr) (own loud:Bool) (o:Oper) (σ σ1:St):Prop :=
 match callOf T Γ o σ.env with
 | some (_,s,xs)=>∃ r x σ',s.spec xs r/\zBz (own&&loud) σ r=some (x,σ')/\σ1=σ'.put o.dst x
 | none=>match loud with
  | true=>match step1 T own o σ with
   | some (φ,x,σ')=>φ.getD True/\σ1=σ'.put o.dst x
   | none=>zGp T (noHeap Γ) own o σ fun x σ'=>σ1=σ'.put o.dst x
  | false=>∃ φ x,zB9 T (slO own o) o σ.env=some (φ,x)/\φ.getD True/\σ1=σ.put o.dst x
def gate (all:List Oper) (o:Oper) (env:Nat->AV):Option Bool :=
 match o.guard with
 | none=>some true
 | some (j,want)=>match (all[j]?).bind (fun o=>o.dst) with
  | some g=>match env g with
   | .s (.bool b)=>some (b == want)
   | .tup []=>some false
   | _=>none
  | none=>none
def outc (T:Nat->Option TI) (Γ:Nat->Option zAr) (all:List Oper) (own loud:Bool) (o:Oper) (σ σ1:St):Prop :=
 match gate all o σ.env with
 | some true=>runs T Γ own loud o σ σ1
 | some false=>σ1=σ.put o.dst (.tup [])
 | none=>False
variable {d:Option Nat}
theorem put_comm {e:Option Nat}{y:AV} (h:∀ t,d=some t->e ≠ some t):(σ.put d x).put e y=(σ.put e y).put d x:=by
 cases d <;> cases e <;> try rfl
 rename_i d e
 simp only[St.put,St.mk.injEq,and_self,and_true]
 funext t
 cases h1:Nat.beq t e with
 | false=>simp
 | true =>
  cases h2:Nat.beq t d with
  | false=>simp
  | true =>
   have:=Nat.eq_of_beq_eq_true h1;have:=Nat.eq_of_beq_eq_true h2;exact absurd (by congr 1; omega) (h d rfl)
theorem yAT {t:Nat} (h:∀ s,d=some s->s ≠ t):(σ.put d x).env t=σ.env t:=by
 cases d with
 | none=>rfl
 | some d =>
  simp only[St.put]
  cases e:Nat.beq t d with
  | false=>rfl
  | true=>exact absurd (Nat.eq_of_beq_eq_true e).symm (h d rfl)
def Alike (all:List Oper) (o:Oper) (env env':Nat->AV):Prop:=∀ t∈o.looksAt all.toArray,env t=env' t
variable {all:List Oper}
theorem Alike.opds  (h:Alike all o env env'):∀ x∈o.op.operands,∀ ty,opd T env ty x=opd T env' ty x:=fun x hx ty=>by
 cases x with
 | tmp t =>
  refine h t ?_;unfold Oper.looksAt;refine List.mem_append.2 (.inl (List.mem_filterMap.2 ⟨.tmp t,by simpa using hx,rfl⟩))
 | _=>rfl
theorem Alike.gate  (h:Alike all o env env'):gate all o env=gate all o env':=by
 unfold Abs.gate;cases hg:o.guard with
 | none=>rfl
 | some p =>
  obtain⟨j,want⟩:=p;dsimp only;cases hj:(all[j]?).bind (fun o=>o.dst) with
  | none=>rfl
  | some g =>
   dsimp only;have:env g=env' g:=h g (by
    unfold Oper.looksAt;refine List.mem_append.2 (.inr ?_)
    rw[hg]
    dsimp only;have:(all.toArray[j]?).bind (fun o=>o.dst)=some g :=(by simpa using hj);rw[this]; simp)
   rw[this]
theorem Alike.put  (h:∀ t,d=some t->t ∉ o.looksAt all.toArray):Alike all o (σ.put d x).env σ.env:=fun t ht =>
 yAT fun s hs e=>h s hs (e ▸ ht)
variable {r:Ret}
theorem zNp  (h:zBz false σ r=some (x,σ')):σ'=σ/\∀ σ2,zBz false σ2 r=some (x,σ2):=by
 unfold zBz at h ⊢;split at h
 ·split at h
  ·rename_i e; cases h; exact⟨rfl,fun σ2=>by simp[e]⟩
  ·cases h
 ·cases h; exact⟨rfl,fun σ2=>rfl⟩
theorem zKH  (h:zBz own σ r=some (x,σ')):σ'.env=σ.env/\∀ env',zBz own { σ with env:=env' } r=some (x,{ σ' with env:=env' }):=by
 unfold zBz at h ⊢;split at h
 ·split at h
  ·rename_i e; cases h; exact⟨rfl,fun σ2=>by simp[e]⟩
  ·cases h
 ·split at h <;> cases h <;> exact⟨rfl,fun σ2=>rfl⟩
theorem zMe  (h:zBz own σ r=some (x,σ')):σ.nx<=σ'.nx:=by
 unfold zBz at h;split at h
 ·split at h
  ·cases h; exact Nat.le_refl _
  ·cases h
 ·split at h
  ·cases h; exact Nat.le_succ _
  ·cases h; exact Nat.le_refl _
theorem zXW  (h:zBQ T own o σ=some (φ,x,σ')):σ.nx<=σ'.nx:=by
 have a1:∀ (ob:Ob),σ.nx<=(zBi σ ob).nx:=fun _=>Nat.le_succ _
 have a2:∀ (k:Nat) (ob:Ob),σ.nx<=(zBi (zHY σ k) ob).nx:=fun _ _=>Nat.le_succ _
 have a3:∀ (k:Nat) (ob:Ob),σ.nx<=(zEe σ k ob).nx:=fun _ _=>Nat.le_refl _
 have a4:∀ (k:Nat),σ.nx<=(zHY σ k).nx:=fun _=>Nat.le_refl _
 have hA:∀ {φ x σ'},zCQ T o σ=some (φ,x,σ')->σ.nx<=σ'.nx:=fun {φ x σ'} h=>by
  unfold zCQ at h
  repeat' split at h
  all_goals first | (cases h; first | exact Nat.le_refl _ | exact a1 _ | exact a2 _ _ | exact a3 _ _ | exact a4 _) | cases h
 unfold zBQ at h;split at h
 ·rename_i hl
  cases h;rw[zPG hl]; exact Nat.le_refl _
 split at h
 ·rename_i r hl
  cases h;unfold zDa at hl;simp only[zCL]at hl
  repeat' split at hl
  all_goals first | (cases hl; first | exact Nat.le_refl _ | exact a1 _ | exact a2 _ _ | exact a3 _ _ | exact a4 _) | cases hl | skip
  unfold zIB at hl
  repeat' split at hl
  all_goals first | (cases hl; first | exact Nat.le_refl _ | exact a1 _ | exact a2 _ _ | exact a3 _ _ | exact a4 _) | cases hl
 ·exact hA h
variable {K:AV->St->Prop}
theorem zNB  (h:zGp T (noHeap Γ) own o σ K):∃ x hp nx,K x ⟨σ.env,hp,nx⟩/\σ.nx<=nx /\
  ∀ env',(∀ x∈o.op.operands,∀ ty,opd T σ.env ty x=opd T env' ty x)->∀ K':AV->St->Prop,K' x ⟨env',hp,nx⟩->zGp T (noHeap Γ) own o { σ with env:=env' } K':=by
 unfold zGp at h;split at h
 ·rename_i hraw
  unfold zHd at h;split at h
  ·rename_i t y ho
   split at h
   ·rename_i k sz i off e
    split at h
    ·rename_i e' sz' rows hh
     split at h
     ·rename_i hsz
      obtain⟨hi,row,hrow,h⟩:=h;split at h
      ·rename_i x hl
       refine⟨x,σ.hp,σ.nx,h,Nat.le_refl _,fun env' ha K' hk=>?_⟩
       unfold zGp;dsimp only;rw[← zDk ha,hraw]
       dsimp only;unfold zHd;rw[ho]
       dsimp only;rw[← ha y (by rw[ho]; simp[Op.operands]),e]
       dsimp only;rw[hh]
       dsimp only;rw[hsz]
       dsimp only;refine⟨hi,row,hrow,?_⟩
       rw[hl]
       exact hk
      ·exact h.elim
     ·exact h.elim
    ·rename_i e' sz' rows hh
     split at h
     ·rename_i hsz
      obtain⟨hi,row,hrow,h⟩:=h;split at h
      ·rename_i x hl
       refine⟨x,σ.hp,σ.nx,h,Nat.le_refl _,fun env' ha K' hk=>?_⟩
       unfold zGp;dsimp only;rw[← zDk ha,hraw]
       dsimp only;unfold zHd;rw[ho]
       dsimp only;rw[← ha y (by rw[ho]; simp[Op.operands]),e]
       dsimp only;rw[hh]
       dsimp only;rw[hsz]
       dsimp only;refine⟨hi,row,hrow,?_⟩
       rw[hl]
       exact hk
      ·exact h.elim
     ·exact h.elim
    ·exact h.elim
   ·exact h.elim
  ·exact h.elim
 ·rename_i g xs hraw
  split at h
  ·exact h.elim
  ·rename_i s hs
   have hnh:=(zHx hs).2;rw[hnh]at h;dsimp only at h;split at h
   ·rename_i hown
    split at h
    ·exact h.elim
    ·rename_i hp
     obtain⟨r,hr,h⟩:=h;split at h
     ·exact h.elim
     ·rename_i x σ' hx
      obtain⟨e1,e2⟩:=zKH hx;have e3:σ'.env=σ.env :=(by rw[e1]; cases r.flat <;> rfl);refine⟨x,σ'.hp,σ'.nx,by rw[← e3]; exact h,(by have:=zMe hx; revert this; cases r.flat <;> exact id),fun env' ha K' hk=>?_⟩
      unfold zGp;dsimp only;rw[← zDk ha,hraw]
      dsimp only;rw[hs]
      dsimp only;rw[hnh]
      dsimp only;rw[hown]
      dsimp only;rw[hp]
      refine⟨r,hr,?_⟩
      have e4:=e2 env';cases hf:r.flat with
      | true=>rw[hf]at e4; dsimp only at e4 ⊢; rw[e4]; exact hk
      | false =>
       rw[hf]at e4;have e5:({ zOl (AV.keysAll xs) σ with env:=env' }:St)=zOl (AV.keysAll xs) { σ with env:=env' }:=rfl;dsimp only at e4 ⊢;rw[e5]at e4;rw[e4]; exact hk
   ·rename_i R hown
    have hnil:∀ env',zFO T s.nil o xs { σ with env:=env' }=((zFO T s.nil o xs σ).1,{ (zFO T s.nil o xs σ).2 with env:=env' }):=fun env'=>by
     unfold zFO;split
     ·rfl
     ·split
      ·split
       ·split <;> rfl
       ·rfl
      ·rfl
    have hnenv:(zFO T s.nil o xs σ).2.env=σ.env:=by
     unfold zFO;split
     ·rfl
     ·split
      ·split
       ·split <;> rfl
       ·rfl
      ·rfl
    have hnnx:σ.nx<=(zFO T s.nil o xs σ).2.nx:=by
     unfold zFO;split
     ·exact Nat.le_refl _
     ·split
      ·split
       ·split
        ·exact Nat.le_succ _
        ·exact Nat.le_refl _
       ·exact Nat.le_refl _
      ·exact Nat.le_refl _
    cases hna:zFO T s.nil o xs σ with
    | mk xs1 σ1 =>
    rw[hna]at h hnil hnenv hnnx;dsimp only at h hnil hnenv hnnx;split at h
    ·rename_i os hd hos
     obtain⟨x,os',hR,h⟩:=h;refine⟨_,_,_,by rw[← hnenv]; exact h,Nat.le_trans hnnx (Nat.le_add_right _ _),fun env' ha K' hk=>?_⟩
     unfold zGp;dsimp only;rw[← zDk ha,hraw]
     dsimp only;rw[hs]
     dsimp only;rw[hnh]
     dsimp only;rw[hown]
     dsimp only;rw[hnil]
     dsimp only;rw[hd,hos]
     exact⟨x,os',hR,hk⟩
    ·exact h.elim
variable {σ1:St}
theorem zK9  (h:outc T Γ all own false o σ σ1):∃ x,σ1=σ.put o.dst x/\∀ σ2:St,Alike all o σ.env σ2.env->outc T Γ all own false o σ2 (σ2.put o.dst x):=by
 unfold outc at h;split at h
 ·rename_i hg
  unfold runs at h;split at h
  ·rename_i g s xs hco
   obtain⟨r,x,σ',h1,h2,h3⟩:=h;rw[Bool.and_false]at h2;obtain⟨rfl,h4⟩:=zNp h2;refine⟨x,h3,fun σ2 ha=>?_⟩
   unfold outc;rw[← ha.gate,hg]
   dsimp only;unfold runs;rw[← zCB (Γ:=Γ) (T:=T) ha.opds,hco]
   exact⟨r,x,σ2,h1,by rw[Bool.and_false]; exact h4 σ2,rfl⟩
  ·rename_i hco
   obtain⟨φ,x,h1,h2,h3⟩:=h;refine⟨x,h3,fun σ2 ha=>?_⟩
   unfold outc;rw[← ha.gate,hg]
   dsimp only;unfold runs;rw[← zCB (Γ:=Γ) (T:=T) ha.opds,hco]
   exact⟨φ,x,by rw[← zGE ha.opds]; exact h1,h2,rfl⟩
 ·rename_i hg
  refine⟨.tup [],h,fun σ2 ha=>?_⟩
  unfold outc;rw[← ha.gate,hg]
 ·exact h.elim
variable {loud:Bool}
theorem zF2  (h:outc T Γ all own loud o σ σ1):∃ x hp nx,σ1=St.put ⟨σ.env,hp,nx⟩ o.dst x/\∀ env',Alike all o σ.env env'->outc T Γ all own loud o { σ with env:=env' } (St.put ⟨env',hp,nx⟩ o.dst x):=by
 unfold outc at h;split at h
 ·rename_i hg
  unfold runs at h;split at h
  ·rename_i g s xs hco
   obtain⟨r,x,σ',h1,h2,h3⟩:=h;obtain⟨h4,h5⟩:=zKH h2;refine⟨x,σ'.hp,σ'.nx,by rw[h3,← h4],fun env' ha=>?_⟩
   unfold outc;dsimp only;rw[← ha.gate,hg]
   dsimp only;unfold runs;dsimp only;rw[← zCB (Γ:=Γ) (T:=T) ha.opds,hco]
   exact⟨r,x,_,h1,h5 env',rfl⟩
  ·rename_i hco
   split at h
   ·split at h
    ·rename_i φ x σ' h1
     obtain⟨h2,h3⟩:=h;have key:σ'.env=σ.env/\∀ env',Alike all o σ.env env'->step1 T own o { σ with env:=env' }=some (φ,x,{ σ' with env:=env' }):=by
      unfold step1 at h1 ⊢;split at h1
      ·rename_i p hp
       cases h1;refine⟨rfl,fun env' ha=>?_⟩
       dsimp only;rw[← zGE ha.opds,hp]
      ·rename_i hp
       refine⟨zWA h1,fun env' ha=>?_⟩
       dsimp only;rw[← zGE ha.opds,hp]
       dsimp only;rw[zIE (σ:=σ) ha.opds,h1]
       rfl
     refine⟨x,σ'.hp,σ'.nx,by rw[h3,← key.1],fun env' ha=>?_⟩
     unfold outc;dsimp only;rw[← ha.gate,hg]
     dsimp only;unfold runs;dsimp only;rw[← zCB (Γ:=Γ) (T:=T) ha.opds,hco]
     dsimp only;rw[key.2 env' ha]
     exact⟨h2,rfl⟩
    ·rename_i h1
     have key:∀ env',Alike all o σ.env env'->step1 T own o { σ with env:=env' }=none:=fun env' ha=>by
      unfold step1 at h1 ⊢;split at h1
      ·cases h1
      ·rename_i hp
       dsimp only;rw[← zGE ha.opds,hp]
       dsimp only;rw[zIE (σ:=σ) ha.opds,h1]
       rfl
     obtain⟨x,hp,nx,e1,_,e2⟩:=zNB h;refine⟨x,hp,nx,e1,fun env' ha=>?_⟩
     unfold outc;dsimp only;rw[← ha.gate,hg]
     dsimp only;unfold runs;dsimp only;rw[← zCB (Γ:=Γ) (T:=T) ha.opds,hco]
     dsimp only;rw[key env' ha]
     exact e2 env' ha.opds _ rfl
   ·obtain⟨φ,x,h1,h2,h3⟩:=h;refine⟨x,σ.hp,σ.nx,h3,fun env' ha=>?_⟩
    unfold outc;dsimp only;rw[← ha.gate,hg]
    dsimp only;unfold runs;dsimp only;rw[← zCB (Γ:=Γ) (T:=T) ha.opds,hco]
    exact⟨φ,x,by rw[← zGE ha.opds]; exact h1,h2,rfl⟩
 ·rename_i hg
  refine⟨.tup [],σ.hp,σ.nx,h,fun env' ha=>?_⟩
  unfold outc;dsimp only;rw[← ha.gate,hg]
 ·exact h.elim
def rdOp (o:Oper):Bool :=
 match o.op with
 | .load _ _=>true
 | .indexAddr _ _ _=>true
 | .call { callee:=.builtin .len,args:=_,argTypes:=_ }=>true
 | _=>false
theorem zWB  (hr:rdOp o=true) (h:zDa T own o σ=some (φ,x,σ')):σ'=σ:=by
 unfold rdOp at hr;split at hr
 ·rename_i t y ho
  unfold zDa at h; try simp only[zCL]at h
  rw[ho]at h;dsimp only at h
  repeat' split at h
  all_goals first | (cases h; rfl) | cases h
 ·rename_i t y i ho
  unfold zDa at h; try simp only[zCL]at h
  rw[ho]at h;dsimp only at h
  repeat' split at h
  all_goals first | (cases h; rfl) | cases h
 ·rename_i args ts ho
  unfold zDa at h; try simp only[zCL]at h
  rw[ho]at h;dsimp only at h
  repeat' split at h
  all_goals first | (cases h; rfl) | cases h
 ·cases hr
theorem zJ9  (hr:rdOp o=true) (h:zBQ T own o σ=some (φ,x,σ')):σ'=σ:=by
 unfold zBQ at h;split at h
 ·rename_i hl
  cases h;exact zPG hl
 split at h
 ·rename_i hl
  cases h;exact zWB hr hl
 unfold rdOp at hr;split at hr
 ·rename_i t y ho
  unfold zCQ at h;rw[ho]at h;cases h
 ·rename_i t y i ho
  unfold zCQ at h;rw[ho]at h;dsimp only at h
  repeat' split at h
  all_goals first | (cases h; rfl) | cases h
 ·rename_i args ts ho
  unfold zCQ at h;rw[ho]at h;dsimp only at h
  repeat' split at h
  all_goals first | (cases h; rfl) | cases h
 ·cases hr
theorem zWz  (h:zHd T o σ K):∃ x,K x σ:=by
 unfold zHd at h
 repeat' split at h
 all_goals first | exact h.elim | skip
 all_goals
  obtain⟨_,row,_,h⟩:=h;split at h
  ·exact⟨_,h⟩
  ·exact h.elim
theorem gJ {P:Prop} (h:P:=by rename_i ho; unfold callOf zBm; rw[ho]; exact⟨rfl,rfl⟩):P:=h
theorem zFl  (hr:rdOp o=true) (h:outc T Γ all own true o σ σ1):σ1.hp=σ.hp/\σ1.nx=σ.nx:=by
 have hput:∀ (σ:St) (d:Option Nat) (x:AV),(σ.put d x).hp=σ.hp/\(σ.put d x).nx=σ.nx:=fun σ d x=>by cases d <;> exact⟨rfl,rfl⟩
 have hco:callOf T Γ o σ.env=none/\zBm T o σ.env=none:=by
  unfold rdOp at hr;split at hr
  ·exact gJ
  ·exact gJ
  ·exact gJ
  ·cases hr
 unfold outc at h;split at h
 ·unfold runs at h;rw[hco.1]at h;dsimp only at h;split at h
  ·rename_i φ x σ' hs
   obtain⟨_,rfl⟩:=h;unfold step1 at hs;split at hs
   ·cases hs; exact hput _ _ _
   ·rw[zJ9 hr hs]; exact hput _ _ _
  ·unfold zGp at h;rw[hco.2]at h;obtain⟨x,rfl⟩:=zWz h;exact hput _ _ _
 ·subst h; exact hput _ _ _
 ·exact h.elim
theorem zGI (σ:St) (d:Option Nat) (x:AV):(σ.put d x).nx=σ.nx:=by cases d <;> rfl
theorem zGH (σ:St) (d:Option Nat) (x:AV):(σ.put d x).hp=σ.hp:=by cases d <;> rfl
theorem zRp  (h:outc T Γ all own loud o σ σ1):σ.nx<=σ1.nx:=by
 unfold outc at h;split at h
 ·unfold runs at h;split at h
  ·obtain⟨r,x,σ',_,h2,rfl⟩:=h;rw[zGI]; exact zMe h2
  ·split at h
   ·split at h
    ·rename_i φ x σ' hs
     obtain⟨_,rfl⟩:=h;rw[zGI]
     unfold step1 at hs;split at hs
     ·cases hs; exact Nat.le_refl _
     ·exact zXW hs
    ·obtain⟨x,hp,nx,e1,e2,_⟩:=zNB h;rw[e1,zGI]; exact e2
   ·obtain⟨φ,x,_,_,rfl⟩:=h;rw[zGI]; exact Nat.le_refl _
 ·subst h; rw[zGI]; exact Nat.le_refl _
 ·exact h.elim
def zTq (n:Nat->Bool):AV->Bool
 | .op k _=>n k
 | .orow k=>n k
 | .rp k _ _ _=>n k
 | .mref k=>n k
 | _=>true
def zZy (n:Nat->Bool):AV->Bool
 | .orow k=>!(n k)
 | _=>false
def zWC (n:Nat->Bool):AV->Bool
 | .op k _=>!(n k)
 | .rp k _ _ _=>!(n k)
 | _=>false
def zEp (T:Nat->Option TI) (n:Nat->Bool) (o:Oper) (env:Nat->AV):Bool :=
 match o.op with
 | .load _ x=>zTq n (opd T env 0 x)
 | .indexAddr t x _=>zTq n (opd T env t x)
 | .call { callee:=.builtin .len,args:=args,argTypes:=ts }=>match args.toList,ts.toList with
  | [x],[t]=>zTq n (opd T env t x)
  | _,_=>true
 | .call { callee:=.builtin .append,args:=args,argTypes:=ts }=>match args.toList,ts.toList with
  | [x,_],[t,_]=>zZy n (opd T env t x)
  | _,_=>false
 | .store _ x _=>zWC n (opd T env 0 x)
 | _=>false
variable {n:Nat->Bool}
theorem zGJ  (h:∀ x∈o.op.operands,∀ ty,opd T env ty x=opd T env' ty x):zEp T n o env=zEp T n o env':=by
 unfold zEp;cases hop:o.op <;> rw[hop]at h <;> simp only[Op.operands]at h <;> (try dsimp only) <;> try rfl
 case load t x=>rw[h x (by simp)]
 case indexAddr t x i=>rw[h x (by simp)]
 case store t x y=>rw[h x (by simp)]
 case call c =>
  obtain⟨callee,args,ts⟩:=c;have ha:∀ x∈args.toList,∀ ty,opd T env ty x=opd T env' ty x:=fun x hx=>h x (by simp[Call.operands]; exact .inr (by simpa using hx))
  cases callee with
  | builtin b =>
   cases b <;> try rfl
   all_goals
    dsimp only;split
    ·rename_i e1 e2
     rw[ha _ (by rw[e1]; simp)]
    ·rfl
  | value f=>rfl
  | invoke r m=>rfl
variable {nx nx':Nat}{hp hp':Nat->Option Ob}
theorem zYq  (hr:rdOp o=true) (ho:zEp T n o env=true) (hh:∀ k,n k=true->hp' k=hp k)
  (hs:zBQ T own o ⟨env,hp,nx⟩=some (φ,x,σ')):zBQ T own o ⟨env,hp',nx'⟩=some (φ,x,⟨env,hp',nx'⟩):=by
 have hlt:∀ {k},n k=true->hp' k=hp k:=fun {k} h=>hh k h
 have hsame:=zJ9 hr hs;subst hsame;unfold rdOp at hr;unfold zEp at ho;unfold zBQ zFB zDa zCQ at hs ⊢;split at hr
 ·rename_i t y hop
  rw[hop]at ho hs ⊢;dsimp only at ho hs ⊢;cases e:opd T env 0 y <;> rw[e]at hs ho
  case op k off =>
   dsimp only at hs ho ⊢;simp only[zTq]at ho;rw[hlt ho]
   revert hs
   cases hp k with
   | none=>intro hs; cases hs
   | some ob =>
    cases ob with
    | box bt cells =>
     cases T t with
     | none=>intro hs; cases hs
     | some i =>
      dsimp only;cases i.k.agg <;> dsimp only
      ·cases cells[off]? <;> (intro hs; cases hs) <;> rfl
      ·cases Nat.ble (off+i.size) cells.length <;> (intro hs; cases hs) <;> rfl
    | row=>intro hs; cases hs
    | arow=>intro hs; cases hs
    | any=>intro hs; cases hs
  all_goals ((try dsimp only at hs); cases hs)
 ·rename_i t y i hop
  rw[hop]at ho hs ⊢;dsimp only at ho hs ⊢;cases e:opd T env t y <;> rw[e]at hs ho
  case orow k =>
   simp only[zTq]at ho
   revert hs
   cases elemOf T t with
   | none=>intro hs; cases hs
   | some p =>
    obtain⟨_,j⟩:=p;cases opd T env 0 i with
    | s s =>
     cases s with
     | int kk m =>
      dsimp only;rw[hlt ho]
      cases hp k with
      | none=>intro hs; cases hs
      | some ob =>
       cases ob with
       | box=>intro hs; cases hs
       | row e sz rows=>dsimp only; cases Nat.beq sz j.size <;> (intro hs; cases hs) <;> rfl
       | arow e sz rows=>dsimp only; cases Nat.beq sz j.size <;> (intro hs; cases hs) <;> rfl
       | any=>intro hs; cases hs
     | _=>intro hs; cases hs
    | _=>intro hs; cases hs
  all_goals
   revert hs
   cases elemOf T t with
   | none=>intro hs; cases hs
   | some p =>
    obtain⟨_,j⟩:=p;cases opd T env 0 i with
    | s s=>cases s <;> (try dsimp only) <;> (intro hs; cases hs)
    | _=>intro hs; cases hs
 ·rename_i args ts hop
  rw[hop]at ho hs ⊢;dsimp only at ho hs ⊢
  revert hs ho
  cases args.toList with
  | nil=>dsimp only; (intro h1 h2; first | exact absurd h1 (by simp) | exact absurd h2 (by simp))
  | cons y l =>
   cases l with
   | cons _ _=>dsimp only; (intro h1 h2; first | exact absurd h1 (by simp) | exact absurd h2 (by simp))
   | nil =>
    cases ts.toList with
    | nil=>dsimp only; (intro h1 h2; first | exact absurd h1 (by simp) | exact absurd h2 (by simp))
    | cons t l =>
     cases l with
     | cons _ _=>dsimp only; (intro h1 h2; first | exact absurd h1 (by simp) | exact absurd h2 (by simp))
     | nil =>
      dsimp only;cases tk T t with
      | slice e =>
       cases opd T env t y with
       | orow k =>
        dsimp only;intro hs ho;simp only[zTq]at ho;rw[hlt ho]
        revert hs
        cases hp k with
        | none=>dsimp only; intro hs; cases hs
        | some ob=>cases ob <;> dsimp only <;> (intro hs; cases hs) <;> rfl
       | _=>dsimp only; intro hs; cases hs
      | _=>dsimp only; intro hs; cases hs
 ·cases hr
theorem zZJ  (ho:zEp T n o env=true) (hh:∀ k,n k=true->hp' k=hp k) (h:zHd T o ⟨env,hp,nx⟩ K) :
  ∃ x,K x ⟨env,hp,nx⟩/\∀ K':AV->St->Prop,K' x ⟨env,hp',nx'⟩->zHd T o ⟨env,hp',nx'⟩ K':=by
 have hlt:∀ {k},n k=true->hp' k=hp k:=fun {k} h=>hh k h
 unfold zEp at ho;unfold zHd at h ⊢;split at h
 ·rename_i t y hop
  rw[hop]at ho;dsimp only at ho h ⊢;cases e:opd T env 0 y <;> rw[e]at h ho <;> dsimp only at h ho⊢<;> try (exact h.elim)
  simp only[zTq]at ho;rw[hlt ho]
  revert h
  cases hp _ with
  | none=>intro h; exact h.elim
  | some ob =>
   cases ob with
   | box=>intro h; exact h.elim
   | any=>intro h; exact h.elim
   | row e2 sz rows =>
    dsimp only;cases Nat.beq _ sz with
    | false=>intro h; exact h.elim
    | true =>
     dsimp only;rintro⟨h1,row,h2,h3⟩
     cases hl:zNR T t (row.drop _) with
     | none=>rw[hl]at h3; exact h3.elim
     | some c =>
      rw[hl]at h3;exact⟨c,h3,fun K' hk=>⟨h1,row,h2,by rw[hl]; exact hk⟩⟩
   | arow e2 sz rows =>
    dsimp only;cases Nat.beq _ sz with
    | false=>intro h; exact h.elim
    | true =>
     dsimp only;rintro⟨h1,row,h2,h3⟩
     cases hl:zOS T t (row.drop _) with
     | none=>rw[hl]at h3; exact h3.elim
     | some c =>
      rw[hl]at h3;exact⟨c,h3,fun K' hk=>⟨h1,row,h2,by rw[hl]; exact hk⟩⟩
 ·exact h.elim
theorem yBd  (hr:rdOp o=true) (ho:zEp T n o env=true) (hh:∀ k,n k=true->hp' k=hp k) (hn:∀ k,∀ (h:hp k=none),n k=true->hp' k=none) (h:outc T Γ all own true o ⟨env,hp,nx⟩ σ1)
  (hboth:∀ (r:Option Prop×AV×St),zBQ T own o ⟨env,hp',nx'⟩=some r->∃ r',zBQ T own o ⟨env,hp,nx⟩=some r') :
  ∃ y,σ1=St.put ⟨env,hp,nx⟩ o.dst y/\outc T Γ all own true o ⟨env,hp',nx'⟩ (St.put ⟨env,hp',nx'⟩ o.dst y):=by
 have hco:callOf T Γ o env=none/\zBm T o env=none:=by
  unfold rdOp at hr;split at hr
  ·exact gJ
  ·exact gJ
  ·exact gJ
  ·cases hr
 unfold outc at h;dsimp only at h;split at h
 ·rename_i hg
  unfold runs at h;dsimp only at h;rw[hco.1]at h;dsimp only at h;split at h
  ·rename_i φ x σ' hs
   obtain⟨h2,rfl⟩:=h;have:σ'=⟨env,hp,nx⟩/\step1 T own o ⟨env,hp',nx'⟩=some (φ,x,⟨env,hp',nx'⟩):=by
    unfold step1 at hs ⊢;dsimp only at hs ⊢;split at hs
    ·cases hs; exact⟨rfl,rfl⟩
    ·exact⟨zJ9 hr hs,zYq hr ho hh hs⟩
   obtain⟨rfl,h3⟩:=this;refine⟨x,rfl,?_⟩
   unfold outc;dsimp only;rw[hg]
   dsimp only;unfold runs;dsimp only;rw[hco.1]
   dsimp only;rw[h3]
   exact⟨h2,rfl⟩
  ·rename_i hs
   have h3:step1 T own o ⟨env,hp',nx'⟩=none:=by
    unfold step1 at hs ⊢;dsimp only at hs ⊢;split at hs
    ·cases hs
    ·cases hq:zBQ T own o ⟨env,hp',nx'⟩ with
     | none=>rfl
     | some r =>
      obtain⟨r',hr'⟩:=hboth r hq;rw[hr']at hs; cases hs
   unfold zGp at h;dsimp only at h;rw[hco.2]at h;dsimp only at h;obtain⟨x,rfl,hx⟩:=zZJ (nx':=nx') ho hh h;refine⟨x,rfl,?_⟩
   unfold outc;dsimp only;rw[hg]
   dsimp only;unfold runs;dsimp only;rw[hco.1]
   dsimp only;rw[h3]
   dsimp only;unfold zGp;dsimp only;rw[hco.2]
   exact hx _ rfl
 ·rename_i hg
  subst h;refine⟨.tup [],rfl,?_⟩
  unfold outc;dsimp only;rw[hg]
 ·exact h.elim
theorem zVH  (hr:rdOp o=true) (ho:zEp T n o env=true) (hh:∀ k,n k=true->hp' k=hp k) (h:outc T Γ all own true o ⟨env,hp,nx⟩ σ1) :
  ∃ y,σ1=St.put ⟨env,hp,nx⟩ o.dst y/\outc T Γ all own true o ⟨env,hp',nx'⟩ (St.put ⟨env,hp',nx'⟩ o.dst y) :=
 yBd hr ho hh (fun k h hk=>by rw[hh k hk]; exact h) h fun⟨φ,x,σ'⟩ hq=>⟨_,zYq (nx':=nx) hr ho (fun k hk=>(hh k hk).symm) hq⟩
def mkOp (o:Oper):Bool :=
 match o.op with
 | .alloc _=>true
 | .makeSlice _ _ _=>true
 | .box _ _=>true
 | .buildSlice _ _ _=>true
 | _=>false
theorem zZt  (hm:mkOp o=true) (h:zDa T own o σ=some (φ,x,σ')):∃ ob,σ'=zBi σ ob:=by
 unfold zDa at h;simp only[zCL]at h;unfold mkOp at hm;split at hm
 ·rename_i hop
  rw[hop]at h;dsimp only at h
  repeat' split at h
  all_goals first | (cases h; exact⟨_,rfl⟩) | cases h
 ·rename_i hop
  rw[hop]at h;dsimp only at h
  repeat' split at h
  all_goals first | (cases h; exact⟨_,rfl⟩) | cases h
 ·rename_i hop
  rw[hop]at h;dsimp only at h
  repeat' split at h
  all_goals first | (cases h; exact⟨_,rfl⟩) | cases h
 ·rename_i hop
  rw[hop]at h;dsimp only at h
  repeat' split at h
  all_goals first | (cases h; exact⟨_,rfl⟩) | cases h
 ·cases hm
theorem zXT  (hm:mkOp o=true) (h:zCQ T o σ=some (φ,x,σ')):∃ ob,σ'=zBi σ ob:=by
 unfold zCQ at h;unfold mkOp at hm;split at hm
 ·rename_i hop
  rw[hop]at h;dsimp only at h
  repeat' split at h
  all_goals first | (cases h; exact⟨_,rfl⟩) | cases h
 ·rename_i hop
  rw[hop]at h;dsimp only at h
  repeat' split at h
  all_goals first | (cases h; exact⟨_,rfl⟩) | cases h
 ·rename_i hop
  rw[hop]at h;dsimp only at h
  repeat' split at h
  all_goals first | (cases h; exact⟨_,rfl⟩) | cases h
 ·rename_i hop
  rw[hop]at h;dsimp only at h
  repeat' split at h
  all_goals first | (cases h; exact⟨_,rfl⟩) | cases h
 ·cases hm
theorem zXV  (hm:mkOp o=true) (h:zBQ T own o σ=some (φ,x,σ')):∃ ob,σ'=zBi σ ob:=by
 unfold zBQ at h;split at h
 ·rename_i hl
  unfold zFB at hl;split at hl
  ·rename_i ho
   simp only[mkOp,ho]at hm;cases hm
  ·cases hl
 split at h
 ·rename_i hl
  cases h;exact zZt hm hl
 ·exact zXT hm h
theorem zUw  (hm:mkOp o=true) (h:outc T Γ all own true o σ σ1):∀ k,k<σ.nx->σ1.hp k=σ.hp k:=fun k hk=>by
 have hadd:∀ ob,(zBi σ ob).hp k=σ.hp k:=fun ob=>by
  show(bif Nat.beq k σ.nx then _ else σ.hp k)=σ.hp k;have:Nat.beq k σ.nx=false:=by
   cases e:Nat.beq k σ.nx with
   | false=>rfl
   | true=>have:=Nat.eq_of_beq_eq_true e; omega
  rw[this]; rfl
 have hc:callOf T Γ o σ.env=none/\zBm T o σ.env=none/\∀ K,¬ zHd T o σ K:=by
  unfold mkOp at hm;split at hm <;> first | (rename_i hop; unfold callOf zBm; rw[hop]; exact⟨rfl,rfl,fun K h=>by unfold zHd at h; rw[hop]at h; exact h⟩) | cases hm
 unfold outc at h;split at h
 ·unfold runs at h;rw[hc.1]at h;dsimp only at h;split at h
  ·rename_i φ x σ' hs
   obtain⟨_,rfl⟩:=h;rw[zGH]
   unfold step1 at hs;split at hs
   ·cases hs; rfl
   ·obtain⟨ob,rfl⟩:=zXV hm hs;exact hadd ob
  ·unfold zGp at h;rw[hc.2.1]at h;exact(hc.2.2 _ h).elim
 ·subst h; rw[zGH]
 ·exact h.elim
def apOp (o:Oper):Bool :=
 match o.op with
 | .call { callee:=.builtin .append,args:=_,argTypes:=_ }=>true
 | _=>false
def below (n:Nat->Bool) (σ:St):Prop:=∀ k,n k=true->k<σ.nx
theorem below_le  (h:below n σ) (h':σ.nx<=σ'.nx):below n σ':=fun k hk=>Nat.lt_of_lt_of_le (h k hk) h'
def kp (n:Nat->Bool) (σ σ1:St):Prop:=∀ k,n k=true->σ1.hp k=σ.hp k
def cOp (o:Oper):Bool :=
 match o.op with
 | .call { callee:=.value _,args:=_,argTypes:=_ }=>true
 | _=>false
def roOk (T:Nat->Option TI) (n:Nat->Bool) (o:Oper) (σ σ1:St):Prop:=zEp T n o σ.env=true∨(rdOp o=false/\kp n σ σ1)
def mkS (o:Oper) (r:Bool):Bool:=mkOp o||r
variable {ob:Ob}{k:Nat}
theorem yBE {j:Nat} (hj:j ≠ k) (hn:j<σ.nx):(zBi (zHY σ k) ob).hp j=σ.hp j:=by
 show(bif Nat.beq j σ.nx then _ else (bif Nat.beq j k then none else σ.hp j))=σ.hp j;have e1:Nat.beq j σ.nx=false:=by
  cases e:Nat.beq j σ.nx with
  | false=>rfl
  | true=>have:=Nat.eq_of_beq_eq_true e; omega
 have e2:Nat.beq j k=false:=by
  cases e:Nat.beq j k with
  | false=>rfl
  | true=>exact absurd (Nat.eq_of_beq_eq_true e) hj
 rw[e1,e2]; rfl
theorem zPL  (h:zZy n x=true):∃ k,x = .orow k/\n k=false:=by
 cases x <;> simp only[zZy]at h <;> first | cases h | exact⟨_,rfl,by simpa using h⟩
variable {sz:Nat}
theorem zUh {e:Nat}{kk:Option Nat}{rows:List (List S)} (h:zJF σ (.orow k)=some (kk,e,sz,rows)):kk=some k:=by
 unfold zJF at h;dsimp only at h;split at h
 ·cases h; rfl
 ·cases h
theorem zWh {e kk:Nat}{rows:List (List AV)} (h:zKL σ (.orow k)=some (kk,e,sz,rows)):kk=k:=by
 unfold zKL at h;dsimp only at h;split at h
 ·cases h; rfl
 ·cases h
theorem zWx {t tx:Nat}{y:AV}{z:AV} (hx:zZy n x=true) (hn:below n σ) (h:zIB T σ t tx x y=some (φ,z,σ')):∀ j,n j=true->σ'.hp j=σ.hp j:=fun j hj=>by
 obtain⟨k,rfl,hk⟩:=zPL hx;unfold zIB at h;split at h
 ·rename_i h2 h3
  have hb:=zUh h2;subst hb;split at h
  ·dsimp only at h;split at h
   ·cases h; exact yBE (fun e=>by rw[e,hk]at hj; cases hj) (hn j hj)
   ·cases h
  ·cases h
 ·cases h
theorem yAC  (hn:below n σ) (hm:apOp o=true) (ho:zEp T n o σ.env=true) (h:outc T Γ all own true o σ σ1):∀ k,n k=true->σ1.hp k=σ.hp k:=fun k hk=>by
 obtain⟨args,ts,hop⟩:∃ args ts,o.op = .call { callee:=.builtin .append,args:=args,argTypes:=ts }:=by
  unfold apOp at hm;split at hm
  ·rename_i a b hop; exact⟨_,_,hop⟩
  ·cases hm
 unfold zEp at ho;rw[hop]at ho;dsimp only at ho;split at ho
 case h_2=>cases ho
 rename_i x y t tx e1 e2
 have hc:callOf T Γ o σ.env=none/\zBm T o σ.env=none/\∀ K,¬ zHd T o σ K:=by
  unfold callOf zBm; rw[hop]; exact⟨rfl,rfl,fun K h=>by unfold zHd at h; rw[hop]at h; exact h⟩
 unfold outc at h;split at h
 ·unfold runs at h;rw[hc.1]at h;dsimp only at h;split at h
  ·rename_i φ z σ' hs
   obtain⟨_,rfl⟩:=h;rw[zGH]
   unfold step1 at hs;split at hs
   ·cases hs; rfl
   ·unfold zBQ zFB at hs;rw[hop]at hs;dsimp only at hs;split at hs
    ·rename_i hl
     cases hs;unfold zDa at hl;simp only[zCL]at hl;rw[hop]at hl;dsimp only at hl;rw[e1,e2]at hl;exact zWx ho hn hl k hk
    ·rename_i hl
     unfold zCQ at hs;rw[hop]at hs;dsimp only at hs;rw[e1,e2]at hs;dsimp only at hs;obtain⟨q,hq,hqn⟩:=zPL ho;rw[hq]at hs;split at hs
     ·rename_i h2 h3
      have hb:=zWh h2;subst hb;split at hs
      ·cases hs; exact yBE (fun e=>by rw[e,hqn]at hk; cases hk) (hn _ hk)
      ·cases hs
     ·cases hs
  ·unfold zGp at h;rw[hc.2.1]at h;exact(hc.2.2 _ h).elim
 ·subst h; rw[zGH]
 ·exact h.elim
def stOp (o:Oper):Bool :=
 match o.op with
 | .store _ _ _=>true
 | _=>false
theorem zYU {j:Nat} (hj:j ≠ k):(zEe σ k ob).hp j=σ.hp j:=by
 show(bif Nat.beq j k then _ else σ.hp j)=σ.hp j;have e2:Nat.beq j k=false:=by
  cases e:Nat.beq j k with
  | false=>rfl
  | true=>exact absurd (Nat.eq_of_beq_eq_true e) hj
 rw[e2]; rfl
theorem yBj  (hm:stOp o=true) (ho:zEp T n o σ.env=true) (h:outc T Γ all own true o σ σ1):∀ k,n k=true->σ1.hp k=σ.hp k:=fun k hk=>by
 obtain⟨t,x,y,hop⟩:∃ t x y,o.op = .store t x y:=by
  unfold stOp at hm;split at hm
  ·rename_i a b c hop; exact⟨_,_,_,hop⟩
  ·cases hm
 unfold zEp at ho;rw[hop]at ho;dsimp only at ho;have hc:callOf T Γ o σ.env=none/\zBm T o σ.env=none/\∀ K,¬ zHd T o σ K:=by
  unfold callOf zBm; rw[hop]; exact⟨rfl,rfl,fun K h=>by unfold zHd at h; rw[hop]at h; exact h⟩
 unfold outc at h;split at h
 ·unfold runs at h;rw[hc.1]at h;dsimp only at h;split at h
  ·rename_i φ z σ' hs
   obtain⟨_,rfl⟩:=h;rw[zGH]
   unfold step1 at hs;split at hs
   ·cases hs; rfl
   ·unfold zBQ zFB at hs;rw[hop]at hs;dsimp only at hs;have ne:∀ q,n q=false->k ≠ q:=fun q hq e=>by rw[e,hq]at hk; cases hk
    split at hs
    ·rename_i hl
     cases hs;unfold zDa at hl;simp only[zCL]at hl;rw[hop]at hl;dsimp only at hl;split at hl
     ·rename_i q off i e1 e2
      rw[e1]at ho;simp only[zWC,Bool.not_eq_true']at ho
      repeat' split at hl
      all_goals first | (cases hl; exact zYU (ne _ ho)) | cases hl
     ·rename_i q sz j off i e1 e2
      rw[e1]at ho;simp only[zWC,Bool.not_eq_true']at ho
      repeat' split at hl
      all_goals first | (cases hl; exact zYU (ne _ ho)) | cases hl
     ·cases hl
    ·rename_i hl
     unfold zCQ at hs;rw[hop]at hs;dsimp only at hs;split at hs
     ·rename_i q sz j off i e1 e2
      rw[e1]at ho;simp only[zWC,Bool.not_eq_true']at ho
      repeat' split at hs
      all_goals first | (cases hs; exact zYU (ne _ ho)) | cases hs
     ·cases hs
  ·unfold zGp at h;rw[hc.2.1]at h;exact(hc.2.2 _ h).elim
 ·subst h; rw[zGH]
 ·exact h.elim
theorem zRv  (h:outc T Γ all own false o σ σ1):σ1.hp=σ.hp:=by
 obtain⟨x,rfl,_⟩:=zK9 h;exact zGH _ _ _
theorem zEr  (hl:loud=false∨rdOp o=true) (h:outc T Γ all own loud o σ σ1):σ1.hp=σ.hp:=by
 cases loud with
 | false=>exact zRv h
 | true =>
  rcases hl with hl | hl
  ·cases hl
  ·exact(zFl hl h).1
theorem yBe  (hn:below n σ) (hm:roOk T n o σ σ1) (h:outc T Γ all own loud o σ σ1):kp n σ σ1:=by
 cases loud with
 | false=>intro k _; rw[zRv h]
 | true =>
  rcases hm with hm | ⟨_,hm⟩
  ·cases hr:rdOp o with
   | true=>intro k _; rw[(zFl hr h).1]
   | false =>
    cases hst:stOp o with
    | true=>exact yBj hst hm h
    | false =>
    have ha:apOp o=true:=by
     unfold apOp;split
     ·rfl
     ·rename_i hne
      exfalso
      unfold zEp at hm;unfold rdOp at hr;split at hm
      ·rename_i hop; rw[hop]at hr; cases hr
      ·rename_i hop; rw[hop]at hr; cases hr
      ·rename_i hop; rw[hop]at hr; cases hr
      ·rename_i hop; exact hne _ _ hop
      ·rename_i hop; unfold stOp at hst; rw[hop]at hst; cases hst
      ·cases hm
    exact yAC hn ha hm h
  ·exact hm
theorem zYx  (hr:rdOp o=true) (h:roOk T n o σ σ1):zEp T n o σ.env=true:=by
 rcases h with h | ⟨h,_⟩
 ·exact h
 ·rw[hr]at h; cases h
theorem yAo {r:Bool} (hn:below n σ) (h:mkS o r=true) (hr:r=true->roOk T n o σ σ1) (ho:outc T Γ all own loud o σ σ1):kp n σ σ1:=by
 cases loud with
 | false=>intro k _; rw[zRv ho]
 | true =>
  unfold mkS at h;simp only[Bool.or_eq_true]at h;rcases h with h | h
  ·intro k hk; exact zUw h ho k (hn k hk)
  ·exact yBe hn (hr h) ho
variable {σi σij:St}{owi owj:Bool}{oi oj:Oper}
theorem zX9 {li lj:Bool} (hn:below n σ) (hap:oi.apart all.toArray oj=true) (hl:li=false∨lj=false∨(rdOp oi=true/\rdOp oj=true) ∨
   (kp n σ σi/\rdOp oj=true/\zEp T n oj σi.env=true)∨(rdOp oi=true/\kp n σi σij/\zEp T n oi σ.env=true))
  (h1:outc T Γ all owi li oi σ σi) (h2:outc T Γ all owj lj oj σi σij):∃ σj,outc T Γ all owj lj oj σ σj/\outc T Γ all owi li oi σj σij:=by
 obtain⟨a1,a2,a3⟩:=Oper.apart_spec hap;have hl':li=false∨lj=false∨(li=true/\lj=true/\((rdOp oi=true/\rdOp oj=true) ∨
   (kp n σ σi/\rdOp oj=true/\zEp T n oj σi.env=true)∨(rdOp oi=true/\kp n σi σij/\zEp T n oi σ.env=true))):=by
  cases li with
  | false=>exact .inl rfl
  | true =>
   cases lj with
   | false=>exact .inr (.inl rfl)
   | true =>
        rcases hl with h | h | h
        ·cases h
        ·cases h
        ·exact .inr (.inr ⟨rfl,rfl,h⟩)
 rcases hl' with rfl | rfl | ⟨rfl,rfl,⟨r1,r2⟩ | ⟨r1,r2,r3⟩ | ⟨r1,r2,r3⟩⟩
 ·obtain⟨x,rfl,hq⟩:=zK9 h1;obtain⟨y,hp,nx,rfl,hy⟩:=zF2 h2;have hb:=hy σ.env (Alike.put a1)
  have e:({ (σ.put oi.dst x) with env:=σ.env }:St)=σ :=(by cases oi.dst <;> rfl);rw[e]at hb;refine⟨_,hb,?_⟩
  have:=hq (St.put ⟨σ.env,hp,nx⟩ oj.dst y) (fun t ht=>(Alike.put (σ:=⟨σ.env,hp,nx⟩) (x:=y) a3 t ht).symm)
  rw[put_comm (fun t ht=>fun e=>a2 t e ht)]at this;have e2:St.put ⟨σ.env,hp,nx⟩ oi.dst x=⟨(σ.put oi.dst x).env,hp,nx⟩ :=(by cases oi.dst <;> rfl);rw[e2]at this;exact this
 ·obtain⟨x,hp,nx,rfl,hx⟩:=zF2 h1;obtain⟨y,rfl,hq⟩:=zK9 h2;refine⟨_,hq σ (fun t ht=>Alike.put (σ:=⟨σ.env,hp,nx⟩) (x:=x) a1 t ht),?_⟩
  have:=hx (σ.put oj.dst y).env (fun t ht=>(Alike.put a3 t ht).symm)
  have e1:({ σ with env:=(σ.put oj.dst y).env }:St)=σ.put oj.dst y :=(by cases oj.dst <;> rfl);rw[e1]at this;have e2:(⟨(σ.put oj.dst y).env,hp,nx⟩:St)=St.put ⟨σ.env,hp,nx⟩ oj.dst y :=(by cases oj.dst <;> rfl);rw[e2,put_comm (fun t ht=>fun e=>a2 t e ht)]at this;exact this
 ·have s1:=zFl r1 h1;have s2:=zFl r2 h2;obtain⟨x,hp,nx,rfl,hx⟩:=zF2 h1;obtain⟨y,hp2,nx2,rfl,hy⟩:=zF2 h2;have f1:hp=σ.hp/\nx=σ.nx :=(by cases h:oi.dst <;> (rw[h]at s1; exact s1));obtain⟨rfl,rfl⟩:=f1;have f2:hp2=σ.hp/\nx2=σ.nx :=(by cases h:oi.dst <;> cases h':oj.dst <;> (rw[h,h']at s2; exact s2));obtain⟨rfl,rfl⟩:=f2;have hb:=hy σ.env (Alike.put a1)
  have e:({ St.put ⟨σ.env,σ.hp,σ.nx⟩ oi.dst x with env:=σ.env }:St)=σ :=(by cases oi.dst <;> rfl);rw[e]at hb;refine⟨_,hb,?_⟩
  have:=hx (σ.put oj.dst y).env (fun t ht=>(Alike.put a3 t ht).symm)
  have e1:(⟨(σ.put oj.dst y).env,σ.hp,σ.nx⟩:St)=St.put ⟨σ.env,σ.hp,σ.nx⟩ oj.dst y :=(by cases oj.dst <;> rfl);have e3:St.put ⟨σ.env,σ.hp,σ.nx⟩ oi.dst x=⟨(St.put ⟨σ.env,σ.hp,σ.nx⟩ oi.dst x).env,σ.hp,σ.nx⟩ :=(by cases oi.dst <;> rfl);have key:St.put (St.put ⟨σ.env,σ.hp,σ.nx⟩ oj.dst y) oi.dst x=St.put ⟨(St.put ⟨σ.env,σ.hp,σ.nx⟩ oi.dst x).env,σ.hp,σ.nx⟩ oj.dst y:=by
   rw[put_comm (fun t ht=>fun e=>a2 t e ht),← e3]
  rw[← key]
  have e4:outc T Γ all owi true oi (⟨(σ.put oj.dst y).env,σ.hp,σ.nx⟩:St) (St.put ⟨(σ.put oj.dst y).env,σ.hp,σ.nx⟩ oi.dst x):=this;rw[e1]at e4;exact e4
 ·have m1:=r1;unfold kp at m1;have s2:=zFl r2 h2;obtain⟨x,hp,nx,rfl,hx⟩:=zF2 h1;obtain⟨y,hp2,nx2,rfl,hy⟩:=zF2 h2;rw[zGH]at m1;have f2:hp2=hp/\nx2=nx:=by
   rw[zGH,zGI,zGH,zGI]at s2; exact s2
  obtain⟨rfl,rfl⟩:=f2;have hb:=hy σ.env (Alike.put a1)
  have e:({ St.put ⟨σ.env,hp2,nx2⟩ oi.dst x with env:=σ.env }:St)=⟨σ.env,hp2,nx2⟩ :=(by cases oi.dst <;> rfl);rw[e]at hb;have hal:Alike all oj (St.put ⟨σ.env,hp2,nx2⟩ oi.dst x).env σ.env:=Alike.put a1;have r3':zEp T n oj σ.env=true :=(by rw[← zGJ (n:=n) hal.opds]; exact r3);obtain⟨y',ey,hb'⟩:=zVH (hp':=σ.hp) (nx':=σ.nx) r2 r3' (fun k hk=>(m1 k hk).symm) hb;refine⟨_,hb',?_⟩
  have h3:=hx (σ.put oj.dst y').env (fun t ht=>(Alike.put a3 t ht).symm)
  have e1:({ σ with env:=(σ.put oj.dst y').env }:St)=σ.put oj.dst y' :=(by cases oj.dst <;> rfl);rw[e1]at h3;have e2:(⟨(σ.put oj.dst y').env,hp2,nx2⟩:St)=St.put ⟨σ.env,hp2,nx2⟩ oj.dst y' :=(by cases oj.dst <;> rfl);rw[e2,put_comm (fun t ht=>fun e=>a2 t e ht)]at h3;have e3:St.put (St.put ⟨σ.env,hp2,nx2⟩ oi.dst x) oj.dst y'=St.put ⟨(St.put ⟨σ.env,hp2,nx2⟩ oi.dst x).env,hp2,nx2⟩ oj.dst y:=by
   have e5:(⟨(St.put ⟨σ.env,hp2,nx2⟩ oi.dst x).env,hp2,nx2⟩:St)=St.put ⟨σ.env,hp2,nx2⟩ oi.dst x :=(by cases oi.dst <;> rfl);rw[e5,put_comm (σ:=⟨σ.env,hp2,nx2⟩) (d:=oi.dst) (e:=oj.dst) (x:=x) (y:=y') (fun t ht=>a2 t ht),put_comm (σ:=⟨σ.env,hp2,nx2⟩) (d:=oi.dst) (e:=oj.dst) (x:=x) (y:=y) (fun t ht=>a2 t ht),ey]
  rw[e3]at h3;exact h3
 ·have s1:=zFl r1 h1;have m2:=r2;unfold kp at m2;obtain⟨x,hp,nx,rfl,hx⟩:=zF2 h1;obtain⟨y,hp2,nx2,rfl,hy⟩:=zF2 h2;rw[zGH,zGI]at s1;obtain⟨rfl,rfl⟩:=s1;rw[zGH,zGH]at m2;have hb:=hy σ.env (Alike.put a1)
  have e:({ St.put ⟨σ.env,σ.hp,σ.nx⟩ oi.dst x with env:=σ.env }:St)=σ :=(by cases oi.dst <;> rfl);rw[e]at hb;refine⟨_,hb,?_⟩
  have hal:Alike all oi σ.env (St.put ⟨σ.env,hp2,nx2⟩ oj.dst y).env:=fun t ht=>(Alike.put (σ:=⟨σ.env,hp2,nx2⟩) (x:=y) a3 t ht).symm
  have r3':zEp T n oi (St.put ⟨σ.env,hp2,nx2⟩ oj.dst y).env=true :=(by rw[← zGJ (n:=n) hal.opds]; exact r3);have h1':=hx _ hal;have e6:({ σ with env:=(St.put ⟨σ.env,hp2,nx2⟩ oj.dst y).env }:St)=⟨(St.put ⟨σ.env,hp2,nx2⟩ oj.dst y).env,σ.hp,σ.nx⟩:=rfl;rw[e6]at h1';obtain⟨x',ex,h3⟩:=zVH (hp':=hp2) (nx':=nx2) r1 r3' (fun k hk=>m2 k hk) h1';have e7:(⟨(St.put ⟨σ.env,hp2,nx2⟩ oj.dst y).env,hp2,nx2⟩:St)=St.put ⟨σ.env,hp2,nx2⟩ oj.dst y :=(by cases oj.dst <;> rfl);rw[e7]at h3;have e8:St.put (St.put ⟨σ.env,hp2,nx2⟩ oj.dst y) oi.dst x'=St.put ⟨(St.put ⟨σ.env,σ.hp,σ.nx⟩ oi.dst x).env,hp2,nx2⟩ oj.dst y:=by
   have e9:(⟨(St.put ⟨σ.env,σ.hp,σ.nx⟩ oi.dst x).env,hp2,nx2⟩:St)=St.put ⟨σ.env,hp2,nx2⟩ oi.dst x :=(by cases oi.dst <;> rfl);rw[e9,← put_comm (σ:=⟨σ.env,hp2,nx2⟩) (d:=oj.dst) (e:=oi.dst) (x:=y) (y:=x) (fun t ht=>fun e=>a2 t e ht)]
   cases hd:oi.dst with
   | none=>rfl
   | some d =>
    rw[hd]at ex;have e10:x=x':=by
     have:=congrArg (fun s:St=>s.env d) ex
     simpa [St.put,Nat.beq_refl] using this
    rw[e10]
  rw[e8]at h3;exact h3
def alOp (o:Oper):Bool :=
 match o.op,o.guard with
 | .alloc _,none=>true
 | _,_=>false
theorem zKI  (h:alOp o=true):(∃ t,o.op = .alloc t)/\o.guard=none:=by
 unfold alOp at h;split at h
 ·rename_i t hop hg; exact⟨⟨t,hop⟩,hg⟩
 ·cases h
theorem yBB  (ha:alOp o=true) (h:outc T Γ all own true o σ σ1) :
  ∃ ob,σ1=(zBi σ ob).put o.dst (.op σ.nx 0)/\∀ σ2,outc T Γ all own true o σ2 ((zBi σ2 ob).put o.dst (.op σ2.nx 0)):=by
 obtain⟨⟨t,hop⟩,hg⟩:=zKI ha;have hc:∀ env,callOf T Γ o env=none:=fun env=>by unfold callOf; rw[hop]
 have hp:∀ env,zB9 T own o env=none:=fun env=>by unfold zB9; rw[hop]
 have hgt:∀ env,gate all o env=some true:=fun env=>by unfold gate; rw[hg]
 have hr:∀ σ K,¬ zGp T (noHeap Γ) own o σ K:=fun σ K hk=>by
  unfold zGp zBm at hk;rw[hop]at hk;dsimp only at hk;unfold zHd at hk;rw[hop]at hk;exact hk
 unfold outc runs at h;rw[hgt]at h;dsimp only at h;rw[hc]at h;dsimp only at h;cases hT:T t with
 | none =>
  have hs:step1 T own o σ=none:=by
   unfold step1 zBQ zFB zDa zCQ;rw[hp,hop]
   dsimp only;rw[hT]
  rw[hs]at h;exact(hr _ _ h).elim
 | some i =>
  have hs:∀ σ:St,step1 T own o σ=some (none,.op σ.nx 0,zBi σ (.box t (i.zero.map zAV))):=fun σ=>by
   unfold step1 zBQ zFB zDa;rw[hp,hop]
   dsimp only;rw[hT]
   dsimp only;rw[zCL]
  rw[hs]at h;refine⟨.box t (i.zero.map zAV),h.2,fun σ2=>?_⟩
  unfold outc runs;rw[hgt]
  dsimp only;rw[hc]
  dsimp only;rw[hs]
  exact⟨trivial,rfl⟩
def lowK (m:Nat):List Nat->Bool
 | []=>true
 | k::ks=>match Nat.blt k m with | true=>lowK m ks | false=>false
theorem zS5 {m:Nat}:∀ {ks:List Nat},lowK m ks=true->∀ k∈ks,k<m
 | [],_,k,hk=>by cases hk
 | q::ks,h,k,hk=>by
  unfold lowK at h;split at h
  ·rename_i e
   rcases List.mem_cons.1 hk with rfl | hk
   ·exact Nat.le_of_ble_eq_true e
   ·exact zS5 h k hk
  ·cases h
theorem zXS {m:Nat}:∀ {ks:List Nat},(∀ k∈ks,k<m)->lowK m ks=true
 | [],_=>rfl
 | q::ks,h=>by
  unfold lowK;have e:Nat.blt q m=true:=Nat.ble_eq_true_of_le (h q mem_cons_self)
  rw[e]
  exact zXS fun k hk=>h k (mem_cons_of_mem _ hk)
def cmF (T:Nat->Option TI) (Γ:Nat->Option zAr) (o:Oper) (σ σ1:St):Prop :=
 callOf T Γ o σ.env=none/\σ1.nx=σ.nx/\∃ g xs s R,zBm T o σ.env=some (g,xs)/\noHeap Γ g=some s/\s.own=some R/\s.nil=none/\lowK σ.nx (zAp σ.hp 64 (AV.keysAll xs) [])=true
def cmP (T:Nat->Option TI) (Γ:Nat->Option zAr) (o:Oper) (σ σ1:St):Prop :=
 match zBm T o σ.env with
 | some (g,xs)=>match noHeap Γ g with
  | some s=>match s.own,s.nil with
   | some _,none=>lowK σ.nx (zAp σ.hp 64 (AV.keysAll xs) [])=true/\σ1.nx=σ.nx
   | _,_=>False
  | none=>False
 | none=>False
theorem yAK  (hc:callOf T Γ o σ.env=none) (h:cmP T Γ o σ σ1):cmF T Γ o σ σ1:=by
 unfold cmP at h;split at h
 ·rename_i g xs h1
  split at h
  ·rename_i s h2
   split at h
   ·rename_i R h3 h4
    exact⟨hc,h.2,g,xs,s,R,h1,h2,h3,h4,h.1⟩
   ·exact h.elim
  ·exact h.elim
 ·exact h.elim
theorem zLI {env:Nat->AV}{p:Nat×List AV} (h:zBm T o env=some p):∃ f args ts,o.op = .call { callee:=.value f,args:=args,argTypes:=ts }:=by
 unfold zBm at h;split at h
 ·rename_i f args ts hop; exact⟨f,args,ts,hop⟩
 ·cases h
theorem yBJ  (h:cmF T Γ o σ σ1):alOp o=false:=by
 obtain⟨_,_,g,xs,s,R,h1,_⟩:=h;obtain⟨f,args,ts,hop⟩:=zLI h1;cases e:alOp o with
 | false=>rfl
 | true =>
  obtain⟨⟨t,hop'⟩,_⟩:=zKI e;rw[hop]at hop'; cases hop'
theorem zXy  (h:cmF T Γ o σ σ1):rdOp o=false:=by
 obtain⟨_,_,g,xs,s,R,h1,_⟩:=h;obtain⟨f,args,ts,hop⟩:=zLI h1;unfold rdOp;rw[hop]
theorem zQy {σ1':St} (h:cmF T Γ o σ σ1) (ha:∀ x∈o.op.operands,∀ ty,opd T σ.env ty x=opd T σ'.env ty x) (hh:σ'.hp=σ.hp) (hn:σ'.nx=σ.nx) (hn1:σ1'.nx=σ1.nx):cmF T Γ o σ' σ1':=by
 obtain⟨h0,h1,g,xs,s,R,h2,h3,h4,h5,h6⟩:=h;exact⟨by rw[← zCB (Γ:=Γ) ha]; exact h0,by rw[hn1,hn]; exact h1,g,xs,s,R,by rw[← zDk ha]; exact h2,h3,h4,h5,by rw[hn,hh]; exact h6⟩
def addk (hp:Nat->Option Ob) (m:Nat) (ob:Ob):Nat->Option Ob:=fun k=>bif Nat.beq k m then some ob else hp k
theorem zXo {m:Nat} (h:k ≠ m):addk hp m ob k=hp k:=by
 unfold addk;cases e:Nat.beq k m with
 | false=>rfl
 | true=>exact absurd (Nat.eq_of_beq_eq_true e) h
theorem qA {P:Prop} (h:P:=by exact zCa n _ _ k (mem_append_left _ h)):P:=h
theorem zCa {hp:Nat->Option Ob}:∀ (n:Nat) (ks acc:List Nat),∀ k∈acc,k∈zAp hp n ks acc
 | 0,_,acc,k,h=>by unfold zAp; exact h
 | n+1,[],acc,k,h=>by unfold zAp; exact h
 | n+1,q::ks,acc,k,h=>by
  unfold zAp;split
  ·exact zCa n ks acc k h
  ·split
   ·exact qA
   ·exact qA
   ·exact qA
   ·exact qA
theorem gZ {P:Prop} (h:P:=by exact h q (zCa n _ _ q (mem_append_right _ mem_cons_self))):P:=h
theorem zDW {hp:Nat->Option Ob}{m:Nat}{ob:Ob}:∀ (n:Nat) (ks acc:List Nat),(∀ k∈zAp hp n ks acc,k ≠ m)->zAp (addk hp m ob) n ks acc=zAp hp n ks acc
 | 0,_,acc,h=>by unfold zAp; rfl
 | n+1,[],acc,h=>by unfold zAp; rfl
 | n+1,q::ks,acc,h=>by
  unfold zAp at h ⊢;cases e:kin q acc with
  | true =>
   rw[e]at h;dsimp only at h ⊢;exact zDW n ks acc h
  | false =>
   rw[e]at h;dsimp only at h ⊢;have hq:q ≠ m:=by
    split at h
    ·exact gZ
    ·exact gZ
    ·exact gZ
    ·exact gZ
   rw[zXo hq]
   split
   ·rename_i t cells e2
    rw[e2]at h;exact zDW n _ _ h
   ·rename_i e sz rows e2
    rw[e2]at h;exact zDW n _ _ h
   ·rename_i τ xs e2
    rw[e2]at h;exact zDW n _ _ h
   ·rename_i e2 e4 e5
    split at h
    ·rename_i t cells e3; exact absurd e3 (e2 t cells)
    ·rename_i e sz rows e3; exact absurd e3 (e4 e sz rows)
    ·rename_i τ xs e3; exact absurd e3 (e5 τ xs)
    ·exact zDW n _ _ h
theorem zTc {hp:Nat->Option Ob}{m:Nat}{ob:Ob}{ρ:List (Nat×Nat)}:∀ {ks:List Nat},(∀ k∈ks,k ≠ m)->zKZ (addk hp m ob) ρ ks=zKZ hp ρ ks
 | [],_=>rfl
 | k::ks,h=>by
  unfold zKZ;rw[zXo (h k mem_cons_self),zTc fun q hq=>h q (mem_cons_of_mem _ hq)]
theorem zNw {nx nx':Nat}:∀ {ks:List Nat}{i:Nat},i<ks.length->zES ks nx i=zES ks nx' i/\zES ks nx i∈ks
 | [],i,h=>by simp at h
 | k::ks,0,_=>⟨rfl,mem_cons_self⟩
 | k::ks,i+1,h=>by
  have:=zNw (nx:=nx) (nx':=nx') (ks:=ks) (i:=i) (by simpa using h)
  exact⟨this.1,mem_cons_of_mem _ this.2⟩
theorem zNx {ks:List Nat}{nx nx':Nat}:∀ {os:List (Option Ob)}{i:Nat},i+os.length<=ks.length->zEg ks nx i os=zEg ks nx' i os
 | [],_,_=>rfl
 | none::r,i,h=>by
  unfold zEg;exact zNx (by simp only[length_cons]at h; omega)
 | some o::r,i,h=>by
  unfold zEg;simp only[length_cons]at h;rw[(zNw (nx:=nx) (nx':=nx') (by omega)).1,zNx (nx:=nx) (nx':=nx') (by omega)]
theorem zPF {ρ:List (Nat×Nat)}{f f':Nat->Nat}{m:Nat}{ob:Ob}:∀ {os:List (Option Ob)}{i:Nat}{hp:Nat->Option Ob},(∀ j,j<os.length->f' (i+j)=f (i+j)/\f (i+j) ≠ m) ->
  zJJ ρ f' i os (addk hp m ob)=addk (zJJ ρ f i os hp) m ob
 | [],_,_,_=>rfl
 | o::os,i,hp,h=>by
  unfold zJJ;obtain⟨h1,h2⟩:=h 0 (by simp)
  rw[Nat.add_zero]at h1 h2;rw[← zPF (os:=os) (i:=i+1) fun j hj=>by
   have:=h (j+1) (by simp only[length_cons]; omega)
   rw[show i+(j+1)=i+1+j by omega]at this;exact this]
  congr 1
  funext k
  rw[h1]
  unfold addk;cases e1:Nat.beq k (f i) with
  | false=>simp only[e1,cond_false]
  | true =>
   cases e2:Nat.beq k m with
   | false=>simp only[e1,cond_false,cond_true]
   | true=>exact absurd ((Nat.eq_of_beq_eq_true e1).symm.trans (Nat.eq_of_beq_eq_true e2)) h2
theorem zSz {Γ':Nat->Option zAr}{g:Nat}{xs:List AV}{s:zAr}{R:List AV->List Ob->AV->List (Option Ob)->Prop} (h1:zBm T o σ.env=some (g,xs)) (h2:Γ' g=some s) (h3:s.heap=none) (h4:s.own=some R) (h5:s.nil=none) :
  zGp T Γ' own o σ K↔∃ os,distinct (zAp σ.hp 64 (AV.keysAll xs) [])=true/\zKZ σ.hp (zipI 0 (zAp σ.hp 64 (AV.keysAll xs) [])) (zAp σ.hp 64 (AV.keysAll xs) [])=some os /\
   ∃ x os',R (AV.renAll (zipI 0 (zAp σ.hp 64 (AV.keysAll xs) [])) xs) os x os'/\K (x.ren (zEg (zAp σ.hp 64 (AV.keysAll xs) []) σ.nx 0 os')) (handed σ (zAp σ.hp 64 (AV.keysAll xs) []) os'):=by
 unfold zGp;rw[h1]
 dsimp only;rw[h2]
 dsimp only;rw[h3]
 dsimp only;rw[h4]
 unfold zFO;rw[h5]
 dsimp only
 constructor
 ·intro h;split at h
  ·rename_i os e1 e2
   exact⟨os,e1,e2,h⟩
  ·exact h.elim
 ·rintro⟨os,e1,e2,h⟩
  rw[e1,e2]
  exact h
theorem zP0 {f:Operand}{args:Array Operand}{ts:Array TypeId} (hop:o.op = .call { callee:=.value f,args:=args,argTypes:=ts }):step1 T own o σ=none:=by
 unfold step1 zB9 zBQ zFB zDa zCQ;rw[hop]
theorem yAL  (hap:oi.apart all.toArray oj=true) (hc:cmF T Γ oi σ σi) (hal:alOp oj=true)
  (h1:outc T Γ all owi true oi σ σi) (h2:outc T Γ all owj true oj σi σij):∃ σj,outc T Γ all owj true oj σ σj/\outc T Γ all owi true oi σj σij/\cmF T Γ oi σj σij:=by
 obtain⟨a1,a2,a3⟩:=Oper.apart_spec hap;obtain⟨ob,hij,hany⟩:=yBB hal h2;obtain⟨c0,c1,g,xs,s,R,c2,c3,c4,c5,c6⟩:=hc;obtain⟨f,args,ts,hop⟩:=zLI c2;have hlow:=zS5 c6;have hne:∀ k∈zAp σ.hp 64 (AV.keysAll xs) [],k ≠ σ.nx:=fun k hk e=>by have:=hlow k hk; omega
 refine⟨_,hany σ,?_⟩
 have henv:((zBi σ ob).put oj.dst (.op σ.nx 0)).env=(σ.put oj.dst (.op σ.nx 0)).env :=(by cases oj.dst <;> rfl);have hhp:((zBi σ ob).put oj.dst (.op σ.nx 0)).hp=addk σ.hp σ.nx ob :=(by cases oj.dst <;> rfl);have hnx:((zBi σ ob).put oj.dst (.op σ.nx 0)).nx=σ.nx+1 :=(by cases oj.dst <;> rfl);have al:Alike all oi σ.env ((zBi σ ob).put oj.dst (.op σ.nx 0)).env:=by
  rw[henv]
  exact fun t ht=>(Alike.put (σ:=σ) (x:=.op σ.nx 0) a3 t ht).symm
 have nij:σij.nx=σ.nx+1:=by
  rw[hij,zGI]
  show σi.nx+1=σ.nx+1;rw[c1]
 have ck:zAp (addk σ.hp σ.nx ob) 64 (AV.keysAll xs) []=zAp σ.hp 64 (AV.keysAll xs) []:=zDW _ _ _ hne;refine⟨?_,⟨by rw[← zCB (Γ:=Γ) al.opds]; exact c0,by rw[nij,hnx],g,xs,s,R,by rw[← zDk al.opds]; exact c2,c3,c4,c5,?_⟩⟩
 ·generalize hσj:(zBi σ ob).put oj.dst (.op σ.nx 0)=σj at *;unfold outc at h1 ⊢;rw[← al.gate]
  split at h1
  ·rename_i hg
   unfold runs at h1 ⊢;rw[c0]at h1;rw[← zCB (Γ:=Γ) al.opds,c0]
   dsimp only at h1 ⊢;rw[zP0 hop]at h1 ⊢;dsimp only at h1 ⊢;rw[zSz c2 c3 (zHx c3).2 c4 c5]at h1;rw[zSz (by rw[← zDk al.opds]; exact c2) c3 (zHx c3).2 c4 c5]
   obtain⟨os,e1,e2,x,os',e3,e4⟩:=h1;rw[hhp,hnx,ck,zTc hne]
   refine⟨os,e1,e2,x,os',e3,?_⟩
   have hle:os'.length<=(zAp σ.hp 64 (AV.keysAll xs) []).length:=by
    have:(handed σ (zAp σ.hp 64 (AV.keysAll xs) []) os').nx=σ.nx:=by
     rw[← c1,e4,zGI]
    have h3:σ.nx+(os'.length - (zAp σ.hp 64 (AV.keysAll xs) []).length)=σ.nx:=this
    omega
   have hbl:zEg (zAp σ.hp 64 (AV.keysAll xs) []) (σ.nx+1) 0 os'=zEg (zAp σ.hp 64 (AV.keysAll xs) []) σ.nx 0 os':=zNx (by omega)
   have hlay:zJJ (zEg (zAp σ.hp 64 (AV.keysAll xs) []) (σ.nx+1) 0 os') (zES (zAp σ.hp 64 (AV.keysAll xs) []) (σ.nx+1)) 0 os' (addk σ.hp σ.nx ob) =
     addk (zJJ (zEg (zAp σ.hp 64 (AV.keysAll xs) []) σ.nx 0 os') (zES (zAp σ.hp 64 (AV.keysAll xs) []) σ.nx) 0 os' σ.hp) σ.nx ob:=by
    rw[hbl]
    refine zPF fun j hj=>?_
    have hb:=zNw (nx:=σ.nx) (nx':=σ.nx+1) (ks:=zAp σ.hp 64 (AV.keysAll xs) []) (i:=0+j) (by omega)
    exact⟨hb.1.symm,hne _ hb.2⟩
   rw[hbl]
   have hh:handed σj (zAp σ.hp 64 (AV.keysAll xs) []) os'=⟨σj.env,addk (handed σ (zAp σ.hp 64 (AV.keysAll xs) []) os').hp σ.nx ob,σ.nx+1⟩:=by
    unfold handed;rw[hhp,hnx,hlay]
    have:σ.nx+1+(os'.length - (zAp σ.hp 64 (AV.keysAll xs) []).length)=σ.nx+1 :=(by omega);rw[this]
   rw[hh,hij,e4,← hσj]
   have hn2:(handed σ (zAp σ.hp 64 (AV.keysAll xs) []) os').nx=σ.nx :=(by rw[← c1,e4,zGI]);have he2:(handed σ (zAp σ.hp 64 (AV.keysAll xs) []) os').env=σ.env:=rfl;generalize handed σ (zAp σ.hp 64 (AV.keysAll xs) []) os'=τ at *;obtain⟨te,th,tn⟩:=τ;dsimp only at hn2 he2;subst hn2;subst he2;have hcm:=put_comm (σ:=(⟨σ.env,addk th σ.nx ob,σ.nx+1⟩:St)) (d:=oi.dst) (e:=oj.dst) (x:=x.ren (zEg (zAp σ.hp 64 (AV.keysAll xs) []) σ.nx 0 os')) (y:=.op σ.nx 0) (fun t ht e=>a2 t ht e)
   have l1:(zBi (St.put ⟨σ.env,th,σ.nx⟩ oi.dst (x.ren (zEg (zAp σ.hp 64 (AV.keysAll xs) []) σ.nx 0 os'))) ob)=St.put ⟨σ.env,addk th σ.nx ob,σ.nx+1⟩ oi.dst (x.ren (zEg (zAp σ.hp 64 (AV.keysAll xs) []) σ.nx 0 os')) :=(by cases oi.dst <;> rfl);have l2:(St.put ⟨σ.env,th,σ.nx⟩ oi.dst (x.ren (zEg (zAp σ.hp 64 (AV.keysAll xs) []) σ.nx 0 os'))).nx=σ.nx :=(by rw[zGI]);rw[l1,l2,hcm]
   have l3:(⟨((zBi σ ob).put oj.dst (.op σ.nx 0)).env,addk th σ.nx ob,σ.nx+1⟩:St)=St.put ⟨σ.env,addk th σ.nx ob,σ.nx+1⟩ oj.dst (.op σ.nx 0) :=(by cases oj.dst <;> rfl);rw[l3]
  ·rename_i hg
   subst h1;rw[hij,← hσj]
   have l1:zBi (σ.put oi.dst (.tup [])) ob=(zBi σ ob).put oi.dst (.tup []) :=(by cases oi.dst <;> rfl);rw[l1,zGI,put_comm (fun t ht e=>a2 t ht e)]
  ·exact h1.elim
 ·rw[hhp,ck,hnx]
  exact zXS fun k hk=>Nat.lt_succ_of_lt (hlow k hk)
def fct (T:Nat->Option TI) (Γ:Nat->Option zAr) (L Ro:List Nat) (n:Nat->Bool) (i:Nat) (o:Oper) (σ σ1:St):Prop :=
 (inL i Ro=true->roOk T n o σ σ1)/\(inL (i+1000) Ro=true->inL i L=true->cmF T Γ o σ σ1)
theorem zM2  (hl:loud=false∨rdOp o=true) (h:outc T Γ all own loud o σ σ1):σ1.nx=σ.nx:=by
 cases loud with
 | false =>
  obtain⟨x,rfl,_⟩:=zK9 h;rw[zGI]
 | true =>
  rcases hl with h' | h'
  ·cases h'
  ·exact(zFl h' h).2
def aOp (T:Nat->Option TI) (Γ:Nat->Option zAr) (M L Ro:List Nat) (n:Nat->Bool) (ops:List Oper) (i:Nat) (K:St->Prop) (σ:St):Prop :=
 match ops[i]? with
 | none=>K σ
 | some o=>∃ σ1,outc T Γ ops (dIn o.dst M) (inL i L) o σ σ1/\fct T Γ L Ro n i o σ σ1/\K σ1
def aAny (T:Nat->Option TI) (Γ:Nat->Option zAr) (M L Ro:List Nat) (n:Nat->Bool) (ops:List Oper) (Q:St->Prop):Nat->Array Bool->St->Prop
 | 0,listed,σ=>Region.ready .any ops.toArray listed=[]/\Q σ
 | fuel+1,listed,σ =>
  (Region.ready .any ops.toArray listed=[]->Q σ) /\
  ∀ i∈Region.ready .any ops.toArray listed,aOp T Γ M L Ro n ops i (aAny T Γ M L Ro n ops Q fuel (listed.setIfInBounds i true)) σ
theorem zLE {o':Oper} (hd:∀ t,o.dst=some t->t ∉ o'.looksAt all.toArray) (h:outc T Γ all own loud o σ σ1):Alike all o' σ1.env σ.env:=by
 obtain⟨x,hp,nx,rfl,_⟩:=zF2 h;intro t ht;exact Alike.put (σ:=⟨σ.env,hp,nx⟩) (x:=x) hd t ht
variable {ops:List Oper}{L Ro:List Nat}
theorem zWe {M:List Nat}{Q:St->Prop}{i:Nat} (hi:ops[i]? = some oi){D:List Nat}
  (hD:∀ d od,d∈D->d ≠ i->ops[d]? = some od->∃ e∈od.after,Region.binds .any e=true/\e.on∈D) :
  ∀ (fuel:Nat) (listed:Array Bool) (σ σi:St),below n σ->fct T Γ L Ro n i oi σ σi->(∀ d,d∈D->listed.getD d true=false) ->
   (∀ j oj,ops[j]? = some oj->j ≠ i->listed.getD j true=false->j ∉ D->oi.apart ops.toArray oj=true/\(inL i L=false∨inL j L=false∨(rdOp oi=true/\rdOp oj=true)∨(mkS oi (inL i Ro)=true/\rdOp oj=true/\inL j Ro=true)∨(rdOp oi=true/\mkS oj (inL j Ro)=true/\inL i Ro=true)∨(inL i L=true/\inL j L=true/\inL (i+1000) Ro=true/\alOp oj=true))) ->
   i∈Region.ready .any ops.toArray listed->outc T Γ ops (dIn oi.dst M) (inL i L) oi σ σi ->
   aAny T Γ M L Ro n ops Q fuel (listed.setIfInBounds i true) σi->aAny T Γ M L Ro n ops Q (fuel+1) listed σ:=by
 intro fuel
 induction fuel with
 | zero =>
  intro listed σ σi _ hro _ _ hr ho H;refine⟨fun h=>(by rw[h]at hr; cases hr),fun j hj=>?_⟩
  by_cases hji:j=i
  ·subst hji; unfold aOp; rw[hi]; exact⟨σi,ho,hro,H⟩
  ·have:=ready_mono hj hji;rw[H.1]at this;cases this
 | succ fuel ih =>
  intro listed σ σi hn hro hU hfree hr ho H;refine⟨fun h=>(by rw[h]at hr; cases hr),fun j hj=>?_⟩
  by_cases hji:j=i
  ·subst hji; unfold aOp; rw[hi]; exact⟨σi,ho,hro,H⟩
  ·have h1:=H.2 j (ready_mono hj hji)
   obtain⟨hjun,oj,hoj,hall⟩:=mem_ready.1 hj;have hoj':ops[j]? = some oj :=(by simpa using hoj);have hnot:j ∉ D:=fun hjD=>by
    obtain⟨e,he,hb,heD⟩:=hD j oj hjD hji hoj';have h1:=hall e he hb;have h0:=hU _ heD;rcases Nat.lt_or_ge e.on listed.size with h' | h'
    ·simp[h']at h0 h1; rw[h0]at h1; cases h1
    ·simp[Array.getElem?_eq_none h']at h1
   unfold aOp at h1 ⊢;rw[hoj']at h1 ⊢;obtain⟨σij,h2,h2r,h3⟩:=h1;obtain⟨hap,hll⟩:=hfree j oj hoj' hji hjun hnot;obtain⟨p1,p2,p3⟩:=Oper.apart_spec hap;have key:∃ σj,outc T Γ ops (dIn oj.dst M) (inL j L) oj σ σj/\outc T Γ ops (dIn oi.dst M) (inL i L) oi σj σij/\fct T Γ L Ro n j oj σ σj/\fct T Γ L Ro n i oi σj σij:=by
    have old:(inL i L=false∨inL j L=false∨(rdOp oi=true/\rdOp oj=true)∨(mkS oi (inL i Ro)=true/\rdOp oj=true/\inL j Ro=true)∨(rdOp oi=true/\mkS oj (inL j Ro)=true/\inL i Ro=true)) ->
      ∃ σj,outc T Γ ops (dIn oj.dst M) (inL j L) oj σ σj/\outc T Γ ops (dIn oi.dst M) (inL i L) oi σj σij/\fct T Γ L Ro n j oj σ σj/\fct T Γ L Ro n i oi σj σij:=fun hll=>by
     obtain⟨σj,h4,h5⟩:=zX9 (n:=n) hn hap (by
      rcases hll with h | h | h | ⟨h,h',h''⟩ | ⟨h,h',h''⟩
      ·exact .inl h
      ·exact .inr (.inl h)
      ·exact .inr (.inr (.inl h))
      ·exact .inr (.inr (.inr (.inl ⟨yAo hn h hro.1 ho,h',zYx h' (h2r.1 h'')⟩)))
      ·exact .inr (.inr (.inr (.inr ⟨h,yAo (below_le hn (zRp ho)) h' h2r.1 h2,zYx h (hro.1 h'')⟩)))) ho h2
     have al1:Alike ops oj σi.env σ.env:=zLE p1 ho;have al2:Alike ops oi σj.env σ.env:=zLE p3 h4;have still:(σi.hp=σ.hp/\σij.hp=σj.hp)∨(σj.hp=σ.hp/\σij.hp=σi.hp):=by
      rcases hll with h | h | ⟨h,_⟩ | ⟨_,h,_⟩ | ⟨h,_,_⟩
      ·exact .inl ⟨zEr (.inl h) ho,zEr (.inl h) h5⟩
      ·exact .inr ⟨zEr (.inl h) h4,zEr (.inl h) h2⟩
      ·exact .inl ⟨zEr (.inr h) ho,zEr (.inr h) h5⟩
      ·exact .inr ⟨zEr (.inr h) h4,zEr (.inr h) h2⟩
      ·exact .inl ⟨zEr (.inr h) ho,zEr (.inr h) h5⟩
     refine⟨σj,h4,h5,⟨fun h=>?_,fun h hL=>?_⟩,⟨fun h=>?_,fun h hL=>?_⟩⟩
     ·rcases h2r.1 h with h1 | ⟨hr,h1⟩
      ·exact .inl (by rw[← zGJ (n:=n) al1.opds]; exact h1)
      ·refine .inr ⟨hr,fun k hk=>?_⟩
       rcases still with ⟨e1,e2⟩ | ⟨e1,_⟩
       ·rw[← e2,h1 k hk,e1]
       ·rw[e1]
     ·have hc:=h2r.2 h hL;have hs:inL i L=false∨rdOp oi=true:=by
       rcases hll with h | h | ⟨h,_⟩ | ⟨_,h,_⟩ | ⟨h,_,_⟩
       ·exact .inl h
       ·rw[hL]at h; cases h
       ·exact .inr h
       ·rw[zXy hc]at h; cases h
       ·exact .inr h
      exact zQy hc al1.opds (zEr hs ho).symm (zM2 hs ho).symm (zM2 hs h5).symm
     ·rcases hro.1 h with h1 | ⟨hr,h1⟩
      ·exact .inl (by rw[zGJ (n:=n) al2.opds]; exact h1)
      ·refine .inr ⟨hr,fun k hk=>?_⟩
       rcases still with ⟨_,e2⟩ | ⟨e1,e2⟩
       ·rw[e2]
       ·rw[e2,h1 k hk,e1]
     ·have hc:=hro.2 h hL;have hs:inL j L=false∨rdOp oj=true:=by
       rcases hll with h | h | ⟨h,_⟩ | ⟨_,h,_⟩ | ⟨h,_,_⟩
       ·rw[hL]at h; cases h
       ·exact .inl h
       ·rw[zXy hc]at h; cases h
       ·exact .inr h
       ·rw[zXy hc]at h; cases h
      exact zQy hc (fun x hx ty=>(al2.opds x hx ty).symm) (zEr hs h4) (zM2 hs h4) (zM2 hs h2)
    rcases hll with h | h | h | h | h | ⟨hiL,hjL,hf,hal⟩
    ·exact old (.inl h)
    ·exact old (.inr (.inl h))
    ·exact old (.inr (.inr (.inl h)))
    ·exact old (.inr (.inr (.inr (.inl h))))
    ·exact old (.inr (.inr (.inr (.inr h))))
    ·rw[hiL]at ho;rw[hjL]at h2;obtain⟨σj,h4,h5,h6⟩:=yAL hap (hro.2 hf hiL) hal ho h2;have al2:Alike ops oi σj.env σ.env:=zLE p3 h4;have hmk:mkOp oj=true:=by
      obtain⟨⟨t,hop⟩,_⟩:=zKI hal;unfold mkOp; rw[hop]
     have hrj:rdOp oj=false:=by
      obtain⟨⟨t,hop⟩,_⟩:=zKI hal;unfold rdOp; rw[hop]
     have m1:=zUw hmk h4;have m2:=zUw hmk h2;refine⟨σj,by rw[hjL]; exact h4,by rw[hiL]; exact h5,⟨fun _=>.inr ⟨hrj,fun k hk=>m1 k (hn k hk)⟩,fun h hL=>?_⟩,⟨fun h=>?_,fun _ _=>h6⟩⟩
     ·have:=yBJ (h2r.2 h hL)
      rw[hal]at this; cases this
     ·rcases hro.1 h with h1 | ⟨hr,h1⟩
      ·exact .inl (by rw[zGJ (n:=n) al2.opds]; exact h1)
      ·refine .inr ⟨hr,fun k hk=>?_⟩
       rw[m2 k (below_le hn (zRp ho) k hk),h1 k hk,m1 k (hn k hk)]
   obtain⟨σj,h4,h5,tj,ti⟩:=key;refine⟨σj,h4,tj,ih (listed.setIfInBounds j true) σj σij (below_le hn (zRp h4)) ti (fun d hd=>by rw[getD_set_ne true (fun e=>hnot (by rw[e]; exact hd))]; exact hU d hd) (fun k ok hk hki hun hno=>?_) (ready_mono hr (Ne.symm hji)) h5 (by rw[Array.setIfInBounds_comm _ _ hji]; exact h3)⟩
   refine hfree k ok hk hki ?_ hno
   by_cases hjk:j=k
   ·subst hjk; exact hjun
   ·rw[getD_set_ne true hjk]at hun; exact hun
def aLex (T:Nat->Option TI) (Γ:Nat->Option zAr) (M L Ro:List Nat) (n:Nat->Bool) (all:List Oper) (Q:St->Prop):List Oper->Nat->St->Prop
 | [],_,σ=>Q σ
 | o::os,k,σ=>∃ σ1,outc T Γ all (dIn o.dst M) (inL k L) o σ σ1/\fct T Γ L Ro n k o σ σ1/\aLex T Γ M L Ro n all Q os (k+1) σ1
def depL (ops:Array Oper) (i:Nat):List Nat :=
 (List.range ops.size).foldl (fun acc j=>match j == i||(match ops[j]? with | some oj=>oj.after.any (fun e=>Region.binds .any e&&inL e.on acc) | none=>false) with | true=>j::acc | false=>acc) []
def yAZ (ops:Array Oper) (L Ro:List Nat) (listed:Array Bool) (i:Nat):Bool :=
 (depL ops i).all (fun d=>!(listed.getD d true))&&(List.range ops.size).all fun j=>j == i||listed.getD j true||inL j (depL ops i)||match ops[i]?,ops[j]? with
  | some oi,some oj=>oi.apart ops oj&&(!(inL i L)||!(inL j L)||(rdOp oi&&rdOp oj)||(mkS oi (inL i Ro)&&rdOp oj&&inL j Ro)||(rdOp oi&&mkS oj (inL j Ro)&&inL i Ro)||(inL i L&&inL j L&&inL (i+1000) Ro&&alOp oj))
  | _,_=>true
def lexD (ops:Array Oper) (L Ro:List Nat):Nat->Nat->Array Bool->Bool
 | 0,_,listed=>(Region.ready .any ops listed).isEmpty
 | fuel+1,k,listed=>(Region.ready .any ops listed).contains k&&yAZ ops L Ro listed k&&lexD ops L Ro fuel (k+1) (listed.setIfInBounds k true)
theorem zNP {t:Nat}:∀ {l:List Nat},inL t l=true↔t∈l
 | []=>by simp[inL]
 | x::l=>by
  simp only[inL,Bool.or_eq_true,mem_cons,zNP (l:=l)]
  exact⟨fun h=>h.imp Nat.eq_of_beq_eq_true id,fun h=>h.imp (fun e=>by rw[e]; exact Nat.beq_refl _) id⟩
theorem zXD (ops:Array Oper) (i:Nat):∀ d od,d∈depL ops i->d ≠ i->ops[d]? = some od->∃ e∈od.after,Region.binds .any e=true/\e.on∈depL ops i:=by
 have key:∀ (l:List Nat) (acc:List Nat),(∀ d od,d∈acc->d ≠ i->ops[d]? = some od->∃ e∈od.after,Region.binds .any e=true/\e.on∈acc) ->
   ∀ d od,d∈l.foldl (fun acc j=>match j == i||(match ops[j]? with | some oj=>oj.after.any (fun e=>Region.binds .any e&&inL e.on acc) | none=>false) with | true=>j::acc | false=>acc) acc->d ≠ i->ops[d]? = some od ->
    ∃ e∈od.after,Region.binds .any e=true/\e.on∈l.foldl (fun acc j=>match j == i||(match ops[j]? with | some oj=>oj.after.any (fun e=>Region.binds .any e&&inL e.on acc) | none=>false) with | true=>j::acc | false=>acc) acc:=by
  intro l
  induction l with
  | nil=>intro acc h; exact h
  | cons j l ih =>
   intro acc h;simp only[foldl_cons]
   refine ih _ ?_;intro d od hd hne hod;split at hd
   ·rename_i hc
    rcases List.mem_cons.1 hd with rfl | hd
    ·simp only[Bool.or_eq_true,beq_iff_eq,hne,false_or,hod]at hc;obtain⟨e,he,hb⟩:=Array.any_eq_true'.1 hc;simp only[Bool.and_eq_true]at hb;exact⟨e,he,hb.1,mem_cons_of_mem _ (zNP.1 hb.2)⟩
    ·obtain⟨e,he,hb,hm⟩:=h d od hd hne hod;exact⟨e,he,hb,mem_cons_of_mem _ hm⟩
   ·rename_i hc
    obtain⟨e,he,hb,hm⟩:=h d od hd hne hod;exact⟨e,he,hb,hm⟩
 exact key _ [] (fun d od hd=>by cases hd)
theorem zWt {ops:Array Oper}{listed:Array Bool}{i:Nat} (h:yAZ ops L Ro listed i=true):(∀ d,d∈depL ops i->listed.getD d true=false) /\
  ∀ (j:Nat) (oj:Oper),ops[j]? = some oj->j ≠ i->listed.getD j true=false->j ∉ depL ops i->∀ {oi:Oper},ops[i]? = some oi->oi.apart ops oj=true/\(inL i L=false∨inL j L=false∨(rdOp oi=true/\rdOp oj=true)∨(mkS oi (inL i Ro)=true/\rdOp oj=true/\inL j Ro=true)∨(rdOp oi=true/\mkS oj (inL j Ro)=true/\inL i Ro=true)∨(inL i L=true/\inL j L=true/\inL (i+1000) Ro=true/\alOp oj=true)):=by
 unfold yAZ at h;simp only[Bool.and_eq_true,all_eq_true,mem_range]at h;obtain⟨h1,h2⟩:=h;refine⟨fun d hd=>by simpa using h1 d hd,fun j oj hj hne hun hnd oi hoi=>?_⟩
 have h3:=h2 j (Array.getElem?_eq_some_iff.1 hj).1;have hnl:inL j (depL ops i)=false:=by
  cases e:inL j (depL ops i) with
  | false=>rfl
  | true=>exact absurd (zNP.1 e) hnd
 simp only[hj,hoi,Bool.or_eq_true,Bool.and_eq_true,beq_iff_eq,hne,false_or,hun,Bool.false_eq_true,Bool.not_eq_true',hnl]at h3;refine⟨h3.1,?_⟩
 rcases h3.2 with ((((h3 | h3) | h3) | h3) | h3) | h3
 ·exact .inl h3
 ·exact .inr (.inl h3)
 ·exact .inr (.inr (.inl h3))
 ·exact .inr (.inr (.inr (.inl ⟨h3.1.1,h3.1.2,h3.2⟩)))
 ·exact .inr (.inr (.inr (.inr (.inl ⟨h3.1.1,h3.1.2,h3.2⟩))))
 ·exact .inr (.inr (.inr (.inr (.inr ⟨h3.1.1.1,h3.1.1.2,h3.1.2,h3.2⟩))))
theorem zVa {M L Ro:List Nat}{n:Nat->Bool}{ops:List Oper}{Q:St->Prop}:∀ (l:List Oper) (k:Nat) (listed:Array Bool) (σ:St),below n σ->(∀ j,l[j]? = ops[k+j]?) ->
  lexD ops.toArray L Ro l.length k listed=true->aLex T Γ M L Ro n ops Q l k σ->aAny T Γ M L Ro n ops Q l.length listed σ
 | [],_,_,_,_,_,hB,h=>⟨by simpa [lexD] using hB,h⟩
 | o::l,k,listed,σ,hn,hl,hB,h=>by
  have h0:ops[k]? = some o :=(by simpa using (hl 0).symm);have h0':ops.toArray[k]? = some o :=(by simpa using h0);simp only[length_cons,lexD,Bool.and_eq_true]at hB;obtain⟨⟨hr,hf⟩,hB'⟩:=hB;obtain⟨hf1,hf2⟩:=zWt hf;obtain⟨σ1,h1,hro,h2⟩:=h;exact zWe h0 (fun d od hd hne hod=>zXD ops.toArray k d od hd hne (by simpa using hod)) l.length listed σ σ1 hn hro hf1 (fun j oj hj hne hun hno=>hf2 j oj (by simpa using hj) hne hun hno h0') (by simpa using hr) h1
   (zVa l (k+1) _ σ1 (below_le hn (zRp h1)) (fun j=>by have:=hl (j+1); simpa [Nat.add_assoc,Nat.add_comm 1 j] using this) hB' h2)
variable {w:World}{β:Nat->Value}{G:Nat->Prop}{c:Cx}
theorem zNM {a:Act} (hc:Conc c G β σ a w) (hN:∀ (j g:Nat),(all[j]?).bind (fun o=>o.dst)=some g->g<c.N){b:Bool} (hb:gate all o σ.env=some b):Region.wanted o (yielded all.toArray a.tmps)=b:=by
 unfold gate at hb;cases hg:o.guard with
 | none=>rw[hg]at hb; cases hb; simp[Region.wanted,hg]
 | some p =>
  obtain⟨j,want⟩:=p;rw[hg]at hb;dsimp only at hb;split at hb
  ·rename_i g hj
   split at hb
   ·rename_i b' he
    cases hb;have hj':(all.toArray[j]?).bind (·.dst)=some g :=(by simpa using hj);have hy:=zLU hc hj' (hN j g hj) he;simp only[Region.wanted,hg,hy]
    cases b' <;> cases want <;> rfl
   ·rename_i he
    cases hb;have hj':(all.toArray[j]?).bind (·.dst)=some g :=(by simpa using hj);have hy:=zME hc hj' (hN j g hj) he;simp only[Region.wanted,hg,hy]
    cases want <;> rfl
   ·cases hb
  ·cases hb
theorem zWQ {a:Act} (hT:TOk c.P T) (hΓ:∀ f s,Γ f=some s->PSound c.P f s) (hc:Conc c G β σ a w)
  (hN:∀ (j g:Nat),(all[j]?).bind (fun o=>o.dst)=some g->g<c.N) (hd:∀ t,o.dst=some t->t<c.N) (h:outc T Γ all own loud o σ σ1) {K:Act->World->Prop} {Q:Exit->Act->World->Prop}
  (hK:∀ G' β' a' w',Conc c G' β' σ1 a' w'->K a' w') :
  if Region.wanted o (yielded all.toArray a.tmps) then o.wp c.P a w K Q∨(o.asks c.P a w/\LetsOut Q) else K (a.put o.dst undef) w:=by
 have hgate:∀ b,gate all o σ.env=some b->Region.wanted o (yielded all.toArray a.tmps)=b:=fun b hb=>zNM hc hN hb
 unfold outc at h;split at h
 ·rename_i hg
  rw[if_pos (hgate _ hg)]
  refine .inl ?_;unfold runs at h;split at h
  ·rename_i g s xs hco
   obtain⟨r,x,σ',h1,h2,rfl⟩:=h;exact zPv hΓ hc hco h1 h2 fun G' β' w' v h3 h4 h5=>hK G' β' _ w' (h3.put hd h4 h5)
  ·split at h
   ·split at h
    ·rename_i φ x σ' h1
     obtain⟨h2,rfl⟩:=h;exact zLO hT hc h1 h2 hd hK
    ·exact zNC hT (fun f s h=>hΓ f s (zHx h).1) hc h fun x σ' G' β' w' v e1 h1 h2 h3=>by subst e1; exact hK G' β' _ w' (h1.put hd h2 h3)
   ·obtain⟨φ,x,h1,h2,rfl⟩:=h;exact zLO (own:=slO own o) hT hc (by unfold step1; rw[h1]) h2 hd hK
 ·rename_i hg
  rw[if_neg (by rw[hgate _ hg]; simp)]
  subst h;exact hK G β _ w (hc.put hd zTP rfl)
 ·exact h.elim
theorem zNq {c:Cx} (hT:TOk c.P T) (hΓ:∀ f s,Γ f=some s->PSound c.P f s){M L Ro:List Nat}{n:Nat->Bool}{ops:List Oper}{Q:Exit->Act->World->Prop}{K:St->Prop}
  (hK:∀ σ G β a w,K σ->Conc c G β σ a w->Q .normal a w) (hN:∀ (j g:Nat),(ops[j]?).bind (fun o=>o.dst)=some g->g<c.N) :
  ∀ (fuel:Nat) (listed:Array Bool) (σ:St) (G:Nat->Prop) (β:Nat->Value) (a:Act) (w:World),aAny T Γ M L Ro n ops K fuel listed σ->Conc c G β σ a w->wpAny c.P .any ops.toArray Q fuel listed a w
 | 0,listed,σ,G,β,a,w,h,hc=>⟨h.1,hK σ G β a w h.2 hc⟩
 | fuel+1,listed,σ,G,β,a,w,h,hc=>by
  refine⟨fun h0=>hK σ G β a w (h.1 h0) hc,fun i hi=>?_⟩
  have h1:=h.2 i hi;unfold aOp at h1;unfold wpOp;have hgo:ops.toArray[i]? = ops[i]? :=(by simp);rw[hgo]
  cases ho:ops[i]? with
  | none=>rw[ho]at h1; exact zNq hT hΓ hK hN fuel _ σ G β a w h1 hc
  | some o =>
   rw[ho]at h1;obtain⟨σ1,h2,_,h3⟩:=h1;exact zWQ hT hΓ hc hN (fun t ht=>hN i t (by rw[ho]; exact ht)) h2 fun G' β' a' w' hc'=>zNq hT hΓ hK hN fuel _ σ1 G' β' a' w' h3 hc'
def zZo (b:Bool) (n:Nat->Bool) (σ σ':St) (P:Prop):Prop :=
 match b with
 | true=>kp n σ σ'/\P
 | false=>P
def zZv (b:Bool) (P Q:Prop):Prop :=
 match b with
 | true=>P/\Q
 | false=>Q
def clB (T:Nat->Option TI) (Γ:Nat->Option zAr) (own l:Bool) (o:Oper) (σ:St):Bool :=
 match cOp o with
 | false=>false
 | true=>match callOf T Γ o σ.env with
  | some _=>false
  | none=>match l with
   | false=>false
   | true=>match step1 T own o σ with
    | some _=>false
    | none=>true
def evD (T:Nat->Option TI) (Γ:Nat->Option zAr) (M nm L Ro:List Nat) (n:Nat->Bool) (all:List Oper):List Oper->Nat->St->(St->Prop)->Prop
 | [],_,σ,K=>K σ
 | o::os,k,σ,K =>
   let run:Prop:=match callOf T Γ o σ.env with
    | some (_,s,xs)=>∃ r,s.spec xs r/\match zBz (dIn o.dst M&&inL k L) σ r with
     | none=>False
     | some (x,σ')=>lay (dIn o.dst nm) o.dst x σ' fun σ''=>evD T Γ M nm L Ro n all os (k+1) σ'' K
    | none=>match inL k L with
     | true=>match step1 T (dIn o.dst M) o σ with
      | none=>zNA T (noHeap Γ) (dIn o.dst M) o σ fun x σ'=>zZo (inL k Ro&&cOp o) n σ σ' (zZv (inL (k+1000) Ro) (cmP T Γ o σ σ') (lay (dIn o.dst nm) o.dst x σ' fun σ''=>evD T Γ M nm L Ro n all os (k+1) σ'' K))
      | some (φ,x,σ')=>andO φ (lay (dIn o.dst nm) o.dst x σ' fun σ''=>evD T Γ M nm L Ro n all os (k+1) σ'' K)
     | false=>match zB9 T (slO (dIn o.dst M) o) o σ.env with
      | none=>False
      | some (φ,x)=>andO φ (lay (dIn o.dst nm) o.dst x σ fun σ''=>evD T Γ M nm L Ro n all os (k+1) σ'' K)
   match (inL k Ro&&!(zEp T n o σ.env||clB T Γ (dIn o.dst M) (inL k L) o σ))||(inL (k+1000) Ro&&!(clB T Γ (dIn o.dst M) (inL k L) o σ&&o.guard.isNone)) with
   | true=>False
   | false=>match o.guard with
   | none=>run
   | some (j,want)=>match (all[j]?).bind (fun o=>o.dst) with
    | some g=>match σ.env g with
     | .s (.bool true)=>match want with | true=>run | false=>lay false o.dst (.tup []) σ fun σ''=>evD T Γ M nm L Ro n all os (k+1) σ'' K
     | .s (.bool false)=>match want with | false=>run | true=>lay false o.dst (.tup []) σ fun σ''=>evD T Γ M nm L Ro n all os (k+1) σ'' K
     | .tup []=>lay false o.dst (.tup []) σ fun σ''=>evD T Γ M nm L Ro n all os (k+1) σ'' K
     | _=>False
    | none=>False
variable {l:Bool}
theorem zZh  (h:clB T Γ own l o σ=true):cOp o=true:=by
 unfold clB at h;cases e:cOp o with
 | true=>rfl
 | false=>rw[e]at h; cases h
theorem zXw  (h:clB T Γ own l o σ=true):callOf T Γ o σ.env=none:=by
 unfold clB at h;cases e:cOp o with
 | false=>rw[e]at h; cases h
 | true =>
  rw[e]at h;cases e2:callOf T Γ o σ.env with
  | none=>rfl
  | some y=>rw[e2]at h; cases h
theorem yAI  (h:clB T Γ own l o σ=true):l=true:=by
 have h1:=zZh h;have h2:=zXw h;unfold clB at h;rw[h1,h2]at h;cases l with
 | true=>rfl
 | false=>cases h
theorem yBI  (h:clB T Γ own l o σ=true):∀ x,¬ step1 T own o σ=some x:=fun x hx=>by
 have h1:=zZh h;have h2:=zXw h;have h3:=yAI h;unfold clB at h;rw[h1,h2,h3,hx]at h;cases h
theorem yAi  (h:cOp o=true):rdOp o=false:=by
 unfold cOp at h;split at h
 ·rename_i hop; unfold rdOp; rw[hop]
 ·cases h
theorem kO {P:Prop} (h:P:=by exact hskip (by rw[hg]; exact fun h=>by cases h) (by simp[gate,hg,hj,he]) h):P:=h
theorem zF9 {M nm L Ro:List Nat}{n:Nat->Bool}{all:List Oper}{K:St->Prop}:∀ {os:List Oper}{k:Nat}{σ:St},evD T Γ M nm L Ro n all os k σ K->aLex T Γ M L Ro n all K os k σ
 | [],k,σ,h=>h
 | o::os,k,σ,h=>by
  unfold evD at h;dsimp only at h;have hrun:(match callOf T Γ o σ.env with
    | some (_,s,xs)=>∃ r,s.spec xs r/\match zBz (dIn o.dst M&&inL k L) σ r with
     | none=>False
     | some (x,σ')=>lay (dIn o.dst nm) o.dst x σ' fun σ''=>evD T Γ M nm L Ro n all os (k+1) σ'' K
    | none=>match inL k L with
     | true=>match step1 T (dIn o.dst M) o σ with
      | none=>zNA T (noHeap Γ) (dIn o.dst M) o σ fun x σ'=>zZo (inL k Ro&&cOp o) n σ σ' (zZv (inL (k+1000) Ro) (cmP T Γ o σ σ') (lay (dIn o.dst nm) o.dst x σ' fun σ''=>evD T Γ M nm L Ro n all os (k+1) σ'' K))
      | some (φ,x,σ')=>andO φ (lay (dIn o.dst nm) o.dst x σ' fun σ''=>evD T Γ M nm L Ro n all os (k+1) σ'' K)
     | false=>match zB9 T (slO (dIn o.dst M) o) o σ.env with
      | none=>False
      | some (φ,x)=>andO φ (lay (dIn o.dst nm) o.dst x σ fun σ''=>evD T Γ M nm L Ro n all os (k+1) σ'' K)) ->
    (inL k Ro=true->zEp T n o σ.env=true∨clB T Γ (dIn o.dst M) (inL k L) o σ=true)->(inL (k+1000) Ro=true->clB T Γ (dIn o.dst M) (inL k L) o σ=true)->∃ σ1,runs T Γ (dIn o.dst M) (inL k L) o σ σ1/\fct T Γ L Ro n k o σ σ1/\aLex T Γ M L Ro n all K os (k+1) σ1:=fun h hro hcm=>by
   unfold runs;split at h
   ·rename_i g0 s0 xs0 hcoo
    obtain⟨r,h1,h2⟩:=h;split at h2
    ·exact h2.elim
    ·rename_i x σ' hx
     exact⟨_,⟨r,x,σ',h1,hx,rfl⟩,⟨(fun hk=>(hro hk).elim .inl fun hc=>by have hcn:=zXw hc; rw[hcoo]at hcn; cases hcn),(fun hk _=>by have hcn:=zXw (hcm hk); rw[hcoo]at hcn; cases hcn)⟩,zF9 (zEV h2)⟩
   ·split at h
    ·split at h
     ·rename_i hs
      rw[zQw]at h;obtain⟨x,hp,nx,e1,_,e2⟩:=zNB h;have e3:((lay (dIn o.dst nm) o.dst x ⟨σ.env,hp,nx⟩ fun σ''=>evD T Γ M nm L Ro n all os (k+1) σ'' K)/\(inL k Ro=true->cOp o=true->kp n σ ⟨σ.env,hp,nx⟩))/\(inL (k+1000) Ro=true->cmP T Γ o σ ⟨σ.env,hp,nx⟩):=by
       unfold zZo at e1;unfold zZv at e1;cases e6:inL (k+1000) Ro <;> cases e4:inL k Ro <;> cases e5:cOp o <;> rw[e4,e5,e6]at e1
       ·exact⟨⟨e1,fun h=>by cases h⟩,fun h=>by cases h⟩
       ·exact⟨⟨e1,fun h=>by cases h⟩,fun h=>by cases h⟩
       ·exact⟨⟨e1,fun _ h=>by cases h⟩,fun h=>by cases h⟩
       ·exact⟨⟨e1.2,fun _ _=>e1.1⟩,fun h=>by cases h⟩
       ·exact⟨⟨e1.2,fun h=>by cases h⟩,fun _=>e1.1⟩
       ·exact⟨⟨e1.2,fun h=>by cases h⟩,fun _=>e1.1⟩
       ·exact⟨⟨e1.2,fun _ h=>by cases h⟩,fun _=>e1.1⟩
       ·exact⟨⟨e1.2.2,fun _ _=>e1.1⟩,fun _=>e1.2.1⟩
      refine⟨_,?_,⟨(fun hk=>(hro hk).elim .inl fun hc=>?_),fun hk _=>?_⟩,zF9 (zEV e3.1.1)⟩
      ·rw[hs]
       exact e2 σ.env (fun _ _ _=>rfl) _ rfl
      ·have hco:=zZh hc;exact .inr ⟨yAi hco,fun j hj=>by rw[zGH]; exact e3.1.2 hk hco j hj⟩
      ·have h8:=yAK (zXw (hcm hk)) (e3.2 hk)
       exact zQy h8 (fun _ _ _=>rfl) rfl rfl (zGI _ _ _)
     ·rename_i φ x σ' hs
      obtain⟨h1,h2⟩:=zMS h;refine⟨_,?_,⟨(fun hk=>(hro hk).elim .inl fun hc=>by exact absurd hs (yBI hc _)),(fun hk _=>absurd hs (yBI (hcm hk) _))⟩,zF9 (zEV h2)⟩
      rw[hs]
      exact⟨h1,rfl⟩
    ·rename_i hll
     split at h
     ·exact h.elim
     ·rename_i φ x hs
      obtain⟨h1,h2⟩:=zMS h;exact⟨_,⟨φ,x,hs,h1,rfl⟩,⟨(fun hk=>(hro hk).elim .inl fun hc=>by have hcl:=yAI hc; rw[hll]at hcl; cases hcl),(fun hk _=>by have hcl:=yAI (hcm hk); rw[hll]at hcl; cases hcl)⟩,zF9 (zEV h2)⟩
  split at h
  ·exact h.elim
  rename_i hro1
  have hro0:=(Bool.or_eq_false_iff.1 hro1).1;have hcm0:=(Bool.or_eq_false_iff.1 hro1).2;have hcm:inL (k+1000) Ro=true->clB T Γ (dIn o.dst M) (inL k L) o σ=true/\o.guard=none:=fun hk=>by
   rw[hk]at hcm0;cases e':clB T Γ (dIn o.dst M) (inL k L) o σ with
   | false=>rw[e']at hcm0; cases hcm0
   | true =>
    cases e:o.guard with
    | none=>exact⟨rfl,rfl⟩
    | some p=>rw[e',e]at hcm0; cases hcm0
  have hro:inL k Ro=true->zEp T n o σ.env=true∨clB T Γ (dIn o.dst M) (inL k L) o σ=true:=fun hk=>by
   rw[hk]at hro0;cases e:zEp T n o σ.env with
   | true=>exact .inl rfl
   | false =>
    cases e':clB T Γ (dIn o.dst M) (inL k L) o σ with
    | true=>exact .inr rfl
    | false=>rw[e,e']at hro0; cases hro0
  have hgo:gate all o σ.env=some true->(∃ σ1,runs T Γ (dIn o.dst M) (inL k L) o σ σ1/\fct T Γ L Ro n k o σ σ1/\aLex T Γ M L Ro n all K os (k+1) σ1)->aLex T Γ M L Ro n all K (o::os) k σ:=fun hg ⟨σ1,h1,h2,h3⟩ =>
   ⟨σ1,by unfold outc; rw[hg]; exact h1,h2,h3⟩
  have hskip:o.guard ≠ none->gate all o σ.env=some false->(lay false o.dst (.tup []) σ fun σ''=>evD T Γ M nm L Ro n all os (k+1) σ'' K)->aLex T Γ M L Ro n all K (o::os) k σ:=fun hgn hg h =>
   ⟨σ.put o.dst (.tup []),by unfold outc; rw[hg],⟨(fun hk=>(hro hk).elim .inl fun hc=>.inr ⟨yAi (zZh hc),fun j _=>by rw[zGH]⟩),(fun hk _=>absurd (hcm hk).2 hgn)⟩,zF9 (zEV h)⟩
  split at h
  ·rename_i hg
   exact hgo (by simp[gate,hg]) (hrun h hro fun hk=>(hcm hk).1)
  ·rename_i j want hg
   split at h
   ·rename_i g hj
    split at h
    ·rename_i he
     split at h
     ·exact hgo (by simp[gate,hg,hj,he]) (hrun h hro fun hk=>(hcm hk).1)
     ·exact kO
    ·rename_i he
     split at h
     ·exact hgo (by simp[gate,hg,hj,he]) (hrun h hro fun hk=>(hcm hk).1)
     ·exact kO
    ·rename_i he
     exact kO
    ·exact h.elim
   ·exact h.elim
theorem zM3 {ro:Option Nat}{n:Nat}{P:Program}{md:Region.Mode}{ops:Array Oper}{Q:Exit->Act->World->Prop} (hQ:¬ LetsOut Q) (hd:∀ (i:Nat) o,ops[i]? = some o->∀ c,o.op ≠ .defer c) :
  ∀ (fuel:Nat) (listed:Array Bool) (a:Act) (w:World),wpAny P md ops Q fuel listed a w->wpAnyIn (rF ro) n P md ops Q fuel listed a w
 | 0,_,_,_,h=>h
 | fuel+1,listed,a,w,h=>⟨h.1,fun i hi=>by
  have h1:=h.2 i hi;unfold wpOp at h1;unfold wpOpIn;cases ho:ops[i]? with
  | none=>rw[ho]at h1; exact zM3 hQ hd fuel _ a w h1
  | some o =>
   rw[ho]at h1;dsimp only at h1 ⊢;split
   ·rename_i hw
    rw[if_pos hw]at h1;rcases h1 with h1 | ⟨_,h1⟩
    ·exact zX7 (hd i o ho) (fun a w h=>zM3 hQ hd fuel _ a w h) h1
    ·exact absurd h1 hQ
   ·rename_i hw
    rw[if_neg hw]at h1;exact⟨fun _ _=>trivial,zM3 hQ hd fuel _ _ w h1⟩⟩
variable {Q:End->St->Prop}{id:Nat}
theorem zLQ  (hT:TOk c.P T) (hΓ:∀ f s,Γ f=some s->PSound c.P f s) (hm:c.P.follows .mixedOrders=true) (n:Nat->Bool) (hnx:below n σ) (M nm L Ro:List Nat)
  (hN:zEG c.N ops=true) (hB:lexD ops.toArray L Ro ops.length 0 (Array.replicate ops.length false)=true) (h:evD T Γ M nm L Ro n ops ops 0 σ (Q .normal)):Tri c (.region id ops.toArray true) σ Q:=by
 unfold Tri;intro G β a w hc;refine wpIn_region_any hm (zM3 zNQ (fun i o hi=>zKP hN o (mem_of_getElem? (by simpa using hi))) _ _ _ _ ?_)
 have h1:=zVa (ops:=ops) (M:=M) (L:=L) (Ro:=Ro) (n:=n) ops 0 (Array.replicate ops.length false) σ hnx (fun j=>by simp) hB (zF9 h)
 have hc':=hc.ext (Ext.drew hc.lt)
 have:=zNq hT hΓ (Q:=fun e a' w'=>∃ e' G' β' σ',e=zFP e'/\Q e' σ'/\Conc c G' β' σ' a' w') (fun σ' G' β' a' w' hk hc'=>⟨.normal,G',β',σ',rfl,hk,hc'⟩) (zEu hN) _ _ σ G β a _ h1 hc'
 simpa using this
variable {T:Nat->Option TI}
theorem yCd {Γ:Nat->Option zAr} (n:Nat->Bool) (hnx:below n σ) (M nm L Ro:List Nat) (hN:zEG c.N ops=true) (hB:lexD ops.toArray L Ro ops.length 0 (Array.replicate ops.length false)=true) (h:evD T Γ M nm L Ro n ops ops 0 σ (Q .normal)) (hT:TOk c.P T:=by exact tokW) (hΓ:∀ f s,Γ f=some s->PSound c.P f s:=by exact gok) (hm:c.P.follows .mixedOrders=true:=by exact mixed):Tri c (.region id ops.toArray true) σ Q :=
 zLQ hT hΓ hm n hnx M nm L Ro hN hB h
theorem zP2  (hT:TOk c.P T) (hΓ:∀ f s,Γ f=some s->PSound c.P f s) (hm:c.P.follows .mixedOrders=true) (M nm L Ro:List Nat)
  (hN:zEG c.N ops=true) (hB:lexD ops.toArray L Ro ops.length 0 (Array.replicate ops.length false)=true) (h:evD T Γ M nm L Ro (fun k=>Nat.blt k σ.nx) ops ops 0 σ (Q .normal)):Tri c (.region id ops.toArray true) σ Q :=
 zLQ hT hΓ hm (fun k=>Nat.blt k σ.nx) (fun k hk=>Nat.le_of_ble_eq_true hk) M nm L Ro hN hB h
theorem zEd {Γ:Nat->Option zAr} (M nm L Ro:List Nat) (hN:zEG c.N ops=true) (hB:lexD ops.toArray L Ro ops.length 0 (Array.replicate ops.length false)=true) (h:evD T Γ M nm L Ro (fun k=>Nat.blt k σ.nx) ops ops 0 σ (Q .normal)) (hT:TOk c.P T:=by exact tokW) (hΓ:∀ f s,Γ f=some s->PSound c.P f s:=by exact gok) (hm:c.P.follows .mixedOrders=true:=by exact mixed):Tri c (.region id ops.toArray true) σ Q :=
 zP2 hT hΓ hm M nm L Ro hN hB h
theorem zLi  (hT:TOk c.P T) (hΓ:∀ f s,Γ f=some s->PSound c.P f s) (hm:c.P.follows .mixedOrders=true) (M nm L:List Nat)
  (hN:zEG c.N ops=true) (hB:lexD ops.toArray L [] ops.length 0 (Array.replicate ops.length false)=true) (h:evD T Γ M nm L [] (fun k=>Nat.blt k σ.nx) ops ops 0 σ (Q .normal)):Tri c (.region id ops.toArray true) σ Q :=
 zP2 hT hΓ hm M nm L [] hN hB h
theorem zAC {Γ:Nat->Option zAr} (M nm L:List Nat) (hN:zEG c.N ops=true) (hB:lexD ops.toArray L [] ops.length 0 (Array.replicate ops.length false)=true) (h:evD T Γ M nm L [] (fun k=>Nat.blt k σ.nx) ops ops 0 σ (Q .normal)) (hT:TOk c.P T:=by exact tokW) (hΓ:∀ f s,Γ f=some s->PSound c.P f s:=by exact gok) (hm:c.P.follows .mixedOrders=true:=by exact mixed):Tri c (.region id ops.toArray true) σ Q :=
 zLi hT hΓ hm M nm L hN hB h
end
open Go.ChangeShapes Go.WideShapes Go.RowKit Go.Proofs.YtbfnjnljboncgaaGreat
def szOf (T:Nat->Option TI) (t:Nat):Nat:=match T t with | some i=>i.size | none=>0
def zYK (p:Nat->List S->Prop):List Nat->List S->Prop
 | [],ss=>ss=[]
 | t::ts,ss=>∃ a b,ss=a++b/\p t a/\zYK p ts b
def Typed (T:Nat->Option TI):Nat->Nat->List S->Prop
 | 0,_,_=>False
 | n+1,t,ss=>match T t with
  | none=>False
  | some i=>match i.k with
   | .bool=>∃ b,ss=[.bool b]
   | .int k=>∃ x:Int,ss=[.int k x]/\k.min<=x/\x<=k.max
   | .str=>∃ l:List UInt8,ss=[.str l]/\l.length<=maxLen
   | .slice e=>∃ rows:List (List S),ss=[.sl (szOf T e) rows]/\rows.length<=maxLen/\∀ r∈rows,Typed T n e r
   | .ptr e=>ss=[.np]∨∃ row,ss=[.pt row]/\Typed T n e row
   | .struct fs=>zYK (Typed T n) (fs.map (·.2)) ss
   | .arr len e=>zYK (Typed T n) (List.replicate len e) ss
   | _=>False
mutual
def S.bulk:S->Nat
 | .str l=>l.length+1
 | .sl _ rows=>zE8 rows+1
 | .pt row=>zEt row+1
 | _=>1
def zEt:List S->Nat
 | []=>0
 | s::r=>s.bulk+zEt r
def zE8:List (List S)->Nat
 | []=>0
 | r::rs=>zEt r+zE8 rs
end
theorem zMf:∀ (a b:List S),zEt (a++b)=zEt a+zEt b
 | [],b=>by simp[zEt]
 | s::a,b=>by simp only[cons_append,zEt,zMf a b]; omega
def fits (T:Nat->Option TI):List (Nat×Nat)->Nat->Nat->Bool
 | [],off,n=>Nat.beq off n
 | (o,t)::r,off,n=>Nat.beq o off&&(T t).isSome&&fits T r (off+szOf T t) n
def zDX (T:Nat->Option TI) (i:TI):Bool:=match i.k with
 | .bool | .int _ | .str=>true
 | .slice e=>(T e).isSome&&Nat.ble 1 (szOf T e)
 | .ptr e=>(T e).isSome&&Nat.ble 1 (szOf T e)
 | .struct fs=>fits T fs 0 i.size
 | .arr n e=>(T e).isSome&&Nat.beq (n * szOf T e) i.size
 | _=>false
section
variable {H:Type} {enc:TypeId×Value->H} {P:Program} {T:Nat->Option TI} {w:World} {spare:Nat->Bool} {held:Bool}
theorem zFb (hT:TOk P T){t:Nat} (h:(T t).isSome=true):P.cellsOf t=szOf T t:=by
 obtain⟨i,hi⟩:=Option.isSome_iff_exists.1 h;obtain⟨d,info,z,h1,h2,h3,h4,_⟩:=hT t i hi;simp[Program.cellsOf,h3,h4,szOf,hi]
def old (w:World) (b:Nat):Prop:=b<w.heap.size
variable {a:Addr}
theorem zQx {w:World}{v:Value} (h:w.cell? a=some v):old w a.block/\a.spot=none:=by
 unfold World.cell? at h;unfold old;split at h
 ·rename_i c x y e
  refine⟨(Array.getElem?_eq_some_iff.1 e).1,?_⟩
  split at h
  ·cases h
  ·rename_i hs
   cases hh:a.spot with
   | none=>rfl
   | some s=>rw[hh]at hs; simp at hs
 ·cases h
theorem zMA {b off:Nat}{ss:List S}{cs:List Value} (h:Reps (old w) w ss cs) (hc:∀ i,i<ss.length->w.cell? ⟨b,off+i,none⟩=cs[i]?):RepRow (old w) w b ss off :=
 RepRow.mk fun i s hs=>by
  have hi:i<ss.length:=(List.getElem?_eq_some_iff.1 hs).1;have hi':i<cs.length :=(by rw[h.1]; exact hi);have hv:cs[i]? = some cs[i]:=List.getElem?_eq_getElem hi';have hcell:=(hc i hi).trans hv;exact⟨(zQx hcell).1,_,hcell,h.2 i s _ hs hv⟩
theorem zUd  (hs:a.spot=none) (k:Nat):a.add k=⟨a.block,a.off+k,none⟩:=by
 unfold Addr.add;obtain⟨b,o,s⟩:=a;simp only at hs; subst hs
 split
 ·rename_i h; subst h; rfl
 ·rfl
theorem zPu {R:Nat->List S}{D:Nat->DataW H}:∀ {l:List Nat},(∀ i∈l,zEt (R i)<=Rows.uptoBulk (D i))->zE8 (l.map R)<=Rows.uptoBulkAll (l.map D)
 | [],_=>by simp[zE8]
 | i::l,h=>by
  simp only[map_cons,zE8,Rows.uptoBulkAll]
  have h1:=h i mem_cons_self;have h2:=zPu (fun j hj=>h j (mem_cons_of_mem _ hj))
  omega
theorem zRD {n:Nat}{p:Nat->List S->Prop} (hT:TOk P T)
  (ih:∀ t cs x,(T t).isSome=true->DataW.trod enc P w 0 spare held n t cs=some x->∃ ss,Reps (old w) w ss cs/\p t ss/\zEt ss<=Rows.uptoBulk x.1) :
  ∀ (fs:List (Nat×Nat)) (off tot:Nat) (cs:List Value) (xs:List (DataW H×List MemPlace)),fits T fs off tot=true->cs.length=tot->xs.length=fs.length ->
   (∀ (i:Nat) f,fs[i]? = some f->DataW.trod enc P w 0 spare held n f.2 ((cs.drop f.1).take (P.cellsOf f.2))=xs[i]?) ->
   ∃ ss,Reps (old w) w ss (cs.drop off)/\zYK p (fs.map (·.2)) ss/\zEt ss<=Rows.uptoBulkAll (xs.map (·.1))
 | [],off,tot,cs,xs,hf,hl,_,_=>by
  obtain rfl:=Nat.eq_of_beq_eq_true hf;refine⟨[],⟨by simp[hl],fun i s v h=>by simp at h⟩,rfl,by simp[zEt]⟩
 | (o,t)::fs,off,tot,cs,xs,hf,hl,hxl,hx=>by
  simp only[fits,Bool.and_eq_true]at hf;obtain⟨⟨ho,ht⟩,hr⟩:=hf;obtain rfl:=Nat.eq_of_beq_eq_true ho
  match xs,hxl with
  | y::ys,hxl =>
   have h0:=hx 0 (o,t) rfl;simp only[List.getElem?_cons_zero]at h0;obtain⟨s1,r1,p1,b1⟩:=ih t _ y ht h0;obtain⟨s2,r2,p2,b2⟩:=zRD hT ih fs (o+szOf T t) tot cs ys hr hl (by simpa using hxl) (fun i f hi=>by simpa using hx (i+1) f (by simpa using hi))
   rw[zFb hT ht]at r1;have e:cs.drop o=(cs.drop o).take (szOf T t)++cs.drop (o+szOf T t):=by
    rw[← drop_drop,take_append_drop]
   refine⟨s1++s2,?_,⟨s1,s2,rfl,p1,p2⟩,?_⟩
   ·rw[e]; exact r1.append r2
   ·simp only[map_cons,Rows.uptoBulkAll,zMf]; omega
theorem zVj {e:Nat} (he:(T e).isSome=true):∀ (n off:Nat),fits T ((List.range n).map (fun i=>(off+i * szOf T e,e))) off (off+n * szOf T e)=true
 | 0,off=>by simp[fits]
 | n+1,off=>by
  rw[range_succ_eq_map]
  simp only[map_cons,map_map,fits,Nat.zero_mul,Nat.add_zero,Nat.beq_eq,he,Bool.true_and,Bool.and_true]
  have:=zVj he n (off+szOf T e)
  have e1:(List.range n).map (fun i=>(off+szOf T e+i * szOf T e,e))=(List.range n).map ((fun i=>(off+i * szOf T e,e))∘Nat.succ):=by
   refine map_congr_left fun i _=>?_
   simp only[Function.comp,Nat.succ_eq_add_one,Nat.add_mul]
   congr 1; omega
  rw[← e1,show off+(n+1) * szOf T e=off+szOf T e+n * szOf T e by rw[Nat.add_mul]; omega,this]
  simp
theorem conv (hT:TOk P T) (hC:∀ t i,T t=some i->zDX T i=true):∀ (n:Nat) (t:Nat) (cs:List Value) (x:DataW H×List MemPlace),(T t).isSome=true ->
  DataW.trod enc P w 0 spare held n t cs=some x->∃ ss,Reps (old w) w ss cs/\Typed T n t ss/\zEt ss<=Rows.uptoBulk x.1
 | 0,t,cs,x,_,h=>by simp[DataW.trod]at h
 | n+1,t,cs,x,ht,h=>by
  obtain⟨i,hi⟩:=Option.isSome_iff_exists.1 ht;have hcl:=hC t i hi;obtain⟨d,info,z,h1,h2,h3,h4,h5,h6,h7,h8,h9,h10⟩:=hT t i hi;have one:∀ {s:S} {v:Value},Rep (old w) w s v->Reps (old w) w [s] [v]:=fun {s v} hr=>⟨rfl,fun j s' v' hs hv=>by
   cases j with
   | zero=>simp at hs hv; subst hs; subst hv; exact hr
   | succ j=>simp at hs⟩
  cases d <;> simp only[tkOf]at h2
  case bool =>
   obtain⟨b,rfl,rfl⟩:=DataW.trod_bool h1 h;exact⟨[.bool b],one (by simp[Rep]),by simp[Typed,hi,← h2],by simp[zEt,S.bulk,Rows.uptoBulk]⟩
  case int k =>
   obtain⟨m,rfl,rfl,hw⟩:=DataW.trod_int h1 h;have hb:k.min<=m/\m<=k.max :=(by simpa [Lit.wf] using hw);exact⟨[.int k m],one (by simp[Rep]),by simp[Typed,hi,← h2,hb],by simp[zEt,S.bulk,Rows.uptoBulk]⟩
  case string =>
   obtain⟨s,rfl,rfl,hl⟩:=DataW.trod_string h1 h;refine⟨[.str s.data.toList],one (by simp[Rep]),?_,by simp[zEt,S.bulk,Rows.uptoBulk]⟩
   simp only[Typed,hi,← h2]
   exact⟨_,rfl,by simpa using hl⟩
  case pointer e =>
   simp only[zDX,← h2,Bool.and_eq_true]at hcl;rcases DataW.trod_pointer h1 h with ⟨rfl,rfl⟩ | ⟨a,cs',y,m,hm,rfl,rfl,hcs,hy⟩
   ·exact⟨[.np],one (by simp[Rep]),by simp[Typed,hi,← h2],by simp[zEt,S.bulk,Rows.uptoBulk]⟩
   ·cases hm;obtain⟨ss,r1,r2,r3⟩:=conv hT hC n e cs' y hcl.1 hy;obtain⟨_,g2,g3⟩:=World.cells?_some hcs;rw[zFb hT hcl.1]at g2 g3;have hpos:=Nat.le_of_ble_eq_true hcl.2;have hspot:a.spot=none:=by
     have:=g3 0 (by omega)
     rw[List.getElem?_eq_getElem (by omega)]at this;have:=(zQx this).2
     simpa [Addr.add] using this
    refine⟨[.pt ss],one ?_,?_,by simp only[zEt,S.bulk,Rows.uptoBulk]; omega⟩
    ·simp only[Rep]
     refine⟨a.block,a.off,?_,zMA r1 fun j hj=>?_⟩
     ·obtain⟨b,o,s⟩:=a; simp only at hspot; subst hspot; rfl
     ·rw[← zUd hspot]; exact g3 j (by rw[← g2,r1.1]; exact hj)
    ·simp only[Typed,hi,← h2]
     exact .inr ⟨ss,rfl,r2⟩
  case slice e =>
   simp only[zDX,← h2,Bool.and_eq_true]at hcl;have hpos:=Nat.le_of_ble_eq_true hcl.2;rcases DataW.trod_slice h1 h with ⟨rfl,rfl⟩ | ⟨a,len,cap,elems,rest,m,hm,rfl,rfl,hb,hl,hcm,hlen,hel,_,_⟩
   ·refine⟨[.sl (szOf T e) []],one (by simp only[Rep]; exact .inl ⟨trivial,none,0,rfl⟩),?_,by simp[zEt,S.bulk,Rows.uptoBulk,zE8]⟩
    simp only[Typed,hi,← h2]
    exact⟨[],rfl,by simp,fun r hr=>by cases hr⟩
   ·cases hm;subst hlen;have key:∀ j,j<elems.length->∃ ss:List S,ss.length=szOf T e/\a.spot=none/\RepRow (old w) w a.block ss (a.off+j * szOf T e)/\Typed T n e ss/\zEt ss<=Rows.uptoBulk ((elems.map (·.1)).getD j .nil):=fun j hj=>by
     have hspot:a.spot=none:=by
      have h0:=hel 0 (by omega)
      rw[List.getElem?_eq_getElem (by omega)]at h0;obtain⟨cs',g1,_⟩:=Option.bind_eq_some_iff.1 h0;obtain⟨_,g2,g3⟩:=World.cells?_some g1;rw[zFb hT hcl.1]at g2 g3;have:=g3 0 (by omega)
      rw[List.getElem?_eq_getElem (by omega)]at this;have:=(zQx this).2
      simpa [Addr.add] using this
     have h0:=hel j hj;rw[List.getElem?_eq_getElem hj]at h0;obtain⟨cs',g1,gy⟩:=Option.bind_eq_some_iff.1 h0;obtain⟨_,g2,g3⟩:=World.cells?_some g1;rw[zFb hT hcl.1]at g2 g3;obtain⟨ss,r1,r2,r3⟩:=conv hT hC n e cs' elems[j] hcl.1 gy;refine⟨ss,by rw[← r1.1,g2],hspot,zMA r1 fun q hq=>?_,r2,by simpa [getD,List.getElem?_eq_getElem hj] using r3⟩
     have:=g3 q (by rw[← g2,r1.1]; exact hq)
     rw[zUd hspot,zUd (a:=⟨a.block,_,none⟩) rfl]at this;exact this
    obtain⟨R,hR⟩:=Go.Deep.choose_lt key;refine⟨[.sl (szOf T e) ((List.range elems.length).map R)],one ?_,?_,?_⟩
    ·simp only[Rep]
     by_cases h0:elems.length=0
     ·exact .inl ⟨by simp[h0],some a,cap,by rw[h0]⟩
     ·have hspot:=(hR 0 (by omega)).2.1;refine .inr ⟨a.block,a.off,cap,?_,by simpa using hl,RepRows.mk fun j r hr=>?_⟩
      ·obtain⟨b,o,s⟩:=a; simp only at hspot; subst hspot; simp
      ·simp only[List.getElem?_map,Option.map_eq_some_iff]at hr;obtain⟨j',hj',rfl⟩:=hr;obtain⟨hlt,rfl⟩:=List.getElem?_eq_some_iff.1 hj';simp only[getElem_range,length_range]at hlt ⊢;exact⟨(hR j hlt).1,(hR j hlt).2.2.1⟩
    ·simp only[Typed,hi,← h2]
     refine⟨_,rfl,by simp; omega,fun r hr=>?_⟩
     obtain⟨j,hj,rfl⟩:=List.mem_map.1 hr;exact(hR j (by simpa using hj)).2.2.2.1
    ·have hb:=zPu (R:=R) (D:=fun j=>(elems.map (·.1)).getD j .nil) (l:=List.range elems.length) (fun j hj=>(hR j (by simpa using hj)).2.2.2.2)
     have e1:(List.range elems.length).map (fun j=>(elems.map (·.1)).getD j DataW.nil)=elems.map (·.1):=by
      apply ext_getElem (by simp)
      intro j g1 g2;simp only[length_map]at g2;simp[getD,List.getElem?_eq_getElem g2]
     rw[e1]at hb;simp only[zEt,S.bulk,Rows.uptoBulk]; omega
  case struct fs =>
   simp only[zDX,← h2]at hcl;obtain⟨xs,m,hm,rfl,hlen,hxl,hx⟩:=DataW.trod_struct h1 h;cases hm;rw[zFb hT ht]at hlen;obtain⟨ss,r1,r2,r3⟩:=zRD (p:=Typed T n) hT (conv hT hC n) (fs.toList.map fun f=>(f.offset,f.type)) 0 i.size cs xs hcl (by rw[hlen,szOf,hi]) (by simpa using hxl) (fun j f hf=>by
    simp only[List.getElem?_map,Option.map_eq_some_iff]at hf;obtain⟨g,hg,rfl⟩:=hf;exact hx j g (by simpa using hg))
   refine⟨ss,by simpa using r1,?_,by simp only[Rows.uptoBulk]; omega⟩
   simp only[Typed,hi,← h2]
   exact r2
  case array len e =>
   simp only[zDX,← h2,Bool.and_eq_true]at hcl;obtain⟨he,hsz⟩:=hcl;have hsz:=Nat.eq_of_beq_eq_true hsz;have h':cs.length=P.cellsOf t/\∃ xs,(List.range len).mapM (fun i=>DataW.trod enc P w 0 spare held n e ((cs.drop (i * P.cellsOf e)).take (P.cellsOf e)))=some xs/\x=(.agg (xs.map (·.1)),xs.flatMap (·.2)):=by
    unfold DataW.trod at h;rw[h1]at h;split at h <;> simp_all
    obtain⟨hl,xs,hp,hd⟩:=h;exact⟨xs,hp,hd.symm⟩
   obtain⟨hlen,xs,hp,rfl⟩:=h';rw[zFb hT ht]at hlen;have hxl:=mapM_some_length hp;obtain⟨ss,r1,r2,r3⟩:=zRD (p:=Typed T n) hT (conv hT hC n) ((List.range len).map fun i=>(0+i * szOf T e,e)) 0 i.size cs xs (by
     have:=zVj he len 0
     rwa [Nat.zero_add (len * szOf T e),hsz]at this) (by rw[hlen,szOf,hi]) (by simpa using hxl) (fun j f hf=>by
    simp only[List.getElem?_map,Option.map_eq_some_iff]at hf;obtain⟨g,hg,rfl⟩:=hf;have:=mapM_some_get hp j g hg;rw[zFb hT he]at this ⊢
    simpa using this)
   refine⟨ss,by simpa using r1,?_,by simp only[Rows.uptoBulk]; omega⟩
   simp only[Typed,hi,← h2]
   have e1:((List.range len).map fun i=>(0+i * szOf T e,e)).map (·.2)=List.replicate len e:=by
    rw[map_map]
    apply ext_getElem (by simp)
    intro j g1 g2;simp
   rwa [e1]at r2
  all_goals simp[zDX,← h2]at hcl
end
def zZf (T:Nat->Option TI) (t:Nat) (ss:List S):AV:=match T t with
 | some i=>match i.k.agg with
  | true=>.agg (ss.map .s)
  | false=>.s (ss.headD .np)
 | none=>.junk
def zNr (T:Nat->Option TI):List Nat->List (List S)->List AV
 | t::ts,ss::sss=>zZf T t ss::zNr T ts sss
 | _,_=>[]
def zY2 (T:Nat->Option TI):List Nat->List (List S)->Prop
 | [],sss=>sss=[]
 | t::ts,sss=>∃ ss r,sss=ss::r/\(∃ n,Typed T n t ss)/\zY2 T ts r
theorem zNs {T:Nat->Option TI}:∀ {ts:List Nat}{sss:List (List S)},(∀ t∈ts,(T t).isSome=true)->AV.persAll (zNr T ts sss)=true
 | [],_,_=>by cases ‹List (List S)› <;> rfl
 | _::_,[],_=>rfl
 | t::ts,ss::sss,h=>by
  simp only[zNr,AV.persAll,Bool.and_eq_true]
  refine⟨?_,zNs fun t' h'=>h t' (mem_cons_of_mem _ h')⟩
  obtain⟨i,hi⟩:=Option.isSome_iff_exists.1 (h t mem_cons_self)
  unfold zZf;rw[hi]
  simp only;split
  ·simp only[AV.pers]
   clear hi
   induction ss with
   | nil=>rfl
   | cons s r ih=>simp[AV.persAll,AV.pers,ih]
  ·rfl
section
variable {H:Type} {enc:TypeId×Value->H} {P:Program} {T:Nat->Option TI} {w:World} {spare:Nat->Bool} {held:Bool}
variable {v:Value}{d:TypeDesc}{base t:Nat}{r:Reach}
theorem zWH  (h:P.underlying t=some d) (hk:(tkOf d).agg=false) (hok:Value.okWide P w r base t v):v.oneCell'=true:=by
 cases d <;> simp only[tkOf,TK.agg,reduceCtorEq,Bool.true_eq_false]at hk <;> simp only[Value.okWide,h]at hok <;> cases v <;> first
  | rfl
  | (exfalso; simp only[Cell.okWide,Cell.ok,h]at hok)
theorem zWG  (h:P.underlying t=some d) (hk:(tkOf d).agg=true) (hok:Value.okWide P w r base t v):∃ cs,v = .agg cs:=by
 cases d <;> simp only[tkOf,TK.agg,reduceCtorEq,Bool.false_eq_true]at hk <;> simp only[Value.okWide,h]at hok <;> exact⟨_,hok.choose_spec.1⟩
theorem zPs {G:Nat->Prop}{β:Nat->Value}:∀ {ss:List S}{vs:List Value},Reps G w ss vs->AVals G w β (ss.map .s) vs
 | [],vs,h=>by simp only[map_nil,AVals]; exact List.length_eq_zero_iff.1 h.1
 | s::ss,[],h=>by simp[Reps]at h
 | s::ss,v::vs,h=>by
  simp only[map_cons,AVals]
  exact⟨v,vs,rfl,by simp only[AVal]; exact h.2 0 s v rfl rfl,zPs ⟨by simpa using h.1,fun i s v h1 h2=>h.2 (i+1) s v (by simpa using h1) (by simpa using h2)⟩⟩
theorem zZk (hT:TOk P T) (hC:∀ t i,T t=some i->zDX T i=true){β:Nat->Value}{d:DataW H}{p:List MemPlace} (ht:(T t).isSome=true)
  (hok:Value.okWide P w r base t v) (h:DataW.Trod enc P w 0 spare held t v d p):∃ ss,(∃ n,Typed T n t ss)/\AVal (old w) w β (zZf T t ss) v/\zEt ss<=Rows.uptoBulk d:=by
 obtain⟨n,hn⟩:=h;obtain⟨ss,r1,r2,r3⟩:=conv hT hC n t _ _ ht hn;obtain⟨i,hi⟩:=Option.isSome_iff_exists.1 ht;obtain⟨d',info,z,h1,h2,_⟩:=hT t i hi;refine⟨ss,⟨n,r2⟩,?_,r3⟩
 unfold zZf;rw[hi]
 simp only;cases hag:i.k.agg with
 | true =>
  obtain⟨cs,rfl⟩:=zWG h1 (by rw[h2]; exact hag) hok;simp only[AVal]
  exact⟨cs.toList,by simp,zPs r1⟩
 | false =>
  have hone:=zWH h1 (by rw[h2]; exact hag) hok;rw[cells_one hone]at r1
  match ss,r1 with
  | [s],r1=>simp only[AVal,headD_cons]; exact r1.2 0 s v rfl rfl
theorem zSF (hT:TOk P T) (hC:∀ t i,T t=some i->zDX T i=true){β:Nat->Value}{r:Reach}{base:Nat}:∀ {ts:List Nat}{vs:List Value}{ds:List (DataW H)}{ps:List MemPlace},
  (∀ t∈ts,(T t).isSome=true)->(∀ (j:Nat) t v,ts[j]? = some t->vs[j]? = some v->Value.okWide P w r base t v)->DataW.TrodAll enc P w 0 spare held ts vs ds ps ->
  ∃ sss,zY2 T ts sss/\AVals (old w) w β (zNr T ts sss) vs/\zE8 sss<=Rows.uptoBulkAll ds
 | [],vs,ds,ps,_,_,h=>by
  obtain⟨rfl,rfl,rfl⟩:=trodAll_nil h;exact⟨[],rfl,by simp only[zNr,AVals],by simp[zE8]⟩
 | t::ts,vs,ds,ps,ht,hok,h=>by
  obtain⟨v,vs',d,ds',p,q,rfl,rfl,rfl,h1,h2⟩:=trodAll_cons h;obtain⟨ss,a1,a2,a3⟩:=zZk hT hC (β:=β) (ht t mem_cons_self) (hok 0 t v rfl rfl) h1;obtain⟨sss,b1,b2,b3⟩:=zSF hT hC (β:=β) (fun t' h'=>ht t' (mem_cons_of_mem _ h')) (fun j t' v' e1 e2=>hok (j+1) t' v' (by simpa using e1) (by simpa using e2)) h2;refine⟨ss::sss,⟨ss,sss,rfl,a1,b1⟩,?_,?_⟩
  ·simp only[zNr,AVals]; exact⟨v,vs',rfl,a2,b2⟩
  ·simp only[zE8,Rows.uptoBulkAll]; omega
theorem zLk (hl:laidOutB P=true){W W':World} (hb:Below W.heap.size W W'):∀ {ts:List Nat}{vs:List Value}{ds:List (DataW H)}{ps:List MemPlace},(∀ t∈ts,P.readableRec t=true/\t<P.types.size) ->
  DataW.TrodAll enc P W 0 (fun _=>true) true ts vs ds ps->(∀ p∈ps,p.block<W.heap.size)->DataW.TrodAll enc P W' 0 (fun b=>decide (b<W.heap.size)) true ts vs ds ps
 | [],vs,ds,ps,_,h,_=>by
  obtain⟨rfl,rfl,rfl⟩:=trodAll_nil h;exact trodAll_mk0
 | t::ts,vs,ds,ps,ht,h,hlt=>by
  obtain⟨v,vs',d,ds',p,q,rfl,rfl,rfl,h1,h2⟩:=trodAll_cons h;exact⟨p,q,Below.trod hl (ht t mem_cons_self).1 (ht t mem_cons_self).2 h1 hb (fun x hx=>hlt x (mem_append_left _ hx)),
   zLk hl hb (fun t' h'=>ht t' (mem_cons_of_mem _ h')) h2 (fun x hx=>hlt x (mem_append_right _ hx)),rfl⟩
theorem trodAll_length {base:Nat}:∀ {ts:List Nat}{vs:List Value}{ds:List (DataW H)}{ps:List MemPlace},DataW.TrodAll enc P w base spare held ts vs ds ps->ds.length=ts.length
 | [],vs,ds,ps,h=>by
  obtain⟨rfl,rfl,rfl⟩:=trodAll_nil h
  rfl
 | t::ts,vs,ds,ps,h=>by
  obtain⟨v,vs',d,ds',p,q,rfl,rfl,rfl,h1,h2⟩:=trodAll_cons h;simp[trodAll_length h2]
theorem zSZ (hT:TOk P T) (hC:∀ t i,T t=some i->zDX T i=true) (hl:laidOutB P=true){f tb:Nat}{fn:Func}{s:ChangeSpec}{ps:zAr} (hs:PSound P f ps) (hvars:s.vars=[])
  (hpar:∀ t∈fn.params.toList,(T t).isSome=true/\P.readableRec t=true/\t<P.types.size) (hres:fn.resultTypes = #[tb]) (htb:P.underlying tb=some .bool)
  (hfn:∀ (ds:List (DataW H)),ds.length=fn.params.size->s.fn H ds={ results:=[.lit (.bool true)],args:=ds })
  (zSU:∀ sss,zY2 T fn.params.toList sss->zE8 sss<=1048576->ps.spec (zNr T fn.params.toList sss) (.val (.s (.bool true))))
  {F:Stop.Interp} (W:World) (base:Nat) (args:Array Value) (ds gs:List (DataW H)) (before:List MemPlace)
  (hval:∀ (j:Nat) t v,fn.params[j]? = some t->args[j]? = some v->Value.okWide P W .any base t v)
  (hW:DataW.Whole enc P fn.params.toList s.vars false W args.toList ds gs before) (hk:Rows.uptoSmall H (ds++gs)=true) (hgl:GlobOk (old W) W:=by exact⟨fun g row h=>(by cases h),fun g cs h=>(by cases h)⟩) :
  Calls P f args W fun e W'=>∃ v,e = .returned v/\s.post enc P fn false true false false W args v W':=by
 have hW':=hW;obtain⟨p,q,hA,hV,rfl,hfz,hnd⟩:=hW;rw[hvars]at hV;obtain⟨rfl,rfl⟩:=trodVars_none hV;have hb:Rows.uptoBulkAll ds<=1048576:=by
  have:=of_decide_eq_true hk
  simpa using this
 obtain⟨sss,c1,c2,c3⟩:=zSF hT hC (β:=fun _=>.tuple #[]) (fun t ht=>(hpar t ht).1) (fun j t v h1 h2=>hval j t v (by simpa using h1) (by simpa using h2)) hA;have hcall:=hs.2.1 (old W) W _ _ _ (fun _ h=>h) hgl (zNs fun t ht=>(hpar t ht).1) c2 (zSU sss c1 (Nat.le_trans c3 hb))
 refine hcall.mono fun e W' ⟨v,G',he,hext,hret⟩=>⟨v,he,?_⟩
 obtain⟨_,hret⟩:=hret;simp only[AVal,Rep]at hret;subst hret;have hbelow:Below W.heap.size W W':=⟨hext.os,hext.tape,hext.output,hext.size,fun k hk=>hext.old k hk⟩
 have hlen:ds.length=fn.params.size :=(by simpa using trodAll_length hA);have hlt:∀ x∈p,x.block<W.heap.size:=fun x hx=>by simpa using hW'.lt x (by simpa using hx)
 refine⟨ds,[],p++[],[],p,[],hW',?_,?_,?_,hbelow.frame _,fun h=>by cases h⟩
 ·rw[append_nil,hfn ds hlen,hres]
  exact trodAll_cons_mk (shut_bool htb true) trodAll_mk0
 ·rw[append_nil,hfn ds hlen]
  exact zLk hl hbelow (fun t ht=>(hpar t ht).2) hA hlt
 ·rw[append_nil,hfn ds hlen,hvars]
  rfl
end
def look? {α:Type} (k:Nat):List (Nat×α)->Option α
 | []=>none
 | (a,b)::r=>match Nat.beq k a with | true=>some b | false=>look? k r
theorem zAn {α:Type}{Q:Nat->α->Prop}:∀ {l:List (Nat×α)},(∀ p∈l,Q p.1 p.2)->∀ t i,look? t l=some i->Q t i
 | [],_,t,i,h=>by simp[look?]at h
 | (a,b)::r,hl,t,i,h=>by
  simp only[look?]at h;split at h
  ·rename_i e; cases h; obtain rfl:=Nat.eq_of_beq_eq_true e; exact hl _ mem_cons_self
  ·exact zAn (fun p hp=>hl p (mem_cons_of_mem _ hp)) t i h
def okT (P:Program) (t:Nat) (i:TI):Prop:=∃ d info z,P.underlying t=some d/\tkOf d=i.k/\P.info? t=some info/\info.size=i.size/\info.bytes=i.bytes /\
  info.zero=some z/\z=(if i.k.agg then .agg (i.zero.map S.zval).toArray else (i.zero.headD .np).zval)/\i.zero.length=i.size/\(i.k.agg=false->i.size=1)/\i.zero.all S.zok=true
variable {tab:List (Nat×TI)}
theorem yAx {P:Program} (h:∀ p∈tab,okT P p.1 p.2):TOk P (fun t=>look? t tab):=zAn (Q:=okT P) h
theorem zXx  (h:tab.all (fun p=>zDX (fun t=>look? t tab) p.2)=true):∀ t i,look? t tab=some i->zDX (fun t=>look? t tab) i=true :=
 zAn (Q:=fun _ i=>zDX (fun t=>look? t tab) i=true) fun p hp=>List.all_eq_true.1 h p hp
theorem wrap64_in {n:Int} (h0 : -9223372036854775808<=n) (h1:n<9223372036854775808):i64.wrap n=n:=by
 simp only[IntKind.wrap,IntKind.bits,IntKind.signed]
 by_cases hn:0<=n
 ·have e:n % (2 ^ 64:Int)=n:=Int.emod_eq_of_lt hn (by omega)
  simp only[e]
  rw[if_neg (by simp; omega)]
 ·have e:n % (2 ^ 64:Int)=n+2 ^ 64:=by
   rw[← Int.add_emod_right]; exact Int.emod_eq_of_lt (by omega) (by omega)
  simp only[e]
  rw[if_pos (by simp; omega)]
  omega
section
variable {T:Nat->Option TI}
variable {i:TI}{ss:List S}{n t:Nat}
theorem zHC {k:IntKind} (ht:T t=some i) (hk:i.k = .int k) (h:Typed T n t ss):∃ x:Int,ss=[.int k x]/\k.min<=x/\x<=k.max:=by
 cases n with
 | zero=>exact h.elim
 | succ n=>simpa only[Typed,ht,hk] using h
theorem zP4  (ht:T t=some i) (hk:i.k = .bool) (h:Typed T n t ss):∃ b,ss=[.bool b]:=by
 cases n with
 | zero=>exact h.elim
 | succ n=>simpa only[Typed,ht,hk] using h
theorem zTO  (ht:T t=some i) (hk:i.k = .str) (h:Typed T n t ss):∃ l:List UInt8,ss=[.str l]/\l.length<=maxLen:=by
 cases n with
 | zero=>exact h.elim
 | succ n=>simpa only[Typed,ht,hk] using h
theorem zKi {e:Nat} (ht:T t=some i) (hk:i.k = .slice e) (h:Typed T n t ss):∃ m rows,n=m+1/\ss=[.sl (szOf T e) rows]/\rows.length<=maxLen/\∀ r∈rows,Typed T m e r:=by
 cases n with
 | zero=>exact h.elim
 | succ n =>
  simp only[Typed,ht,hk]at h;obtain⟨rows,h1,h2,h3⟩:=h;exact⟨n,rows,rfl,h1,h2,h3⟩
theorem zI0 {fs:List (Nat×Nat)} (ht:T t=some i) (hk:i.k = .struct fs) (h:Typed T n t ss):∃ m,n=m+1/\zYK (Typed T m) (fs.map (·.2)) ss:=by
 cases n with
 | zero=>exact h.elim
 | succ n =>
  simp only[Typed,ht,hk]at h;exact⟨n,rfl,h⟩
theorem zQt {α β:Type}{f:α->β}{q:α->Prop}:∀ {l:List β},(∀ y∈l,∃ x,y=f x/\q x)->∃ xs:List α,l=xs.map f/\∀ x∈xs,q x
 | [],_=>⟨[],rfl,fun _ h=>by cases h⟩
 | y::l,h=>by
  obtain⟨x,hx,hq⟩:=h y mem_cons_self;obtain⟨xs,h1,h2⟩:=zQt (fun z hz=>h z (mem_cons_of_mem _ hz))
  refine⟨x::xs,by rw[hx,h1]; rfl,fun z hz=>?_⟩
  rcases List.mem_cons.1 hz with rfl | hz
  ·exact hq
  ·exact h2 z hz
def irow (k:IntKind) (x:Int):List S:=[.int k x]
end
theorem zSw:∀ (l:List S),l.length<=zEt l
 | []=>by simp[zEt]
 | s::l=>by
  have:=zSw l;have h1:1<=s.bulk :=(by cases s <;> simp[S.bulk]);simp only[zEt,length_cons]; omega
theorem zSx:∀ {rows:List (List S)},(∀ r∈rows,1<=r.length)->rows.length<=zE8 rows
 | [],_=>by simp[zE8]
 | r::rows,h=>by
  have h1:=h r mem_cons_self;have h2:=zSw r;have h3:=zSx (rows:=rows) (fun r' hr=>h r' (mem_cons_of_mem _ hr))
  simp only[zE8,length_cons]; omega
variable {P:Program}
theorem zDu {f:Nat}{s:Nat->List AV->Ret->Prop} (h:∀ n,PSound P f (zAu (s n))):PSound P f (zAu fun xs r=>∃ n,s n xs r) :=
 ⟨(h 0).1,fun G w xs vs r hl hgl hp hv ⟨n,hn⟩=>(h n).2.1 G w xs vs r hl hgl hp hv hn,fun R hR=>(by cases hR),fun R hR=>(by cases hR)⟩
theorem zCP {f:Nat}{s:List AV->Ret->Prop} (hcall:∀ args w,(callFunc f args).run P w = .ok (.enter f args) w) (h:∀ xs r,¬ s xs r):PSound P f (zAu s) :=
 ⟨hcall,fun G w xs vs r _ _ _ _ hs=>absurd hs (h xs r),fun R hR=>(by cases hR),fun R hR=>(by cases hR)⟩
variable {α:Type}
def req  (φ:Prop) [Decidable φ] (K:Option α):Option α:=if φ then K else none
variable {φ:Prop}
theorem zAx  [Decidable φ] {K:Option α}{r:α} (h:req φ K=some r):φ/\K=some r:=by
 unfold req at h;split at h
 ·exact⟨by assumption,h⟩
 ·cases h
theorem zA5  [Decidable φ] {K:Option α} (h:φ):req φ K=K:=if_pos h
variable {β:Type}
theorem zAc {o:Option α}{f:α->Option β}{r:β} (h:o.bind f=some r):∃ x,o=some x/\f x=some r:=by
 cases o with
 | none=>cases h
 | some x=>exact⟨x,rfl,h⟩
variable {b:Bool}
theorem zAw {A B:Option α}{r:α} (hb:b=true) (h:(bif b then A else B)=some r):A=some r:=by subst hb; exact h
theorem zAv {A B:Option α}{r:α} (hb:b=false) (h:(bif b then A else B)=some r):B=some r:=by subst hb; exact h
theorem obs  (a:α) (f:α->Option β):(some a).bind f=f a :=
 rfl
theorem osi {a b:α} (h:some a=some b):a=b :=
 Option.some.inj h
variable {x:Code}{Q:End->St->Prop}{σ:St}{c:Cx}
theorem zAf {y:Code}{t:Nat}{A B:Option α}{r:α} (hb:σ.env t = .s (.bool b)) (h:(bif b then A else B)=some r) (h1:b=true->A=some r->Tri c x σ Q) (h2:b=false->B=some r->Tri c y σ Q):Tri c (.cond (.tmp t) x y) σ Q :=
 zAI hb (fun e=>h1 e (zAw e h)) (fun e=>h2 e (zAv e h))
theorem pij {a c:α}{b d:β} (h:some (a,b)=some (c,d)):a=c/\b=d :=
 Prod.mk.inj (Option.some.inj h)
inductive Fl (R G:Type) where
 | ret (r:R)
 | go (g:G)
def at?  (l:List α) (i:Int):Option α:=if 0<=i then l[i.toNat]? else none
variable {i:Int}
theorem zAq {R:List α->List (List S)}{f:α->List S} (hR:∀ l,R l=l.map f){l:List α}{y:α} (h:at? l i=some y) :
  (0<=i/\i<((R l).length:Int))/\(R l).getD i.toNat []=f y/\i.toNat<(R l).length:=by
 unfold at? at h;split at h
 ·rename_i h0
  obtain⟨hl,hy⟩:=List.getElem?_eq_some_iff.1 h;rw[hR,length_map]
  exact⟨⟨h0,by omega⟩,by simp[h],hl⟩
 ·cases h
theorem zAK {l:List α}{i:Nat} (h:i<l.length):at? l (i:Int)=some l[i]:=by
 simp[at?,h]
theorem rlen {R:List α->List (List S)}{f:α->List S} (hR:∀ l,R l=l.map f) (l:List α):(R l).length=l.length:=by rw[hR,length_map]
theorem rlE {f:α->List S}{R:List α->List (List S)} (hR:∀ l,R l=l.map f) (l:List α){n:Int} (h:n=(((R l).length:Nat):Int)):((l.length:Nat):Int)=n :=
 (h.trans (congrArg (fun m:Nat=>(m:Int)) (rlen hR l))).symm
theorem rcut {R:List α->List (List S)}{f:α->List S} (hR:∀ l,R l=l.map f) (l:List α) (a b:Nat):((R l).take b).drop a=R ((l.take b).drop a):=by
 rw[hR,hR,map_drop,map_take]
theorem at_set {l:List α}{y:α} (h:at? l i=some y) (y':α):at? (l.set i.toNat y') i=some y':=by
 unfold at? at h ⊢;split at h
 ·rename_i h0
  rw[if_pos h0]
  rw[List.getElem?_set_self (List.getElem?_eq_some_iff.1 h).1]
 ·cases h
theorem rset {R:List α->List (List S)}{f:α->List S} (hR:∀ l,R l=l.map f){l:List α}{y:α} (h:at? l i=some y) (y':α) (o n:Nat) (ss:List S) (hs:(f y).take o++ss++(f y).drop n=f y') :
  (R l).set i.toNat (((R l).getD i.toNat []).take o++ss++((R l).getD i.toNat []).drop n)=R (l.set i.toNat y'):=by
 rw[(zAq hR h).2.1,hs,hR,hR,map_set]
def b8of (n:Int):UInt8:=UInt8.ofNat n.toNat
theorem zF1 {n:Int} (h0:0<=n) (h1:n<=255):[S.int .u8 n]=brow (b8of n):=by
 have:(b8of n).toNat=n.toNat :=(by simp[b8of,UInt8.toNat_ofNat']; omega);simp only[brow,this,Int.toNat_of_nonneg h0]
theorem zOF (n:Int):0<=u8.wrap n/\u8.wrap n<=255:=by
 have:u8.wrap n=n % 256:=by
  simp only[IntKind.wrap,IntKind.bits,IntKind.signed]
  simp
 rw[this]; omega
theorem zFx (n:Int):[S.int .u8 (u8.wrap n)]=brow (b8of (u8.wrap n)):=zF1 (zOF n).1 (zOF n).2
theorem zAm  (σ1:St) (h1:Tri c x σ (fun e σ'=>match e with | .normal=>Le c σ' σ1 | e=>Q e σ')) (h2:∀ σ',Le c σ' σ1->Q .normal σ'):Tri c x σ Q :=
 zRH h1 fun e σ' hq=>by
  cases e with
  | normal=>exact h2 σ' hq
  | exit id=>exact hq
  | ret=>exact hq
theorem zB3 {R Z:Type}{fl:Fl R Z} (E:Z->St) (h1:Tri c x σ (fun e σ'=>match e with | .normal=>∃ z,fl = .go z/\Le c σ' (E z) | e=>Q e σ'))
  (h2:∀ z σ',fl = .go z->Le c σ' (E z)->Q .normal σ'):Tri c x σ Q :=
 zRH h1 fun e σ' hq=>by
  cases e with
  | normal=>obtain⟨z,h3,h4⟩:=hq; exact h2 z σ' h3 h4
  | exit id=>exact hq
  | ret=>exact hq
theorem zCl {l:List UInt8}{y:UInt8} (h:at? l i=some y):(0<=i/\i<(l.length:Int))/\((l.getD i.toNat 0).toNat:Int)=(y.toNat:Int):=by
 unfold at? at h;split at h
 ·rename_i h0
  obtain⟨hl,hy⟩:=List.getElem?_eq_some_iff.1 h;exact⟨⟨h0,by omega⟩,by simp[h]⟩
 ·cases h
variable {R:List AV->List Ob->AV->List (Option Ob)->Prop}{f:Nat}{P:Program}
theorem PSound.withNil  (h:PSound P f (zEA R)) (k:Option Nat):PSound P f (zEA R k):=⟨h.1,h.2.1,h.2.2.1,fun R hR=>by cases hR⟩
theorem zHW  (hcall:∀ args w,(callFunc f args).run P w = .ok (.enter f args) w) (h:∀ xs os x os',¬ R xs os x os') (k:Option Nat):PSound P f (zEA R k) :=
 ⟨hcall,fun G w xs vs r _ _ _ _ hs=>hs.elim,fun R' hR'=>(by
  obtain rfl:R=R' :=(by simpa [zEA] using hR');exact fun G w β xs vs os x os' _ _ _ _ _ hs=>absurd hs (h xs os x os')),fun R hR=>(by cases hR)⟩
theorem zWP {s:Nat->List AV->List Ob->AV->List (Option Ob)->Prop}{k:Option Nat} (h:∀ n,PSound P f (zEA (s n) k)) (k':Option Nat):PSound P f (zEA (fun xs os x os'=>∃ n,s n xs os x os') k') :=
 ⟨(h 0).1,fun G w xs vs r _ _ _ _ hs=>hs.elim,fun R' hR'=>(by
  obtain rfl:(fun xs os x os'=>∃ n,s n xs os x os')=R' :=(by simpa [zEA] using hR');exact fun G w β xs vs os x os' h1 h2 h3 h4 h5 ⟨n,hs⟩=>(h n).2.2.1 (s n) rfl G w β xs vs os x os' h1 h2 h3 h4 h5 hs),fun R hR=>(by cases hR)⟩
theorem zAL {i:Nat} (h:i<9223372036854775807):i64.wrap ((i:Int)+1)=((i+1:Nat):Int):=by
 rw[wrap64_in (by omega) (by omega)]; rfl
end Go.Abs
namespace Go.Proofs.YtbfnjnljboncgaaGreat
open Go.Abs
inductive Nd where
 | mk (kind:Int) (text:List UInt8) (cols:Int) (kids:List Nd)
abbrev zO8:=Int×List Int×Int×Int×List Nd×Int×List UInt8×List UInt8
abbrev zCu:=List Int×List Int
abbrev zRc:=List zO8×zCu×zCu
mutual
def Nd.enc:Nd->List S
 | .mk k t c ks=>[.int .i64 k,.str t,.int .i64 c,.sl 4 (Nd.encs ks)]
def Nd.encs:List Nd->List (List S)
 | []=>[]
 | v::vs=>v.enc::Nd.encs vs
end
mutual
def Nd.w:Nd->Nat
 | .mk _ t _ ks=>t.length+Nd.ws ks+1
def Nd.ws:List Nd->Nat
 | []=>0
 | v::vs=>v.w+Nd.ws vs+1
end
def yBU (n:Int):Prop:=-9223372036854775808<=n/\n<=9223372036854775807
mutual
def Nd.rng:Nd->Prop
 | .mk k _ c ks=>yBU k/\yBU c/\Nd.rngs ks
def Nd.rngs:List Nd->Prop
 | []=>True
 | v::vs=>v.rng/\Nd.rngs vs
end
theorem Nd.encs_eq:∀ (vs:List Nd),Nd.encs vs=vs.map Nd.enc
 | []=>rfl
 | v::vs=>by simp[Nd.encs,Nd.encs_eq vs]
theorem Nd.rngAll:∀ {vs:List Nd},(∀ v∈vs,v.rng)->Nd.rngs vs
 | [],_=>trivial
 | v::vs,h=>⟨h v mem_cons_self,Nd.rngAll fun u hu=>h u (mem_cons_of_mem _ hu)⟩
theorem Nd.w_mem:∀ {vs:List Nd}{v:Nd},v∈vs->v.w<Nd.ws vs
 | u::vs,v,hm=>by
  simp only[Nd.ws]
  rcases List.mem_cons.1 hm with rfl | hm
  ·omega
  ·have:=Nd.w_mem hm; omega
theorem Nd.ws_len:∀ (vs:List Nd),vs.length<=Nd.ws vs
 | []=>Nat.le_refl _
 | v::vs=>by have:=Nd.ws_len vs; simp only[Nd.ws,length_cons]; omega
theorem Nd.ws_append:∀ (a b:List Nd),Nd.ws (a++b)=Nd.ws a+Nd.ws b
 | [],b=>by simp[Nd.ws]
 | v::a,b=>by simp only[cons_append,Nd.ws,Nd.ws_append a b]; omega
mutual
theorem Nd.w_bulk:∀ (v:Nd),v.w+1<=zEt v.enc
 | .mk k t c vs=>by
  have:=Nd.ws_bulk vs
  simp only[Nd.w,Nd.enc,zEt,S.bulk]; omega
theorem Nd.ws_bulk:∀ (vs:List Nd),Nd.ws vs<=zE8 (Nd.encs vs)
 | []=>Nat.zero_le _
 | v::vs=>by
  have h1:=Nd.w_bulk v
  have h2:=Nd.ws_bulk vs
  simp only[Nd.ws,Nd.encs,zE8]; omega
end
theorem zP5 {T:Nat->Option TI}{e s ki st:Nat}{i j k1 k2:TI} (he:T e=some i) (hk:i.k = .struct [(0,ki),(1,st),(2,ki),(3,s)]) (hs:T s=some j) (hj:j.k = .slice e) (hz:szOf T e=4)
  (hi:T ki=some k1) (hki:k1.k = .int .i64) (ht:T st=some k2) (hkt:k2.k = .str) :
  ∀ (n:Nat) {ss:List S},Typed T n e ss->∃ t:Nd,ss=t.enc/\t.rng:=by
 intro n
 induction n using Nat.strongRecOn with
 | _ n ih =>
  intro ss h;obtain⟨m,rfl,a0,q0,rfl,u0,a1,q1,rfl,u1,a2,q2,rfl,u2,a3,q3,rfl,u3,rfl⟩:=zI0 (T:=T) he hk h;obtain⟨k,rfl,k1,k2⟩:=zHC (T:=T) (k:=.i64) hi hki u0;obtain⟨t,rfl,_⟩:=zTO (T:=T) ht hkt u1;obtain⟨c,rfl,c1,c2⟩:=zHC (T:=T) (k:=.i64) hi hki u2;obtain⟨m',rows,rfl,rfl,_,hr⟩:=zKi (T:=T) hs hj u3;obtain⟨ks,rfl,hks⟩:=zQt (f:=Nd.enc) (q:=Nd.rng) (l:=rows) fun r hr'=>ih m' (by omega) (hr r hr')
  refine⟨.mk k t c ks,by simp only[Nd.enc,Nd.encs_eq,hz]; rfl,?_⟩
  have e1:i64.min = -9223372036854775808/\i64.max=9223372036854775807 :=(by decide);rw[e1.1]at k1 c1; rw[e1.2]at k2 c2
  exact⟨⟨k1,k2⟩,⟨c1,c2⟩,Nd.rngAll hks⟩
def zDi (s p:List UInt8):Option Int:=req (p.length=1) <| some (Lib.indexByte s (p.headD 0))
def zE1 (s p:List UInt8):Option Bool:=req (p.length=1) <| some (decide (0<=Lib.indexByte s (p.headD 0)))
def zDh (s:List UInt8) (c:Int):Option Int:=some (Lib.indexByte s c.toNat.toUInt8)
def zEy (n:Int):Option (List Nd):=req (0<=n/\n<=1073741824) (some [])
def zE0 (n:Int):Option (List Int):=req (0<=n/\n<=1073741824) (some [])
def zEh (l:List Nd):Option (List Nd):=req (l.length<=4294967296) (some l)
def zAP (l:List Int):Option (List Int):=req (l.length<=4294967296) (some l)
def zCh:(List UInt8)->Option Bool
| s1=>some (s1 == [])
def zBB (s1:List UInt8):Nat->Int->Option (Fl Bool Unit)
| 0,_=>none
| k+1,i2=>bif decide (i2<(s1.length:Int)) then ((at? s1 i2).bind fun c3=>(bif decide ((zNy .or .u8 (c3.toNat:Int) 32)<97) then (some true) else (some (decide (122<(zNy .or .u8 (c3.toNat:Int) 32)))):Option (Bool)).bind fun x5=>bif x5 then (some (.ret false)) else (zBB s1 k (i64.wrap (i2+1)))) else (some (.go ()))
def zDs (n:Nat):(List UInt8)->Option Bool
| s1=>(zBB s1 n 0).bind fun fl=>match fl with
 | .ret r=>some r
 | .go _=>some true
def zEm:(List UInt8)->Option Bool
| s1=>((bif (s1 == [102,114,97,99]) then (some (s1 == [102,114,97,99])) else (bif (s1 == [114,111,111,116]) then (some (s1 == [114,111,111,116])) else (bif (s1 == [109,97,116,114,105,120]) then (some (s1 == [109,97,116,114,105,120])) else (some (s1 == [102,101,110,99,101])))):Option (Bool)).bind fun x2=>bif x2 then (some (.ret true)) else (some (.go ())):Option (Fl Bool Unit)).bind fun fl=>match fl with
 | .ret r=>some r
 | .go _=>some false
def zD0:(List UInt8)->Option Bool
| s1=>((bif (s1 == [104,97,116]) then (some (s1 == [104,97,116])) else (bif (s1 == [98,97,114]) then (some (s1 == [98,97,114])) else (bif (s1 == [118,101,99]) then (some (s1 == [118,101,99])) else (bif (s1 == [100,111,116]) then (some (s1 == [100,111,116])) else (bif (s1 == [116,105,108,100,101]) then (some (s1 == [116,105,108,100,101])) else (some (s1 == [99,104,101,99,107])))))):Option (Bool)).bind fun x2=>bif x2 then (some (.ret true)) else (some (.go ())):Option (Fl Bool Unit)).bind fun fl=>match fl with
 | .ret r=>some r
 | .go _=>some false
def zEY (n:Nat):(List UInt8)->Option Bool
| s1=>bif ((s1.length:Int) == 1) then (((zDs n s1).bind fun y3=>bif y3 then (some true) else ((zE1 [43,45,42,47,61,60,62,44,59,58,33,124,39,63,126,64] s1).bind fun y4=>some y4):Option (Bool)).bind fun x2=>some x2) else ((bif decide (2<=(s1.length:Int)) then (bif decide ((s1.length:Int)<=16) then ((zDs n s1).bind fun y6=>bif y6 then ((zEm s1).bind fun y7=>bif (!y7) then ((zD0 s1).bind fun y8=>some (!y8)) else (some false)) else (some false)) else (some false)) else (some false):Option (Bool)).bind fun x5=>some x5)
def zCY:(List UInt8)->(List UInt8)->Option ((List UInt8)×(List UInt8)×Bool)
| s1,sep2=>(zDi s1 sep2).bind fun y3=>bif decide (0<=y3) then (req (0<=(0:Int)/\(0:Int)<=y3/\y3<=(s1.length:Int)) <| req (0<=(i64.wrap (y3+(sep2.length:Int)))/\(i64.wrap (y3+(sep2.length:Int)))<=(s1.length:Int)/\(s1.length:Int)<=(s1.length:Int)) <| some ((s1.take y3.toNat).drop (0:Int).toNat,(s1.take (s1.length:Int).toNat).drop (i64.wrap (y3+(sep2.length:Int))).toNat,true)) else (some (s1,[],false))
def zE2:(List UInt8)->(List UInt8)->Option ((List UInt8)×(List UInt8)×Bool)
| s1,sep2=>(zCY s1 sep2).bind fun⟨y3,y4,y5⟩=>some (y3,y4,y5)
def zBM (s1:List UInt8):Nat->Int->Option (Fl Bool Unit)
| 0,_=>none
| k+1,i2=>bif decide (i2<(s1.length:Int)) then (((at? s1 i2).bind fun c4=>bif decide ((c4.toNat:Int)<48) then (some true) else ((at? s1 i2).bind fun c6=>some (decide (57<(c6.toNat:Int)))):Option (Bool)).bind fun x3=>bif x3 then (some (.ret false)) else (zBM s1 k (i64.wrap (i2+1)))) else (some (.go ()))
def zD1 (n:Nat):(List UInt8)->Option Bool
| s1=>(zBM s1 n 0).bind fun fl=>match fl with
 | .ret r=>some r
 | .go _=>some (!(s1 == []))
def zDZ (n:Nat):(List UInt8)->Option Bool
| s1=>(zE2 s1 [46]).bind fun⟨y2,y3,y4⟩=>(bif decide ((s1.length:Int)<=20) then ((zD1 n y2).bind fun y6=>bif y6 then (bif (!y4) then (some true) else ((zD1 n y3).bind fun y7=>some y7)) else (some false)) else (some false):Option (Bool)).bind fun x5=>some x5
def zBS (s1:List UInt8):Nat->Int->Option (Fl Bool Unit)
| 0,_=>none
| k+1,i2=>bif decide (i2<(s1.length:Int)) then (((at? s1 i2).bind fun c4=>bif decide ((c4.toNat:Int)<32) then (some true) else ((at? s1 i2).bind fun c6=>some (decide (126<(c6.toNat:Int)))):Option (Bool)).bind fun x3=>bif x3 then (some (.ret false)) else (zBS s1 k (i64.wrap (i2+1)))) else (some (.go ()))
def zFF (n:Nat):(List UInt8)->Option Bool
| s1=>(zBS s1 n 0).bind fun fl=>match fl with
 | .ret r=>some r
 | .go _=>some (decide ((s1.length:Int)<=200))
def zFE:(List UInt8)->Option Bool
| s1=>(bif ((s1.length:Int) == 2) then ((at? s1 0).bind fun c3=>(zDh [40,41,91,93,123,125,60,62,47,124,46] (c3.toNat:Int)).bind fun y5=>bif decide (0<=y5) then ((at? s1 1).bind fun c6=>(zDh [40,41,91,93,123,125,60,62,47,124,46] (c6.toNat:Int)).bind fun y8=>some (decide (0<=y8))) else (some false)) else (some false):Option (Bool)).bind fun x2=>some x2
def zGY:Option Unit
:= some ()
def zCF (n:Nat):(Unit×Int)->Nd->Option (Bool×(Unit×Int))
| ⟨_,o1G⟩,⟨a2A,a2C,a2D,a2B⟩=>(bif decide (a2A<1) then (some true) else (bif decide (12<a2A) then (some true) else (bif (a2A == 1) then ((zCh a2C).bind fun y4=>some (!y4)) else (bif (a2A == 2) then ((zEY n a2C).bind fun y5=>some (!y5)) else (bif (a2A == 3) then ((zDZ n a2C).bind fun y6=>some (!y6)) else (bif (a2A == 4) then ((zFF n a2C).bind fun y7=>some (!y7)) else (bif (a2A == 5) then ((zCh a2C).bind fun y8=>some (!y8)) else (bif (a2A == 6) then ((zCh a2C).bind fun y9=>some (!y9)) else (bif (a2A == 7) then ((zCh a2C).bind fun y10=>some (!y10)) else (bif (a2A == 8) then ((zCh a2C).bind fun y11=>some (!y11)) else (bif (a2A == 9) then ((zCh a2C).bind fun y12=>some (!y12)) else (
             bif (a2A == 10) then ((zD0 a2C).bind fun y13=>some (!y13)) else (bif (a2A == 11) then ((zFE a2C).bind fun y14=>some (!y14)) else (bif (a2A == 12) then ((zCh a2C).bind fun y15=>some (!y15)) else (none)))))))))))))):Option (Bool)).bind fun x3=>bif x3 then (some (false,((),o1G))) else (bif (a2A == 1) then ((bif (a2D == 0) then (some (decide ((a2B.length:Int)<=200))) else (some false):Option (Bool)).bind fun x16=>some (x16,((),o1G))) else (bif (a2A == 12) then ((bif decide (1<=a2D) then (bif decide (a2D<=16) then (bif decide (1<=(a2B.length:Int)) then (bif decide ((a2B.length:Int)<=256) then (req (a2D ≠ 0) <| some (((a2B.length:Int).tmod a2D) == 0)) else (some false)) else (some false)) else (some false)) else (some false)
     : Option (Bool)).bind fun x18=>some (x18,((),o1G))) else ((bif (a2D == 0) then (bif (a2A == 1) then (some ((a2B.length:Int) == 0)) else (bif (a2A == 2) then (some ((a2B.length:Int) == 0)) else (bif (a2A == 3) then (some ((a2B.length:Int) == 0)) else (bif (a2A == 4) then (some ((a2B.length:Int) == 0)) else (bif (a2A == 5) then (some ((a2B.length:Int) == 2)) else (bif (a2A == 6) then (some ((a2B.length:Int) == 2)) else (bif (a2A == 7) then (some ((a2B.length:Int) == 2)) else (bif (a2A == 8) then (some ((a2B.length:Int) == 2)) else (bif (a2A == 9) then (some ((a2B.length:Int) == 3)) else (bif (a2A == 10) then (some ((a2B.length:Int) == 1)) else (bif (a2A == 11) then (some ((a2B.length:Int) == 1)) else (bif (a2A == 12) then (some ((a2B.length:Int) == 0)
                 ) else (none))))))))))))) else (some false):Option (Bool)).bind fun x22=>some (x22,((),o1G)))))
def zAR (F_node_checker_node:(Unit×Int)->Nd->Int->Option (Bool×(Unit×Int))) (a2A:Int) (a2B:List Nd) (a3:Int):Nat->Int->Int->Option (Fl (Bool×(Unit×Int)) (Int))
| 0,_,_=>none
| k+1,x9,x10=>bif decide (x10<(a2B.length:Int)) then (((at? a2B x10).bind fun⟨e14A,e14C,e14D,e14B⟩=>bif ((a2A == 1) == (e14A == 1)) then (some (true,x9)) else ((at? a2B x10).bind fun⟨e16A,e16C,e16D,e16B⟩=>(F_node_checker_node ((),x9) (Nd.mk e16A e16C e16D e16B) (i64.wrap (a3+1))).bind fun⟨y18,⟨_,w19G⟩⟩=>some ((!y18),w19G)):Option (Bool×Int)).bind fun⟨x12,x13⟩=>bif x12 then (some (.ret (false,((),x13)))) else (zAR F_node_checker_node a2A a2B a3 k x13 (i64.wrap (x10+1)))) else (some (.go x9))
def zA1:Nat->(Unit×Int)->Nd->Int->Option (Bool×(Unit×Int))
| 0,_,_,_=>none
| n+1,⟨_,o1G⟩,⟨a2A,a2C,a2D,a2B⟩,a3=>(bif decide (1000<(i64.wrap (o1G+1))) then (some (true,i64.wrap (o1G+1))) else (bif decide (24<a3) then (some (true,i64.wrap (o1G+1))) else ((zCF n ((),i64.wrap (o1G+1)) (Nd.mk a2A a2C a2D a2B)).bind fun⟨y6,⟨_,w7G⟩⟩=>some ((!y6),w7G))):Option (Bool×Int)).bind fun⟨x4,x5⟩=>bif x4 then (some (false,((),x5))) else ((zAR (zA1 n) a2A a2B a3 n x5 0).bind fun fl=>match fl with
  | .ret r=>some r
  | .go x11=>some (true,((),x11)))
def zA8 (n:Nat):Nd->Option Bool
| ⟨n1A,n1C,n1D,n1B⟩=>(zGY ).bind fun _=>(bif (n1A == 1) then ((zA1 n ((),0) (Nd.mk n1A n1C n1D n1B) 1).bind fun⟨y4,⟨_,w5G⟩⟩=>some y4) else (some false):Option (Bool)).bind fun x3=>some x3
def zEL:Int->Option Bool
| c1=>(bif decide (97<=c1) then (bif decide (c1<=122) then (some true) else (bif decide (65<=c1) then (some (decide (c1<=90))) else (some false))) else (bif decide (65<=c1) then (some (decide (c1<=90))) else (some false)):Option (Bool)).bind fun x2=>some x2
def zCZ (s1:List UInt8) (c2:Int):Nat->Int->Option (Fl Bool Unit)
| 0,_=>none
| k+1,i3=>bif decide (i3<(s1.length:Int)) then ((at? s1 i3).bind fun c4=>bif ((c4.toNat:Int) == c2) then (some (.ret true)) else (zCZ s1 c2 k (i64.wrap (i3+1)))) else (some (.go ()))
def zDM (n:Nat):(List UInt8)->Int->Option Bool
| s1,c2=>(zCZ s1 c2 n 0).bind fun fl=>match fl with
 | .ret r=>some r
 | .go _=>some false
def zEZ (n:Nat):Int->Option Bool
| c1=>((zEL c1).bind fun y3=>bif y3 then (some true) else ((zDM n [43,45,42,47,61,60,62,44,59,58,33,124,39,63,126,64] c1).bind fun y4=>some y4):Option (Bool)).bind fun x2=>some x2
def zFq:Option (List (List UInt8))
:= some [[102,114,97,99],[114,111,111,116],[109,97,116,114,105,120],[102,101,110,99,101]]
def zDK (l1:List (List UInt8)) (s2:List UInt8):Nat->Int->Option (Fl Bool Unit)
| 0,_=>none
| k+1,i3=>bif decide (i3<(l1.length:Int)) then ((at? l1 i3).bind fun e5=>bif (e5 == s2) then (some (.ret true)) else (zDK l1 s2 k (i64.wrap (i3+1)))) else (some (.go ()))
def zFp (n:Nat):(List (List UInt8))->(List UInt8)->Option Bool
| l1,s2=>(zDK l1 s2 n 0).bind fun fl=>match fl with
 | .ret r=>some r
 | .go _=>some false
def zD2:Option (List (List UInt8))
:= some [[104,97,116],[98,97,114],[118,101,99],[100,111,116],[116,105,108,100,101],[99,104,101,99,107]]
def zBJ (s1:List UInt8):Nat->Int->Option (Fl Bool Unit)
| 0,_=>none
| k+1,i5=>bif decide (i5<(s1.length:Int)) then ((at? s1 i5).bind fun c6=>(zEL (c6.toNat:Int)).bind fun y8=>bif (!y8) then (some (.ret false)) else (zBJ s1 k (i64.wrap (i5+1)))) else (some (.go ()))
def zFI (n:Nat):(List UInt8)->Option Bool
| s1=>bif ((s1.length:Int) == 1) then ((at? s1 0).bind fun c2=>(zEZ n (c2.toNat:Int)).bind fun y4=>some y4) else ((zBJ s1 n 0).bind fun fl=>match fl with
  | .ret r=>some r
  | .go _=>(bif decide (2<=(s1.length:Int)) then (bif decide ((s1.length:Int)<=16) then ((zFq ).bind fun y10=>(zFp n y10 s1).bind fun y11=>bif (!y11) then ((zD2 ).bind fun y12=>(zFp n y12 s1).bind fun y13=>some (!y13)) else (some false)) else (some false)) else (some false):Option (Bool)).bind fun x9=>some x9)
def zGx:Int->Option Bool
| c1=>(bif decide (48<=c1) then (some (decide (c1<=57))) else (some false):Option (Bool)).bind fun x2=>some x2
def zCr (s1:List UInt8):Nat->Int->Int->Option (Fl Bool (Int))
| 0,_,_=>none
| k+1,points2,i3=>bif decide (i3<(s1.length:Int)) then ((((at? s1 i3).bind fun c7=>bif ((c7.toNat:Int) == 46) then (bif decide (0<i3) then (some (decide (i3<(i64.wrap ((s1.length:Int) - 1))))) else (some false)) else (some false):Option (Bool)).bind fun x6=>bif x6 then (some (.go (i64.wrap (points2+1)))) else ((at? s1 i3).bind fun c9=>(zGx (c9.toNat:Int)).bind fun y11=>bif (!y11) then (some (.ret false)) else (some (.go points2))):Option (Fl Bool (Int))).bind fun fl=>match fl with
  | .ret r=>some (.ret r)
  | .go points5=>zCr s1 k points5 (i64.wrap (i3+1))) else (some (.go points2))
def zFG (n:Nat):(List UInt8)->Option Bool
| s1=>(zCr s1 n 0 0).bind fun fl=>match fl with
 | .ret r=>some r
 | .go points4=>(bif decide (0<(s1.length:Int)) then (bif decide ((s1.length:Int)<=20) then (some (decide (points4<=1))) else (some false)) else (some false):Option (Bool)).bind fun x12=>some x12
def zBn (s1:List UInt8):Nat->Int->Option (Fl Bool Unit)
| 0,_=>none
| k+1,i2=>bif decide (i2<(s1.length:Int)) then (((at? s1 i2).bind fun c4=>bif decide ((c4.toNat:Int)<32) then (some true) else ((at? s1 i2).bind fun c6=>some (decide (126<(c6.toNat:Int)))):Option (Bool)).bind fun x3=>bif x3 then (some (.ret false)) else (zBn s1 k (i64.wrap (i2+1)))) else (some (.go ()))
def zDL (n:Nat):(List UInt8)->Option Bool
| s1=>(zBn s1 n 0).bind fun fl=>match fl with
 | .ret r=>some r
 | .go _=>some true
def zHv (n:Nat):Nd->Option Bool
| ⟨n1A,n1C,n1D,n1B⟩=>bif (n1A == 2) then ((zFI n n1C).bind fun y2=>some y2) else (bif (n1A == 3) then ((zFG n n1C).bind fun y3=>some y3) else (bif (n1A == 4) then ((bif decide ((n1C.length:Int)<=200) then ((zDL n n1C).bind fun y5=>some y5) else (some false):Option (Bool)).bind fun x4=>some x4) else (bif (n1A == 10) then ((zD2 ).bind fun y6=>(zFp n y6 n1C).bind fun y7=>some y7) else (bif (n1A == 11) then ((bif ((n1C.length:Int) == 2) then ((at? n1C 0).bind fun c9=>(zDM n [40,41,91,93,123,125,124,60,62,47,46] (c9.toNat:Int)).bind fun y11=>bif y11 then ((at? n1C 1).bind fun c12=>(zDM n [40,41,91,93,123,125,124,60,62,47,46] (c12.toNat:Int)).bind fun y14=>some y14) else (some false)) else (some false)
       : Option (Bool)).bind fun x8=>some x8) else (some (n1C == []))))))
def zHu:Nd->Option Bool
| ⟨n1A,n1C,n1D,n1B⟩=>bif (n1A == 12) then ((bif decide (1<=n1D) then (bif decide (n1D<=16) then (bif decide (1<=(n1B.length:Int)) then (bif decide ((n1B.length:Int)<=256) then (req (n1D ≠ 0) <| some (((n1B.length:Int).tmod n1D) == 0)) else (some false)) else (some false)) else (some false)) else (some false):Option (Bool)).bind fun x3=>some x3) else (bif (n1D != 0) then (some false) else ((bif (n1A == 1) then (some (.ret (decide ((n1B.length:Int)<=200)))) else ((bif (n1A == 2) then (some (n1A == 2)) else (bif (n1A == 3) then (some (n1A == 3)) else (some (n1A == 4))):Option (Bool)).bind fun x4=>bif x4 then (some (.ret ((n1B.length:Int) == 0))) else ((bif (n1A == 5) then (some (n1A == 5)) else (bif (n1A == 6) then (some (n1A == 6)) else (bif (n1A == 7) then (
          some (n1A == 7)) else (some (n1A == 8)))):Option (Bool)).bind fun x5=>bif x5 then (some (.ret ((n1B.length:Int) == 2))) else (bif (n1A == 9) then (some (.ret ((n1B.length:Int) == 3))) else ((bif (n1A == 10) then (some (n1A == 10)) else (some (n1A == 11)):Option (Bool)).bind fun x6=>bif x6 then (some (.ret ((n1B.length:Int) == 1))) else (some (.go ())))))):Option (Fl Bool Unit)).bind fun fl=>match fl with
   | .ret r=>some r
   | .go _=>some false))
def zDf (F_r09_form:Nd->Option Bool) (n1A:Int) (n1B:List Nd):Nat->Int->Option (Fl Bool Unit)
| 0,_=>none
| k+1,i5=>bif decide (i5<(n1B.length:Int)) then (((at? n1B i5).bind fun⟨e8A,e8C,e8D,e8B⟩=>bif ((e8A == 1) == (n1A == 1)) then (some true) else ((at? n1B i5).bind fun⟨e10A,e10C,e10D,e10B⟩=>(F_r09_form (Nd.mk e10A e10C e10D e10B)).bind fun y12=>some (!y12)):Option (Bool)).bind fun x7=>bif x7 then (some (.ret false)) else (zDf F_r09_form n1A n1B k (i64.wrap (i5+1)))) else (some (.go ()))
def zD3:Nat->Nd->Option Bool
| 0,_=>none
| n+1,⟨n1A,n1C,n1D,n1B⟩=>((zHv n (Nd.mk n1A n1C n1D n1B)).bind fun y3=>bif (!y3) then (some true) else ((zHu (Nd.mk n1A n1C n1D n1B)).bind fun y4=>some (!y4)):Option (Bool)).bind fun x2=>bif x2 then (some false) else ((zDf (zD3 n) n1A n1B n 0).bind fun fl=>match fl with
  | .ret r=>some r
  | .go _=>some true)
def zCM (F_r09_Count:Nd->Option Int) (n1B:List Nd):Nat->Int->Int->Option (Int)
| 0,_,_=>none
| k+1,out2,i3=>bif decide (i3<(n1B.length:Int)) then ((at? n1B i3).bind fun⟨e6A,e6C,e6D,e6B⟩=>(F_r09_Count (Nd.mk e6A e6C e6D e6B)).bind fun y8=>zCM F_r09_Count n1B k (i64.wrap (out2+y8)) (i64.wrap (i3+1))) else (some out2)
def zDd:Nat->Nd->Option Int
| 0,_=>none
| n+1,⟨n1A,n1C,n1D,n1B⟩=>(zCM (zDd n) n1B n 1 0).bind fun out4=>some out4
def zCN (F_r09_Depth:Nd->Option Int) (n1B:List Nd):Nat->Int->Int->Option (Int)
| 0,_,_=>none
| k+1,out2,i3=>bif decide (i3<(n1B.length:Int)) then ((at? n1B i3).bind fun⟨e6A,e6C,e6D,e6B⟩=>(F_r09_Depth (Nd.mk e6A e6C e6D e6B)).bind fun y8=>zCN F_r09_Depth n1B k (if out2<y8 then y8 else out2) (i64.wrap (i3+1))) else (some out2)
def zDe:Nat->Nd->Option Int
| 0,_=>none
| n+1,⟨n1A,n1C,n1D,n1B⟩=>(zCN (zDe n) n1B n 0 0).bind fun out4=>some (i64.wrap (out4+1))
def zAU (n:Nat):Nd->Option Bool
| ⟨n1A,n1C,n1D,n1B⟩=>(bif (n1A == 1) then ((zD3 n (Nd.mk n1A n1C n1D n1B)).bind fun y3=>bif y3 then ((zDd n (Nd.mk n1A n1C n1D n1B)).bind fun y4=>bif decide (y4<=1000) then ((zDe n (Nd.mk n1A n1C n1D n1B)).bind fun y5=>some (decide (y5<=24))) else (some false)) else (some false)) else (some false):Option (Bool)).bind fun x2=>some x2
def zBI (F_r09_Equal:Nd->Nd->Option Bool) (a1:List Nd) (b2:List Nd):Nat->Int->Option (Fl Bool Unit)
| 0,_=>none
| k+1,i5=>bif decide (i5<(a1.length:Int)) then ((at? a1 i5).bind fun⟨e7A,e7C,e7D,e7B⟩=>(at? b2 i5).bind fun⟨e9A,e9C,e9D,e9B⟩=>(F_r09_Equal (Nd.mk e7A e7C e7D e7B) (Nd.mk e9A e9C e9D e9B)).bind fun y11=>bif (!y11) then (some (.ret false)) else (zBI F_r09_Equal a1 b2 k (i64.wrap (i5+1)))) else (some (.go ()))
mutual
def zCq:Nat->Nd->Nd->Option Bool
| 0,_,_=>none
| n+1,⟨a1A,a1C,a1D,a1B⟩,⟨b2A,b2C,b2D,b2B⟩ =>
 (
  bif (a1A == b2A) then (
   bif (a1C == b2C) then (
    bif (a1D == b2D) then (
     (zCs n a1B b2B).bind fun y4 =>
     some y4
    ) else (
     some false
    )
   ) else (
    some false
   )
  ) else (
   some false
  )
  : Option (Bool)).bind fun x3 =>
 some x3
def zCs:Nat->(List Nd)->(List Nd)->Option Bool
| 0,_,_=>none
| n+1,a1,b2 =>
 bif ((a1.length:Int) != (b2.length:Int)) then (
  some false
 ) else (
  (zBI (zCq n) a1 b2 n 0).bind fun fl=>match fl with
  | .ret r=>some r
  | .go _ =>
   some true
 )
end
def zCG (F_r09_left:Nd->Int->Option Int) (n1B:List Nd):Nat->Int->Int->Option (Int)
| 0,_,_=>none
| k+1,most3,i4=>(bif decide (i4<(n1B.length:Int)) then (some (decide (0<=most3))) else (some false):Option (Bool)).bind fun x6=>bif x6 then ((at? n1B i4).bind fun⟨e8A,e8C,e8D,e8B⟩=>(F_r09_left (Nd.mk e8A e8C e8D e8B) most3).bind fun y10=>zCG F_r09_left n1B k y10 (i64.wrap (i4+1))) else (some most3)
def zD4:Nat->Nd->Int->Option Int
| 0,_,_=>none
| n+1,⟨n1A,n1C,n1D,n1B⟩,most2=>(zCG (zD4 n) n1B n (i64.wrap (most2 - 1)) 0).bind fun most5=>some most5
def zGy (n:Nat):Nd->Int->Option Bool
| ⟨n1A,n1C,n1D,n1B⟩,most2=>(zD4 n (Nd.mk n1A n1C n1D n1B) most2).bind fun y3=>some (decide (0<=y3))
def zA2:(List Nd)->Option Nd
| l1=>some (Nd.mk 1 [] 0 l1)
def zB5 (n:Nat):(List Nd)->Option Bool
| l1=>(zA2 l1).bind fun⟨y2A,y2C,y2D,y2B⟩=>(zAU n (Nd.mk y2A y2C y2D y2B)).bind fun y3=>some y3
def zEn (n:Nat):(List Nd)->Int->Option Bool
| l1,slot2=>(bif ((l1.length:Int) == 1) then ((zB5 n l1).bind fun y5=>bif y5 then (bif decide (0<=slot2) then ((at? l1 0).bind fun⟨e6A,e6C,e6D,e6B⟩=>bif decide (slot2<(e6B.length:Int)) then ((at? l1 0).bind fun⟨e9A,e9C,e9D,e9B⟩=>(at? e9B slot2).bind fun⟨e11A,e11C,e11D,e11B⟩=>some ((e11B.length:Int) == 0)) else (some false)) else (some false)) else (some false)) else (some false):Option (Bool)).bind fun x3=>some x3
def zEM (n:Nat):zO8->Option Bool
| ⟨a1A,a1E,a1F,a1K,a1G,a1H,a1L,a1C⟩=>((bif (a1A == 1) then (some (a1A == 1)) else (some (a1A == 2)):Option (Bool)).bind fun x2=>bif x2 then ((bif decide (0<(a1G.length:Int)) then ((zB5 n a1G).bind fun y5=>bif y5 then (bif (a1K == 0) then (bif (a1H == 0) then (bif (a1L == []) then (some (a1C == [])) else (some false)) else (some false)) else (some false)) else (some false)) else (some false):Option (Bool)).bind fun x3=>some (.ret x3)) else ((bif (a1A == 3) then (some (a1A == 3)) else (some (a1A == 4)):Option (Bool)).bind fun x6=>bif x6 then ((bif decide (0<=a1K) then ((zEn n a1G a1H).bind fun y8=>bif y8 then (bif (a1L == []) then (some (a1C == [])) else (some false)) else (some false)) else (some false):Option (Bool)).bind fun x7 =>
    some (.ret x7)) else (bif (a1A == 5) then ((bif (!(a1L == a1C)) then (bif ((a1G.length:Int) == 0) then (bif (a1K == 0) then (some (a1H == 0)) else (some false)) else (some false)) else (some false):Option (Bool)).bind fun x9=>some (.ret x9)) else (some (.go ())))):Option (Fl Bool Unit)).bind fun fl=>match fl with
 | .ret r=>some r
 | .go _=>some false
def zCe  : Nat->Int->(List UInt8)->Int->(List Nd)->(List Int)->Option (Fl (Nd×Bool) ((List Int)×Int×(List UInt8)×Int×(List Nd)))
| 0,_,_,_,_,_=>none
| k+1,x3,x4,x5,x6,path8=>bif decide (2<=(path8.length:Int)) then (((at? path8 0).bind fun e16=>bif decide (e16<0) then (some true) else ((at? path8 0).bind fun e18=>some (decide ((x6.length:Int)<=e18))):Option (Bool)).bind fun x15=>bif x15 then (some (.ret (Nd.mk 0 [] 0 [],false))) else ((at? path8 0).bind fun e21=>(at? x6 e21).bind fun⟨e23A,e23C,e23D,e23B⟩=>((at? path8 1).bind fun e26=>bif decide (e26<0) then (some true) else ((at? path8 1).bind fun e28=>some (decide ((e23B.length:Int)<=e28))):Option (Bool)).bind fun x25=>bif x25 then (some (.ret (Nd.mk 0 [] 0 [],false))) else ((at? path8 1).bind fun e31=>(at? e23B e31).bind fun⟨e33A,e33C,e33D,e33B⟩=>req (0<=(2:Int)/\(2:Int)<=(path8.length:Int)/\(path8.length:Int)<=(path8.length:Int)) <|
    zCe k e33A e33C e33D e33B ((path8.take (path8.length:Int).toNat).drop (2:Int).toNat)))) else (some (.go (path8,x3,x4,x5,x6)))
def zHt (n:Nat):Nd->(List Int)->Option (Nd×Bool)
| ⟨n1A,n1C,n1D,n1B⟩,path2=>(zCe  n n1A n1C n1D n1B path2).bind fun fl=>match fl with
 | .ret r=>some r
 | .go ⟨path9,x10,x11,x12,x13⟩=>some (Nd.mk x10 x11 x12 x13,((path9.length:Int) == 0))
def zFH (n:Nat):Nd->(List Int)->Option (Nd×Int)
| ⟨n1A,n1C,n1D,n1B⟩,path2=>(zAU n (Nd.mk n1A n1C n1D n1B)).bind fun y3=>bif (!y3) then (some (Nd.mk 0 [] 0 [],1)) else ((zHt n (Nd.mk n1A n1C n1D n1B) path2).bind fun⟨⟨y4A,y4C,y4D,y4B⟩,y5⟩=>bif (!y5) then (some (Nd.mk 0 [] 0 [],8)) else (some (Nd.mk y4A y4C y4D y4B,0)))
def zCj:(List Nd)->Int->Int->(List Nd)->Option (List Nd)
| l1,at2,to3,by4=>req (0<=(0:Int)/\(0:Int)<=at2/\at2<=(l1.length:Int)) <| req (([]:List Nd).length+((l1.take at2.toNat).drop (0:Int).toNat).length<=4294967296) <| req (((l1.take at2.toNat).drop (0:Int).toNat).length+by4.length<=4294967296) <| req (0<=to3/\to3<=(l1.length:Int)/\(l1.length:Int)<=(l1.length:Int)) <| req ((((l1.take at2.toNat).drop (0:Int).toNat)++by4).length+((l1.take (l1.length:Int).toNat).drop to3.toNat).length<=4294967296) <| some ((((l1.take at2.toNat).drop (0:Int).toNat)++by4)++((l1.take (l1.length:Int).toNat).drop to3.toNat))
def zBs:Nd->Int->Nd->Option Nd
| ⟨n1A,n1C,n1D,n1B⟩,i2,⟨kid3A,kid3C,kid3D,kid3B⟩=>req (([]:List Nd).length+n1B.length<=4294967296) <| (at? n1B i2).bind fun⟨e4A,e4C,e4D,e4B⟩=>some (Nd.mk n1A n1C n1D (n1B.set i2.toNat (Nd.mk kid3A kid3C kid3D kid3B)))
def zDR:Nd->Int->(List Nd)->Option Nd
| ⟨n1A,n1C,n1D,n1B⟩,slot2,l3=>req (([]:List Nd).length+l3.length<=4294967296) <| (zA2 l3).bind fun⟨y4A,y4C,y4D,y4B⟩=>(zBs (Nd.mk n1A n1C n1D n1B) slot2 (Nd.mk y4A y4C y4D y4B)).bind fun⟨y5A,y5C,y5D,y5B⟩=>some (Nd.mk y5A y5C y5D y5B)
def zFK (n:Nat):(List Nd)->zO8->Option ((List Nd)×Int)
| a1,⟨a2A,a2E,a2F,a2K,a2G,a2H,a2L,a2C⟩=>(bif (a2A == 1) then (some 0) else (bif (a2A == 2) then (some (a2G.length:Int)) else (bif (a2A == 3) then (some a2K) else (some 1))):Option (Int)).bind fun x3=>(bif decide (a2F<0) then (some true) else (bif decide ((a1.length:Int)<a2F) then (some true) else (some (decide ((i64.wrap ((a1.length:Int) - a2F))<x3)))):Option (Bool)).bind fun x5=>bif x5 then (some ([],2)) else (bif (a2A == 1) then ((zCj a1 a2F (i64.wrap (a2F+x3)) a2G).bind fun y8=>some (y8,0)) else (bif (a2A == 2) then (req (0<=a2F/\a2F<=i64.wrap (a2F+x3)/\i64.wrap (a2F+x3)<=(a1.length:Int)) <| (zCs n ((a1.take (i64.wrap (a2F+x3)).toNat).drop a2F.toNat) a2G).bind fun y10=>bif (!y10) then (
     some ([],7)) else ((zCj a1 a2F (i64.wrap (a2F+x3)) []).bind fun y11=>some (y11,0))) else (bif (a2A == 3) then ((at? a2G 0).bind fun⟨e12A,e12C,e12D,e12B⟩=>req (0<=a2F/\a2F<=i64.wrap (a2F+x3)/\i64.wrap (a2F+x3)<=(a1.length:Int)) <| (zDR (Nd.mk e12A e12C e12D e12B) a2H ((a1.take (i64.wrap (a2F+x3)).toNat).drop a2F.toNat)).bind fun⟨y15A,y15C,y15D,y15B⟩=>(zCj a1 a2F (i64.wrap (a2F+x3)) [Nd.mk y15A y15C y15D y15B]).bind fun y17=>some (y17,0)) else ((at? a1 a2F).bind fun⟨e18A,e18C,e18D,e18B⟩=>bif (a2A == 4) then ((bif decide ((e18B.length:Int)<=a2H) then (some true) else ((at? e18B a2H).bind fun⟨e22A,e22C,e22D,e22B⟩ =>
        bif ((e22B.length:Int) != a2K) then (some true) else ((at? a2G 0).bind fun⟨e25A,e25C,e25D,e25B⟩=>(at? e18B a2H).bind fun⟨e27A,e27C,e27D,e27B⟩=>(zDR (Nd.mk e25A e25C e25D e25B) a2H e27B).bind fun⟨y29A,y29C,y29D,y29B⟩=>(zCq n (Nd.mk e18A e18C e18D e18B) (Nd.mk y29A y29C y29D y29B)).bind fun y30=>some (!y30))):Option (Bool)).bind fun x20=>bif x20 then (some ([],7)) else ((at? e18B a2H).bind fun⟨e31A,e31C,e31D,e31B⟩=>(zCj a1 a2F (i64.wrap (a2F+x3)) e31B).bind fun y33=>some (y33,0))) else (((bif (e18A == 2) then (some (e18A == 2)) else (bif (e18A == 3) then (some (e18A == 3)) else (bif (e18A == 4) then (some (e18A == 4)) else (
           bif (e18A == 10) then (some (e18A == 10)) else (some (e18A == 11))))):Option (Bool)).bind fun x34=>bif x34 then (bif (e18C == a2L) then ((zCj a1 a2F (i64.wrap (a2F+x3)) [Nd.mk e18A a2C e18D e18B]).bind fun y36=>some (.ret (y36,0))) else (some (.go ()))) else (some (.go ())):Option (Fl ((List Nd)×Int) Unit)).bind fun fl=>match fl with
      | .ret r=>some r
      | .go _=>some ([],7))))))
def zFL:Nat->Nd->(List Int)->(List Nd)->Option Nd
| 0,_,_,_=>none
| n+1,⟨n1A,n1C,n1D,n1B⟩,path2,l3=>bif ((path2.length:Int) == 0) then ((zA2 l3).bind fun⟨y5A,y5C,y5D,y5B⟩=>some (Nd.mk y5A y5C y5D y5B)) else ((at? path2 0).bind fun e6=>(at? n1B e6).bind fun⟨e8A,e8C,e8D,e8B⟩=>(at? path2 0).bind fun e10=>(at? path2 1).bind fun e12=>(at? path2 1).bind fun e14=>(at? e8B e14).bind fun⟨e16A,e16C,e16D,e16B⟩=>req (0<=(2:Int)/\(2:Int)<=(path2.length:Int)/\(path2.length:Int)<=(path2.length:Int)) <| (zFL n (Nd.mk e16A e16C e16D e16B) ((path2.take (path2.length:Int).toNat).drop (2:Int).toNat) l3).bind fun⟨y19A,y19C,y19D,y19B⟩ =>
  (zBs (Nd.mk e8A e8C e8D e8B) e12 (Nd.mk y19A y19C y19D y19B)).bind fun⟨y20A,y20C,y20D,y20B⟩=>(zBs (Nd.mk n1A n1C n1D n1B) e10 (Nd.mk y20A y20C y20D y20B)).bind fun⟨y21A,y21C,y21D,y21B⟩=>some (Nd.mk y21A y21C y21D y21B))
def zEw (n:Nat):Nd->zO8->Option (Nd×Int)
| ⟨n1A,n1C,n1D,n1B⟩,⟨op2A,op2E,op2F,op2K,op2G,op2H,op2L,op2C⟩=>(zAU n (Nd.mk n1A n1C n1D n1B)).bind fun y3=>bif (!y3) then (some (Nd.mk 0 [] 0 [],1)) else ((zEM n (op2A,op2E,op2F,op2K,op2G,op2H,op2L,op2C)).bind fun y4=>bif (!y4) then (some (Nd.mk 0 [] 0 [],4)) else ((zFH n (Nd.mk n1A n1C n1D n1B) op2E).bind fun⟨⟨y5A,y5C,y5D,y5B⟩,y6⟩=>bif (y6 != 0) then (some (Nd.mk 0 [] 0 [],y6)) else ((zFK n y5B (op2A,op2E,op2F,op2K,op2G,op2H,op2L,op2C)).bind fun⟨y7,y8⟩=>bif (y8 != 0) then (some (Nd.mk 0 [] 0 [],y8)) else ((zFL n (Nd.mk n1A n1C n1D n1B) op2E y7).bind fun⟨y9A,y9C,y9D,y9B⟩ =>
     (zAU n (Nd.mk y9A y9C y9D y9B)).bind fun y10=>bif (!y10) then (some (Nd.mk 0 [] 0 [],6)) else (some (Nd.mk y9A y9C y9D y9B,0))))))
def zBO (n:Nat) (ops2:List zO8):Nat->Int->(List UInt8)->Int->(List Nd)->Int->Option (Fl (Nd×Int×Int) (Int×(List UInt8)×Int×(List Nd)))
| 0,_,_,_,_,_=>none
| k+1,x4,x5,x6,x7,i9=>bif decide (i9<(ops2.length:Int)) then ((at? ops2 i9).bind fun⟨e15A,e15E,e15F,e15K,e15G,e15H,e15L,e15C⟩=>(zEw n (Nd.mk x4 x5 x6 x7) (e15A,e15E,e15F,e15K,e15G,e15H,e15L,e15C)).bind fun⟨⟨y17A,y17C,y17D,y17B⟩,y18⟩=>bif (y18 != 0) then (some (.ret (Nd.mk 0 [] 0 [],i9,y18))) else (zBO n ops2 k y17A y17C y17D y17B (i64.wrap (i9+1)))) else (some (.go (x4,x5,x6,x7)))
def zDt (n:Nat):Nd->(List zO8)->Option (Nd×Int×Int)
| ⟨n1A,n1C,n1D,n1B⟩,ops2=>(zAU n (Nd.mk n1A n1C n1D n1B)).bind fun y3=>bif (!y3) then (some (Nd.mk 0 [] 0 [],0,1)) else ((zBO n ops2 n n1A n1C n1D n1B 0).bind fun fl=>match fl with
  | .ret r=>some r
  | .go ⟨x10,x11,x12,x13⟩=>some (Nd.mk x10 x11 x12 x13,0,0))
def zDJ:Nd->Option Int
| ⟨n1A,n1C,n1D,n1B⟩=>bif (n1A == 1) then (some 0) else (some (n1B.length:Int))
def zCm (n:Nat):(List Nd)->Option Bool
| l1=>(zA8 n (Nd.mk 1 [] 0 l1)).bind fun y2=>some y2
def zAM (F_node_Equal:Nd->Nd->Option Bool) (s11:List Nd) (s22:List Nd):Nat->Int->Option (Fl Bool Unit)
| 0,_=>none
| k+1,x6=>bif decide (x6<(s11.length:Int)) then ((at? s11 x6).bind fun⟨e7A,e7C,e7D,e7B⟩=>(at? s22 x6).bind fun⟨e9A,e9C,e9D,e9B⟩=>(F_node_Equal (Nd.mk e7A e7C e7D e7B) (Nd.mk e9A e9C e9D e9B)).bind fun y11=>bif (!y11) then (some (.ret false)) else (zAM F_node_Equal s11 s22 k (i64.wrap (x6+1)))) else (some (.go ()))
mutual
def zCg:Nat->Nd->Nd->Option Bool
| 0,_,_=>none
| n+1,⟨a1A,a1C,a1D,a1B⟩,⟨b2A,b2C,b2D,b2B⟩ =>
 (
  bif (a1A == b2A) then (
   bif (a1C == b2C) then (
    bif (a1D == b2D) then (
     (zAY n a1B b2B).bind fun y4 =>
     some y4
    ) else (
     some false
    )
   ) else (
    some false
   )
  ) else (
   some false
  )
  : Option (Bool)).bind fun x3 =>
 some x3
def zAY:Nat->(List Nd)->(List Nd)->Option Bool
| 0,_,_=>none
| n+1,s11,s22 =>
 bif ((s11.length:Int) != (s22.length:Int)) then (
  some false
 ) else (
  (zAM (zCg n) s11 s22 n 0).bind fun fl=>match fl with
  | .ret r=>some r
  | .go _ =>
   some true
 )
end
mutual
def Nd.cnt:Nd->Nat
 | .mk _ _ _ ks=>Nd.cnts ks+1
def Nd.cnts:List Nd->Nat
 | []=>0
 | v::vs=>v.cnt+Nd.cnts vs
end
theorem Nd.cnt_pos:∀ v:Nd,1<=v.cnt
 | .mk _ _ _ ks=>by simp only[Nd.cnt]; omega
theorem Nd.cnts_len:∀ a:List Nd,a.length<=Nd.cnts a
 | []=>Nat.le_refl _
 | v::a=>by have:=Nd.cnts_len a; have:=v.cnt_pos; simp only[Nd.cnts,length_cons]; omega
theorem Nd.cnts_mem:∀ {a:List Nd}{v:Nd},v∈a->v.cnt<=Nd.cnts a
 | u::a,v,h=>by
  simp only[Nd.cnts]
  rcases List.mem_cons.1 h with rfl | h
  ·omega
  ·have:=Nd.cnts_mem h; omega
theorem kK {P:Prop} (h:P:=by rw[drop_eq_getElem_cons h]; rfl):P:=h
theorem Nd.cnts_drop {a:List Nd}{i:Nat} (h:i<a.length):Nd.cnts (a.drop i)=(a[i]).cnt+Nd.cnts (a.drop (i+1)):=by
 exact kK
def zA0 (n:Nd):Option Nd:=req (n.cnt<=1000000000) (some n)
def Nd.kids:Nd->List Nd
 | .mk _ _ _ ks=>ks
theorem zZp (n:Nd):n.kids ≠ []↔n.kids.isEmpty=false:=by cases n.kids <;> simp
instance (n:Nd):Decidable (n.kids ≠ []):=decidable_of_iff _ (zZp n).symm
def zCW (n:Nd):Option Nd:=req (n.cnt<=1000000000/\n.kids ≠ []) (some n)
def zBE:Nd->List Int->Option Nd
 | n,[]=>some n
 | _,[_]=>none
 | n,i::s::path=>if 0<=i/\i<n.kids.length then
   let item:=n.kids.getD i.toNat n
   if 0<=s/\s<item.kids.length then zBE (item.kids.getD s.toNat n) path else none
  else none
def zCy:Nd:=.mk 0 [] 0 []
def putL:Nd->List Int->Nd->Nd
 | .mk k t c ks,i::s::path,r=>.mk k t c (ks.set i.toNat (match ks[i.toNat]? with
  | some (.mk k2 t2 c2 ks2)=>.mk k2 t2 c2 (ks2.set s.toNat (match ks2[s.toNat]? with
   | some z=>putL z path r
   | none=>r))
  | none=>r))
 | _,_,r=>r
def zHs (f:Nat) (n:Nd) (path:List Int):Option (Nd×Int) :=
 (zA8 f n).bind fun b=>if b=true then (match zBE n path with
  | some r=>(zA0 r).bind fun r=>some (r,0)
  | none=>some (zCy,8)) else some (zCy,1)
def zFf (f:Nat) (n:Nd) (path:List Int) (row:Nd):Option (Nd×Int) :=
 (zA8 f n).bind fun b=>if b=true then (zA0 n).bind fun n=>(match zBE n path with
  | some _=>(zA8 f row).bind fun b=>if b=true then (zA0 row).bind fun row=>(zA8 f (putL n path row)).bind fun b=>if b=true then some (putL n path row,0) else some (zCy,6) else some (zCy,4)
  | none=>some (zCy,8)) else some (zCy,1)
end Go.Proofs.YtbfnjnljboncgaaGreat
namespace Go.Abs
section
variable {T:Nat->Option TI} {Γ:Nat->Option zAr} {M nm L:List Nat} {N k:Nat} {n:Nat->Bool} {all os:List Oper} {o:Oper} {σ σ':St} {K:St->Prop} {φ:Option Prop} {x:AV} {d:Nat}
theorem zXp {φ:Option Prop}{K:Prop} (h1:φ.getD True) (h2:K):andO φ K:=by
 cases φ with
 | none=>exact h2
 | some p=>exact⟨h1,h2⟩
theorem zS0 (h:K (σ.putN d x)):lay false (some d) x σ K:=by
 simp only[lay,zHp]; exact h
variable {own:Bool}
theorem zND {r:Option Prop×AV×St} (h:step1 T own o σ=some r):zLt T Γ o σ=none:=by
 unfold zLt zF5;split
 ·rfl
 ·rename_i hq
  split at hq
  ·rename_i ho
   rw[zP0 ho]at h;cases h
  ·cases hq
theorem zAg (hg:o.guard=none) (hd:o.dst=some d) (hN:Nat.blt d N=true) (hc:callOf T Γ o σ.env=none) (hn:dIn (some d) nm=false) (hs:step1 T (dIn (some d) M) o σ=some (φ,x,σ')) (hφ:φ.getD True)
  (h:zBF T Γ M nm N all os (σ'.putN d x) K):zBF T Γ M nm N all (o::os) σ K:=by
 unfold zBF;rw[hg,hd]
 dsimp only;rw[hN,hn,zSX,zND hs,hc,hs]
 exact zXp hφ (zS0 h)
theorem zGr (hg:o.guard=none) (hd:o.dst=none) (hc:callOf T Γ o σ.env=none) (hs:step1 T (dIn none M) o σ=some (φ,x,σ')) (hφ:φ.getD True)
  (h:zBF T Γ M nm N all os σ' K):zBF T Γ M nm N all (o::os) σ K:=by
 unfold zBF;have e0:zIA T (dIn none nm) o σ=none:=rfl;rw[hg,hd,e0,zND hs,hc,hs]
 exact zXp hφ h
variable {rows:List (List AV)}{y:Operand}{ti:TI}{kk q sz t:Nat}
theorem zRC {e:Nat}{j:TI}{i:Operand}{n:Int}{ki:IntKind} (ho:o.op = .indexAddr t y i) (ht:T t=some ti) (hk:ti.k = .slice e) (hj:T e=some j) (hy:opd T σ.env t y = .orow q)
  (hi:opd T σ.env 0 i = .s (.int ki n)) (hh:σ.hp q=some (.arow kk sz rows)) (hz:Nat.beq sz j.size=true):step1 T own o σ=some (some (0<=n/\n<rows.length),.rp q sz n.toNat 0,σ):=by
 have e1:zB9 T own o σ.env=none :=(by simp only[zB9,ho,zEQ,hy,hi,AV.nrm,ht,hk]);simp only[step1,e1,zBQ,zFB,zDa,zCQ,ho,elemOf,ht,hk,hj,hy,hi,hh,hz]
variable {z:Operand}{off:Nat}
theorem zTE {r:Nat} (ho:o.op = .store t y z) (ht:T t=some ti) (hy:opd T σ.env 0 y = .rp q sz r off)
  (hh:σ.hp q=some (.arow kk sz rows)) (h1:Nat.beq sz sz=true) (h2:Nat.beq (opd T σ.env t z).cellsA.length ti.size=true) (h3:Nat.ble (off+ti.size) sz=true) (h4:((opd T σ.env t z).cellsA).all AV.one=true) :
  step1 T own o σ=some (some (r<rows.length),.junk,zEe σ q (.arow kk sz (rows.set r ((rows.getD r []).take off++(opd T σ.env t z).cellsA++(rows.getD r []).drop (off+ti.size))))):=by
 have e1:zB9 T own o σ.env=none :=(by simp only[zB9,ho]);have e2:zDa T own o σ=none:=by
  simp only[zDa,ho,hy,ht,hh]
 simp only[step1,e1,zBQ,zFB,e2,zCQ,ho,ht,hy,hh,h1,h2,h3,h4]
variable {cells:List AV}{bt:Nat}
theorem zOt  (ho:o.op = .store t y z) (ht:T t=some ti) (hy:opd T σ.env 0 y = .op q off)
  (hh:σ.hp q=some (.box bt cells)) (h2:Nat.beq (opd T σ.env t z).cellsA.length ti.size=true) (h3:Nat.ble (off+ti.size) cells.length=true) (h4:((opd T σ.env t z).cellsA).all AV.one=true) (h5:AV.ltAll σ.nx (opd T σ.env t z).cellsA=true) :
  step1 T own o σ=some (none,.junk,zEe σ q (.box bt (cells.take off++(opd T σ.env t z).cellsA++cells.drop (off+ti.size)))):=by
 have e1:zB9 T own o σ.env=none :=(by simp only[zB9,ho]);simp only[step1,e1,zBQ,zFB,zDa,ho,ht,hy,hh,h2,h3,h4,h5,zCL]
theorem qG {P:Prop} (h:P:=by have e1:zB9 T own o σ.env=none :=(by simp only[zB9,ho,hy]);simp only[step1,e1,zBQ,zFB,zDa,ho,ht,hy,hh,ha,hc]):P:=h
theorem zZX {c:AV} (ho:o.op = .load t y) (ht:T t=some ti) (ha:ti.k.agg=false) (hy:opd T σ.env 0 y = .op q off) (hh:σ.hp q=some (.box bt cells)) (hc:cells[off]? = some c) :
  step1 T own o σ=some (none,c,σ):=by
 exact qG
theorem zYE  (ho:o.op = .load t y) (ht:T t=some ti) (ha:ti.k.agg=true) (hy:opd T σ.env 0 y = .op q off) (hh:σ.hp q=some (.box bt cells)) (hc:Nat.ble (off+ti.size) cells.length=true) :
  step1 T own o σ=some (none,.agg ((cells.drop off).take ti.size),σ):=by
 exact qG
theorem zOs {e:Nat}{args:Array Operand}{ts:Array Nat} (ho:o.op = .call { callee:=.builtin .len,args:=args,argTypes:=ts }) (ha:args.toList=[y]) (hts:ts.toList=[t]) (ht:tk T t = .slice e)
  (hy:opd T σ.env t y = .orow q) (hh:σ.hp q=some (.arow kk sz rows)):step1 T own o σ=some (none,.s (.int .i64 (rows.length:Int)),σ):=by
 have e1:zB9 T own o σ.env=none :=(by simp only[zB9,ho,ha,hts,pLen,ht,hy]);have e2:zDa T own o σ=none :=(by simp only[zDa,ho,ha,hts,ht,hy,hh]);simp only[step1,e1,zBQ,zFB,e2,zCQ,ho,ha,hts,ht,hy,hh]
theorem zZ1 {r:Nat} (ho:o.op = .load t y) (hy:opd T σ.env 0 y = .rp q sz r off):step1 T own o σ=none/\callOf T Γ o σ.env=none/\zBm T o σ.env=none:=by
 have e1:zB9 T own o σ.env=none :=(by simp only[zB9,ho,hy]);have e2:zDa T own o σ=none :=(by simp only[zDa,ho,hy]);have e3:zCQ T o σ=none :=(by simp only[zCQ,ho]);exact⟨by simp only[step1,e1,zBQ,zFB,ho,e2,e3],by simp only[callOf,ho],by simp only[zBm,ho]⟩
theorem yA5  (ho:o.op = .load t y):mapQ T o σ=none:=by simp only[mapQ,ho]
theorem yA6  (ho:o.op = .load t y):nilQ T o σ=none:=by simp only[nilQ,ho]
theorem zSM {r:Nat}{c:AV} (hg:o.guard=none) (hd:o.dst=some d) (hN:Nat.blt d N=true) (hn:dIn (some d) nm=false) (ho:o.op = .load t y) (hy:opd T σ.env 0 y = .rp q sz r off)
  (hh:σ.hp q=some (.arow kk sz rows)) (hr:r<rows.length) (hc:zOS T t ((rows.getD r []).drop off)=some c) (h:zBF T Γ M nm N all os (σ.putN d c) K):zBF T Γ M nm N all (o::os) σ K:=by
 obtain⟨e1,e2,e3⟩:=zZ1 (Γ:=Γ) (own:=dIn (some d) M) ho hy;unfold zBF;rw[hg,hd]
 dsimp only;have e0:zMh T o σ=none :=(by simp only[zMh,ho]);have e9:zLt T Γ o σ=none :=(by simp only[zLt,zF5,ho]);rw[hN,hn,zSX,e9,e2,e1,e0,yA6 ho,yA5 ho]
 have hz:Nat.beq sz sz=true:=Nat.beq_refl sz;simp only[zQw,zGp,e3,zHd,ho,hy,hh,hz]
 exact⟨hr,_,rfl,by rw[hc]; exact zS0 h⟩
end
inductive Rd (hp:Nat->Option Ob):AV->S->Prop
 | s (x:S):Rd hp (.s x) x
 | nl (sz:Nat):Rd hp (.nl sz) (.sl sz [])
 | row {k e sz:Nat} {rows:List (List S)} (h:hp k=some (.row e sz rows)):Rd hp (.orow k) (.sl sz rows)
 | arow {k e sz:Nat} {rows:List (List AV)} {rs:List (List S)} (h:hp k=some (.arow e sz rows)) (hl:rows.length=rs.length) (hr:∀ r∈rs,r.length=sz)
   (hc:∀ (i:Nat) x s,rows.flatten[i]? = some x->rs.flatten[i]? = some s->Rd hp x s):Rd hp (.orow k) (.sl sz rs)
 | box {k off bt:Nat} {cells:List AV} {ss:List S} (h:hp k=some (.box bt cells)) (hl:cells.length=ss.length)
   (hc:∀ (i:Nat) x s,cells[i]? = some x->ss[i]? = some s->Rd hp x s):Rd hp (.op k off) (.pt (ss.drop off))
 | el {k e sz i off:Nat} {rows:List (List AV)} {rs:List (List S)} (h:hp k=some (.arow e sz rows)) (hl:rows.length=rs.length) (hr:∀ r∈rs,r.length=sz) (hi:i<rs.length)
   (hc:∀ (i:Nat) x s,rows.flatten[i]? = some x->rs.flatten[i]? = some s->Rd hp x s):Rd hp (.rp k sz i off) (.pt ((rs.getD i []).drop off))
def allG (G:Nat->Prop) (β:Nat->Value) (hp:Nat->Option Ob) (b:Nat):Prop:=G b∨∃ k ob,hp k=some ob/\blk (β k)=some b
variable {w:World}{β:Nat->Value}{G:Nat->Prop}
theorem Rd.rep {c:Cx}{σ:St}{a:Act} (hc:Conc c G β σ a w){x:AV}{s:S} (h:Rd σ.hp x s):∀ {v:Value},AVal G w β x v->Rep (allG G β σ.hp) w s v:=by
 have hk:Keep G (allG G β σ.hp) w w:=⟨fun _ h=>.inl h,fun _ _=>rfl⟩
 induction h with
 | s x=>intro v hv; simp only[AVal]at hv; exact hv.keep hk
 | nl sz=>intro v hv; simp only[AVal]at hv; subst hv; simp[Rep]
 | @row k e sz rows h =>
  intro v hv;simp only[AVal]at hv;obtain⟨hlen,hsz,ho⟩:=hc.hp k _ h;rw[hv.1]
  rcases ho with ⟨h1,rfl⟩ | ⟨b,cap,cur,h1,h2,h3,⟨mk,hmk,h4⟩,h5,h6,h7⟩
  ·rw[h1]; simp[Rep]
  ·rw[h1]
   simp only[Rep]
   refine .inr ⟨b,0,cap,rfl,h2,zCC hlen (RepRow.mk fun i s hi=>⟨.inr ⟨k,_,h,by rw[h1]; rfl⟩,?_⟩)⟩
   obtain⟨u,hu,hr⟩:=h7 i s hi;exact⟨u,by simp[World.cell?,h4,hu],hr.keep hk⟩
 | @arow k e sz rows rs h hl hr hcc ih =>
  intro v hv;simp only[AVal]at hv;obtain⟨hlen,hsz,ho⟩:=hc.hp k _ h;rw[hv.1]
  rcases ho with ⟨h1,rfl⟩ | ⟨b,cap,cur,h1,h2,h3,⟨mk,hmk,h4⟩,h5,h6,h7⟩
  ·obtain rfl:rs=[]:=List.length_eq_zero_iff.1 (by simpa using hl.symm)
   rw[h1]; simp[Rep]
  ·rw[h1]
   simp only[Rep]
   refine .inr ⟨b,0,cap,by rw[hl],by rw[← hl]; exact h2,zCC hr (RepRow.mk fun i s hi=>⟨.inr ⟨k,_,h,by rw[h1]; rfl⟩,?_⟩)⟩
   have hfl:=zAT hlen;have hfs:=zAT hr;have hil:i<rows.flatten.length :=(by rw[hfl,hl,← hfs]; exact(List.getElem?_eq_some_iff.1 hi).1);obtain⟨u,hu,hr',_⟩:=h7 i _ (List.getElem?_eq_getElem hil)
   exact⟨u,by simp[World.cell?,h4,hu],ih i _ s (List.getElem?_eq_getElem hil) hi hr'⟩
 | @box k off bt cells ss h hl hcc ih =>
  intro v hv;simp only[AVal]at hv;obtain⟨b,e,cur,h1,h2,h3,h4,h5,h6⟩:=hc.hp k _ h;obtain⟨b',hβ,rfl⟩:=hv;rw[h1]at hβ; cases hβ
  simp only[Rep]
  have hrow:RepRow (allG G β σ.hp) w b ss 0:=RepRow.mk fun i s hi=>by
   refine⟨.inr ⟨k,_,h,by rw[h1]; rfl⟩,?_⟩
   have hil:i<cells.length :=(by rw[hl]; exact(List.getElem?_eq_some_iff.1 hi).1);obtain⟨u,hu,hr⟩:=h5.get (List.getElem?_eq_getElem hil)
   rw[Array.getElem?_toList]at hu;exact⟨u,by simp[World.cell?,h2,hu],ih i _ s (List.getElem?_eq_getElem hil) hi hr⟩
  exact⟨b,off,rfl,by simpa using hrow.drop off⟩
 | @el k e sz i off rows rs h hl hr hi hcc ih =>
  intro v hv;simp only[AVal]at hv;obtain⟨b,n,cp,hβ,rfl⟩:=hv;obtain⟨hlen,hsz,ho⟩:=hc.hp k _ h;rcases ho with ⟨h1,rfl⟩ | ⟨b',cap,cur,h1,h2,h3,h4,h5,h6,h7⟩
  ·simp at hl; omega
  rw[hβ]at h1; cases h1
  simp only[Rep]
  refine⟨b,i * sz+off,rfl,?_⟩
  have hfl:=zAT hlen;have hfs:=zAT hr;have hrow:RepRow (allG G β σ.hp) w b rs.flatten 0:=RepRow.mk fun q s hq=>by
   refine⟨.inr ⟨k,_,h,by rw[hβ]; rfl⟩,?_⟩
   have hil:q<rows.flatten.length :=(by rw[hfl,hl,← hfs]; exact(List.getElem?_eq_some_iff.1 hq).1);obtain⟨u,hu,hr',_⟩:=h7 q _ (List.getElem?_eq_getElem hil)
   obtain⟨mk,hmk,h4⟩:=h4;exact⟨u,by simp[World.cell?,h4,hu],ih q _ s (List.getElem?_eq_getElem hil) hq hr'⟩
  have hrows:=(zCC hr hrow).get (i:=i) (r:=rs[i]) (List.getElem?_eq_getElem hi)
  have hg:rs.getD i []=rs[i] :=(by simp[List.getElem?_eq_getElem hi]);rw[hg]
  have:=hrows.2.drop off
  simpa using this
def RdV (hp:Nat->Option Ob):AV->AV->Prop
 | x,.s y=>Rd hp x y
 | .agg xs,.agg ys=>xs.length=ys.length/\∀ (i:Nat) x y,xs[i]? = some x->ys[i]? = some y->∃ s,y = .s s/\Rd hp x s
 | _,.junk=>True
 | _,_=>False
theorem RdV.aval {c:Cx}{σ:St}{a:Act} (hc:Conc c G β σ a w){x y:AV} (h:RdV σ.hp x y){v:Value} (hv:AVal G w β x v):AVal (allG G β σ.hp) w β y v:=by
 unfold RdV at h;split at h
 ·simp only[AVal]; exact h.rep hc hv
 ·simp only[AVal]at hv ⊢;obtain⟨vs,rfl,hvs⟩:=hv;refine⟨vs,rfl,AVals.mk (by rw[← h.1]; exact hvs.length) fun i y u hy hu=>?_⟩
  rename_i xs ys
  have hil:i<xs.length :=(by rw[h.1]; exact(List.getElem?_eq_some_iff.1 hy).1);obtain⟨s,rfl,hs⟩:=h.2 i _ y (List.getElem?_eq_getElem hil) hy;obtain⟨u',hu',hr⟩:=hvs.get (List.getElem?_eq_getElem hil)
  rw[hu]at hu'; cases hu'
  simp only[AVal]; exact hs.rep hc hr
 ·simp only[AVal]
 ·exact h.elim
def nils (k:Nat):List (List AV):=List.replicate k [.s (.sl 1 [])]
theorem Le.forgetH {c:Cx}{σ:St} (l:List (Nat×AV)) (hp':Nat->Option Ob) (n:Nat) (h:holds σ.env l) (hh:∀ k,σ.hp k=hp' k) (hn:σ.nx=n):Le c σ ⟨ofL l,hp',n⟩:=by
 obtain rfl:σ.hp=hp':=funext hh;subst hn;exact Le.forget l h
variable {f:Nat}{P:Program}
theorem PSound.ofOwn {R:List AV->List Ob->AV->List (Option Ob)->Prop} (hcall:∀ args w,(callFunc f args).run P w = .ok (.enter f args) w) (h:zMR P f R):PSound P f (zEA R) :=
 ⟨hcall,fun _ _ _ _ _ _ _ _ _ hs=>hs.elim,fun R' hR'=>(by
  obtain rfl:R=R' :=(by simpa [zEA] using hR');exact h),fun R hR=>(by cases hR)⟩
def ownS (s:zAr):zAr:=zEA fun xs os x os'=>AV.persAll xs=true/\s.spec xs (.val x)/\os=[]/\os'=[]
theorem PSound.toOwn {s:zAr} (h:PSound P f s):PSound P f (ownS s) :=
 PSound.ofOwn h.1 fun G w β xs vs os x os' h1 h2 h3 _ _ h6=>by
  obtain⟨hp,hs,rfl,rfl⟩:=h6;refine(h.2.1 G w xs vs (.val x) h1 h2 hp (AVals.pers hp h3) hs).mono fun e w' he=>?_
  obtain⟨v,G',rfl,hx,hv1,hv2⟩:=he;exact⟨v,G',β,rfl,⟨hx.os,hx.tape,hx.output,hx.size,fun b hb _=>hx.old b hb⟩,hx.sub,fun b hb=>(hx.new b hb).imp id .inr,hx.lt,AVal.pers hv1 hv2,AV.pers_lt hv1,Nat.le_refl _,⟨fun i ob hi=>by simp at hi,fun i j ob ob' hi=>by simp at hi⟩,fun i ob hi=>by simp at hi⟩
structure Wrote (b off:Nat) (v:Value) (cur:Array Value) (e:Nat) (w w':World):Prop where
 os:w'.os=w.os
 tape:w'.tape=w.tape
 output:w'.output=w.output
 size:w'.heap.size=w.heap.size
 old:∀ i,i ≠ b->w'.heap[i]? = w.heap[i]?
 new:w'.heap[b]? = some (.cells (cur.setIfInBounds off v) e (0,0))
variable {w:World}{cur:Array Value}{v:Value}{b e off:Nat}
theorem Wrote.cell  (h:w.heap[b]? = some (.cells cur e (0,0))):Wrote b off v cur e w (w.setCell ⟨b,off,none⟩ v) :=
 ⟨rfl,rfl,rfl,by simp[World.setCell],fun i hi=>by
  simp only[World.setCell,Array.getElem?_modify]
  rw[if_neg (Ne.symm hi)],by simp[World.setCell,Array.getElem?_modify,h]⟩
theorem Wrote.same  (h:w.heap[b]? = some (.cells cur e (0,0))) (hc:cur[off]? = some v):Wrote b off v cur e w w :=
 ⟨rfl,rfl,rfl,rfl,fun _ _=>rfl,by
  rw[h]
  have:cur.setIfInBounds off v=cur:=by
   apply Array.ext
   ·simp
   ·intro i h1 h2;rw[Array.getElem_setIfInBounds (by simpa using h2)]
    split
    ·rename_i e; subst e
     rw[Array.getElem?_eq_getElem h2]at hc;exact(Option.some.inj hc).symm
    ·rfl
  rw[this]⟩
theorem zXP {G:Nat->Prop}{w':World} (hb:¬ G b) (h:∀ i,i ≠ b->w'.heap[i]? = w.heap[i]?):Keep G G w w':=⟨fun _ h=>h,fun i hi=>h i fun e=>hb (e ▸ hi)⟩
theorem zUi {D:Nat}{cells cells':List AV} (hrow:cells[off+1]? = some (.orow 1)) (hself:cells[off]? = some (.op 0 off))
  (hc':cells'=cells.set (off+1) .junk) (hpers:∀ (i:Nat) x,cells[i]? = some x->i ≠ off->i ≠ off+1->x.pers=true)
  (hwalk:∀ (b g cap:Nat) (l:List UInt8) (w:World) (cur:Array Value) (mk:Nat×Nat),l ≠ []->w.cell? ⟨b,off+1,none⟩=some (.slice (some ⟨g,0,none⟩) l.length cap)->w.heap[g]? = some (.cells cur e mk)->cur.size=cap * 1->l.length<=cap->l.length<=9223372036854775807 ->
   (∀ (j:Nat) x,l[j]? = some x->cur[j]? = some (.int .u8 x.toNat)) ->
   Calls P f #[.pointer (some ⟨b,off,none⟩)] w fun e w'=>e = .returned (.string ⟨l.toArray⟩)/\w'=w.drew.freeze ⟨g,0,none⟩ l.length) :
  zMR P f fun xs os x os'=>∃ l:List UInt8,l ≠ []/\l.length<=9223372036854775807/\xs=[.op 0 off]/\os=[.box D cells,.row e 1 (l.map brow)]/\x = .s (.str l)/\os'=[some (.box D cells'),none]:=by
 rintro G w β xs vs os x os' hlt hgl hv hxl hobs ⟨l,hl0,hlm,rfl,rfl,rfl,rfl⟩
 obtain⟨hob0,_⟩:=hobs.1 0 (.box D cells) rfl;obtain⟨hob1,_⟩:=hobs.1 1 (.row e 1 (l.map brow)) rfl;have hdis:∀ b,blk (β 0)=some b->blk (β 1) ≠ some b:=fun b=>hobs.2 0 1 (.box D cells) (.row e 1 (l.map brow)) rfl rfl (by decide) b
 obtain⟨b,e',cur,h1,h2,h3,h4,h5,h6,rfl⟩:=hob0;simp only[AVals,AVal]at hv;obtain⟨v,vs',rfl,⟨b',hb',rfl⟩,rfl⟩:=hv;have hbb:b'=b :=(by rw[h1]at hb'; simpa using hb'.symm);subst hbb;have hsz:cur.size=cells.length :=(by simpa using h5.length);obtain⟨g1,g2,g3⟩:=hob1;rcases g3 with ⟨_,hnil⟩ | ⟨g,cap,gc,k1,k2,k3,⟨mk,hmk,k4⟩,k5,k6,k7⟩
 ·exact absurd (by simpa using hnil) hl0
 have hgb:g ≠ b':=fun e=>hdis b' (by rw[h1]; rfl) (by rw[k1,e]; rfl)
 have hc1:cur[off+1]? = some (β 1):=by
  obtain⟨u,hu,hr⟩:=h5.get hrow;simp only[AVal]at hr;rw[Array.getElem?_toList]at hu;rw[hu,hr.1]
 have hlen:(l.map brow).length=l.length :=(by simp);refine(hwalk b' g cap l w gc mk hl0 (by simp[World.cell?,h2,hc1,k1]) k4 k3 (by simpa using k2) hlm (fun j x hx=>?_)).mono fun e2 w' ⟨he,hw⟩=>?_
 ·obtain⟨u,hu,hr⟩:=k7 j (.int .u8 x.toNat) (by rw[zGX,List.getElem?_map,hx]; rfl)
  simp only[Rep]at hr;rw[hu,hr]
 ·have hold:∀ i,i ≠ g->w'.heap[i]? = w.heap[i]?:=fun i hi=>by
   rw[hw]
   unfold World.freeze;rw[if_neg (by simpa using hl0)]
   simp only[Array.getElem?_modify]
   rw[if_neg (Ne.symm hi)]; rfl
  have hsize:w'.heap.size=w.heap.size:=by
   rw[hw]; unfold World.freeze; rw[if_neg (by simpa using hl0)]; simp
  have hrest:w'.os=w.os/\w'.tape=w.tape/\w'.output=w.output:=by
   rw[hw]; unfold World.freeze; rw[if_neg (by simpa using hl0)]; exact⟨rfl,rfl,rfl⟩
  have hk:Keep G G w w':=zXP k5 hold;have hX:(zE7 P w β 2 G 0).X g:=⟨1,by decide,by rw[k1]; rfl⟩
  have hpp:AVals G w' β cells' cur.toList:=by
   rw[hc']
   refine AVals.mk (by simp[hsz]) fun i x v hx hv=>?_
   rw[List.getElem?_set]at hx;split at hx
   ·split at hx
    ·cases hx; simp only[AVal]
    ·cases hx
   ·obtain⟨u,hu,hr⟩:=h5.get hx;rw[hv]at hu; cases hu
    exact hr.keep hk
  have hltc:AV.ltAll 2 cells'=true:=by
   rw[hc']
   refine zCD fun q y hq=>?_
   rw[List.getElem?_set]at hq;split at hq
   ·split at hq
    ·cases hq; rfl
    ·cases hq
   ·rename_i hi
    by_cases hi2:q=off
    ·subst hi2;rw[hself]at hq; cases hq; rfl
    ·exact AV.pers_lt (hpers q y hq hi2 (Ne.symm hi))
  refine⟨.string ⟨l.toArray⟩,G,β,he,⟨hrest.1,hrest.2.1,hrest.2.2,by rw[hsize]; exact Nat.le_refl _,fun i hi hx=>hold i fun e=>hx (e ▸ hX)⟩,fun _ h=>h,fun _ h=>.inl h,fun i hi=>by rw[hsize]; exact hlt i hi,
   by simp only[AVal,Rep],rfl,(show 2<=2 by decide),⟨fun i ob hi=>?_,fun i j ob ob' hi hj hne bb hbi=>?_⟩,fun i ob hi ho=>rfl⟩
  ·match i,hi with
   | 0,hi =>
    cases hi;exact⟨⟨b',_,cur,h1,(hold b' (Ne.symm hgb)).trans h2,h3,h4,hpp,h6,rfl⟩,by simpa [Ob.lt] using hltc⟩
   | 1,hi=>cases hi
   | k+2,hi=>simp at hi
  ·match i,j,hi,hj with
   | 0,0,_,_=>exact absurd rfl hne
   | 1,_,hi,_=>cases hi
   | _,1,_,hj=>cases hj
   | k+2,_,hi,_=>simp at hi
   | _,k+2,_,hj=>simp at hj
section
variable {T:Nat->Option TI} {Γ:Nat->Option zAr} {M nm L:List Nat} {N k n:Nat} {all os:List Oper} {o:Oper} {σ σ':St} {K:St->Prop} {φ:Option Prop} {x:AV} {d:Nat}
variable {rows:List (List AV)}{y:Operand}{j ti:TI}{e kk q sz t:Nat}{own:Bool}
theorem zYF {hi:Operand}{n:Int}{ki:IntKind} (ho:o.op = .slice t y none (some hi) none) (ht:T t=some ti) (hk:ti.k = .slice e) (hj:T e=some j) (hy:opd T σ.env t y = .orow q)
  (hi':opd T σ.env 0 hi = .s (.int ki n)) (hh:σ.hp q=some (.arow kk sz rows)) (hz:Nat.beq sz j.size=true) :
  step1 T own o σ=some (some (0<=n/\n<=rows.length),.orow σ.nx,zBi (zHY σ q) (.arow kk sz (rows.take n.toNat))):=by
 have e1:zB9 T own o σ.env=none :=(by simp only[zB9,ho,zK7,hy,AV.nrm,ht,hk,Option.map_none,Option.map_some,hi']);have e2:zDa T own o σ=none :=(by simp only[zDa,ho,elemOf,ht,hk,hj,hy,hi',hh]);simp only[step1,e1,zBQ,zFB,e2,zCQ,ho,elemOf,ht,hk,hj,hy,hi',hh,hz]
variable {z:Operand}{ts:Array Nat}{args:Array Operand}{sz2 tx:Nat}
theorem yBg {q2 kk2:Nat}{rows2:List (List AV)} (ho:o.op = .call { callee:=.builtin .append,args:=args,argTypes:=ts }) (ha:args.toList=[y,z]) (hts:ts.toList=[t,tx])
  (ht:T t=some ti) (hk:ti.k = .slice e) (hj:T e=some j) (htx:tk T tx = .slice e) (hy:opd T σ.env t y = .orow q) (hz:opd T σ.env tx z = .orow q2) (hh:σ.hp q=some (.arow kk sz rows)) (hh2:σ.hp q2=some (.arow kk2 sz2 rows2))
  (h1:Nat.beq sz j.size=true) (h2:Nat.beq sz2 j.size=true) (h3:Nat.beq e kk=true) :
  step1 T own o σ=some (some ((rows.length+rows2.length) * j.bytes<=140737488355328/\rows.length+rows2.length<=9223372036854775807),.orow σ.nx,zBi (zHY σ q) (.arow e sz (rows++rows2))):=by
 have e1:zB9 T own o σ.env=none :=(by simp only[zB9,ho]);have e2:zDa T own o σ=none :=(by simp only[zDa,ho,ha,hts,zIB,elemOf,ht,hk,hj,hy,zJF,hh]);simp only[step1,e1,zBQ,zFB,e2,zCQ,ho,ha,hts,elemOf,ht,hk,hj,hy,hz,zKL,hh,zLd,htx,hh2,h1,h2,h3]
theorem zZW {e2:Nat}{rows2:List (List S)} (ho:o.op = .call { callee:=.builtin .copy,args:=args,argTypes:=ts }) (ha:args.toList=[y,z]) (hts:ts.toList=[t,tx])
  (ht:T t=some ti) (hk:ti.k = .slice e) (hj:T e=some j) (htx:tk T tx = .slice e2) (hy:opd T σ.env t y = .orow q) (hz:opd T σ.env tx z = .s (.sl sz2 rows2)) (hh:σ.hp q=some (.arow kk sz rows))
  (h1:Nat.beq sz j.size=true) (h2:Nat.beq sz2 j.size=true) :
  step1 T own o σ=some (some ((rows2.map (·.map AV.s)).length=rows.length),.s (.int .i64 (rows.length:Int)),zEe σ q (.arow kk sz (rows2.map (·.map AV.s)))):=by
 have e1:zB9 T own o σ.env=none :=(by simp only[zB9,ho,ha,hts,zWS,hy]);have e2:zDa T own o σ=none :=(by simp only[zDa,ho]);simp only[step1,e1,zBQ,zFB,e2,zCQ,ho,ha,hts,elemOf,ht,hk,hj,hy,hz,zKL,hh,zLd,htx,h1,h2]
theorem yCn {n m:Int}{k1 k2:IntKind} (hw:own=true) (ho:o.op = .makeSlice t y z) (ht:T t=some ti) (hk:ti.k = .slice e) (hj:T e=some j) (hy:opd T σ.env 0 y = .s (.int k1 n)) (hz:opd T σ.env 0 z = .s (.int k2 m)) (h1:Nat.ble 1 j.size=true)
  (hp:zB9 T own o σ.env=none) :
  step1 T own o σ=some (some (0<=n/\n<=m/\m * j.bytes<=281474976710656/\m<=281474976710656),.orow σ.nx,zBi σ (.row e j.size (List.replicate n.toNat j.zero))):=by
 simp only[step1,hp,zBQ,zFB,zDa,ho,elemOf,ht,hk,hj,hy,hz,h1]
end
def isL (sz:Nat) (p:AV):Prop:=(∃ q i,p = .rp q sz i 0)∨(∃ q,p = .op q 0)
def zBt:AV->Nat
 | .op q _=>q
 | .rp q _ _ _=>q
 | _=>0
def locO (p:AV) (off:Nat):AV:=match p with
 | .op q _=>.op q off
 | .rp q sz i _=>.rp q sz i off
 | x=>x
def zAQ (hp:Nat->Option Ob):AV->Option (List AV)
 | .op q 0=>match hp q with | some (.box _ cs)=>some cs | _=>none
 | .rp q sz i 0=>match hp q with | some (.arow _ sz' rows)=>bif Nat.beq sz sz' then rows[i]? else none | _=>none
 | _=>none
def putC (hp:Nat->Option Ob) (p:AV) (c:List AV) (k:Nat):Option Ob:=match p with
 | .op q _=>match hp q with | some (.box bt _)=>bif Nat.beq k q then some (.box bt c) else hp k | _=>hp k
 | .rp q _ i _=>match hp q with | some (.arow e sz rows)=>bif Nat.beq k q then some (.arow e sz (rows.set i c)) else hp k | _=>hp k
 | _=>hp k
variable {q:Nat}
theorem zEE {k:Nat} (h:k ≠ q):Nat.beq k q=false:=by
 cases e:Nat.beq k q with
 | true=>exact absurd (Nat.eq_of_beq_eq_true e) h
 | false=>rfl
variable {c:List AV}{p:AV}{hp:Nat->Option Ob}
theorem zB2 {k:Nat} (h:k ≠ zBt p):putC hp p c k=hp k:=by
 unfold putC;split
 ·rename_i q _
  have h:k ≠ q:=h;split
  ·rw[zEE h,cond_false]
  ·rfl
 ·rename_i q _ _ _
  have h:k ≠ q:=h;split
  ·rw[zEE h,cond_false]
  ·rfl
 ·rfl
variable {cs:List AV}{bt:Nat}
theorem zGF {o:Nat} (h:hp q=some (.box bt cs)):putC hp (.op q o) c=fun k=>bif Nat.beq k q then some (.box bt c) else hp k:=by
 funext k; simp only[putC,h]
variable {rows:List (List AV)}{e sz:Nat}
theorem zKg {s i o:Nat} (h:hp q=some (.arow e sz rows)):putC hp (.rp q s i o) c=fun k=>bif Nat.beq k q then some (.arow e sz (rows.set i c)) else hp k:=by
 funext k; simp only[putC,h]
theorem zEF  (h:hp q=some (.box bt cs)):zAQ hp (.op q 0)=some cs:=by simp only[zAQ,h]
theorem zF8 {i:Nat} (h:hp q=some (.arow e sz rows)):zAQ hp (.rp q sz i 0)=rows[i]?:=by simp only[zAQ,h,Nat.beq_refl,cond_true]
theorem zC7  (hl:isL sz p) (h:zAQ hp p=some cs):(∃ q i e rows,p = .rp q sz i 0/\hp q=some (.arow e sz rows)/\rows[i]? = some cs)∨∃ q bt,p = .op q 0/\hp q=some (.box bt cs):=by
 rcases hl with ⟨q,i,rfl⟩ | ⟨q,rfl⟩
 ·simp only[zAQ]at h;split at h
  ·rename_i e sz' rows hq
   cases hb:Nat.beq sz sz' with
   | false=>rw[hb]at h; cases h
   | true =>
    rw[hb,cond_true]at h;obtain rfl:=Nat.eq_of_beq_eq_true hb;exact .inl ⟨q,i,e,rows,rfl,hq,h⟩
  ·cases h
 ·simp only[zAQ]at h;split at h
  ·rename_i bt cs' hq
   cases h;exact .inr ⟨q,bt,rfl,hq⟩
  ·cases h
theorem zJ4  (hl:isL sz p) (h:zAQ hp p=some cs):zAQ (putC hp p c) p=some c:=by
 rcases zC7 hl h with ⟨q,i,e,rows,rfl,hq,hi⟩ | ⟨q,bt,rfl,hq⟩
 ·rw[zKg hq,zF8 (e:=e) (rows:=rows.set i c) (by simp only[Nat.beq_refl,cond_true]),List.getElem?_set,if_pos rfl,if_pos (List.getElem?_eq_some_iff.1 hi).1]
 ·rw[zGF hq,zEF (bt:=bt) (cs:=c) (by simp only[Nat.beq_refl,cond_true])]
theorem zCz {hp':Nat->Option Ob} (hl:isL sz p) (h:hp' (zBt p)=hp (zBt p)):zAQ hp' p=zAQ hp p:=by
 rcases hl with ⟨q',i',rfl⟩ | ⟨q',rfl⟩ <;> (simp only[zBt]at h; simp only[zAQ,h])
theorem zYm {p':AV} (hl:isL sz p) (hc:zAQ hp p=some cs) (hl':isL sz p') (hne:p' ≠ p):zAQ (putC hp p c) p'=zAQ hp p':=by
 by_cases hb:zBt p'=zBt p
 ·rcases zC7 hl hc with ⟨q,i,e,rows,rfl,hq,hi⟩ | ⟨q,bt,rfl,hq⟩
  ·have hp2:putC hp (.rp q sz i 0) c q=some (.arow e sz (rows.set i c)) :=(by rw[zKg hq]; simp only[Nat.beq_refl,cond_true]);rcases hl' with ⟨q',i',rfl⟩ | ⟨q',rfl⟩ <;> (simp only[zBt]at hb; subst hb)
   ·have hi:i' ≠ i:=fun e=>hne (by rw[e])
    rw[zF8 hp2,zF8 hq,List.getElem?_set,if_neg (Ne.symm hi)]
   ·simp only[zAQ,hp2,hq]
  ·have hp2:putC hp (.op q 0) c q=some (.box bt c) :=(by rw[zGF hq]; simp only[Nat.beq_refl,cond_true]);rcases hl' with ⟨q',i',rfl⟩ | ⟨q',rfl⟩ <;> (simp only[zBt]at hb; subst hb)
   ·simp only[zAQ,hp2,hq]
   ·exact absurd rfl hne
 ·exact zCz hl' (zB2 hb)
theorem zZF {sz':Nat} (hl:isL sz' p) (hc:zAQ hp p=some cs) (h:hp q=some (.arow e sz rows)):∃ rows',putC hp p c q=some (.arow e sz rows')/\rows'.length=rows.length:=by
 by_cases hb:q=zBt p
 ·subst hb;rcases zC7 hl hc with ⟨q,i,e',rows',rfl,hq,hi⟩ | ⟨q,bt,rfl,hq⟩
  ·simp only[zBt]at h ⊢;rw[hq]at h; cases h
   rw[zKg hq]; exact⟨_,by simp only[Nat.beq_refl,cond_true]; rfl,length_set ..⟩
  ·simp only[zBt]at h;rw[hq]at h; cases h
 ·rw[zB2 hb]; exact⟨rows,h,rfl⟩
section
variable {T:Nat->Option TI} {Γ:Nat->Option zAr} {M nm L:List Nat} {N k n:Nat} {all os:List Oper} {o:Oper} {σ σ':St} {K:St->Prop} {φ:Option Prop} {x:AV} {d:Nat}
variable {y:Operand}{p:AV}{sz:Nat}{own:Bool}
theorem zFm  (hl:isL sz p) (ho:o.op = .nilCheck y) (hy:opd T σ.env 0 y=p):step1 T own o σ=some (none,p,σ):=by
 have e1:zB9 T own o σ.env=some (none,p):=by
  rcases hl with ⟨q,i,rfl⟩ | ⟨q,rfl⟩ <;> simp only[zB9,ho,hy]
 simp only[step1,e1]
variable {ti:TI}{off t:Nat}
theorem zFR {f ft:Nat}{j:TI}{fs:List (Nat×Nat)} (hl:isL sz p) (ho:o.op = .fieldAddr t y f) (hy:opd T σ.env 0 y=p) (ht:T t=some ti) (hk:ti.k = .struct fs) (hf:fs[f]? = some (off,ft)) (hj:T ft=some j) (hz:Nat.ble 1 j.size=true) :
  step1 T own o σ=some (none,locO p off,σ):=by
 have e1:zB9 T own o σ.env=some (none,locO p off):=by
  rcases hl with ⟨q,i,rfl⟩ | ⟨q,rfl⟩ <;> simp only[zB9,ho,hy,zGd,ht,hk,hf,hj,hz,zO7,locO,Nat.zero_add]
 simp only[step1,e1]
variable {cs:List AV}
theorem zEl {c:AV} (hg:o.guard=none) (hd:o.dst=some d) (hN:Nat.blt d N=true) (hn:dIn (some d) nm=false) (ho:o.op = .load t y) (ht:T t=some ti) (ha:ti.k.agg=false) (hl:isL sz p) (hy:opd T σ.env 0 y=locO p off)
  (hcs:zAQ σ.hp p=some cs) (hc:cs[off]? = some c) (h:zBF T Γ M nm N all os (σ.putN d c) K):zBF T Γ M nm N all (o::os) σ K:=by
 rcases zC7 hl hcs with ⟨q,i,e,rows,rfl,hq,hi⟩ | ⟨q,bt,rfl,hq⟩
 ·have hgd:rows.getD i []=cs :=(by rw[getD_eq_getElem?_getD,hi]; rfl);refine zSM hg hd hN hn ho hy hq (List.getElem?_eq_some_iff.1 hi).1 (c:=c) ?_ h;simp only[zOS,ht,ha,hgd]
  rw[drop_eq_getElem_cons (List.getElem?_eq_some_iff.1 hc).1]
  simp only[(List.getElem?_eq_some_iff.1 hc).2]
 ·have hcall:callOf T Γ o σ.env=none :=(by simp only[callOf,ho]);exact zAg hg hd hN hcall hn (zZX ho ht ha hy hq hc) trivial h
variable {z:Operand}
theorem zSN {c:AV} (hg:o.guard=none) (hd:o.dst=none) (ho:o.op = .store t y z) (ht:T t=some ti) (hs:ti.size=1) (hl:isL sz p) (hy:opd T σ.env 0 y=locO p off)
  (hcs:zAQ σ.hp p=some cs) (hlen:cs.length=sz) (hoff:off<sz) (hz:(opd T σ.env t z).cellsA=[c]) (ho1:c.one=true) (hlt:c.lt σ.nx=true)
  (h:zBF T Γ M nm N all os { σ with hp:=putC σ.hp p (cs.set off c) } K):zBF T Γ M nm N all (o::os) σ K:=by
 have hcall:callOf T Γ o σ.env=none :=(by simp only[callOf,ho]);have hset:cs.take off++[c]++cs.drop (off+1)=cs.set off c:=by
  rw[set_eq_take_append_cons_drop,if_pos (by omega)]; simp
 have h1:Nat.ble (off+1) sz=true:=Nat.ble_eq_true_of_le hoff;rcases zC7 hl hcs with ⟨q,i,e,rows,rfl,hq,hi⟩ | ⟨q,bt,rfl,hq⟩
 ·have hgd:rows.getD i []=cs :=(by rw[getD_eq_getElem?_getD,hi]; rfl);have hst:=zTE (T:=T) (own:=dIn none M) (o:=o) (σ:=σ) ho ht hy hq (Nat.beq_refl _) (by rw[hz,hs]; rfl) (by rw[hs]; exact h1) (by rw[hz]; simp[ho1])
  refine zGr hg hd hcall hst (List.getElem?_eq_some_iff.1 hi).1 ?_;rw[hgd,hz,hs,hset]
  rw[zKg hq]at h;exact h
 ·have hst:=zOt (T:=T) (own:=dIn none M) (o:=o) (σ:=σ) ho ht hy hq (by rw[hz,hs]; rfl) (by rw[hs,hlen]; exact h1) (by rw[hz]; simp[ho1]) (by rw[hz]; simp[AV.ltAll,hlt])
  refine zGr hg hd hcall hst trivial ?_;rw[hz,hs,hset]
  rw[zGF hq]at h;exact h
theorem zHn {cs':List AV} (hg:o.guard=none) (hd:o.dst=none) (ho:o.op = .store t y z) (ht:T t=some ti) (hs:ti.size=sz) (hl:isL sz p) (hy:opd T σ.env 0 y=p)
  (hcs:zAQ σ.hp p=some cs) (hlen:cs.length=sz) (hz:(opd T σ.env t z).cellsA=cs') (hlen':cs'.length=sz) (ho1:cs'.all AV.one=true) (hlt:AV.ltAll σ.nx cs'=true)
  (h:zBF T Γ M nm N all os { σ with hp:=putC σ.hp p cs' } K):zBF T Γ M nm N all (o::os) σ K:=by
 have hcall:callOf T Γ o σ.env=none :=(by simp only[callOf,ho]);have hset:cs.take 0++cs'++cs.drop (0+sz)=cs':=by
  rw[drop_eq_nil_of_le (by omega)]; simp
 have h1:Nat.ble (0+sz) sz=true:=Nat.ble_eq_true_of_le (by omega)
 have h2:Nat.beq cs'.length ti.size=true :=(by rw[hlen',hs]; exact Nat.beq_refl _);rcases zC7 hl hcs with ⟨q,i,e,rows,rfl,hq,hi⟩ | ⟨q,bt,rfl,hq⟩
 ·have hgd:rows.getD i []=cs :=(by rw[getD_eq_getElem?_getD,hi]; rfl);have hst:=zTE (T:=T) (own:=dIn none M) (o:=o) (σ:=σ) ho ht hy hq (Nat.beq_refl _) (by rw[hz]; exact h2) (by rw[hs]; exact h1) (by rw[hz]; exact ho1)
  refine zGr hg hd hcall hst (List.getElem?_eq_some_iff.1 hi).1 ?_;rw[hgd,hz,hs,hset]
  rw[zKg hq]at h;exact h
 ·have hst:=zOt (T:=T) (own:=dIn none M) (o:=o) (σ:=σ) ho ht hy hq (by rw[hz]; exact h2) (by rw[hs,hlen]; exact h1) (by rw[hz]; exact ho1) (by rw[hz]; exact hlt)
  refine zGr hg hd hcall hst trivial ?_;rw[hz,hs,hset]
  rw[zGF hq]at h;exact h
theorem zDA {j g:Nat}{want:Bool} (hg:o.guard=some (j,want)) (hj:(all[j]?).bind (·.dst)=some g) (hv:σ.env g = .s (.bool want)) (h:zBF T Γ M nm N all ({ o with guard:=none }::os) σ K):zBF T Γ M nm N all (o::os) σ K:=by
 unfold zBF at h ⊢;dsimp only at h ⊢;split
 ·rename_i h0
  rw[h0]at h;exact h
 ·rename_i h0
  rw[h0]at h;rw[hg]
  dsimp only;rw[hj]
  dsimp only;rw[hv]
  cases want <;> exact h
theorem Le.fewer {c:Cx}{σ:St} (l:List (Nat×AV)) (hp':Nat->Option Ob) (h:holds σ.env l) (hh:∀ k ob,hp' k=some ob->σ.hp k=some ob):Le c σ ⟨ofL l,hp',σ.nx⟩:=by
 refine Le.trans (Le.forget l h) ?_;unfold Le;intro G β a w hc;exact⟨G,β,{ hc with hp:=fun k ob hk=>hc.hp k ob (hh k ob hk),hplt:=fun k ob hk=>hc.hplt k ob (hh k ob hk),inj:=fun k k' ob ob' hk hk'=>hc.inj k k' ob ob' (hh k ob hk) (hh k' ob' hk') }⟩
end
theorem PSound.giveAll {P:Program}{f:Nat}{R:List AV->(Nat->Option Ob)->Nat->(AV->(Nat->Option Ob)->Nat->Prop)->Prop}{S:List AV->Ret->Prop} (h:PSound P f (zSU R))
  (hS:∀ xs r,S xs r->∃ y,r = .val y/\y.pers=true/\R xs (fun _=>none) 0 fun x hp n=>RdV hp x y):PSound P f (zAu S):=by
 refine⟨h.1,fun G w xs vs r hlt hgl hp hv hs=>?_,fun R hR=>(by cases hR),fun R hR=>(by cases hR)⟩
 obtain⟨y,rfl,hy,hR⟩:=hS xs r hs;refine(h.2.2.2 R rfl G w (fun _=>.tuple #[]) xs vs (fun _=>none) 0 _ hlt hgl hv (AV.persAll_lt hp) ⟨fun k ob hk=>(by cases hk),fun k ob hk=>(by cases hk),fun k k' ob ob' hk=>(by cases hk)⟩ hR).mono ?_;rintro e w' ⟨v,G',β',x,hp',n',rfl,hΦ,hn,hfr,hsub,hnew,hlt',hx,hxl,hob,hst⟩
 let c:Cx:=zFA P w (fun _=>.tuple #[]) (fun _=>none) 0 G 0
 have hk:Keep G G' w w':=⟨hsub,fun b hb=>hfr.old b (hlt b hb) (by rintro⟨k,ob,h,_⟩; cases h)⟩
 have hc:Conc c G' β' ⟨fun _=>.junk,hp',n'⟩ { tmps:=#[],defers:=[] } w':={
  defers:=rfl
  size:=rfl
  env:=fun t=>by simp only[AVal]
  envlt:=fun t=>rfl
  hp:=hob.obs
  hplt:=hob.lts
  inj:=hob.inj
  lt:=hlt'
  sub:=hsub
  new:=hnew
  fr:=hfr
  stay:=⟨hn,hst⟩
  glob:=hgl.keep hk }
 have hmine:∀ b,c.mine b->w.heap.size<=b:=fun b hb=>by
  rcases hb with ⟨k,ob,h,_⟩ | h
  ·cases h
  ·exact h
 refine⟨v,allG G' β' hp',rfl,⟨hfr.os,hfr.tape,hfr.output,hfr.size,fun b hb=>hfr.old b hb (by rintro⟨k,ob,h,_⟩; cases h),fun b hb=>.inl (hsub b hb),fun b hb=>?_,fun b hb=>?_⟩,hy,(hΦ.aval hc hx).pers hy⟩
 ·rcases hb with hb | ⟨k,ob,h1,h2⟩
  ·exact(hnew b hb).imp id (hmine b)
  ·exact .inr (hmine b (row_block (hc.hp k ob h1) b h2).2)
 ·rcases hb with hb | ⟨k,ob,h1,h2⟩
  ·exact hlt' b hb
  ·exact hc.blk_lt h1 h2
theorem ObAt.give {c:Cx}{G G':Nat->Prop}{w:World}{β:Nat->Value}{v:Value}{ob:Ob} (hs:∀ b,G b->G' b) (hng:∀ b,blk v=some b->¬ G' b) (h:ObAt c G w β v ob):ObAt c G' w β v ob:=by
 have hk:Keep G G' w w:=⟨hs,fun _ _=>rfl⟩
 cases ob with
 | box t xs =>
  obtain⟨b,e,cur,q1,q2,q3,q4,q5,q6⟩:=h;exact⟨b,e,cur,q1,q2,hng b (by rw[q1]; rfl),q4,q5.keep hk,q6⟩
 | row e sz rows =>
  obtain⟨q1,q2,q3⟩:=h;refine⟨q1,q2,q3.imp id ?_⟩
  rintro⟨b,cap,cur,g1,g2,g3,g4,g5,g6,g7⟩
  exact⟨b,cap,cur,g1,g2,g3,g4,hng b (by rw[g1]; rfl),g6,fun i s hi=>let ⟨u,hu,hr'⟩:=g7 i s hi; ⟨u,hu,hr'.keep hk⟩⟩
 | arow e sz rows =>
  obtain⟨q1,q2,q3⟩:=h;refine⟨q1,q2,q3.imp id ?_⟩
  rintro⟨b,cap,cur,g1,g2,g3,g4,g5,g6,g7⟩
  exact⟨b,cap,cur,g1,g2,g3,g4,hng b (by rw[g1]; rfl),g6,fun i x hi=>let ⟨u,hu,hr',h1⟩:=g7 i x hi; ⟨u,hu,hr'.keep hk,h1⟩⟩
 | any τ xs =>
  obtain⟨b,o,vs,q1,q2,q3,q4,q5,q6⟩:=h;exact⟨b,o,vs,q1,q2,hng b q1,q4,q5.keep hk,q6⟩
theorem RdV.lt {hp:Nat->Option Ob}{x y:AV} (h:RdV hp x y) (n:Nat):y.lt n=true:=by
 unfold RdV at h;split at h
 ·rfl
 ·rename_i xs ys
  simp only[AV.lt]
  refine zNT fun q y hq=>?_
  have hil:q<xs.length :=(by rw[h.1]; exact(List.getElem?_eq_some_iff.1 hq).1);obtain⟨s,rfl,_⟩:=h.2 q _ y (List.getElem?_eq_getElem hil) hq
  rfl
 ·rfl
 ·exact h.elim
def RdK (hp:Nat->Option Ob) (env:Nat->AV):List (Nat×AV)->Prop
 | []=>True
 | (t,y)::r=>(y=env t∨RdV hp (env t) y)/\RdK hp env r
theorem RdK.lt {hp:Nat->Option Ob}{env:Nat->AV}{n:Nat} (he:∀ t,(env t).lt n=true):∀ {l:List (Nat×AV)},RdK hp env l->∀ t,(ofL l t).lt n=true
 | [],_,t=>rfl
 | (u,y)::r,h,t=>by
  simp only[ofL]
  cases Nat.beq t u with
  | true =>
   rcases h.1 with h1 | h1
   ·rw[h1]; exact he u
   ·exact h1.lt n
  | false=>exact RdK.lt he h.2 t
theorem Le.givePart {c:Cx}{σ:St} (l:List (Nat×AV)) (hpD hpK:Nat->Option Ob) (hD:∀ k ob,hpD k=some ob->σ.hp k=some ob) (hK:∀ k ob,hpK k=some ob->σ.hp k=some ob) (dis:∀ k ob ob',hpD k=some ob->hpK k=some ob'->False)
  (h:RdK hpD σ.env l):Le c σ ⟨ofL l,hpK,σ.nx⟩:=by
 unfold Le;intro G β a w hc;have hk:Keep G (allG G β hpD) w w:=⟨fun _ h=>.inl h,fun _ _=>rfl⟩
 have hcD:Conc c G β ⟨σ.env,hpD,σ.nx⟩ a w:={ hc with hp:=fun k ob hk=>hc.hp k ob (hD k ob hk),hplt:=fun k ob hk=>hc.hplt k ob (hD k ob hk),inj:=fun k k' ob ob' hk hk'=>hc.inj k k' ob ob' (hD k ob hk) (hD k' ob' hk') }
 refine⟨allG G β hpD,β,{ defers:=hc.defers,size:=hc.size,env:=?_,envlt:=RdK.lt hc.envlt h,hp:=fun k ob hk'=>?_,hplt:=fun k ob hk=>hc.hplt k ob (hK k ob hk),inj:=fun k k' ob ob' hk hk'=>hc.inj k k' ob ob' (hK k ob hk) (hK k' ob' hk'),lt:=fun b hb=>?_,sub:=fun b hb=>.inl (hc.sub b hb),new:=fun b hb=>?_,fr:=hc.fr,stay:=hc.stay,glob:=hc.glob.keep hk }⟩
 ·intro t;show AVal (allG G β hpD) w β (ofL l t) (a.tmps.getD t undef)
  induction l with
  | nil=>simp only[ofL,AVal]
  | cons p r ih =>
   obtain⟨u,y⟩:=p;simp only[ofL]
   cases e:Nat.beq t u with
   | true =>
    obtain rfl:=Nat.eq_of_beq_eq_true e;rcases h.1 with h1 | h1
    ·rw[h1]; exact(hc.env t).keep hk
    ·exact h1.aval hcD (hc.env t)
   | false=>exact ih h.2
 ·refine(hc.hp k ob (hK k ob hk')).give (fun b h=>.inl h) fun b hb hg=>?_
  rcases hg with hg | ⟨k',ob',h1,h2⟩
  ·exact(row_block (hc.hp k ob (hK k ob hk')) b hb).1 hg
  ·by_cases e:k=k'
   ·subst e; exact dis k ob' ob h1 hk'
   ·exact hc.inj k k' ob ob' (hK k ob hk') (hD k' ob' h1) e b hb h2
 ·rcases hb with hb | ⟨k,ob,h1,h2⟩
  ·exact hc.lt b hb
  ·exact hc.blk_lt (hD k ob h1) h2
 ·rcases hb with hb | ⟨k,ob,h1,h2⟩
  ·exact hc.new b hb
  ·exact .inr (row_block (hc.hp k ob (hD k ob h1)) b h2).2
end Go.Abs
namespace Go.Proofs.YtbfnjnljboncgaaGreat
open Go.Abs
def zBh (k:Int) (t:List UInt8) (c:Int) (v:AV):List AV:=[.s (.int .i64 k),.s (.str t),.s (.int .i64 c),v]
mutual
def At (hp:Nat->Option Ob) (e:Nat) (p:AV):Nd->List Nat->List AV->Nat->Prop
 | .mk k t c ks,keys,pd,w=>∃ v,zAQ hp p=some (zBh k t c v) /\
   ((v = .s (.sl 4 (Nd.encs ks))/\keys=[]/\pd=[p]/\w=Nd.cnts ks+1)∨(ks=[]/\v = .s (.sl 4 [])/\keys=[]/\pd=[]/\w=0) ∨
    ∃ q rows keys',v = .orow q/\hp q=some (.arow e 4 rows)/\rows.length=ks.length/\keys=q::keys'/\LAt hp e q 0 ks keys' pd w)
def LAt (hp:Nat->Option Ob) (e q i:Nat):List Nd->List Nat->List AV->Nat->Prop
 | [],keys,pd,w=>keys=[]/\pd=[]/\w=0
 | t::ts,keys,pd,w=>∃ k1 k2 p1 p2 w1 w2,keys=k1++k2/\pd=p1++p2/\w=w1+w2/\At hp e (.rp q 4 i 0) t k1 p1 w1/\LAt hp e q (i+1) ts k2 p2 w2
end
mutual
theorem At.len {hp:Nat->Option Ob}{e:Nat}{p:AV}:∀ {t:Nd}{keys:List Nat}{pd:List AV}{w:Nat},At hp e p t keys pd w->pd.length<=w/\w<=t.cnt
 | .mk k t c ks,keys,pd,w,h=>by
  simp only[At]at h
  obtain⟨v,_,⟨_,_,rfl,rfl⟩ | ⟨_,_,_,rfl,rfl⟩ | ⟨q,rows,keys',_,_,_,_,h⟩⟩:=h
  ·simp[Nd.cnt]
  ·simp
  ·have:=LAt.len h
   simp only[Nd.cnt]; omega
theorem LAt.len {hp:Nat->Option Ob}{e q i:Nat}:∀ {ts:List Nd}{keys:List Nat}{pd:List AV}{w:Nat},LAt hp e q i ts keys pd w->pd.length<=w/\w<=Nd.cnts ts
 | [],keys,pd,w,h=>by
  simp only[LAt]at h
  obtain⟨_,rfl,rfl⟩:=h
  simp
 | t::ts,keys,pd,w,h=>by
  simp only[LAt]at h
  obtain⟨k1,k2,p1,p2,w1,w2,_,rfl,rfl,h1,h2⟩:=h
  have:=At.len h1
  have:=LAt.len h2
  simp only[Nd.cnts,length_append]; omega
end
structure Sim (hp hp':Nat->Option Ob) (e:Nat) (D:Nat->Prop) (p0:AV):Prop where
 row:∀ q rows,D q->hp q=some (.arow e 4 rows)->∃ rows',hp' q=some (.arow e 4 rows')/\rows'.length=rows.length
 cell:∀ p,D (zBt p)->p ≠ p0->isL 4 p->zAQ hp' p=zAQ hp p
variable {p0:AV}{D:Nat->Prop}{e:Nat}{hp hp':Nat->Option Ob}
theorem Sim.sub {D':Nat->Prop} (h:Sim hp hp' e D p0) (hd:∀ q,D' q->D q):Sim hp hp' e D' p0 :=
 ⟨fun q rows hq=>h.row q rows (hd q hq),fun p hp=>h.cell p (hd _ hp)⟩
mutual
theorem At.sameQ {hp hp':Nat->Option Ob}{e:Nat}{p p0:AV}:∀ {t:Nd}{keys:List Nat}{pd:List AV}{w:Nat},At hp e p t keys pd w->isL 4 p->Sim hp hp' e (fun k=>k=zBt p∨k∈keys) p0->p ≠ p0->(∀ q j,q∈keys->AV.rp q 4 j 0 ≠ p0)->At hp' e p t keys pd w
 | .mk k t c ks,keys,pd,w,h,hl,hs,hne,hb=>by
  simp only[At]at h ⊢
  obtain⟨v,hc,h⟩:=h
  refine⟨v,by rw[hs.cell p (.inl rfl) hne hl,hc],?_⟩
  rcases h with h | h | ⟨q,rows,keys',h1,h2,h3,rfl,h5⟩
  ·exact .inl h
  ·exact .inr (.inl h)
  ·obtain⟨rows',h6,h7⟩:=hs.row q rows (.inr mem_cons_self) h2
   exact .inr (.inr ⟨q,rows',keys',h1,h6,h7.trans h3,rfl,LAt.sameQ h5 (hs.sub fun k hk=>.inr (List.mem_cons.2 hk)) (fun j _=>hb q j mem_cons_self) (fun q' j hm=>hb q' j (mem_cons_of_mem _ hm))⟩)
theorem LAt.sameQ {hp hp':Nat->Option Ob}{e q i:Nat}{p0:AV}:∀ {ts:List Nd}{keys:List Nat}{pd:List AV}{w:Nat},LAt hp e q i ts keys pd w->Sim hp hp' e (fun k=>k=q∨k∈keys) p0->(∀ j,i<=j->AV.rp q 4 j 0 ≠ p0)->(∀ q' j,q'∈keys->AV.rp q' 4 j 0 ≠ p0)->LAt hp' e q i ts keys pd w
 | [],_,_,_,h,_,_,_=>h
 | t::ts,keys,pd,w,h,hs,hne,hb=>by
  simp only[LAt]at h ⊢
  obtain⟨k1,k2,p1,p2,w1,w2,rfl,rfl,rfl,h1,h2⟩:=h
  exact⟨k1,k2,p1,p2,w1,w2,rfl,rfl,rfl,
   At.sameQ h1 (.inl ⟨q,i,rfl⟩) (hs.sub fun k hk=>hk.imp id (mem_append_left _)) (hne i (Nat.le_refl _)) (fun q' j hm=>hb q' j (mem_append_left _ hm)),
   LAt.sameQ h2 (hs.sub fun k hk=>hk.imp id (mem_append_right _)) (fun j hj=>hne j (by omega)) (fun q' j hm=>hb q' j (mem_append_right _ hm))⟩
end
variable {w:Nat}{pd:List AV}{keys:List Nat}{t:Nd}{p:AV}
theorem At.same  (h:At hp e p t keys pd w) (hl:isL 4 p) (hs:Sim hp hp' e (fun k=>k=zBt p∨k∈keys) p0) (hne:p ≠ p0) (hb:zBt p0 ∉ keys):At hp' e p t keys pd w :=
 h.sameQ hl hs hne fun q j hm e=>hb (by rw[← e]; exact hm)
variable {ts:List Nd}{q:Nat}
theorem LAt.same {i:Nat} (h:LAt hp e q i ts keys pd w) (hs:Sim hp hp' e (fun k=>k=q∨k∈keys) p0) (hne:∀ j,i<=j->AV.rp q 4 j 0 ≠ p0) (hb:zBt p0 ∉ keys):LAt hp' e q i ts keys pd w :=
 h.sameQ hs hne fun q j hm e=>hb (by rw[← e]; exact hm)
theorem Sim.same  (h:∀ k,D k->hp' k=hp k):Sim hp hp' e D p0 :=
 ⟨fun q rows hq hr=>⟨rows,(h q hq).trans hr,rfl⟩,fun p hp _ hl=>zCz hl (h _ hp)⟩
theorem At.frame  (h:At hp e p t keys pd w) (hl:isL 4 p) (hs:∀ k,k=zBt p∨k∈keys->hp' k=hp k):At hp' e p t keys pd w :=
 h.sameQ hl (Sim.same (p0:=.junk) hs) (fun e=>by rcases hl with ⟨_,_,rfl⟩ | ⟨_,rfl⟩ <;> cases e) (fun q j _ e=>by cases e)
mutual
theorem At.base {hp:Nat->Option Ob}{e:Nat}{p p0:AV}:∀ {t:Nd}{keys:List Nat}{pd:List AV}{w:Nat},At hp e p t keys pd w->p0∈pd->p0=p∨zBt p0∈keys
 | .mk k t c ks,keys,pd,w,h,hm=>by
  simp only[At]at h
  obtain⟨v,_,⟨_,_,rfl,_⟩ | ⟨_,_,_,rfl,_⟩ | ⟨q,rows,keys',_,_,_,rfl,h⟩⟩:=h
  ·exact .inl (List.mem_singleton.1 hm)
  ·cases hm
  ·rcases LAt.base h hm with ⟨j,_,rfl⟩ | h
   ·exact .inr mem_cons_self
   ·exact .inr (mem_cons_of_mem _ h)
theorem LAt.base {hp:Nat->Option Ob}{e q i:Nat}{p0:AV}:∀ {ts:List Nd}{keys:List Nat}{pd:List AV}{w:Nat},LAt hp e q i ts keys pd w->p0∈pd->(∃ j,i<=j/\p0 = .rp q 4 j 0)∨zBt p0∈keys
 | [],keys,pd,w,h,hm=>by
  simp only[LAt]at h
  obtain⟨_,rfl,_⟩:=h
  cases hm
 | t::ts,keys,pd,w,h,hm=>by
  simp only[LAt]at h
  obtain⟨k1,k2,p1,p2,w1,w2,rfl,rfl,rfl,h1,h2⟩:=h
  rcases List.mem_append.1 hm with hm | hm
  ·rcases At.base h1 hm with rfl | hm
   ·exact .inl ⟨i,Nat.le_refl _,rfl⟩
   ·exact .inr (mem_append_left _ hm)
  ·rcases LAt.base h2 hm with ⟨j,hj,hm⟩ | hm
   ·exact .inl ⟨j,by omega,hm⟩
   ·exact .inr (mem_append_right _ hm)
end
mutual
theorem At.loc {hp:Nat->Option Ob}{e:Nat}{p p0:AV}:∀ {t:Nd}{keys:List Nat}{pd:List AV}{w:Nat},At hp e p t keys pd w->isL 4 p->p0∈pd->isL 4 p0
 | .mk k t c ks,keys,pd,w,h,hl,hm=>by
  simp only[At]at h
  obtain⟨v,_,⟨_,_,rfl,_⟩ | ⟨_,_,_,rfl,_⟩ | ⟨q,rows,keys',_,_,_,rfl,h⟩⟩:=h
  ·rw[List.mem_singleton.1 hm]; exact hl
  ·cases hm
  ·exact LAt.loc h hm
theorem LAt.loc {hp:Nat->Option Ob}{e q i:Nat}{p0:AV}:∀ {ts:List Nd}{keys:List Nat}{pd:List AV}{w:Nat},LAt hp e q i ts keys pd w->p0∈pd->isL 4 p0
 | [],keys,pd,w,h,hm=>by
  simp only[LAt]at h
  obtain⟨_,rfl,_⟩:=h
  cases hm
 | t::ts,keys,pd,w,h,hm=>by
  simp only[LAt]at h
  obtain⟨k1,k2,p1,p2,w1,w2,rfl,rfl,rfl,h1,h2⟩:=h
  rcases List.mem_append.1 hm with hm | hm
  ·exact At.loc h1 (.inl ⟨q,i,rfl⟩) hm
  ·exact LAt.loc h2 hm
end
theorem zZe {α:Type}{a b S:List α}{x:α} (h:a++b=S++[x]):(b=[]/\a=S++[x])∨∃ S2,b=S2++[x]/\S=a++S2:=by
 rcases eq_nil_or_concat b with rfl | ⟨b',y,rfl⟩
 ·exact .inl ⟨rfl,by simpa using h⟩
 ·rw[concat_eq_append,← append_assoc]at h;have:=append_inj' h rfl;obtain⟨h1,h2⟩:=this;cases h2;exact .inr ⟨b',concat_eq_append,h1.symm⟩
def Repl (hp:Nat->Option Ob) (e:Nat) (p0:AV) (S:List AV) (w:Nat) (D:Nat->Prop) (keys:List Nat) (P:(Nat->Option Ob)->List Nat->List AV->Nat->Prop):Prop :=
 ∃ t0 w0,At hp e p0 t0 [] [p0] t0.cnt/\w=w0+t0.cnt/\∀ hp' new ch w',Sim hp hp' e D p0->At hp' e p0 t0 new ch w'->∃ keys2,keys2.Perm (keys++new)/\P hp' keys2 (S++ch) (w0+w')
theorem zZD {a b n:List Nat}{k2:List Nat} (h:k2.Perm (a++n)):(k2++b).Perm (a++b++n) :=
 (h.append_right b).trans (by rw[append_assoc,append_assoc]; exact(perm_append_comm).append_left a)
mutual
theorem At.repl {hp:Nat->Option Ob}{e:Nat}{p p0:AV}{S:List AV}:∀ {t:Nd}{keys:List Nat}{w:Nat},At hp e p t keys (S++[p0]) w->isL 4 p->(zBt p::keys).Nodup ->
  Repl hp e p0 S w (fun k=>k=zBt p∨k∈keys) keys fun hp' keys2 pd w=>At hp' e p t keys2 pd w
 | .mk k t c ks,keys,w,h,hl,hn=>by
  have h0:=h
  simp only[At]at h
  obtain⟨v,hc,⟨rfl,rfl,h2,rfl⟩ | ⟨_,_,_,h2,_⟩ | ⟨q,rows,keys',rfl,hq,hlen,rfl,h⟩⟩:=h
  ·cases S with
   | cons x S=>cases S <;> simp at h2
   | nil =>
    obtain rfl:p0=p:=by simpa using h2
    refine⟨.mk k t c ks,0,h0,by simp[Nd.cnt],fun hp' new ch w' _ ha=>⟨new,by simp,by simpa using ha⟩⟩
  ·simp at h2
  ·have hn2:=List.nodup_cons.1 hn
   have hb:zBt p0∈q::keys':=by
    rcases LAt.base h (p0:=p0) (by simp) with ⟨j,_,rfl⟩ | h
    ·exact mem_cons_self
    ·exact mem_cons_of_mem _ h
   have hne:p ≠ p0:=fun e=>hn2.1 (by rw[e]; exact hb)
   obtain⟨t0,w0,r1,r2,r3⟩:=LAt.repl h hn2.2
   refine⟨t0,w0,r1,r2,fun hp' new ch w' hs ha=>?_⟩
   obtain⟨rows',h6,h7⟩:=hs.row q rows (.inr mem_cons_self) hq
   obtain⟨keys2,hp2,hl2⟩:=r3 hp' new ch w' (hs.sub fun k hk=>.inr (List.mem_cons.2 hk)) ha
   refine⟨q::keys2,by simpa using hp2,?_⟩
   simp only[At]
   exact⟨.orow q,by rw[hs.cell p (.inl rfl) hne hl,hc],.inr (.inr ⟨q,rows',keys2,rfl,h6,h7.trans hlen,rfl,hl2⟩)⟩
theorem LAt.repl {hp:Nat->Option Ob}{e q i:Nat}{p0:AV}{S:List AV}:∀ {ts:List Nd}{keys:List Nat}{w:Nat},LAt hp e q i ts keys (S++[p0]) w->(q::keys).Nodup ->
  Repl hp e p0 S w (fun k=>k=q∨k∈keys) keys fun hp' keys2 pd w=>LAt hp' e q i ts keys2 pd w
 | [],keys,w,h,hn=>by
  simp only[LAt]at h
  simp at h
 | t::ts,keys,w,h,hn=>by
  simp only[LAt]at h
  obtain⟨k1,k2,p1,p2,w1,w2,rfl,hpd,rfl,h1,h2⟩:=h
  obtain⟨hq,hn2⟩:=List.nodup_cons.1 hn
  obtain⟨n1,n2,n12⟩:=List.nodup_append.1 hn2
  have hq1:q ∉ k1:=fun h=>hq (mem_append_left _ h)
  have hq2:q ∉ k2:=fun h=>hq (mem_append_right _ h)
  rcases zZe hpd.symm with ⟨rfl,rfl⟩ | ⟨S2,rfl,rfl⟩
  ·have hb:=At.base h1 (p0:=p0) (by simp)
   obtain⟨t0,w0,r1,r2,r3⟩:=At.repl h1 (.inl ⟨q,i,rfl⟩) (List.nodup_cons.2 ⟨hq1,n1⟩)
   refine⟨t0,w0+w2,r1,by omega,fun hp' new ch w' hs ha=>?_⟩
   obtain⟨keys2,hp2,hl2⟩:=r3 hp' new ch w' (hs.sub fun k hk=>hk.imp id (mem_append_left _)) ha
   refine⟨keys2++k2,zZD hp2,?_⟩
   simp only[LAt]
   refine⟨keys2,k2,S++ch,[],w0+w',w2,rfl,by simp,by omega,hl2,?_⟩
   refine LAt.same h2 (hs.sub fun k hk=>hk.imp id (mem_append_right _)) (fun j hj e=>?_) (fun hm=>?_)
   ·rcases hb with rfl | hb
    ·cases e; omega
    ·rw[← e]at hb; exact hq1 hb
   ·rcases hb with rfl | hb
    ·exact hq2 hm
    ·exact n12 _ hb _ hm rfl
  ·have hb:=LAt.base h2 (p0:=p0) (by simp)
   obtain⟨t0,w0,r1,r2,r3⟩:=LAt.repl h2 (List.nodup_cons.2 ⟨hq2,n2⟩)
   refine⟨t0,w1+w0,r1,by omega,fun hp' new ch w' hs ha=>?_⟩
   obtain⟨keys2,hp2,hl2⟩:=r3 hp' new ch w' (hs.sub fun k hk=>hk.imp id (mem_append_right _)) ha
   refine⟨k1++keys2,by rw[append_assoc]; exact hp2.append_left k1,?_⟩
   simp only[LAt]
   refine⟨k1,keys2,p1,S2++ch,w1,w0+w',rfl,by simp,by omega,?_,hl2⟩
   refine At.same h1 (.inl ⟨q,i,rfl⟩) (hs.sub fun k hk=>hk.imp id (mem_append_left _)) (fun e=>?_) (fun hm=>?_)
   ·rcases hb with ⟨j,hj,hb⟩ | hb
    ·rw[hb]at e; cases e; omega
    ·rw[← e]at hb; exact hq2 hb
   ·rcases hb with ⟨j,hj,rfl⟩ | hb
    ·exact hq1 hm
    ·exact n12 _ hm _ hb rfl
end
variable {cs:List AV}
theorem Sim.put {c:List AV} (hl:isL 4 p0) (hc:zAQ hp p0=some cs) (h:∀ k,D k->hp' k=putC hp p0 c k):Sim hp hp' e D p0 :=
 ⟨fun q rows hq hr=>by rw[h q hq]; exact zZF hl hc hr,fun p hp hne hl'=>(zCz hl' (h _ hp)).trans (zYm hl hc hl' hne)⟩
def locs (q i n:Nat):List AV:=(range' i n).map fun j=>.rp q 4 j 0
theorem LAt.fresh {hp:Nat->Option Ob}{e q:Nat}:∀ {ts:List Nd}{i:Nat},(∀ j x,ts[j]? = some x->zAQ hp (.rp q 4 (i+j) 0)=some (x.enc.map AV.s))->LAt hp e q i ts [] (locs q i ts.length) (Nd.cnts ts)
 | [],i,_=>by simp[LAt,locs,Nd.cnts]
 | .mk k t c ks::ts,i,h=>by
  simp only[LAt]
  refine⟨[],[],[.rp q 4 i 0],locs q (i+1) ts.length,Nd.cnts ks+1,Nd.cnts ts,rfl,by simp[locs,range'_succ],by simp[Nd.cnts,Nd.cnt],?_,LAt.fresh fun j x hj=>?_⟩
  ·simp only[At]
   exact⟨.s (.sl 4 (Nd.encs ks)),h 0 (.mk k t c ks) rfl,.inl (by simp)⟩
  ·rw[show i+1+j=i+(j+1) by omega]; exact h (j+1) x (by simpa using hj)
theorem LAt.copied  (h:hp q=some (.arow e 4 ((Nd.encs ts).map (·.map AV.s)))):LAt hp e q 0 ts [] (locs q 0 ts.length) (Nd.cnts ts) :=
 LAt.fresh fun j x hj=>by
  rw[zF8 h,Nat.zero_add,Nd.encs_eq,map_map,List.getElem?_map,hj]; rfl
theorem zUU {hp:Nat->Option Ob}:∀ {rows:List (List AV)}{rs:List (List S)},(∀ (j:Nat) r s,rows[j]? = some r->rs[j]? = some s->r.length=s.length/\∀ (i:Nat) x y,r[i]? = some x->s[i]? = some y->Rd hp x y)->∀ (i:Nat) x y,rows.flatten[i]? = some x->rs.flatten[i]? = some y->Rd hp x y
 | [],_,_,_,_,_,h,_=>by simp at h
 | _::_,[],_,_,_,_,_,h=>by simp at h
 | r::rows,s::rs,h,i,x,y,hx,hy=>by
  obtain⟨hl,h0⟩:=h 0 r s (by simp) (by simp)
  rw[flatten_cons,List.getElem?_append]at hx hy
  by_cases hi:i<r.length
  ·rw[if_pos hi]at hx;rw[if_pos (hl ▸ hi)]at hy;exact h0 i x y hx hy
  ·rw[if_neg hi]at hx;rw[if_neg (hl ▸ hi),← hl]at hy;exact zUU (fun j r s hr hs=>h (j+1) r s (by simpa using hr) (by simpa using hs)) _ x y hx hy
def RdC (hp:Nat->Option Ob) (cs:List AV) (ss:List S):Prop:=cs.length=ss.length/\∀ (i:Nat) x y,cs[i]? = some x->ss[i]? = some y->Rd hp x y
variable {ks:List Nd}
theorem RdC.node {k:Int}{t:List UInt8}{c:Int}{v:AV} (h:Rd hp v (.sl 4 (Nd.encs ks))):RdC hp (zBh k t c v) (Nd.enc (.mk k t c ks)) :=
 ⟨rfl,fun i x y hx hy=>by
  match i with
  | 0=>cases hx; cases hy; exact .s _
  | 1=>cases hx; cases hy; exact .s _
  | 2=>cases hx; cases hy; exact .s _
  | 3=>cases hx; cases hy; exact h
  | i+4=>simp[zBh]at hx⟩
theorem Rd.rows {rows:List (List AV)} (hq:hp q=some (.arow e 4 rows)) (hl:rows.length=ks.length) (h:∀ j x,ks[j]? = some x->∃ cs,zAQ hp (.rp q 4 j 0)=some cs/\RdC hp cs x.enc):Rd hp (.orow q) (.sl 4 (Nd.encs ks)):=by
 rw[Nd.encs_eq]
 refine .arow hq (by simpa using hl) (fun r hr=>?_) (zUU fun j r s hr hs=>?_)
 ·obtain⟨x,_,rfl⟩:=List.mem_map.1 hr;cases x; rfl
 ·rw[List.getElem?_map]at hs;cases hx:ks[j]? with
  | none=>rw[hx]at hs; cases hs
  | some x =>
   rw[hx]at hs; cases hs
   obtain⟨cs,h1,h2⟩:=h j x hx;rw[zF8 hq,hr]at h1;cases h1;exact h2
mutual
theorem At.rd {hp:Nat->Option Ob}{e:Nat}{p:AV}:∀ {t:Nd}{keys:List Nat}{pd:List AV}{w:Nat},At hp e p t keys pd w->∃ cs,zAQ hp p=some cs/\RdC hp cs t.enc
 | .mk k t c ks,keys,pd,w,h=>by
  simp only[At]at h
  obtain⟨v,hc,⟨rfl,_⟩ | ⟨rfl,rfl,_⟩ | ⟨q,rows,keys',rfl,hq,hlen,rfl,h⟩⟩:=h
  ·exact⟨_,hc,.node (.s _)⟩
  ·exact⟨_,hc,.node (.s _)⟩
  ·exact⟨_,hc,.node (Rd.rows hq hlen fun j x hj=>(by have:=LAt.rd h j x hj; rwa [Nat.zero_add]at this))⟩
theorem LAt.rd {hp:Nat->Option Ob}{e q i:Nat}:∀ {ts:List Nd}{keys:List Nat}{pd:List AV}{w:Nat},LAt hp e q i ts keys pd w->∀ j x,ts[j]? = some x->∃ cs,zAQ hp (.rp q 4 (i+j) 0)=some cs/\RdC hp cs x.enc
 | [],keys,pd,w,h,j,x,hj=>by simp at hj
 | t::ts,keys,pd,w,h,0,x,hj=>by
  simp only[LAt]at h
  obtain⟨k1,k2,p1,p2,w1,w2,rfl,rfl,rfl,h1,h2⟩:=h
  cases hj
  exact At.rd h1
 | t::ts,keys,pd,w,h,j+1,x,hj=>by
  simp only[LAt]at h
  obtain⟨k1,k2,p1,p2,w1,w2,rfl,rfl,rfl,h1,h2⟩:=h
  rw[show i+(j+1)=i+1+j by omega]
  exact LAt.rd h2 j x (by simpa using hj)
end
theorem zZI  (h:RdC hp cs t.enc):RdV hp (.agg cs) (.agg (t.enc.map AV.s)):=by
 refine⟨by simpa using h.1,fun i x y hx hy=>?_⟩
 rw[List.getElem?_map]at hy;cases hs:t.enc[i]? with
 | none=>rw[hs]at hy; cases hy
 | some s=>rw[hs]at hy; cases hy; exact⟨s,rfl,h.2 i x s hx hs⟩
def Hole (hp:Nat->Option Ob) (e:Nat) (p:AV) (keys:List Nat) (p1:AV) (y:Nd) (F:Nd->Nd):Prop :=
 ∃ keys0 rest w0,keys.Perm (keys0++rest)/\At hp e p1 y keys0 [] w0/\isL 4 p1/\(p1=p∨zBt p1∈rest) /\
  ∀ hp' t1 new w1,Sim hp hp' e (fun k=>k=zBt p∨k∈rest) p1->At hp' e p1 t1 new [] w1->∃ keys2 w2,keys2.Perm (rest++new)/\At hp' e p (F t1) keys2 [] w2
theorem Hole.refl  (h:At hp e p t keys [] w) (hl:isL 4 p):Hole hp e p keys p t id :=
 ⟨keys,[],w,by simp,h,hl,.inl rfl,fun hp' t1 new w1 _ h1=>⟨new,w1,by simp,h1⟩⟩
theorem LAt.hole {hp:Nat->Option Ob}{e q:Nat}{x:Nd}:∀ {ts:List Nd}{keys:List Nat}{w i j:Nat},LAt hp e q i ts keys [] w->(q::keys).Nodup->ts[j]? = some x ->
  ∃ keys0 rest w0,keys.Perm (keys0++rest)/\At hp e (.rp q 4 (i+j) 0) x keys0 [] w0/\∀ hp' t1 new w1,Sim hp hp' e (fun k=>k=q∨k∈rest) (.rp q 4 (i+j) 0)->At hp' e (.rp q 4 (i+j) 0) t1 new [] w1 ->
   ∃ keys2 w2,keys2.Perm (rest++new)/\LAt hp' e q i (ts.set j t1) keys2 [] w2
 | [],keys,w,i,j,h,hn,hx=>by simp at hx
 | t::ts,keys,w,i,0,h,hn,hx=>by
  simp only[LAt]at h;obtain⟨k1,k2,p1,p2,w1,w2,rfl,hpd,rfl,h1,h2⟩:=h;obtain⟨rfl,rfl⟩:=List.append_eq_nil_iff.1 hpd.symm;cases hx;have hq:=(List.nodup_cons.1 hn).1;refine⟨k1,k2,w1,List.Perm.refl _,h1,fun hp' t1 new w3 hs h3=>⟨new++k2,w3+w2,perm_append_comm,?_⟩⟩
  simp only[set_cons_zero,LAt]
  exact⟨new,k2,[],[],w3,w2,rfl,rfl,rfl,h3,LAt.same h2 hs (fun j hj e=>by cases e; omega) (fun hm=>hq (mem_append_right _ hm))⟩
 | t::ts,keys,w,i,j+1,h,hn,hx=>by
  simp only[LAt]at h;obtain⟨k1,k2,p1,p2,w1,w2,rfl,hpd,rfl,h1,h2⟩:=h;obtain⟨rfl,rfl⟩:=List.append_eq_nil_iff.1 hpd.symm;obtain⟨hq,hn2⟩:=List.nodup_cons.1 hn;obtain⟨n1,n2,_⟩:=List.nodup_append.1 hn2;obtain⟨keys0,rest,w0,r1,r2,r3⟩:=LAt.hole (i:=i+1) (j:=j) h2 (List.nodup_cons.2 ⟨fun hm=>hq (mem_append_right _ hm),n2⟩) (by simpa using hx)
  rw[show i+1+j=i+(j+1) by omega]at r2 r3;refine⟨keys0,k1++rest,w0,List.perm_iff_count.2 fun a=>?_,r2,fun hp' t1 new w3 hs h3=>?_⟩
  ·have:=r1.count_eq a;simp only[count_append]at this ⊢
   omega
  ·obtain⟨keys2,w4,q1,q2⟩:=r3 hp' t1 new w3 (hs.sub fun k hk=>hk.imp id (mem_append_right _)) h3;refine⟨k1++keys2,w1+w4,by rw[append_assoc]; exact q1.append_left k1,?_⟩
   simp only[set_cons_succ,LAt]
   exact⟨k1,keys2,[],[],w1,w4,rfl,rfl,rfl,At.same h1 (.inl ⟨q,i,rfl⟩) (hs.sub fun k hk=>hk.imp id (mem_append_left _)) (fun e=>by injection e with e1 e2 e3 e4; omega) (fun hm=>hq (mem_append_left _ hm)),q2⟩
theorem Hole.kid {i:Nat}{k c:Int}{tx:List UInt8}{x:Nd} (h:At hp e p (.mk k tx c ks) keys [] w) (hl:isL 4 p) (hn:(zBt p::keys).Nodup) (hx:ks[i]? = some x) :
  ∃ q rows,zAQ hp p=some (zBh k tx c (.orow q))/\hp q=some (.arow e 4 rows)/\rows.length=ks.length/\Hole hp e p keys (.rp q 4 i 0) x (fun x'=>.mk k tx c (ks.set i x')):=by
 simp only[At]at h;obtain⟨v,hc,⟨_,_,h,_⟩ | ⟨rfl,_⟩ | ⟨q,rows,keys',rfl,hq,hlen,rfl,h⟩⟩:=h
 ·cases h
 ·simp at hx
 ·obtain⟨hb,hn2⟩:=List.nodup_cons.1 hn;obtain⟨keys0,rest,w0,r1,r2,r3⟩:=LAt.hole h hn2 hx;rw[Nat.zero_add]at r2 r3;refine⟨q,rows,hc,hq,hlen,keys0,q::rest,w0,List.perm_iff_count.2 fun a=>?_,r2,.inl ⟨q,i,rfl⟩,.inr mem_cons_self,fun hp' t1 new w1 hs h1=>?_⟩
  ·have:=r1.count_eq a;simp only[count_append,count_cons]at this ⊢
   omega
  ·obtain⟨rows',g1,g2⟩:=hs.row q rows (.inr mem_cons_self) hq;obtain⟨keys2,w2,q1,q2⟩:=r3 hp' t1 new w1 (hs.sub fun k hk=>.inr (List.mem_cons.2 hk)) h1;refine⟨q::keys2,w2,by simpa using q1,?_⟩
   simp only[At]
   refine⟨.orow q,by rw[hs.cell p (.inl rfl) (fun e=>hb (by rw[e]; exact mem_cons_self)) hl,hc],.inr (.inr ⟨q,rows',keys2,rfl,g1,by rw[g2,hlen,length_set],rfl,q2⟩)⟩
theorem Hole.trans {p1 p2:AV}{y z:Nd}{F F2:Nd->Nd} (hn:(zBt p::keys).Nodup) (h:Hole hp e p keys p1 y F) (k:∀ keys0 w0,At hp e p1 y keys0 [] w0->isL 4 p1->(zBt p1::keys0).Nodup->Hole hp e p1 keys0 p2 z F2):Hole hp e p keys p2 z (fun x=>F (F2 x)):=by
 obtain⟨keys0,rest,w0,a1,a2,a3,a4,a5⟩:=h;obtain⟨hb,hnk⟩:=List.nodup_cons.1 hn;obtain⟨n0,n1,n01⟩:=List.nodup_append.1 (a1.nodup_iff.1 hnk)
 have hb1:zBt p1 ∉ keys0:=fun hm=>by
  rcases a4 with rfl | a4
  ·exact hb (a1.mem_iff.2 (mem_append_left _ hm))
  ·exact n01 _ hm _ a4 rfl
 obtain⟨keys1,rest1,w1,b1,b2,b3,b4,b5⟩:=k keys0 w0 a2 a3 (List.nodup_cons.2 ⟨hb1,n0⟩)
 refine⟨keys1,rest1++rest,w1,List.perm_iff_count.2 fun a=>?_,b2,b3,?_,fun hp' t1 new w2 hs h2=>?_⟩
 ·have:=a1.count_eq a;have:=b1.count_eq a;simp only[count_append]at *
  omega
 ·rcases b4 with rfl | b4
  ·exact a4.imp id (mem_append_right _)
  ·exact .inr (mem_append_left _ b4)
 ·have hp1:zBt p1=zBt p∨zBt p1∈rest:=a4.imp (fun e=>by rw[e]) id;obtain⟨keysA,wA,q1,q2⟩:=b5 hp' t1 new w2 (hs.sub fun k hk=>by
   rcases hk with rfl | hk
   ·exact hp1.imp id (mem_append_right _)
   ·exact .inr (mem_append_left _ hk)) h2
  have hs1:Sim hp hp' e (fun k=>k=zBt p∨k∈rest) p1:=⟨fun q rows hq=>hs.row q rows (hq.imp id (mem_append_right _)),fun p' hp' hne hl'=>by
   by_cases e2:p'=p2
   ·subst e2;rcases b4 with b4 | b4
    ·exact absurd b4 hne
    ·exfalso
     have hm:zBt p'∈keys0:=b1.mem_iff.2 (mem_append_right _ b4)
     rcases hp' with h3 | h3
     ·exact hb (a1.mem_iff.2 (mem_append_left _ (by rw[← h3]; exact hm)))
     ·exact n01 _ hm _ h3 rfl
   ·exact hs.cell p' (hp'.imp id (mem_append_right _)) e2 hl'⟩
  obtain⟨keysB,wB,q3,q4⟩:=a5 hp' (F2 t1) keysA wA hs1 q2;refine⟨keysB,wB,List.perm_iff_count.2 fun a=>?_,q4⟩
  have:=q1.count_eq a;have:=q3.count_eq a;simp only[count_append]at *
  omega
abbrev iL:List Int->List (List S):=List.map (irow .i64)
abbrev nN (a:Int) (b:List UInt8) (c:Int) (d:List Nd):List S:=[.int .i64 a,.str b,.int .i64 c,.sl 4 (Nd.encs d)]
abbrev pN (a:Int) (b:List UInt8) (c:Int) (d:List Nd):AV:=.s (.pt (nN a b c d))
abbrev pG (R:Nat->List AV->Ret->Prop):zAr:=zAu fun xs r=>∃ n,R n xs r
theorem pL {c:Cx}{σ:St}{Q:Abs.End->St->Prop}{x:Code} (l:List (Nat×AV)) (h1:Tri c x σ (fun e σ'=>match e with | .normal=>Le c σ' ⟨ofL l,fun _=>none,0⟩ | e=>Q e σ')) (h2:∀ σ',Le c σ' ⟨ofL l,fun _=>none,0⟩->Q .normal σ'):Tri c x σ Q:=zAm ⟨ofL l,fun _=>none,0⟩ h1 h2
theorem evS {T:Nat->Option TI}{Γ:Nat->Option zAr}{M nm:List Nat}{N:Nat}{all os:List Oper}{o:Oper}{σ σ':St}{K:St->Prop}{φ:Option Prop}{x:AV}{d:Nat} (h:zBF T Γ M nm N all os (σ'.putN d x) K) (hg:o.guard=none:=by exact rfl) (hd:o.dst=some d:=by exact rfl) (hN:Nat.blt d N=true:=by exact rfl) (hc:callOf T Γ o σ.env=none:=by exact rfl) (hn:dIn (some d) nm=false:=by exact rfl) (hs:step1 T (dIn (some d) M) o σ=some (φ,x,σ'):=by exact rfl) (hφ:φ.getD True:=by trivial):zBF T Γ M nm N all (o::os) σ K:=zAg hg hd hN hc hn hs hφ h
abbrev nI (z:Int):AV:=.s (.int .i64 z)
abbrev nB (z:Bool):AV:=.s (.bool z)
abbrev nS (z:List UInt8):AV:=.s (.str z)
theorem gk0 {P:Program}:∀ f s,look? f ([]:List (Nat×zAr))=some s->PSound P f s:=fun _ _ h=>by cases h
theorem gk1 {P:Program} {a:Nat} {S:zAr} {L:List (Nat×zAr)} (h:PSound P a S) (t:∀ f s,look? f L=some s->PSound P f s):∀ f s,look? f ((a,S)::L)=some s->PSound P f s:=by
 intro f s e
 simp only [look?] at e
 split at e
 ·cases e;rename_i q;obtain rfl:=Nat.eq_of_beq_eq_true q;exact h
 ·exact t f s e
theorem okY {P:Program}{t:Nat}{i:TI}{d:TypeDesc} (info:TypeInfo) (h2:P.underlying t=some d) (h1:P.info? t=some info:=by kernel_rfl) (e1:tkOf d=i.k:=by rfl) (e2:info.size=i.size:=by rfl) (e3:info.bytes=i.bytes:=by rfl){z:Value} (e4:info.zero=some z:=by rfl)
  (e5:z=(if i.k.agg then .agg (i.zero.map S.zval).toArray else (i.zero.headD .np).zval):=by rfl) (e7:i.zero.length=i.size:=by rfl) (e6:i.k.agg=false->i.size=1:=by exact fun _=>rfl) (e8:i.zero.all S.zok=true:=by rfl):okT P t i:=⟨d,info,z,h2,e1,h1,e2,e3,e4,e5,e7,e6,e8⟩
def tab:List (Nat×TI):=[
 (3,⟨.int .i64,1,8,[.int .i64 0]⟩),
 (4,⟨.bool,1,1,[.bool false]⟩),
 (5,⟨.int .u8,1,1,[.int .u8 0]⟩),
 (9,⟨.str,1,16,[.str []]⟩),
 (22,⟨.slice 24,1,24,[.sl 4 []]⟩),
 (24,⟨.struct [(0,3),(1,9),(2,3),(3,22)],4,56,[.int .i64 0,.str [],.int .i64 0,.sl 4 []]⟩),
 (25,⟨.slice 61,1,24,[.sl 7 []]⟩),
 (59,⟨.struct [(0,3),(1,22),(2,3),(3,9),(4,4)],5,64,[.int .i64 0,.sl 4 [],.int .i64 0,.str [],.bool false]⟩),
 (61,⟨.struct [(0,59),(5,5),(6,5)],7,72,[.int .i64 0,.sl 4 [],.int .i64 0,.str [],.bool false,.int .u8 0,.int .u8 0]⟩)]
def T (t:Nat):Option TI:=look? t tab
theorem yB7:∀ p∈tab,okT prog p.1 p.2:=by
 simp only[tab,forall_mem_cons]
 exact⟨okY Tryz.t3 Tryz.underlying3,okY Tryz.t4 Tryz.underlying4,okY Tryz.t5 Tryz.underlying5,okY Tryz.t9 Tryz.underlying9,okY Tryz.t22 Tryz.underlying22,okY Tryz.t24 Tryz.underlying24 (e6:=fun h=>by cases h),okY Tryz.t25 Tryz.underlying25,okY Tryz.t59 Tryz.underlying59 (e6:=fun h=>by cases h),okY Tryz.t61 Tryz.underlying61 (e6:=fun h=>by cases h),by simp⟩
theorem tok:TOk prog T:=yAx yB7
theorem tcl:∀ t i,T t=some i->zDX T i=true:=zXx (by rfl)
def tabX:List (Nat×TI):=[
 (21,⟨.int .i32,1,4,[.int .i32 0]⟩),
 (28,⟨.ptr 68,1,8,[.np]⟩),
 (29,⟨.int .i64,1,8,[.int .i64 0]⟩),
 (33,⟨.slice 76,1,24,[.sl 8 []]⟩),
 (34,⟨.slice 40,1,24,[.sl 5 []]⟩),
 (36,⟨.slice 3,1,24,[.sl 1 []]⟩),
 (38,⟨.struct [(0,36),(1,36)],2,48,[.sl 1 [],.sl 1 []]⟩),
 (40,⟨.struct [(0,33),(1,38),(3,38)],5,120,[.sl 8 [],.sl 1 [],.sl 1 [],.sl 1 [],.sl 1 []]⟩),
 (41,⟨.slice 36,1,24,[.sl 1 []]⟩),
 (54,⟨.fn,1,8,[.nf]⟩),
 (68,⟨.struct [(0,24),(4,24),(8,34),(9,3)],10,144,[.int .i64 0,.str [],.int .i64 0,.sl 4 [],.int .i64 0,.str [],.int .i64 0,.sl 4 [],.sl 5 [],.int .i64 0]⟩),
 (76,⟨.struct [(0,3),(1,36),(2,3),(3,3),(4,22),(5,3),(6,9),(7,9)],8,112,[.int .i64 0,.sl 1 [],.int .i64 0,.int .i64 0,.sl 4 [],.int .i64 0,.str [],.str []]⟩),
 (78,⟨.fn,1,8,[.nf]⟩),
 (79,⟨.fn,1,8,[.nf]⟩),
 (85,⟨.slice 194,1,24,[.sl 4 []]⟩),
 (86,⟨.ptr 89,1,8,[.np]⟩),
 (87,⟨.slice 5,1,24,[.sl 1 []]⟩),
 (89,⟨.struct [(0,86),(1,87)],2,32,[.np,.sl 1 []]⟩),
 (94,⟨.ptr 291,1,8,[.np]⟩),
 (96,⟨.struct [(0,3),(1,29)],2,16,[.int .i64 0,.int .i64 0]⟩),
 (103,⟨.slice 208,1,24,[.sl 2 []]⟩),
 (104,⟨.slice 106,1,24,[.sl 4 []]⟩),
 (106,⟨.struct [(0,9),(1,103),(2,104),(3,9)],4,80,[.str [],.sl 2 [],.sl 4 [],.str []]⟩),
 (111,⟨.ptr 118,1,8,[.np]⟩),
 (112,⟨.fn,1,8,[.nf]⟩),
 (114,⟨.struct [(0,9),(1,3),(2,112)],3,32,[.str [],.int .i64 0,.nf]⟩),
 (115,⟨.arr 13 114,39,416,[.str [],.int .i64 0,.nf,.str [],.int .i64 0,.nf,.str [],.int .i64 0,.nf,.str [],.int .i64 0,.nf,.str [],.int .i64 0,.nf,.str [],.int .i64 0,.nf,.str [],.int .i64 0,.nf,.str [],.int .i64 0,.nf,.str [],.int .i64 0,.nf,.str [],.int .i64 0,.nf,.str [],.int .i64 0,.nf,.str [],.int .i64 0,.nf,.str [],.int .i64 0,.nf]⟩),
 (118,⟨.struct [(0,115),(39,3)],40,424,[.str [],.int .i64 0,.nf,.str [],.int .i64 0,.nf,.str [],.int .i64 0,.nf,.str [],.int .i64 0,.nf,.str [],.int .i64 0,.nf,.str [],.int .i64 0,.nf,.str [],.int .i64 0,.nf,.str [],.int .i64 0,.nf,.str [],.int .i64 0,.nf,.str [],.int .i64 0,.nf,.str [],.int .i64 0,.nf,.str [],.int .i64 0,.nf,.str [],.int .i64 0,.nf,.int .i64 0]⟩),
 (120,⟨.ptr 24,1,8,[.np]⟩),
 (121,⟨.slice 120,1,24,[.sl 1 []]⟩),
 (130,⟨.struct [(0,76),(8,3),(9,3),(10,4),(11,3),(12,36)],13,168,[.int .i64 0,.sl 1 [],.int .i64 0,.int .i64 0,.sl 4 [],.int .i64 0,.str [],.str [],.int .i64 0,.int .i64 0,.bool false,.int .i64 0,.sl 1 []]⟩),
 (136,⟨.fn,1,8,[.nf]⟩),
 (140,⟨.ptr 5,1,8,[.np]⟩),
 (143,⟨.ptr 149,1,8,[.np]⟩),
 (146,⟨.fn,1,8,[.nf]⟩),
 (147,⟨.mp 9 146,1,8,[.nm]⟩),
 (149,⟨.struct [(0,85),(1,3),(2,3),(3,36),(4,94),(5,3),(6,147),(7,3),(8,4)],9,104,[.sl 4 [],.int .i64 0,.int .i64 0,.sl 1 [],.np,.int .i64 0,.nm,.int .i64 0,.bool false]⟩),
 (156,⟨.ptr 106,1,8,[.np]⟩),
 (160,⟨.struct [(0,36),(1,3),(2,3)],3,40,[.sl 1 [],.int .i64 0,.int .i64 0]⟩),
 (169,⟨.struct [(0,36),(1,3),(2,3),(3,24)],7,96,[.sl 1 [],.int .i64 0,.int .i64 0,.int .i64 0,.str [],.int .i64 0,.sl 4 []]⟩),
 (185,⟨.ptr 189,1,8,[.np]⟩),
 (186,⟨.arr 256 5,256,256,List.replicate 256 (.int .u8 0)⟩),
 (189,⟨.struct [(0,186),(256,9),(257,3),(258,3),(259,29)],260,296,List.replicate 256 (.int .u8 0)++[.str [],.int .i64 0,.int .i64 0,.int .i64 0]⟩),
 (190,⟨.fn,1,8,[.nf]⟩),
 (191,⟨.fn,1,8,[.nf]⟩),
 (194,⟨.struct [(0,3),(1,9),(2,3),(3,3)],4,40,[.int .i64 0,.str [],.int .i64 0,.int .i64 0]⟩),
 (197,⟨.struct [(0,76),(8,22)],9,136,[.int .i64 0,.sl 1 [],.int .i64 0,.int .i64 0,.sl 4 [],.int .i64 0,.str [],.str [],.sl 4 []]⟩),
 (202,⟨.ptr 3,1,8,[.np]⟩),
 (208,⟨.struct [(0,9),(1,9)],2,32,[.str [],.str []]⟩),
 (224,⟨.slice 9,1,24,[.sl 1 []]⟩),
 (229,⟨.fn,1,8,[.nf]⟩),
 (230,⟨.fn,1,8,[.nf]⟩),
 (242,⟨.mp 9 3,1,8,[.nm]⟩),
 (264,⟨.fn,1,8,[.nf]⟩),
 (277,⟨.int .u64,1,8,[.int .u64 0]⟩),
 (281,⟨.slice 22,1,24,[.sl 1 []]⟩),
 (283,⟨.int .u32,1,4,[.int .u32 0]⟩),
 (287,⟨.struct [(0,3),(1,24)],5,64,[.int .i64 0,.int .i64 0,.str [],.int .i64 0,.sl 4 []]⟩),
 (289,⟨.mp 9 287,1,8,[.nm]⟩),
 (291,⟨.struct [(0,224),(1,289)],2,32,[.sl 1 [],.nm]⟩),
 (294,⟨.fn,1,8,[.nf]⟩),
 (297,⟨.struct [(0,120),(1,3)],2,16,[.np,.int .i64 0]⟩),
 (298,⟨.slice 297,1,24,[.sl 2 []]⟩),
 (299,⟨.ptr 301,1,8,[.np]⟩),
 (301,⟨.struct [(0,3),(1,3),(2,4)],3,24,[.int .i64 0,.int .i64 0,.bool false]⟩)]
theorem yB6:∀ p∈tabX,okT prog p.1 p.2:=by
 simp only[tabX,forall_mem_cons]
 exact⟨okY Tryz.t21 Tryz.underlying21,okY Tryz.t28 Tryz.underlying28,okY Tryz.t29 Tryz.underlying29,okY Tryz.t33 Tryz.underlying33,okY Tryz.t34 Tryz.underlying34,okY Tryz.t36 Tryz.underlying36,okY Tryz.t38 Tryz.underlying38 (e6:=fun h=>by cases h),okY Tryz.t40 Tryz.underlying40 (e6:=fun h=>by cases h),okY Tryz.t41 Tryz.underlying41,okY Tryz.t54 Tryz.underlying54,okY Tryz.t68 Tryz.underlying68 (e6:=fun h=>by cases h),okY Tryz.t76 Tryz.underlying76 (e6:=fun h=>by cases h),okY Tryz.t78 Tryz.underlying78,okY Tryz.t79 Tryz.underlying79,okY Tryz.t85 Tryz.underlying85,okY Tryz.t86 Tryz.underlying86,okY Tryz.t87 Tryz.underlying87,okY Tryz.t89 Tryz.underlying89 (e6:=fun h=>by cases h),okY Tryz.t94 Tryz.underlying94,okY Tryz.t96 Tryz.underlying96 (e6:=fun h=>by cases h),okY Tryz.t103 Tryz.underlying103,okY Tryz.t104 Tryz.underlying104,okY Tryz.t106 Tryz.underlying106 (e6:=fun h=>by cases h),okY Tryz.t111 Tryz.underlying111,okY Tryz.t112 Tryz.underlying112,okY Tryz.t114 Tryz.underlying114 (e6:=fun h=>by cases h),okY Tryz.t115 Tryz.underlying115 (e6:=fun h=>by cases h),okY Tryz.t118 Tryz.underlying118 (e6:=fun h=>by cases h),okY Tryz.t120 Tryz.underlying120,okY Tryz.t121 Tryz.underlying121,okY Tryz.t130 Tryz.underlying130 (e6:=fun h=>by cases h),okY Tryz.t136 Tryz.underlying136,okY Tryz.t140 Tryz.underlying140,okY Tryz.t143 Tryz.underlying143,okY Tryz.t146 Tryz.underlying146,okY Tryz.t147 Tryz.underlying147,okY Tryz.t149 Tryz.underlying149 (e6:=fun h=>by cases h),okY Tryz.t156 Tryz.underlying156,okY Tryz.t160 Tryz.underlying160 (e6:=fun h=>by cases h),okY Tryz.t169 Tryz.underlying169 (e6:=fun h=>by cases h),okY Tryz.t185 Tryz.underlying185,okY Tryz.t186 Tryz.underlying186 (e6:=fun h=>by cases h),okY Tryz.t189 Tryz.underlying189 (e6:=fun h=>by cases h),okY Tryz.t190 Tryz.underlying190,okY Tryz.t191 Tryz.underlying191,okY Tryz.t194 Tryz.underlying194 (e6:=fun h=>by cases h),okY Tryz.t197 Tryz.underlying197 (e6:=fun h=>by cases h),okY Tryz.t202 Tryz.underlying202,okY Tryz.t208 Tryz.underlying208 (e6:=fun h=>by cases h),okY Tryz.t224 Tryz.underlying224,okY Tryz.t229 Tryz.underlying229,okY Tryz.t230 Tryz.underlying230,okY Tryz.t242 Tryz.underlying242,okY Tryz.t264 Tryz.underlying264,okY Tryz.t277 Tryz.underlying277,okY Tryz.t281 Tryz.underlying281,okY Tryz.t283 Tryz.underlying283,okY Tryz.t287 Tryz.underlying287 (e6:=fun h=>by cases h),okY Tryz.t289 Tryz.underlying289,okY Tryz.t291 Tryz.underlying291 (e6:=fun h=>by cases h),okY Tryz.t294 Tryz.underlying294,okY Tryz.t297 Tryz.underlying297 (e6:=fun h=>by cases h),okY Tryz.t298 Tryz.underlying298,okY Tryz.t299 Tryz.underlying299,okY Tryz.t301 Tryz.underlying301 (e6:=fun h=>by cases h),by simp⟩
def TW (t:Nat):Option TI:=look? t (tab++tabX)
theorem tokW:TOk prog TW:=yAx fun p hp=>(List.mem_append.1 hp).elim (yB7 p) (yB6 p)
theorem mixed:prog.follows .mixedOrders=true:=by kernel_rfl
end Go.Proofs.YtbfnjnljboncgaaGreat
namespace Go.Proofs
theorem qH {P:Prop} (h:P:=by exact⟨rfl,rfl⟩):P:=h
set_option maxHeartbeats 1000000 in
theorem Tryz.stringslite_IndexByte (s:ByteArray) (c:Int) (w:World) :
  Calls prog 197 #[.string s,.int .u8 c] w fun e w'=>e = .returned (.int .i64 (Lib.indexByte s.data.toList c.toNat.toUInt8))/\w'=w:=by
 go_enter func197,Tryz.ntmps197
 go_wp2
 rw[run_callFunc_extern func229 (by kernel_rfl) (by kernel_rfl) (by kernel_rfl) (e:=Extern.BytealgIndexByte.indexByte) (by kernel_rfl),Lib.run_indexByteString]
 simp only[Result.andThen]
 rw[Oper.upon_value]
 go_wp2
 go_ret
 exact qH
theorem Tryz.stringslite_Index_one (s:ByteArray) (c:UInt8) (w:World) :
  Calls prog 228 #[.string s,.string ⟨#[c]⟩] w fun e w'=>e = .returned (.int .i64 (Lib.indexByte s.data.toList c))/\w'=w:=by
 go_enter func228,Tryz.ntmps228
 go_wp2_with (go_at_call 197; refine(Tryz.stringslite_IndexByte _ _ _).mono ?_; rintro e w' ⟨rfl,rfl⟩)
 ·have h:([c] == s.toList)=true:=by assumption
  go_ret
  refine⟨?_,rfl⟩
  have e:s.data.toList=[c] :=(by rw[← Lib.toList_data]; exact(beq_iff_eq.1 h).symm);rw[e]
  simp[Lib.indexByte]
 ·go_ret
  exact qH
set_option maxHeartbeats 1000000 in
theorem Tryz.strings_IndexByte (s:ByteArray) (c:Int) (w:World) :
  Calls prog 146 #[.string s,.int .u8 c] w fun e w'=>e = .returned (.int .i64 (Lib.indexByte s.data.toList c.toNat.toUInt8))/\w'=w:=by
 go_enter func146,Tryz.ntmps146
 go_wp2_with (go_at_call 197; refine(Tryz.stringslite_IndexByte _ _ _).mono ?_; rintro e w' ⟨rfl,rfl⟩)
 go_ret
 exact qH
set_option maxHeartbeats 1000000 in
theorem Tryz.strings_Index_one (s:ByteArray) (c:UInt8) (w:World) :
  Calls prog 195 #[.string s,.string ⟨#[c]⟩] w fun e w'=>e = .returned (.int .i64 (Lib.indexByte s.data.toList c))/\w'=w:=by
 go_enter func195,Tryz.ntmps195
 go_wp2_with (go_at_call 228; refine(Tryz.stringslite_Index_one _ _ _).mono ?_; rintro e w' ⟨rfl,rfl⟩)
 go_ret
 exact qH
set_option maxHeartbeats 1000000 in
theorem Tryz.strings_Contains_one (s:ByteArray) (c:UInt8) (w:World) :
  Calls prog 142 #[.string s,.string ⟨#[c]⟩] w fun e w'=>e = .returned (.bool (decide (0<=Lib.indexByte s.data.toList c)))/\w'=w:=by
 go_enter func142,Tryz.ntmps142
 go_wp2_with (go_at_call 195; refine(Tryz.strings_Index_one _ _ _).mono ?_; rintro e w' ⟨rfl,rfl⟩)
 go_ret
 exact qH
end Go.Proofs
namespace Go.Proofs.YtbfnjnljboncgaaGreat
open Go.Abs
theorem zLH {f:Nat}{s:List AV->Ret->Prop} (hcall:∀ args w,(callFunc f args).run prog w = .ok (.enter f args) w)
  (h:∀ (G:Nat->Prop) (w:World) (xs:List AV) (vs:List Value) (r:Ret),AVals G w (fun _=>.tuple #[]) xs vs->s xs r->Calls prog f vs.toArray w fun e w'=>w'=w/\∃ v,e = .returned v/\RetAt G w w r v):PSound prog f (zAu s) :=
 ⟨hcall,fun G w xs vs r hl _ _ hv hs=>(h G w xs vs r hv hs).mono fun e w' ⟨h1,v,h2,h3⟩=>(by subst h1; exact⟨v,G,h2,Ext.refl hl,h3⟩),fun R hR=>(by cases hR),fun R hR=>(by cases hR)⟩
def zJX (xs:List AV) (r:Ret):Prop:=∃ (a0 a1:List UInt8) (y0:Int),zDi a0 a1=some y0/\xs=[nS a0,nS a1]/\r = .val (nI y0)
def zGo:zAr:=zAu fun xs r=>zJX xs r
theorem zF0:PSound prog 228 zGo:=zLH call228 fun G w xs vs r hv ⟨a,p,y,h,hx,hr⟩=>by
 subst hx; subst hr
 obtain⟨hp,h⟩:=zAx h;have hy:=Option.some.inj h;subst hy;obtain⟨c,rfl⟩:∃ c,p=[c]:=by
  match p,hp with
  | [c],_=>exact⟨c,rfl⟩
 simp only[AVals,AVal,Rep]at hv;obtain⟨_,_,rfl,rfl,_,_,rfl,rfl,rfl⟩:=hv;exact(Tryz.stringslite_Index_one ⟨a.toArray⟩ c w).mono fun e w' ⟨h1,h2⟩=>⟨h2,_,h1,rfl,by simp only[AVal,Rep]; rfl⟩
def zKr (xs:List AV) (r:Ret):Prop:=∃ (a0 a1:List UInt8) (y0:Bool),zE1 a0 a1=some y0/\xs=[nS a0,nS a1]/\r = .val (nB y0)
def zGW:zAr:=zAu fun xs r=>zKr xs r
theorem zKe:PSound prog 142 zGW:=zLH call142 fun G w xs vs r hv ⟨a,p,y,h,hx,hr⟩=>by
 subst hx; subst hr
 obtain⟨hp,h⟩:=zAx h;have hy:=Option.some.inj h;subst hy;obtain⟨c,rfl⟩:∃ c,p=[c]:=by
  match p,hp with
  | [c],_=>exact⟨c,rfl⟩
 simp only[AVals,AVal,Rep]at hv;obtain⟨_,_,rfl,rfl,_,_,rfl,rfl,rfl⟩:=hv;exact(Tryz.strings_Contains_one ⟨a.toArray⟩ c w).mono fun e w' ⟨h1,h2⟩=>⟨h2,_,h1,rfl,by simp only[AVal,Rep]; rfl⟩
def zJW (xs:List AV) (r:Ret):Prop:=∃ (a0:List UInt8) (a1:Int) (y0:Int),zDh a0 a1=some y0/\xs=[nS a0,.s (.int .u8 a1)]/\r = .val (nI y0)
def zGn:zAr:=zAu fun xs r=>zJW xs r
theorem zJu:PSound prog 146 zGn:=zLH call146 fun G w xs vs r hv ⟨a,c,y,h,hx,hr⟩=>by
 subst hx; subst hr
 have hy:=Option.some.inj h;subst hy;simp only[AVals,AVal,Rep]at hv;obtain⟨_,_,rfl,rfl,_,_,rfl,rfl,rfl⟩:=hv;exact(Tryz.strings_IndexByte ⟨a.toArray⟩ c w).mono fun e w' ⟨h1,h2⟩=>⟨h2,_,h1,rfl,by simp only[AVal,Rep]⟩
end Go.Proofs.YtbfnjnljboncgaaGreat
