/-
  Joined out of: AbsM, AbsN, AbsO, AbsP, AbsQ, AbsS, AbsT, AbsU, AbsV, AbsW, AbsX, AbsY, LwA, LwC, RfA, RfB, RfE, RwA, MTyp, WuA, XeA, XeB, XeC, XeS, XeD, XeE, XuA, XeZ, MLib.
-/
import Derived.Test.YtbfnjnljboncgaaGreatRows
import Derived.WalkKit
import Derived.ProofKit
import Derived.OpenShut
import Derived.JoinedCond
import Derived.Carry
import Derived.Deep.Slices
import Derived.RangeFuncNested
import Derived.RangeFuncLeaves
import Derived.RangeFuncRecord
import Derived.Test.YtbfnjnljboncgaaGreatProg
import Derived.KernelRfl
import Derived.Lib.Strings
import Derived.Lib.Slices
import Derived.Lib.Bytealg
import Derived.Lib.ItoaNum
import Derived.Test.YtbfnjnljboncgaaGreatZb
open List
open Go.IntKind (i16 i32 i64 i8 u16 u32 u64 u8)
open Go.Proofs.Tryz
set_option linter.unusedVariables false
set_option linter.defProp false
set_option linter.unusedSimpArgs false
set_option maxHeartbeats 2000000
set_option maxRecDepth 100000
namespace Go.Proofs.YtbfnjnljboncgaaGreat
section
open Go.ChangeShapes Go.WideShapes Go.RowKit Go.Proofs.YtbfnjnljboncgaaGreat
def szOf (T:Nat->Option TI) (t:Nat):Nat:=match T t with | some i=>i.size | none=>0
def zZb (p:Nat->List S->Prop):List Nat->List S->Prop
 | [],ss=>ss=[]
 | t::ts,ss=>∃ a b,ss=a++b/\p t a/\zZb p ts b
def Typed (T:Nat->Option TI):Nat->Nat->List S->Prop
 | 0,_,_=>False
 | n+1,t,ss=>match T t with
  | none=>False
  | some i=>match i.k with
   | .bool=>∃ b,ss=[.bool b]
   | .int k=>∃ x:Int,ss=[.int k x]/\k.min<=x/\x<=k.max
   | .str=>∃ l:List UInt8,ss=[.str l]/\l.length<=maxLen
   | .slice e=>∃ rows:List (List S),ss=[.sl (szOf T e) rows]/\rows.length<=maxLen/\∀ r∈rows,Typed T n e r
   | .ptr e=>ss=[.np]∨∃ row,ss=[.pt row]/\Typed T n e row
   | .struct fs=>zZb (Typed T n) (fs.map (·.2)) ss
   | .arr len e=>zZb (Typed T n) (List.replicate len e) ss
   | _=>False
mutual
def S.bulk:S->Nat
 | .str l=>l.length+1
 | .sl _ rows=>zEW rows+1
 | .pt row=>zEd row+1
 | _=>1
def zEd:List S->Nat
 | []=>0
 | s::r=>s.bulk+zEd r
def zEW:List (List S)->Nat
 | []=>0
 | r::rs=>zEd r+zEW rs
end
def zL7:∀ (a b:List S),zEd (a++b)=zEd a+zEd b
 | [],b=>by simp[zEd]
 | s::a,b=>by simp only[bj,zEd,zL7 a b]; omega
def fits (T:Nat->Option TI):List (Nat×Nat)->Nat->Nat->Bool
 | [],off,n=>Nat.beq off n
 | (o,t)::r,off,n=>Nat.beq o off&&(T t).isSome&&fits T r (off+szOf T t) n
def zDH (T:Nat->Option TI) (i:TI):Bool:=match i.k with
 | .bool | .int _ | .str=>true
 | .slice e=>(T e).isSome&&Nat.ble 1 (szOf T e)
 | .ptr e=>(T e).isSome&&Nat.ble 1 (szOf T e)
 | .struct fs=>fits T fs 0 i.size
 | .arr n e=>(T e).isSome&&Nat.beq (n * szOf T e) i.size
 | _=>false
section
variable {H:Type} {enc:TypeId×Value->H} {P:Program} {T:Nat->Option TI} {w:World} {spare:Nat->Bool} {held:Bool}
theorem zE0 (hT:TOk P T){t:Nat} (h:(T t).isSome=true):P.cellsOf t=szOf T t:=by
 obtain⟨i,hi⟩:=Option.isSome_iff_exists.1 h;obtain⟨d,info,z,h1,h2,h3,h4,_⟩:=hT t i hi;simp[Program.cellsOf,h3,h4,szOf,hi]
def old (w:World) (b:Nat):Prop:=b<w.heap.size
variable {a:Addr}
def zQC {w:World}{v:Value} (h:w.cell? a=some v):old w a.block/\a.spot=none:=by
 unfold World.cell? at h;unfold old;split at h
 ·rename_i c x y e;refine⟨(aJ.1 e).1,?_⟩;split at h
  ·cases h
  rename_i hs;cases hh:a.spot with
  | none=>rfl
  | some s=>rw[hh]at hs; simp at hs
 cases h
def zMs {b off:Nat}{ss:List S}{cs:List Value} (h:Reps (old w) w ss cs) (hc:∀ i,i<ss.length->w.cell? ⟨b,off+i,none⟩=cs[i]?):RepRow (old w) w b ss off :=
 RepRow.mk fun i s hs=>by
  have hi:i<ss.length:=(aa.1 hs).1;have hi':i<cs.length :=(by rw[h.1]; exact hi);have hv:cs[i]? = some cs[i]:=ac hi';have hcell:=(hc i hi).trans hv;exact⟨(zQC hcell).1,_,hcell,h.2 i s _ hs hv⟩
def zT8  (hs:a.spot=none) (k:Nat):a.add k=⟨a.block,a.off+k,none⟩:=by
 unfold Addr.add;obtain⟨b,o,s⟩:=a;simp only at hs; subst hs;split
 ·rename_i h; subst h; rfl
 rfl
def zPs {R:Nat->List S}{D:Nat->DataW H}:∀ {l:List Nat},(∀ i∈l,zEd (R i)<=Rows.uptoBulk (D i))->zEW (l.map R)<=Rows.uptoBulkAll (l.map D)
 | [],_=>by simp[zEW]
 | i::l,h=>by
  simp only[ba,zEW,Rows.uptoBulkAll];have h1:=h i ak;have h2:=zPs (fun j hj=>h j (aG _ hj));omega
theorem zRq {n:Nat}{p:Nat->List S->Prop} (hT:TOk P T)
  (ih:∀ t cs x,(T t).isSome=true->DataW.trod enc P w 0 spare held n t cs=some x->∃ ss,Reps (old w) w ss cs/\p t ss/\zEd ss<=Rows.uptoBulk x.1) :
  ∀ (fs:List (Nat×Nat)) (off tot:Nat) (cs:List Value) (xs:List (DataW H×List MemPlace)),fits T fs off tot=true->cs.length=tot->xs.length=fs.length ->
   (∀ (i:Nat) f,fs[i]? = some f->DataW.trod enc P w 0 spare held n f.2 ((cs.drop f.1).take (P.cellsOf f.2))=xs[i]?) ->
   ∃ ss,Reps (old w) w ss (cs.drop off)/\zZb p (fs.map (·.2)) ss/\zEd ss<=Rows.uptoBulkAll (xs.map (·.1))
 | [],off,tot,cs,xs,hf,hl,_,_=>by
  obtain rfl:=ab hf;refine⟨[],⟨by simp[hl],fun i s v h=>by simp at h⟩,rfl,by simp[zEd]⟩
 | (o,t)::fs,off,tot,cs,xs,hf,hl,hxl,hx=>by
  simp only[fits,af]at hf;obtain⟨⟨ho,ht⟩,hr⟩:=hf;obtain rfl:=ab ho;match xs,hxl with
  | y::ys,hxl =>
   have h0:=hx 0 (o,t) rfl;simp only[List.getElem?_cons_zero]at h0;obtain⟨s1,r1,p1,b1⟩:=ih t _ y ht h0;obtain⟨s2,r2,p2,b2⟩:=zRq hT ih fs (o+szOf T t) tot cs ys hr hl (by simpa using hxl) (fun i f hi=>by simpa using hx (i+1) f (by simpa using hi));rw[zE0 hT ht]at r1;have e:cs.drop o=(cs.drop o).take (szOf T t)++cs.drop (o+szOf T t):=by
    rw[← drop_drop,take_append_drop]
   refine⟨s1++s2,?_,⟨s1,s2,rfl,p1,p2⟩,?_⟩
   ·rw[e]; exact r1.append r2
   simp only[ba,Rows.uptoBulkAll,zL7]; omega
theorem zVp {e:Nat} (he:(T e).isSome=true):∀ (n off:Nat),fits T ((List.range n).map (fun i=>(off+i * szOf T e,e))) off (off+n * szOf T e)=true
 | 0,off=>by simp[fits]
 | n+1,off=>by
  rw[range_succ_eq_map];simp only[ba,map_map,fits,Nat.zero_mul,bz,Nat.beq_eq,he,Bool.true_and,Bool.and_true];have:=zVp he n (off+szOf T e);have e1:(List.range n).map (fun i=>(off+szOf T e+i * szOf T e,e))=(List.range n).map ((fun i=>(off+i * szOf T e,e))∘Nat.succ):=by
   refine map_congr_left fun i _=>?_
   simp only[Function.comp,Nat.succ_eq_add_one,bq];congr 1; omega
  rw[← e1,show off+(n+1) * szOf T e=off+szOf T e+n * szOf T e by rw[bq]; omega,this];simp
theorem conv (hT:TOk P T) (hC:∀ t i,T t=some i->zDH T i=true):∀ (n:Nat) (t:Nat) (cs:List Value) (x:DataW H×List MemPlace),(T t).isSome=true ->
  DataW.trod enc P w 0 spare held n t cs=some x->∃ ss,Reps (old w) w ss cs/\Typed T n t ss/\zEd ss<=Rows.uptoBulk x.1
 | 0,t,cs,x,_,h=>by simp[DataW.trod]at h
 | n+1,t,cs,x,ht,h=>by
  obtain⟨i,hi⟩:=Option.isSome_iff_exists.1 ht;have hcl:=hC t i hi;obtain⟨d,info,z,h1,h2,h3,h4,h5,h6,h7,h8,h9,h10⟩:=hT t i hi;have one:∀ {s:S} {v:Value},Rep (old w) w s v->Reps (old w) w [s] [v]:=fun {s v} hr=>⟨rfl,fun j s' v' hs hv=>by
   cases j with
   | zero=>simp at hs hv; subst hs; subst hv; exact hr
   | succ j=>simp at hs⟩
  cases d <;> simp only[tkOf]at h2
  case bool =>
   obtain⟨b,rfl,rfl⟩:=DataW.trod_bool h1 h;exact⟨[.bool b],one (by simp[Rep]),by simp[Typed,hi,← h2],by simp[zEd,S.bulk,Rows.uptoBulk]⟩
  case int k =>
   obtain⟨m,rfl,rfl,hw⟩:=DataW.trod_int h1 h;have hb:k.min<=m/\m<=k.max :=(by simpa [Lit.wf] using hw);exact⟨[.int k m],one (by simp[Rep]),by simp[Typed,hi,← h2,hb],by simp[zEd,S.bulk,Rows.uptoBulk]⟩
  case string =>
   obtain⟨s,rfl,rfl,hl⟩:=DataW.trod_string h1 h;refine⟨[.str s.data.toList],one (by simp[Rep]),?_,by simp[zEd,S.bulk,Rows.uptoBulk]⟩;simp only[Typed,hi,← h2];exact⟨_,rfl,by simpa using hl⟩
  case pointer e =>
   simp only[zDH,← h2,af]at hcl;rcases DataW.trod_pointer h1 h with ⟨rfl,rfl⟩ | ⟨a,cs',y,m,hm,rfl,rfl,hcs,hy⟩
   ·exact⟨[.np],one (by simp[Rep]),by simp[Typed,hi,← h2],by simp[zEd,S.bulk,Rows.uptoBulk]⟩
   cases hm;obtain⟨ss,r1,r2,r3⟩:=conv hT hC n e cs' y hcl.1 hy;obtain⟨_,g2,g3⟩:=World.cells?_some hcs;rw[zE0 hT hcl.1]at g2 g3;have hpos:=aj hcl.2;have hspot:a.spot=none:=by
    have:=g3 0 (by omega);rw[ac (by omega)]at this;have:=(zQC this).2;simpa [Addr.add] using this
   refine⟨[.pt ss],one ?_,?_,by simp only[zEd,S.bulk,Rows.uptoBulk]; omega⟩
   ·simp only[Rep];refine⟨a.block,a.off,?_,zMs r1 fun j hj=>?_⟩
    ·obtain⟨b,o,s⟩:=a; simp only at hspot; subst hspot; rfl
    rw[← zT8 hspot]; exact g3 j (by rw[← g2,r1.1]; exact hj)
   simp only[Typed,hi,← h2];exact .inr ⟨ss,rfl,r2⟩
  case slice e =>
   simp only[zDH,← h2,af]at hcl;have hpos:=aj hcl.2;rcases DataW.trod_slice h1 h with ⟨rfl,rfl⟩ | ⟨a,len,cap,elems,rest,m,hm,rfl,rfl,hb,hl,hcm,hlen,hel,_,_⟩
   ·refine⟨[.sl (szOf T e) []],one (by simp only[Rep]; exact .inl ⟨trivial,none,0,rfl⟩),?_,by simp[zEd,S.bulk,Rows.uptoBulk,zEW]⟩;simp only[Typed,hi,← h2];exact⟨[],rfl,by simp,fun r hr=>by cases hr⟩
   cases hm;subst hlen;have key:∀ j,j<elems.length->∃ ss:List S,ss.length=szOf T e/\a.spot=none/\RepRow (old w) w a.block ss (a.off+j * szOf T e)/\Typed T n e ss/\zEd ss<=Rows.uptoBulk ((elems.map (·.1)).getD j .nil):=fun j hj=>by
    have hspot:a.spot=none:=by
     have h0:=hel 0 (by omega);rw[ac (by omega)]at h0;obtain⟨cs',g1,_⟩:=Option.bind_eq_some_iff.1 h0;obtain⟨_,g2,g3⟩:=World.cells?_some g1;rw[zE0 hT hcl.1]at g2 g3;have:=g3 0 (by omega);rw[ac (by omega)]at this;have:=(zQC this).2;simpa [Addr.add] using this
    have h0:=hel j hj;rw[ac hj]at h0;obtain⟨cs',g1,gy⟩:=Option.bind_eq_some_iff.1 h0;obtain⟨_,g2,g3⟩:=World.cells?_some g1;rw[zE0 hT hcl.1]at g2 g3;obtain⟨ss,r1,r2,r3⟩:=conv hT hC n e cs' elems[j] hcl.1 gy;refine⟨ss,by rw[← r1.1,g2],hspot,zMs r1 fun q hq=>?_,r2,by simpa [getD,ac hj] using r3⟩;have:=g3 q (by rw[← g2,r1.1]; exact hq);rw[zT8 hspot,zT8 (a:=⟨a.block,_,none⟩) rfl]at this;exact this
   obtain⟨R,hR⟩:=Go.Deep.choose_lt key;refine⟨[.sl (szOf T e) ((List.range elems.length).map R)],one ?_,?_,?_⟩
   ·simp only[Rep];by_cases h0:elems.length=0
    ·exact .inl ⟨by simp[h0],some a,cap,by rw[h0]⟩
    have hspot:=(hR 0 (by omega)).2.1;refine .inr ⟨a.block,a.off,cap,?_,by simpa using hl,RepRows.mk fun j r hr=>?_⟩
    ·obtain⟨b,o,s⟩:=a; simp only at hspot; subst hspot; simp
    simp only[ao,aH]at hr;obtain⟨j',hj',rfl⟩:=hr;obtain⟨hlt,rfl⟩:=aa.1 hj';simp only[getElem_range,length_range]at hlt ⊢;exact⟨(hR j hlt).1,(hR j hlt).2.2.1⟩
   ·simp only[Typed,hi,← h2];refine⟨_,rfl,by simp; omega,fun r hr=>?_⟩;obtain⟨j,hj,rfl⟩:=be.1 hr;exact(hR j (by simpa using hj)).2.2.2.1
   have hb:=zPs (R:=R) (D:=fun j=>(elems.map (·.1)).getD j .nil) (l:=List.range elems.length) (fun j hj=>(hR j (by simpa using hj)).2.2.2.2);have e1:(List.range elems.length).map (fun j=>(elems.map (·.1)).getD j DataW.nil)=elems.map (·.1):=by
    apply ext_getElem (by simp);intro j g1 g2;simp only[az]at g2;simp[getD,ac g2]
   rw[e1]at hb;simp only[zEd,S.bulk,Rows.uptoBulk]; omega
  case struct fs =>
   simp only[zDH,← h2]at hcl;obtain⟨xs,m,hm,rfl,hlen,hxl,hx⟩:=DataW.trod_struct h1 h;cases hm;rw[zE0 hT ht]at hlen;obtain⟨ss,r1,r2,r3⟩:=zRq (p:=Typed T n) hT (conv hT hC n) (fs.toList.map fun f=>(f.offset,f.type)) 0 i.size cs xs hcl (by rw[hlen,szOf,hi]) (by simpa using hxl) (fun j f hf=>by
    simp only[ao,aH]at hf;obtain⟨g,hg,rfl⟩:=hf;exact hx j g (by simpa using hg))
   refine⟨ss,by simpa using r1,?_,by simp only[Rows.uptoBulk]; omega⟩;simp only[Typed,hi,← h2];exact r2
  case array len e =>
   simp only[zDH,← h2,af]at hcl;obtain⟨he,hsz⟩:=hcl;have hsz:=ab hsz;have h':cs.length=P.cellsOf t/\∃ xs,(List.range len).mapM (fun i=>DataW.trod enc P w 0 spare held n e ((cs.drop (i * P.cellsOf e)).take (P.cellsOf e)))=some xs/\x=(.agg (xs.map (·.1)),xs.flatMap (·.2)):=by
    unfold DataW.trod at h;rw[h1]at h;split at h <;> simp_all
    obtain⟨hl,xs,hp,hd⟩:=h;exact⟨xs,hp,hd.symm⟩
   obtain⟨hlen,xs,hp,rfl⟩:=h';rw[zE0 hT ht]at hlen;have hxl:=mapM_some_length hp;obtain⟨ss,r1,r2,r3⟩:=zRq (p:=Typed T n) hT (conv hT hC n) ((List.range len).map fun i=>(0+i * szOf T e,e)) 0 i.size cs xs (by
     have:=zVp he len 0
     rwa [a8 (len * szOf T e),hsz]at this) (by rw[hlen,szOf,hi]) (by simpa using hxl) (fun j f hf=>by
    simp only[ao,aH]at hf;obtain⟨g,hg,rfl⟩:=hf;have:=mapM_some_get hp j g hg;rw[zE0 hT he]at this ⊢
    simpa using this)
   refine⟨ss,by simpa using r1,?_,by simp only[Rows.uptoBulk]; omega⟩;simp only[Typed,hi,← h2];have e1:((List.range len).map fun i=>(0+i * szOf T e,e)).map (·.2)=List.replicate len e:=by
    rw[map_map];apply ext_getElem (by simp);intro j g1 g2;simp
   rwa [e1]at r2
  all_goals simp[zDH,← h2]at hcl
end
def zZT (T:Nat->Option TI) (t:Nat) (ss:List S):AV:=match T t with
 | some i=>match i.k.agg with
  | true=>.agg (ss.map .s)
  | false=>.s (ss.headD .np)
 | none=>.junk
def zNs (T:Nat->Option TI):List Nat->List (List S)->List AV
 | t::ts,ss::sss=>zZT T t ss::zNs T ts sss
 | _,_=>[]
def zZG (T:Nat->Option TI):List Nat->List (List S)->Prop
 | [],sss=>sss=[]
 | t::ts,sss=>∃ ss r,sss=ss::r/\(∃ n,Typed T n t ss)/\zZG T ts r
theorem zNt {T:Nat->Option TI}:∀ {ts:List Nat}{sss:List (List S)},(∀ t∈ts,(T t).isSome=true)->AV.persAll (zNs T ts sss)=true
 | [],_,_=>by cases ‹List (List S)› <;> rfl
 | _::_,[],_=>rfl
 | t::ts,ss::sss,h=>by
  simp only[zNs,AV.persAll,af];refine⟨?_,zNt fun t' h'=>h t' (aG _ h')⟩;obtain⟨i,hi⟩:=Option.isSome_iff_exists.1 (h t ak);unfold zZT;rw[hi];simp only;split
  ·simp only[AV.pers];clear hi;induction ss with
   | nil=>rfl
   | cons s r ih=>simp[AV.persAll,AV.pers,ih]
  ·rfl
section
variable {H:Type} {enc:TypeId×Value->H} {P:Program} {T:Nat->Option TI} {w:World} {spare:Nat->Bool} {held:Bool}
variable {v:Value}{d:TypeDesc}{base t:Nat}{r:Reach}
def zWS  (h:P.underlying t=some d) (hk:(tkOf d).agg=false) (hok:Value.okWide P w r base t v):v.oneCell'=true:=by
 cases d <;> simp only[tkOf,TK.agg,reduceCtorEq,Bool.true_eq_false]at hk <;> simp only[Value.okWide,h]at hok <;> cases v <;> first
  | rfl
  | (exfalso; simp only[Cell.okWide,Cell.ok,h]at hok)
def zWR  (h:P.underlying t=some d) (hk:(tkOf d).agg=true) (hok:Value.okWide P w r base t v):∃ cs,v = .agg cs:=by
 cases d <;> simp only[tkOf,TK.agg,reduceCtorEq,bL]at hk <;> simp only[Value.okWide,h]at hok <;> exact⟨_,hok.choose_spec.1⟩
def zPq {G:Nat->Prop}{O:Nat->Value}:∀ {ss:List S}{vs:List Value},Reps G w ss vs->AVals G w O (ss.map .s) vs
 | [],vs,h=>by simp only[map_nil,AVals]; exact List.length_eq_zero_iff.1 h.1
 | s::ss,[],h=>by simp[Reps]at h
 | s::ss,v::vs,h=>by
  simp only[ba,AVals];exact⟨v,vs,rfl,by simp only[AVal]; exact h.2 0 s v rfl rfl,zPq ⟨by simpa using h.1,fun i s v h1 h2=>h.2 (i+1) s v (by simpa using h1) (by simpa using h2)⟩⟩
theorem zZ2 (hT:TOk P T) (hC:∀ t i,T t=some i->zDH T i=true){O:Nat->Value}{d:DataW H}{p:List MemPlace} (ht:(T t).isSome=true)
  (hok:Value.okWide P w r base t v) (h:DataW.Trod enc P w 0 spare held t v d p):∃ ss,(∃ n,Typed T n t ss)/\AVal (old w) w O (zZT T t ss) v/\zEd ss<=Rows.uptoBulk d:=by
 obtain⟨n,hn⟩:=h;obtain⟨ss,r1,r2,r3⟩:=conv hT hC n t _ _ ht hn;obtain⟨i,hi⟩:=Option.isSome_iff_exists.1 ht;obtain⟨d',info,z,h1,h2,_⟩:=hT t i hi;refine⟨ss,⟨n,r2⟩,?_,r3⟩;unfold zZT;rw[hi];simp only;cases hag:i.k.agg with
 | true =>
  obtain⟨cs,rfl⟩:=zWR h1 (by rw[h2]; exact hag) hok;simp only[AVal];exact⟨cs.toList,by simp,zPq r1⟩
 | false=>
 have hone:=zWS h1 (by rw[h2]; exact hag) hok;rw[cells_one hone]at r1
 match ss,r1 with
 | [s],r1=>simp only[AVal,headD_cons]; exact r1.2 0 s v rfl rfl
theorem zSw (hT:TOk P T) (hC:∀ t i,T t=some i->zDH T i=true){O:Nat->Value}{r:Reach}{base:Nat}:∀ {ts:List Nat}{vs:List Value}{ds:List (DataW H)}{ps:List MemPlace},
  (∀ t∈ts,(T t).isSome=true)->(∀ (j:Nat) t v,ts[j]? = some t->vs[j]? = some v->Value.okWide P w r base t v)->DataW.TrodAll enc P w 0 spare held ts vs ds ps ->
  ∃ sss,zZG T ts sss/\AVals (old w) w O (zNs T ts sss) vs/\zEW sss<=Rows.uptoBulkAll ds
 | [],vs,ds,ps,_,_,h=>by
  obtain⟨rfl,rfl,rfl⟩:=trodAll_nil h;exact⟨[],rfl,by simp only[zNs,AVals],by simp[zEW]⟩
 | t::ts,vs,ds,ps,ht,hok,h=>by
  obtain⟨v,vs',d,ds',p,q,rfl,rfl,rfl,h1,h2⟩:=trodAll_cons h;obtain⟨ss,a1,a2,a3⟩:=zZ2 hT hC (O:=O) (ht t ak) (hok 0 t v rfl rfl) h1;obtain⟨sss,b1,b2,b3⟩:=zSw hT hC (O:=O) (fun t' h'=>ht t' (aG _ h')) (fun j t' v' e1 e2=>hok (j+1) t' v' (by simpa using e1) (by simpa using e2)) h2;refine⟨ss::sss,⟨ss,sss,rfl,a1,b1⟩,?_,?_⟩
  ·simp only[zNs,AVals]; exact⟨v,vs',rfl,a2,b2⟩
  ·simp only[zEW,Rows.uptoBulkAll]; omega
def zLa (hl:laidOutB P=true){W W':World} (hb:Below W.heap.size W W'):∀ {ts:List Nat}{vs:List Value}{ds:List (DataW H)}{ps:List MemPlace},(∀ t∈ts,P.readableRec t=true/\t<P.types.size) ->
  DataW.TrodAll enc P W 0 (fun _=>true) true ts vs ds ps->(∀ p∈ps,p.block<W.heap.size)->DataW.TrodAll enc P W' 0 (fun b=>decide (b<W.heap.size)) true ts vs ds ps
 | [],vs,ds,ps,_,h,_=>by
  obtain⟨rfl,rfl,rfl⟩:=trodAll_nil h;exact trodAll_mk0
 | t::ts,vs,ds,ps,ht,h,hlt=>by
  obtain⟨v,vs',d,ds',p,q,rfl,rfl,rfl,h1,h2⟩:=trodAll_cons h;exact⟨p,q,Below.trod hl (ht t ak).1 (ht t ak).2 h1 hb (fun x hx=>hlt x (mem_append_left _ hx)),
   zLa hl hb (fun t' h'=>ht t' (aG _ h')) h2 (fun x hx=>hlt x (mem_append_right _ hx)),rfl⟩
def trodAll_length {base:Nat}:∀ {ts:List Nat}{vs:List Value}{ds:List (DataW H)}{ps:List MemPlace},DataW.TrodAll enc P w base spare held ts vs ds ps->ds.length=ts.length
 | [],vs,ds,ps,h=>by
  obtain⟨rfl,rfl,rfl⟩:=trodAll_nil h;rfl
 | t::ts,vs,ds,ps,h=>by
  obtain⟨v,vs',d,ds',p,q,rfl,rfl,rfl,h1,h2⟩:=trodAll_cons h;simp[trodAll_length h2]
theorem zSU (hT:TOk P T) (hC:∀ t i,T t=some i->zDH T i=true) (hl:laidOutB P=true){f tb:Nat}{fn:Func}{s:ChangeSpec}{ps:zAq} (hs:PSound P f ps) (hvars:s.vars=[])
  (hpar:∀ t∈fn.params.toList,(T t).isSome=true/\P.readableRec t=true/\t<P.types.size) (hres:fn.resultTypes = #[tb]) (htb:P.underlying tb=some .bool)
  (hfn:∀ (ds:List (DataW H)),ds.length=fn.params.size->s.fn H ds={ results:=[.lit (.bool true)],args:=ds })
  (zSO:∀ sss,zZG T fn.params.toList sss->zEW sss<=1048576->ps.spec (zNs T fn.params.toList sss) (.val (.s (.bool true))))
  {F:Stop.Interp} (W:World) (base:Nat) (args:Array Value) (ds gs:List (DataW H)) (before:List MemPlace)
  (hval:∀ (j:Nat) t v,fn.params[j]? = some t->args[j]? = some v->Value.okWide P W .any base t v)
  (hW:DataW.Whole enc P fn.params.toList s.vars false W args.toList ds gs before) (hk:Rows.uptoSmall H (ds++gs)=true) (hgl:GlobOk (old W) W:=by exact⟨fun g row h=>(by cases h),fun g cs h=>(by cases h)⟩) :
  Calls P f args W fun e W'=>∃ v,e = .returned v/\s.post enc P fn false true false false W args v W':=by
 have hW':=hW;obtain⟨p,q,hA,hV,rfl,hfz,hnd⟩:=hW;rw[hvars]at hV;obtain⟨rfl,rfl⟩:=trodVars_none hV;have hb:Rows.uptoBulkAll ds<=1048576:=by
  have:=aY hk;exact qA
 obtain⟨sss,c1,c2,c3⟩:=zSw hT hC (O:=fun _=>.tuple #[]) (fun t ht=>(hpar t ht).1) (fun j t v h1 h2=>hval j t v (by simpa using h1) (by simpa using h2)) hA;have hcall:=hs.2.1 (old W) W _ _ _ (fun _ h=>h) hgl (zNt fun t ht=>(hpar t ht).1) c2 (zSO sss c1 (bc c3 hb));refine hcall.mono fun e W' ⟨v,G',he,hext,hret⟩=>⟨v,he,?_⟩
 obtain⟨_,hret⟩:=hret;simp only[AVal,Rep]at hret;subst hret;have hbelow:Below W.heap.size W W':=⟨hext.os,hext.tape,hext.output,hext.size,fun k hk=>hext.old k hk⟩;have hlen:ds.length=fn.params.size :=(by simpa using trodAll_length hA);have hlt:∀ x∈p,x.block<W.heap.size:=fun x hx=>by simpa using hW'.lt x (by simpa using hx)
 refine⟨ds,[],p++[],[],p,[],hW',?_,?_,?_,hbelow.frame _,fun h=>by cases h⟩
 ·rw[bs,hfn ds hlen,hres];exact trodAll_cons_mk (shut_bool htb true) trodAll_mk0
 ·rw[bs,hfn ds hlen];exact zLa hl hbelow (fun t ht=>(hpar t ht).2) hA hlt
 rw[bs,hfn ds hlen,hvars];rfl
end
def look? {α:Type} (k:Nat):List (Nat×α)->Option α
 | []=>none
 | (a,b)::r=>match Nat.beq k a with | true=>some b | false=>look? k r
def zAp {α:Type}{Q:Nat->α->Prop}:∀ {l:List (Nat×α)},(∀ p∈l,Q p.1 p.2)->∀ t i,look? t l=some i->Q t i
 | [],_,t,i,h=>by simp[look?]at h
 | (a,b)::r,hl,t,i,h=>by
  simp only[look?]at h;split at h
  ·rename_i e; cases h; obtain rfl:=ab e; exact hl _ ak
  ·exact zAp (fun p hp=>hl p (aG _ hp)) t i h
def okT (P:Program) (t:Nat) (i:TI):Prop:=∃ d info z,P.underlying t=some d/\tkOf d=i.k/\P.info? t=some info/\info.size=i.size/\info.bytes=i.bytes /\
  info.zero=some z/\z=(if i.k.agg then .agg (i.zero.map S.zval).toArray else (i.zero.headD .np).zval)/\i.zero.length=i.size/\(i.k.agg=false->i.size=1)/\i.zero.all S.zok=true
variable {tab:List (Nat×TI)}
theorem yBR {P:Program} (h:∀ p∈tab,okT P p.1 p.2):TOk P (fun t=>look? t tab):=zAp (Q:=okT P) h
theorem zXQ  (h:tab.all (fun p=>zDH (fun t=>look? t tab) p.2)=true):∀ t i,look? t tab=some i->zDH (fun t=>look? t tab) i=true :=
 zAp (Q:=fun _ i=>zDH (fun t=>look? t tab) i=true) fun p hp=>bo.1 h p hp
def wrap64_in {n:Int} (h0 : -9223372036854775808<=n) (h1:n<9223372036854775808):i64.wrap n=n:=by
 simp only[IntKind.wrap,IntKind.bits,IntKind.signed];by_cases hn:0<=n
 ·have e:n % (2 ^ 64:Int)=n:=Int.emod_eq_of_lt hn (by omega);simp only[e];rw[if_neg (by simp; omega)]
 have e:n % (2 ^ 64:Int)=n+2 ^ 64:=by
  rw[← Int.add_emod_right]; exact Int.emod_eq_of_lt (by omega) (by omega)
 simp only[e];rw[if_pos (by simp; omega)];omega
section
variable {T:Nat->Option TI}
variable {i:TI}{ss:List S}{n t:Nat}
theorem zHo {k:IntKind} (ht:T t=some i) (hk:i.k = .int k) (h:Typed T n t ss):∃ x:Int,ss=[.int k x]/\k.min<=x/\x<=k.max:=by
 cases n with
 | zero=>exact h.elim
 | succ n=>simpa only[Typed,ht,hk] using h
theorem zXh  (ht:T t=some i) (hk:i.k = .bool) (h:Typed T n t ss):∃ b,ss=[.bool b]:=by
 cases n with
 | zero=>exact h.elim
 | succ n=>simpa only[Typed,ht,hk] using h
theorem zTJ  (ht:T t=some i) (hk:i.k = .str) (h:Typed T n t ss):∃ l:List UInt8,ss=[.str l]/\l.length<=maxLen:=by
 cases n with
 | zero=>exact h.elim
 | succ n=>simpa only[Typed,ht,hk] using h
theorem zJ3 {e:Nat} (ht:T t=some i) (hk:i.k = .slice e) (h:Typed T n t ss):∃ m rows,n=m+1/\ss=[.sl (szOf T e) rows]/\rows.length<=maxLen/\∀ r∈rows,Typed T m e r:=by
 cases n with
 | zero=>exact h.elim
 | succ n=>simp only[Typed,ht,hk]at h;obtain⟨rows,h1,h2,h3⟩:=h;exact⟨n,rows,rfl,h1,h2,h3⟩
theorem zIO {fs:List (Nat×Nat)} (ht:T t=some i) (hk:i.k = .struct fs) (h:Typed T n t ss):∃ m,n=m+1/\zZb (Typed T m) (fs.map (·.2)) ss:=by
 cases n with
 | zero=>exact h.elim
 | succ n=>simp only[Typed,ht,hk]at h;exact⟨n,rfl,h⟩
def zQw {α O:Type}{f:α->O}{q:α->Prop}:∀ {l:List O},(∀ y∈l,∃ x,y=f x/\q x)->∃ xs:List α,l=xs.map f/\∀ x∈xs,q x
 | [],_=>⟨[],rfl,fun _ h=>by cases h⟩
 | y::l,h=>by
  obtain⟨x,hx,hq⟩:=h y ak;obtain⟨xs,h1,h2⟩:=zQw (fun z hz=>h z (aG _ hz));refine⟨x::xs,by rw[hx,h1]; rfl,fun z hz=>?_⟩;rcases aR.1 hz with rfl | hz
  ·exact hq
  ·exact h2 z hz
def irow (k:IntKind) (x:Int):List S:=[.int k x]
end
def zSn:∀ (l:List S),l.length<=zEd l
 | []=>by simp[zEd]
 | s::l=>by
  have:=zSn l;have h1:1<=s.bulk :=(by cases s <;> simp[S.bulk]);simp only[zEd,ah]; omega
def zSo:∀ {rows:List (List S)},(∀ r∈rows,1<=r.length)->rows.length<=zEW rows
 | [],_=>by simp[zEW]
 | r::rows,h=>by
  have h1:=h r ak;have h2:=zSn r;have h3:=zSo (rows:=rows) (fun r' hr=>h r' (aG _ hr));simp only[zEW,ah]; omega
variable {P:Program}
def zDf {f:Nat}{s:Nat->List AV->Ret->Prop} (h:∀ n,PSound P f (zAr (s n))):PSound P f (zAr fun xs r=>∃ n,s n xs r) :=
 ⟨(h 0).1,fun G w xs vs r hl hgl hp hv ⟨n,hn⟩=>(h n).2.1 G w xs vs r hl hgl hp hv hn,fun R hR=>(by cases hR),fun R hR=>(by cases hR)⟩
def zCz {f:Nat}{s:List AV->Ret->Prop} (hcall:∀ args w,(callFunc f args).run P w = .ok (.enter f args) w) (h:∀ xs r,¬ s xs r):PSound P f (zAr s) :=
 ⟨hcall,fun G w xs vs r _ _ _ _ hs=>absurd hs (h xs r),fun R hR=>(by cases hR),fun R hR=>(by cases hR)⟩
variable {α:Type}
def req  (φ:Prop) [Decidable φ] (K:Option α):Option α:=if φ then K else none
variable {φ:Prop}
def zAs  [Decidable φ] {K:Option α}{r:α} (h:req φ K=some r):φ/\K=some r:=by
 unfold req at h;split at h
 ·exact⟨by assumption,h⟩
 cases h
def zA5  [Decidable φ] {K:Option α} (h:φ):req φ K=K:=if_pos h
variable {O:Type}
def zAc {o:Option α}{f:α->Option O}{r:O} (h:o.bind f=some r):∃ x,o=some x/\f x=some r:=by
 cases o with
 | none=>cases h
 | some x=>exact⟨x,rfl,h⟩
variable {b:Bool}
def zFl {A B:Option α}{r:α} (hb:b=true) (h:(bif b then A else B)=some r):A=some r:=by subst hb; exact h
def zFk {A B:Option α}{r:α} (hb:b=false) (h:(bif b then A else B)=some r):B=some r:=by subst hb; exact h
def obs  (a:α) (f:α->Option O):(some a).bind f=f a :=
 rfl
def osi {a b:α} (h:some a=some b):a=b :=
 Option.some.inj h
def nbS {e:Bool}{P:Bool->Prop}{A B:Option α}{r:α} (h:(bif e then A else B)=some r) (h1:true=e->A=some r->P true) (h2:false=e->B=some r->P false):∀ b:Bool,b=e->P b:=fun b hb=>by
 cases b;exact h2 hb (zFk hb.symm h);exact h1 hb (zFl hb.symm h)
variable {x:Code}{Q:End->St->Prop}{V:St}{c:Cx}
def zAf {y:Code}{t:Nat}{A B:Option α}{r:α} (hb:V.env t = .s (.bool b)) (h:(bif b then A else B)=some r) (h1:b=true->A=some r->Tri c x V Q) (h2:b=false->B=some r->Tri c y V Q):Tri c (.cond (.tmp t) x y) V Q :=
 zAx hb (fun e=>h1 e (zFl e h)) (fun e=>h2 e (zFk e h))
def pij {a c:α}{b d:O} (h:some (a,b)=some (c,d)):a=c/\b=d :=
 ap (Option.some.inj h)
inductive Fl (R G:Type) where
 | ret (r:R)
 | go (g:G)
def at?  (l:List α) (i:Int):Option α:=if 0<=i then l[i.toNat]? else none
variable {i:Int}
theorem zGU {R:List α->List (List S)}{f:α->List S} (hR:∀ l,R l=l.map f){l:List α}{y:α} (h:at? l i=some y) :
  (0<=i/\i<((R l).length:Int))/\(R l).getD i.toNat []=f y/\i.toNat<(R l).length:=by
 unfold at? at h;split at h
 ·rename_i h0;obtain⟨hl,hy⟩:=aa.1 h;rw[hR,az];exact⟨⟨h0,by omega⟩,by simp[h],hl⟩
 cases h
theorem at1 {f:α->List S}{R:List α->List (List S)}{l:List α}{e:α} (v:List S) (hR:∀ l,R l=l.map f) (he:at? l i=some e){K:List S->Prop} (h:K v) (hv:f e=v:=by exact rfl):(0<=i/\i<((R l).length:Int))/\∀ r,r=(R l).getD i.toNat []->K r :=
 ⟨(zGU hR he).1,fun r hr=>by rw[hr,(zGU hR he).2.1,hv]; exact h⟩
def zAH {l:List α}{i:Nat} (h:i<l.length):at? l (i:Int)=some l[i]:=by
 simp[at?,h]
theorem rlen {R:List α->List (List S)}{f:α->List S} (hR:∀ l,R l=l.map f) (l:List α):(R l).length=l.length:=by rw[hR,az]
def lapE {A B:List (List S)}{m a b:Nat} (hq:a+b<=4294967296) (hA:A.length=a) (hB:B.length=b) (hm:m<=32768:=by decide):(A.length+B.length) * m<=140737488355328/\A.length+B.length<=9223372036854775807:=by
 subst hA hB;exact⟨bc (Nat.mul_le_mul hq hm) (by decide),by omega⟩
theorem rlE {f:α->List S}{R:List α->List (List S)} (hR:∀ l,R l=l.map f) (l:List α){n:Int} (h:n=(((R l).length:Nat):Int)):((l.length:Nat):Int)=n :=
 (h.trans (congrArg (fun m:Nat=>(m:Int)) (rlen hR l))).symm
theorem len1 {f:α->List S}{R:List α->List (List S)} (hR:∀ l,R l=l.map f) (l:List α){K:Int->Prop} (h:K (l.length:Int)):∀ n:Int,n=(((R l).length:Nat):Int)->K n:=fun n hn=>by
 obtain rfl:=rlE hR l hn;exact h
theorem rcut {R:List α->List (List S)}{f:α->List S} (hR:∀ l,R l=l.map f) (l:List α) (a b:Nat):((R l).take b).drop a=R ((l.take b).drop a):=by
 rw[hR,hR,map_drop,map_take]
def at_set {l:List α}{y:α} (h:at? l i=some y) (y':α):at? (l.set i.toNat y') i=some y':=by
 unfold at? at h ⊢;split at h
 ·rename_i h0;rw[if_pos h0];rw[List.getElem?_set_self (aa.1 h).1]
 cases h
theorem rset {R:List α->List (List S)}{f:α->List S} (hR:∀ l,R l=l.map f){l:List α}{y:α} (h:at? l i=some y) (y':α) (o n:Nat) (ss:List S) (hs:(f y).take o++ss++(f y).drop n=f y') :
  (R l).set i.toNat (((R l).getD i.toNat []).take o++ss++((R l).getD i.toNat []).drop n)=R (l.set i.toNat y'):=by
 rw[(zGU hR h).2.1,hs,hR,hR,map_set]
def b8of (n:Int):UInt8:=UInt8.ofNat n.toNat
def zGH {n:Int} (h0:0<=n) (h1:n<=255):[S.int .u8 n]=brow (b8of n):=by
 have:(b8of n).toNat=n.toNat :=(by simp[b8of,UInt8.toNat_ofNat']; omega);simp only[brow,this,Int.toNat_of_nonneg h0]
def zOE (n:Int):0<=u8.wrap n/\u8.wrap n<=255:=by
 have:u8.wrap n=n % 256:=by
  simp only[IntKind.wrap,IntKind.bits,IntKind.signed];simp
 rw[this]; omega
def zGe (n:Int):[S.int .u8 (u8.wrap n)]=brow (b8of (u8.wrap n)):=zGH (zOE n).1 (zOE n).2
def zAl  (V1:St) (h1:Tri c x V (fun e V'=>match e with | .normal=>Le c V' V1 | e=>Q e V')) (h2:∀ V',Le c V' V1->Q .normal V'):Tri c x V Q :=
 zRv h1 fun e V' hq=>by
  cases e with
  | normal=>exact h2 V' hq
  | exit id=>exact hq
  | ret=>exact hq
theorem zBN {R Z:Type}{fl:Fl R Z} (E:Z->St) (h1:Tri c x V (fun e V'=>match e with | .normal=>∃ z,fl = .go z/\Le c V' (E z) | e=>Q e V'))
  (h2:∀ z V',fl = .go z->Le c V' (E z)->Q .normal V'):Tri c x V Q :=
 zRv h1 fun e V' hq=>by
  cases e with
  | normal=>obtain⟨z,h3,h4⟩:=hq; exact h2 z V' h3 h4
  | exit id=>exact hq
  | ret=>exact hq
def zB2 {l:List UInt8}{y:UInt8} (h:at? l i=some y):(0<=i/\i<(l.length:Int))/\((l.getD i.toNat 0).toNat:Int)=(y.toNat:Int):=by
 unfold at? at h;split at h
 ·rename_i h0;obtain⟨hl,hy⟩:=aa.1 h;exact⟨⟨h0,by omega⟩,by simp[h]⟩
 cases h
variable {R:List AV->List Ob->AV->List (Option Ob)->Prop}{f:Nat}{P:Program}
theorem PSound.withNil  (h:PSound P f (zD8 R)) (k:Option Nat):PSound P f (zD8 R k):=⟨h.1,h.2.1,h.2.2.1,fun R hR=>by cases hR⟩
theorem zUL  (hcall:∀ args w,(callFunc f args).run P w = .ok (.enter f args) w) (h:∀ xs os x os',¬ R xs os x os') (k:Option Nat):PSound P f (zD8 R k) :=
 ⟨hcall,fun G w xs vs r _ _ _ _ hs=>hs.elim,fun R' hR'=>(by
  obtain rfl:R=R' :=(by simpa [zD8] using hR');exact fun G w O xs vs os x os' _ _ _ _ _ hs=>absurd hs (h xs os x os')),fun R hR=>(by cases hR)⟩
theorem zW0 {s:Nat->List AV->List Ob->AV->List (Option Ob)->Prop}{k:Option Nat} (h:∀ n,PSound P f (zD8 (s n) k)) (k':Option Nat):PSound P f (zD8 (fun xs os x os'=>∃ n,s n xs os x os') k') :=
 ⟨(h 0).1,fun G w xs vs r _ _ _ _ hs=>hs.elim,fun R' hR'=>(by
  obtain rfl:(fun xs os x os'=>∃ n,s n xs os x os')=R' :=(by simpa [zD8] using hR');exact fun G w O xs vs os x os' h1 h2 h3 h4 h5 ⟨n,hs⟩=>(h n).2.2.1 (s n) rfl G w O xs vs os x os' h1 h2 h3 h4 h5 hs),fun R hR=>(by cases hR)⟩
def zAG {i:Nat} (h:i<9223372036854775807):i64.wrap ((i:Int)+1)=((i+1:Nat):Int):=by
 rw[wrap64_in (by omega) (by omega)]; rfl
section
variable {T:Nat->Option TI} {Γ:Nat->Option zAq} {M nm L:List Nat} {N k:Nat} {n:Nat->Bool} {all os:List Oper} {o:Oper} {V V':St} {K:St->Prop} {φ:Option Prop} {x:AV} {d:Nat}
def zXE {φ:Option Prop}{K:Prop} (h1:φ.getD True) (h2:K):andO φ K:=by
 cases φ with
 | none=>exact h2
 | some p=>exact⟨h1,h2⟩
def zSV (h:K (V.putN d x)):lay false (some d) x V K:=by
 simp only[lay,zHd]; exact h
variable {own:Bool}
theorem zNE {r:Option Prop×AV×St} (h:step1 T own o V=some r):zLk T Γ o V=none:=by
 unfold zLk zFS;split
 ·rfl
 rename_i hq;split at hq
 ·rename_i ho;rw[zP4 ho]at h;cases h
 cases hq
theorem zAh (hg:o.guard=none) (hd:o.dst=some d) (hN:Nat.blt d N=true) (hc:callOf T Γ o V.env=none) (hn:dIn (some d) nm=false) (hs:step1 T (dIn (some d) M) o V=some (φ,x,V')) (hφ:φ.getD True)
  (h:zBo T Γ M nm N all os (V'.putN d x) K):zBo T Γ M nm N all (o::os) V K:=by
 unfold zBo;rw[hg,hd];dsimp only;rw[hN,hn,zSR,zNE hs,hc,hs];exact zXE hφ (zSV h)
theorem zGh (hg:o.guard=none) (hd:o.dst=none) (hc:callOf T Γ o V.env=none) (hs:step1 T (dIn none M) o V=some (φ,x,V')) (hφ:φ.getD True)
  (h:zBo T Γ M nm N all os V' K):zBo T Γ M nm N all (o::os) V K:=by
 unfold zBo;have e0:zIm T (dIn none nm) o V=none:=rfl;rw[hg,hd,e0,zNE hs,hc,hs];exact zXE hφ h
variable {rows:List (List AV)}{y:Operand}{ti:TI}{kk q sz t:Nat}
theorem zRo {e:Nat}{j:TI}{i:Operand}{n:Int}{ki:IntKind} (ho:o.op = .indexAddr t y i) (ht:T t=some ti) (hk:ti.k = .slice e) (hj:T e=some j) (hy:opd T V.env t y = .orow q)
  (hi:opd T V.env 0 i = .s (.int ki n)) (hh:V.hp q=some (.arow kk sz rows)) (hz:Nat.beq sz j.size=true):step1 T own o V=some (some (0<=n/\n<rows.length),.rp q sz n.toNat 0,V):=by
 have e1:zBH T own o V.env=none :=(by simp only[zBH,ho,zEx,hy,hi,AV.nrm,ht,hk]);simp only[step1,e1,zBx,zES,zCO,zCA,ho,elemOf,ht,hk,hj,hy,hi,hh,hz]
variable {z:Operand}{off:Nat}
theorem zTz {r:Nat} (ho:o.op = .store t y z) (ht:T t=some ti) (hy:opd T V.env 0 y = .rp q sz r off)
  (hh:V.hp q=some (.arow kk sz rows)) (h1:Nat.beq sz sz=true) (h2:Nat.beq (opd T V.env t z).cellsA.length ti.size=true) (h3:Nat.ble (off+ti.size) sz=true) (h4:((opd T V.env t z).cellsA).all AV.one=true) :
  step1 T own o V=some (some (r<rows.length),.junk,zDW V q (.arow kk sz (rows.set r ((rows.getD r []).take off++(opd T V.env t z).cellsA++(rows.getD r []).drop (off+ti.size))))):=by
 have e1:zBH T own o V.env=none :=(by simp only[zBH,ho]);have e2:zCO T own o V=none:=by
  simp only[zCO,ho,hy,ht,hh]
 simp only[step1,e1,zBx,zES,e2,zCA,ho,ht,hy,hh,h1,h2,h3,h4]
variable {cells:List AV}{bt:Nat}
theorem zOq  (ho:o.op = .store t y z) (ht:T t=some ti) (hy:opd T V.env 0 y = .op q off)
  (hh:V.hp q=some (.box bt cells)) (h2:Nat.beq (opd T V.env t z).cellsA.length ti.size=true) (h3:Nat.ble (off+ti.size) cells.length=true) (h4:((opd T V.env t z).cellsA).all AV.one=true) (h5:AV.ltAll V.nx (opd T V.env t z).cellsA=true) :
  step1 T own o V=some (none,.junk,zDW V q (.box bt (cells.take off++(opd T V.env t z).cellsA++cells.drop (off+ti.size)))):=by
 have e1:zBH T own o V.env=none :=(by simp only[zBH,ho]);simp only[step1,e1,zBx,zES,zCO,ho,ht,hy,hh,h2,h3,h4,h5,zCt]
theorem qP {P:Prop} (h:P:=by have e1:zBH T own o V.env=none :=(by simp only[zBH,ho,hy]);simp only[step1,e1,zBx,zES,zCO,ho,ht,hy,hh,ha,hc]):P:=h
theorem yA5 {c:AV} (ho:o.op = .load t y) (ht:T t=some ti) (ha:ti.k.agg=false) (hy:opd T V.env 0 y = .op q off) (hh:V.hp q=some (.box bt cells)) (hc:cells[off]? = some c) :
  step1 T own o V=some (none,c,V):=by
 exact qP
theorem zY6  (ho:o.op = .load t y) (ht:T t=some ti) (ha:ti.k.agg=true) (hy:opd T V.env 0 y = .op q off) (hh:V.hp q=some (.box bt cells)) (hc:Nat.ble (off+ti.size) cells.length=true) :
  step1 T own o V=some (none,.agg ((cells.drop off).take ti.size),V):=by
 exact qP
theorem zOp {e:Nat}{args:Array Operand}{ts:Array Nat} (ho:o.op = .call { callee:=.builtin .len,args:=args,argTypes:=ts }) (ha:args.toList=[y]) (hts:ts.toList=[t]) (ht:tk T t = .slice e)
  (hy:opd T V.env t y = .orow q) (hh:V.hp q=some (.arow kk sz rows)):step1 T own o V=some (none,.s (.int .i64 (rows.length:Int)),V):=by
 have e1:zBH T own o V.env=none :=(by simp only[zBH,ho,ha,hts,pLen,ht,hy]);have e2:zCO T own o V=none :=(by simp only[zCO,ho,ha,hts,ht,hy,hh]);simp only[step1,e1,zBx,zES,e2,zCA,ho,ha,hts,ht,hy,hh]
theorem yBb {r:Nat} (ho:o.op = .load t y) (hy:opd T V.env 0 y = .rp q sz r off):step1 T own o V=none/\callOf T Γ o V.env=none/\zA1 T o V.env=none:=by
 have e1:zBH T own o V.env=none :=(by simp only[zBH,ho,hy]);have e2:zCO T own o V=none :=(by simp only[zCO,ho,hy]);have e3:zCA T o V=none :=(by simp only[zCA,ho]);exact⟨by simp only[step1,e1,zBx,zES,ho,e2,e3],by simp only[callOf,ho],by simp only[zA1,ho]⟩
theorem yCt  (ho:o.op = .load t y):mapQ T o V=none:=by simp only[mapQ,ho]
theorem yCx  (ho:o.op = .load t y):nilQ T o V=none:=by simp only[nilQ,ho]
theorem zSF {r:Nat}{c:AV} (hg:o.guard=none) (hd:o.dst=some d) (hN:Nat.blt d N=true) (hn:dIn (some d) nm=false) (ho:o.op = .load t y) (hy:opd T V.env 0 y = .rp q sz r off)
  (hh:V.hp q=some (.arow kk sz rows)) (hr:r<rows.length) (hc:zOQ T t ((rows.getD r []).drop off)=some c) (h:zBo T Γ M nm N all os (V.putN d c) K):zBo T Γ M nm N all (o::os) V K:=by
 obtain⟨e1,e2,e3⟩:=yBb (Γ:=Γ) (own:=dIn (some d) M) ho hy;unfold zBo;rw[hg,hd];dsimp only;have e0:zL9 T o V=none :=(by simp only[zL9,ho]);have e9:zLk T Γ o V=none :=(by simp only[zLk,zFS,ho]);rw[hN,hn,zSR,e9,e2,e1,e0,yCx ho,yCt ho];have hz:Nat.beq sz sz=true:=aS sz;simp only[zQB,zGf,e3,zGZ,ho,hy,hh,hz];exact⟨hr,_,rfl,by rw[hc]; exact zSV h⟩
end
inductive Rd (hp:Nat->Option Ob):AV->S->Prop
 | s (x:S):Rd hp (.s x) x
 | nl (sz:Nat):Rd hp (.nl sz) (.sl sz [])
 | row {k e sz:Nat} {rows:List (List S)} (h:hp k=some (.row e sz rows)):Rd hp (.orow k) (.sl sz rows)
 | arow {k e sz:Nat} {rows:List (List AV)} {rs:List (List S)} (h:hp k=some (.arow e sz rows)) (hl:rows.length=rs.length) (hr:∀ r∈rs,r.length=sz)
   (hc:∀ (i:Nat) x s,rows.flatten[i]? = some x->rs.flatten[i]? = some s->Rd hp x s):Rd hp (.orow k) (.sl sz rs)
 | box {k off bt:Nat} {cells:List AV} {ss:List S} (h:hp k=some (.box bt cells)) (hl:cells.length=ss.length)
   (hc:∀ (i:Nat) x s,cells[i]? = some x->ss[i]? = some s->Rd hp x s):Rd hp (.op k off) (.pt (ss.drop off))
 | el {k e sz i off:Nat} {rows:List (List AV)} {rs:List (List S)} (h:hp k=some (.arow e sz rows)) (hl:rows.length=rs.length) (hr:∀ r∈rs,r.length=sz) (hi:i<rs.length)
   (hc:∀ (i:Nat) x s,rows.flatten[i]? = some x->rs.flatten[i]? = some s->Rd hp x s):Rd hp (.rp k sz i off) (.pt ((rs.getD i []).drop off))
def allG (G:Nat->Prop) (O:Nat->Value) (hp:Nat->Option Ob) (b:Nat):Prop:=G b∨∃ k ob,hp k=some ob/\blk (O k)=some b
variable {w:World}{O:Nat->Value}{G:Nat->Prop}
def Rd.rep {c:Cx}{V:St}{a:Act} (hc:Conc c G O V a w){x:AV}{s:S} (h:Rd V.hp x s):∀ {v:Value},AVal G w O x v->Rep (allG G O V.hp) w s v:=by
 have hk:Keep G (allG G O V.hp) w w:=⟨fun _ h=>.inl h,fun _ _=>rfl⟩;induction h with
 | s x=>intro v hv; simp only[AVal]at hv; exact hv.keep hk
 | nl sz=>intro v hv; simp only[AVal]at hv; subst hv; simp[Rep]
 | @row k e sz rows h =>
  intro v hv;simp only[AVal]at hv;obtain⟨hlen,hsz,ho⟩:=hc.hp k _ h;rw[hv.1];rcases ho with ⟨h1,rfl⟩ | ⟨b,cap,cur,h1,h2,h3,⟨mk,hmk,h4⟩,h5,h6,h7⟩
  ·rw[h1]; simp[Rep]
  rw[h1];simp only[Rep];refine .inr ⟨b,0,cap,rfl,h2,zCl hlen (RepRow.mk fun i s hi=>⟨.inr ⟨k,_,h,by rw[h1]; rfl⟩,?_⟩)⟩;obtain⟨u,hu,hr⟩:=h7 i s hi;exact⟨u,by simp[World.cell?,h4,hu],hr.keep hk⟩
 | @arow k e sz rows rs h hl hr hcc ih =>
  intro v hv;simp only[AVal]at hv;obtain⟨hlen,hsz,ho⟩:=hc.hp k _ h;rw[hv.1];rcases ho with ⟨h1,rfl⟩ | ⟨b,cap,cur,h1,h2,h3,⟨mk,hmk,h4⟩,h5,h6,h7⟩
  ·obtain rfl:rs=[]:=List.length_eq_zero_iff.1 (by simpa using hl.symm);rw[h1]; simp[Rep]
  rw[h1];simp only[Rep];refine .inr ⟨b,0,cap,by rw[hl],by rw[← hl]; exact h2,zCl hr (RepRow.mk fun i s hi=>⟨.inr ⟨k,_,h,by rw[h1]; rfl⟩,?_⟩)⟩;have hfl:=zAL hlen;have hfs:=zAL hr;have hil:i<rows.flatten.length :=(by rw[hfl,hl,← hfs]; exact(aa.1 hi).1);obtain⟨u,hu,hr',_⟩:=h7 i _ (ac hil);exact⟨u,by simp[World.cell?,h4,hu],ih i _ s (ac hil) hi hr'⟩
 | @box k off bt cells ss h hl hcc ih =>
  intro v hv;simp only[AVal]at hv;obtain⟨b,e,cur,h1,h2,h3,h4,h5,h6⟩:=hc.hp k _ h;obtain⟨b',hβ,rfl⟩:=hv;rw[h1]at hβ; cases hβ;simp only[Rep];have hrow:RepRow (allG G O V.hp) w b ss 0:=RepRow.mk fun i s hi=>by
   refine⟨.inr ⟨k,_,h,by rw[h1]; rfl⟩,?_⟩;have hil:i<cells.length :=(by rw[hl]; exact(aa.1 hi).1);obtain⟨u,hu,hr⟩:=h5.get (ac hil);rw[aI]at hu;exact⟨u,by simp[World.cell?,h2,hu],ih i _ s (ac hil) hi hr⟩
  exact⟨b,off,rfl,by simpa using hrow.drop off⟩
 | @el k e sz i off rows rs h hl hr hi hcc ih=>
 intro v hv;simp only[AVal]at hv;obtain⟨b,n,cp,hβ,rfl⟩:=hv;obtain⟨hlen,hsz,ho⟩:=hc.hp k _ h;rcases ho with ⟨h1,rfl⟩ | ⟨b',cap,cur,h1,h2,h3,h4,h5,h6,h7⟩
 ·simp at hl; omega
 rw[hβ]at h1; cases h1;simp only[Rep];refine⟨b,i * sz+off,rfl,?_⟩;have hfl:=zAL hlen;have hfs:=zAL hr;have hrow:RepRow (allG G O V.hp) w b rs.flatten 0:=RepRow.mk fun q s hq=>by
  refine⟨.inr ⟨k,_,h,by rw[hβ]; rfl⟩,?_⟩;have hil:q<rows.flatten.length :=(by rw[hfl,hl,← hfs]; exact(aa.1 hq).1);obtain⟨u,hu,hr',_⟩:=h7 q _ (ac hil);obtain⟨mk,hmk,h4⟩:=h4;exact⟨u,by simp[World.cell?,h4,hu],ih q _ s (ac hil) hq hr'⟩
 have hrows:=(zCl hr hrow).get (i:=i) (r:=rs[i]) (ac hi);have hg:rs.getD i []=rs[i] :=(by simp[ac hi]);rw[hg];have:=hrows.2.drop off;exact qA
def RdV (hp:Nat->Option Ob):AV->AV->Prop
 | x,.s y=>Rd hp x y
 | .agg xs,.agg ys=>xs.length=ys.length/\∀ (i:Nat) x y,xs[i]? = some x->ys[i]? = some y->∃ s,y = .s s/\Rd hp x s
 | _,.junk=>True
 | _,_=>False
def RdV.aval {c:Cx}{V:St}{a:Act} (hc:Conc c G O V a w){x y:AV} (h:RdV V.hp x y){v:Value} (hv:AVal G w O x v):AVal (allG G O V.hp) w O y v:=by
 unfold RdV at h;split at h
 ·simp only[AVal]; exact h.rep hc hv
 ·simp only[AVal]at hv ⊢;obtain⟨vs,rfl,hvs⟩:=hv;refine⟨vs,rfl,AVals.mk (by rw[← h.1]; exact hvs.length) fun i y u hy hu=>?_⟩;rename_i xs ys;have hil:i<xs.length :=(by rw[h.1]; exact(aa.1 hy).1);obtain⟨s,rfl,hs⟩:=h.2 i _ y (ac hil) hy;obtain⟨u',hu',hr⟩:=hvs.get (ac hil);rw[hu]at hu'; cases hu';simp only[AVal]; exact hs.rep hc hr
 ·simp only[AVal]
 exact h.elim
def nils (k:Nat):List (List AV):=List.replicate k [.s (.sl 1 [])]
def Le.forgetH {c:Cx}{V:St} (l:List (Nat×AV)) (hp':Nat->Option Ob) (n:Nat) (h:holds V.env l) (hh:∀ k,V.hp k=hp' k) (hn:V.nx=n):Le c V ⟨ofL l,hp',n⟩:=by
 obtain rfl:V.hp=hp':=funext hh;subst hn;exact Le.forget l h
variable {f:Nat}{P:Program}
def PSound.ofOwn {R:List AV->List Ob->AV->List (Option Ob)->Prop} (hcall:∀ args w,(callFunc f args).run P w = .ok (.enter f args) w) (h:OwnSound P f R):PSound P f (zD8 R) :=
 ⟨hcall,fun _ _ _ _ _ _ _ _ _ hs=>hs.elim,fun R' hR'=>(by
  obtain rfl:R=R' :=(by simpa [zD8] using hR');exact h),fun R hR=>(by cases hR)⟩
def ownS (s:zAq):zAq:=zD8 fun xs os x os'=>AV.persAll xs=true/\s.spec xs (.val x)/\os=[]/\os'=[]
def PSound.toOwn {s:zAq} (h:PSound P f s):PSound P f (ownS s) :=
 PSound.ofOwn h.1 fun G w O xs vs os x os' h1 h2 h3 _ _ h6=>by
  obtain⟨hp,hs,rfl,rfl⟩:=h6;refine(h.2.1 G w xs vs (.val x) h1 h2 hp (AVals.pers hp h3) hs).mono fun e w' he=>?_
  obtain⟨v,G',rfl,hx,hv1,hv2⟩:=he;exact⟨v,G',O,rfl,⟨hx.os,hx.tape,hx.output,hx.size,fun b hb _=>hx.old b hb⟩,hx.sub,fun b hb=>(hx.new b hb).imp id .inr,hx.lt,AVal.pers hv1 hv2,AV.pers_lt hv1,ar _,⟨fun i ob hi=>by simp at hi,fun i j ob ob' hi=>by simp at hi⟩,fun i ob hi=>by simp at hi⟩
structure Wrote (b off:Nat) (v:Value) (cur:Array Value) (e:Nat) (w w':World):Prop where
 os:w'.os=w.os
 tape:w'.tape=w.tape
 output:w'.output=w.output
 size:w'.heap.size=w.heap.size
 old:∀ i,i ≠ b->w'.heap[i]? = w.heap[i]?
 new:w'.heap[b]? = some (.cells (cur.setIfInBounds off v) e (0,0))
variable {w:World}{cur:Array Value}{v:Value}{b e off:Nat}
def Wrote.cell  (h:w.heap[b]? = some (.cells cur e (0,0))):Wrote b off v cur e w (w.setCell ⟨b,off,none⟩ v) :=
 ⟨rfl,rfl,rfl,by simp[World.setCell],fun i hi=>by
  simp only[World.setCell,Array.getElem?_modify]
  rw[if_neg (Ne.symm hi)],by simp[World.setCell,Array.getElem?_modify,h]⟩
def Wrote.same  (h:w.heap[b]? = some (.cells cur e (0,0))) (hc:cur[off]? = some v):Wrote b off v cur e w w :=
 ⟨rfl,rfl,rfl,rfl,fun _ _=>rfl,by
  rw[h]
  have:cur.setIfInBounds off v=cur:=by
   apply Array.ext
   ·simp
   intro i h1 h2;rw[Array.getElem_setIfInBounds (by simpa using h2)]
   split
   ·rename_i e; subst e
    rw[Array.getElem?_eq_getElem h2]at hc;exact(Option.some.inj hc).symm
   rfl
  rw[this]⟩
def zYd {G:Nat->Prop}{w':World} (hb:¬ G b) (h:∀ i,i ≠ b->w'.heap[i]? = w.heap[i]?):Keep G G w w':=⟨fun _ h=>h,fun i hi=>h i fun e=>hb (e ▸ hi)⟩
def zNB {D:Nat}{cells cells':List AV} (hrow:cells[off+1]? = some (.orow 1)) (hself:cells[off]? = some (.op 0 off))
  (hc':cells'=cells.set (off+1) .junk) (hpers:∀ (i:Nat) x,cells[i]? = some x->i ≠ off->i ≠ off+1->x.pers=true)
  (hwalk:∀ (b g cap:Nat) (l:List UInt8) (w:World) (cur:Array Value) (mk:Nat×Nat),l ≠ []->w.cell? ⟨b,off+1,none⟩=some (.slice (some ⟨g,0,none⟩) l.length cap)->w.heap[g]? = some (.cells cur e mk)->cur.size=cap * 1->l.length<=cap->l.length<=9223372036854775807 ->
   (∀ (j:Nat) x,l[j]? = some x->cur[j]? = some (.int .u8 x.toNat)) ->
   Calls P f #[.pointer (some ⟨b,off,none⟩)] w fun e w'=>e = .returned (.string ⟨l.toArray⟩)/\w'=w.drew.freeze ⟨g,0,none⟩ l.length) :
  OwnSound P f fun xs os x os'=>∃ l:List UInt8,l ≠ []/\l.length<=9223372036854775807/\xs=[.op 0 off]/\os=[.box D cells,.row e 1 (l.map brow)]/\x = .s (.str l)/\os'=[some (.box D cells'),none]:=by
 rintro G w O xs vs os x os' hlt hgl hv hxl hobs ⟨l,hl0,hlm,rfl,rfl,rfl,rfl⟩;obtain⟨hob0,_⟩:=hobs.1 0 (.box D cells) rfl;obtain⟨hob1,_⟩:=hobs.1 1 (.row e 1 (l.map brow)) rfl;have hdis:∀ b,blk (O 0)=some b->blk (O 1) ≠ some b:=fun b=>hobs.2 0 1 (.box D cells) (.row e 1 (l.map brow)) rfl rfl (by decide) b
 obtain⟨b,e',cur,h1,h2,h3,h4,h5,h6,rfl⟩:=hob0;simp only[AVals,AVal]at hv;obtain⟨v,vs',rfl,⟨b',hb',rfl⟩,rfl⟩:=hv;have hbb:b'=b :=(by rw[h1]at hb'; simpa using hb'.symm);subst hbb;have hsz:cur.size=cells.length :=(by simpa using h5.length);obtain⟨g1,g2,g3⟩:=hob1;rcases g3 with ⟨_,hnil⟩ | ⟨g,cap,gc,k1,k2,k3,⟨mk,hmk,k4⟩,k5,k6,k7⟩
 ·exact absurd (by simpa using hnil) hl0
 have hgb:g ≠ b':=fun e=>hdis b' (by rw[h1]; rfl) (by rw[k1,e]; rfl)
 have hc1:cur[off+1]? = some (O 1):=by
  obtain⟨u,hu,hr⟩:=h5.get hrow;simp only[AVal]at hr;rw[aI]at hu;rw[hu,hr.1]
 have hlen:(l.map brow).length=l.length :=(by simp);refine(hwalk b' g cap l w gc mk hl0 (by simp[World.cell?,h2,hc1,k1]) k4 k3 (by simpa using k2) hlm (fun j x hx=>?_)).mono fun e2 w' ⟨he,hw⟩=>?_
 ·obtain⟨u,hu,hr⟩:=k7 j (.int .u8 x.toNat) (by rw[zGI,ao,hx]; rfl);simp only[Rep]at hr;rw[hu,hr]
 have hold:∀ i,i ≠ g->w'.heap[i]? = w.heap[i]?:=fun i hi=>by
  rw[hw];unfold World.freeze;rw[if_neg (by simpa using hl0)];simp only[Array.getElem?_modify];rw[if_neg (Ne.symm hi)]; rfl
 have hsize:w'.heap.size=w.heap.size:=by
  rw[hw]; unfold World.freeze; rw[if_neg (by simpa using hl0)]; simp
 have hrest:w'.os=w.os/\w'.tape=w.tape/\w'.output=w.output:=by
  rw[hw]; unfold World.freeze; rw[if_neg (by simpa using hl0)]; exact⟨rfl,rfl,rfl⟩
 have hk:Keep G G w w':=zYd k5 hold;have hX:(zET P w O 2 G 0).X g:=⟨1,by decide,by rw[k1]; rfl⟩;have hpp:AVals G w' O cells' cur.toList:=by
  rw[hc'];refine AVals.mk (by simp[hsz]) fun i x v hx hv=>?_
  rw[br]at hx;split at hx
  ·split at hx
   ·cases hx; simp only[AVal]
   cases hx
  obtain⟨u,hu,hr⟩:=h5.get hx;rw[hv]at hu; cases hu;exact hr.keep hk
 have hltc:AV.ltAll 2 cells'=true:=by
  rw[hc'];refine zCB fun q y hq=>?_
  rw[br]at hq;split at hq
  ·split at hq
   ·cases hq; rfl
   cases hq
  rename_i hi;by_cases hi2:q=off
  ·subst hi2;rw[hself]at hq; cases hq; rfl
  exact AV.pers_lt (hpers q y hq hi2 (Ne.symm hi))
 refine⟨.string ⟨l.toArray⟩,G,O,he,⟨hrest.1,hrest.2.1,hrest.2.2,by rw[hsize]; exact ar _,fun i hi hx=>hold i fun e=>hx (e ▸ hX)⟩,fun _ h=>h,fun _ h=>.inl h,fun i hi=>by rw[hsize]; exact hlt i hi,
  by simp only[AVal,Rep],rfl,(show 2<=2 by decide),⟨fun i ob hi=>?_,fun i j ob ob' hi hj hne bb hbi=>?_⟩,fun i ob hi ho=>rfl⟩
 ·match i,hi with
  | 0,hi=>cases hi;exact⟨⟨b',_,cur,h1,(hold b' (Ne.symm hgb)).trans h2,h3,h4,hpp,h6,rfl⟩,by simpa [Ob.lt] using hltc⟩
  | 1,hi=>cases hi
  | k+2,hi=>simp at hi
 match i,j,hi,hj with
 | 0,0,_,_=>exact absurd rfl hne
 | 1,_,hi,_=>cases hi
 | _,1,_,hj=>cases hj
 | k+2,_,hi,_=>simp at hi
 | _,k+2,_,hj=>simp at hj
section
variable {T:Nat->Option TI} {Γ:Nat->Option zAq} {M nm L:List Nat} {N k n:Nat} {all os:List Oper} {o:Oper} {V V':St} {K:St->Prop} {φ:Option Prop} {x:AV} {d:Nat}
variable {rows:List (List AV)}{y:Operand}{j ti:TI}{e kk q sz t:Nat}{own:Bool}
theorem zY7 {hi:Operand}{n:Int}{ki:IntKind} (ho:o.op = .slice t y none (some hi) none) (ht:T t=some ti) (hk:ti.k = .slice e) (hj:T e=some j) (hy:opd T V.env t y = .orow q)
  (hi':opd T V.env 0 hi = .s (.int ki n)) (hh:V.hp q=some (.arow kk sz rows)) (hz:Nat.beq sz j.size=true) :
  step1 T own o V=some (some (0<=n/\n<=rows.length),.orow V.nx,zA6 (zHJ V q) (.arow kk sz (rows.take n.toNat))):=by
 have e1:zBH T own o V.env=none :=(by simp only[zBH,ho,zKX,hy,AV.nrm,ht,hk,Option.map_none,bu,hi']);have e2:zCO T own o V=none :=(by simp only[zCO,ho,elemOf,ht,hk,hj,hy,hi',hh]);simp only[step1,e1,zBx,zES,e2,zCA,ho,elemOf,ht,hk,hj,hy,hi',hh,hz]
variable {z:Operand}{ts:Array Nat}{args:Array Operand}{sz2 tx:Nat}
theorem yCN {q2 kk2:Nat}{rows2:List (List AV)} (ho:o.op = .call { callee:=.builtin .append,args:=args,argTypes:=ts }) (ha:args.toList=[y,z]) (hts:ts.toList=[t,tx])
  (ht:T t=some ti) (hk:ti.k = .slice e) (hj:T e=some j) (htx:tk T tx = .slice e) (hy:opd T V.env t y = .orow q) (hz:opd T V.env tx z = .orow q2) (hh:V.hp q=some (.arow kk sz rows)) (hh2:V.hp q2=some (.arow kk2 sz2 rows2))
  (h1:Nat.beq sz j.size=true) (h2:Nat.beq sz2 j.size=true) (h3:Nat.beq e kk=true) :
  step1 T own o V=some (some ((rows.length+rows2.length) * j.bytes<=140737488355328/\rows.length+rows2.length<=9223372036854775807),.orow V.nx,zA6 (zHJ V q) (.arow e sz (rows++rows2))):=by
 have e1:zBH T own o V.env=none :=(by simp only[zBH,ho]);have e2:zCO T own o V=none :=(by simp only[zCO,ho,ha,hts,zIn,elemOf,ht,hk,hj,hy,zJt,hh]);simp only[step1,e1,zBx,zES,e2,zCA,ho,ha,hts,elemOf,ht,hk,hj,hy,hz,zKu,hh,zK4,htx,hh2,h1,h2,h3]
theorem yA4 {e2:Nat}{rows2:List (List S)} (ho:o.op = .call { callee:=.builtin .copy,args:=args,argTypes:=ts }) (ha:args.toList=[y,z]) (hts:ts.toList=[t,tx])
  (ht:T t=some ti) (hk:ti.k = .slice e) (hj:T e=some j) (htx:tk T tx = .slice e2) (hy:opd T V.env t y = .orow q) (hz:opd T V.env tx z = .s (.sl sz2 rows2)) (hh:V.hp q=some (.arow kk sz rows))
  (h1:Nat.beq sz j.size=true) (h2:Nat.beq sz2 j.size=true) :
  step1 T own o V=some (some ((rows2.map (·.map AV.s)).length=rows.length),.s (.int .i64 (rows.length:Int)),zDW V q (.arow kk sz (rows2.map (·.map AV.s)))):=by
 have e1:zBH T own o V.env=none :=(by simp only[zBH,ho,ha,hts,zW4,hy]);have e2:zCO T own o V=none :=(by simp only[zCO,ho]);simp only[step1,e1,zBx,zES,e2,zCA,ho,ha,hts,elemOf,ht,hk,hj,hy,hz,zKu,hh,zK4,htx,h1,h2]
theorem yEP {n m:Int}{k1 k2:IntKind} (hw:own=true) (ho:o.op = .makeSlice t y z) (ht:T t=some ti) (hk:ti.k = .slice e) (hj:T e=some j) (hy:opd T V.env 0 y = .s (.int k1 n)) (hz:opd T V.env 0 z = .s (.int k2 m)) (h1:Nat.ble 1 j.size=true)
  (hp:zBH T own o V.env=none) :
  step1 T own o V=some (some (0<=n/\n<=m/\m * j.bytes<=281474976710656/\m<=281474976710656),.orow V.nx,zA6 V (.row e j.size (List.replicate n.toNat j.zero))):=by
 simp only[step1,hp,zBx,zES,zCO,ho,elemOf,ht,hk,hj,hy,hz,h1]
end
def isL (sz:Nat) (p:AV):Prop:=(∃ q i,p = .rp q sz i 0)∨(∃ q,p = .op q 0)
def zBh:AV->Nat
 | .op q _=>q
 | .rp q _ _ _=>q
 | _=>0
def locO (p:AV) (off:Nat):AV:=match p with
 | .op q _=>.op q off
 | .rp q sz i _=>.rp q sz i off
 | x=>x
def zAJ (hp:Nat->Option Ob):AV->Option (List AV)
 | .op q 0=>match hp q with | some (.box _ cs)=>some cs | _=>none
 | .rp q sz i 0=>match hp q with | some (.arow _ sz' rows)=>bif Nat.beq sz sz' then rows[i]? else none | _=>none
 | _=>none
def putC (hp:Nat->Option Ob) (p:AV) (c:List AV) (k:Nat):Option Ob:=match p with
 | .op q _=>match hp q with | some (.box bt _)=>bif Nat.beq k q then some (.box bt c) else hp k | _=>hp k
 | .rp q _ i _=>match hp q with | some (.arow e sz rows)=>bif Nat.beq k q then some (.arow e sz (rows.set i c)) else hp k | _=>hp k
 | _=>hp k
variable {q:Nat}
def zEo {k:Nat} (h:k ≠ q):Nat.beq k q=false:=by
 cases e:Nat.beq k q with
 | true=>exact absurd (ab e) h
 | false=>rfl
variable {c:List AV}{p:AV}{hp:Nat->Option Ob}
def zBM {k:Nat} (h:k ≠ zBh p):putC hp p c k=hp k:=by
 unfold putC;split
 ·rename_i q _;have h:k ≠ q:=h;split
  ·rw[zEo h,ae]
  rfl
 ·rename_i q _ _ _;have h:k ≠ q:=h;split
  ·rw[zEo h,ae]
  rfl
 rfl
variable {cs:List AV}{bt:Nat}
def zGs {o:Nat} (h:hp q=some (.box bt cs)):putC hp (.op q o) c=fun k=>bif Nat.beq k q then some (.box bt c) else hp k:=by
 funext k; simp only[putC,h]
variable {rows:List (List AV)}{e sz:Nat}
def zJ1 {s i o:Nat} (h:hp q=some (.arow e sz rows)):putC hp (.rp q s i o) c=fun k=>bif Nat.beq k q then some (.arow e sz (rows.set i c)) else hp k:=by
 funext k; simp only[putC,h]
def zEp  (h:hp q=some (.box bt cs)):zAJ hp (.op q 0)=some cs:=by simp only[zAJ,h]
def zFW {i:Nat} (h:hp q=some (.arow e sz rows)):zAJ hp (.rp q sz i 0)=rows[i]?:=by simp only[zAJ,h,aS,ag]
def zCX  (hl:isL sz p) (h:zAJ hp p=some cs):(∃ q i e rows,p = .rp q sz i 0/\hp q=some (.arow e sz rows)/\rows[i]? = some cs)∨∃ q bt,p = .op q 0/\hp q=some (.box bt cs):=by
 rcases hl with ⟨q,i,rfl⟩ | ⟨q,rfl⟩
 ·simp only[zAJ]at h;split at h
  ·rename_i e sz' rows hq;cases hb:Nat.beq sz sz' with
   | false=>rw[hb]at h; cases h
   | true=>rw[hb,ag]at h;obtain rfl:=ab hb;exact .inl ⟨q,i,e,rows,rfl,hq,h⟩
  cases h
 simp only[zAJ]at h;split at h
 ·rename_i bt cs' hq;cases h;exact .inr ⟨q,bt,rfl,hq⟩
 cases h
def zJQ  (hl:isL sz p) (h:zAJ hp p=some cs):zAJ (putC hp p c) p=some c:=by
 rcases zCX hl h with ⟨q,i,e,rows,rfl,hq,hi⟩ | ⟨q,bt,rfl,hq⟩
 ·rw[zJ1 hq,zFW (e:=e) (rows:=rows.set i c) (by simp only[aS,ag]),br,if_pos rfl,if_pos (aa.1 hi).1]
 rw[zGs hq,zEp (bt:=bt) (cs:=c) (by simp only[aS,ag])]
def zCg {hp':Nat->Option Ob} (hl:isL sz p) (h:hp' (zBh p)=hp (zBh p)):zAJ hp' p=zAJ hp p:=by
 rcases hl with ⟨q',i',rfl⟩ | ⟨q',rfl⟩ <;> (simp only[zBh]at h; simp only[zAJ,h])
def zYH {p':AV} (hl:isL sz p) (hc:zAJ hp p=some cs) (hl':isL sz p') (hne:p' ≠ p):zAJ (putC hp p c) p'=zAJ hp p':=by
 by_cases hb:zBh p'=zBh p
 ·rcases zCX hl hc with ⟨q,i,e,rows,rfl,hq,hi⟩ | ⟨q,bt,rfl,hq⟩
  ·have hp2:putC hp (.rp q sz i 0) c q=some (.arow e sz (rows.set i c)) :=(by rw[zJ1 hq]; simp only[aS,ag]);rcases hl' with ⟨q',i',rfl⟩ | ⟨q',rfl⟩ <;> (simp only[zBh]at hb; subst hb)
   ·have hi:i' ≠ i:=fun e=>hne (by rw[e])
    rw[zFW hp2,zFW hq,br,if_neg (Ne.symm hi)]
   simp only[zAJ,hp2,hq]
  have hp2:putC hp (.op q 0) c q=some (.box bt c) :=(by rw[zGs hq]; simp only[aS,ag]);rcases hl' with ⟨q',i',rfl⟩ | ⟨q',rfl⟩ <;> (simp only[zBh]at hb; subst hb)
  ·simp only[zAJ,hp2,hq]
  exact absurd rfl hne
 exact zCg hl' (zBM hb)
def yAJ {sz':Nat} (hl:isL sz' p) (hc:zAJ hp p=some cs) (h:hp q=some (.arow e sz rows)):∃ rows',putC hp p c q=some (.arow e sz rows')/\rows'.length=rows.length:=by
 by_cases hb:q=zBh p
 ·subst hb;rcases zCX hl hc with ⟨q,i,e',rows',rfl,hq,hi⟩ | ⟨q,bt,rfl,hq⟩
  ·simp only[zBh]at h ⊢;rw[hq]at h; cases h;rw[zJ1 hq]; exact⟨_,by simp only[aS,ag]; rfl,length_set ..⟩
  simp only[zBh]at h;rw[hq]at h; cases h
 rw[zBM hb]; exact⟨rows,h,rfl⟩
section
variable {T:Nat->Option TI} {Γ:Nat->Option zAq} {M nm L:List Nat} {N k n:Nat} {all os:List Oper} {o:Oper} {V V':St} {K:St->Prop} {φ:Option Prop} {x:AV} {d:Nat}
variable {y:Operand}{p:AV}{sz:Nat}{own:Bool}
theorem zFc  (hl:isL sz p) (ho:o.op = .nilCheck y) (hy:opd T V.env 0 y=p):step1 T own o V=some (none,p,V):=by
 have e1:zBH T own o V.env=some (none,p):=by
  rcases hl with ⟨q,i,rfl⟩ | ⟨q,rfl⟩ <;> simp only[zBH,ho,hy]
 simp only[step1,e1]
variable {ti:TI}{off t:Nat}
theorem zFG {f ft:Nat}{j:TI}{fs:List (Nat×Nat)} (hl:isL sz p) (ho:o.op = .fieldAddr t y f) (hy:opd T V.env 0 y=p) (ht:T t=some ti) (hk:ti.k = .struct fs) (hf:fs[f]? = some (off,ft)) (hj:T ft=some j) (hz:Nat.ble 1 j.size=true) :
  step1 T own o V=some (none,locO p off,V):=by
 have e1:zBH T own o V.env=some (none,locO p off):=by
  rcases hl with ⟨q,i,rfl⟩ | ⟨q,rfl⟩ <;> simp only[zBH,ho,hy,zF2,ht,hk,hf,hj,hz,zO3,locO,a8]
 simp only[step1,e1]
variable {cs:List AV}
theorem zD5 {c:AV} (hg:o.guard=none) (hd:o.dst=some d) (hN:Nat.blt d N=true) (hn:dIn (some d) nm=false) (ho:o.op = .load t y) (ht:T t=some ti) (ha:ti.k.agg=false) (hl:isL sz p) (hy:opd T V.env 0 y=locO p off)
  (hcs:zAJ V.hp p=some cs) (hc:cs[off]? = some c) (h:zBo T Γ M nm N all os (V.putN d c) K):zBo T Γ M nm N all (o::os) V K:=by
 rcases zCX hl hcs with ⟨q,i,e,rows,rfl,hq,hi⟩ | ⟨q,bt,rfl,hq⟩
 ·have hgd:rows.getD i []=cs :=(by rw[aL,hi]; rfl);refine zSF hg hd hN hn ho hy hq (aa.1 hi).1 (c:=c) ?_ h;simp only[zOQ,ht,ha,hgd];rw[aO (aa.1 hc).1];simp only[(aa.1 hc).2]
 have hcall:callOf T Γ o V.env=none :=(by simp only[callOf,ho]);exact zAh hg hd hN hcall hn (yA5 ho ht ha hy hq hc) trivial h
variable {z:Operand}
theorem zSG {c:AV} (hg:o.guard=none) (hd:o.dst=none) (ho:o.op = .store t y z) (ht:T t=some ti) (hs:ti.size=1) (hl:isL sz p) (hy:opd T V.env 0 y=locO p off)
  (hcs:zAJ V.hp p=some cs) (hlen:cs.length=sz) (hoff:off<sz) (hz:(opd T V.env t z).cellsA=[c]) (ho1:c.one=true) (hlt:c.lt V.nx=true)
  (h:zBo T Γ M nm N all os { V with hp:=putC V.hp p (cs.set off c) } K):zBo T Γ M nm N all (o::os) V K:=by
 have hcall:callOf T Γ o V.env=none :=(by simp only[callOf,ho]);have hset:cs.take off++[c]++cs.drop (off+1)=cs.set off c:=by
  rw[set_eq_take_append_cons_drop,if_pos (by omega)]; simp
 have h1:Nat.ble (off+1) sz=true:=Nat.ble_eq_true_of_le hoff;rcases zCX hl hcs with ⟨q,i,e,rows,rfl,hq,hi⟩ | ⟨q,bt,rfl,hq⟩
 ·have hgd:rows.getD i []=cs :=(by rw[aL,hi]; rfl);have hst:=zTz (T:=T) (own:=dIn none M) (o:=o) (V:=V) ho ht hy hq (aS _) (by rw[hz,hs]; rfl) (by rw[hs]; exact h1) (by rw[hz]; simp[ho1]);refine zGh hg hd hcall hst (aa.1 hi).1 ?_;rw[hgd,hz,hs,hset];rw[zJ1 hq]at h;exact h
 have hst:=zOq (T:=T) (own:=dIn none M) (o:=o) (V:=V) ho ht hy hq (by rw[hz,hs]; rfl) (by rw[hs,hlen]; exact h1) (by rw[hz]; simp[ho1]) (by rw[hz]; simp[AV.ltAll,hlt]);refine zGh hg hd hcall hst trivial ?_;rw[hz,hs,hset];rw[zGs hq]at h;exact h
theorem zHb {cs':List AV} (hg:o.guard=none) (hd:o.dst=none) (ho:o.op = .store t y z) (ht:T t=some ti) (hs:ti.size=sz) (hl:isL sz p) (hy:opd T V.env 0 y=p)
  (hcs:zAJ V.hp p=some cs) (hlen:cs.length=sz) (hz:(opd T V.env t z).cellsA=cs') (hlen':cs'.length=sz) (ho1:cs'.all AV.one=true) (hlt:AV.ltAll V.nx cs'=true)
  (h:zBo T Γ M nm N all os { V with hp:=putC V.hp p cs' } K):zBo T Γ M nm N all (o::os) V K:=by
 have hcall:callOf T Γ o V.env=none :=(by simp only[callOf,ho]);have hset:cs.take 0++cs'++cs.drop (0+sz)=cs':=by
  rw[drop_eq_nil_of_le (by omega)]; simp
 have h1:Nat.ble (0+sz) sz=true:=Nat.ble_eq_true_of_le (by omega);have h2:Nat.beq cs'.length ti.size=true :=(by rw[hlen',hs]; exact aS _);rcases zCX hl hcs with ⟨q,i,e,rows,rfl,hq,hi⟩ | ⟨q,bt,rfl,hq⟩
 ·have hgd:rows.getD i []=cs :=(by rw[aL,hi]; rfl);have hst:=zTz (T:=T) (own:=dIn none M) (o:=o) (V:=V) ho ht hy hq (aS _) (by rw[hz]; exact h2) (by rw[hs]; exact h1) (by rw[hz]; exact ho1);refine zGh hg hd hcall hst (aa.1 hi).1 ?_;rw[hgd,hz,hs,hset];rw[zJ1 hq]at h;exact h
 have hst:=zOq (T:=T) (own:=dIn none M) (o:=o) (V:=V) ho ht hy hq (by rw[hz]; exact h2) (by rw[hs,hlen]; exact h1) (by rw[hz]; exact ho1) (by rw[hz]; exact hlt);refine zGh hg hd hcall hst trivial ?_;rw[hz,hs,hset];rw[zGs hq]at h;exact h
theorem zDk {j g:Nat}{want:Bool} (hg:o.guard=some (j,want)) (hj:(all[j]?).bind (·.dst)=some g) (hv:V.env g = .s (.bool want)) (h:zBo T Γ M nm N all ({ o with guard:=none }::os) V K):zBo T Γ M nm N all (o::os) V K:=by
 unfold zBo at h ⊢;dsimp only at h ⊢;split
 ·rename_i h0;rw[h0]at h;exact h
 rename_i h0;rw[h0]at h;rw[hg];dsimp only;rw[hj];dsimp only;rw[hv];cases want <;> exact h
def Le.fewer {c:Cx}{V:St} (l:List (Nat×AV)) (hp':Nat->Option Ob) (h:holds V.env l) (hh:∀ k ob,hp' k=some ob->V.hp k=some ob):Le c V ⟨ofL l,hp',V.nx⟩:=by
 refine Le.trans (Le.forget l h) ?_;unfold Le;intro G O a w hc;exact⟨G,O,{ hc with hp:=fun k ob hk=>hc.hp k ob (hh k ob hk),hplt:=fun k ob hk=>hc.hplt k ob (hh k ob hk),inj:=fun k k' ob ob' hk hk'=>hc.inj k k' ob ob' (hh k ob hk) (hh k' ob' hk') }⟩
end
def PSound.giveAll {P:Program}{f:Nat}{R:List AV->(Nat->Option Ob)->Nat->(AV->(Nat->Option Ob)->Nat->Prop)->Prop}{S:List AV->Ret->Prop} (h:PSound P f (zSO R))
  (hS:∀ xs r,S xs r->∃ y,r = .val y/\y.pers=true/\R xs (fun _=>none) 0 fun x hp n=>RdV hp x y):PSound P f (zAr S):=by
 refine⟨h.1,fun G w xs vs r hlt hgl hp hv hs=>?_,fun R hR=>(by cases hR),fun R hR=>(by cases hR)⟩;obtain⟨y,rfl,hy,hR⟩:=hS xs r hs;refine(h.2.2.2 R rfl G w (fun _=>.tuple #[]) xs vs (fun _=>none) 0 _ hlt hgl hv (AV.persAll_lt hp) ⟨fun k ob hk=>(by cases hk),fun k ob hk=>(by cases hk),fun k k' ob ob' hk=>(by cases hk)⟩ hR).mono ?_;rintro e w' ⟨v,G',O',x,hp',n',rfl,hΦ,hn,hfr,hsub,hnew,hlt',hx,hxl,hob,hst⟩;let c:Cx:=zFp P w (fun _=>.tuple #[]) (fun _=>none) 0 G 0;have hk:Keep G G' w w':=⟨hsub,fun b hb=>hfr.old b (hlt b hb) (by rintro⟨k,ob,h,_⟩; cases h)⟩;have hc:Conc c G' O' ⟨fun _=>.junk,hp',n'⟩ { tmps:=#[],defers:=[] } w':={
  defers:=rfl
  size:=rfl
  env:=fun t=>by simp only[AVal]
  envlt:=fun t=>rfl
  hp:=hob.obs
  hplt:=hob.lts
  inj:=hob.inj
  lt:=hlt'
  sub:=hsub
  new:=hnew
  fr:=hfr
  stay:=⟨hn,hst⟩
  glob:=hgl.keep hk }
 have hmine:∀ b,c.mine b->w.heap.size<=b:=fun b hb=>by
  rcases hb with ⟨k,ob,h,_⟩ | h
  ·cases h
  exact h
 refine⟨v,allG G' O' hp',rfl,⟨hfr.os,hfr.tape,hfr.output,hfr.size,fun b hb=>hfr.old b hb (by rintro⟨k,ob,h,_⟩; cases h),fun b hb=>.inl (hsub b hb),fun b hb=>?_,fun b hb=>?_⟩,hy,(hΦ.aval hc hx).pers hy⟩
 ·rcases hb with hb | ⟨k,ob,h1,h2⟩
  ·exact(hnew b hb).imp id (hmine b)
  exact .inr (hmine b (row_block (hc.hp k ob h1) b h2).2)
 rcases hb with hb | ⟨k,ob,h1,h2⟩
 ·exact hlt' b hb
 exact hc.blk_lt h1 h2
def ObAt.give {c:Cx}{G G':Nat->Prop}{w:World}{O:Nat->Value}{v:Value}{ob:Ob} (hs:∀ b,G b->G' b) (hng:∀ b,blk v=some b->¬ G' b) (h:ObAt c G w O v ob):ObAt c G' w O v ob:=by
 have hk:Keep G G' w w:=⟨hs,fun _ _=>rfl⟩;cases ob with
 | box t xs=>obtain⟨b,e,cur,q1,q2,q3,q4,q5,q6⟩:=h;exact⟨b,e,cur,q1,q2,hng b (by rw[q1]; rfl),q4,q5.keep hk,q6⟩
 | row e sz rows =>
  obtain⟨q1,q2,q3⟩:=h;refine⟨q1,q2,q3.imp id ?_⟩;rintro⟨b,cap,cur,g1,g2,g3,g4,g5,g6,g7⟩;exact⟨b,cap,cur,g1,g2,g3,g4,hng b (by rw[g1]; rfl),g6,fun i s hi=>let ⟨u,hu,hr'⟩:=g7 i s hi; ⟨u,hu,hr'.keep hk⟩⟩
 | arow e sz rows =>
  obtain⟨q1,q2,q3⟩:=h;refine⟨q1,q2,q3.imp id ?_⟩;rintro⟨b,cap,cur,g1,g2,g3,g4,g5,g6,g7⟩;exact⟨b,cap,cur,g1,g2,g3,g4,hng b (by rw[g1]; rfl),g6,fun i x hi=>let ⟨u,hu,hr',h1⟩:=g7 i x hi; ⟨u,hu,hr'.keep hk,h1⟩⟩
 | any τ xs=>obtain⟨b,o,vs,q1,q2,q3,q4,q5,q6⟩:=h;exact⟨b,o,vs,q1,q2,hng b q1,q4,q5.keep hk,q6⟩
def RdV.lt {hp:Nat->Option Ob}{x y:AV} (h:RdV hp x y) (n:Nat):y.lt n=true:=by
 unfold RdV at h;split at h
 ·rfl
 ·rename_i xs ys;simp only[AV.lt];refine zNT fun q y hq=>?_
  have hil:q<xs.length :=(by rw[h.1]; exact(aa.1 hq).1);obtain⟨s,rfl,_⟩:=h.2 q _ y (ac hil) hq;rfl
 ·rfl
 exact h.elim
def RdK (hp:Nat->Option Ob) (env:Nat->AV):List (Nat×AV)->Prop
 | []=>True
 | (t,y)::r=>(y=env t∨RdV hp (env t) y)/\RdK hp env r
def RdK.lt {hp:Nat->Option Ob}{env:Nat->AV}{n:Nat} (he:∀ t,(env t).lt n=true):∀ {l:List (Nat×AV)},RdK hp env l->∀ t,(ofL l t).lt n=true
 | [],_,t=>rfl
 | (u,y)::r,h,t=>by
  simp only[ofL];cases Nat.beq t u with
  | true =>
   rcases h.1 with h1 | h1
   ·rw[h1]; exact he u
   ·exact h1.lt n
  | false=>exact RdK.lt he h.2 t
def Le.givePart {c:Cx}{V:St} (l:List (Nat×AV)) (hpD hpK:Nat->Option Ob) (hD:∀ k ob,hpD k=some ob->V.hp k=some ob) (hK:∀ k ob,hpK k=some ob->V.hp k=some ob) (dis:∀ k ob ob',hpD k=some ob->hpK k=some ob'->False)
  (h:RdK hpD V.env l):Le c V ⟨ofL l,hpK,V.nx⟩:=by
 unfold Le;intro G O a w hc;have hk:Keep G (allG G O hpD) w w:=⟨fun _ h=>.inl h,fun _ _=>rfl⟩;have hcD:Conc c G O ⟨V.env,hpD,V.nx⟩ a w:={ hc with hp:=fun k ob hk=>hc.hp k ob (hD k ob hk),hplt:=fun k ob hk=>hc.hplt k ob (hD k ob hk),inj:=fun k k' ob ob' hk hk'=>hc.inj k k' ob ob' (hD k ob hk) (hD k' ob' hk') };refine⟨allG G O hpD,O,{ defers:=hc.defers,size:=hc.size,env:=?_,envlt:=RdK.lt hc.envlt h,hp:=fun k ob hk'=>?_,hplt:=fun k ob hk=>hc.hplt k ob (hK k ob hk),inj:=fun k k' ob ob' hk hk'=>hc.inj k k' ob ob' (hK k ob hk) (hK k' ob' hk'),lt:=fun b hb=>?_,sub:=fun b hb=>.inl (hc.sub b hb),new:=fun b hb=>?_,fr:=hc.fr,stay:=hc.stay,glob:=hc.glob.keep hk }⟩
 ·intro t;show AVal (allG G O hpD) w O (ofL l t) (a.tmps.getD t undef);induction l with
  | nil=>simp only[ofL,AVal]
  | cons p r ih=>
  obtain⟨u,y⟩:=p;simp only[ofL];cases e:Nat.beq t u with
  | true =>
   obtain rfl:=ab e;rcases h.1 with h1 | h1
   ·rw[h1]; exact(hc.env t).keep hk
   exact h1.aval hcD (hc.env t)
  | false=>exact ih h.2
 ·refine(hc.hp k ob (hK k ob hk')).give (fun b h=>.inl h) fun b hb hg=>?_
  rcases hg with hg | ⟨k',ob',h1,h2⟩
  ·exact(row_block (hc.hp k ob (hK k ob hk')) b hb).1 hg
  by_cases e:k=k'
  ·subst e; exact dis k ob' ob h1 hk'
  exact hc.inj k k' ob ob' (hK k ob hk') (hD k' ob' h1) e b hb h2
 ·rcases hb with hb | ⟨k,ob,h1,h2⟩
  ·exact hc.lt b hb
  exact hc.blk_lt (hD k ob h1) h2
 rcases hb with hb | ⟨k,ob,h1,h2⟩
 ·exact hc.new b hb
 exact .inr (row_block (hc.hp k ob (hD k ob h1)) b h2).2
def PSound.giveTop {P:Program}{f e sz:Nat}{R:List AV->(Nat->Option Ob)->Nat->(AV->(Nat->Option Ob)->Nat->Prop)->Prop}{S:List AV->List S->List (List S)->Prop} (h:PSound P f (zSO R))
  (hS:∀ xs cs rs,S xs cs rs->R xs (fun _=>none) 0 fun x hp n=>∃ q rows hpD,x = .agg (cs.map .s++[.orow q])/\hp q=some (.arow e sz rows)/\rows.length=rs.length/\(∀ r∈rs,r.length=sz)/\(∀ k ob,hpD k=some ob->hp k=some ob/\k ≠ q) /\
   ∀ (i:Nat) x s,rows.flatten[i]? = some x->rs.flatten[i]? = some s->Rd hpD x s) :
  PSound P f (zD8 fun xs os x os'=>∃ cs rs,os=[]/\x = .agg (cs.map .s++[.orow 0])/\os'=[some (.row e sz rs)]/\S xs cs rs):=by
 refine PSound.ofOwn h.1 fun G w O xs vs os x os' hlt hgl hv hxl hob ⟨cs,rs,ho,hx,ho',hs⟩=>?_
 subst ho; subst hx; subst ho';refine(h.2.2.2 R rfl G w O xs vs (fun _=>none) 0 _ hlt hgl hv hxl ⟨fun k ob hk=>(by cases hk),fun k ob hk=>(by cases hk),fun k k' ob ob' hk=>(by cases hk)⟩ (hS xs cs rs hs)).mono ?_;rintro e' w' ⟨v,G',O',x,hp',n',rfl,⟨q,rows,hpD,rfl,hq,hlen,hsz,hD,hrd⟩,hn,hfr,hsub,hnew,hlt',hx,hxl,hob,hst⟩;let c:Cx:=zFp P w O (fun _=>none) 0 G 0;have hk:Keep G G' w w':=⟨hsub,fun b hb=>hfr.old b (hlt b hb) (by rintro⟨k,ob,h,_⟩; cases h)⟩;have hc:Conc c G' O' ⟨fun _=>.junk,hpD,n'⟩ { tmps:=#[],defers:=[] } w':={
  defers:=rfl
  size:=rfl
  env:=fun t=>by simp only[AVal]
  envlt:=fun t=>rfl
  hp:=fun k ob hk=>hob.obs k ob (hD k ob hk).1
  hplt:=fun k ob hk=>hob.lts k ob (hD k ob hk).1
  inj:=fun k k' ob ob' hk hk'=>hob.inj k k' ob ob' (hD k ob hk).1 (hD k' ob' hk').1
  lt:=hlt'
  sub:=hsub
  new:=hnew
  fr:=hfr
  stay:=⟨hn,hst⟩
  glob:=hgl.keep hk }
 have hmine:∀ b,c.mine b->w.heap.size<=b:=fun b hb=>by
  rcases hb with ⟨k,ob,h,_⟩ | h
  ·cases h
  exact h
 have hk':Keep G' (allG G' O' hpD) w' w':=⟨fun _ h=>.inl h,fun _ _=>rfl⟩;refine⟨v,allG G' O' hpD,fun _=>O' q,rfl,⟨hfr.os,hfr.tape,hfr.output,hfr.size,fun b hb _=>hfr.old b hb (by rintro⟨k,ob,h,_⟩; cases h)⟩,fun b hb=>.inl (hsub b hb),fun b hb=>?_,fun b hb=>?_,?_,?_,aQ _,⟨fun i ob hi=>?_,fun i j ob ob' hi hj hne=>?_⟩,fun i ob hi=>absurd hi (Nat.not_lt_zero _)⟩
 ·rcases hb with hb | ⟨k,ob,h1,h2⟩
  ·exact(hnew b hb).imp id fun h=>.inr (hmine b h)
  exact .inr (.inr (hmine b (row_block (hc.hp k ob h1) b h2).2))
 ·rcases hb with hb | ⟨k,ob,h1,h2⟩
  ·exact hlt' b hb
  exact hc.blk_lt h1 h2
 ·simp only[AVal]at hx ⊢;obtain⟨us,rfl,hus⟩:=hx;refine⟨us,rfl,AVals.mk (by rw[hus.length]; simp) fun i y u hy hu=>?_⟩;rw[aA]at hy
  by_cases hi:i<(cs.map AV.s).length
  ·rw[if_pos hi]at hy;obtain⟨u',hu',hr⟩:=hus.get (i:=i) (x:=y) (by rw[aA,if_pos hi]; exact hy);rw[hu]at hu'; cases hu';rw[ao]at hy;obtain⟨s,_,rfl⟩:=aH.1 hy;simp only[AVal]at hr ⊢;exact hr.keep hk'
  rw[if_neg hi]at hy;have h0:i - (cs.map AV.s).length=0 :=(by have:=(aa.1 hy).1; simpa using this);rw[h0]at hy;cases hy;obtain⟨u',hu',hr⟩:=hus.get (i:=i) (x:=.orow q) (by rw[aA,if_neg hi,h0]; rfl);rw[hu]at hu'; cases hu';simp only[AVal]at hr ⊢;exact hr
 ·simp only[AV.lt];refine zCB fun i y hy=>?_
  rw[aA]at hy;split at hy
  ·rw[ao]at hy;obtain⟨s,_,rfl⟩:=aH.1 hy;rfl
  rename_i hi;have h0:i - (cs.map AV.s).length=0 :=(by have:=(aa.1 hy).1; simpa using this);rw[h0]at hy;cases hy;rfl
 ·match i,hi with
  | 0,hi =>
   cases hi;refine⟨?_,rfl⟩;obtain⟨hl,hz,ho⟩:=hob.obs q _ hq;refine⟨hsz,hz,?_⟩;rcases ho with ⟨h1,rfl⟩ | ⟨b,cap,cur,h1,h2,h3,h4,h5,h6,h7⟩
   ·exact .inl ⟨h1,List.length_eq_zero_iff.1 (by simpa using hlen.symm)⟩
   refine .inr ⟨b,cap,cur,by rw[← hlen]; exact h1,by rw[← hlen]; exact h2,h3,h4,?_,.inr (hmine b h6),fun i s hi=>?_⟩
   ·rintro(hb | ⟨k,ob,g1,g2⟩)
    ·exact h5 hb
    exact hob.inj k q ob _ (hD k ob g1).1 hq (hD k ob g1).2 b g2 (by rw[h1]; rfl)
   have hfl:=zAL hl;have hfs:=zAL hsz;have hil:i<rows.flatten.length :=(by rw[hfl,hlen,← hfs]; exact(aa.1 hi).1);obtain⟨u,hu,hr',_⟩:=h7 i _ (ac hil);exact⟨u,hu,(hrd i _ s (ac hil) hi).rep hc hr'⟩
  | i+1,hi=>simp at hi
 match i,j,hi,hj with
 | 0,0,_,_=>exact absurd rfl hne
 | 0,j+1,_,hj=>simp at hj
 | i+1,_,hi,_=>simp at hi
section
attribute [local semireducible] Tri Le
variable {c:Cx} {V:St} {Q:End->St->Prop}
def TriL (c:Cx) (x:Code) (V:St) (Q:End->St->Prop):Prop :=
 ∀ G O a w,Conc c G O V a w->∀ (b:Frame) (k:List Item) (cs:List Frame),b.roundOf=(rF c.ro).round->(rF c.ro).fn b.fn->(rF c.ro).room (cs.length+1+2) ->
  ∃ e a' w',(∃ e' G' O' V',e=zEX e'/\Q e' V'/\Conc c G' O' V' a' w')/\ArrivesIn (Machine.fenced c.P (rF c.ro)) c.P (lone (b.atR a (.code x::.inLoop x::k)) cs w) b k cs e a' w'
variable {x:Code}
def zZt  (h:TriL c x V Q):Tri c (.loop x) V Q:=fun G O a w hc b k cs hro hb hr=>by
 obtain⟨e,a',w',hq,harr⟩:=h G O a w hc b k cs hro hb hr;exact⟨e,a',w',hq,.of_steps (.one (fenced_calm hb hr rfl) stepR_loop) harr⟩
def yBH (c:Cx) (x:Code) (Q:End->St->Prop):End->St->Prop
 | .normal,V=>TriL c x V Q
 | e,V=>Q e V
def zXe  (h:Tri c x V (yBH c x Q)):TriL c x V Q:=fun G O a w hc b k cs hro hb hr=>by
 obtain⟨e,a',w',⟨e',G',O',V',rfl,hq,hc'⟩,harr⟩:=h G O a w hc b (.inLoop x::k) cs hro hb hr;cases e' with
 | normal=>obtain⟨e2,a2,w2,hq2,harr2⟩:=hq G' O' a' w' hc' b k cs hro hb hr;exact gW
 | exit id=>exact⟨.exit id,a',w',⟨.exit id,G',O',V',rfl,hq,hc'⟩,.pass (x:=.inLoop x) rfl (fun _ _=>.inl (by simp[zEX])) harr⟩
 | ret=>exact⟨.ret,a',w',⟨.ret,G',O',V',rfl,hq,hc'⟩,.pass (x:=.inLoop x) rfl (fun _ _=>.inl (by simp[zEX])) harr⟩
def zZo {V':St} (hl:Le c V V') (h:TriL c x V' Q):TriL c x V Q:=fun G O a w hc =>
 let ⟨G',O',h'⟩:=hl G O a w hc
 h G' O' a w h'
end
attribute [irreducible] TriL
def upF:Nat->List Nat->List Nat
 | 0,l=>l
 | n+1,l=>upF n (n::l)
def ownB (O:Nat->Value) (hp:Nat->Option Ob):Nat->Prop:=fun b=>∃ k ob,hp k=some ob/\blk (O k)=some b
def rcx (P:Program) (N m l:Nat) (w:World) (X G:Nat->Prop) (B:Nat->Value):Cx:={ P:=P,w0:=w,X:=X,G0:=G,N:=N,n0:=m,B0:=B,ro:=some l }
def lcx (P:Program) (N m:Nat) (w:World) (X G:Nat->Prop) (B:Nat->Value) (D:Nat):Cx:={ P:=P,w0:=w,X:=X,G0:=G,N:=N,n0:=m,B0:=B,ds:=[{ target:=.collected D,args:=#[] }] }
variable {v:Value}{O:Nat->Value}{w:World}{G:Nat->Prop}
def ObAt.turn {c1 c2:Cx}{w2:World}{o:Ob} (hk:Keep G G w w2) (hb:∀ b,blk v=some b->w2.heap[b]? = w.heap[b]?) (hm:∀ b,blk v=some b->c2.mine b) (h:ObAt c1 G w O v o):ObAt c2 G w2 O v o:=by
 cases o with
 | box xs=>obtain⟨b,e,cur,q1,q2,q3,q4,q5,q6⟩:=h;exact⟨b,e,cur,q1,(hb b (by rw[q1]; rfl)).trans q2,q3,hm b (by rw[q1]; rfl),q5.keep hk,q6⟩
 | row e sz rows =>
  obtain⟨q1,q2,q3⟩:=h;refine⟨q1,q2,q3.imp id ?_⟩;rintro⟨b,cap,cur,g1,g2,g3,⟨mk,hmk,g4⟩,g5,g6,g7⟩;exact⟨b,cap,cur,g1,g2,g3,⟨mk,hmk,(hb b (by rw[g1]; rfl)).trans g4⟩,g5,hm b (by rw[g1]; rfl),fun i s hi=>let ⟨u,hu,hr⟩:=g7 i s hi; ⟨u,hu,hr.keep hk⟩⟩
 | arow e sz rows =>
  obtain⟨q1,q2,q3⟩:=h;refine⟨q1,q2,q3.imp id ?_⟩;rintro⟨b,cap,cur,g1,g2,g3,⟨mk,hmk,g4⟩,g5,g6,g7⟩;exact⟨b,cap,cur,g1,g2,g3,⟨mk,hmk,(hb b (by rw[g1]; rfl)).trans g4⟩,g5,hm b (by rw[g1]; rfl),fun i s hi=>let ⟨u,hu,hr,h1⟩:=g7 i s hi; ⟨u,hu,hr.keep hk,h1⟩⟩
 | any τ xs=>obtain⟨b,o,vs,q1,q2,q3,q4,q5,q6⟩:=h;exact⟨b,o,vs,q1,(hb b q1).trans q2,q3,hm b q1,q5.keep hk,q6⟩
def yDI:Obj->Bool
 | .loop _ | .deferred _=>true
 | _=>false
def ObAt.cells {c:Cx}{o:Ob} (h:ObAt c G w O v o):∀ b,blk v=some b->∃ o,w.heap[b]? = some o/\yDI o=false:=fun b hb=>by
 cases o with
 | box xs=>obtain⟨b',e,cur,rfl,q2,_⟩:=h;cases hb; exact⟨_,q2,rfl⟩
 | row e sz rows =>
  obtain⟨_,_,h | ⟨b',cap,cur,rfl,_,_,q2,_⟩⟩:=h
  ·rw[h.1]at hb; cases hb
  cases hb; obtain⟨mk,_,q2⟩:=q2; exact⟨_,q2,rfl⟩
 | arow e sz rows =>
  obtain⟨_,_,h | ⟨b',cap,cur,rfl,_,_,q2,_⟩⟩:=h
  ·rw[h.1]at hb; cases hb
  cases hb; obtain⟨mk,_,q2⟩:=q2; exact⟨_,q2,rfl⟩
 | any τ xs=>
 obtain⟨b',o,vs,q1,q2,_,_,_,q6⟩:=h;rw[q1]at hb; cases hb;refine⟨o,q2,?_⟩;cases τ with
 | map keys=>obtain⟨_,rfl,_⟩:=q6; rfl
 | iter since seen stepped=>obtain⟨_,bm,_,rfl⟩:=q6; rfl
section
variable {c:Cx} {G:Nat->Prop} {O:Nat->Value} {V:St} {a:Act} {w:World}
def Conc.not_own (hc:Conc c G O V a w){l:Nat}{o:Obj} (hl:w.heap[l]? = some o) (ho:yDI o=true):¬ ownB O V.hp l:=fun⟨k,ob,h1,h2⟩=>by
 obtain⟨o',h3,h4⟩:=(hc.hp k ob h1).cells l h2;rw[hl]at h3;cases h3;rw[ho]at h4; cases h4
def Conc.re (hc:Conc c G O V a w){c2:Cx}{w2:World}{a2:Act}{env2:Nat->AV} (hk:∀ b,G b->w2.heap[b]? = w.heap[b]?) (ho:∀ b,ownB O V.hp b->w2.heap[b]? = w.heap[b]?) (hs:w.heap.size<=w2.heap.size)
  (hd:a2.defers=c2.ds) (hN:a2.tmps.size=c2.N) (he:∀ t,AVal G w O (env2 t) (a2.tmps.getD t undef)) (hel:∀ t,(env2 t).lt V.nx=true) (hm:∀ b,ownB O V.hp b->c2.mine b)
  (hsub:∀ b,c2.G0 b->G b) (hnew:∀ b,G b->c2.G0 b∨c2.mine b) (hfr:Fr c2.X c2.w0 w2) (hst:c2.n0<=V.nx/\∀ k,k<c2.n0->O k=c2.B0 k):Conc c2 G O ⟨env2,V.hp,V.nx⟩ a2 w2:=by
 have hkp:Keep G G w w2:=⟨fun _ h=>h,hk⟩;exact {
  defers:=hd
  size:=hN
  env:=fun t=>(he t).keep hkp
  envlt:=hel
  hp:=fun k ob h=>(hc.hp k ob h).turn hkp (fun b hb=>ho b ⟨k,ob,h,hb⟩) (fun b hb=>hm b ⟨k,ob,h,hb⟩)
  hplt:=hc.hplt
  inj:=hc.inj
  lt:=fun b hb=>a9 (hc.lt b hb) hs
  sub:=hsub
  new:=hnew
  fr:=hfr
  stay:=hst
  glob:=hc.glob.keep hkp }
def Ext.alloc0 (h:∀ b,G b->b<w.heap.size) (o:Obj):Ext G G w (w.alloc o) :=
 ⟨rfl,rfl,rfl,by rw[bG]; omega,fun b hb=>zBV w o hb,fun _ h=>h,fun _ h=>.inl h,fun b hb=>by rw[bG]; have:=h b hb; omega⟩
end
structure Sw (c c2:Cx) (D:Nat):Prop where
 fr:Fr c.X c.w0 c2.w0
 mine:∀ b,c2.X b->c.mine b
 sub:∀ b,c.G0 b->c2.G0 b
 new:∀ b,c2.G0 b->c.G0 b∨c.mine b
 blk:c2.w0.heap[D]? = some (.deferred (some []))
 nX:¬ c2.X D
 nG:¬ c2.G0 D
 ge:c.w0.heap.size<=D
def Rl (w:World) (X:Nat->Prop) (l:Nat):Prop:=(∃ r,w.heap[l]? = some (.loop r))/\¬ X l
def zZ7 {tm:Array Value}{p t:Nat}{v:Value} (hp:p<tm.size):(tm.setIfInBounds p v).getD t undef=if t=p then v else tm.getD t undef:=by
 rw[Array.getD_eq_getD_getElem?,Array.getD_eq_getD_getElem?];by_cases h:t=p
 ·subst h;rw[if_pos rfl,Array.getElem?_setIfInBounds_self_of_lt hp];rfl
 rw[if_neg h,Array.getElem?_setIfInBounds_ne (Ne.symm h)]
def nbeq {a b:Nat} (h:a ≠ b):Nat.beq a b=false:=by
 cases e:Nat.beq a b with
 | false=>rfl
 | true=>exact absurd (ab e) h
section
variable {c c2:Cx} {G G2:Nat->Prop} {O O2:Nat->Value} {V V2:St} {a a2:Act} {w w2:World}
def Conc.poked (hc:Conc c G O V a w){l:Nat}{o:Obj} (hG:¬ G l) (ho:¬ ownB O V.hp l) (hd:a.defers=c2.ds) (hN:a.tmps.size=c2.N) (hm:∀ b,ownB O V.hp b->c2.mine b) (hsub:∀ b,c2.G0 b->G b) (hnew:∀ b,G b->c2.G0 b∨c2.mine b)
  (hfr:Fr c2.X c2.w0 (w.putObj l o)) (hst:c2.n0<=V.nx/\∀ k,k<c2.n0->O k=c2.B0 k):Conc c2 G O V a (w.putObj l o) :=
 have hoth:∀ b,b ≠ l->(w.putObj l o).heap[b]? = w.heap[b]?:=fun b hb=>World.putObj_heap_other hb
 hc.re (c2:=c2) (fun b hb=>hoth b fun h=>hG (h ▸ hb)) (fun b hb=>hoth b fun h=>ho (h ▸ hb)) (by rw[World.putObj_size]; exact ar _) hd hN hc.env hc.envlt hm hsub hnew hfr hst
def Conc.own_mine (hc:Conc c G O V a w):∀ b,ownB O V.hp b->c.mine b:=fun b ⟨k,ob,q1,q2⟩=>(row_block (hc.hp k ob q1) b q2).2
def Conc.own_G (hc:Conc c G O V a w){b:Nat} (h:ownB O V.hp b):¬ G b:=let ⟨k,ob,q1,q2⟩:=h; (row_block (hc.hp k ob q1) b q2).1
def Conc.poke (hc:Conc c G O V a w){l:Nat} (o:Obj) (hl:c.w0.heap.size<=l) (hG:¬ G l) (ho:¬ ownB O V.hp l):Conc c G O V a (w.putObj l o) :=
 hc.poked hG ho hc.defers hc.size hc.own_mine hc.sub hc.new ⟨hc.fr.os,hc.fr.tape,hc.fr.output,by rw[World.putObj_size]; exact hc.fr.size,fun b hb hx=>(World.putObj_heap_other (by omega)).trans (hc.fr.old b hb hx)⟩ hc.stay
def Conc.stand (h1:Conc c G O V a w) (h2:Conc c2 G2 O2 V2 a2 w2) (e1:c2.w0=w) (e2:∀ b,c2.X b->ownB O V.hp b) (e3:c2.G0=G) (e4:c2.B0=O){m:Nat} (e5:c2.n0=m) (hm:∀ t,(V.env t).lt m=true) (h0:c.n0<=m):Conc c G2 O2 ⟨V.env,V2.hp,V2.nx⟩ a w2:=by
 subst e1 e3 e4 e5;have hkeep:∀ b,c2.G0 b->w2.heap[b]? = c2.w0.heap[b]?:=fun b h=>h2.fr.old b (h1.lt b h) fun hx=>h1.own_G (e2 b hx) h
 have hbeta:∀ k,k<c2.n0->O2 k=c2.B0 k:=h2.stay.2;have hmine:∀ b,c2.mine b->c.mine b:=fun b h=>h.elim (fun h=>h1.own_mine b (e2 b h)) fun h=>.inr (bc h1.fr.size h)
 exact h2.re (c2:=c) (fun _ _=>rfl) (fun _ _=>rfl) (ar _) h1.defers h1.size (fun t=>((h1.env t).keep ⟨h2.sub,hkeep⟩).beta hbeta (hm t)) (fun t=>AV.lt_mono h2.stay.1 (hm t)) (fun b hb=>hmine b (h2.own_mine b hb))
  (fun b hb=>h2.sub b (h1.sub b hb)) (fun b hb=>(h2.new b hb).elim (h1.new b) fun h=>.inr (hmine b h))
  ⟨h2.fr.os.trans h1.fr.os,h2.fr.tape.trans h1.fr.tape,h2.fr.output.trans h1.fr.output,bc h1.fr.size h2.fr.size,fun b hb hx=>(h2.fr.old b (a9 hb h1.fr.size) fun h=>(h1.own_mine b (e2 b h)).elim hx fun h=>by omega).trans (h1.fr.old b hb hx)⟩
  ⟨bc h0 h2.stay.1,fun k hk=>(hbeta k (a9 hk h0)).trans (h1.stay.2 k hk)⟩
end
def zUV {P:Program}{G:Nat->Prop}{O:Nat->Value}{V:St}{W:World}{l m N:Nat}{rec:Loop} (h1:W.heap[l]? = some (.loop rec)) (hst:rec.state = .ready) (hpe:rec.pending=none) (hnl:¬ G l){vs:Array Value} (hvs:vs.size=rec.params.size)
  (hA:Conc (rcx P N m l W (ownB O V.hp) G O) G O V { tmps:=(rec.params.zip vs).foldl (fun tmps (t,a)=>tmps.setIfInBounds t a) rec.tmps,defers:=[] } W) {Q:(Nat->Option Ob)->Nat->Prop}
  (hround:∀ w X G B,Rl w X l->Tri (rcx P N m l w X G B) rec.assign V (fun e V1=>e = .normal/\∀ w X G B,Rl w X l->Tri (rcx P N m l w X G B) rec.body V1 (fun e V2=>e = .normal/\∃ V3,Le (rcx P N m l w X G B) V2 V3/\Q V3.hp V3.nx)))
  {R:Ending->World->Prop} (hR:∀ G' O' hp' nx' W2,Q hp' nx'->W2.heap[l]? = some (.loop rec)->¬ G' l->(∀ b,G b->G' b)->(∀ b,G' b->G b∨ownB O V.hp b∨W.heap.size<=b)->W.heap.size<=W2.heap.size->(∀ b,b<W.heap.size->b ≠ l->¬ ownB O V.hp b->W2.heap[b]? = W.heap[b]?)->m<=nx'->(∀ k,k<m->O' k=O k) ->
   (∀ c' env' a',Conc c' G O ⟨env',V.hp,V.nx⟩ a' W->(∀ t,(env' t).lt m=true)->c'.n0<=m->c'.w0.heap.size<=l->Conc c' G' O' ⟨env',hp',nx'⟩ a' W2)->R (.returned (.bool true)) W2) :
  YieldAt Fence.wide 0 P l vs W R:=by
 have hnol:¬ ownB O V.hp l:=hA.not_own h1 rfl;have hlW:l<W.heap.size:=(aJ.1 h1).1;refine⟨rec.fn,_,rec.assign,rec.body,run_yield h1 hvs,roundIn_of_wpIn trivial ?_⟩;have hTri:=hround W (ownB O V.hp) G O ⟨⟨_,h1⟩,hnol⟩;unfold Tri at hTri;refine wpIn_mono (zZC (m:=0) (hTri _ _ _ _ hA)) ?_;rintro e a1 Wb ⟨e',G2,O2,V1,rfl,⟨rfl,hbody⟩,hB⟩;have bl:Wb.heap[l]? = W.heap[l]?:=hB.fr.old l hlW hnol;have hlb:l<Wb.heap.size:=a9 hlW hB.fr.size;have hn2l:¬ G2 l:=fun h=>(hB.new l h).elim hnl (fun h=>h.elim hnol (fun h=>by have:W.heap.size<=l:=h; omega))
 have hno1l:¬ ownB O2 V1.hp l:=hB.not_own (bl.trans h1) rfl;refine⟨_,run_beginRound (bl.trans h1) hst,?_⟩;have hB2:Conc (rcx P N m l (Wb.putObj l (.loop { rec with state:=.busy })) (ownB O2 V1.hp) G2 O2) G2 O2 V1 a1 (Wb.putObj l (.loop { rec with state:=.busy })):=hB.poked hn2l hno1l hB.defers hB.size (fun _ h=>.inl h) (fun _ h=>h) (fun _ h=>.inl h) (Fr.refl _ _) ⟨hB.stay.1,fun _ _=>rfl⟩;have l2:(Wb.putObj l (.loop { rec with state:=.busy })).heap[l]? = some (.loop { rec with state:=.busy }):=World.putObj_heap_same hlb;have sz2:(Wb.putObj l (.loop { rec with state:=.busy })).heap.size=Wb.heap.size:=World.putObj_size;have oth2:∀ b,b ≠ l->(Wb.putObj l (.loop { rec with state:=.busy })).heap[b]? = Wb.heap[b]?:=fun b hb=>World.putObj_heap_other hb
 have tr2:∀ c' env' a',Conc c' G O ⟨env',V.hp,V.nx⟩ a' W->(∀ t,(env' t).lt m=true)->c'.n0<=m->c'.w0.heap.size<=l->Conc c' G2 O2 ⟨env',V1.hp,V1.nx⟩ a' (Wb.putObj l (.loop { rec with state:=.busy })):=fun c' env' a' hc he h0 hl=>(hc.stand hB rfl (fun _ h=>h) rfl rfl rfl he h0).poke _ hl hn2l hno1l
 generalize Wb.putObj l (.loop { rec with state:=.busy })=W2 at hB2 l2 sz2 oth2 tr2 ⊢;have hTri2:=hbody W2 (ownB O2 V1.hp) G2 O2 ⟨⟨_,l2⟩,hno1l⟩;unfold Tri at hTri2;refine wpIn_mono (zZC (m:=0) (hTri2 _ _ _ _ hB2)) ?_;rintro e a2 Wc ⟨e',G3,O3,V2,rfl,⟨rfl,V3,hle,hQ⟩,hC0⟩;unfold Le at hle;obtain⟨G4,O4,hC⟩:=hle _ _ _ _ hC0;have hl2:l<W2.heap.size :=(by omega);have cl:Wc.heap[l]? = W2.heap[l]?:=hC.fr.old l hl2 hno1l;have hn4l:¬ G4 l:=fun h=>(hC.new l h).elim hn2l (fun h=>h.elim hno1l (fun h=>by have:W2.heap.size<=l:=h; omega))
 have hno3l:¬ ownB O4 V3.hp l:=hC.not_own (cl.trans l2) rfl;have szB:=hB.fr.size;have szC:=hC.fr.size;simp only[rcx]at szB szC;have hmB:∀ b,ownB O2 V1.hp b->ownB O V.hp b∨W.heap.size<=b:=hB.own_mine;refine⟨_,_,run_endRound none (cl.trans l2),hR G4 O4 V3.hp V3.nx _ hQ ?_ hn4l (fun b h=>hC.sub b (hB.sub b h)) (fun b h=>?_) (by rw[World.putObj_size]; omega) (fun b hb hbl hbo=>?_) hC.stay.1 (fun k hk=>(hC.stay.2 k hk).trans (hB.stay.2 k hk)) fun c' env' a' hc he h0 hl=>?_⟩
 ·rw[World.putObj_heap_same (by omega)];cases rec;simp only at hst hpe;subst hst hpe;rfl
 ·rcases hC.new b h with h | h | h
  ·rcases hB.new b h with h | h | h
   ·exact .inl h
   ·exact .inr (.inl h)
   exact .inr (.inr h)
  ·exact .inr (hmB b h)
  exact .inr (.inr (bc (by show W.heap.size<=W2.heap.size; omega) h))
 ·rw[World.putObj_heap_other hbl,hC.fr.old b (by show b<W2.heap.size; omega) (fun h=>(hmB b h).elim hbo (fun h=>by omega))];exact(oth2 b hbl).trans (hB.fr.old b hb hbo)
 exact((tr2 c' env' a' hc he h0 hl).stand hC rfl (fun _ h=>h) rfl rfl rfl he h0).poke _ hl hn4l hno3l
def TriX (c:Cx) (code:Code) (V:St) (Φ:Exit->Act->World->Prop):Prop:=∀ G O a w,Conc c G O V a w->code.wpIn (rF none) 2 c.P Φ a w
section
variable {c:Cx} {V:St} {Φ:Exit->Act->World->Prop}
variable {x y:Code}
def yBl  (h:TriX c x V (Exit.then (y.wpIn (rF none) 2 c.P Φ) Φ)):TriX c (.seq x y) V Φ:=fun G O a w hc=>wpIn_seq (h G O a w hc)
def zXg {id:Nat} (h:TriX c x V (Exit.inBlock id Φ)):TriX c (.block id x) V Φ:=fun G O a w hc=>wpIn_block (h G O a w hc)
def zRx  (hro:c.ro=none) (h:Tri c x V (fun e V'=>e = .normal/\TriX c y V' Φ)):TriX c (.seq x y) V Φ:=fun G O a w hc=>by
 unfold Tri at h;rw[hro]at h;refine wpIn_seq (wpIn_mono (h G O a w hc) ?_);rintro e a' w' ⟨e',G',O',V',rfl,⟨rfl,hq⟩,hc'⟩;exact hq G' O' a' w' hc'
end
variable {code:Code}{fn:Func}
def zX4 {c c2:Cx}{D:Nat}{T:Nat->Option TI} (hT:TOk c2.P T){r:Ret}{V:St} (hsw:Sw c c2 D) (hX:∀ b,¬ c.X b) (hro:c2.ro=none) (hds:c2.ds=[{ target:=.collected D,args:=#[] }])
  (h:Tri c2 code V (fun e V'=>match e with | .exit _=>False | _=>zBF c2 T fn.results.toList r V')) :
  TriX c2 code V (bodyPostM (rF none) 2 c2.P fn fun e W'=>∃ v G',e = .returned v/\Ext c.G0 G' c.w0 W'/\RetAt G' c.w0 W' r v):=fun G O a w hc=>by
 unfold Tri at h;rw[hro]at h;refine wpIn_mono (h G O a w hc) ?_;rintro e a' w' ⟨e',G',O',V',rfl,hq,hc'⟩;have fin:zBF c2 T fn.results.toList r V'->LeavesInM (rF none) 2 c2.P fn a'.tmps (fun e W'=>∃ v G',e = .returned v/\Ext c.G0 G' c.w0 W'/\RetAt G' c.w0 W' r v) a'.defers .returning w':=fun hq=>by
  unfold zBF at hq;obtain⟨V2,hle,hr⟩:=hq;unfold Le at hle;obtain⟨G2,O2,hc2⟩:=hle G' O' a' w' hc';have hDl:D<c2.w0.heap.size:=(aJ.1 hsw.blk).1;have hD:w'.heap[D]? = some (.deferred (some [])):=(hc2.fr.old D hDl hsw.nX).trans hsw.blk;have hnG:¬ G2 D:=fun h=>(hc2.new D h).elim hsw.nG (fun h=>h.elim hsw.nX (fun h=>by omega))
  have hnO:¬ ownB O2 V2.hp D:=hc2.not_own hD rfl;rw[hc'.defers,hds];refine⟨by simp,.inl ⟨_,_,rfl,run_takeDeferred hD,?_⟩⟩;generalize hW:w'.putObj D (.deferred none)=W;have oth:∀ b,b ≠ D->W.heap[b]? = w'.heap[b]?:=fun b hb=>by rw[← hW]; exact World.putObj_heap_other hb
  have sz:W.heap.size=w'.heap.size :=(by rw[← hW]; exact World.putObj_size);have hge:=hsw.ge;have hmine:∀ b,c2.mine b->c.w0.heap.size<=b:=fun b hb=>by
   rcases hb with hb | hb
   ·exact(hsw.mine b hb).elim (fun h=>absurd h (hX b)) id
   exact bc hsw.fr.size hb
  have hc3:Conc { P:=c2.P,w0:=W,X:=fun b=>c.w0.heap.size<=b,G0:=G2,N:=c2.N } G2 O2 ⟨V2.env,V2.hp,V2.nx⟩ { a' with defers:=[] } W :=
   hc2.re (c2:={ P:=c2.P,w0:=W,X:=fun b=>c.w0.heap.size<=b,G0:=G2,N:=c2.N }) (fun b hb=>oth b fun h=>hnG (h ▸ hb)) (fun b hb=>oth b fun h=>hnO (h ▸ hb)) (by rw[sz]; exact ar _) rfl hc2.size hc2.env hc2.envlt
    (fun b ⟨k,ob,q1,q2⟩=>.inl (hmine b (row_block (hc2.hp k ob q1) b q2).2)) (fun b h=>h) (fun b h=>.inl h) (Fr.refl _ _) ⟨aQ _,fun k hk=>by cases hk⟩
  have hext:Ext c.G0 G2 c.w0 W:=by
   refine⟨?_,?_,?_,?_,fun b hb=>?_,fun b hb=>hc2.sub b (hsw.sub b hb),fun b hb=>?_,fun b hb=>by rw[sz]; exact hc2.lt b hb⟩
   ·rw[← hW]; show w'.os=_; rw[hc2.fr.os]; exact hsw.fr.os
   ·rw[← hW]; show w'.tape=_; rw[hc2.fr.tape]; exact hsw.fr.tape
   ·rw[← hW]; show w'.output=_; rw[hc2.fr.output]; exact hsw.fr.output
   ·have h1:=hc2.fr.size; have h2:=hsw.fr.size; omega
   ·have h2:=hsw.fr.size;exact(oth b (by omega)).trans ((hc2.fr.old b (by omega) (fun h=>(hsw.mine b h).elim (hX b) (fun h=>by omega))).trans (hsw.fr.old b hb (hX b)))
   rcases hc2.new b hb with h | h
   ·exact(hsw.new b h).imp id (fun h=>h.elim (fun h=>absurd h (hX b)) id)
   exact .inr (hmine b h)
  unfold RetAt;split at hr
  ·rename_i x;obtain⟨v,h1,h2⟩:=zHm (c:={ P:=c2.P,w0:=W,X:=fun b=>c.w0.heap.size<=b,G0:=G2,N:=c2.N }) hT hc3 hr.1;exact⟨v,h1,v,G2,rfl,hext,hr.2,AVal.pers hr.2 h2⟩
  rename_i e sz' rows;obtain⟨k,hk1,hk2⟩:=hr;obtain⟨v,h1,h2⟩:=zHm (c:={ P:=c2.P,w0:=W,X:=fun b=>c.w0.heap.size<=b,G0:=G2,N:=c2.N }) hT hc3 hk1;refine⟨v,h1,v,G2,rfl,hext,?_⟩;simp only[AVal]at h2;obtain⟨rfl,_⟩:=h2;obtain⟨q1,q2,q3⟩:=hc3.hp k _ hk2;refine⟨q1,q2,q3.imp id ?_⟩;rintro⟨b,cap,cur,g1,g2,g3,g4,g5,g6,g7⟩;refine⟨b,cap,cur,g1,g2,g3,g4,g5,g6.elim id (fun h=>?_),g7⟩;have h:W.heap.size<=b:=h;have:=g4.lt;omega
 cases e' with
 | normal=>exact fin hq
 | ret=>exact fin hq
 | exit id=>exact hq.elim
def yCD {P:Program}{f:Nat}{s:zAq} (hcall:∀ args w,(callFunc f args).run P w = .ok (.enter f args) w)
  (hf:P.funcs[f]? = some fn) (hb:fn.body=some code) (hn:∀ xs r,s.spec xs r->xs.length<=fn.ntmps)
  (N:Nat) (hN:fn.ntmps=N)
  (h:∀ xs r w0 G0,s.spec xs r->AV.persAll xs=true->TriX (zDX P w0 G0 N) code (start xs) (bodyPostM (rF none) 2 P fn fun e W'=>∃ v G',e = .returned v/\Ext G0 G' w0 W'/\RetAt G' w0 W' r v)) (hown:s.own=none:=by rfl) (hheap:s.heap=none:=by rfl):PSound P f s:=by
 subst hN;refine⟨hcall,fun G w xs vs r hlt hgl hp hv hpre=>?_,fun R hR=>(by rw[hown]at hR; cases hR),fun R hR=>(by rw[hheap]at hR; cases hR)⟩;have hlen:=hv.length;have hxn:=hn xs r hpre;have hc:Conc (zDX P w G fn.ntmps) G (fun _=>.tuple #[]) (start xs) { tmps:=vs.toArray++Array.replicate (fn.ntmps - vs.toArray.size) undef,defers:=[] } w:={
  defers:=rfl
  size:=by simp only[Array.size_append,size_toArray,Array.size_replicate]; show _=fn.ntmps; omega
  env:=zKs hv
  envlt:=zNv (AV.persAll_lt hp)
  hp:=fun k ob hk=>by simp[start]at hk
  hplt:=fun k ob hk=>by simp[start]at hk
  inj:=fun k k' ob ob' hk=>by simp[start]at hk
  lt:=hlt
  sub:=fun b hb=>hb
  new:=fun b hb=>.inl hb
  fr:=Fr.refl _ _
  stay:=⟨ar _,fun k hk=>by cases hk⟩
  glob:=hgl }
 exact callsIn_wide.1 (callsIn_of_wp_marks hf hb trivial (h xs r w G hpre hp G _ _ w hc))
structure Hd where
 c:Cx
 env:Nat->AV
 a:Act
 N:Nat
 m:Nat
 l:Nat
 D:Nat
 ky:Nat
 p:List Nat
 rc:Loop
structure Hd.Ok (h:Hd):Prop where
 ro:h.c.ro=none
 ds:h.c.ds=[]
 n0:h.c.n0<=h.m
 lt:∀ t,(h.env t).lt h.m=true
 l:h.c.w0.heap.size<=h.l
 D:h.c.w0.heap.size<=h.D
 ne:h.D ≠ h.l
 ky:h.ky<h.m
 st:h.rc.state = .ready
 pe:h.rc.pending=none
 ps:h.rc.params=h.p.toArray
 tm:h.rc.tmps=h.a.tmps
 p:∀ p∈h.p,p<h.c.N
def Hd.held (h:Hd) (τ:St) (ai:Act) (W:World):Prop :=
 ∃ G O,Conc h.c G O ⟨h.env,τ.hp,τ.nx⟩ h.a W/\Conc { h.c with N:=h.N } G O τ ai W/\W.heap[h.l]? = some (.loop h.rc)/\W.heap[h.D]? = some (.deferred (some []))/\¬ G h.l/\¬ G h.D/\h.m<=τ.nx/\O h.ky = .func (.yield h.l) #[] #[]
def Hd.cx (h:Hd) (w:World) (X G:Nat->Prop) (B:Nat->Value):Cx:={ P:=h.c.P,w0:=w,X:=X,G0:=G,N:=h.N,n0:=h.m,B0:=B }
def TriY (h:Hd) (x:Code) (τ:St) (Q:End->St->Prop):Prop :=
 ∀ a W,h.held τ a W->x.wpIn (rF none) 1 h.c.P (fun e a' W'=>∃ e' τ',e=zEX e'/\Q e' τ'/\h.held τ' a' W') a W
section
variable {h:Hd} (ho:h.Ok) {τ:St} {Q:End->St->Prop}
include ho
def Hd.go {ai:Act}{W:World} (hh:h.held τ ai W):∃ G O,Conc (h.cx W (ownB O τ.hp) G O) G O τ ai W/\∀ G' O' τ' a' W',Conc (h.cx W (ownB O τ.hp) G O) G' O' τ' a' W'->h.held τ' a' W':=by
 obtain⟨G,O,h1,h2,hl,hD,nl,nD,hm,hy⟩:=hh;have e0:h2.defers.trans ho.ds=h2.defers.trans ho.ds:=rfl;refine⟨G,O,h2.re (c2:=h.cx W (ownB O τ.hp) G O) (fun _ _=>rfl) (fun _ _=>rfl) (ar _) (h2.defers.trans ho.ds) h2.size h2.env h2.envlt (fun _ h=>.inl h) (fun _ h=>h) (fun _ h=>.inl h) (Fr.refl _ _) ⟨hm,fun _ _=>rfl⟩,fun G' O' τ' a' W' hc=>?_⟩;have s1:=h1.stand hc rfl (fun _ h=>h) rfl rfl rfl ho.lt ho.n0;have nol:¬ ownB O τ.hp h.l:=h2.not_own hl rfl;have noD:¬ ownB O τ.hp h.D:=h2.not_own hD rfl;have ll:=(aJ.1 hl).1;have lD:=(aJ.1 hD).1;have new:∀ b,b<W.heap.size->¬ G b->¬ ownB O τ.hp b->¬ G' b:=fun b hb h1 h2 h=>(hc.new b h).elim h1 fun h=>h.elim h2 fun h=>by have:W.heap.size<=b:=h; omega
 exact⟨G',O',s1,hc.re (c2:={ h.c with N:=h.N }) (fun _ _=>rfl) (fun _ _=>rfl) (ar _) (hc.defers.trans ho.ds.symm) hc.size hc.env hc.envlt s1.own_mine s1.sub s1.new s1.fr s1.stay,
  (hc.fr.old _ ll nol).trans hl,(hc.fr.old _ lD noD).trans hD,new _ ll nl nol,new _ lD nD noD,hc.stay.1,(hc.stay.2 _ ho.ky).trans hy⟩
variable {x:Code}
def zZs  (ht:∀ W X G B,Tri (h.cx W X G B) x τ Q):TriY h x τ Q:=fun a W hh=>by
 obtain⟨G,O,hc,hk⟩:=Hd.go ho hh;have:=ht W (ownB O τ.hp) G O;unfold Tri at this;refine wpIn_mono (zZC (m:=1) (this G O a W hc)) ?_;rintro e a' W' ⟨e',G',O',τ',rfl,hq,hc'⟩;exact⟨e',τ',rfl,hq,hk G' O' τ' a' W' hc'⟩
omit ho
def yEs (h:Hd) (y:Code) (Q:End->St->Prop):End->St->Prop
 | .normal,τ=>TriY h y τ Q
 | e,τ=>Q e τ
variable {y:Code}
def zV4  (ht:TriY h x τ (yEs h y Q)):TriY h (.seq x y) τ Q:=fun a W hh=>by
 refine wpIn_seq (wpIn_mono (ht a W hh) ?_);rintro e a' W' ⟨e',τ',rfl,hq,hh'⟩;cases e' with
 | normal=>exact hq a' W' hh'
 | exit id=>exact⟨.exit id,τ',rfl,hq,hh'⟩
 | ret=>exact⟨.ret,τ',rfl,hq,hh'⟩
def zP7 {id:Nat} (ht:TriY h x τ (zPr id Q)):TriY h (.block id x) τ Q:=fun a W hh=>by
 refine wpIn_block (wpIn_mono (ht a W hh) ?_);rintro e a' W' ⟨e',τ',rfl,hq,hh'⟩;cases e' with
 | normal=>exact⟨.normal,τ',rfl,hq,hh'⟩
 | ret=>exact⟨.ret,τ',rfl,hq,hh'⟩
 | exit j=>
 simp only[zPr]at hq;show Exit.inBlock id _ (.exit j) a' W';unfold Exit.inBlock;dsimp only;split at hq
 ·rename_i e;rw[if_pos (ab e)];exact⟨.normal,τ',rfl,hq,hh'⟩
 rename_i e;rw[if_neg (Nat.ne_of_beq_eq_false e)];exact⟨.exit j,τ',rfl,hq,hh'⟩
def zTI {t:Nat}{b:Bool} (hb:τ.env t = .s (.bool b)) (h1:b=true->TriY h x τ Q) (h2:b=false->TriY h y τ Q):TriY h (.cond (.tmp t) x y) τ Q:=fun a W hh=>by
 obtain⟨G,O,_,hc,_⟩:=id hh;have e:=hc.env t;rw[hb]at e;simp only[AVal,Rep]at e;exact wpIn_cond_split (t:=b) e (fun e=>h1 e a W hh) (fun e=>h2 e a W hh)
def zSd (h:Hd) (x:Code) (τ:St) (Q:End->St->Prop):Prop :=
 ∀ a W,h.held τ a W->∀ (b:Frame) (k:List Item) (cs:List Frame),b.roundOf=(rF none).round->(rF none).fn b.fn->(rF none).room (cs.length+1+1) ->
  ∃ e a' W',(∃ e' τ',e=zEX e'/\Q e' τ'/\h.held τ' a' W')/\ArrivesIn (Machine.fenced h.c.P (rF none)) h.c.P (lone (b.atR a (.code x::.inLoop x::k)) cs W) b k cs e a' W'
def zZq  (ht:zSd h x τ Q):TriY h (.loop x) τ Q:=fun a W hh b k cs hro hb hr=>by
 obtain⟨e,a',W',hq,harr⟩:=ht a W hh b k cs hro hb hr;exact⟨e,a',W',hq,.of_steps (.one (fenced_calm hb hr rfl) stepR_loop) harr⟩
def yEa (h:Hd) (x:Code) (Q:End->St->Prop):End->St->Prop
 | .normal,τ=>zSd h x τ Q
 | e,τ=>Q e τ
def zOz  (ht:TriY h x τ (yEa h x Q)):zSd h x τ Q:=fun a W hh b k cs hro hb hr=>by
 obtain⟨e,a',W',⟨e',τ',rfl,hq,hh'⟩,harr⟩:=ht a W hh b (.inLoop x::k) cs hro hb hr;cases e' with
 | normal=>obtain⟨e2,a2,w2,hq2,harr2⟩:=hq a' W' hh' b k cs hro hb hr;exact gW
 | exit id=>exact⟨.exit id,a',W',⟨.exit id,τ',rfl,hq,hh'⟩,.pass (x:=.inLoop x) rfl (fun _ _=>.inl (by simp[zEX])) harr⟩
 | ret=>exact⟨.ret,a',W',⟨.ret,τ',rfl,hq,hh'⟩,.pass (x:=.inLoop x) rfl (fun _ _=>.inl (by simp[zEX])) harr⟩
include ho
def zV3 {τ':St} (hl:∀ W X G B,Le (h.cx W X G B) τ τ') (ht:zSd h x τ' Q):zSd h x τ Q:=fun a W hh=>by
 obtain⟨G,O,hc,hk⟩:=Hd.go ho hh;have:=hl W (ownB O τ.hp) G O;unfold Le at this;obtain⟨G',O',hc'⟩:=this _ _ _ _ hc;exact ht a W (hk _ _ _ _ _ hc')
omit ho
end
variable {Q:Exit->Act->World->Prop}{K:Act->World->Prop}{w:World}{a:Act}{o:Oper}{P:Program}
def yAu {Q':Exit->Act->World->Prop} (hQ:∀ e a w,e ≠ .normal->Q e a w->Q' e a w) (h:o.wp P a w K Q):o.wp P a w K Q':=by
 unfold Oper.wp at h ⊢;unfold Oper.upon at h ⊢;generalize Sem.run P (execOp a.eval o) w=r at h ⊢;split at h
 ·exact h
 ·exact h
 ·exact h
 ·refine h.mono fun e w' he=>?_
  cases e with
  | returned v=>exact he
  | panicked c=>exact hQ _ _ _ (by intro h; cases h) he
  | outgrown=>exact he.imp fun a h=>h.imp fun w h=>hQ _ _ _ (by intro h; cases h) h
 ·exact h
 ·exact hQ _ _ _ (by intro h; cases h) h
 exact h.elim
def zQa {ro:Option Nat}{n:Nat}{P:Program}{ops:Array Oper}{Q Q1:Exit->Act->World->Prop}{rest:List Oper} (hno:∀ e a w,e ≠ .normal->¬ Q1 e a w) (hn:∀ a w,Q1 .normal a w->wpListIn (rF ro) n P ops Q rest a w) :
  ∀ (l:List Oper),(∀ o∈l,∀ c,o.op ≠ .defer c)->∀ a w,wpList P ops Q1 l a w->wpListIn (rF ro) n P ops Q (l++rest) a w
 | [],_,a,w,h=>hn a w h
 | o::l,hd,a,w,h=>by
  have ih:=fun a w=>zQa hno hn l (fun o ho=>hd o (aG _ ho)) a w
  unfold wpList at h;show wpListIn _ _ _ _ _ (o::(l++rest)) a w;unfold wpListIn;split
  ·rename_i hw;rw[if_pos hw]at h;rcases h with h | ⟨_,a',w',h⟩
   ·exact yCy (hd o ak) ih (yAu (fun e a w he h=>(hno e a w he h).elim) h)
   exact(hno _ _ _ (by intro h; cases h) h).elim
  rename_i hw;rw[if_neg hw]at h;exact⟨fun _ _=>trivial,ih _ _ h⟩
variable {xs:List Nat}
def zZD {f:Operand}{ts:Array TypeId}{l:Nat}{R:Ending->World->Prop}{u:Value} (ho:o.op = .call { callee:=.value f,args:=(xs.map Operand.tmp).toArray,argTypes:=ts })
  (hf:a.eval f = .func (.yield l) #[] #[]) (hY:YieldAt Fence.wide 0 P l (xs.map fun x=>a.eval (.tmp x)).toArray w R) (hR:∀ e w',R e w'->e = .returned u/\K (a.put o.dst u) w'):o.wpIn (rF none) 1 P a w K Q:=by
 obtain⟨fn,tmps,assign,body,hy,hr⟩:=hY;refine⟨fun _ _=>trivial,?_⟩;rw[Oper.semAt_eq _ _ _ (by rw[ho]; intro c e; cases e)];have:(execOp a.eval o).run P w = .ok (.round l fn tmps assign body) w:=by
  simp[execOp,ho,resolve,hf,Deferred.ofValue,invoke,hy,Function.comp_def]
 rw[this];refine⟨fun h=>(by cases h),hr.mono fun e w' he=>?_⟩;obtain⟨rfl,h⟩:=hR e w' he;exact h
def renv (env:Nat->AV):List Nat->List AV->Nat->AV
 | p::ps,v::vs=>renv (fun t=>bif Nat.beq t p then v else env t) ps vs
 | _,_=>env
def zR4 (h:Hd) (vs:List AV) (hp:Nat->Option Ob) (nx:Nat) (Q:(Nat->Option Ob)->Nat->Prop):Prop :=
 ∀ w X G B,Rl w X h.l->Tri (rcx h.c.P h.c.N nx h.l w X G B) h.rc.assign ⟨renv h.env h.p vs,hp,nx⟩ (fun e V1=>e = .normal/\∀ w X G B,Rl w X h.l ->
  Tri (rcx h.c.P h.c.N nx h.l w X G B) h.rc.body V1 (fun e V2=>e = .normal/\∃ V3,Le (rcx h.c.P h.c.N nx h.l w X G B) V2 V3/\Q V3.hp V3.nx))
def zVq {G:Nat->Prop}{O:Nat->Value}{W:World}{n N:Nat}:∀ {ps:List Nat}{vs:List AV}{us:List Value}{env:Nat->AV}{T:Array Value},T.size=N->(∀ p∈ps,p<N)->AVals G W O vs us->AV.ltAll n vs=true->(∀ t,AVal G W O (env t) (T.getD t undef))->(∀ t,(env t).lt n=true) ->
  ((ps.zip us).foldl (fun(tmps:Array Value) (y:Nat×Value)=>tmps.setIfInBounds y.1 y.2) T).size=N/\(∀ t,AVal G W O (renv env ps vs t) (((ps.zip us).foldl (fun(tmps:Array Value) (y:Nat×Value)=>tmps.setIfInBounds y.1 y.2) T).getD t undef))/\∀ t,(renv env ps vs t).lt n=true
 | [],vs,us,env,T,h1,_,_,_,h2,h3=>⟨h1,h2,h3⟩
 | p::ps,[],us,env,T,h1,_,hv,_,h2,h3=>by
  simp only[AVals]at hv;subst hv;exact⟨h1,h2,h3⟩
 | p::ps,v::vs,us,env,T,h1,hp,hv,hl,h2,h3=>by
  simp only[AVals]at hv;obtain⟨u,us,rfl,hu,hv⟩:=hv;simp only[AV.ltAll,af]at hl;have hs:p<T.size :=(by rw[h1]; exact hp p ak);refine zVq (T:=T.setIfInBounds p u) (by rw[bJ]; exact h1) (fun q hq=>hp q (aG _ hq)) hv hl.2 (fun t=>?_) fun t=>?_
  ·rw[zZ7 hs];by_cases e1:t=p
   ·subst e1; rw[if_pos rfl,aS,ag]; exact hu
   ·rw[if_neg e1,nbeq e1,ae]; exact h2 t
  ·by_cases e1:t=p
   ·subst e1; rw[aS,ag]; exact hl.1
   ·rw[nbeq e1,ae]; exact h3 t
def zXF {G:Nat->Prop}{O:Nat->Value}{W:World}{n:Nat}{env:Nat->AV}{a:Act} (h1:∀ t,AVal G W O (env t) (a.tmps.getD t undef)) (h2:∀ t,(env t).lt n=true):∀ xs:List Nat,AVals G W O (xs.map env) (xs.map fun x=>a.eval (.tmp x))/\AV.ltAll n (xs.map env)=true
 | []=>⟨rfl,rfl⟩
 | x::xs=>by
  obtain⟨g1,g2⟩:=zXF h1 h2 xs;simp only[ba,AVals,AV.ltAll,af];exact⟨⟨_,_,rfl,h1 x,g1⟩,h2 x,g2⟩
def zWG {h:Hd} (ho:h.Ok){τ:St}{W:World} (hh:h.held τ a W) (hx:xs.length=h.p.length){Q:(Nat->Option Ob)->Nat->Prop} (hr:zR4 h (xs.map τ.env) τ.hp τ.nx Q) :
  YieldAt Fence.wide 0 h.c.P h.l (xs.map fun x=>a.eval (.tmp x)).toArray W (fun e W2=>e = .returned (.bool true)/\∃ hp' nx',Q hp' nx'/\h.held ⟨τ.env,hp',nx'⟩ a W2):=by
 obtain⟨G,O,h1,h2,hl,hD,nl,nD,hm,hy⟩:=hh;obtain⟨g1,g2⟩:=zXF h2.env h2.envlt xs;obtain⟨f1,f2,f3⟩:=zVq (T:=h.a.tmps) (N:=h.c.N) h1.size ho.p g1 g2 h1.env h1.envlt;have hz:(h.p.toArray.zip (xs.map fun x=>a.eval (.tmp x)).toArray).foldl (fun(tmps:Array Value) (y:Nat×Value)=>tmps.setIfInBounds y.1 y.2) h.a.tmps=(h.p.zip (xs.map fun x=>a.eval (.tmp x))).foldl (fun(tmps:Array Value) (y:Nat×Value)=>tmps.setIfInBounds y.1 y.2) h.a.tmps:=by
  simp
 have hA:Conc (rcx h.c.P h.c.N τ.nx h.l W (ownB O τ.hp) G O) G O ⟨renv h.env h.p (xs.map τ.env),τ.hp,τ.nx⟩ { tmps:=(h.rc.params.zip (xs.map fun x=>a.eval (.tmp x)).toArray).foldl (fun tmps (t,a)=>tmps.setIfInBounds t a) h.rc.tmps,defers:=[] } W:=by
  rw[ho.ps,ho.tm];refine h1.re (c2:=rcx h.c.P h.c.N τ.nx h.l W (ownB O τ.hp) G O) (fun _ _=>rfl) (fun _ _=>rfl) (ar _) rfl (by rw[← hz]at f1; exact f1) (fun t=>by have:=f2 t; rw[← hz]at this; exact this) f3 (fun _ h=>.inl h) (fun _ h=>h) (fun _ h=>.inl h) (Fr.refl _ _) ⟨ar _,fun _ _=>rfl⟩
 have noD:¬ ownB O τ.hp h.D:=h2.not_own hD rfl;have lD:=(aJ.1 hD).1;refine zUV hl ho.st ho.pe nl (by rw[ho.ps]; simp[hx]) hA hr fun G' O' hp' nx' W2 hQ e1 e2 e3 e4 e5 e6 e8 e9 e7=>⟨rfl,hp',nx',hQ,?_⟩
 have s1:=e7 _ _ _ h1 h1.envlt h1.stay.1 ho.l;exact⟨G',O',s1,e7 { h.c with N:=h.N } _ _ h2 h2.envlt h2.stay.1 ho.l,e1,(e6 _ lD ho.ne noD).trans hD,e2,fun q=>(e4 _ q).elim nD fun q=>q.elim noD fun q=>by omega,
  bc hm e8,(e9 _ (a9 ho.ky hm)).trans hy⟩
def zXf {h:Hd} (ho:h.Ok){T:Nat->Option TI}{Γ:Nat->Option zAq} (hT:TOk h.c.P T) (hΓ:∀ f s,Γ f=some s->PSound h.c.P f s){id:Nat}{ops pre post:List Oper}{yo:Oper} (hops:ops=pre++yo::post){M nm:List Nat} (hN:zD4 h.N ops=true){τ:St}{Q:End->St->Prop}
  (hpre:zBo T Γ M nm h.N ops pre τ fun τ1=>∃ (f:Nat) (xs:List Nat) (d:Nat) (ts:Array TypeId) (Q2:(Nat->Option Ob)->Nat->Prop),yo.op = .call { callee:=.value (.tmp f),args:=(xs.map Operand.tmp).toArray,argTypes:=ts }/\yo.dst=some d/\gate ops yo τ1.env=some true/\τ1.env f = .mref h.ky/\xs.length=h.p.length/\zR4 h (xs.map τ1.env) τ1.hp τ1.nx Q2 /\
   ∀ hp' nx',Q2 hp' nx'->zBo T Γ M nm h.N ops post ((⟨τ1.env,hp',nx'⟩:St).put (some d) (.s (.bool true))) (Q .normal)) :
  TriY h (.region id ops.toArray false) τ Q:=fun a W hh=>by
 have hno:¬ LetsOut (fun e a' w'=>∃ e' τ',e=zEX e'/\Q e' τ'/\h.held τ' a' w'):=by
  rintro⟨a,w,e',_,h,_⟩;cases e' <;> cases h
 obtain⟨G,O,hc,hk⟩:=Hd.go ho hh;refine wpIn_region_lit ?_;have hd:=zIg hN;rw[hops]at hd;show wpListIn _ _ _ _ _ ops a W;have key:=zBO (Q:=fun e a' w'=>e=Exit.normal/\∃ V',(∃ (f:Nat) (xs:List Nat) (d:Nat) (ts:Array TypeId) (Q2:(Nat->Option Ob)->Nat->Prop),yo.op = .call { callee:=.value (.tmp f),args:=(xs.map Operand.tmp).toArray,argTypes:=ts }/\yo.dst=some d/\gate ops yo V'.env=some true/\V'.env f = .mref h.ky/\xs.length=h.p.length/\zR4 h (xs.map V'.env) V'.hp V'.nx Q2 /\
   ∀ hp' nx',Q2 hp' nx'->zBo T Γ M nm h.N ops post ((⟨V'.env,hp',nx'⟩:St).put (some d) (.s (.bool true))) (Q .normal))/\h.held V' a' w') hT hΓ (c:=h.cx W (ownB O τ.hp) G O) (fun V' G' O' a' w' hk' hc'=>⟨rfl,V',hk',hk _ _ _ _ _ hc'⟩) (zDs hN) pre τ G O a W hpre hc
 have key2:=zQa (ro:=none) (n:=1) (Q:=fun e a' w'=>∃ e' τ',e=zEX e'/\Q e' τ'/\h.held τ' a' w') (rest:=yo::post) (fun e a w he h=>he h.1) (fun a1 w1 hq=>?_) pre (fun o ho c=>hd o (mem_append_left _ ho) c) a W key
 ·have e:pre++yo::post=ops:=hops.symm;rw[e]at key2;exact key2
 obtain⟨_,τ1,⟨f,xs,d,ts,Q2,q1,q2,q3,q4,q5,q6,q7⟩,hh1⟩:=hq;obtain⟨G1,O1,hc1,hk1⟩:=Hd.go ho hh1;unfold wpListIn;rw[if_pos (zNN hc1 (zDs hN) q3)];have hf:a1.eval (.tmp f) = .func (.yield h.l) #[] #[]:=by
  obtain⟨G',O',_,e2,_,_,_,_,_,e9⟩:=hh1;have:=e2.env f;rw[q4]at this;simp only[AVal]at this;exact this.1.trans e9
 refine zZD (u:=.bool true) (l:=h.l) q1 hf (zWG ho hh1 q5 q6) ?_;rintro e w2 ⟨rfl,hp',nx',hQ,hh2⟩;refine⟨rfl,?_⟩;obtain⟨G2,O2,hc2,hk2⟩:=Hd.go ho hh2;have hp:=hc2.put (d:=yo.dst) (x:=.s (.bool true)) (v:=.bool true) (fun t ht=>zDs hN pre.length t (by rw[hops]; simpa using ht)) (by simp[AVal,Rep]) rfl;rw[q2]at hp ⊢;exact zOD hno post (fun o ho=>hd o (mem_append_right _ (aG _ ho))) _ _ (zBO (Q:=fun e a' w'=>∃ e' τ',e=zEX e'/\Q e' τ'/\h.held τ' a' w') (c:=h.cx w2 (ownB O2 hp') G2 O2) hT hΓ (fun V' G' O' a' w' hk' hc'=>⟨.normal,V',rfl,hk',hk2 _ _ _ _ _ hc'⟩) (zDs hN) post _ G2 O2 _ _ (q7 _ _ hQ) hp)
def Ob.lt_up {n:Nat}{ob:Ob} (hl:ob.lt n=true):ob.lt (n+1)=true:=by
 cases ob with
 | row=>rfl
 | _=>exact AV.ltAll_mono (bw _) (by simpa [Ob.lt] using hl)
def Conc.key {c:Cx}{G:Nat->Prop}{O:Nat->Value}{V:St} (h:Conc c G O V a w) (v:Value):∃ O',(∀ k,k<V.nx->O' k=O k)/\O' V.nx=v/\Conc c G O' { V with nx:=V.nx+1 } a w:=by
 refine⟨fun k=>if k=V.nx then v else O k,fun k hk=>if_neg (by omega),if_pos rfl,?_⟩;have hb:∀ k,k<V.nx->(fun k=>if k=V.nx then v else O k) k=O k:=fun k hk=>if_neg (by omega)
 have hk:∀ k ob,V.hp k=some ob->(if k=V.nx then v else O k)=O k:=fun k ob hk=>if_neg (by have:=(h.hplt k ob hk).1; omega)
 refine { h with env:=fun t=>(h.env t).beta hb (h.envlt t),envlt:=fun t=>AV.lt_mono (bw _) (h.envlt t),hp:=fun k ob hk'=>?_,hplt:=fun k ob hk'=>⟨Nat.lt_succ_of_lt (h.hplt k ob hk').1,Ob.lt_up (h.hplt k ob hk').2⟩,inj:=fun k k' ob ob' e1 e2=>(by rw[hk k ob e1,hk k' ob' e2]; exact h.inj k k' ob ob' e1 e2),stay:=⟨Nat.le_succ_of_le h.stay.1,fun k hk=>?_⟩ }
 ·rw[hk k ob hk'];have hu:=h.hp k ob hk';have hlt:=(h.hplt k ob hk').2;cases ob with
  | box cells=>exact qF
  | row e sz rows=>exact hu
  | arow e sz rows=>exact hu.moveA (fun _ _ _ h=>h) (fun _ _ _ _ h=>h) (fun _ _ h=>h) (fun i x u hx hr=>hr.beta hb (zIX (by simpa [Ob.lt] using hlt) hx))
  | any τ xs=>exact qL
 have h1:=h.stay.1;rw[if_neg (by omega)];exact h.stay.2 k hk
def zU5 {c:Cx}{V:St}{Φ:Exit->Act->World->Prop} (hro:c.ro=none) (hds:c.ds=[]){tg fid:Nat}{p:List Nat}{ifn:Func}{icode:Code}{caps:List AV}{assign body:Code} (hcall:∀ args w,(callFunc fid args).run c.P w = .ok (.enter fid args) w) (hf:c.P.funcs[fid]? = some ifn) (hb:ifn.body=some icode) (hres:ifn.results = #[])
  (hN:caps.length+1<=ifn.ntmps) (he:V.env tg = .clo fid caps) (hp:∀ q∈p,q<c.N) {Q:(Nat->Option Ob)->Nat->Prop}
  (hit:∀ h:Hd,h.Ok->h.c=c->h.env=V.env->h.N=ifn.ntmps->h.p=p->h.ky=V.nx->h.rc.assign=assign->h.rc.body=body->h.m=V.nx+1->TriY h icode ⟨fun t=>(AV.mref V.nx::caps).getD t .junk,V.hp,V.nx+1⟩ (fun e τ=>(∀ id,e ≠ .exit id)/\Q τ.hp τ.nx))
  (hdone:∀ D w2 X G2 G' O' a2 hp' nx',Q hp' nx'->Sw c (lcx c.P c.N c.n0 w2 X G2 c.B0 D) D->Conc (lcx c.P c.N c.n0 w2 X G2 c.B0 D) G' O' ⟨V.env,hp',nx'⟩ a2 w2->Φ .normal a2 w2) (hfid:Nat.ble 1048576 fid=false:=by rfl) :
  TriX c (.rangeFunc (.tmp tg) p.toArray assign body) V Φ:=fun G O a w hc=>by
 have hg:=hc.env tg;rw[he]at hg;simp only[AVal]at hg;obtain⟨vs,hg,hvs⟩:=hg;have hg:a.eval (.tmp tg) = .func (.func fid) #[] vs.toArray :=(by rw[zVl hfid]at hg; exact hg);have hlc:=hc.envlt tg;rw[he]at hlc;simp only[AV.lt]at hlc;refine wpIn_rangeFunc fun fn _=>?_
 obtain⟨rec,hrec⟩:∃ rec:Loop,rec={ state:=.ready,pending:=none,fn:=fn,tmps:=a.tmps,params:=p.toArray,assign:=assign,body:=body,defers:=w.heap.size }:=⟨_,rfl⟩;obtain⟨l,hl0⟩:∃ l,l=w.heap.size+1:=⟨_,rfl⟩;obtain⟨D,hD0⟩:∃ D,D=w.heap.size:=⟨_,rfl⟩;obtain⟨W1,hW1⟩:∃ W1,(w.alloc (.deferred (some []))).alloc (.loop rec)=W1:=⟨_,rfl⟩;have hL1:W1.heap[l]? = some (.loop rec):=by
  have:=World.alloc_heap_new (w.alloc (.deferred (some []))) (.loop rec);rw[bG]at this;rw[← hW1,hl0]; exact this
 have hDD:W1.heap[D]? = some (.deferred (some [])):=by
  have:=zBV (w.alloc (.deferred (some []))) (.loop rec) (b:=w.heap.size) (by rw[bG]; omega);rw[← hW1,hD0,this];exact World.alloc_heap_new w _
 have hc1:Conc c G O V a W1:=by
  rw[← hW1];have h1:=hc.ext (Ext.alloc0 hc.lt (.deferred (some [])));exact h1.ext (Ext.alloc0 h1.lt (.loop rec))
 have hcl:c.w0.heap.size<=D :=(by rw[hD0]; exact hc.fr.size);obtain⟨O1,b1,b2,hc2⟩:=hc1.key (.func (.yield l) #[] #[]);have hlw:W1.heap.size=w.heap.size+2 :=(by rw[← hW1,bG,bG]);obtain⟨h,hh⟩:∃ h:Hd,h={ c:=c,env:=V.env,a:=a,N:=ifn.ntmps,m:=V.nx+1,l:=l,D:=D,ky:=V.nx,p:=p,rc:=rec }:=⟨_,rfl⟩;have ho:h.Ok:=by
  rw[hh];exact⟨hro,hds,hc2.stay.1,hc2.envlt,by show c.w0.heap.size<=l; omega,hcl,by show D ≠ l; omega,ax _,by rw[hrec],by rw[hrec],by rw[hrec],by rw[hrec],hp⟩
 refine⟨l,[{ target:=.collected D,args:=#[] }],W1,{ target:=.fn (.func fid) vs.toArray,args:=#[.func (.yield l) #[] #[]] },W1,fid,#[.func (.yield l) #[] #[]]++vs.toArray,W1,?_,?_,?_,?_,fun h=>(by cases h),?_⟩
 ·rw[← hW1,hrec,hl0,hD0]; exact run_enterLoop_outer _ _ _ _ _
 ·simp only[resolve,hg];simp[go_sem]
 ·intro f' hf'; trivial
 ·simp[invoke,go_sem,hcall]
 have hlen:=hvs.length;have hv':AVals G W1 O1 (AV.mref V.nx::caps) (.func (.yield l) #[] #[]::vs):=by
  simp only[AVals];refine⟨_,vs,rfl,?_,(hvs.beta b1 hlc).keep ⟨fun _ h=>h,fun b hb=>?_⟩⟩
  ·simp only[AVal]; exact⟨b2.symm,rfl⟩
  have hb':=hc.lt b hb;rw[← hW1,zBV _ _ (by rw[bG]; omega),zBV _ _ hb']
 have hheld:h.held ⟨fun t=>(AV.mref V.nx::caps).getD t .junk,V.hp,V.nx+1⟩ { tmps:=(Value.func (.yield l) #[] #[]::vs).toArray++Array.replicate (ifn.ntmps - (vs.length+1)) undef,defers:=[] } W1:=by
  rw[hh];refine⟨G,O1,hc2,?_,hL1,hDD,fun q=>?_,fun q=>?_,ar _,b2⟩
  ·refine hc2.re (c2:={ c with N:=ifn.ntmps }) (fun _ _=>rfl) (fun _ _=>rfl) (ar _) hds.symm (by simp; omega) (fun t=>?_) (fun t=>?_) hc2.own_mine hc2.sub hc2.new hc2.fr hc2.stay
   ·have:=zKs (N:=ifn.ntmps) hv' t;rw[show(Value.func (.yield l) #[] #[]::vs).toArray.size=vs.length+1 by simp]at this;exact this
   exact zNv (n:=V.nx+1) (xs:=AV.mref V.nx::caps) (by
    simp only[AV.ltAll,af]
    exact⟨by simp[AV.lt],AV.ltAll_mono (bw _) hlc⟩) t
  ·have:=hc.lt _ q; have q:l<w.heap.size:=this; omega
  have:=hc.lt _ q; have q:D<w.heap.size:=this; omega
 have key:=hit h ho (by rw[hh]) (by rw[hh]) (by rw[hh]) (by rw[hh]) (by rw[hh]) (by rw[hh,hrec]) (by rw[hh,hrec]) (by rw[hh]) _ _ hheld;have hP:h.c.P=c.P :=(by rw[hh]);rw[hP]at key;refine callsIn_of_wp hf hb trivial ?_;have eargs:(#[Value.func (.yield l) #[] #[]]++vs.toArray)=(Value.func (.yield l) #[] #[]::vs).toArray :=(by apply bC; simp);rw[eargs,show(Value.func (.yield l) #[] #[]::vs).toArray.size=vs.length+1 by simp];refine wpIn_mono key ?_;rintro e a' W3 ⟨e',τ,rfl,⟨hne,hQ⟩,G3,O3,hc3,h3,h1,h2,hnl,hnD,_,_⟩;rw[hh]at hc3 h3 h1 h2 hnl hnD;dsimp only at hc3 h3 h1 h2 hnl hnD;have fin:a'.defers=[]/\∃ v,(results ifn a'.tmps).run c.P W3 = .ok v W3/\rangePost Fence.wide 2 c.P l Φ { a with defers:=[{ target:=.collected D,args:=#[] }]++a.defers } (.returned v) W3:=by
  refine⟨h3.defers.trans hds,_,results_none hres _ _ _,?_⟩;have hend:=run_endLoop (P:=c.P) h1 (by rw[hrec]; simp);rw[hrec]at hend;refine⟨none,_,hend,?_⟩;dsimp only;have hnol:¬ ownB O3 τ.hp l:=hc3.not_own h1 rfl;have hnoD:¬ ownB O3 τ.hp D:=hc3.not_own h2 rfl;have lD:=(Array.getElem?_eq_some_iff.1 h2).1;have hc4:=hc3.poke (.loop { state:=.exhausted,pending:=none,fn:=fn,tmps:=a.tmps,params:=p.toArray,assign:=assign,body:=body,defers:=w.heap.size }) (by omega) hnl hnol;have hoth:(W3.putObj l (.loop { state:=.exhausted,pending:=none,fn:=fn,tmps:=a.tmps,params:=p.toArray,assign:=assign,body:=body,defers:=w.heap.size })).heap[D]? = W3.heap[D]?:=World.putObj_heap_other (by omega);generalize W3.putObj l (.loop { state:=.exhausted,pending:=none,fn:=fn,tmps:=a.tmps,params:=p.toArray,assign:=assign,body:=body,defers:=w.heap.size })=W4 at hc4 hoth ⊢;refine hdone D W4 (ownB O3 τ.hp) G3 G3 O3 _ τ.hp τ.nx hQ ⟨hc4.fr,hc4.own_mine,hc4.sub,hc4.new,hoth.trans h2,hnoD,hnD,hcl⟩ ?_;exact hc4.re (c2:=lcx c.P c.N c.n0 W4 (ownB O3 τ.hp) G3 c.B0 D) (fun b hb=>rfl) (fun b hb=>rfl) (ar _)
   (by show _::a.defers=_; rw[hc.defers,hds]; rfl) hc.size hc4.env hc4.envlt (fun b hb=>.inl hb) (fun b hb=>hb) (fun b hb=>.inl hb) (Fr.refl _ _) hc4.stay
 cases e' with
 | normal=>exact fin
 | ret=>exact fin
 | exit id=>exact absurd rfl (hne id)
variable {c:Cx} {V:St}
def Le.ofA (k:Nat){e sz:Nat}{rows:List (List AV)} (rs:List (List S)) (hk:V.hp k=some (.arow e sz rows)) (hs:zGu rows=some rs):Le c V (zDW V k (.row e sz rs)):=by
 unfold Le;intro G O a w hc;obtain⟨s1,s2,s3⟩:=zLJ hs;have hget:∀ {j o},(zDW V k (.row e sz rs)).hp j=some o->(j=k/\o = .row e sz rs)∨(j ≠ k/\V.hp j=some o):=fun {j o} h=>by
  simp only[zDW]at h;cases hq:Nat.beq j k with
  | true=>rw[hq,ag]at h; cases h; exact .inl ⟨ab hq,rfl⟩
  | false=>rw[hq,ae]at h; exact .inr ⟨Nat.ne_of_beq_eq_false hq,h⟩
 have hget':∀ {j o},(zDW V k (.row e sz rs)).hp j=some o->∃ o',V.hp j=some o':=fun {j o} h=>by
  rcases hget h with ⟨rfl,_⟩ | ⟨_,h⟩
  ·exact⟨_,hk⟩
  exact⟨_,h⟩
 refine⟨G,O,{ hc with hp:=fun j o hj=>?_,hplt:=fun j o hj=>?_,inj:=fun j j' o o' hj hj'=>(let ⟨_,h1⟩:=hget' hj; let ⟨_,h2⟩:=hget' hj'; hc.inj j j' _ _ h1 h2) }⟩
 ·rcases hget hj with ⟨rfl,rfl⟩ | ⟨_,h⟩
  ·obtain⟨hlen,hsz,ho⟩:=hc.hp j _ hk;refine⟨fun r hr=>s3 sz hlen r hr,hsz,ho.imp (fun h=>⟨h.1,by have:=h.2; subst this; exact List.length_eq_zero_iff.1 (by simpa using s2.symm)⟩) ?_⟩;rintro⟨b,cap,cur,h1,h2,h3,h4,h5,h6,h7⟩;refine⟨b,cap,cur,by rw[← s2]; exact h1,by rw[← s2]; exact h2,h3,h4,h5,h6,fun i s hi=>?_⟩;have hm:(rows.flatten.map AV.sc)[i]? = some (some s) :=(by rw[s1,ao,hi]; rfl);rw[ao]at hm;obtain⟨x,hx,hxs⟩:=aH.1 hm;obtain⟨u,hu,hr,_⟩:=h7 i x hx;exact⟨u,hu,AV.sc_rep hxs hr⟩
  exact hc.hp j o h
 rcases hget hj with ⟨rfl,rfl⟩ | ⟨_,h⟩
 ·exact⟨(hc.hplt j _ hk).1,rfl⟩
 exact hc.hplt j o h
def zY9:∀ r:List S,zLI (r.map AV.s)=some r
 | []=>rfl
 | x::r=>by simp[zLI,AV.sc,zY9 r]
def zVY:∀ rows:List (List S),zGu (rows.map (·.map AV.s))=some rows
 | []=>rfl
 | r::rows=>by simp[zGu,zY9 r,zVY rows]
def zK6:∀ {a b:List (List AV)}{x y:List (List S)},zGu a=some x->zGu b=some y->zGu (a++b)=some (x++y)
 | [],b,x,y,h,h'=>by
  simp only[zGu,aC]at h;subst h;exact h'
 | r::a,b,x,y,h,h'=>by
  simp only[zGu]at h;split at h
  ·rename_i z zs h1 h2;cases h;simp[zGu,h1,zK6 h2 h']
  ·cases h
def zVs {k:Nat}{r:AV}{p:Nat->AV}:∀ l:List S,AV.frzAll k r p (l.map AV.s)=l.map AV.s
 | []=>rfl
 | x::l=>by simp[AV.frzAll,AV.frz,zVs l]
def zWE {k:Nat}{r:AV}{p:Nat->AV} (rows:List (List S)):(rows.map (·.map AV.s)).map (AV.frzAll k r p)=rows.map (·.map AV.s):=by
 rw[map_map];exact map_congr_left fun l _=>zVs l
end
inductive Nd where
 | mk (kind:Int) (text:List UInt8) (cols:Int) (kids:List Nd)
abbrev zO8:=Int×List Int×Int×Int×List Nd×Int×List UInt8×List UInt8
abbrev zCu:=List Int×List Int
abbrev zRc:=List zO8×zCu×zCu
mutual
def Nd.enc:Nd->List S
 | .mk k t c ks=>[.int .i64 k,.str t,.int .i64 c,.sl 4 (Nd.encs ks)]
def Nd.encs:List Nd->List (List S)
 | []=>[]
 | v::vs=>v.enc::Nd.encs vs
end
mutual
def Nd.w:Nd->Nat
 | .mk _ t _ ks=>t.length+Nd.ws ks+1
def Nd.ws:List Nd->Nat
 | []=>0
 | v::vs=>v.w+Nd.ws vs+1
end
def yDG (n:Int):Prop:=-9223372036854775808<=n/\n<=9223372036854775807
mutual
def Nd.rng:Nd->Prop
 | .mk k _ c ks=>yDG k/\yDG c/\Nd.rngs ks
def Nd.rngs:List Nd->Prop
 | []=>True
 | v::vs=>v.rng/\Nd.rngs vs
end
def Nd.encs_eq:∀ (vs:List Nd),Nd.encs vs=vs.map Nd.enc
 | []=>rfl
 | v::vs=>by simp[Nd.encs,Nd.encs_eq vs]
def Nd.rngAll:∀ {vs:List Nd},(∀ v∈vs,v.rng)->Nd.rngs vs
 | [],_=>trivial
 | v::vs,h=>⟨h v ak,Nd.rngAll fun u hu=>h u (aG _ hu)⟩
def Nd.w_mem:∀ {vs:List Nd}{v:Nd},v∈vs->v.w<Nd.ws vs
 | u::vs,v,hm=>by
  simp only[Nd.ws];rcases aR.1 hm with rfl | hm
  ·omega
  ·have:=Nd.w_mem hm; omega
def Nd.ws_len:∀ (vs:List Nd),vs.length<=Nd.ws vs
 | []=>ar _
 | v::vs=>by have:=Nd.ws_len vs; simp only[Nd.ws,ah]; omega
def Nd.ws_append:∀ (a b:List Nd),Nd.ws (a++b)=Nd.ws a+Nd.ws b
 | [],b=>by simp[Nd.ws]
 | v::a,b=>by simp only[bj,Nd.ws,Nd.ws_append a b]; omega
mutual
def Nd.w_bulk:∀ (v:Nd),v.w+1<=zEd v.enc
 | .mk k t c vs=>by
  have:=Nd.ws_bulk vs
  simp only[Nd.w,Nd.enc,zEd,S.bulk]; omega
def Nd.ws_bulk:∀ (vs:List Nd),Nd.ws vs<=zEW (Nd.encs vs)
 | []=>aQ _
 | v::vs=>by
  have h1:=Nd.w_bulk v
  have h2:=Nd.ws_bulk vs
  simp only[Nd.ws,Nd.encs,zEW]; omega
end
def zP9 {T:Nat->Option TI}{e s ki st:Nat}{i j k1 k2:TI} (he:T e=some i) (hk:i.k = .struct [(0,ki),(1,st),(2,ki),(3,s)]) (hs:T s=some j) (hj:j.k = .slice e) (hz:szOf T e=4)
  (hi:T ki=some k1) (hki:k1.k = .int .i64) (ht:T st=some k2) (hkt:k2.k = .str) :
  ∀ (n:Nat) {ss:List S},Typed T n e ss->∃ t:Nd,ss=t.enc/\t.rng:=by
 intro n;induction n using Nat.strongRecOn with
 | _ n ih=>
 intro ss h;obtain⟨m,rfl,a0,q0,rfl,u0,a1,q1,rfl,u1,a2,q2,rfl,u2,a3,q3,rfl,u3,rfl⟩:=zIO (T:=T) he hk h;obtain⟨k,rfl,k1,k2⟩:=zHo (T:=T) (k:=.i64) hi hki u0;obtain⟨t,rfl,_⟩:=zTJ (T:=T) ht hkt u1;obtain⟨c,rfl,c1,c2⟩:=zHo (T:=T) (k:=.i64) hi hki u2;obtain⟨m',rows,rfl,rfl,_,hr⟩:=zJ3 (T:=T) hs hj u3;obtain⟨ks,rfl,hks⟩:=zQw (f:=Nd.enc) (q:=Nd.rng) (l:=rows) fun r hr'=>ih m' (by omega) (hr r hr')
 refine⟨.mk k t c ks,by simp only[Nd.enc,Nd.encs_eq,hz]; rfl,?_⟩;have e1:i64.min = -9223372036854775808/\i64.max=9223372036854775807 :=(by decide);rw[e1.1]at k1 c1; rw[e1.2]at k2 c2
 exact⟨⟨k1,k2⟩,⟨c1,c2⟩,Nd.rngAll hks⟩
abbrev iL:List Int->List (List S):=List.map (irow .i64)
abbrev nN (a:Int) (b:List UInt8) (c:Int) (d:List Nd):List S:=[.int .i64 a,.str b,.int .i64 c,.sl 4 (Nd.encs d)]
abbrev pN (a:Int) (b:List UInt8) (c:Int) (d:List Nd):AV:=.s (.pt (nN a b c d))
abbrev pG (R:Nat->List AV->Ret->Prop):zAq:=zAr fun xs r=>∃ n,R n xs r
def pL {c:Cx}{V:St}{Q:YtbfnjnljboncgaaGreat.End->St->Prop}{x:Code} (l:List (Nat×AV)) (h1:Tri c x V (fun e V'=>match e with | .normal=>Le c V' ⟨ofL l,fun _=>none,0⟩ | e=>Q e V')) (h2:∀ V',Le c V' ⟨ofL l,fun _=>none,0⟩->Q .normal V'):Tri c x V Q:=zAl ⟨ofL l,fun _=>none,0⟩ h1 h2
def evS {T:Nat->Option TI}{Γ:Nat->Option zAq}{M nm:List Nat}{N:Nat}{all os:List Oper}{o:Oper}{V V':St}{K:St->Prop}{φ:Option Prop}{x:AV}{d:Nat} (h:zBo T Γ M nm N all os (V'.putN d x) K) (hg:o.guard=none:=by exact rfl) (hd:o.dst=some d:=by exact rfl) (hN:Nat.blt d N=true:=by exact rfl) (hc:callOf T Γ o V.env=none:=by exact rfl) (hn:dIn (some d) nm=false:=by exact rfl) (hs:step1 T (dIn (some d) M) o V=some (φ,x,V'):=by exact rfl) (hφ:φ.getD True:=by trivial):zBo T Γ M nm N all (o::os) V K:=zAh hg hd hN hc hn hs hφ h
abbrev nI (z:Int):AV:=.s (.int .i64 z)
abbrev nB (z:Bool):AV:=.s (.bool z)
abbrev nS (z:List UInt8):AV:=.s (.str z)
def gk0 {P:Program}:∀ f s,look? f ([]:List (Nat×zAq))=some s->PSound P f s:=fun _ _ h=>by cases h
def gk1 {P:Program} {a:Nat} {S:zAq} {L:List (Nat×zAq)} (h:PSound P a S) (t:∀ f s,look? f L=some s->PSound P f s):∀ f s,look? f ((a,S)::L)=some s->PSound P f s:=by
 intro f s e;simp only [look?] at e;split at e
 ·cases e;rename_i q;obtain rfl:=ab q;exact h
 exact t f s e
def okY {P:Program}{t:Nat}{i:TI}{d:TypeDesc} (info:TypeInfo) (h2:P.underlying t=some d) (h1:P.info? t=some info:=by kernel_rfl) (e1:tkOf d=i.k:=by rfl) (e2:info.size=i.size:=by rfl) (e3:info.bytes=i.bytes:=by rfl){z:Value} (e4:info.zero=some z:=by rfl)
  (e5:z=(if i.k.agg then .agg (i.zero.map S.zval).toArray else (i.zero.headD .np).zval):=by rfl) (e7:i.zero.length=i.size:=by rfl) (e6:i.k.agg=false->i.size=1:=by exact fun _=>rfl) (e8:i.zero.all S.zok=true:=by rfl):okT P t i:=⟨d,info,z,h2,e1,h1,e2,e3,e4,e5,e7,e6,e8⟩
abbrev Zy:List S:=[.int .i64 0,.str [],.int .i64 0,.sl 4 []]
def tab:List (Nat×TI):=[
 (3,⟨.int .i64,1,8,[.int .i64 0]⟩),
 (4,⟨.bool,1,1,[.bool false]⟩),
 (5,⟨.int .u8,1,1,[.int .u8 0]⟩),
 (9,⟨.str,1,16,[.str []]⟩),
 (22,⟨.slice 24,1,24,[.sl 4 []]⟩),
 (24,⟨.struct [(0,3),(1,9),(2,3),(3,22)],4,56,Zy⟩),
 (25,⟨.slice 61,1,24,[.sl 7 []]⟩),
 (59,⟨.struct [(0,3),(1,22),(2,3),(3,9),(4,4)],5,64,[.int .i64 0,.sl 4 [],.int .i64 0,.str [],.bool false]⟩),
 (61,⟨.struct [(0,59),(5,5),(6,5)],7,72,[.int .i64 0,.sl 4 [],.int .i64 0,.str [],.bool false,.int .u8 0,.int .u8 0]⟩)]
def T (t:Nat):Option TI:=look? t tab
def yEr:∀ p∈tab,okT prog p.1 p.2:=by
 simp only[tab,forall_mem_cons];exact⟨okY Tryz.t3 Tryz.underlying3,okY Tryz.t4 Tryz.underlying4,okY Tryz.t5 Tryz.underlying5,okY Tryz.t9 Tryz.underlying9,okY Tryz.t22 Tryz.underlying22,okY Tryz.t24 Tryz.underlying24 (e6:=fun h=>by cases h),okY Tryz.t25 Tryz.underlying25,okY Tryz.t59 Tryz.underlying59 (e6:=fun h=>by cases h),okY Tryz.t61 Tryz.underlying61 (e6:=fun h=>by cases h),by simp⟩
def tok:TOk prog T:=yBR yEr
def tcl:∀ t i,T t=some i->zDH T i=true:=zXQ (by rfl)
def tabX:List (Nat×TI):=[
 (21,⟨.int .i32,1,4,[.int .i32 0]⟩),
 (28,⟨.ptr 68,1,8,[.np]⟩),
 (29,⟨.int .i64,1,8,[.int .i64 0]⟩),
 (33,⟨.slice 76,1,24,[.sl 8 []]⟩),
 (34,⟨.slice 40,1,24,[.sl 5 []]⟩),
 (36,⟨.slice 3,1,24,[.sl 1 []]⟩),
 (38,⟨.struct [(0,36),(1,36)],2,48,[.sl 1 [],.sl 1 []]⟩),
 (40,⟨.struct [(0,33),(1,38),(3,38)],5,120,[.sl 8 [],.sl 1 [],.sl 1 [],.sl 1 [],.sl 1 []]⟩),
 (41,⟨.slice 36,1,24,[.sl 1 []]⟩),
 (54,⟨.fn,1,8,[.nf]⟩),
 (68,⟨.struct [(0,24),(4,24),(8,34),(9,3)],10,144,[.int .i64 0,.str [],.int .i64 0,.sl 4 [],.int .i64 0,.str [],.int .i64 0,.sl 4 [],.sl 5 [],.int .i64 0]⟩),
 (76,⟨.struct [(0,3),(1,36),(2,3),(3,3),(4,22),(5,3),(6,9),(7,9)],8,112,[.int .i64 0,.sl 1 [],.int .i64 0,.int .i64 0,.sl 4 [],.int .i64 0,.str [],.str []]⟩),
 (78,⟨.fn,1,8,[.nf]⟩),
 (79,⟨.fn,1,8,[.nf]⟩),
 (84,⟨.ptr 91,1,8,[.np]⟩),
 (85,⟨.slice 194,1,24,[.sl 4 []]⟩),
 (86,⟨.ptr 89,1,8,[.np]⟩),
 (87,⟨.slice 5,1,24,[.sl 1 []]⟩),
 (89,⟨.struct [(0,86),(1,87)],2,32,[.np,.sl 1 []]⟩),
 (91,⟨.struct [(0,85),(1,89)],3,56,[.sl 4 [],.np,.sl 1 []]⟩),
 (94,⟨.ptr 291,1,8,[.np]⟩),
 (96,⟨.struct [(0,3),(1,29)],2,16,[.int .i64 0,.int .i64 0]⟩),
 (103,⟨.slice 208,1,24,[.sl 2 []]⟩),
 (104,⟨.slice 106,1,24,[.sl 4 []]⟩),
 (106,⟨.struct [(0,9),(1,103),(2,104),(3,9)],4,80,[.str [],.sl 2 [],.sl 4 [],.str []]⟩),
 (111,⟨.ptr 118,1,8,[.np]⟩),
 (112,⟨.fn,1,8,[.nf]⟩),
 (114,⟨.struct [(0,9),(1,3),(2,112)],3,32,[.str [],.int .i64 0,.nf]⟩),
 (115,⟨.arr 13 114,39,416,[.str [],.int .i64 0,.nf,.str [],.int .i64 0,.nf,.str [],.int .i64 0,.nf,.str [],.int .i64 0,.nf,.str [],.int .i64 0,.nf,.str [],.int .i64 0,.nf,.str [],.int .i64 0,.nf,.str [],.int .i64 0,.nf,.str [],.int .i64 0,.nf,.str [],.int .i64 0,.nf,.str [],.int .i64 0,.nf,.str [],.int .i64 0,.nf,.str [],.int .i64 0,.nf]⟩),
 (118,⟨.struct [(0,115),(39,3)],40,424,[.str [],.int .i64 0,.nf,.str [],.int .i64 0,.nf,.str [],.int .i64 0,.nf,.str [],.int .i64 0,.nf,.str [],.int .i64 0,.nf,.str [],.int .i64 0,.nf,.str [],.int .i64 0,.nf,.str [],.int .i64 0,.nf,.str [],.int .i64 0,.nf,.str [],.int .i64 0,.nf,.str [],.int .i64 0,.nf,.str [],.int .i64 0,.nf,.str [],.int .i64 0,.nf,.int .i64 0]⟩),
 (120,⟨.ptr 24,1,8,[.np]⟩),
 (121,⟨.slice 120,1,24,[.sl 1 []]⟩),
 (136,⟨.fn,1,8,[.nf]⟩),
 (137,⟨.fn,1,8,[.nf]⟩),
 (138,⟨.arr 13 137,13,104,[.nf,.nf,.nf,.nf,.nf,.nf,.nf,.nf,.nf,.nf,.nf,.nf,.nf]⟩),
 (140,⟨.ptr 5,1,8,[.np]⟩),
 (143,⟨.ptr 149,1,8,[.np]⟩),
 (146,⟨.fn,1,8,[.nf]⟩),
 (147,⟨.mp 9 146,1,8,[.nm]⟩),
 (149,⟨.struct [(0,85),(1,3),(2,3),(3,36),(4,94),(5,3),(6,147),(7,3),(8,4)],9,104,[.sl 4 [],.int .i64 0,.int .i64 0,.sl 1 [],.np,.int .i64 0,.nm,.int .i64 0,.bool false]⟩),
 (156,⟨.ptr 106,1,8,[.np]⟩),
 (160,⟨.struct [(0,36),(1,3),(2,3)],3,40,[.sl 1 [],.int .i64 0,.int .i64 0]⟩),
 (169,⟨.struct [(0,36),(1,3),(2,3),(3,24)],7,96,[.sl 1 [],.int .i64 0,.int .i64 0,.int .i64 0,.str [],.int .i64 0,.sl 4 []]⟩),
 (185,⟨.ptr 189,1,8,[.np]⟩),
 (186,⟨.arr 256 5,256,256,List.replicate 256 (.int .u8 0)⟩),
 (189,⟨.struct [(0,186),(256,9),(257,3),(258,3),(259,29)],260,296,List.replicate 256 (.int .u8 0)++[.str [],.int .i64 0,.int .i64 0,.int .i64 0]⟩),
 (190,⟨.fn,1,8,[.nf]⟩),
 (191,⟨.fn,1,8,[.nf]⟩),
 (194,⟨.struct [(0,3),(1,9),(2,3),(3,3)],4,40,[.int .i64 0,.str [],.int .i64 0,.int .i64 0]⟩),
 (197,⟨.struct [(0,76),(8,22)],9,136,[.int .i64 0,.sl 1 [],.int .i64 0,.int .i64 0,.sl 4 [],.int .i64 0,.str [],.str [],.sl 4 []]⟩),
 (202,⟨.ptr 3,1,8,[.np]⟩),
 (208,⟨.struct [(0,9),(1,9)],2,32,[.str [],.str []]⟩),
 (224,⟨.slice 9,1,24,[.sl 1 []]⟩),
 (229,⟨.fn,1,8,[.nf]⟩),
 (230,⟨.fn,1,8,[.nf]⟩),
 (242,⟨.mp 9 3,1,8,[.nm]⟩),
 (264,⟨.fn,1,8,[.nf]⟩),
 (277,⟨.int .u64,1,8,[.int .u64 0]⟩),
 (281,⟨.slice 22,1,24,[.sl 1 []]⟩),
 (283,⟨.int .u32,1,4,[.int .u32 0]⟩),
 (287,⟨.struct [(0,3),(1,24)],5,64,[.int .i64 0,.int .i64 0,.str [],.int .i64 0,.sl 4 []]⟩),
 (289,⟨.mp 9 287,1,8,[.nm]⟩),
 (291,⟨.struct [(0,224),(1,289)],2,32,[.sl 1 [],.nm]⟩),
 (294,⟨.fn,1,8,[.nf]⟩),
 (297,⟨.struct [(0,120),(1,3)],2,16,[.np,.int .i64 0]⟩),
 (298,⟨.slice 297,1,24,[.sl 2 []]⟩),
 (299,⟨.ptr 301,1,8,[.np]⟩),
 (301,⟨.struct [(0,3),(1,3),(2,4)],3,24,[.int .i64 0,.int .i64 0,.bool false]⟩)]
def yEq:∀ p∈tabX,okT prog p.1 p.2:=by
 simp only[tabX,forall_mem_cons]
 exact⟨okY Tryz.t21 Tryz.underlying21,okY Tryz.t28 Tryz.underlying28,okY Tryz.t29 Tryz.underlying29,okY Tryz.t33 Tryz.underlying33,okY Tryz.t34 Tryz.underlying34,okY Tryz.t36 Tryz.underlying36,okY Tryz.t38 Tryz.underlying38 (e6:=fun h=>by cases h),okY Tryz.t40 Tryz.underlying40 (e6:=fun h=>by cases h),okY Tryz.t41 Tryz.underlying41,okY Tryz.t54 Tryz.underlying54,okY Tryz.t68 Tryz.underlying68 (e6:=fun h=>by cases h),okY Tryz.t76 Tryz.underlying76 (e6:=fun h=>by cases h),okY Tryz.t78 Tryz.underlying78,okY Tryz.t79 Tryz.underlying79,okY Tryz.t84 Tryz.underlying84,okY Tryz.t85 Tryz.underlying85,okY Tryz.t86 Tryz.underlying86,okY Tryz.t87 Tryz.underlying87,okY Tryz.t89 Tryz.underlying89 (e6:=fun h=>by cases h),okY Tryz.t91 Tryz.underlying91 (e6:=fun h=>by cases h),okY Tryz.t94 Tryz.underlying94,okY Tryz.t96 Tryz.underlying96 (e6:=fun h=>by cases h),okY Tryz.t103 Tryz.underlying103,okY Tryz.t104 Tryz.underlying104,okY Tryz.t106 Tryz.underlying106 (e6:=fun h=>by cases h),okY Tryz.t111 Tryz.underlying111,okY Tryz.t112 Tryz.underlying112,okY Tryz.t114 Tryz.underlying114 (e6:=fun h=>by cases h),okY Tryz.t115 Tryz.underlying115 (e6:=fun h=>by cases h),okY Tryz.t118 Tryz.underlying118 (e6:=fun h=>by cases h),okY Tryz.t120 Tryz.underlying120,okY Tryz.t121 Tryz.underlying121,okY Tryz.t136 Tryz.underlying136,okY Tryz.t137 Tryz.underlying137,okY Tryz.t138 Tryz.underlying138 (e6:=fun h=>by cases h),okY Tryz.t140 Tryz.underlying140,okY Tryz.t143 Tryz.underlying143,okY Tryz.t146 Tryz.underlying146,okY Tryz.t147 Tryz.underlying147,okY Tryz.t149 Tryz.underlying149 (e6:=fun h=>by cases h),okY Tryz.t156 Tryz.underlying156,okY Tryz.t160 Tryz.underlying160 (e6:=fun h=>by cases h),okY Tryz.t169 Tryz.underlying169 (e6:=fun h=>by cases h),okY Tryz.t185 Tryz.underlying185,okY Tryz.t186 Tryz.underlying186 (e6:=fun h=>by cases h),okY Tryz.t189 Tryz.underlying189 (e6:=fun h=>by cases h),okY Tryz.t190 Tryz.underlying190,okY Tryz.t191 Tryz.underlying191,okY Tryz.t194 Tryz.underlying194 (e6:=fun h=>by cases h),okY Tryz.t197 Tryz.underlying197 (e6:=fun h=>by cases h),okY Tryz.t202 Tryz.underlying202,okY Tryz.t208 Tryz.underlying208 (e6:=fun h=>by cases h),okY Tryz.t224 Tryz.underlying224,okY Tryz.t229 Tryz.underlying229,okY Tryz.t230 Tryz.underlying230,okY Tryz.t242 Tryz.underlying242,okY Tryz.t264 Tryz.underlying264,okY Tryz.t277 Tryz.underlying277,okY Tryz.t281 Tryz.underlying281,okY Tryz.t283 Tryz.underlying283,okY Tryz.t287 Tryz.underlying287 (e6:=fun h=>by cases h),okY Tryz.t289 Tryz.underlying289,okY Tryz.t291 Tryz.underlying291 (e6:=fun h=>by cases h),okY Tryz.t294 Tryz.underlying294,okY Tryz.t297 Tryz.underlying297 (e6:=fun h=>by cases h),okY Tryz.t298 Tryz.underlying298,okY Tryz.t299 Tryz.underlying299,okY Tryz.t301 Tryz.underlying301 (e6:=fun h=>by cases h),by simp⟩
def TW (t:Nat):Option TI:=look? t (tab++tabX)
def tokW:TOk prog TW:=yBR fun p hp=>(aN.1 hp).elim (yEr p) (yEq p)
def mixed:prog.follows .mixedOrders=true:=by kernel_rfl
section
def zFC (n:Int) (l:Nat):Bool:=decide (0<=n)&&decide (n<l)
def zGq {n:Int}{l:Nat} (h:zFC n l=true):0<=n/\n<l:=by simpa [zFC] using h
def rowB:List S->Bool
 | [.int .u8 n]=>zFC n 256
 | _=>false
def yCL (rows:List (List S)):Bool:=rows.all rowB
def yAU {r:List S} (h:rowB r=true):brow (zKv r)=r:=by
 unfold rowB at h;split at h
 ·rename_i n;obtain⟨h1,h2⟩:=zGq h;obtain⟨m,rfl⟩:=aM h1;have hm:m<256 :=(by omega);simp only[zKv,brow,au,UInt8.toNat_ofNat',List.cons.injEq,S.int.injEq,true_and,and_true];simp[Nat.mod_eq_of_lt hm]
 cases h
def zTw {rows:List (List S)} (h:yCL rows=true):rows=(rows.map zKv).map brow:=by
 rw[map_map];conv=>lhs; rw[← map_id rows]
 refine map_congr_left fun r hr=>?_
 exact(yAU (bo.1 h r hr)).symm
def zNZ:Option Ob->Nat
 | some (.row _ _ rows)=>rows.length
 | some (.arow _ _ rows)=>rows.length
 | _=>0
def lenV (V:St):AV->Nat
 | .orow k=>zNZ (V.hp k)
 | .s (.str l)=>l.length
 | .s (.sl _ rows)=>rows.length
 | _=>0
def zYt (op:BinOp) (x y:AV):Bool :=
 match x,y with
 | .s (.int _ _),.s (.int _ b)=>match op with
  | .quo | .rem=>!(decide (b=0))
  | .shl | .shr=>decide (0<=b)
  | _=>true
 | .s (.str a),.s (.str b)=>match op with
  | .add=>Nat.ble (a.length+b.length) 9223372036854775807
  | _=>true
 | _,_=>true
def zDE (a b m:Nat):Bool:=Nat.ble ((a+b) * m) 140737488355328&&Nat.ble (a+b) 9223372036854775807
def zS8 {a b m:Nat} (h:zDE a b m=true):(a+b) * m<=140737488355328/\a+b<=9223372036854775807:=by
 simp only[zDE,af]at h;exact⟨aj h.1,aj h.2⟩
def zVN (T:Nat->Option TI) (V:St) (dst:Nat) (y:AV):Bool :=
 match y with
 | .orow k=>match V.hp k with
  | some (.row _ _ rows)=>match tk T dst with
   | .str=>yCL rows
   | _=>!rows.isEmpty
  | _=>true
 | .s (.sl _ rows)=>yCL rows
 | _=>true
def zUy (T:Nat->Option TI) (t:Nat) (y i:AV):Bool :=
 match i with
 | .s (.int _ n)=>match y with
  | .s (.str l)=>zFC n l.length
  | _=>match tk T t with | .arr len _=>zFC n len | _=>false
 | _=>false
def zI1 (T:Nat->Option TI) (V:St) (t:Nat) (y i:AV):Bool :=
 match i with
 | .s (.int _ n)=>match tk T t with
  | .arr len _=>zFC n len
  | _=>zFC n (lenV V y)
 | _=>false
def okSl (l:Nat) (lo hi:Option AV):Bool :=
 match bnd 0 lo,bnd l hi with
 | some a,some b=>decide (0<=a)&&decide (a<=b)&&decide (b<=(l:Int))
 | _,_=>false
def okB (T:Nat->Option TI) (o:Oper) (V:St):Bool :=
 match o.op with
 | .binOp op t x y u=>zYt op (opd T V.env t x) (opd T V.env u y)
 | .convert src dst x=>zVN T V dst (opd T V.env src x)
 | .index t x i=>zUy T t (opd T V.env t x) (opd T V.env 0 i)
 | .indexAddr t x i=>zI1 T V t (opd T V.env t x) (opd T V.env 0 i)
 | .slice t x lo hi _=>okSl (lenV V (opd T V.env t x)) (lo.map (opd T V.env 0)) (hi.map (opd T V.env 0))
 | .makeSlice t l c=>match elemOf T t,opd T V.env 0 l,opd T V.env 0 c with
  | some (e,j),.s (.int _ n),.s (.int _ m)=>decide (0<=n)&&decide (n<=m)&&decide (m * j.bytes<=281474976710656)&&decide (m<=281474976710656)
  | _,_,_=>false
 | .store t x y=>match opd T V.env 0 x with
  | .rp k _ j _=>Nat.blt j (zNZ (V.hp k))
  | _=>true
 | .call { callee:=.builtin .append,args:=args,argTypes:=ts }=>match args.toList,ts.toList with
  | [x,y],[t,tx]=>match elemOf T t with
   | some (_,j)=>zDE (lenV V (opd T V.env t x)) (lenV V (opd T V.env tx y)) j.bytes
   | none=>false
  | _,_=>false
 | .call { callee:=.builtin .copy,args:=args,argTypes:=ts }=>match args.toList,ts.toList with
  | [x,y],[t,tx]=>Nat.beq (lenV V (opd T V.env tx y)) (lenV V (opd T V.env t x))
  | _,_=>false
 | _=>true
section
variable {T:Nat->Option TI} {o:Oper} {V V':St} {own:Bool} {φ:Prop} {x:AV}
variable {t:Nat}
theorem yCz {op:BinOp}{a b:AV} (h:pBin T t op a b=some (some φ,x)) (hk:zYt op a b=true):φ:=by
 unfold pBin at h;split at h
 ·rename_i r hr;cases h;unfold zYy at hr;split at hr
  ·cases hr; simpa [zYt] using hk
  ·cases hr; simpa [zYt] using hk
  ·split at hr
   ·unfold pInt at hr;split at hr <;> first | (cases hr; simpa [zYt] using hk) | cases hr
   cases hr
  ·unfold pStr at hr;split at hr <;> first | (cases hr; exact aj hk) | cases hr
  all_goals (repeat' split at hr)
  all_goals cases hr
 unfold pArr at h;repeat' split at h
 all_goals cases h
theorem zZm {e:Nat}{j:TI} (h:elemOf T t=some (e,j)):tk T t = .slice e:=by
 unfold elemOf at h;split at h
 ·rename_i i hi;split at h
  ·rename_i e' he;split at h
   ·cases h;simp only[tk,hi,he]
   cases h
  cases h
 cases h
def yBD (y:AV):y.nrm=y∨∃ sz,y = .nl sz/\y.nrm = .s (.sl sz []):=by
 cases y <;> first | exact .inl rfl | exact .inr ⟨_,rfl,rfl⟩
variable {y:AV}
theorem yAx {src dst:Nat} (h:zW3 T src dst y.nrm=some (some φ,x)) (hk:zVN T V dst y=true):φ:=by
 unfold zW3 at h;split at h
 ·split at h
  ·cases h
  ·cases h
  ·rename_i sz rows _ _ hx;split at h
   ·split at h
    ·cases h;rcases yBD y with e | ⟨sz',rfl,e⟩
     ·rw[e]at hx;subst hx;exact zTw hk
     rw[e]at hx;cases hx; rfl
    cases h
   cases h
  cases h
 cases h
theorem zYB {i:AV} (h:zOc T t y i=some (some φ,x)) (hk:zUy T t y i=true):φ:=by
 unfold zOc at h;split at h
 ·split at h
  ·cases h; exact zGq hk
  cases h
 ·rename_i ti xs k n ht;split at h
  ·rename_i len e hk2;split at h
   ·split at h
    ·cases h;have e1:tk T t = .arr len e :=(by simp only[tk,ht,hk2]);simp only[zUy,e1]at hk;exact zGq hk
    cases h
   cases h
  cases h
 cases h
def zVB (y:AV):lenV V y.nrm=lenV V y:=by
 rcases yBD y with e | ⟨sz',rfl,e⟩ <;> rw[e] <;> rfl
theorem zRh {i:AV} (h:zEx T t y.nrm i=some (some φ,x)) (hk:zI1 T V t y i=true):φ:=by
 unfold zEx at h;split at h
 ·rename_i ti k n ht;split at h
  ·rename_i e sz rows hk2 hy;split at h
   ·split at h
    ·cases h;have e1:tk T t = .slice e :=(by simp only[tk,ht,hk2]);simp only[zI1,e1]at hk;rw[← zVB,hy]at hk;exact zGq hk
    cases h
   cases h
  ·rename_i _ len e hk2;split at h
   ·split at h
    ·cases h;have e1:tk T t = .arr len e :=(by simp only[tk,ht,hk2]);simp only[zI1,e1]at hk;exact zGq hk
    cases h
   cases h
  cases h
 cases h
def ok3 {a b l:Int} (h:(decide (0<=a)&&decide (a<=b)&&decide (b<=l))=true):0<=a/\a<=b/\b<=l:=by
 simp only[af,ay]at h;exact⟨h.1.1,h.1.2,h.2⟩
variable {hi lo:Option AV}
def zKR {l:Nat}{a b:Int} (h:okSl l lo hi=true) (h1:bnd 0 lo=some a) (h2:bnd l hi=some b):0<=a/\a<=b/\b<=l:=by
 unfold okSl at h;rw[h1,h2]at h;exact ok3 h
theorem zTp  (h:zKX T t y lo hi=some (some φ,x)) (hk:okSl (lenV V y) lo hi=true):φ:=by
 unfold zKX at h;split at h
 ·split at h
  ·rename_i a b _ h1 h2;cases h;exact zKR hk h1 h2
  cases h
 ·split at h
  ·rename_i e a b _ h1 h2;split at h
   ·split at h
    ·cases h;exact zKR hk h1 h2
    cases h
   cases h
  cases h
 cases h
theorem zW6 {sz:Nat} (h:zLz T t sz lo hi=some (some φ,x)) (hk:okSl 0 lo hi=true):φ:=by
 unfold zLz at h;split at h
 ·rename_i e a b _ h1 h2;split at h
  ·cases h;exact zKR hk h1 h2
  cases h
 cases h
theorem zVU (h:zBH T own o V.env=some (some φ,x)) (hk:okB T o V=true):φ:=by
 unfold zBH at h;split at h;case h_1=>split at h <;> cases h
 case h_2=>split at h <;> cases h
 case h_3=>split at h <;> cases h
 case h_4 =>
  split at h
  ·cases h
  split at h <;> cases h
 case h_5 =>
  repeat' split at h
  all_goals cases h
 case h_6 =>
  unfold zTn at h;repeat' split at h
  all_goals cases h
 case h_7 =>
  repeat' split at h
  all_goals cases h
 case h_8=>split at h <;> cases h
 case h_9 ho =>
  simp only[okB,ho]at hk;exact yCz h hk
 case h_10=>unfold pUn at h; split at h <;> cases h
 case h_11 ho =>
  simp only[okB,ho]at hk;exact yAx h hk
 case h_12 =>
  repeat' split at h
  all_goals cases h
 case h_13 ho =>
  simp only[okB,ho]at hk;split at h
  ·rename_i sz hx;rw[hx]at hk;split at h
   ·exact zW6 h hk
   exact zTp (V:=V) h hk
  refine zTp (V:=V) h ?_;rw[zVB];exact hk
 case h_14 =>
  unfold zF2 at h;repeat' split at h
  all_goals cases h
 case h_15 =>
  unfold zPU at h;repeat' split at h
  all_goals cases h
 case h_16 ho =>
  simp only[okB,ho]at hk;exact zRh h hk
 case h_17 ho =>
  simp only[okB,ho]at hk;exact zYB h hk
 case h_18 =>
  repeat' split at h
  all_goals cases h
 case h_19 =>
  split at h
  ·unfold pLen at h;split at h <;> cases h
  cases h
 case h_20 =>
  unfold pMin at h;repeat' split at h
  all_goals cases h
 case h_21 =>
  unfold pMin at h;repeat' split at h
  all_goals cases h
 case h_22 =>
  split at h
  ·unfold zW4 at h;repeat' split at h
   all_goals cases h
  cases h
 case h_23 =>
  split at h
  ·unfold pCap at h;split at h <;> cases h
  cases h
 case h_24=>cases h
theorem yAl (h:zCO T own o V=some (some φ,x,V')) (hk:okB T o V=true):φ:=by
 unfold zCO at h;split at h;case h_1 =>
  repeat' split at h
  all_goals cases h
 case h_2 =>
  repeat' split at h
  all_goals cases h
 case h_3=>split at h <;> cases h
 case h_4 =>
  split at h
  ·rw[zCt]at h; cases h
  cases h
 case h_5 =>
  repeat' split at h
  all_goals cases h
 case h_6 ho =>
  simp only[okB,ho]at hk;split at h
  ·rename_i e j k n k' m h1 h2 h3;split at h
   ·cases h;rw[h1,h2,h3]at hk;simp only[af,ay]at hk;exact⟨hk.1.1.1,hk.1.1.2,hk.1.2,hk.2⟩
   cases h
  cases h
 case h_7 =>
  repeat' split at h
  all_goals cases h
 case h_8 ho =>
  simp only[okB,ho]at hk;split at h
  ·split at h
   ·dsimp only at h;split at h
    ·rw[zCt]at h; cases h
    cases h
   cases h
  ·rename_i k sz j off i h1 h2;rw[h1]at hk;dsimp only at hk;split at h
   ·rename_i e sz' rows ss h3 h4;rw[h3]at hk;split at h
    ·cases h;exact aj hk
    cases h
   cases h
  cases h
 case h_9 ho =>
  simp only[okB,ho]at hk;split at h
  ·rename_i e j k k' n h1 h2 h3;split at h
   ·rename_i e' sz rows h4;split at h
    ·cases h;have e1:tk T _ = .slice _:=zZm h1;rw[h2,h3]at hk;simp only[zI1,e1,lenV,h4,zNZ]at hk;exact zGq hk
    cases h
   cases h
  cases h
 case h_10 ho =>
  simp only[okB,ho]at hk;split at h
  ·rename_i e j k h1 h2 h3;rw[h3]at hk;split at h
   ·rename_i e' sz rows h4 h5;split at h
    ·cases h;simp only[zVN,h5,h2]at hk;exact zTw hk
    cases h
   cases h
  ·rename_i e j e2 k h1 h2 h3;rw[h3]at hk;split at h
   ·rename_i e' sz rows h4 h5;split at h
    ·cases h;simp only[zVN,h5,h2]at hk;intro e0;rw[e0]at hk;cases hk
    cases h
   cases h
  cases h
 case h_11 ho =>
  simp only[okB,ho]at hk;split at h
  ·rename_i e j k k' n h1 h2 h3;rw[h2]at hk;split at h
   ·rename_i e' sz rows h4;split at h
    ·cases h;simp only[lenV,h4,zNZ]at hk;obtain⟨h5,h6,h7⟩:=zKR (a:=0) (b:=n) hk rfl (by rw[bu,h3]; rfl);exact⟨h6,h7⟩
    cases h
   cases h
  cases h
 case h_12 =>
  repeat' split at h
  all_goals cases h
 case h_13 ho =>
  simp only[okB,ho]at hk;split at h
  ·rename_i x' y t tx ha hts;simp only[ha,hts]at hk;unfold zIn at h;split at h
   ·rename_i e j k e' sz rows sz' rows' h1 h2 h3;simp only[h1]at hk;have l1:lenV V (opd T V.env t x')=rows.length:=by
     unfold zJt at h2;split at h2
     ·rename_i hx; cases h2; rw[hx]; rfl
     ·rename_i hx;split at h2
      ·rename_i hh; cases h2; rw[hx]; simp only[lenV,hh,zNZ]
      cases h2
     cases h2
    have l2:lenV V (opd T V.env tx y)=rows'.length:=by
     unfold rowsOf at h3;split at h3
     ·rename_i hx; cases h3; rw[hx]; rfl
     ·rename_i hx; cases h3; rw[hx]; rfl
     ·rename_i hx;split at h3
      ·rename_i hh; cases h3; rw[hx]; simp only[lenV,hh,zNZ]
      cases h3
     ·rename_i hx; cases h3; rw[hx]; simp only[lenV,az]
     cases h3
    rw[l1,l2]at hk;have hk:=zS8 hk;split at h
    ·split at h
     ·cases h;have e0:rows=[]:=by
       unfold zJt at h2;repeat' split at h2
       all_goals cases h2
       rfl
      rw[e0,an,a8]at hk;exact hk
     split at h
     ·cases h; exact hk
     cases h
    cases h
   cases h
  cases h
 case h_14=>cases h
theorem zYj (h:zCA T o V=some (some φ,x,V')) (hk:okB T o V=true):φ:=by
 have rowsA_len:∀ {tx:Nat} {y:AV} {sz:Nat} {rows:List (List AV)},zK4 T V tx y=some (sz,rows)->lenV V y=rows.length:=fun {tx y sz rows} h3=>by
  unfold zK4 at h3;split at h3
  ·cases h3; rfl
  ·cases h3; simp only[lenV,az]
  ·split at h3
   ·rename_i hh; cases h3; simp only[lenV,hh,zNZ,az]
   ·rename_i hh; cases h3; simp only[lenV,hh,zNZ]
   cases h3
  cases h3
 have baseA_len:∀ {y:AV} {k e sz:Nat} {rows:List (List AV)},zKu V y=some (k,e,sz,rows)->lenV V y=rows.length:=fun {y k e sz rows} h3=>by
  unfold zKu at h3;split at h3
  ·split at h3
   ·rename_i hh; cases h3; simp only[lenV,hh,zNZ]
   cases h3
  cases h3
 unfold zCA at h;split at h;case h_1 =>
  repeat' split at h
  all_goals cases h
 case h_2 ho =>
  simp only[okB,ho]at hk;split at h
  ·rename_i k sz j off i h1 h2;rw[h1]at hk;dsimp only at hk;split at h
   ·rename_i e sz' rows h3;rw[h3]at hk;split at h
    ·cases h;exact aj hk
    cases h
   cases h
  cases h
 case h_3 ho =>
  simp only[okB,ho]at hk;split at h
  ·rename_i e j k k' n h1 h2 h3;split at h
   ·rename_i e' sz rows h4;split at h
    ·cases h;have e1:tk T _ = .slice _:=zZm h1;rw[h2,h3]at hk;simp only[zI1,e1,lenV,h4,zNZ]at hk;exact zGq hk
    cases h
   cases h
  cases h
 case h_4 ho =>
  simp only[okB,ho]at hk;split at h
  ·rename_i e j k k' n h1 h2 h3;rw[h2]at hk;split at h
   ·rename_i e' sz rows h4;split at h
    ·cases h;simp only[lenV,h4,zNZ]at hk;obtain⟨h5,h6,h7⟩:=zKR (a:=0) (b:=n) hk rfl (by rw[bu,h3]; rfl);exact⟨h6,h7⟩
    cases h
   cases h
  cases h
 case h_5 =>
  repeat' split at h
  all_goals cases h
 case h_6 ho =>
  simp only[okB,ho]at hk;split at h
  ·rename_i x' y t tx ha hts;simp only[ha,hts]at hk;split at h
   ·rename_i e j k e' sz rows sz' rows' h1 h2 h3;simp only[h1]at hk;rw[baseA_len h2,rowsA_len h3]at hk;split at h
    ·cases h; exact zS8 hk
    cases h
   cases h
  cases h
 case h_7 ho =>
  simp only[okB,ho]at hk;split at h
  ·rename_i x' y t tx ha hts;simp only[ha,hts]at hk;split at h
   ·rename_i e j k e' sz rows sz' rows' h1 h2 h3;rw[baseA_len h2,rowsA_len h3]at hk;split at h
    ·cases h; exact ab hk
    cases h
   cases h
  cases h
 case h_8=>cases h
theorem yBc {φ:Option Prop} (h:step1 T own o V=some (φ,x,V')) (hk:okB T o V=true):φ.getD True:=by
 cases φ with
 | none=>exact trivial
 | some p=>
 unfold step1 at h;split at h
 ·rename_i hp; cases h; exact zVU hp hk
 unfold zBx at h;split at h
 ·rename_i hl; cases h; cases(zNS hl).1
 split at h
 ·rename_i hl; cases h; exact yAl hl hk
 exact zYj h hk
end
section
variable {O:Type}
def fN (n:Nat) (K:Nat->O):O:=match n with | 0=>K 0 | m+1=>K (m+1)
def zFn (n:Nat) (K:Nat->O):fN n K=K n:=by cases n <;> rfl
def fL {α:Type} (f:α->(α->O)->O):List α->(List α->O)->O
 | [],K=>K []
 | x::xs,K=>f x fun y=>fL f xs fun ys=>K (y::ys)
def zIi {α:Type}{f:α->(α->O)->O} (hf:∀ x K,f x K=K x):∀ (l:List α) (K:List α->O),fL f l K=K l
 | [],K=>rfl
 | x::xs,K=>by simp only[fL,hf]; exact zIi hf xs _
def fS:S->(S->O)->O
 | .int k n,K=>K (.int k n)
 | .bool b,K=>K (.bool b)
 | .str l,K=>K (.str l)
 | .sl sz rows,K=>K (.sl sz rows)
 | .np,K=>K .np
 | .pt row,K=>K (.pt row)
 | .fn f,K=>fN f fun f=>K (.fn f)
 | .nf,K=>K .nf
 | .nm,K=>K .nm
def yEF (x:S) (K:S->O):fS x K=K x:=by cases x <;> simp only[fS,zFn]
def fSss (rows:List (List S)) (K:List (List S)->O):O:=K rows
def yCm (rows:List (List S)) (K:List (List S)->O):fSss rows K=K rows:=rfl
mutual
def fV:AV->(AV->O)->O
 | .s x,K=>fS x fun x=>K (.s x)
 | .nl sz,K=>K (.nl sz)
 | .agg xs,K=>fVs xs fun ys=>K (.agg ys)
 | .tup xs,K=>fVs xs fun ys=>K (.tup ys)
 | .op k o,K=>fN k fun k=>K (.op k o)
 | .orow k,K=>fN k fun k=>K (.orow k)
 | .rp k sz i o,K=>fN k fun k=>K (.rp k sz i o)
 | .mref k,K=>fN k fun k=>K (.mref k)
 | .clo f xs,K=>fN f fun f=>fVs xs fun ys=>K (.clo f ys)
 | .junk,K=>K .junk
def fVs:List AV->(List AV->O)->O
 | [],K=>K []
 | x::xs,K=>fV x fun y=>fVs xs fun ys=>K (y::ys)
end
mutual
def zSH:∀ (x:AV) (K:AV->O),fV x K=K x
 | .s x,K=>by simp only[fV,yEF]
 | .nl sz,K=>by simp only[fV]
 | .agg xs,K=>by simp only[fV]; exact zKE xs _
 | .tup xs,K=>by simp only[fV]; exact zKE xs _
 | .op k o,K=>by simp only[fV,zFn]
 | .orow k,K=>by simp only[fV,zFn]
 | .rp k sz i o,K=>by simp only[fV,zFn]
 | .mref k,K=>by simp only[fV,zFn]
 | .clo f xs,K=>by simp only[fV,zFn]; exact zKE xs _
 | .junk,K=>by simp only[fV]
def zKE:∀ (x:List AV) (K:List AV->O),fVs x K=K x
 | [],K=>by simp only[fVs]
 | x::xs,K=>by
  simp only[fVs]
  rw[zSH x]
  exact zKE xs _
end
def fO:Ob->(Ob->O)->O
 | .box t cs,K=>fVs cs fun l=>K (.box t l)
 | .row e sz rows,K=>K (.row e sz rows)
 | .arow e sz rows,K=>K (.arow e sz rows)
 | .any τ xs,K=>fVs xs fun l=>K (.any τ l)
def zWB (x:Ob) (K:Ob->O):fO x K=K x:=by
 cases x <;> simp only[fO,zKE]
def fOo:Option Ob->(Option Ob->O)->O
 | none,K=>K none
 | some o,K=>fO o fun o=>K (some o)
def yDw (x:Option Ob) (K:Option Ob->O):fOo x K=K x:=by cases x <;> simp only[fOo,zWB]
def fH (q:Option Nat) (V:St) (K:St->O):O :=
 match q with
 | none=>K V
 | some k=>match V.hp k with
  | none=>K V
  | some ob=>fO ob fun ob=>K ⟨V.env,fun j=>bif Nat.beq j k then some ob else V.hp j,V.nx⟩
def yDv (q:Option Nat) (V:St) (K:St->O):fH q V K=K V:=by
 unfold fH;split
 ·rfl
 rename_i k;split
 ·rfl
 rename_i ob h;rw[zWB];congr 1;obtain⟨env,hp,nx⟩:=V;simp only[St.mk.injEq,true_and,and_true];funext j;cases e:Nat.beq j k with
 | true=>obtain rfl:=ab e; exact h.symm
 | false=>rfl
end
def layP (ρ:List (Nat×Nat)) (f:Nat->Nat):Nat->List (Option Ob)->List (Nat×Option Ob)->List (Nat×Option Ob)
 | _,[],acc=>acc
 | i,o::os,acc=>layP ρ f (i+1) os ((f i,o.map (Ob.ren ρ))::acc)
def zYe {ρ:List (Nat×Nat)}{f:Nat->Nat}:∀ {i:Nat}{os:List (Option Ob)}{acc:List (Nat×Option Ob)}{K:List (Nat×Option Ob)->Prop},layG ρ f i os acc K=K (layP ρ f i os acc)
 | _,[],acc,K=>rfl
 | i,o::os,acc,K=>by
  simp only[layG,layP];rw[zLn,yBE];exact zYe
def layX {O:Type} (ρ:List (Nat×Nat)) (f:Nat->Nat):Nat->List (Option Ob)->List (Nat×Option Ob)->(List (Nat×Option Ob)->O)->O
 | _,[],acc,K=>K acc
 | i,o::os,acc,K=>fN (f i) fun j=>fOo (o.map (Ob.ren ρ)) fun o'=>layX ρ f (i+1) os ((j,o')::acc) K
def zVz {O:Type}{ρ:List (Nat×Nat)}{f:Nat->Nat}:∀ {i:Nat}{os:List (Option Ob)}{acc:List (Nat×Option Ob)}{K:List (Nat×Option Ob)->O},layX ρ f i os acc K=K (layP ρ f i os acc)
 | _,[],acc,K=>rfl
 | i,o::os,acc,K=>by
  simp only[layX,layP];rw[zFn,yDw];exact zVz
inductive U where
 | a (x:AV)
 | b (x:Bool)
 | o (x:List (Option Ob))
 | c (g:Nat) (xs:List AV) (os:List Ob)
 | k (x:Code)
 | n (x:Nat)
 | r (x:List (List S))
 | l (x:List (Nat×AV))
 | h (x:List (Nat×Ob))
abbrev Us:=List (U×U)
def Us.ok (l:Us):Prop:=∀ p∈l,p.1=p.2
def Us.ok.nil:Us.ok []:=fun p hp=>by cases hp
def Us.ok.cons {u v:U}{l:Us} (h:Us.ok ((u,v)::l)):u=v/\Us.ok l:=⟨h _ ak,fun p hp=>h p (aG _ hp)⟩
def Us.ok.app {l r:Us} (h:Us.ok (l++r)):Us.ok l/\Us.ok r:=⟨fun p hp=>h p (aN.2 (.inl hp)),fun p hp=>h p (aN.2 (.inr hp))⟩
def zDi (R:List AV->List Ob->AV->List (Option Ob)->Prop):zAq:=⟨fun _ _=>False,some R,none,none,true⟩
def Evl (P:Program) (g:Nat) (xs:List AV) (os:List Ob) (x:AV) (os':List (Option Ob)):Prop:=PSound P g (zDi fun a b c d=>a=xs/\b=os/\c=x/\d=os')
def zXq (P:Program) (N n0:Nat) (x:Code) (L:List (Nat×AV)) (H:List (Nat×Ob)) (n:Nat) (e:End) (L':List (Nat×AV)) (H':List (Nat×Ob)) (n':Nat):Prop :=
 ∀ (c:Cx) (Q:End->St->Prop),c.P=P->c.N=N->c.n0=n0->Q e ⟨ofL L',ofH H',n'⟩->TriL c x ⟨ofL L,ofH H,n⟩ Q
inductive Fact (P:Program) where
 | call (same:Bool) (g:Nat) (xs:List AV) (os:List Ob) (x:AV) (os':List (Option Ob)) (h:Evl P g xs os x os')
 | val (d:Nat) (a b:AV) (h:a=b)
 | ok (d:Nat) (b:Bool) (h:b=true)
 | ld (rows:List (List S)) (i:Nat) (row:List S) (h1:i<rows.length) (h2:rows.getD i []=row)
 | take (k off e:Nat)
 | mv (k:Nat)
 | give (k:Nat)
 | bx (cells:List AV) (o:Nat) (x:AV) (h:cells[o]? = some x)
 | ix (s:List UInt8) (ks:List (List UInt8)) (r:Option Nat) (h:zFP s ks 0=r)
 | go
 | loop (N n0:Nat) (x:Code) (L:List (Nat×AV)) (H:List (Nat×Ob)) (n:Nat) (e:End) (L':List (Nat×AV)) (H':List (Nat×Ob)) (n':Nat) (h:zXq P N n0 x L H n e L' H' n')
def Full (P:Program) (Γ:Nat->Option zAq):Prop:=(∀ g s,Γ g=some s->s=zDi (Evl P g))/\∀ g xs os x os',Evl P g xs os x os'->Γ g=some (zDi (Evl P g))
open Classical in
noncomputable def gam (P:Program) (g:Nat):Option zAq:=if ∃ s,PSound P g s then some (zDi (Evl P g)) else none
def zIV (P:Program):Full P (gam P):=by
 refine⟨fun g s h=>?_,fun g xs os x os' h=>if_pos ⟨_,h⟩⟩;unfold gam at h;split at h
 ·exact(Option.some.inj h).symm
 cases h
variable {P:Program}
def zSM:∀ g s,gam P g=some s->PSound P g s:=fun g s h=>by
 unfold gam at h;split at h
 ·rename_i hs;cases h;obtain⟨s,hs⟩:=hs;exact⟨hs.1,fun G w xs vs r _ _ _ _ hs=>hs.elim,fun R' hR'=>by
   obtain rfl:Evl P g=R' :=(by simpa [zDi] using hR');exact fun G w O xs vs os x os' h1 h2 h3 h4 h5 h6=>h6.2.2.1 _ rfl G w O xs vs os x os' h1 h2 h3 h4 h5 ⟨rfl,rfl,rfl,rfl⟩,fun R hR=>by cases hR⟩
 cases h
theorem Full.noHeap {Γ:Nat->Option zAq} (h:Full P Γ):Full P (noHeap Γ) :=
 ⟨fun g s hs=>h.1 g s (zHl hs).1,fun g xs os x os' he=>by
  have:=h.2 g xs os x os' he;simp only[YtbfnjnljboncgaaGreat.noHeap,this,zDi]⟩
theorem Full.callOf {T:Nat->Option TI}{Γ:Nat->Option zAq}{o:Oper} (h:Full P Γ) (env:Nat->AV):callOf T Γ o env=none:=by
 unfold YtbfnjnljboncgaaGreat.callOf;split
 ·split
  ·split
   ·rename_i s hs;rw[h.1 _ s hs];simp only[zDi]
   rfl
  rfl
 rfl
abbrev CallF (P:Program):=Nat->List AV->List Ob->List (Fact P)->Option ((AV×List (Option Ob)×Bool)×Us×List (Fact P))
def CallF.Ok  (F:CallF P):Prop:=∀ g xs os fs x r same us fs',F g xs os fs=some ((x,r,same),us,fs')->Us.ok us->Evl P g xs os x r
abbrev Ou (P:Program) (α:Type):=Option (List α×Us×List (Fact P))
section
variable {P:Program}
def one {α:Type} (a:α) (fs:List (Fact P)):Ou P α:=some ([a],[],fs)
def zMB {α O:Type}:List α->(α->List (Fact P)->Ou P O)->List (Fact P)->Ou P O
 | [],_,fs=>some ([],[],fs)
 | a::r,f,fs=>match f a fs with
  | none=>none
  | some (l,us,fs1)=>match zMB r f fs1 with
   | none=>none
   | some (l',us',fs2)=>some (l++l',us++us',fs2)
def zD3 {α O:Type}{f:α->List (Fact P)->Ou P O}:∀ {l:List α}{fs fs':List (Fact P)}{L:List O}{us:Us},zMB l f fs=some (L,us,fs')->Us.ok us->∀ a∈l,∃ f1 l' u' f2,f a f1=some (l',u',f2)/\Us.ok u'/\∀ y∈l',y∈L
 | [],_,_,L,_,h,_,a,ha=>by cases ha
 | b::r,fs,fs',L,us,h,hu,a,ha=>by
  unfold zMB at h;split at h
  ·cases h
  ·rename_i l u1 fs1 h1;split at h
   ·cases h
   ·rename_i l' u2 fs2 h2;cases h;obtain⟨g1,g2⟩:=hu.app;rcases aR.1 ha with rfl | ha
    ·exact⟨_,l,u1,fs1,h1,g1,fun y hy=>aN.2 (.inl hy)⟩
    ·obtain⟨q1,l2,q2,q3,h3,h4,h5⟩:=zD3 h2 g2 a ha;exact⟨q1,l2,q2,q3,h3,h4,fun y hy=>aN.2 (.inr (h5 y hy))⟩
def zWz (T:Nat->Option TI) (o:Oper) (V:St) (fs:List (Fact P)):Option (AV×Us×List (Fact P)) :=
 match o.op with
 | .load t x=>match opd T V.env 0 x with
  | .rp k sz i off=>match V.hp k with
   | some (.row _ sz' rows)=>match fs with
    | .ld rows' i' row _ _::fs'=>match Nat.beq sz sz',zMG T t (row.drop off) with
     | true,some y=>some (y,[(.r rows,.r rows'),(.n i,.n i')],fs')
     | _,_=>none
    | _=>match Nat.beq sz sz',Nat.blt i rows.length,zMG T t ((rows.getD i []).drop off) with
     | true,true,some y=>some (y,[],fs)
     | _,_,_=>none
   | some (.arow _ sz' rows)=>match Nat.beq sz sz',Nat.blt i rows.length,zOQ T t ((rows.getD i []).drop off) with
    | true,true,some y=>some (y,[],fs)
    | _,_,_=>none
   | _=>none
  | _=>none
 | _=>none
def yEc (hp:Nat->Option Ob) (l:List (Nat×Option Ob)):Us:=l.map fun p=>(.o [hp p.1],.o [p.2])
def zSA (F:CallF P) (raw:Option (Nat×List AV)) (V:St) (fs:List (Fact P)):Option ((AV×St×Bool)×Us×List (Fact P)) :=
 match raw with
 | none=>none
 | some (g,xs)=>fL fN (zAo V.hp 64 (AV.keysAll xs) []) fun ks=>fN V.nx fun nx0 =>
  match distinct ks,zLo V.hp (zipI 0 ks) ks with
  | true,some os=>fVs (AV.renAll (zipI 0 ks) xs) fun xs'=>fL fO os fun os'=>match F g xs' os' fs with
   | some ((x,r,same),us,fs')=>layX (zEc ks nx0 0 r) (zER ks nx0) 0 r [] fun l=>fN (nx0+(r.length - ks.length)) fun nx'=>some ((x.ren (zEc ks nx0 0 r),St.lay V l nx',same),us++(match same with | true=>yEc V.hp l | false=>[]),fs')
   | none=>none
  | _,_=>none
def valT (d:Option Nat) (y:AV) (fs:List (Fact P)):AV×Us×List (Fact P) :=
 match d,fs with
 | some d,.val d' a b _::r=>(match Nat.beq d d' with | true=>(b,[(.a y,.a a)],r) | false=>(y,[],fs))
 | _,_=>(y,[],fs)
variable {fs fs':List (Fact P)}{d:Option Nat}
def zZA {y z:AV}{us:Us} (h:valT d y fs=(z,us,fs')) (hu:Us.ok us):y=z:=by
 unfold valT at h;split at h
 ·rename_i d' a b hab r;split at h
  ·cases h; have:=hu.cons.1; cases this; exact hab
  cases h; rfl
 cases h; rfl
def okF (d:Option Nat) (b:Bool) (fs:List (Fact P)):Us×List (Fact P) :=
 match d,fs with
 | some d,.ok d' b' _::r=>(match Nat.beq d d' with | true=>([(.b b,.b b')],r) | false=>([(.b b,.b true)],fs))
 | _,_=>([(.b b,.b true)],fs)
def okF_eq {b:Bool}{us:Us} (h:okF d b fs=(us,fs')) (hu:Us.ok us):b=true:=by
 unfold okF at h;split at h
 ·rename_i d' b' hb r;split at h
  ·cases h; have:=hu.cons.1; cases this; exact hb
  cases h; have:=hu.cons.1; cases this; rfl
 cases h; have:=hu.cons.1; cases this; rfl
end
def nextL {α:Type} (f:Nat->List UInt8->AV->α) (seen:List Nat):Nat->List (List UInt8)->List AV->List α
 | i,s::ks,x::xs=>match inL i seen with
  | true=>nextL f seen (i+1) ks xs
  | false=>f i s x::nextL f seen (i+1) ks xs
 | _,_,_=>[]
def zS3 {α:Type}{f:Nat->List UInt8->AV->α}{seen:List Nat}{s:List UInt8}{x:AV}:∀ {i j:Nat}{ks:List (List UInt8)}{xs:List AV},ks[j]? = some s->xs[j]? = some x->i+j ∉ seen->f (i+j) s x∈nextL f seen i ks xs
 | i,j,[],xs,h,_,_=>by simp at h
 | i,j,k::ks,[],_,h,_=>by simp at h
 | i,0,k::ks,y::xs,h1,h2,h3=>by
  simp at h1 h2;subst h1;subst h2;unfold nextL;split
  ·rename_i e; exact absurd (zIl.1 e) h3
  ·exact ak
 | i,j+1,k::ks,y::xs,h1,h2,h3=>by
  have:=zS3 (f:=f) (i:=i+1) (j:=j) (ks:=ks) (xs:=xs) (by simpa using h1) (by simpa using h2) (by rw[show i+1+j=i+(j+1) by omega]; exact h3);rw[show i+1+j=i+(j+1) by omega]at this;unfold nextL;split
  ·exact this
  ·exact aG _ this
def zWN {α:Type}{f:Nat->List UInt8->AV->α}{seen:List Nat}{s:List UInt8}{x:AV}{j:Nat}{ks:List (List UInt8)}{xs:List AV} (h1:ks[j]? = some s) (h2:xs[j]? = some x) (h3:j ∉ seen):f j s x∈nextL f seen 0 ks xs:=by
 have:=zS3 (f:=f) (i:=0) h1 h2 (by rw[a8]; exact h3);rwa [a8]at this
def xMap (T:Nat->Option TI) (o:Oper) (V:St):Option (List (AV×St)) :=
 match o.op with
 | .makeMap _ none=>some [(.mref V.nx,zA6 V (.any (.map []) []))]
 | .insert t m k x=>match tk T t,opd T V.env 0 m,opd T V.env 0 k with
  | .mp kt e,.mref q,.s (.str s)=>match tk T kt,V.hp q,(opd T V.env e x).nrm.one with
   | .str,some (.any (.map keys) xs),true=>match zFP s keys 0 with
    | none=>some [(.junk,zDW V q (.any (.map (keys++[s])) (xs++[(opd T V.env e x).nrm])))]
    | some _=>none
   | _,_,_=>none
  | _,_,_=>none
 | .range t m=>match tk T t,opd T V.env 0 m with
  | .mp _ _,.mref q=>match V.hp q with
   | some (.any (.map keys) _)=>some [(.op V.nx 0,zA6 V (.any (.iter keys.length [] keys.length) [.mref q]))]
   | _=>none
  | _,_=>none
 | .next it false=>match opd T V.env 0 it with
  | .op q 0=>match V.hp q with
   | some (.any (.iter since seen c) [.mref k])=>match V.hp k with
    | some (.any (.map keys) xs)=>match Nat.beq keys.length since,Nat.ble since c with
     | true,true=>some ((match (List.range keys.length).all (fun i=>inL i seen) with | true=>[(.tup [.s (.bool false)],V)] | false=>[]) ++
       nextL (fun i s x=>(.tup [.s (.bool true),.s (.str s),x],zDW V q (.any (.iter since (seen++[i]) keys.length) [.mref k]))) seen 0 keys xs)
     | _,_=>none
    | _=>none
   | _=>none
  | _=>none
 | .entry it=>match opd T V.env 0 it with
  | .op q 0=>match V.hp q with
   | some (.any (.iter since seen c) [.mref k])=>match V.hp k,seen.getLast? with
    | some (.any (.map keys) xs),some i=>match Nat.beq c keys.length,keys[i]?,xs[i]? with
     | true,some s,some x=>some [(.tup [.s (.str s),x],V)]
     | _,_,_=>none
    | _,_=>none
   | _=>none
  | _=>none
 | _=>none
theorem zXl {T:Nat->Option TI}{o:Oper}{V:St}{L:List (AV×St)} (h:xMap T o V=some L):∃ Φ,mapQ T o V=some Φ/\∀ K:AV->St->Prop,(∀ p∈L,K p.1 p.2)->Φ K:=by
 unfold xMap at h;unfold mapQ;split at h
 ·rename_i ho; cases h; try simp only[ho]
  exact⟨_,rfl,fun K hk=>hk _ ak⟩
 ·rename_i ho;try simp only[ho]
  split at h
  ·rename_i h1 h2 h3;try simp only[h1,h2,h3]
   split at h
   ·rename_i h4 h5 h6;try simp only[h4,h5,h6]
    split at h
    ·rename_i h7; cases h; exact⟨_,rfl,fun K hk=>⟨h7,hk _ ak⟩⟩
    cases h
   cases h
  cases h
 ·rename_i ho;try simp only[ho]
  split at h
  ·rename_i h1 h2;try simp only[h1,h2]
   split at h
   ·rename_i h4;try simp only[h4]
    cases h; exact⟨_,rfl,fun K hk=>hk _ ak⟩
   cases h
  cases h
 ·rename_i ho;try simp only[ho]
  split at h
  ·rename_i h1;try simp only[h1]
   split at h
   ·rename_i h2;try simp only[h2]
    split at h
    ·rename_i h3;try simp only[h3]
     split at h
     ·rename_i h4 h5;cases h;refine⟨_,rfl,fun K hk=>⟨⟨ab h4,aj h5⟩,fun i s x hi hx hn=>?_,fun hall=>?_⟩⟩
      ·exact hk _ (aN.2 (.inr (zWN hi hx hn)))
      refine hk (_,_) (aN.2 (.inl ?_));rw[bo.2 fun i hi=>zIl.2 (hall i (by simpa using hi))];exact ak
     cases h
    cases h
   cases h
  cases h
 ·rename_i ho;try simp only[ho]
  split at h
  ·rename_i h1;try simp only[h1]
   split at h
   ·rename_i h2;try simp only[h2]
    split at h
    ·rename_i h3 h4;try simp only[h3,h4]
     split at h
     ·rename_i h5 h6 h7;try simp only[h5,h6,h7]
      cases h; exact⟨_,rfl,fun K hk=>hk _ ak⟩
     cases h
    cases h
   cases h
  cases h
 cases h
def touch (T:Nat->Option TI) (o:Oper) (V:St) (x:AV):Option Nat :=
 match x with
 | .orow k=>some k
 | _=>match o.op with
  | .store _ y _=>match opd T V.env 0 y with
   | .rp k _ _ _=>some k
   | _=>none
  | .insert _ m _ _=>match opd T V.env 0 m with
   | .mref k=>some k
   | _=>none
  | _=>none
def putO (V:St) (d:Option Nat) (x:AV):St:=match d with | none=>V | some d=>V.putN d x
section
variable {P:Program}
def mapL {α:Type} (l:List α) (fs:List (Fact P)):Ou P α:=some (l,[],fs)
def yCi (T:Nat->Option TI) (o:Oper) (V:St):List (Fact P)->Option (AV×Us×List (Fact P))
 | .ix s' ks' r _::fs'=>match o.op with
  | .lookup t m k ok=>match tk T t,opd T V.env 0 m,opd T V.env 0 k with
   | .mp kt e,.mref q,.s (.str s)=>match tk T kt,V.hp q with
    | .str,some (.any (.map keys) xs)=>match r with
     | some i=>match xs[i]? with
      | some y=>some (zIz ok y true,[(.a (.s (.str s)),.a (.s (.str s'))),(.o [some (.any (.map keys) [])],.o [some (.any (.map ks') [])])],fs')
      | none=>none
     | none=>match zZE T e with
      | some y=>some (zIz ok y false,[(.a (.s (.str s)),.a (.s (.str s'))),(.o [some (.any (.map keys) [])],.o [some (.any (.map ks') [])])],fs')
      | none=>none
    | _,_=>none
   | _,_,_=>none
  | _=>none
 | _=>none
variable {us:Us}{fs fs':List (Fact P)}{x:AV}{V:St}{o:Oper}{own:Bool}{T:Nat->Option TI}
def qJ {P:Prop} (h:P:=by cases h;obtain⟨e1,hu⟩:=hu.cons;obtain⟨e2,hu⟩:=hu.cons;cases e1;cases e2;simp only[‹zFP s' ks' 0=_›,h6]):P:=h
theorem zWA  (h:yCi T o V fs=some (x,us,fs')) (hu:Us.ok us):step1 T own o V=some (none,x,V):=by
 unfold yCi at h;split at h
 ·rename_i s' ks' r hr fs1;split at h
  ·rename_i t m k ok ho;have hp:zBH T own o V.env=none :=(by unfold zBH; simp only[ho]);unfold step1;simp only[hp];unfold zBx zES;simp only[ho];split at h
   ·rename_i h1 h2 h3;simp only[h1,h2,h3];split at h
    ·rename_i h4 h5;simp only[h4,h5];split at h
     ·split at h
      ·rename_i h6;exact qJ
      cases h
     split at h
     ·rename_i h6;exact qJ
     cases h
    cases h
   cases h
  cases h
 cases h
def eBox (T:Nat->Option TI) (o:Oper) (V:St):List (Fact P)->Option (AV×Us×List (Fact P))
 | .bx cells' off' x _::fs'=>match o.op with
  | .load t y=>match opd T V.env 0 y,T t with
   | .op k off,some i=>match V.hp k,i.k.agg with
    | some (.box bt cells),false=>some (x,[(.n off,.n off'),(.o [some (.box bt cells)],.o [some (.box bt cells')])],fs')
    | _,_=>none
   | _,_=>none
  | _=>none
 | _=>none
theorem zXX  (h:eBox T o V fs=some (x,us,fs')) (hu:Us.ok us):step1 T own o V=some (none,x,V):=by
 unfold eBox at h;split at h
 ·rename_i cells' off' x' hx fs1;split at h
  ·rename_i t y ho;split at h
   ·rename_i k off i h1 h2;split at h
    ·rename_i bt cells h3 h4;cases h;obtain⟨e1,hu⟩:=hu.cons;obtain⟨e2,hu⟩:=hu.cons;cases e1;cases e2;have hp:zBH T own o V.env=none :=(by unfold zBH; simp only[ho,h1]);unfold step1;simp only[hp];unfold zBx zES;simp only[ho];unfold zCO;simp only[ho,h1,h2,h3,h4,hx]
    cases h
   cases h
  cases h
 cases h
def zU3 (T:Nat->Option TI) (own:Bool) (o:Oper) (V:St) (fs:List (Fact P)):Option ((Option Prop×AV×St)×Us×List (Fact P)) :=
 match (match yCi T o V fs with | some r=>some r | none=>eBox T o V fs) with
 | some (x,us,fs')=>some ((none,x,V),us,fs')
 | none=>match step1 T own o V with
  | some r=>match okF o.dst (okB T o V) fs with | (us,fs')=>some (r,us,fs')
  | none=>none
theorem zOv {V':St}{φ:Option Prop} (h:zU3 T own o V fs=some ((φ,x,V'),us,fs')) (hu:Us.ok us):step1 T own o V=some (φ,x,V')/\φ.getD True:=by
 unfold zU3 at h;split at h
 ·rename_i hl;cases h;split at hl
  ·rename_i r hr;cases hl;exact⟨zWA hr hu,trivial⟩
  exact⟨zXX hl hu,trivial⟩
 split at h
 ·rename_i r hr;split at h;rename_i u f hok;cases h;exact⟨hr,yBc hr (okF_eq hok hu)⟩
 cases h
theorem zP5  (h:zU3 T own o V fs=none):step1 T own o V=none:=by
 unfold zU3 at h;split at h
 ·cases h
 split at h
 ·cases h
 assumption
def eRun (T:Nat->Option TI) (F:CallF P) (own nmd:Bool) (o:Oper) (V:St) (fs:List (Fact P)):Ou P (AV×St) :=
 match zIm T nmd o V with
 | some x=>one (x,V) fs
 | none=>match zFS T o V.env with
 | some q=>match zSA F (some q) V fs with
  | some ((x,V',_),us,fs')=>some ([(x,V')],us,fs')
  | none=>none
 | none=>match zU3 T own o V fs with
  | some ((_,x,V'),us,fs')=>some ([(x,V')],us,fs')
  | none=>match zL9 T o V with
   | some x=>one (x,V) fs
   | none=>match nilQ T o V with
    | some (_::_)=>one (.s (.bool false),V) fs
    | some []=>none
    | none=>match xMap T o V with
     | some r=>mapL r fs
     | none=>match zWz T o V fs with
      | some (x,us,fs')=>some ([(x,V)],us,fs')
      | none=>none
def eOps (T:Nat->Option TI) (F:CallF P) (M nm:List Nat) (N:Nat) (all:List Oper):List Oper->St->List (Fact P)->Ou P St
 | [],V,fs=>one V fs
 | o::os,V,fs=>match (match o.dst with | some t=>Nat.blt t N | none=>true),gate all o V.env with
  | true,some true=>match eRun T F (dIn o.dst M) (dIn o.dst nm) o V fs with
   | some (L,us,fs1)=>match zMB L (fun p fs=>fV p.1 fun y=>match valT o.dst y fs with
     | (z,u2,fs2)=>fV z fun z=>fH (touch T o V z) p.2 fun V2=>match eOps T F M nm N all os (putO V2 o.dst z) fs2 with
      | some (l,u3,fs3)=>some (l,u2++u3,fs3)
      | none=>none) fs1 with
    | some (l,u4,fs4)=>some (l,us++u4,fs4)
    | none=>none
   | none=>none
  | true,some false=>eOps T F M nm N all os (putO V o.dst (.tup [])) fs
  | _,_=>none
end
section
variable {P:Program} {T:Nat->Option TI} {Γ:Nat->Option zAq} {F:CallF P} {o:Oper} {V V':St} {x:AV} {own:Bool} {fs fs':List (Fact P)} {us:Us}
variable {K:AV->St->Prop}
theorem zNI (h:zWz T o V fs=some (x,us,fs')) (hu:Us.ok us) (hK:K x V):zGZ T o V K:=by
 unfold zWz at h;unfold zGZ;split at h
 ·rename_i ho;simp only[ho];split at h
  ·rename_i h1;simp only[h1];split at h
   ·rename_i h2;simp only[h2];split at h
    ·rename_i g1 g2 _;split at h
     ·rename_i h3 h4;cases h;obtain⟨e1,hu⟩:=hu.cons;obtain⟨e2,hu⟩:=hu.cons;cases e1;cases e2;simp only[h3];exact⟨g1,_,g2,by simp only[h4]; exact hK⟩
     cases h
    split at h
    ·rename_i h3 h4 h5;cases h;simp only[h3];exact⟨aj h4,_,rfl,by simp only[h5]; exact hK⟩
    cases h
   ·rename_i h2;simp only[h2];split at h
    ·rename_i h3 h4 h5;cases h;simp only[h3];exact⟨aj h4,_,rfl,by simp only[h5]; exact hK⟩
    cases h
   cases h
  cases h
 cases h
variable {b:Bool}
theorem zNH (hf:F.Ok) (ht:Full P Γ) (h:zSA F (zA1 T o V.env) V fs=some ((x,V',b),us,fs')) (hu:Us.ok us) (hK:K x V'):zMC T Γ own o V K:=by
 unfold zSA at h;unfold zMC;split at h
 ·cases h
 rename_i g xs h1;simp only[h1];rw[zIi zFn,zFn]at h;split at h
 ·rename_i os h2 h3;rw[zKE,zIi zWB]at h;split at h
  ·rename_i y r same us1 fs1 h4;rw[zVz,zFn]at h;cases h;have he:=hf _ _ _ _ _ _ _ _ _ h4 hu.app.1;rw[ht.2 _ _ _ _ _ he];simp only[zDi,zFB,zQQ,zLn,h2,h3];refine⟨y,r,he,?_⟩;rw[zYe];exact hK
  cases h
 cases h
def zPG {hp:Nat->Option Ob}:∀ {l:List (Nat×Option Ob)},Us.ok (yEc hp l)->∀ k,lookO l hp k=hp k
 | [],_,k=>rfl
 | (j,o)::r,h,k=>by
  obtain⟨h1,h2⟩:=Us.ok.cons h;simp only[lookO];cases e:Nat.beq k j with
  | false=>exact zPG h2 k
  | true=>obtain rfl:=ab e; exact(List.cons.inj (U.o.inj h1)).1.symm
theorem zZ4 (h:zSA F (zA1 T o V.env) V fs=some ((x,V',true),us,fs')) (hu:Us.ok us):(∀ k,V'.hp k=V.hp k)/\cOp o=true:=by
 unfold zSA at h;split at h
 ·cases h
 rename_i g xs h1;rw[zIi zFn,zFn]at h;split at h
 ·rw[zKE,zIi zWB]at h;split at h
  ·rename_i y r same us1 fs1 h4;rw[zVz,zFn]at h;have h5:=Option.some.inj h;have h6:=(ap (ap (ap h5).1).2);obtain⟨h7,rfl⟩:=h6;have h8:=(ap (ap h5).2).1;subst h7;subst h8;refine⟨zPG hu.app.2,?_⟩;unfold zA1 at h1;split at h1
   ·rename_i ho; unfold cOp; rw[ho]
   cases h1
  cases h
 cases h
theorem zSB (hf:F.Ok) (ht:Full P Γ){q:Nat×List AV} (hq:zFS T o V.env=some q) (h:zSA F (some q) V fs=some ((x,V',b),us,fs')) (hu:Us.ok us):∃ Φ,zLk T Γ o V=some Φ/\∀ K:AV->St->Prop,K x V'->Φ K:=by
 unfold zSA at h;unfold zLk;split at h
 ·cases h
 rename_i g xs h1;cases h1;rw[zIi zFn,zFn]at h;split at h
 ·rename_i os h2 h3;rw[zKE,zIi zWB]at h;split at h
  ·rename_i y r same us1 fs1 h4;rw[zVz,zFn]at h;cases h;have he:=hf _ _ _ _ _ _ _ _ _ h4 hu.app.1;simp only[hq,ht.2 _ _ _ _ _ he];simp only[zDi,h2,h3];refine⟨_,rfl,fun K hK=>⟨y,r,he,?_⟩⟩;have:handed V (zAo V.hp 64 (AV.keysAll xs) []) r=St.lay V (layP (zEc (zAo V.hp 64 (AV.keysAll xs) []) V.nx 0 r) (zER (zAo V.hp 64 (AV.keysAll xs) []) V.nx) 0 r []) (V.nx+(r.length - (zAo V.hp 64 (AV.keysAll xs) []).length)):=by
    have:=zUn (hp:=V.hp) (ρ:=zEc (zAo V.hp 64 (AV.keysAll xs) []) V.nx 0 r) (f:=zER (zAo V.hp 64 (AV.keysAll xs) []) V.nx) 0 r [] (fun hp=>hp=lookO (layP (zEc (zAo V.hp 64 (AV.keysAll xs) []) V.nx 0 r) (zER (zAo V.hp 64 (AV.keysAll xs) []) V.nx) 0 r []) V.hp);rw[zYe]at this;have h9:=this.mp rfl;simp only[handed,St.lay,St.mk.injEq,true_and,and_true];exact h9
   rw[this];exact hK
  cases h
 cases h
theorem zWu (h:zFS T o V.env=none):zLk T Γ o V=none:=by
 unfold zLk;rw[h]
theorem zTs (h:zFS T o V.env=none):zA1 T o V.env=none:=by
 unfold zFS at h;unfold zA1;split at h
 ·rename_i ho;split at h
  ·cases h
  ·split at h <;> cases h
  first | rfl | (split <;> first | rfl | simp_all)
 first | rfl | (split <;> first | rfl | simp_all)
theorem zYn (h:zWz T o V fs=some (x,us,fs')):mapQ T o V=none:=by
 unfold zWz at h;split at h
 ·rename_i ho;unfold mapQ;simp only[ho]
 cases h
def yAp {x:AV}{K:AV->Prop} (h:K x):named x K:=by
 unfold named;split
 ·intro b hb; rw[hb]; exact h
 ·intro b hb; rw[hb]; exact h
 ·intro b hb; rw[hb]; exact h
 ·intro b hb; rw[hb]; exact h
 ·intro b hb; rw[hb]; exact h
 rw[zHd]; exact h
def zQN {nm:Bool}{d:Option Nat}{K:St->Prop} (h:K (putO V d x)):lay nm d x V K:=by
 unfold lay;unfold putO at h;split
 ·exact h
 split
 ·exact yAp h
 rw[zHd]; exact h
theorem zHa (hf:F.Ok) (ht:Full P Γ){M nm:List Nat}{N:Nat}{all:List Oper}{K:St->Prop}:∀ {os:List Oper}{V:St}{L:List St}{fs fs':List (Fact P)}{us:Us},eOps T F M nm N all os V fs=some (L,us,fs')->Us.ok us->(∀ τ∈L,K τ)->zBo T Γ M nm N all os V K
 | [],V,L,fs,fs',us,h,hu,hk=>by cases h; exact hk _ ak
 | o::os,V,L,fs,fs',us,h,hu,hk=>by
  unfold eOps at h;unfold zBo;have hrun:∀ {J:List (AV×St)} {f0 f1:List (Fact P)} {u0:Us},eRun T F (dIn o.dst M) (dIn o.dst nm) o V f0=some (J,u0,f1)->Us.ok u0->(∀ p∈J,∃ g1 l' u g2,eOps T F M nm N all os (putO p.2 o.dst p.1) g1=some (l',u,g2)/\Us.ok u/\∀ y∈l',y∈L)->(match zIm T (dIn o.dst nm) o V with
    | some x=>lay false o.dst x V fun V''=>zBo T Γ M nm N all os V'' K
    | none=>match zLk T Γ o V with
    | some Φ=>Φ fun x V'=>lay (dIn o.dst nm) o.dst x V' fun V''=>zBo T Γ M nm N all os V'' K
    | none=>match callOf T Γ o V.env with
    | some (_,s,xs)=>∃ r,s.spec xs r/\match zBj (dIn o.dst M) V r with
     | none=>False
     | some (x,V')=>lay (dIn o.dst nm) o.dst x V' fun V''=>zBo T Γ M nm N all os V'' K
    | none=>match step1 T (dIn o.dst M) o V with
     | none=>match zL9 T o V with
      | some x=>lay (dIn o.dst nm) o.dst x V fun V''=>zBo T Γ M nm N all os V'' K
      | none=>match nilQ T o V with
      | some rows=>∀ b:Bool,(b=true->rows=[])->lay (dIn o.dst nm) o.dst (.s (.bool b)) V fun V''=>zBo T Γ M nm N all os V'' K
      | none=>match mapQ T o V with
       | some Φ=>Φ fun x V'=>lay (dIn o.dst nm) o.dst x V' fun V''=>zBo T Γ M nm N all os V'' K
       | none=>zMC T Γ (dIn o.dst M) o V fun x V'=>lay (dIn o.dst nm) o.dst x V' fun V''=>zBo T Γ M nm N all os V'' K
     | some (φ,x,V')=>andO φ (lay (dIn o.dst nm) o.dst x V' fun V''=>zBo T Γ M nm N all os V'' K)):=fun {J f0 f1 u0} hr h0 hn=>by
   have hl:∀ p∈J,∀ nmd,lay nmd o.dst p.1 p.2 fun V''=>zBo T Γ M nm N all os V'' K:=fun p hp nmd=>by
    obtain⟨_,l',_,_,h1,hu1,h2⟩:=hn p hp;exact zQN (zHa hf ht h1 hu1 fun τ hτ=>hk τ (h2 τ hτ))
   unfold eRun at hr;split at hr
   ·cases hr; exact hl _ ak _
   rename_i h1;try simp only[h1]
   split at hr
   ·rename_i q hq;split at hr
    ·rename_i hc;cases hr;obtain⟨Φ,h8,h9⟩:=zSB hf ht hq hc h0;rw[h8];exact h9 _ (hl _ ak _)
    cases hr
   rename_i hraw;rw[zWu hraw];dsimp only;rw[ht.callOf];dsimp only;split at hr
   ·rename_i φ x1 V1' u1 f1 h2;cases hr;obtain⟨h2,this⟩:=zOv h2 h0;simp only[h2];cases φ with
    | none=>exact hl _ ak _
    | some p=>exact⟨this,hl _ ak _⟩
   rename_i h2;replace h2:=zP5 h2;simp only[h2];split at hr
   ·cases hr; exact hl _ ak _
   rename_i h3;try dsimp only
   split at hr
   ·rename_i h4;cases hr;simp only[h4];intro b hb;cases b with
    | true=>exact absurd (hb rfl) (by simp)
    | false=>exact hl _ ak _
   ·cases hr
   rename_i h4;simp only[h4];split at hr
   ·rename_i r h5;cases hr;obtain⟨Φ,h6,h7⟩:=zXl h5;simp only[h6];exact h7 _ fun p hp=>hl p hp _
   split at hr
   ·rename_i hq;cases hr;simp only[zYn hq];unfold zMC;rw[zTs hraw];exact zNI hq h0 (hl _ ak _)
   cases hr
  have hdst:∀ (p:Prop),p->(match (match o.dst with | some t=>Nat.blt t N | none=>true) with | false=>False | true=>p)∨(match o.dst with | some t=>Nat.blt t N | none=>true)=false:=fun p hp=>by
   cases(match o.dst with | some t=>Nat.blt t N | none=>true) with
   | true=>exact .inl hp
   | false=>exact .inr rfl
  split at h
  ·rename_i hd hg;split at h
   ·rename_i J u0 f1 hr;split at h
    rotate_left
    ·cases h
    rename_i L4 u4 f4 hb;cases h;have:=hrun hr hu.app.1 fun p hp=>by
     obtain⟨g1,l',u',g2,h1,h2,h3⟩:=zD3 hb hu.app.2 p hp;rw[zSH]at h1;split at h1;rename_i z u2 fs2 hz;rw[zSH,yDv]at h1;split at h1
     ·rename_i l u3 fs3 he;cases h1;obtain rfl:=zZA hz h2.app.1;exact⟨_,_,_,_,he,h2.app.2,h3⟩
     cases h1
    refine(hdst _ ?_).resolve_right fun e=>absurd (hd.symm.trans e) (by simp)
    dsimp only;unfold gate at hg;split at hg
    ·rename_i e; try rw[e]
     exact this
    rename_i j want e;try rw[e]
    try dsimp only
    split at hg
    ·rename_i g e1;try rw[e1]
     try dsimp only
     split at hg
     ·rename_i b e2;try rw[e2]
      cases b <;> cases want <;> first | exact this | cases hg
     ·cases hg
     cases hg
    cases hg
   cases h
  ·rename_i hd hg;have hs:lay false o.dst (.tup []) V fun V''=>zBo T Γ M nm N all os V'' K:=zQN (zHa hf ht h hu hk)
   refine(hdst _ ?_).resolve_right fun e=>absurd (hd.symm.trans e) (by simp)
   dsimp only;unfold gate at hg;split at hg
   ·cases hg
   rename_i j want e;try rw[e]
   try dsimp only
   split at hg
   ·rename_i g e1;try rw[e1]
    try dsimp only
    split at hg
    ·rename_i b e2;try rw[e2]
     cases b <;> cases want <;> first | exact hs | cases hg
    ·rename_i e2;try rw[e2]
     exact hs
    cases hg
   cases hg
  cases h
end
def makes (o:Oper):Bool :=
 match o.op with
 | .move x=>zAY x
 | .assign x=>zAY x
 | .box _ _=>true
 | .buildSlice _ _ _=>true
 | _=>false
def zXH:AV->Option Nat
 | .op k _=>some k
 | .orow k=>some k
 | .rp k _ _ _=>some k
 | .mref k=>some k
 | _=>none
def yAN (T:Nat->Option TI) (o:Oper) (env:Nat->AV):Option Nat :=
 match o.op with
 | .load _ x=>zXH (opd T env 0 x)
 | .indexAddr t x _=>zXH (opd T env t x)
 | .call { callee:=.builtin .len,args:=args,argTypes:=ts }=>match args.toList,ts.toList with
  | [x],[t]=>zXH (opd T env t x)
  | _,_=>none
 | _=>none
variable {k:Nat}{n:Nat->Bool}
def zNy {x:AV} (h:zXH x=some k) (hn:n k=true):zTl n x=true:=by
 cases x <;> simp only[zXH,aC,reduceCtorEq]at h <;> subst h <;> exact hn
variable {env:Nat->AV}{o:Oper}{T:Nat->Option TI}
theorem zYL  (h:yAN T o env=some k) (hn:n k=true):zDT T n o env=true:=by
 unfold yAN at h;unfold zDT;split at h
 ·rename_i ho; simp only[ho]; exact zNy h hn
 ·rename_i ho; simp only[ho]; exact zNy h hn
 ·rename_i ho;simp only[ho];split at h
  ·rename_i h1 h2; simp only[h1,h2]; exact zNy h hn
  cases h
 cases h
def zXd (T:Nat->Option TI) (o:Oper) (env:Nat->AV):Option Nat :=
 match o.op with
 | .store _ x _=>match opd T env 0 x with
  | .op k _=>some k
  | .rp k _ _ _=>some k
  | _=>none
 | _=>none
theorem zZe  (h:zXd T o env=some k) (hn:n k=false):zDT T n o env=true:=by
 unfold zXd at h;unfold zDT;split at h
 ·rename_i ho;simp only[ho];split at h
  ·rename_i e; cases h; rw[e]; simp only[zS2,hn]; rfl
  ·rename_i e; cases h; rw[e]; simp only[zS2,hn]; rfl
  cases h
 cases h
inductive Inf where
 | no
 | cl
 | ca (hp hp':Nat->Option Ob)
 | rd (k:Nat)
 | st (k:Nat)
def yDH (T:Nat->Option TI) (o:Oper) (env:Nat->AV):Inf :=
 match yAN T o env with
 | some k=>.rd k
 | none=>match zXd T o env with
  | some k=>.st k
  | none=>.no
section
variable {P:Program}
def eDun (T:Nat->Option TI) (F:CallF P) (own:Bool) (o:Oper) (V:St) (fs:List (Fact P)):Option ((AV×St×Bool×Inf)×Us×List (Fact P)) :=
 match (match own&&makes o with | true=>none | false=>zBH T (slO own o) o V.env) with
 | some (_,x)=>match okF o.dst (okB T o V) fs with | (us,fs')=>some ((x,V,false,.no),us,fs')
 | none=>match zU3 T own o V fs with
  | some ((_,x,V'),us,fs')=>some ((x,V',true,yDH T o V.env),us,fs')
  | none=>match zA1 T o V.env with
   | none=>match zWz T o V fs with
    | some (x,us,fs')=>some ((x,V,true,.no),us,fs')
    | none=>none
   | some q=>match zSA F (some q) V fs with
    | some ((x,V',true),us,fs')=>some ((x,V',true,.cl),us,fs')
    | some ((x,V',false),us,fs')=>some ((x,V',true,.ca V.hp V'.hp),us,fs')
    | none=>none
def zWy (T:Nat->Option TI) (F:CallF P) (M:List Nat) (all:List Oper):List Oper->St->List (Fact P)->Option ((St×List (Bool×Inf))×Us×List (Fact P))
 | [],V,fs=>some ((V,[]),[],fs)
 | o::os,V,fs=>match gate all o V.env with
  | some true=>match eDun T F (dIn o.dst M) o V fs with
   | some ((x,V',b),us,fs1)=>fV x fun y=>match valT o.dst y fs1 with
    | (z,u2,fs2)=>fV z fun z=>fH (touch T o V z) V' fun V2=>match zWy T F M all os (putO V2 o.dst z) fs2 with
     | some ((V3,l),u3,fs3)=>some ((V3,b::l),us++(u2++u3),fs3)
     | none=>none
   | none=>none
  | some false=>match zWy T F M all os (putO V o.dst (.tup [])) fs with
   | some ((V3,l),us,fs')=>some ((V3,(false,.no)::l),us,fs')
   | none=>none
  | none=>none
end
def idxs:Nat->List Bool->List Nat
 | _,[]=>[]
 | k,true::r=>k::idxs (k+1) r
 | k,false::r=>idxs (k+1) r
def zUk:∀ {l:List Bool}{k j:Nat},j<k->inL j (idxs k l)=false
 | [],_,_,_=>rfl
 | true::r,k,j,h=>by
  simp only[idxs,inL,zUk (l:=r) (k:=k+1) (by omega:j<k+1),Bool.or_false];cases e:Nat.beq j k with
  | true=>have:=ab e; omega
  | false=>rfl
 | false::r,k,j,h=>zUk (l:=r) (k:=k+1) (by omega:j<k+1)
def zMT:∀ {l:List Bool}{k i:Nat}{b:Bool},l[i]? = some b->inL (k+i) (idxs k l)=b
 | [],_,_,_,h=>by simp at h
 | true::r,k,0,b,h=>by
  simp at h; subst h;simp[idxs,inL]
 | false::r,k,0,b,h=>by
  simp at h; subst h;exact zUk (l:=r) (k:=k+1) (by omega)
 | true::r,k,i+1,b,h=>by
  have:=zMT (l:=r) (k:=k+1) (i:=i) (b:=b) (by simpa using h);rw[show k+1+i=k+(i+1) by omega]at this;simp only[idxs,inL,this];cases e:Nat.beq (k+(i+1)) k with
  | true=>have:=ab e; omega
  | false=>rfl
 | false::r,k,i+1,b,h=>by
  have:=zMT (l:=r) (k:=k+1) (i:=i) (b:=b) (by simpa using h);rw[show k+1+i=k+(i+1) by omega]at this;exact this
section
variable {P:Program} {T:Nat->Option TI} {Γ:Nat->Option zAq} {F:CallF P}
def Fits (L Ro:List Nat) (n:Nat->Bool) (k:Nat) (l:List (Bool×Inf)):Prop :=
 ∀ i p,l[i]? = some p->inL (k+i) L=p.1/\inL (k+i+1000) Ro=false/\(inL (k+i) Ro=true->match p.2 with | .no=>False | .cl=>True | .ca hp hp'=>∀ q,n q=true->hp' q=hp q | .rd q=>n q=true | .st q=>n q=false)
def Fits.tail {L Ro:List Nat}{n:Nat->Bool}{k:Nat}{p:Bool×Inf}{l:List (Bool×Inf)} (h:Fits L Ro n k (p::l)):Fits L Ro n (k+1) l:=fun i q hi=>by
 have:=h (i+1) q (by simpa using hi);rw[show k+(i+1)=k+1+i by omega]at this;exact this
theorem zHw (hf:F.Ok) (ht:Full P Γ){M L Ro:List Nat}{n:Nat->Bool}{all:List Oper}{K:St->Prop}:∀ {os:List Oper}{k:Nat}{V V':St}{l:List (Bool×Inf)}{fs fs':List (Fact P)}{us:Us},zWy T F M all os V fs=some ((V',l),us,fs')->Us.ok us->Fits L Ro n k l->K V'->evD T Γ M [] L Ro n all os k V K
 | [],k,V,V',l,fs,fs',us,h,hu,hL,hk=>by cases h; exact hk
 | o::os,k,V,V',l,fs,fs',us,h,hu,hL,hk=>by
  unfold zWy at h;unfold evD;have hrun:∀ {x:AV} {V1:St} {b:Bool×Inf} {l':List (Bool×Inf)} {f0 f1 f2 f3:List (Fact P)} {u0 u1:Us},eDun T F (dIn o.dst M) o V f0=some ((x,V1,b),u0,f1)->Us.ok u0->zWy T F M all os (putO V1 o.dst x) f2=some ((V',l'),u1,f3)->Us.ok u1->l=b::l'->(match callOf T Γ o V.env with
    | some (_,s,xs)=>∃ r,s.spec xs r/\match zBj (dIn o.dst M&&inL k L) V r with
     | none=>False
     | some (x,V')=>lay (dIn o.dst []) o.dst x V' fun V''=>evD T Γ M [] L Ro n all os (k+1) V'' K
    | none=>match inL k L with
     | true=>match step1 T (dIn o.dst M) o V with
      | none=>zMC T (YtbfnjnljboncgaaGreat.noHeap Γ) (dIn o.dst M) o V fun x V'=>yAd (inL k Ro&&cOp o) n V V' (yAo (inL (k+1000) Ro) (cmP T Γ o V V') (lay (dIn o.dst []) o.dst x V' fun V''=>evD T Γ M [] L Ro n all os (k+1) V'' K))
      | some (φ,x,V')=>andO φ (lay (dIn o.dst []) o.dst x V' fun V''=>evD T Γ M [] L Ro n all os (k+1) V'' K)
     | false=>match zBH T (slO (dIn o.dst M) o) o V.env with
      | none=>False
      | some (φ,x)=>andO φ (lay (dIn o.dst []) o.dst x V fun V''=>evD T Γ M [] L Ro n all os (k+1) V'' K)) /\
    ((inL k Ro&&!(zDT T n o V.env||clB T Γ (dIn o.dst M) (inL k L) o V))||(inL (k+1000) Ro&&!(clB T Γ (dIn o.dst M) (inL k L) o V&&o.guard.isNone)))=false:=fun {x V1 b l' f0 f1 f2 f3 u0 u1} hr h0 hn h1n hl=>by
   subst hl;obtain⟨hb,h1000,hro⟩:=hL 0 b rfl;rw[bz]at hb h1000 hro;have hl:∀ nmd,lay nmd o.dst x V1 fun V''=>evD T Γ M [] L Ro n all os (k+1) V'' K:=fun nmd=>zQN (zHw hf ht hn h1n hL.tail hk)
   rw[ht.callOf,hb,h1000];unfold eDun at hr;split at hr
   ·rename_i φ y hp;split at hr;rename_i hok;cases hr;replace hok:=okF_eq hok h0;have hr0:inL k Ro=false:=by
     cases e:inL k Ro with
     | false=>rfl
     | true=>exact(hro e).elim
    rw[hr0];refine⟨?_,rfl⟩;dsimp only;have hp':zBH T (slO (dIn o.dst M) o) o V.env=some (φ,x):=by
     split at hp
     ·cases hp
     exact hp
    rw[hp'];cases φ with
    | none=>exact hl _
    | some p=>exact⟨zVU hp' hok,hl _⟩
   split at hr
   ·rename_i φ y V2 u2 f4 hs;cases hr;obtain⟨hs,this⟩:=zOv hs h0;refine⟨?_,?_⟩
    ·dsimp only;rw[hs];cases φ with
     | none=>exact hl _
     | some p=>exact⟨this,hl _⟩
    cases e:inL k Ro with
    | false=>rfl
    | true=>
    have h1:=hro e;unfold yDH at h1;cases e2:yAN T o V.env with
    | none =>
     rw[e2]at h1;dsimp only at h1;cases e3:zXd T o V.env with
     | none=>rw[e3]at h1; exact h1.elim
     | some q=>
     rw[e3]at h1;rw[zZe e3 h1];rfl
    | some q=>
    rw[e2]at h1;rw[zYL e2 h1];rfl
   rename_i hs;replace hs:=zP5 hs;split at hr
   ·rename_i hraw;split at hr
    ·rename_i hld;cases hr;have hr0:inL k Ro=false:=by
      cases e:inL k Ro with
      | false=>rfl
      | true=>exact(hro e).elim
     rw[hr0];refine⟨?_,rfl⟩;dsimp only;rw[hs];unfold zMC;rw[hraw];exact zNI hld h0 (hl _)
    cases hr
   rename_i q hraw;rw[← hraw]at hr;split at hr
   ·rename_i y V2 us2 fs2 hc;cases hr;obtain⟨hhp,hco⟩:=zZ4 hc h0;refine⟨?_,?_⟩
    ·dsimp only;rw[hs];refine zNH hf ht.noHeap hc h0 ?_;have:kp n V V1:=fun k _=>hhp k
     cases inL k Ro&&cOp o
     ·exact hl _
     exact⟨this,hl _⟩
    have:clB T Γ (dIn o.dst M) true o V=true:=by
     unfold clB;rw[hco,ht.callOf];dsimp only;rw[hs]
    rw[this];simp
   ·rename_i y V2 us2 fs2 hc;cases hr;have hco:cOp o=true:=by
     unfold zA1 at hraw;split at hraw
     ·rename_i ho; unfold cOp; rw[ho]
     cases hraw
    refine⟨?_,?_⟩
    ·dsimp only;rw[hs];refine zNH hf ht.noHeap hc h0 ?_;cases e:inL k Ro with
     | false=>exact hl _
     | true=>rw[hco]; exact⟨hro e,hl _⟩
    have:clB T Γ (dIn o.dst M) true o V=true:=by
     unfold clB;rw[hco,ht.callOf];dsimp only;rw[hs]
    rw[this];simp
   cases hr
  have hskip:∀ {l':List (Bool×Inf)},l=(false,.no)::l'->((inL k Ro&&!(zDT T n o V.env||clB T Γ (dIn o.dst M) (inL k L) o V))||(inL (k+1000) Ro&&!(clB T Γ (dIn o.dst M) (inL k L) o V&&o.guard.isNone)))=false:=fun {l'} hl=>by
   subst hl;obtain⟨hb,h1000,hro⟩:=hL 0 _ rfl;rw[bz]at hb h1000 hro;have hr0:inL k Ro=false:=by
    cases e:inL k Ro with
    | false=>rfl
    | true=>exact(hro e).elim
   rw[hr0,h1000];rfl
  split at h
  ·rename_i hg;split at h
   ·rename_i y V1 b u1 f1 hr;rw[zSH]at h;split at h;rename_i z u2 fs2 hz;rw[zSH,yDv]at h;split at h
    ·rename_i V3 l' u3 f3 hd;cases h;obtain rfl:=zZA hz hu.app.2.app.1;obtain⟨this,hgate⟩:=hrun hr hu.app.1 hd hu.app.2.app.2 rfl;rw[hgate];dsimp only;unfold gate at hg;split at hg
     ·exact this
     rename_i j want e;try rw[e]
     try dsimp only
     split at hg
     ·rename_i g e1;try rw[e1]
      try dsimp only
      split at hg
      ·rename_i b e2;try rw[e2]
       cases b <;> cases want <;> first | exact this | cases hg
      ·cases hg
      cases hg
     cases hg
    cases h
   cases h
  ·rename_i hg;split at h
   ·rename_i V3 l' u3 f3 hd;cases h;have hs:lay false o.dst (.tup []) V fun V''=>evD T Γ M [] L Ro n all os (k+1) V'' K:=zQN (zHw hf ht hd hu hL.tail hk)
    rw[hskip rfl];dsimp only;unfold gate at hg;split at hg
    ·cases hg
    rename_i j want e;try rw[e]
    try dsimp only
    split at hg
    ·rename_i g e1;try rw[e1]
     try dsimp only
     split at hg
     ·rename_i b e2;try rw[e2]
      cases b <;> cases want <;> first | exact hs | cases hg
     ·rename_i e2;try rw[e2]
      exact hs
     cases hg
    cases hg
   cases h
  cases h
end
section
variable {T:Nat->Option TI} {Γ:Nat->Option zAq}
def stS (V V1:St):Prop:=V1.hp=V.hp/\V1.nx=V.nx
variable {oi:Oper}
def qQ {P:Prop} (h:P:=by exact⟨rfl,rfl⟩):P:=h
theorem zW1 {all:List Oper}{oj:Oper}{owi owj:Bool}{V Vi Vij:St} (hap:oi.apart all.toArray oj=true) (h1:outc T Γ all owi true oi V Vi) (s1:stS V Vi) (h2:outc T Γ all owj true oj Vi Vij) (s2:stS Vi Vij) :
  ∃ Vj,outc T Γ all owj true oj V Vj/\stS V Vj/\outc T Γ all owi true oi Vj Vij/\stS Vj Vij:=by
 obtain⟨a1,a2,a3⟩:=Oper.apart_spec hap;obtain⟨x,hp,nx,rfl,hx⟩:=zEF h1;obtain⟨y,hp2,nx2,rfl,hy⟩:=zEF h2;unfold stS at s1 s2;rw[zDn,zDo]at s1;rw[zDn,zDo,zDn,zDo]at s2;obtain⟨rfl,rfl⟩:=s1;obtain⟨rfl,rfl⟩:=s2;have hb:=hy V.env (Alike.put a1);have e:({ St.put ⟨V.env,V.hp,V.nx⟩ oi.dst x with env:=V.env }:St)=V :=(by cases oi.dst <;> rfl);rw[e]at hb;have e0:(⟨V.env,V.hp,V.nx⟩:St)=V:=rfl;refine⟨_,hb,⟨zDn _ _ _,zDo _ _ _⟩,?_,?_⟩
 ·have:=hx (V.put oj.dst y).env (fun t ht=>(Alike.put a3 t ht).symm);have e1:(⟨(V.put oj.dst y).env,V.hp,V.nx⟩:St)=St.put ⟨V.env,V.hp,V.nx⟩ oj.dst y :=(by cases oj.dst <;> rfl);have e3:St.put ⟨V.env,V.hp,V.nx⟩ oi.dst x=⟨(St.put ⟨V.env,V.hp,V.nx⟩ oi.dst x).env,V.hp,V.nx⟩ :=(by cases oi.dst <;> rfl);have key:St.put (St.put ⟨V.env,V.hp,V.nx⟩ oj.dst y) oi.dst x=St.put ⟨(St.put ⟨V.env,V.hp,V.nx⟩ oi.dst x).env,V.hp,V.nx⟩ oj.dst y:=by
   rw[put_comm (fun t ht=>fun e=>a2 t e ht),← e3]
  rw[← key];exact kJ
 unfold stS;rw[zDn,zDo,zDn,zDo];exact qQ
def sAny (T:Nat->Option TI) (Γ:Nat->Option zAq) (M:List Nat) (ops:List Oper) (Q:St->Prop):Nat->Array Bool->St->Prop
 | 0,listed,V=>Region.ready .any ops.toArray listed=[]/\Q V
 | fuel+1,listed,V=>(Region.ready .any ops.toArray listed=[]->Q V)/\∀ i∈Region.ready .any ops.toArray listed,match ops[i]? with
  | none=>sAny T Γ M ops Q fuel (listed.setIfInBounds i true) V
  | some o=>∃ V1,outc T Γ ops (dIn o.dst M) true o V V1/\stS V V1/\sAny T Γ M ops Q fuel (listed.setIfInBounds i true) V1
theorem zRp {M:List Nat}{n:Nat->Bool}{ops:List Oper}{Q:St->Prop}:∀ {fuel:Nat}{listed:Array Bool}{V:St},sAny T Γ M ops Q fuel listed V->aAny T Γ M (List.range ops.length) [] n ops Q fuel listed V
 | 0,listed,V,h=>h
 | fuel+1,listed,V,h=>by
  refine⟨h.1,fun i hi=>?_⟩;have:=h.2 i hi;unfold aOp;split at this
  ·rename_i e; rw[e]; exact zRp this
  ·rename_i o e;rw[e];obtain⟨V1,h1,_,h2⟩:=this;have:inL i (List.range ops.length)=true:=zIl.2 (List.mem_range.2 (aa.1 e).1);exact⟨V1,by rw[this]; exact h1,And.intro (fun h=>(by cases h)) (fun h=>(by cases h)),zRp h2⟩
variable {ops:List Oper}
theorem zXb {M:List Nat}{Q:St->Prop}{i:Nat} (hi:ops[i]? = some oi){D:List Nat}
  (hD:∀ d od,d∈D->d ≠ i->ops[d]? = some od->∃ e∈od.after,Region.binds .any e=true/\e.on∈D) :
  ∀ (fuel:Nat) (listed:Array Bool) (V Vi:St),(∀ d,d∈D->listed.getD d true=false) ->
   (∀ j oj,ops[j]? = some oj->j ≠ i->listed.getD j true=false->j ∉ D->oi.apart ops.toArray oj=true) ->
   i∈Region.ready .any ops.toArray listed->outc T Γ ops (dIn oi.dst M) true oi V Vi->stS V Vi ->
   sAny T Γ M ops Q fuel (listed.setIfInBounds i true) Vi->sAny T Γ M ops Q (fuel+1) listed V:=by
 intro fuel;induction fuel with
 | zero =>
  intro listed V Vi _ _ hr ho hs H;refine⟨fun h=>(by rw[h]at hr; cases hr),fun j hj=>?_⟩;by_cases hji:j=i
  ·subst hji; rw[hi]; exact⟨Vi,ho,hs,H⟩
  have:=ready_mono hj hji;rw[H.1]at this;cases this
 | succ fuel ih=>
 intro listed V Vi hU hfree hr ho hs H;refine⟨fun h=>(by rw[h]at hr; cases hr),fun j hj=>?_⟩;by_cases hji:j=i
 ·subst hji; rw[hi]; exact⟨Vi,ho,hs,H⟩
 have h1:=H.2 j (ready_mono hj hji);obtain⟨hjun,oj,hoj,hall⟩:=mem_ready.1 hj;have hoj':ops[j]? = some oj :=(by simpa using hoj);have hnot:j ∉ D:=fun hjD=>by
  obtain⟨e,he,hb,heD⟩:=hD j oj hjD hji hoj';have h1:=hall e he hb;have h0:=hU _ heD;rcases Nat.lt_or_ge e.on listed.size with h' | h'
  ·simp[h']at h0 h1; rw[h0]at h1; cases h1
  simp[Array.getElem?_eq_none h']at h1
 rw[hoj']at h1 ⊢;obtain⟨Vij,h2,h2s,h3⟩:=h1;obtain⟨Vj,h4,h4s,h5,h5s⟩:=zW1 (hfree j oj hoj' hji hjun hnot) ho hs h2 h2s;refine⟨Vj,h4,h4s,ih (listed.setIfInBounds j true) Vj Vij (fun d hd=>by rw[getD_set_ne true (fun e=>hnot (by rw[e]; exact hd))]; exact hU d hd) (fun k ok hk hki hun hno=>?_) (ready_mono hr (Ne.symm hji)) h5 h5s (by rw[Array.setIfInBounds_comm _ _ hji]; exact h3)⟩;refine hfree k ok hk hki ?_ hno;by_cases hjk:j=k
 ·subst hjk; exact hjun
 rw[getD_set_ne true hjk]at hun; exact hun
def yCo (ops:Array Oper) (listed:Array Bool) (i:Nat):Bool :=
 (depL ops i).all (fun d=>!(listed.getD d true))&&(List.range ops.size).all fun j=>j == i||listed.getD j true||inL j (depL ops i)||match ops[i]?,ops[j]? with
  | some oi,some oj=>oi.apart ops oj
  | _,_=>true
def lexS (ops:Array Oper):Nat->Nat->Array Bool->Bool
 | 0,_,listed=>(Region.ready .any ops listed).isEmpty
 | fuel+1,k,listed=>(Region.ready .any ops listed).contains k&&yCo ops listed k&&lexS ops fuel (k+1) (listed.setIfInBounds k true)
def zWD {ops:Array Oper}{listed:Array Bool}{i:Nat} (h:yCo ops listed i=true):(∀ d,d∈depL ops i->listed.getD d true=false) /\
  ∀ (j:Nat) (oj:Oper),ops[j]? = some oj->j ≠ i->listed.getD j true=false->j ∉ depL ops i->∀ {oi:Oper},ops[i]? = some oi->oi.apart ops oj=true:=by
 unfold yCo at h;simp only[af,all_eq_true,mem_range]at h;obtain⟨h1,h2⟩:=h;refine⟨fun d hd=>by simpa using h1 d hd,fun j oj hj hne hun hnd oi hoi=>?_⟩;have h3:=h2 j (aJ.1 hj).1;have hnl:inL j (depL ops i)=false:=by
  cases e:inL j (depL ops i) with
  | false=>rfl
  | true=>exact absurd (zIl.1 e) hnd
 simpa [hj,hoi,hne,hun,hnl] using h3
def sLex (T:Nat->Option TI) (Γ:Nat->Option zAq) (M:List Nat) (all:List Oper) (Q:St->Prop):List Oper->St->Prop
 | [],V=>Q V
 | o::os,V=>∃ V1,outc T Γ all (dIn o.dst M) true o V V1/\stS V V1/\sLex T Γ M all Q os V1
theorem zVX {M:List Nat}{ops:List Oper}{Q:St->Prop}:∀ (l:List Oper) (k:Nat) (listed:Array Bool) (V:St),(∀ j,l[j]? = ops[k+j]?) ->
  lexS ops.toArray l.length k listed=true->sLex T Γ M ops Q l V->sAny T Γ M ops Q l.length listed V
 | [],_,_,_,_,hB,h=>⟨by simpa [lexS] using hB,h⟩
 | o::l,k,listed,V,hl,hB,h=>by
  have h0:ops[k]? = some o :=(by simpa using (hl 0).symm);have h0':ops.toArray[k]? = some o :=(by simpa using h0);simp only[ah,lexS,af]at hB;obtain⟨⟨hr,hf⟩,hB'⟩:=hB;obtain⟨hf1,hf2⟩:=zWD hf;obtain⟨V1,h1,hs,h2⟩:=h;exact zXb h0 (fun d od hd hne hod=>zSx ops.toArray k d od hd hne (by simpa using hod)) l.length listed V V1 hf1 (fun j oj hj hne hun hno=>hf2 j oj (by simpa using hj) hne hun hno h0') (by simpa using hr) h1 hs
   (zVX l (k+1) _ V1 (fun j=>by have:=hl (j+1); simpa [Nat.add_assoc,Nat.add_comm 1 j] using this) hB' h2)
theorem zZu {c:Cx} (hT:TOk c.P T) (hΓ:∀ f s,Γ f=some s->PSound c.P f s) (hm:c.P.follows .mixedOrders=true){id:Nat}{V:St}{Q:End->St->Prop} (M:List Nat)
  (hN:zD4 c.N ops=true) (hB:lexS ops.toArray ops.length 0 (Array.replicate ops.length false)=true) (h:sLex T Γ M ops (Q .normal) ops V):Tri c (.region id ops.toArray true) V Q:=by
 unfold Tri;intro G O a w hc;refine wpIn_region_any hm (zLd zJU (fun i o hi=>zIg hN o (av (by simpa using hi))) _ _ _ _ ?_);have h1:=zRp (n:=fun _=>false) (zVX (ops:=ops) (M:=M) ops 0 (Array.replicate ops.length false) V (fun j=>by simp) hB h);have hc':=hc.ext (Ext.drew hc.lt);have:=zKr hT hΓ (Q:=fun e a' w'=>∃ e' G' O' V',e=zEX e'/\Q e' V'/\Conc c G' O' V' a' w') (fun V' G' O' a' w' hk hc'=>⟨.normal,G',O',V',rfl,hk,hc'⟩) (zDs hN) _ _ V G O a _ h1 hc';exact qA
end
section
variable {P:Program}
def sRun (T:Nat->Option TI) (own:Bool) (o:Oper) (V:St) (fs:List (Fact P)):Option ((AV×St)×Us×List (Fact P)) :=
 match zU3 T own o V fs with
 | some ((_,x,V'),us,fs')=>match rdOp o with
  | true=>some ((x,V'),us,fs')
  | false=>match zXd T o V.env with
   | some k=>match Nat.beq V'.nx V.nx with
    | true=>some ((x,V'),us++[(.o [V'.hp k],.o [V.hp k])],fs')
    | false=>none
   | none=>match zBH T own o V.env with
    | some _=>some ((x,V'),us,fs')
    | none=>none
 | none=>none
def zY8 (T:Nat->Option TI) (M:List Nat) (all:List Oper):List Oper->St->List (Fact P)->Option (St×Us×List (Fact P))
 | [],V,fs=>some (V,[],fs)
 | o::os,V,fs=>match gate all o V.env with
  | some true=>match sRun T (dIn o.dst M) o V fs with
   | some ((x,V'),us,fs1)=>match zY8 T M all os (V'.put o.dst x) fs1 with
    | some (τ,u2,fs2)=>some (τ,us++u2,fs2)
    | none=>none
   | none=>none
  | some false=>zY8 T M all os (V.put o.dst (.tup [])) fs
  | none=>none
theorem yA6 {T:Nat->Option TI}{Γ:Nat->Option zAq} (ht:Full P Γ){all:List Oper}{own:Bool}{o:Oper}{V V':St}{x:AV}{fs fs':List (Fact P)}{us:Us} (hg:gate all o V.env=some true) (h:sRun T own o V fs=some ((x,V'),us,fs')) (hu:Us.ok us) :
  outc T Γ all own true o V (V'.put o.dst x)/\stS V (V'.put o.dst x):=by
 unfold sRun at h;split at h
 ·rename_i φ x1 V1 u1 f1 hs;have key:∀ {v:Us},Us.ok v->v=u1->outc T Γ all own true o V (V1.put o.dst x1)/\step1 T own o V=some (φ,x1,V1):=fun {v} hv e=>by
   subst e;obtain⟨h1,h2⟩:=zOv hs hv;refine⟨?_,h1⟩;unfold outc;rw[hg];dsimp only;unfold runs;rw[ht.callOf,h1];exact⟨h2,rfl⟩
  split at h
  ·rename_i hr;cases h;obtain⟨h1,_⟩:=key hu rfl;exact⟨h1,zEz hr h1⟩
  split at h
  ·rename_i k hk;split at h
   ·rename_i hn;cases h;obtain⟨h1,_⟩:=key hu.app.1 rfl;refine⟨h1,?_⟩;have e1:=(Us.ok.cons hu.app.2).1;have hst:stOp o=true/\zDT T (fun j=>!(Nat.beq j k)) o V.env=true:=by
     unfold zXd at hk;split at hk
     ·rename_i ho;refine⟨by unfold stOp; rw[ho],?_⟩;unfold zDT;simp only[ho];split at hk
      ·rename_i e; cases hk; rw[e]; simp[zS2,aS]
      ·rename_i e; cases hk; rw[e]; simp[zS2,aS]
      cases hk
     cases hk
    have h3:=zZf hst.1 hst.2 h1;refine⟨funext fun j=>?_,by rw[zDo]; exact ab hn⟩;cases e:Nat.beq j k with
    | true =>
     obtain rfl:=ab e;rw[zDn];exact(List.cons.inj (U.o.inj e1)).1
    | false=>exact h3 j (by simp[e])
   cases h
  split at h
  ·rename_i r hp;cases h;obtain⟨h1,h2⟩:=key hu rfl;refine⟨h1,?_⟩;unfold step1 at h2;rw[hp]at h2;cases h2;exact⟨zDn _ _ _,zDo _ _ _⟩
  cases h
 cases h
theorem zOr {T:Nat->Option TI}{Γ:Nat->Option zAq} (ht:Full P Γ){M:List Nat}{all:List Oper}{Q:St->Prop}:∀ {os:List Oper}{V τ:St}{fs fs':List (Fact P)}{us:Us},zY8 T M all os V fs=some (τ,us,fs')->Us.ok us->Q τ->sLex T Γ M all Q os V
 | [],V,τ,fs,fs',us,h,hu,hq=>by cases h; exact hq
 | o::os,V,τ,fs,fs',us,h,hu,hq=>by
  unfold zY8 at h;split at h
  ·rename_i hg;split at h
   ·rename_i x V' u1 f1 h1;split at h
    ·rename_i τ2 u2 f2 h2;cases h;obtain⟨h3,h4⟩:=yA6 ht hg h1 hu.app.1;exact⟨_,h3,h4,zOr ht h2 hu.app.2 hq⟩
    ·cases h
   ·cases h
  ·rename_i hg;exact⟨_,by unfold outc; rw[hg],⟨zDn _ _ _,zDo _ _ _⟩,zOr ht h hu hq⟩
  ·cases h
end
def zJT (M:List Nat):List Oper->List Nat
 | []=>[]
 | o::os=>match o.op,o.dst with
  | .move _,some d=>(match inL d M with | true=>zJT M os | false=>d::zJT M os)
  | .assign _,some d=>(match inL d M with | true=>zJT M os | false=>d::zJT M os)
  | _,_=>zJT M os
def envX {O:Type} (env:Nat->AV):Nat->List (Nat×AV)->(List (Nat×AV)->O)->O
 | 0,l,K=>K l
 | t+1,l,K=>fV (env t) fun x=>match x with
  | .junk=>envX env t l K
  | x=>envX env t ((t,x)::l) K
def zNJ {O:Type}{env:Nat->AV}:∀ {t:Nat}{l:List (Nat×AV)}{K:List (Nat×AV)->O},holds env l->∃ l',holds env l'/\envX env t l K=K l'
 | 0,l,K,h=>⟨l,h,rfl⟩
 | t+1,l,K,h=>by
  simp only[envX];rw[zSH];split
  ·exact zNJ h
  ·exact zNJ ⟨rfl,h⟩
def hpX {O:Type} (hp:Nat->Option Ob):Nat->List (Nat×Ob)->(List (Nat×Ob)->O)->O
 | 0,l,K=>K l
 | k+1,l,K=>match hp k with
  | none=>hpX hp k l K
  | some ob=>hpX hp k ((k,ob)::l) K
def zMS {O:Type}{hp:Nat->Option Ob}:∀ {n:Nat}{l:List (Nat×Ob)}{K:List (Nat×Ob)->O},(∀ k ob,ofH l k=some ob->hp k=some ob)->∃ l',(∀ k ob,ofH l' k=some ob->hp k=some ob)/\hpX hp n l K=K l'
 | 0,l,K,h=>⟨l,h,rfl⟩
 | q+1,l,K,h=>by
  simp only[hpX];split
  ·exact zMS h
  ·rename_i ob hq;refine zMS fun k ob' hk=>?_
   simp only[ofH]at hk;cases e:Nat.beq k q with
   | true =>
    rw[e,ag]at hk;obtain rfl:=ab e;rw[hq,← hk]
   | false =>
    rw[e,ae]at hk;exact h k ob' hk
variable {O:Type}
def tidy  (N:Nat) (V:St) (K:St->O):O:=envX V.env N [] fun l=>fN V.nx fun n=>hpX V.hp n [] fun H=>K ⟨ofL l,ofH H,n⟩
variable {V:St}
def zZl {N:Nat}{K:St->O}:∃ V',(∀ c,Le c V V')/\tidy N V K=K V':=by
 unfold tidy;obtain⟨l,h1,h2⟩:=zNJ (env:=V.env) (t:=N) (l:=[]) (K:=fun l=>fN V.nx fun n=>hpX V.hp n [] fun H=>K ⟨ofL l,ofH H,n⟩) trivial;rw[h2,zFn];obtain⟨H,h3,h4⟩:=zMS (hp:=V.hp) (n:=V.nx) (l:=[]) (K:=fun H=>K ⟨ofL l,ofH H,V.nx⟩) (fun k ob h=>by simp[ofH]at h);rw[h4];exact⟨_,fun c=>Le.fewer l (ofH H) h1 h3,rfl⟩
def rds (nx:Nat):List (Bool×Inf)->List Nat
 | []=>[]
 | p::r=>match p.2 with
  | .rd q=>(match Nat.blt q nx with | true=>q::rds nx r | false=>rds nx r)
  | _=>rds nx r
def roB (b:Bool) (nx:Nat) (rl:List Nat) (p:Bool×Inf):Bool :=
 match p.2 with
 | .no=>false
 | .ca _ _=>b
 | .cl=>true
 | .rd q=>Nat.blt q nx
 | .st q=>!(inL q rl)
def zUj:∀ {l:List Bool}{k j:Nat},k+l.length<=j->inL j (idxs k l)=false
 | [],_,_,_=>rfl
 | true::r,k,j,h=>by
  simp only[ah]at h;simp only[idxs,inL,zUj (l:=r) (k:=k+1) (j:=j) (by omega),Bool.or_false];cases e:Nat.beq j k with
  | true=>have:=ab e; omega
  | false=>rfl
 | false::r,k,j,h=>by
  simp only[ah]at h;exact zUj (l:=r) (k:=k+1) (by omega)
def zYN {nx q:Nat}:∀ {l:List (Bool×Inf)}{i:Nat}{b:Bool},l[i]? = some (b,.rd q)->Nat.blt q nx=true->inL q (rds nx l)=true
 | [],i,b,h,_=>by simp at h
 | p::r,0,b,h,hq=>by
  simp at h;subst h;simp only[rds,hq,inL,aS,Bool.true_or]
 | p::r,i+1,b,h,hq=>by
  have:=zYN (l:=r) (i:=i) (b:=b) (by simpa using h) hq;unfold rds;split
  ·split
   ·simp only[inL,this,Bool.or_true]
   ·exact this
  ·exact this
def zTt {nx k:Nat}:∀ {l:List (Bool×Inf)},inL k (rds nx l)=true->k<nx
 | [],h=>by cases h
 | p::r,h=>by
  unfold rds at h;split at h
  ·split at h
   ·rename_i hq;simp only[inL,bv]at h;rcases h with h | h
    ·obtain rfl:=ab h;exact aj hq
    ·exact zTt h
   ·exact zTt h
  ·exact zTt h
def caU (rl:List Nat) (l:List (Bool×Inf)):Us:=l.flatMap fun p=>match p.2 with
 | .ca hp hp'=>rl.map fun q=>(.o [hp' q],.o [hp q])
 | _=>[]
def zX5 {b:Bool}{nx:Nat}{l:List (Bool×Inf)} (hl:l.length<=1000) (hc:b=true->Us.ok (caU (rds nx l) l)):Fits (idxs 0 (l.map (·.1))) (idxs 0 (l.map (roB b nx (rds nx l)))) (fun q=>inL q (rds nx l)) 0 l:=fun i p hi=>by
 refine⟨zMT (by rw[ao,hi]; rfl),zUj (by rw[az]; omega),fun h=>?_⟩;have h1:roB b nx (rds nx l) p=true:=by
  rw[← h];exact(zMT (by rw[ao,hi]; rfl)).symm
 obtain⟨b1,f⟩:=p;cases f with
 | no=>cases h1
 | cl=>trivial
 | ca hp hp' =>
  intro q hq;have:=hc h1 (.o [hp' q],.o [hp q]) (List.mem_flatMap.2 ⟨_,av hi,be.2 ⟨q,zIl.1 hq,rfl⟩⟩);exact(List.cons.inj (U.o.inj this)).1
 | rd q=>exact zYN hi h1
 | st q=>simpa [roB] using h1
def zNV (l:List Nat):List Nat->List Nat
 | []=>[]
 | k::r=>match kin k l with | true=>zNV l r | false=>k::zNV l r
def there (hp:Nat->Option Ob):List (Nat×Nat)->List (Nat×Nat)
 | []=>[]
 | (k,j)::r=>match hp k with | some _=>(k,j)::there hp r | none=>there hp r
def hpR (hp:Nat->Option Ob) (ρ:List (Nat×Nat)):List (Nat×Nat)->List (Nat×Ob)
 | []=>[]
 | (k,j)::r=>match hp k with | some ob=>(j,ob.ren ρ)::hpR hp ρ r | none=>hpR hp ρ r
def zKI {hp:Nat->Option Ob}{ρ:List (Nat×Nat)}:∀ {l:List (Nat×Nat)},kept hp ρ (there hp l) (hpR hp ρ l)
 | []=>trivial
 | (k,j)::r=>by
  simp only[there,hpR];cases e:hp k with
  | none=>exact zKI
  | some ob=>exact⟨rfl,⟨ob,e,rfl⟩,zKI⟩
def zKJ {hp:Nat->Option Ob}{ρ:List (Nat×Nat)}:∀ {l:List (Nat×Nat)},hpR hp ρ (there hp l)=hpR hp ρ l
 | []=>rfl
 | (k,j)::r=>by
  simp only[there,hpR];cases e:hp k with
  | none=>exact zKJ
  | some ob=>simp only[hpR,e,zKJ]
def envR (env:Nat->AV) (ρ:List (Nat×Nat)):List Nat->List (Nat×AV)
 | []=>[]
 | t::r=>(t,(env t).ren ρ)::envR env ρ r
def zKC {env:Nat->AV}{ρ:List (Nat×Nat)}:∀ {l:List Nat},rens env ρ (envR env ρ l)
 | []=>trivial
 | t::r=>⟨rfl,zKC⟩
def fP  (p:Nat×Ob) (K:Nat×Ob->O):O:=fN p.1 fun j=>fO p.2 fun ob=>K (j,ob)
def yCl  (p:Nat×Ob) (K:Nat×Ob->O):fP p K=K p:=by simp only[fP,zFn,zWB]
def fPN  (p:Nat×Nat) (K:Nat×Nat->O):O:=fN p.1 fun j=>fN p.2 fun k=>K (j,k)
def zX3  (p:Nat×Nat) (K:Nat×Nat->O):fPN p K=K p:=by simp only[fPN,zFn]
def zV2 (n0:Nat) (hp:Nat->Option Ob):List (Nat×Nat)->List (Nat×Nat)
 | []=>[]
 | (k,j)::r=>match hp k with | some _=>(k,j)::zV2 n0 hp r | none=>(match Nat.blt k n0 with | true=>(k,j)::zV2 n0 hp r | false=>zV2 n0 hp r)
def zOx {hp:Nat->Option Ob}:∀ {l:List (Nat×Nat)},∀ p∈there hp l,p∈l
 | [],_,h=>h
 | (k,j)::r,p,h=>by
  unfold there at h;split at h
  ·exact(aR.1 h).elim (fun e=>e ▸ ak) fun h=>aG _ (zOx p h)
  ·exact aG _ (zOx p h)
def zUw (n0:Nat) (ts:List Nat) (V:St):Option (List (Nat×AV)×List (Nat×Ob)×Nat) :=
 fL fN (zAo V.hp 500 (upF n0 []++AV.keysAll (ts.map V.env)) []) fun k1=>fL fN (upF n0 []++zNV (upF n0 []) k1) fun o =>
  fL fPN (zV2 n0 V.hp (zipI 0 o)) fun ρ=>fN o.length fun n=>fL fP (hpR V.hp ρ ρ) fun hl =>
   match distinct (ρ.map (·.1)),distinct (ρ.map (·.2)),ltL n (envR V.env ρ ts),ltH n hl,zJE n0 n ρ with
   | true,true,true,true,true=>some (envR V.env ρ ts,hl,n)
   | _,_,_,_,_=>none
def zKQ {c:Cx}{ts:List Nat}{L:List (Nat×AV)}{H:List (Nat×Ob)}{n:Nat} (h:zUw c.n0 ts V=some (L,H,n)):Le c V ⟨ofL L,ofH H,n⟩:=by
 unfold zUw at h;simp only[zIi zFn,zFn,zIi zX3,zIi yCl]at h;split at h
 ·rename_i h1 h2 h3 h4 h5;cases h;exact Le.renameG _ _ zOx _ _ _ zKC zKI h1 h2 h3 h4 h5
 cases h
def mvL (k n:Nat):Nat->List (Nat×Nat)->List (Nat×Nat)
 | 0,l=>l
 | i+1,l=>mvL k n i ((i,bif Nat.beq i k then n else i)::l)
def mvS (n0 N k:Nat) (V:St):Option St :=
 fN V.nx fun n=>fL fPN (there V.hp (mvL k n n [])) fun ρ=>fL fP (hpR V.hp ρ ρ) fun hl =>
  match distinct (ρ.map (·.1)),distinct (ρ.map (·.2)),ltL (n+1) (envR V.env ρ (upF N [])),ltH (n+1) hl,zJE n0 (n+1) ρ with
  | true,true,true,true,true=>some ⟨ofL (envR V.env ρ (upF N [])),ofH hl,n+1⟩
  | _,_,_,_,_=>none
def yDN {c:Cx}{N k:Nat}{V':St} (h:mvS c.n0 N k V=some V'):Le c V V':=by
 unfold mvS at h;simp only[zFn,zIi zX3,zIi yCl]at h;split at h
 ·rename_i h1 h2 h3 h4 h5;cases h;rw[zKJ]at h4 ⊢;exact Le.rename _ _ _ _ zKC zKI h1 h2 h3 h4 h5
 cases h
section
variable {P:Program}
def zMD (n0 N:Nat) (V:St):List (Fact P)->St×List (Fact P)
 | .take k off e::r=>match V.hp k with
  | some (.box bt cells)=>match cells[off]? with
   | some (.nl (sz+1))=>zMD n0 N (zA6 (zDW V k (.box bt (cells.set off (.orow V.nx)))) (.row e (sz+1) [])) r
   | _=>(V,.take k off e::r)
  | _=>(V,.take k off e::r)
 | .mv k::r=>match mvS n0 N k V with
  | some V'=>zMD n0 N V' r
  | none=>(V,.mv k::r)
 | .give k::r=>match V.hp k with
  | some (.row e sz rows)=>zMD n0 N (zKG V k (.s (.sl sz rows)) (fun _=>.junk)) r
  | _=>(V,.give k::r)
 | fs=>(V,fs)
def zIT {c:Cx}{N:Nat}:∀ {fs:List (Fact P)}{V:St},Le c V (zMD c.n0 N V fs).1
 | .take k off e::r,V=>by
  unfold zMD;split
  ·rename_i h1;split
   ·rename_i h2;exact Le.trans (Le.takeNil k off e h1 h2 (Nat.succ_pos _)) zIT
   ·exact Le.refl _ _
  ·exact Le.refl _ _
 | .mv k::r,V=>by
  unfold zMD;split
  ·rename_i h1;exact Le.trans (yDN h1) zIT
  ·exact Le.refl _ _
 | .give k::r,V=>by
  unfold zMD;split
  ·rename_i h1;exact Le.trans (Le.giveRow k h1) zIT
  ·exact Le.refl _ _
 | [],V=>Le.refl _ _
 | .call ..::_,V=>Le.refl _ _
 | .val ..::_,V=>Le.refl _ _
 | .ok ..::_,V=>Le.refl _ _
 | .ld ..::_,V=>Le.refl _ _
 | .loop ..::_,V=>Le.refl _ _
 | .go::_,V=>Le.refl _ _
 | .ix ..::_,V=>Le.refl _ _
 | .bx ..::_,V=>Le.refl _ _
def ungo:List (Fact P)->List (Fact P)
 | .go::r=>r
 | fs=>fs
variable {α:Type}
def andU  (us:Us):Ou P α->Ou P α
 | some (l,us',fs)=>some (l,us++us',fs)
 | none=>none
def zGG {us u:Us}{r:Ou P α}{l:List α}{fs:List (Fact P)} (h:andU us r=some (l,u,fs)) (hu:Us.ok u):Us.ok us/\∃ u',r=some (l,u',fs)/\Us.ok u':=by
 unfold andU at h;split at h
 ·cases h; exact⟨hu.app.1,_,rfl,hu.app.2⟩
 cases h
def lexE (ops:Array Oper) (b:Bool) (nx:Nat) (l:List (Bool×Inf)):Bool:=lexD ops (idxs 0 (l.map (·.1))) (idxs 0 (l.map (roB b nx (rds nx l)))) ops.toList.length 0 (Array.replicate ops.toList.length false)
def zGx (T:Nat->Option TI) (F:CallF P) (M:List Nat) (N n0:Nat):Nat->Code->St->List (Fact P)->Ou P (End×St)
 | 0,_,_,_=>none
 | n+1,code,V,fs=>match code with
  | .seq x y=>match zMD n0 N V fs with
   | (V0,fs0)=>match zGx T F M N n0 n x V0 fs0 with
    | none=>none
    | some (l,us,fs1)=>andU us (zMB l (fun p fs=>match p with
     | (.normal,V1)=>zGx T F M N n0 n y V1 fs
     | r=>one r fs) fs1)
  | .region _ ops drawn=>match zD4 N ops.toList with
   | false=>none
   | true=>match drawn with
    | false=>match eOps T F M (zJT M ops.toList) N ops.toList ops.toList V fs with
     | some (Vs,us,fs')=>some (Vs.map fun V=>(.normal,V),us,fs')
     | none=>none
    | true=>match zWy T F M ops.toList ops.toList V fs with
     | some ((V1,l),us,fs')=>match Nat.ble l.length 1000,lexE ops false V.nx l,lexE ops true V.nx l with
      | true,true,_=>some ([(.normal,V1)],us,fs')
      | true,false,true=>some ([(.normal,V1)],us++caU (rds V.nx l) l,fs')
      | _,_,_=>match lexS ops ops.toList.length 0 (Array.replicate ops.toList.length false),zY8 T M ops.toList ops.toList V fs with
       | true,some (V2,us,fs')=>some ([(.normal,V2)],us,fs')
       | _,_=>none
     | none=>none
  | .cond (.tmp t) x y=>match V.env t with
   | .s (.bool true)=>zGx T F M N n0 n x V fs
   | .s (.bool false)=>zGx T F M N n0 n y V fs
   | _=>none
  | .skip=>one (.normal,V) fs
  | .ret=>one (.ret,V) fs
  | .exit id=>one (.exit id,V) fs
  | .block id x=>match zGx T F M N n0 n x V fs with
   | none=>none
   | some (l,us,fs')=>some (l.map fun p=>match p with
    | (.exit j,V1)=>(match Nat.beq j id with | true=>(.normal,V1) | false=>(.exit j,V1))
    | r=>r,us,fs')
  | .loop x=>match fs with
   | .loop N' n0' x' L H k e L' H' k' _::fs'=>match zUw n0 (L.map (·.1)) V with
    | some (L1,H1,k1)=>some ([(e,⟨ofL L',ofH H',k'⟩)],[(.k x,.k x'),(.l L1,.l L),(.h H1,.h H),(.n k1,.n k),(.n N,.n N'),(.n n0,.n n0')],fs')
    | none=>none
   | _=>match zGx T F M N n0 n x V (ungo fs) with
    | none=>none
    | some (l,us,fs1)=>andU us (zMB l (fun p fs=>match p with
     | (.normal,V1)=>tidy N V1 fun V2=>zGx T F M N n0 n (.loop x) V2 fs
     | r=>one r fs) fs1)
  | _=>none
end
section
variable {c:Cx} {T:Nat->Option TI} {F:CallF c.P}
theorem zB6 (hT:TOk c.P T) (hm:c.P.follows .mixedOrders=true) (hf:F.Ok){M:List Nat}:∀ {n:Nat}{code:Code}{V:St}{L:List (End×St)}{fs fs':List (Fact c.P)}{us:Us}{Q:End->St->Prop},zGx T F M c.N c.n0 n code V fs=some (L,us,fs')->Us.ok us->(∀ p∈L,Q p.1 p.2) ->
  Tri c code V Q/\∀ x,code = .loop x->TriL c x V Q
 | 0,_,_,_,_,_,_,_,h,_,_=>by cases h
 | n+1,code,V,L,fs,fs',us,Q,h,hu,hq=>by
  have ih:=fun {code:Code} {V:St} {L:List (End×St)} {fs fs':List (Fact c.P)} {us:Us} {Q:End->St->Prop}=>zB6 hT hm hf (M:=M) (n:=n) (code:=code) (V:=V) (L:=L) (fs:=fs) (fs':=fs') (us:=us) (Q:=Q)
  have h1q:∀ {e V'},L=[(e,V')]->Q e V':=fun {e V'} e=>hq (_,_) (by rw[e]; exact ak)
  unfold zGx at h;split at h
  ·rename_i x y;refine⟨?_,fun _ h=>by cases h⟩;split at h;rename_i V0 fs0 ht;have hle:Le c V V0 :=(by have:=zIT (c:=c) (N:=c.N) (fs:=fs) (V:=V); rw[ht]at this; exact this);refine zAj hle (zAa ?_);split at h
   ·cases h
   rename_i l u1 f1 h1;obtain⟨g1,u2,g2,g3⟩:=zGG h hu;refine(ih h1 g1 (Q:=yBh c y Q) fun p hp=>?_).1;obtain⟨f2,l',u',f3,h2,h3,h4⟩:=zD3 g2 g3 p hp;obtain⟨e,τ⟩:=p;cases e with
   | normal=>exact(ih h2 h3 fun p hp=>hq p (h4 p hp)).1
   | exit id=>cases h2; exact hq _ (h4 _ ak)
   | ret=>cases h2; exact hq _ (h4 _ ak)
  ·rename_i id ops drawn;refine⟨?_,fun _ h=>by cases h⟩;split at h
   ·cases h
   rename_i hd;split at h
   ·split at h
    ·rename_i Vs u1 f1 h1;cases h;have:=zLL (id:=id) (Q:=Q) hT zSM M (zJT M ops.toList) hd (zHa hf (zIV c.P) h1 hu fun τ hτ=>hq (.normal,τ) (be.2 ⟨τ,hτ,rfl⟩));exact qA
    cases h
   split at h
   ·rename_i V1 l u1 f1 h1;split at h
    ·rename_i h3 h2;cases h;have:=zI6 (id:=id) (Q:=Q) hT zSM hm (fun q=>inL q (rds V.nx l)) (fun _ h=>zTt h) M [] _ _ hd (by unfold lexE at h2; simpa using h2) (zHw hf (zIV c.P) h1 hu (zX5 (aj h3) fun h=>by cases h) (h1q rfl));exact qA
    ·rename_i h3 _ h2;cases h;have:=zI6 (id:=id) (Q:=Q) hT zSM hm (fun q=>inL q (rds V.nx l)) (fun _ h=>zTt h) M [] _ _ hd (by unfold lexE at h2; simpa using h2) (zHw hf (zIV c.P) h1 hu.app.1 (zX5 (aj h3) fun _=>hu.app.2) (h1q rfl));exact qA
    split at h
    ·rename_i V2 u2 f2 h4 h2;cases h;have:=zZu (id:=id) (Q:=Q) hT zSM hm M hd (by simpa using h4) (zOr (zIV c.P) h2 hu (h1q rfl));exact qA
    cases h
   cases h
  ·rename_i t x y;refine⟨?_,fun _ h=>by cases h⟩;split at h
   ·rename_i hb;exact zAx hb (fun _=>(ih h hu hq).1) (fun h=>by cases h)
   ·rename_i hb;exact zAx hb (fun h=>by cases h) (fun _=>(ih h hu hq).1)
   cases h
  ·cases h; exact⟨zAe (h1q rfl),fun _ h=>by cases h⟩
  ·cases h; exact⟨zAd (h1q rfl),fun _ h=>by cases h⟩
  ·cases h; exact⟨zAy (h1q rfl),fun _ h=>by cases h⟩
  ·rename_i id x;refine⟨zAk ?_,fun _ h=>by cases h⟩;split at h
   ·cases h
   rename_i l u1 f1 h1;cases h;refine(ih h1 hu (Q:=zPr id Q) fun p hp=>?_).1;have:=hq _ (be.2 ⟨p,hp,rfl⟩);obtain⟨e,τ⟩:=p;cases e with
   | normal=>exact this
   | exit j =>
    show match Nat.beq j id with | true=>Q .normal τ | false=>Q (.exit j) τ
    dsimp only at this;cases e:Nat.beq j id with
    | true=>rw[e]at this; exact this
    | false=>rw[e]at this; exact this
   | ret=>exact this
  ·rename_i x;have key:TriL c x V Q:=by
    split at h
    ·rename_i N' n0' x' L1 H1 k1 e L2 H2 k2 hl f1;split at h
     ·rename_i L3 H3 k3 h3;cases h;obtain⟨e1,hu⟩:=hu.cons;obtain⟨e2,hu⟩:=hu.cons;obtain⟨e3,hu⟩:=hu.cons;obtain⟨e4,hu⟩:=hu.cons;obtain⟨e5,hu⟩:=hu.cons;obtain⟨e6,hu⟩:=hu.cons;cases e1;cases e2;cases e3;cases e4;exact zZo (zKQ h3) (hl c Q rfl (U.n.inj e5) (U.n.inj e6) (h1q rfl))
     cases h
    refine zXe ?_;split at h
    ·cases h
    rename_i l u1 f1 h1;obtain⟨g1,u2,g2,g3⟩:=zGG h hu;refine(ih h1 g1 (Q:=yBH c x Q) fun p hp=>?_).1;obtain⟨f2,l',u',f3,h2,h3,h4⟩:=zD3 g2 g3 p hp;obtain⟨e,τ⟩:=p;cases e with
    | normal =>
     obtain⟨V2,h6,h5⟩:=zZl (N:=c.N) (V:=τ) (K:=fun V2=>zGx T F M c.N c.n0 n (.loop x) V2 f2);dsimp only at h2;rw[h5]at h2;exact zZo (h6 _) ((ih h2 h3 fun p hp=>hq p (h4 p hp)).2 x rfl)
    | exit id=>cases h2; exact hq _ (h4 _ ak)
    | ret=>cases h2; exact hq _ (h4 _ ak)
   exact⟨zZt key,fun y hy=>by cases hy; exact key⟩
  cases h
end
def xFrz (n0:Nat):List Nat->St->St
 | [],V=>V
 | k::r,V=>match Nat.ble n0 k,V.hp k with
  | true,some (.row e sz rows)=>xFrz n0 r (zKG V k (.s (.sl sz rows)) (fun _=>.junk))
  | true,some (.arow e sz rows)=>match zGu rows with
   | some rs=>fSss rs fun rs=>xFrz n0 r (zKG V k (.s (.sl sz rs)) (fun _=>.junk))
   | none=>xFrz n0 r V
  | _,_=>xFrz n0 r V
def zLN {c:Cx}{n0:Nat}:∀ {l:List Nat}{V:St},Le c V (xFrz n0 l V)
 | [],V=>Le.refl c V
 | k::r,V=>by
  unfold xFrz;split
  ·rename_i h;exact Le.trans (Le.giveRow k h) zLN
  ·rename_i h;split
   ·rename_i rs hs;rw[yCm];exact Le.trans (Le.giveArow k rs h hs) zLN
   ·exact zLN
  ·exact zLN
def resT:ResultVar->Nat
 | .tmp t=>t
 | .cell t _=>t
def obsL (hl:List (Nat×Ob)):Nat->List (Option Ob)->List (Option Ob)
 | 0,l=>l
 | k+1,l=>obsL hl k (ofH hl k::l)
def zQU (n:Nat):List (Option Ob)->Bool
 | []=>true
 | none::r=>zQU n r
 | some ob::r=>ob.lt n&&zQU n r
def zVM {hl:List (Nat×Ob)}{n:Nat}:∀ {k:Nat}{l:List (Option Ob)},zQU n (obsL hl k l)=true->(zPD (ofH hl) n k l)->zPD (ofH hl) n 0 (obsL hl k l)
 | 0,l,_,h=>h
 | k+1,l,h1,h=>by
  simp only[obsL]at h1 ⊢;refine zVM h1 ?_;have h2:zQU n (ofH hl k::l)=true:=by
   have:∀ {k:Nat} {l:List (Option Ob)},zQU n (obsL hl k l)=true->zQU n l=true:=fun {k}=>by
    induction k with
    | zero=>intro l h; exact h
    | succ k ih=>
    intro l h;have:=ih h;cases e:ofH hl k with
    | none=>rw[e]at this; exact this
    | some ob=>rw[e]at this; simp only[zQU,af]at this; exact this.2
   exact this h1
  cases e:ofH hl k with
  | none=>exact h
  | some ob=>rw[e]at h2;simp only[zQU,af]at h2;exact⟨e,h2.1,h⟩
def zMW {hl:List (Nat×Ob)}:∀ {k:Nat}{l:List (Option Ob)},(obsL hl k l).length=k+l.length
 | 0,l=>by simp[obsL]
 | k+1,l=>by simp only[obsL,zMW,ah]; omega
def xOut (T:Nat->Option TI) (n0:Nat) (rs:List ResultVar) (n1 n:Nat) (l:List (Nat×AV)) (hl:List (Nat×Ob)):Option (AV×List (Option Ob)) :=
 match zHX T ⟨ofL l,ofH hl,n⟩ rs with
 | some x=>match zQU n1 (obsL hl n1 []),x.lt n1,Nat.ble n0 n1 with
  | true,true,true=>fV x fun x=>some (x,obsL hl n1 [])
  | _,_,_=>none
 | none=>none
def xRen (T:Nat->Option TI) (n0:Nat) (rs:List ResultVar) (V:St) (n1 n:Nat) (ρ:List (Nat×Nat)):Option (AV×List (Option Ob)) :=
 fL fP (hpR V.hp ρ ρ) fun hl=>match distinct (ρ.map (·.1)),distinct (ρ.map (·.2)),ltL n (envR V.env ρ (rs.map resT)),ltH n hl,zJE n0 n ρ with
  | true,true,true,true,true=>xOut T n0 rs n1 n (envR V.env ρ (rs.map resT)) hl
  | _,_,_,_,_=>none
def yEv (T:Nat->Option TI) (n0:Nat) (rs:List ResultVar) (V:St) (x:AV):Option (AV×List (Option Ob)) :=
 fL fN (zAo V.hp 500 (upF n0 []++x.keys) []) fun k1=>fL fN (upF n0 []++zNV (upF n0 []) k1) fun o1 =>
  fL fN (o1++zNV o1 (zAo V.hp 500 (AV.keysAll ((rs.map resT).map V.env)) [])) fun o2=>fL fPN (there V.hp (zipI 0 o2)) fun ρ =>
   fN o1.length fun n1=>fN o2.length fun n=>xRen T n0 rs V n1 n ρ
def xEnd (T:Nat->Option TI) (n0:Nat) (rs:List ResultVar) (V:St):Option (AV×List (Option Ob)) :=
 match zHX T V rs with
 | none=>none
 | some x0=>fL fN (zAo V.hp 500 x0.keys []).reverse fun k0=>match zHX T (xFrz n0 k0 V) rs with
  | none=>none
  | some x1=>fV x1 fun x1=>yEv T n0 rs (xFrz n0 k0 V) x1
variable {P:Program}
theorem zLM {T:Nat->Option TI}{w0:World}{B0:Nat->Value}{G0:Nat->Prop}{n0 N:Nat}{rs:List ResultVar}{V:St}{x:AV}{os':List (Option Ob)} (h:xEnd T n0 rs V=some (x,os')) :
  zCf (zET P w0 B0 n0 G0 N) T rs x os' V/\n0<=os'.length:=by
 unfold xEnd at h;split at h
 ·cases h
 rw[zIi zFn]at h;split at h
 ·cases h
 rename_i x1 _;rw[zSH]at h;unfold yEv at h;simp only[zIi zFn,zFn,zIi zX3]at h;unfold xRen at h;rw[zIi yCl]at h;split at h
 ·rename_i h1 h2 h3 h4 h5;rw[zKJ]at h h4;unfold xOut at h;split at h
  ·rename_i y hy;split at h
   ·rename_i g1 g2 g3;rw[zSH]at h;cases h;rw[zMW,an,bz];unfold zCf;refine⟨⟨_,Le.trans zLN (Le.rename _ _ _ _ zKC zKI h1 h2 h3 h4 h5),hy,?_,?_⟩,aj g3⟩
    ·rw[zMW,an,bz]; exact g2
    rw[zMW,an,bz]; exact zVM g1 trivial
   cases h
  cases h
 cases h
structure Fi where
 fn:Func
 M:List Nat
def PSound.tell {f:Nat}{R:List AV->List Ob->AV->List (Option Ob)->Prop} (h:PSound P f (zD8 R)):PSound P f (zDi R):=⟨h.1,h.2.1,h.2.2.1,fun R hR=>by cases hR⟩
abbrev ExtF:=List AV->List Ob->Option (AV×List (Option Ob))
section
variable {P:Program}
def zZV (T:Nat->Option TI) (F:CallF P) (fi:Fi) (xs:List AV) (os:List Ob) (fs:List (Fact P)):Ou P (AV×List (Option Ob)) :=
 match Nat.ble xs.length fi.fn.ntmps,fi.fn.body with
 | true,some code=>match zGx T F fi.M fi.fn.ntmps os.length 100000 code (zP3 xs os) fs with
  | some (l,us,fs1)=>andU us (zMB l (fun p fs=>match p with
   | (.exit _,_)=>none
   | (_,V)=>match xEnd T os.length fi.fn.results.toList V with | some r=>one r fs | none=>none) fs1)
  | none=>none
 | _,_=>none
def fstE:Ou P (AV×List (Option Ob))->Option ((AV×List (Option Ob))×Us×List (Fact P))
 | some (p::r,us,fs)=>some (p,r.flatMap (fun q=>[(.a p.1,.a q.1),(.o p.2,.o q.2)])++us,fs)
 | _=>none
def zX8 {p:AV×List (Option Ob)}:∀ {r:List (AV×List (Option Ob))},Us.ok (r.flatMap (fun q=>[(.a p.1,.a q.1),(.o p.2,.o q.2)]))->∀ q∈r,q=p
 | [],_,q,hq=>by cases hq
 | a::r,h,q,hq=>by
  rw[flatMap_cons]at h;obtain⟨h1,h2⟩:=h.app;rcases aR.1 hq with rfl | hq
  ·obtain⟨e1,h1⟩:=h1.cons;obtain⟨e2,_⟩:=h1.cons;exact Prod.ext (U.a.inj e1).symm (U.o.inj e2).symm
  ·exact zX8 h2 q hq
def zUe (T:Nat->Option TI) (ext:Nat->Option ExtF) (tab:Nat->Option Fi):Nat->CallF P
 | 0,_,_,_,_=>none
 | n+1,g,xs,os,fs=>match ext g with
  | some h=>match h xs os with
   | some (x,r)=>some ((x,r,os.isEmpty&&r.isEmpty),[],fs)
   | none=>none
  | none=>match tab g with
   | some fi=>match fstE (zZV T (zUe T ext tab n) fi xs os fs) with
    | some (r,us,fs1)=>some ((r.1,r.2,os.isEmpty&&r.2.isEmpty),us,fs1)
    | none=>none
   | none=>match fs with
    | .call same g' xs' os' x r _::fs'=>some ((x,r,same),[(.c g xs os,.c g' xs' os')],fs')
    | _=>none
def zK9 (P:Program) (g:Nat) (fi:Fi):Prop:=(∀ args w,(callFunc g args).run P w = .ok (.enter g args) w)/\P.funcs[g]? = some fi.fn
def zQI (P:Program) (g:Nat) (h:ExtF):Prop:=PSound P g (zDi fun xs os x os'=>h xs os=some (x,os'))
variable {os:List Ob}{xs:List AV}{T:Nat->Option TI}
theorem zXJ  (hT:TOk P T) (hm:P.follows .mixedOrders=true){F:CallF P} (hf:F.Ok){g:Nat}{fi:Fi} (hg:zK9 P g fi){fs fs':List (Fact P)}{us:Us}{r:AV×List (Option Ob)}
  (h:fstE (zZV T F fi xs os fs)=some (r,us,fs')) (hu:Us.ok us):Evl P g xs os r.1 r.2:=by
 unfold fstE at h;split at h
 ·rename_i p rs u1 f1 h0;cases h;obtain⟨hu1,hu2⟩:=hu.app;have hall:=zX8 hu1;unfold zZV at h0;split at h0
  ·rename_i code hn hb;split at h0
   ·rename_i l u2 f2 h1;obtain⟨g1,u3,g2,g3⟩:=zGG h0 hu2;have key:∀ p∈l,(∀ id,p.1 ≠ .exit id)/\xEnd T os.length fi.fn.results.toList p.2=some r:=fun p hp=>by
     obtain⟨q1,l',u',q2,h2,h3,h4⟩:=zD3 g2 g3 p hp;obtain⟨e,τ⟩:=p;have fin:∀ {o:Option (AV×List (Option Ob))},(match o with | some r=>one r q1 | none=>none)=some (l',u',q2)->o=some r:=fun {o} ho=>by
      cases o with
      | none=>cases ho
      | some r1=>
      cases ho;rcases aR.1 (h4 r1 ak) with rfl | h5
      ·rfl
      rw[hall _ h5]
     cases e with
     | exit id=>cases h2
     | normal=>exact⟨fun id h=>(by cases h),fin h2⟩
     | ret=>exact⟨fun id h=>(by cases h),fin h2⟩
    have hl:l ≠ []:=fun e=>by subst e; cases g2
    obtain⟨p0,hp0⟩:=exists_mem_of_ne_nil l hl;refine(zYw hT hg.1 hg.2 hb (R:=fun a b c d=>a=xs/\b=os/\c=r.1/\d=r.2) (fun xs' os' x os2 ⟨e1,e2,e3,e4⟩=>?_) fi.fn.ntmps rfl (fun xs' os' x os2 w0 G0 B0 ⟨e1,e2,e3,e4⟩ _=>?_)).tell
    ·subst e1; subst e2; subst e3; subst e4;exact⟨aj hn,(zLM (P:=P) (w0:=default) (B0:=fun _=>.tuple #[]) (G0:=fun _=>False) (N:=0) (key p0 hp0).2).2⟩
    subst e1; subst e2; subst e3; subst e4;refine(zB6 (c:=zET P w0 B0 os'.length G0 fi.fn.ntmps) hT hm hf h1 g1 fun p hp=>?_).1;obtain⟨h5,h6⟩:=key p hp;obtain⟨e,τ⟩:=p;cases e with
    | normal=>exact(zLM h6).1
    | exit id=>exact absurd rfl (h5 id)
    | ret=>exact(zLM h6).1
   cases h0
  cases h0
 cases h
theorem zKw {T:Nat->Option TI} (hT:TOk P T) (hm:P.follows .mixedOrders=true){ext:Nat->Option ExtF}{tab:Nat->Option Fi} (hext:∀ g h,ext g=some h->zQI P g h) (htab:∀ g fi,tab g=some fi->zK9 P g fi):∀ n,(zUe (P:=P) T ext tab n).Ok
 | 0=>fun g xs os fs x r same us fs' h hu=>by cases h
 | n+1=>fun g xs os fs x r same us fs' h hu=>by
  unfold zUe at h;split at h
  ·rename_i f hx;split at h
   ·rename_i x1 r1 h1;cases h;have:=hext _ _ hx;exact⟨this.1,fun G w xs vs r _ _ _ _ hs=>hs.elim,fun R' hR'=>by
     obtain rfl:(fun a b c d=>a=xs/\b=os/\c=x/\d=r)=R' :=(by simpa [zDi] using hR');rintro G w O xs' vs os' y os2 k1 k2 k3 k4 k5 ⟨rfl,rfl,rfl,rfl⟩
     exact this.2.2.1 _ rfl G w O _ vs _ _ _ k1 k2 k3 k4 k5 h1,fun R hR=>by cases hR⟩
   ·cases h
  ·split at h
   ·rename_i fi hfi;split at h
    ·rename_i r1 u1 f1 h1;cases h;exact zXJ hT hm (zKw hT hm hext htab n) (htab _ _ hfi) h1 hu
    ·cases h
   ·split at h
    ·rename_i g' xs' os' hev _;cases h;obtain⟨e,_⟩:=hu.cons;cases e;assumption
    ·cases h
def PSound.evl {f:Nat}{s:zAq} (hp:PSound P f s){x:AV} (h1:AV.persAll xs=true) (h2:s.spec xs (.val x)):Evl P f xs [] x [] :=
 ⟨hp.1,fun G w xs vs r _ _ _ _ hs=>hs.elim,fun R' hR'=>by
  obtain rfl:(fun a b c d=>a=xs/\b=[]/\c=x/\d=[])=R' :=(by simpa [zDi] using hR');rintro G w O xs' vs os' y os2 k1 k2 k3 k4 k5 ⟨rfl,rfl,rfl,rfl⟩
  exact hp.toOwn.2.2.1 _ rfl G w O _ vs _ _ _ k1 k2 k3 k4 k5 ⟨h1,h2,rfl,rfl⟩,fun R hR=>by cases hR⟩
def lftE (q:(AV×List (Option Ob))×Us×List (Fact P)):List U×Bool:=(.a q.1.1::.o q.1.2::q.2.1.map (·.1),q.2.2.isEmpty)
def rgtE (x:AV) (os':List (Option Ob)) (q:Option ((AV×List (Option Ob))×Us×List (Fact P))):List U×Bool:=(.a x::.o os'::(match q with | some q=>q.2.1.map (·.2) | none=>[]),true)
def runE (T:Nat->Option TI) (ext:Nat->Option ExtF) (tab:Nat->Option Fi) (fi:Fi) (xs:List AV) (os:List Ob) (fs:List (Fact P)):Option ((AV×List (Option Ob))×Us×List (Fact P)):=fstE (zZV T (zUe T ext tab 100) fi xs os fs)
def zU7:∀ {us:Us},us.map (·.1)=us.map (·.2)->Us.ok us
 | [],_=>Us.ok.nil
 | (a,b)::r,h=>by
  simp only[ba,List.cons.injEq]at h;intro p hp;rcases aR.1 hp with rfl | hp
  ·exact h.1
  ·exact zU7 h.2 p hp
theorem zY0  (hT:TOk P T) (hm:P.follows .mixedOrders=true){ext:Nat->Option ExtF}{tab:Nat->Option Fi} (hext:∀ g h,ext g=some h->zQI P g h) (htab:∀ g fi,tab g=some fi->zK9 P g fi){g:Nat}{fi:Fi} (hg:zK9 P g fi){x:AV}{os':List (Option Ob)} (fs:List (Fact P))
  (h:(runE T ext tab fi xs os fs).map lftE=some (rgtE x os' (runE T ext tab fi xs os fs))):Evl P g xs os x os':=by
 cases e:runE T ext tab fi xs os fs with
 | none=>rw[e]at h; cases h
 | some q=>obtain⟨r,us,f1⟩:=q;rw[e]at h;simp only[bu,lftE,rgtE,aC,Prod.mk.injEq,List.cons.injEq,U.a.injEq,U.o.injEq]at h;obtain⟨⟨h1,h2,h3⟩,_⟩:=h;subst h1;subst h2;exact zXJ hT hm (zKw hT hm hext htab 100) hg e (zU7 h3)
end
section
attribute [local semireducible] Tri Le TriL
def zZp {c:Cx}{x:Code}{V:St}{Q:End->St->Prop} (h:TriL c x V (fun e V'=>∃ V1,Le c V' V1/\Q e V1)):TriL c x V Q:=fun G O a w hc b k cs hro hb hr=>by
 obtain⟨e,a',w',⟨e',G',O',V',he,⟨V1,hl,hq⟩,hc'⟩,harr⟩:=h G O a w hc b k cs hro hb hr;obtain⟨G2,O2,hc2⟩:=hl G' O' a' w' hc';exact⟨e,a',w',⟨e',G2,O2,V1,he,hq,hc2⟩,harr⟩
end
section
variable {P:Program}
def zJV:Code->List Code
 | .seq x y=>zJV x++zJV y
 | .cond _ x y=>zJV x++zJV y
 | .block _ x=>zJV x
 | .loop x=>x::zJV x
 | _=>[]
def zPI (fi:Fi) (k:Nat):Code:=match fi.fn.body with | some c=>(zJV c).getD k .skip | none=>.skip
def runL (T:Nat->Option TI) (ext:Nat->Option ExtF) (tab:Nat->Option Fi) (fi:Fi) (k n0:Nat) (L:List (Nat×AV)) (H:List (Nat×Ob)) (n:Nat) (ts:List Nat) (fs:List (Fact P)):Option ((End×List (Nat×AV)×List (Nat×Ob)×Nat)×Us×List (Fact P)) :=
 match zGx T (zUe T ext tab 100) fi.M fi.fn.ntmps n0 100000 (.loop (zPI fi k)) ⟨ofL L,ofH H,n⟩ fs with
 | some ([(e,V)],us,fs')=>match zUw n0 ts V with
  | some r=>some ((e,r),us,fs')
  | none=>none
 | _=>none
def lftL (q:(End×List (Nat×AV)×List (Nat×Ob)×Nat)×Us×List (Fact P)):End×List U×Bool:=(q.1.1,.l q.1.2.1::.h q.1.2.2.1::.n q.1.2.2.2::q.2.1.map (·.1),q.2.2.isEmpty)
def rgtL (e:End) (L:List (Nat×AV)) (H:List (Nat×Ob)) (n:Nat) (q:Option ((End×List (Nat×AV)×List (Nat×Ob)×Nat)×Us×List (Fact P))):End×List U×Bool:=(e,.l L::.h H::.n n::(match q with | some q=>q.2.1.map (·.2) | none=>[]),true)
theorem yCs {T:Nat->Option TI} (hT:TOk P T) (hm:P.follows .mixedOrders=true){ext:Nat->Option ExtF}{tab:Nat->Option Fi} (hext:∀ g h,ext g=some h->zQI P g h) (htab:∀ g fi,tab g=some fi->zK9 P g fi){fi:Fi}{k n0:Nat}{L:List (Nat×AV)}{H:List (Nat×Ob)}{n:Nat}{e:End}{L':List (Nat×AV)}{H':List (Nat×Ob)}{n':Nat} (fs:List (Fact P))
  (h:(runL T ext tab fi k n0 L H n (L'.map (·.1)) fs).map lftL=some (rgtL e L' H' n' (runL T ext tab fi k n0 L H n (L'.map (·.1)) fs))):zXq P fi.fn.ntmps n0 (zPI fi k) L H n e L' H' n':=by
 rintro c Q rfl hN rfl hq;cases e1:runL T ext tab fi k c.n0 L H n (L'.map (·.1)) fs with
 | none=>rw[e1]at h; cases h
 | some q=>
 obtain⟨⟨e0,L0,H0,k0⟩,us,f1⟩:=q;rw[e1]at h;simp only[bu,lftL,rgtL,aC,Prod.mk.injEq,List.cons.injEq,U.l.injEq,U.h.injEq,U.n.injEq]at h;obtain⟨rfl,⟨rfl,rfl,rfl,h3⟩,_⟩:=h;unfold runL at e1;rw[← hN]at e1;split at e1
 ·rename_i e2 V2 us2 f2 h2;split at e1
  ·rename_i r hr;cases e1;refine zZp ((zB6 hT hm (zKw hT hm hext htab 100) h2 (zU7 h3) fun p hp=>?_).2 _ rfl);obtain rfl:=aD.1 hp;exact⟨_,zKQ hr,hq⟩
  cases e1
 cases e1
end
end
noncomputable def xTab:List (Nat×Fi):=[(5,⟨Tryz.f5,[1]⟩),(16,⟨Tryz.f16,[1,9]⟩),(17,⟨Tryz.f17,[4,7,9]⟩),(22,⟨Tryz.f22,[1,4]⟩),(27,⟨Tryz.f27,[1,6]⟩),(39,⟨Tryz.f39,[3,5]⟩),(40,⟨Tryz.f40,[]⟩),(41,⟨Tryz.f41,[6,8]⟩),(46,⟨Tryz.f46,[1,2]⟩),(47,⟨Tryz.f47,[1,4]⟩),(49,⟨Tryz.f49,[0]⟩),(50,⟨Tryz.f50,[]⟩),(68,⟨Tryz.f68,[0]⟩),(69,⟨Tryz.f69,[2,3,4,6,10,22]⟩),(70,⟨Tryz.f70,[15,17]⟩),(71,⟨Tryz.f71,[3,4,5,7,73]⟩),(72,⟨Tryz.f72,[2]⟩),(73,⟨Tryz.f73,[2]⟩),(76,⟨Tryz.f76,[3,4,5,7,22]⟩),(77,⟨Tryz.f77,[1,3]⟩),(78,⟨Tryz.f78,[5]⟩),(79,⟨Tryz.f79,[]⟩),(80,⟨Tryz.f80,[]⟩),(81,⟨Tryz.f81,[]⟩),(82,⟨Tryz.f82,[]⟩),(83,⟨Tryz.f83,[]⟩),(84,⟨Tryz.f84,[]⟩),(85,⟨Tryz.f85,[]⟩),(114,⟨Tryz.f114,[3]⟩),(115,⟨Tryz.f115,[3]⟩),(116,⟨Tryz.f116,[3]⟩),(117,⟨Tryz.f117,[3]⟩),(118,⟨Tryz.f118,[3]⟩),(119,⟨Tryz.f119,[3,4]⟩),(120,⟨Tryz.f120,[3]⟩),(121,⟨Tryz.f121,[3]⟩),(122,⟨Tryz.f122,[3,5]⟩),(123,⟨Tryz.f123,[0,1]⟩),(124,⟨Tryz.f124,[1]⟩),(125,⟨Tryz.f125,[3]⟩),(126,⟨Tryz.f126,[3,5,27]⟩),(127,⟨Tryz.f127,[3,4,7,38]⟩),(128,⟨Tryz.f128,[3]⟩),(129,⟨Tryz.f129,[2]⟩),(130,⟨Tryz.f130,[5]⟩),(131,⟨Tryz.f131,[3,6,7,9]⟩),(136,⟨Tryz.f136,[1,2,3,4]⟩),(137,⟨Tryz.f137,[8]⟩),(138,⟨Tryz.f138,[14]⟩),(139,⟨Tryz.f139,[]⟩),(140,⟨Tryz.f140,[14]⟩),(141,⟨Tryz.f141,[]⟩),(142,⟨Tryz.f142,[]⟩),(143,⟨Tryz.f143,[]⟩),(144,⟨Tryz.f144,[]⟩),(145,⟨Tryz.f145,[]⟩),(146,⟨Tryz.f146,[]⟩),(163,⟨Tryz.f163,[6,59]⟩),(164,⟨Tryz.f164,[3]⟩),(165,⟨Tryz.f165,[]⟩),(166,⟨Tryz.f166,[1]⟩),(167,⟨Tryz.f167,[3]⟩),(168,⟨Tryz.f168,[]⟩),(169,⟨Tryz.f169,[3]⟩),(172,⟨Tryz.f172,[4,7,8,9,26]⟩),(173,⟨Tryz.f173,[5,7]⟩),(174,⟨Tryz.f174,[11]⟩),(175,⟨Tryz.f175,[4]⟩),(176,⟨Tryz.f176,[3,6,9]⟩),(177,⟨Tryz.f177,[4,6]⟩),(187,⟨Tryz.f187,[]⟩),(188,⟨Tryz.f188,[4,5,7,21]⟩),(189,⟨Tryz.f189,[1,2,3,5,25,42]⟩),(190,⟨Tryz.f190,[1]⟩),(191,⟨Tryz.f191,[]⟩),(192,⟨Tryz.f192,[]⟩),(193,⟨Tryz.f193,[3]⟩),(194,⟨Tryz.f194,[]⟩),(195,⟨Tryz.f195,[]⟩),(196,⟨Tryz.f196,[]⟩),(197,⟨Tryz.f197,[]⟩),(205,⟨Tryz.f205,[2,3]⟩),(206,⟨Tryz.f206,[]⟩),(207,⟨Tryz.f207,[1,3]⟩),(170,⟨Tryz.f170,[]⟩),(171,⟨Tryz.f171,[2]⟩),(214,⟨Tryz.f214,[2,3,6,8]⟩),(215,⟨Tryz.f215,[4]⟩),(216,⟨Tryz.f216,[3,5]⟩),(222,⟨Tryz.f222,[]⟩),(223,⟨Tryz.f223,[]⟩),(224,⟨Tryz.f224,[]⟩),(225,⟨Tryz.f225,[]⟩),(226,⟨Tryz.f226,[2]⟩),(228,⟨Tryz.f228,[]⟩),(208,⟨Tryz.f208,[]⟩),(209,⟨Tryz.f209,[2]⟩),(210,⟨Tryz.f210,[10]⟩),(211,⟨Tryz.f211,[2,4]⟩),(212,⟨Tryz.f212,[2]⟩),(213,⟨Tryz.f213,[6]⟩),(231,⟨Tryz.f231,[7]⟩),(232,⟨Tryz.f232,[7]⟩),(233,⟨Tryz.f233,[4,7,10,12,13,14,53]⟩),(235,⟨Tryz.f235,[]⟩),(237,⟨Tryz.f237,[]⟩),(238,⟨Tryz.f238,[]⟩),(239,⟨Tryz.f239,[5,7]⟩),(240,⟨Tryz.f240,[6,8]⟩),(241,⟨Tryz.f241,[1,3]⟩),(243,⟨Tryz.f243,[]⟩),(28,⟨Tryz.f28,[1,2,3,35,60]⟩),(244,⟨Tryz.f244,[2,4,7,8]⟩),(245,⟨Tryz.f245,[4,5,50]⟩),(246,⟨Tryz.f246,[]⟩),(247,⟨Tryz.f247,[2,6,15]⟩),(248,⟨Tryz.f248,[5,10,12,35,66,72]⟩),(249,⟨Tryz.f249,[6,7,93]⟩),(250,⟨Tryz.f250,[]⟩),(113,⟨Tryz.f113,[3,17]⟩)]
def yC2:∀ p∈xTab,zK9 Tryz.prog p.1 p.2:=by
 unfold xTab;simp only[forall_mem_cons]
 exact⟨⟨Tryz.call5,Tryz.func5⟩,⟨Tryz.call16,Tryz.func16⟩,⟨Tryz.call17,Tryz.func17⟩,⟨Tryz.call22,Tryz.func22⟩,⟨Tryz.call27,Tryz.func27⟩,⟨Tryz.call39,Tryz.func39⟩,⟨Tryz.call40,Tryz.func40⟩,⟨Tryz.call41,Tryz.func41⟩,⟨Tryz.call46,Tryz.func46⟩,⟨Tryz.call47,Tryz.func47⟩,⟨Tryz.call49,Tryz.func49⟩,⟨Tryz.call50,Tryz.func50⟩,⟨Tryz.call68,Tryz.func68⟩,⟨Tryz.call69,Tryz.func69⟩,⟨Tryz.call70,Tryz.func70⟩,⟨Tryz.call71,Tryz.func71⟩,⟨Tryz.call72,Tryz.func72⟩,⟨Tryz.call73,Tryz.func73⟩,⟨Tryz.call76,Tryz.func76⟩,⟨Tryz.call77,Tryz.func77⟩,⟨Tryz.call78,Tryz.func78⟩,⟨Tryz.call79,Tryz.func79⟩,⟨Tryz.call80,Tryz.func80⟩,⟨Tryz.call81,Tryz.func81⟩,⟨Tryz.call82,Tryz.func82⟩,⟨Tryz.call83,Tryz.func83⟩,⟨Tryz.call84,Tryz.func84⟩,⟨Tryz.call85,Tryz.func85⟩,⟨Tryz.call114,Tryz.func114⟩,⟨Tryz.call115,Tryz.func115⟩,⟨Tryz.call116,Tryz.func116⟩,⟨Tryz.call117,Tryz.func117⟩,⟨Tryz.call118,Tryz.func118⟩,⟨Tryz.call119,Tryz.func119⟩,⟨Tryz.call120,Tryz.func120⟩,⟨Tryz.call121,Tryz.func121⟩,⟨Tryz.call122,Tryz.func122⟩,⟨Tryz.call123,Tryz.func123⟩,⟨Tryz.call124,Tryz.func124⟩,⟨Tryz.call125,Tryz.func125⟩,⟨Tryz.call126,Tryz.func126⟩,⟨Tryz.call127,Tryz.func127⟩,⟨Tryz.call128,Tryz.func128⟩,⟨Tryz.call129,Tryz.func129⟩,⟨Tryz.call130,Tryz.func130⟩,⟨Tryz.call131,Tryz.func131⟩,⟨Tryz.call136,Tryz.func136⟩,⟨Tryz.call137,Tryz.func137⟩,⟨Tryz.call138,Tryz.func138⟩,⟨Tryz.call139,Tryz.func139⟩,⟨Tryz.call140,Tryz.func140⟩,⟨Tryz.call141,Tryz.func141⟩,⟨Tryz.call142,Tryz.func142⟩,⟨Tryz.call143,Tryz.func143⟩,⟨Tryz.call144,Tryz.func144⟩,⟨Tryz.call145,Tryz.func145⟩,⟨Tryz.call146,Tryz.func146⟩,⟨Tryz.call163,Tryz.func163⟩,⟨Tryz.call164,Tryz.func164⟩,⟨Tryz.call165,Tryz.func165⟩,⟨Tryz.call166,Tryz.func166⟩,⟨Tryz.call167,Tryz.func167⟩,⟨Tryz.call168,Tryz.func168⟩,⟨Tryz.call169,Tryz.func169⟩,⟨Tryz.call172,Tryz.func172⟩,⟨Tryz.call173,Tryz.func173⟩,⟨Tryz.call174,Tryz.func174⟩,⟨Tryz.call175,Tryz.func175⟩,⟨Tryz.call176,Tryz.func176⟩,⟨Tryz.call177,Tryz.func177⟩,⟨Tryz.call187,Tryz.func187⟩,⟨Tryz.call188,Tryz.func188⟩,⟨Tryz.call189,Tryz.func189⟩,⟨Tryz.call190,Tryz.func190⟩,⟨Tryz.call191,Tryz.func191⟩,⟨Tryz.call192,Tryz.func192⟩,⟨Tryz.call193,Tryz.func193⟩,⟨Tryz.call194,Tryz.func194⟩,⟨Tryz.call195,Tryz.func195⟩,⟨Tryz.call196,Tryz.func196⟩,⟨Tryz.call197,Tryz.func197⟩,⟨Tryz.call205,Tryz.func205⟩,⟨Tryz.call206,Tryz.func206⟩,⟨Tryz.call207,Tryz.func207⟩,⟨Tryz.call170,Tryz.func170⟩,⟨Tryz.call171,Tryz.func171⟩,⟨Tryz.call214,Tryz.func214⟩,⟨Tryz.call215,Tryz.func215⟩,⟨Tryz.call216,Tryz.func216⟩,⟨Tryz.call222,Tryz.func222⟩,⟨Tryz.call223,Tryz.func223⟩,⟨Tryz.call224,Tryz.func224⟩,⟨Tryz.call225,Tryz.func225⟩,⟨Tryz.call226,Tryz.func226⟩,⟨Tryz.call228,Tryz.func228⟩,⟨Tryz.call208,Tryz.func208⟩,⟨Tryz.call209,Tryz.func209⟩,⟨Tryz.call210,Tryz.func210⟩,⟨Tryz.call211,Tryz.func211⟩,⟨Tryz.call212,Tryz.func212⟩,⟨Tryz.call213,Tryz.func213⟩,⟨Tryz.call231,Tryz.func231⟩,⟨Tryz.call232,Tryz.func232⟩,⟨Tryz.call233,Tryz.func233⟩,⟨Tryz.call235,Tryz.func235⟩,⟨Tryz.call237,Tryz.func237⟩,⟨Tryz.call238,Tryz.func238⟩,⟨Tryz.call239,Tryz.func239⟩,⟨Tryz.call240,Tryz.func240⟩,⟨Tryz.call241,Tryz.func241⟩,⟨Tryz.call243,Tryz.func243⟩,⟨Tryz.call28,Tryz.func28⟩,⟨Tryz.call244,Tryz.func244⟩,⟨Tryz.call245,Tryz.func245⟩,⟨Tryz.call246,Tryz.func246⟩,⟨Tryz.call247,Tryz.func247⟩,⟨Tryz.call248,Tryz.func248⟩,⟨Tryz.call249,Tryz.func249⟩,⟨Tryz.call250,Tryz.func250⟩,⟨Tryz.call113,Tryz.func113⟩,by simp⟩
noncomputable def xFn (g:Nat):Option Fi:=look? g xTab
def zQc:∀ g fi,xFn g=some fi->zK9 Tryz.prog g fi:=zAp (Q:=fun(g:Nat) (fi:Fi)=>zK9 Tryz.prog g fi) yC2
section
variable {R:List AV->List Ob->AV->List (Option Ob)->Prop}{f:Nat}{P:Program}
theorem PSound.extO  (hp:PSound P f (zD8 R)){h:List AV->List Ob->Option (AV×List (Option Ob))}
  (hk:∀ xs os x os',h xs os=some (x,os')->R xs os x os'):PSound P f (zDi fun xs os x os'=>h xs os=some (x,os')) :=
 ⟨hp.1,fun G w xs vs r _ _ _ _ hs=>hs.elim,fun R' hR'=>by
  obtain rfl:(fun xs os x os'=>h xs os=some (x,os'))=R' :=(by simpa [zDi] using hR');exact fun G w O xs vs os x os' h1 h2 h3 h4 h5 h6=>hp.2.2.1 R rfl G w O xs vs os x os' h1 h2 h3 h4 h5 (hk _ _ _ _ h6),fun R hR=>by cases hR⟩
variable {off:Nat}
def yB8 {D n:Nat}
  (hwalk:∀ (b:Nat) (w:World) (cur:Array Value),w.heap[b]? = some (.cells cur D (0,0))->cur.size=n->(cur[off]? = some (.pointer none)∨cur[off]? = some (.pointer (some ⟨b,off,none⟩))) ->
   Calls P f #[.pointer (some ⟨b,off,none⟩)] w fun e w'=>e = .returned (.tuple #[])/\Wrote b off (.pointer (some ⟨b,off,none⟩)) cur D w w') :
  OwnSound P f fun xs os x os'=>∃ cells p r,xs=[.op 0 off]/\os = .box D cells::r/\cells.length=n/\cells[off]? = some p/\(p = .s .np∨p = .op 0 off)/\x = .tup []/\os'=some (.box D (cells.set off (.op 0 off)))::r.map some:=by
 rintro G w O xs vs os x os' hlt hgl hv hxl hobs ⟨cells,p,r,rfl,rfl,hn,hoff,hp,rfl,rfl⟩;obtain⟨hob0,hl0⟩:=hobs.1 0 (.box D cells) rfl;obtain⟨b,e',cur,h1,h2,h3,h4,h5,h6,rfl⟩:=hob0;simp only[AVals,AVal]at hv;obtain⟨v,vs',rfl,⟨b',hb',rfl⟩,rfl⟩:=hv;have hbb:b'=b :=(by rw[h1]at hb'; simpa using hb'.symm);subst hbb;have hsz:cur.size=cells.length :=(by simpa using h5.length);have hin:off<cur.size :=(by rw[hsz]; exact(aa.1 hoff).1);have hcur:cur[off]? = some (.pointer none)∨cur[off]? = some (.pointer (some ⟨b',off,none⟩)):=by
  obtain⟨u,hu,hr⟩:=h5.get hoff;rw[aI]at hu;rw[hu];rcases hp with rfl | rfl
  ·simp only[AVal,Rep]at hr;exact .inl (by rw[hr])
  simp only[AVal]at hr;obtain⟨b2,hb2,hv2⟩:=hr;rw[h1]at hb2; cases hb2;exact .inr (by rw[hv2])
 refine(hwalk b' w cur h2 (hsz.trans hn) hcur).mono fun e2 w' ⟨he,hw⟩=>?_
 have hk:Keep G G w w':=zYd h3 hw.old;have hX:(zET P w O (Ob.box e' cells::r).length G 0).X b':=⟨0,Nat.succ_pos _,by rw[h1]; rfl⟩;have hpp:AVals G w' O (cells.set off (.op 0 off)) (cur.setIfInBounds off (.pointer (some ⟨b',off,none⟩))).toList:=by
  refine AVals.mk (by simp[hsz]) fun i x v hx hv=>?_
  rw[aI,bF]at hv;rw[br]at hx;split at hx
  ·rename_i hi;subst hi;split at hx
   ·cases hx;rw[if_pos rfl,if_pos hin]at hv;cases hv;simp only[AVal];exact⟨b',h1,rfl⟩
   cases hx
  rename_i hi;rw[if_neg hi]at hv;obtain⟨u,hu,hr⟩:=h5.get hx;rw[aI,hv]at hu; cases hu;exact hr.keep hk
 have hone:∀ u∈(cur.setIfInBounds off (.pointer (some ⟨b',off,none⟩))).toList,u.oneCell'=true:=fun u hu=>by
  obtain⟨i,hi⟩:=bp hu;rw[aI,bF]at hi;split at hi
  ·first | (cases hi; rfl) | (split at hi <;> first | (cases hi; rfl) | cases hi)
  exact h6 u (av (by rw[aI]; exact hi))
 have hltc:∀ {m:Nat},0<m->AV.ltAll m cells=true->AV.ltAll m (cells.set off (.op 0 off))=true:=fun hm hl=>by
  refine zCB fun q y hq=>?_
  rw[br]at hq;split at hq
  ·split at hq
   ·cases hq; simpa [AV.lt] using hm
   cases hq
  exact zA7 hl hq
 have len:(some (Ob.box e' (cells.set off (.op 0 off)))::r.map some).length=(Ob.box e' cells::r).length :=(by simp);have was:∀ (i:Nat) ob,(some (Ob.box e' (cells.set off (.op 0 off)))::r.map some)[i]? = some (some ob)->∃ ob0,((Ob.box e' cells::r).map some)[i]? = some (some ob0):=fun i ob h=>by
  cases i with
  | zero=>exact⟨_,rfl⟩
  | succ i=>exact⟨ob,by simpa using h⟩
 refine⟨.tuple #[],G,O,he,⟨hw.os,hw.tape,hw.output,by rw[hw.size]; exact ar _,fun i hi hx=>hw.old i fun e=>hx (e ▸ hX)⟩,fun _ h=>h,fun _ h=>.inl h,fun i hi=>by rw[hw.size]; exact hlt i hi,
  by simp only[AVal,AVals]; exact⟨[],rfl,rfl⟩,rfl,by rw[len]; exact ar _,⟨fun i ob hi=>?_,fun i j ob ob' hi hj hne=>?_⟩,fun i ob hi ho=>rfl⟩
 ·rw[len];cases i with
  | zero =>
   cases hi;refine⟨⟨b',_,_,h1,hw.new,h3,h4,hpp,hone,rfl⟩,?_⟩;rw[az]at hl0;exact hltc (by simp) (by simpa [Ob.lt] using hl0)
  | succ i=>have hi':((Ob.box e' cells::r).map some)[i+1]? = some (some ob) :=(by simpa using hi);obtain⟨q1,q2⟩:=hobs.1 (i+1) ob hi';rw[az]at q2;exact⟨q1.turn hk (fun b hb=>hw.old b fun e=>hobs.2 0 (i+1) (.box e' cells) ob rfl hi' (by omega) b' (by rw[h1]; rfl) (e ▸ hb)) (fun b hb=>(row_block q1 b hb).2),q2⟩
 obtain⟨o1,k1⟩:=was i ob hi;obtain⟨o2,k2⟩:=was j ob' hj;exact hobs.2 i j o1 o2 k1 k2 hne
def extB (D off n:Nat) (xs:List AV) (os:List Ob):Option (AV×List (Option Ob)) :=
 match xs,os with
 | [.op 0 o],.box D' cells::r=>match Nat.beq o off,Nat.beq D' D,Nat.beq cells.length n,cells[off]? with
  | true,true,true,some (.s .np)=>some (.tup [],some (.box D (cells.set off (.op 0 off)))::r.map some)
  | true,true,true,some (.op 0 o')=>match Nat.beq o' off with
   | true=>some (.tup [],some (.box D (cells.set off (.op 0 off)))::r.map some)
   | false=>none
  | _,_,_,_=>none
 | _,_=>none
def zPy {D n:Nat} (hcall:∀ args w,(callFunc f args).run P w = .ok (.enter f args) w)
  (hwalk:∀ (b:Nat) (w:World) (cur:Array Value),w.heap[b]? = some (.cells cur D (0,0))->cur.size=n->(cur[off]? = some (.pointer none)∨cur[off]? = some (.pointer (some ⟨b,off,none⟩))) ->
   Calls P f #[.pointer (some ⟨b,off,none⟩)] w fun e w'=>e = .returned (.tuple #[])/\Wrote b off (.pointer (some ⟨b,off,none⟩)) cur D w w'):PSound P f (zDi fun xs os x os'=>extB D off n xs os=some (x,os')):=by
 refine PSound.extO (h:=extB D off n) (PSound.ofOwn hcall (yB8 hwalk)) fun xs os x os' h=>?_
 unfold extB at h;split at h
 ·split at h
  ·rename_i e1 e2 e3 e4;obtain rfl:=ab e1;obtain rfl:=ab e2;cases h;exact⟨_,_,_,rfl,rfl,ab e3,e4,.inl rfl,rfl,rfl⟩
  ·rename_i e1 e2 e3 e4;split at h
   ·rename_i e5;obtain rfl:=ab e1;obtain rfl:=ab e2;obtain rfl:=ab e5;cases h;exact⟨_,_,_,rfl,rfl,ab e3,e4,.inr rfl,rfl,rfl⟩
   cases h
  cases h
 cases h
def orX (f g:ExtF):ExtF:=fun xs os=>match f xs os with | some r=>some r | none=>g xs os
theorem yDR {k:Nat}{f g:ExtF} (h1:zQI P k f) (h2:zQI P k g):zQI P k (orX f g) :=
 ⟨h1.1,fun G w xs vs r _ _ _ _ hs=>hs.elim,fun R' hR'=>by
  obtain rfl:(fun xs os x os'=>orX f g xs os=some (x,os'))=R' :=(by simpa [zDi] using hR');intro G w O xs vs os x os' k1 k2 k3 k4 k5 k6;unfold orX at k6;split at k6
  ·rename_i r hr
   cases k6;exact h1.2.2.1 _ rfl G w O xs vs os x os' k1 k2 k3 k4 k5 hr
  ·exact h2.2.2.1 _ rfl G w O xs vs os x os' k1 k2 k3 k4 k5 k6,fun R hR=>by cases hR⟩
theorem OwnSound.evl  (hcall:∀ args w,(callFunc f args).run P w = .ok (.enter f args) w) (hp:OwnSound P f R){xs:List AV}{os:List Ob}{x:AV}{os':List (Option Ob)} (h:R xs os x os'):Evl P f xs os x os' :=
 ⟨hcall,fun G w xs vs r _ _ _ _ hs=>hs.elim,fun R' hR'=>by
  obtain rfl:(fun a b c d=>a=xs/\b=os/\c=x/\d=os')=R' :=(by simpa [zDi] using hR');rintro G w O xs' vs os2 y os3 k1 k2 k3 k4 k5 ⟨rfl,rfl,rfl,rfl⟩
  exact hp G w O _ vs _ _ _ k1 k2 k3 k4 k5 h,fun R hR=>by cases hR⟩
end
def zEj (s p:List UInt8):Option Int:=req (p.length=1) <| some (Lib.indexByte s (p.headD 0))
def zEK (s p:List UInt8):Option Bool:=req (p.length=1) <| some (decide (0<=Lib.indexByte s (p.headD 0)))
def zCd (s:List UInt8) (c:Int):Option Int:=some (Lib.indexByte s c.toNat.toUInt8)
def zEi (n:Int):Option (List Nd):=req (0<=n/\n<=1073741824) (some [])
def zDY (l:List Nd):Option (List Nd):=req (l.length<=4294967296) (some l)
def zBC (l:List Int):Option (List Int):=req (l.length<=4294967296) (some l)
end Go.Proofs.YtbfnjnljboncgaaGreat
