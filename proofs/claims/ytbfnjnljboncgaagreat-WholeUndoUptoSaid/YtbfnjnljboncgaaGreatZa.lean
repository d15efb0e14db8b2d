/-
  Joined out of: AbsA, AbsZ, AbsB, AbsC, AbsD, AbsE, AbsF, AbsG, AbsH, AbsI.
-/
import Derived.Tactics
import Derived.Orders
import Derived.Still
import Derived.Laws.AppendOwn
import Derived.Laws.Cells
import Derived.Laws.Strings
import Derived.Deep.AppendSrc
import Derived.Laws.StructEq
import Derived.Lib.Builder
open List
open Go.IntKind (i16 i32 i64 i8 u16 u32 u64 u8)
set_option linter.unusedVariables false
set_option linter.defProp false
set_option linter.unusedSimpArgs false
set_option maxHeartbeats 2000000
set_option maxRecDepth 100000
namespace Go.Proofs.YtbfnjnljboncgaaGreat
section
def aa:=@List.getElem?_eq_some_iff
def ab:=@Nat.eq_of_beq_eq_true
def ac:=@List.getElem?_eq_getElem
def ae:=@cond_false
def af:=@Bool.and_eq_true
def ag:=@cond_true
def ah:=@length_cons
def aj:=@Nat.le_of_ble_eq_true
def ak:=@mem_cons_self
def am:=@length_append
def an:=@length_nil
def ao:=@List.getElem?_map
def ap:=@Prod.mk.inj
def ar:=@Nat.le_refl
def au:=@Int.toNat_natCast
def av:=@mem_of_getElem?
def aw:=@beq_eq_false_iff_ne
def ax:=@Nat.lt_succ_self
def ay:=@decide_eq_true_eq
def az:=@length_map
def aA:=@List.getElem?_append
def aB:=@Bool.not_true
def aC:=@Option.some.injEq
def aD:=@List.mem_singleton
def aE:=@eq_of_beq
def aF:=@Option.getD_some
def aG:=@mem_cons_of_mem
def aH:=@Option.map_eq_some_iff
def aI:=@Array.getElem?_toList
def aJ:=@Array.getElem?_eq_some_iff
def aK:=@Int.ofNat_lt
def aL:=@getD_eq_getElem?_getD
def aM:=@Int.eq_ofNat_of_zero_le
def aN:=@List.mem_append
def aO:=@drop_eq_getElem_cons
def aP:=@decide_eq_true
def aQ:=@Nat.zero_le
def aR:=@List.mem_cons
def aS:=@Nat.beq_refl
def aT:=@List.length_eq_one_iff
def aU:=@List.getElem?_take
def aV:=@getElem_mem
def aW:=@decide_eq_false
def aX:=@append_assoc
def aY:=@of_decide_eq_true
def aZ:=@beq_self_eq_true
def a8:=@Nat.zero_add
def a9:=@Nat.lt_of_lt_of_le
def ba:=@map_cons
def bc:=@Nat.le_trans
def be:=@List.mem_map
def bf:=@Bool.not_false
def bg:=@length_take
def bh:=@Nat.mul_le_mul_right
def bi:=@Int.ofNat_le
def bj:=@cons_append
def bk:=@Nat.le_of_eq
def bn:=@map_append
def bo:=@List.all_eq_true
def bp:=@List.getElem?_of_mem
def bq:=@Nat.add_mul
def br:=@List.getElem?_set
def bs:=@append_nil
def bu:=@Option.map_some
def bv:=@Bool.or_eq_true
def bw:=@Nat.le_succ
def bz:=@Nat.add_zero
def bA:=@length_drop
def bB:=@List.drop_eq_nil_iff
def bC:=@Array.ext'
def bD:=@beq_iff_eq
def bE:=@nil_append
def bF:=@Array.getElem?_setIfInBounds
def bG:=@World.size_alloc
def bH:=@List.getElem?_append_left
def bI:=@List.getElem?_append_right
def bJ:=@Array.size_setIfInBounds
def bK:=@Nat.sub_self
def bL:=@Bool.false_eq_true
inductive S where
 | int (k:IntKind) (n:Int)
 | bool (b:Bool)
 | str (s:List UInt8)
 | sl (sz:Nat) (rows:List (List S))
 | np
 | pt (row:List S)
 | fn (f:Nat)
 | nf
 | nm
 deriving Inhabited
mutual
def Rep (G:Nat->Prop) (w:World):S->Value->Prop
 | .int k n,v=>v = .int k n
 | .bool b,v=>v = .bool b
 | .str s,v=>v = .string ⟨s.toArray⟩
 | .sl sz rows,v=>(rows=[]/\∃ o c,v = .slice o 0 c) ∨
   ∃ b off cap,v = .slice (some ⟨b,off,none⟩) rows.length cap/\rows.length<=cap/\RepRows G w sz b rows off
 | .np,v=>v = .pointer none
 | .pt row,v=>∃ b off,v = .pointer (some ⟨b,off,none⟩)/\RepRow G w b row off
 | .fn f,v=>v = .func (.func f) #[] #[]
 | .nf,v=>v = .nilFunc
 | .nm,v=>v = .map none
def RepRow (G:Nat->Prop) (w:World) (b:Nat):List S->Nat->Prop
 | [],_=>True
 | s::r,off=>G b/\(∃ v,w.cell? ⟨b,off,none⟩=some v/\Rep G w s v)/\RepRow G w b r (off+1)
def RepRows (G:Nat->Prop) (w:World) (sz b:Nat):List (List S)->Nat->Prop
 | [],_=>True
 | r::rs,off=>r.length=sz/\RepRow G w b r off/\RepRows G w sz b rs (off+sz)
end
structure Keep (G G':Nat->Prop) (w w':World):Prop where
 sub:∀ b,G b->G' b
 same:∀ b,G b->w'.heap[b]? = w.heap[b]?
variable {w:World}
def cell?_of_heap {w':World}{a:Addr} (h:w'.heap[a.block]? = w.heap[a.block]?):w'.cell? a=w.cell? a:=by
 unfold World.cell?; rw[h]
mutual
def Rep.keep {G G':Nat->Prop}{w w':World} (k:Keep G G' w w'):∀ {s:S}{v:Value},Rep G w s v->Rep G' w' s v
 | .int ..,_,h=>h
 | .bool _,_,h=>h
 | .str _,_,h=>h
 | .np,_,h=>h
 | .fn _,_,h=>h
 | .nf,_,h=>h
 | .nm,_,h=>h
 | .sl sz rows,v,h=>by
  simp only[Rep]at h ⊢
  rcases h with h | ⟨b,off,cap,h1,h2,h3⟩
  ·exact .inl h
  ·exact .inr ⟨b,off,cap,h1,h2,RepRows.keep k h3⟩
 | .pt row,v,h=>by
  simp only[Rep]at h ⊢
  obtain⟨b,off,h1,h2⟩:=h
  exact⟨b,off,h1,RepRow.keep k h2⟩
def RepRow.keep {G G':Nat->Prop}{w w':World} (k:Keep G G' w w'){b:Nat}:∀ {r:List S}{off:Nat},RepRow G w b r off->RepRow G' w' b r off
 | [],_,_=>trivial
 | s::r,off,h=>by
  simp only[RepRow]at h ⊢
  obtain⟨h1,⟨v,h2,h3⟩,h4⟩:=h
  exact⟨k.sub b h1,⟨v,by rw[cell?_of_heap (k.same b h1)]; exact h2,Rep.keep k h3⟩,RepRow.keep k h4⟩
def RepRows.keep {G G':Nat->Prop}{w w':World} (k:Keep G G' w w'){sz b:Nat}:∀ {r:List (List S)}{off:Nat},RepRows G w sz b r off->RepRows G' w' sz b r off
 | [],_,_=>trivial
 | r::rs,off,h=>by
  simp only[RepRows]at h ⊢
  exact⟨h.1,RepRow.keep k h.2.1,RepRows.keep k h.2.2⟩
end
def RepRow.get {G:Nat->Prop}{w:World}{b:Nat}:∀ {r:List S}{off i:Nat}{s:S},RepRow G w b r off->r[i]? = some s ->
  G b/\∃ v,w.cell? ⟨b,off+i,none⟩=some v/\Rep G w s v
 | [],_,_,_,_,h=>by simp at h
 | x::r,off,0,s,h,hi=>by
  simp only[RepRow]at h; simp at hi; subst hi; exact⟨h.1,h.2.1⟩
 | x::r,off,i+1,s,h,hi=>by
  simp only[RepRow]at h;have:=RepRow.get (i:=i) h.2.2 (by simpa using hi);rw[show off+(i+1)=off+1+i by omega]; exact this
def RepRow.mk {G:Nat->Prop}{w:World}{b:Nat}:∀ {r:List S}{off:Nat},(∀ i s,r[i]? = some s->G b/\∃ v,w.cell? ⟨b,off+i,none⟩=some v/\Rep G w s v)->RepRow G w b r off
 | [],_,_=>trivial
 | x::r,off,h=>by
  simp only[RepRow];obtain⟨h1,h2⟩:=h 0 x (by simp);refine⟨h1,by simpa using h2,RepRow.mk fun i s hi=>?_⟩;have:=h (i+1) s (by simpa using hi);rwa [show off+(i+1)=off+1+i by omega]at this
variable {b off:Nat}{r:List S}{G:Nat->Prop}
def RepRow.drop  (h:RepRow G w b r off) (n:Nat):RepRow G w b (r.drop n) (off+n) :=
 RepRow.mk fun i s hi=>by
  rw[List.getElem?_drop]at hi;have:=h.get hi;rwa [show off+n+i=off+(n+i) by omega]
def RepRow.take  (h:RepRow G w b r off) (n:Nat):RepRow G w b (r.take n) off :=
 RepRow.mk fun i s hi=>by
  rw[aU]at hi;split at hi
  ·exact h.get hi
  ·cases hi
def RepRows.get {G:Nat->Prop}{w:World}{sz b:Nat}:∀ {rs:List (List S)}{off i:Nat}{r:List S},RepRows G w sz b rs off->rs[i]? = some r ->
  r.length=sz/\RepRow G w b r (off+i * sz)
 | [],_,_,_,_,h=>by simp at h
 | x::rs,off,0,r,h,hi=>by
  simp only[RepRows]at h; simp at hi; subst hi; exact⟨h.1,by simpa using h.2.1⟩
 | x::rs,off,i+1,r,h,hi=>by
  simp only[RepRows]at h;have:=RepRows.get (i:=i) h.2.2 (by simpa using hi);rw[Nat.succ_mul,show off+(i * sz+sz)=off+sz+i * sz by omega]; exact this
def RepRows.mk {G:Nat->Prop}{w:World}{sz b:Nat}:∀ {rs:List (List S)}{off:Nat},(∀ i r,rs[i]? = some r->r.length=sz/\RepRow G w b r (off+i * sz))->RepRows G w sz b rs off
 | [],_,_=>trivial
 | x::rs,off,h=>by
  simp only[RepRows];obtain⟨h1,h2⟩:=h 0 x (by simp);refine⟨h1,by simpa using h2,RepRows.mk fun i r hi=>?_⟩;have:=h (i+1) r (by simpa using hi);rwa [Nat.succ_mul,show off+(i * sz+sz)=off+sz+i * sz by omega]at this
variable {rs:List (List S)}{sz:Nat}
def RepRows.drop  (h:RepRows G w sz b rs off) (n:Nat):RepRows G w sz b (rs.drop n) (off+n * sz) :=
 RepRows.mk fun i r hi=>by
  rw[List.getElem?_drop]at hi;have:=h.get hi;rwa [Nat.add_assoc,← bq]
def RepRows.take  (h:RepRows G w sz b rs off) (n:Nat):RepRows G w sz b (rs.take n) off :=
 RepRows.mk fun i r hi=>by
  rw[aU]at hi;split at hi
  ·exact h.get hi
  ·cases hi
variable {v:Value}
theorem Rep.one {s:S} (h:Rep G w s v):v.oneCell'=true:=by
 cases s <;> simp only[Rep]at h
 case sl =>
  rcases h with ⟨_,o,c,rfl⟩ | ⟨b,off,cap,rfl,_⟩ <;> rfl
 case pt=>obtain⟨b,off,rfl,_⟩:=h; rfl
 all_goals subst h; rfl
inductive AV where
 | s (x:S)
 | nl (sz:Nat)
 | agg (xs:List AV)
 | tup (xs:List AV)
 | op (k off:Nat)
 | orow (k:Nat)
 | rp (k sz i off:Nat)
 | mref (k:Nat)
 | clo (f:Nat) (caps:List AV)
 | junk
 deriving Inhabited
inductive Tag where
 | map (keys:List (List UInt8))
 | iter (since:Nat) (seen:List Nat) (stepped:Nat)
 deriving Inhabited
inductive Ob where
 | box (t:Nat) (cells:List AV)
 | row (e sz:Nat) (rows:List (List S))
 | arow (e sz:Nat) (rows:List (List AV))
 | any (τ:Tag) (xs:List AV)
 deriving Inhabited
def blk:Value->Option Nat
 | .pointer (some a)=>some a.block
 | .slice (some a) _ _=>some a.block
 | .map (some b)=>some b
 | _=>none
def zCH:Nat->List (List UInt8)->List Value->List MapEntry
 | n,k::ks,v::vs=>{ key:=.string ⟨k.toArray⟩,val:=v,born:=n }::zCH (n+1) ks vs
 | _,_,_=>[]
def Tag.ok:Tag->List Value->Value->Obj->Prop
 | .map keys,vs,v,o=>(∃ b,v = .map (some b))/\o = .map (zCH 0 keys vs).toArray keys.length/\keys.length=vs.length/\∀ u∈vs,u.oneCell'=true
 | .iter since seen stepped,vs,v,o=>(∃ b,v = .pointer (some ⟨b,0,none⟩))/\∃ bm,vs=[.map (some bm)]/\o = .mapIter (some bm) since seen.toArray stepped
def cloM (m f:Nat) (vs:List Value):Value:=match Nat.ble m f with
 | false=>.func (.func f) #[] vs.toArray
 | true=>.func (.func (f - m)) vs.toArray #[]
def zZY (m f:Nat) (vs:List Value):cloM m (f+m) vs = .func (.func f) vs.toArray #[]:=by
 unfold cloM;rw[Nat.ble_eq_true_of_le (Nat.le_add_left m f),Nat.add_sub_cancel]
def zVk (m f:Nat) (vs:List Value):(cloM m f vs).oneCell'=true/\∃ a b,cloM m f vs = .func (.func (bif Nat.ble m f then f - m else f)) a b:=by
 unfold cloM;cases Nat.ble m f <;> exact⟨rfl,_,_,rfl⟩
def cloV (f:Nat) (vs:List Value):Value:=cloM 1048576 f vs
def zZZ (f:Nat) (vs:List Value):(cloV f vs).oneCell'=true:=(zVk _ f vs).1
def yCd (f:Nat) (vs:List Value):∃ g a b,cloV f vs = .func (.func g) a b:=⟨_,(zVk _ f vs).2⟩
def zWv (f:Nat) (vs:List Value):cloV (f+1048576) vs = .func (.func f) vs.toArray #[]:=zZY _ f vs
variable {vs:List Value}
def zVl {f:Nat} (h:Nat.ble 1048576 f=false):cloV f vs = .func (.func f) #[] vs.toArray:=by
 unfold cloV cloM; rw[h]
def yBu {f:Nat} (h:Nat.ble 1048576 f=true):cloV f vs = .func (.func (f - 1048576)) vs.toArray #[]:=by
 unfold cloV cloM; rw[h]
mutual
def AVal (G:Nat->Prop) (w:World) (O:Nat->Value):AV->Value->Prop
 | .s x,v=>Rep G w x v
 | .nl _,v=>v = .slice none 0 0
 | .agg xs,v=>∃ vs:List Value,v = .agg vs.toArray/\AVals G w O xs vs
 | .tup xs,v=>∃ vs:List Value,v = .tuple vs.toArray/\AVals G w O xs vs
 | .op k off,v=>∃ b,O k = .pointer (some ⟨b,0,none⟩)/\v = .pointer (some ⟨b,off,none⟩)
 | .orow k,v=>v=O k/\∃ o n c,v = .slice o n c
 | .rp k sz i off,v=>∃ b n c,O k = .slice (some ⟨b,0,none⟩) n c/\v = .pointer (some ⟨b,i * sz+off,none⟩)
 | .mref k,v=>v=O k/\v.oneCell'=true
 | .clo f caps,v=>∃ vs:List Value,v=cloV f vs/\AVals G w O caps vs
 | .junk,_=>True
def AVals (G:Nat->Prop) (w:World) (O:Nat->Value):List AV->List Value->Prop
 | [],vs=>vs=[]
 | x::xs,vs=>∃ v vs',vs=v::vs'/\AVal G w O x v/\AVals G w O xs vs'
end
mutual
def AVal.keep {G G':Nat->Prop}{w w':World}{O:Nat->Value} (k:Keep G G' w w'):∀ {x:AV}{v:Value},AVal G w O x v->AVal G' w' O x v
 | .s x,v,h=>by simp only[AVal]at h ⊢; exact Rep.keep k h
 | .nl _,v,h=>by simp only[AVal]at h ⊢; exact h
 | .agg xs,v,h=>by
  simp only[AVal]at h ⊢
  obtain⟨vs,h1,h2⟩:=h
  exact⟨vs,h1,AVals.keep k h2⟩
 | .tup xs,v,h=>by
  simp only[AVal]at h ⊢
  obtain⟨vs,h1,h2⟩:=h
  exact⟨vs,h1,AVals.keep k h2⟩
 | .clo f xs,v,h=>by
  simp only[AVal]at h ⊢
  obtain⟨vs,h1,h2⟩:=h
  exact⟨vs,h1,AVals.keep k h2⟩
 | .op ..,v,h=>by simp only[AVal]at h ⊢; exact h
 | .orow _,v,h=>by simp only[AVal]at h ⊢; exact h
 | .rp ..,v,h=>by simp only[AVal]at h ⊢; exact h
 | .mref _,v,h=>by simp only[AVal]at h ⊢; exact h
 | .junk,_,_=>by simp only[AVal]
def AVals.keep {G G':Nat->Prop}{w w':World}{O:Nat->Value} (k:Keep G G' w w'):∀ {xs:List AV}{vs:List Value},AVals G w O xs vs->AVals G' w' O xs vs
 | [],_,h=>by simp only[AVals]at h ⊢; exact h
 | x::xs,vs,h=>by
  simp only[AVals]at h ⊢
  obtain⟨v,vs',h1,h2,h3⟩:=h
  exact⟨v,vs',h1,AVal.keep k h2,AVals.keep k h3⟩
end
def AVals.length {G:Nat->Prop}{w:World}{O:Nat->Value}:∀ {xs:List AV}{vs:List Value},AVals G w O xs vs->vs.length=xs.length
 | [],_,h=>by simp only[AVals]at h; simp[h]
 | x::xs,vs,h=>by
  simp only[AVals]at h;obtain⟨v,vs',rfl,_,h3⟩:=h;simp[AVals.length h3]
def AVals.get {G:Nat->Prop}{w:World}{O:Nat->Value}:∀ {xs:List AV}{vs:List Value},AVals G w O xs vs->∀ {i:Nat}{x:AV},xs[i]? = some x->∃ v,vs[i]? = some v/\AVal G w O x v
 | [],_,_,_,_,h=>by simp at h
 | y::xs,vs,h,0,x,hi=>by
  simp only[AVals]at h;obtain⟨v,vs',rfl,h2,_⟩:=h;simp at hi; subst hi; exact⟨v,by simp,h2⟩
 | y::xs,vs,h,i+1,x,hi=>by
  simp only[AVals]at h;obtain⟨v,vs',rfl,_,h3⟩:=h;simpa using AVals.get h3 (i:=i) (by simpa using hi)
def AVals.mk {G:Nat->Prop}{w:World}{O:Nat->Value}:∀ {xs:List AV}{vs:List Value},vs.length=xs.length->(∀ (i:Nat) x v,xs[i]? = some x->vs[i]? = some v->AVal G w O x v)->AVals G w O xs vs
 | [],vs,hl,_=>by simp only[AVals]; simpa using hl
 | x::xs,[],hl,_=>by simp at hl
 | x::xs,v::vs,hl,h=>by
  simp only[AVals];exact⟨v,vs,rfl,h 0 x v (by simp) (by simp),AVals.mk (by simpa using hl) fun i x v h1 h2=>h (i+1) x v (by simpa using h1) (by simpa using h2)⟩
mutual
def AV.pers:AV->Bool
 | .s _=>true
 | .nl _=>true
 | .agg xs=>AV.persAll xs
 | .tup xs=>AV.persAll xs
 | .clo _ xs=>AV.persAll xs
 | .junk=>true
 | _=>false
def AV.persAll:List AV->Bool
 | []=>true
 | x::xs=>x.pers&&AV.persAll xs
end
mutual
def AVal.pers {G:Nat->Prop}{w:World}{O O':Nat->Value}:∀ {x:AV}{v:Value},x.pers=true->AVal G w O x v->AVal G w O' x v
 | .s x,v,_,h=>by simp only[AVal]at h ⊢; exact h
 | .nl _,v,_,h=>by simp only[AVal]at h ⊢; exact h
 | .agg xs,v,hp,h=>by
  simp only[AVal]at h ⊢
  obtain⟨vs,h1,h2⟩:=h
  exact⟨vs,h1,AVals.pers (by simpa [AV.pers] using hp) h2⟩
 | .tup xs,v,hp,h=>by
  simp only[AVal]at h ⊢
  obtain⟨vs,h1,h2⟩:=h
  exact⟨vs,h1,AVals.pers (by simpa [AV.pers] using hp) h2⟩
 | .clo f xs,v,hp,h=>by
  simp only[AVal]at h ⊢
  obtain⟨vs,h1,h2⟩:=h
  exact⟨vs,h1,AVals.pers (by simpa [AV.pers] using hp) h2⟩
 | .op ..,v,hp,_=>by simp[AV.pers]at hp
 | .orow _,v,hp,_=>by simp[AV.pers]at hp
 | .rp ..,v,hp,_=>by simp[AV.pers]at hp
 | .mref _,v,hp,_=>by simp[AV.pers]at hp
 | .junk,_,_,_=>by simp only[AVal]
def AVals.pers {G:Nat->Prop}{w:World}{O O':Nat->Value}:∀ {xs:List AV}{vs:List Value},AV.persAll xs=true->AVals G w O xs vs->AVals G w O' xs vs
 | [],_,_,h=>by simp only[AVals]at h ⊢; exact h
 | x::xs,vs,hp,h=>by
  simp only[AVals]at h ⊢
  simp only[AV.persAll,af]at hp
  obtain⟨v,vs',h1,h2,h3⟩:=h
  exact⟨v,vs',h1,AVal.pers hp.1 h2,AVals.pers hp.2 h3⟩
end
def AV.one:AV->Bool
 | .agg _ | .tup _ | .junk=>false
 | _=>true
variable {O:Nat->Value}
theorem AVal.one {x:AV} (hx:x.one=true) (h:AVal G w O x v):v.oneCell'=true:=by
 cases x <;> simp only[AV.one,bL]at hx <;> simp only[AVal]at h
 case s=>exact h.one
 case nl=>subst h; rfl
 case op=>obtain⟨b,_,rfl⟩:=h; rfl
 case orow=>obtain⟨_,o,n,c,rfl⟩:=h; rfl
 case rp=>obtain⟨b,n,c,_,rfl⟩:=h; rfl
 case mref=>exact h.2
 case clo=>obtain⟨vs,rfl,_⟩:=h; exact zZZ _ _
def AVal.one_s {x:S} (h:AVal G w O (.s x) v):v.oneCell'=true:=AVal.one (by rfl) h
def yDD (_:Nat):Option (List S):=none
def yEH (_:Nat):Option (Array Value):=none
inductive TK where
 | bool | int (k:IntKind) | str | slice (e:Nat) | ptr (e:Nat) | struct (fs:List (Nat×Nat)) | arr (n e:Nat) | fn | mp (k e:Nat) | other
 deriving Inhabited
structure TI where
 k:TK
 size:Nat
 bytes:Nat
 zero:List S
 deriving Inhabited
def tkOf:TypeDesc->TK
 | .bool=>.bool
 | .int k=>.int k
 | .string=>.str
 | .slice e=>.slice e
 | .pointer e=>.ptr e
 | .struct fs=>.struct (fs.toList.map fun f=>(f.offset,f.type))
 | .array n e=>.arr n e
 | .func ..=>.fn
 | .map k e=>.mp k e
 | _=>.other
def S.zval:S->Value
 | .int k n=>.int k n
 | .bool b=>.bool b
 | .str s=>.string ⟨s.toArray⟩
 | .sl _ _=>.slice none 0 0
 | .np=>.pointer none
 | .pt _=>.pointer none
 | .fn f=>.func (.func f) #[] #[]
 | .nf=>.nilFunc
 | .nm=>.map none
def S.zok:S->Bool
 | .sl _ []=>true
 | .sl _ _=>false
 | .pt _=>false
 | _=>true
def S.zrep {G:Nat->Prop}{w:World}:∀ {s:S},s.zok=true->Rep G w s s.zval
 | .int ..,_=>by simp[Rep,S.zval]
 | .bool _,_=>by simp[Rep,S.zval]
 | .str _,_=>by simp[Rep,S.zval]
 | .sl _ [],_=>by simp[Rep,S.zval]
 | .sl _ (_::_),h=>by simp[S.zok]at h
 | .np,_=>by simp[Rep,S.zval]
 | .pt _,h=>by simp[S.zok]at h
 | .fn _,_=>by simp[Rep,S.zval]
 | .nf,_=>by simp[Rep,S.zval]
 | .nm,_=>by simp[Rep,S.zval]
def TK.agg:TK->Bool
 | .struct _ | .arr _ _=>true
 | _=>false
def TOk (P:Program) (T:Nat->Option TI):Prop :=
 ∀ t i,T t=some i->∃ d info z,P.underlying t=some d/\tkOf d=i.k/\P.info? t=some info/\info.size=i.size/\info.bytes=i.bytes /\
  info.zero=some z/\z=(if i.k.agg then .agg (i.zero.map S.zval).toArray else (i.zero.headD .np).zval)/\i.zero.length=i.size/\(i.k.agg=false->i.size=1)/\i.zero.all S.zok=true
section
variable {P:Program} {T:Nat->Option TI} (w:World)
variable {d:TypeDesc}{t:Nat}
def zAi  (h:P.underlying t=some d):(underlying t).run P w = .ok d w:=by simp[underlying,h]
variable {i:TypeInfo}
def zFT  (h:P.info? t=some i):(typeInfo t).run P w = .ok i w:=by simp[typeInfo,h]
def zAt  (h:P.info? t=some i):(sizeOf t).run P w = .ok i.size w:=by simp[sizeOf,zFT w h]
def zDV  (h:P.underlying t=some d):(isAgg t).run P w = .ok (tkOf d).agg w:=by
 simp only[isAgg,Sem.run_bind,zAi w h,Result.andThen_ok];cases d <;> rfl
def zHn {z:Value} (h:P.info? t=some i) (hz:i.zero=some z):(zeroValue t).run P w = .ok z w:=by
 simp[zeroValue,zFT w h,hz]
end
structure Cx where
 P:Program
 w0:World
 X:Nat->Prop
 G0:Nat->Prop
 N:Nat
 n0:Nat:=0
 B0:Nat->Value:=fun _=>.tuple #[]
 ro:Option Nat:=none
 ds:List Deferred:=[]
def Cx.mine (c:Cx) (b:Nat):Prop:=c.X b∨c.w0.heap.size<=b
structure St where
 env:Nat->AV
 hp:Nat->Option Ob
 nx:Nat
def St.put (V:St) (d:Option Nat) (x:AV):St :=
 match d with
 | none=>V
 | some d=>{ V with env:=fun t=>bif Nat.beq t d then x else V.env t }
mutual
def AV.lt (n:Nat):AV->Bool
 | .op k _=>decide (k<n)
 | .orow k=>decide (k<n)
 | .rp k _ _ _=>decide (k<n)
 | .mref k=>decide (k<n)
 | .agg xs=>AV.ltAll n xs
 | .tup xs=>AV.ltAll n xs
 | .clo _ xs=>AV.ltAll n xs
 | _=>true
def AV.ltAll (n:Nat):List AV->Bool
 | []=>true
 | x::xs=>x.lt n&&AV.ltAll n xs
end
mutual
def AV.lt_mono {n m:Nat} (h:n<=m):∀ {x:AV},x.lt n=true->x.lt m=true
 | .op ..,hx=>by simp only[AV.lt,ay]at *; omega
 | .orow _,hx=>by simp only[AV.lt,ay]at *; omega
 | .rp ..,hx=>by simp only[AV.lt,ay]at *; omega
 | .mref _,hx=>by simp only[AV.lt,ay]at *; omega
 | .agg xs,hx=>by simp only[AV.lt]at *; exact AV.ltAll_mono h hx
 | .tup xs,hx=>by simp only[AV.lt]at *; exact AV.ltAll_mono h hx
 | .clo _ xs,hx=>by simp only[AV.lt]at *; exact AV.ltAll_mono h hx
 | .s _,_=>by simp only[AV.lt]
 | .nl _,_=>by simp only[AV.lt]
 | .junk,_=>by simp only[AV.lt]
def AV.ltAll_mono {n m:Nat} (h:n<=m):∀ {xs:List AV},AV.ltAll n xs=true->AV.ltAll m xs=true
 | [],_=>by simp only[AV.ltAll]
 | x::xs,hx=>by
  simp only[AV.ltAll,af]at *
  exact⟨AV.lt_mono h hx.1,AV.ltAll_mono h hx.2⟩
end
mutual
def AVal.beta {G:Nat->Prop}{w:World}{O O':Nat->Value}{n:Nat} (hb:∀ k,k<n->O' k=O k):∀ {x:AV}{v:Value},x.lt n=true->AVal G w O x v->AVal G w O' x v
 | .s x,v,_,h=>by simp only[AVal]at h ⊢; exact h
 | .nl _,v,_,h=>by simp only[AVal]at h ⊢; exact h
 | .agg xs,v,hp,h=>by
  simp only[AVal]at h ⊢
  obtain⟨vs,h1,h2⟩:=h
  exact⟨vs,h1,AVals.beta hb (by simpa only[AV.lt] using hp) h2⟩
 | .tup xs,v,hp,h=>by
  simp only[AVal]at h ⊢
  obtain⟨vs,h1,h2⟩:=h
  exact⟨vs,h1,AVals.beta hb (by simpa only[AV.lt] using hp) h2⟩
 | .clo f xs,v,hp,h=>by
  simp only[AVal]at h ⊢
  obtain⟨vs,h1,h2⟩:=h
  exact⟨vs,h1,AVals.beta hb (by simpa only[AV.lt] using hp) h2⟩
 | .op k _,v,hp,h=>by simp only[AVal,AV.lt,ay]at *; rw[hb k hp]; exact h
 | .orow k,v,hp,h=>by simp only[AVal,AV.lt,ay]at *; rw[hb k hp]; exact h
 | .rp k _ _ _,v,hp,h=>by simp only[AVal,AV.lt,ay]at *; rw[hb k hp]; exact h
 | .mref k,v,hp,h=>by simp only[AVal,AV.lt,ay]at *; rw[hb k hp]; exact h
 | .junk,_,_,_=>by simp only[AVal]
def AVals.beta {G:Nat->Prop}{w:World}{O O':Nat->Value}{n:Nat} (hb:∀ k,k<n->O' k=O k):∀ {xs:List AV}{vs:List Value},AV.ltAll n xs=true->AVals G w O xs vs->AVals G w O' xs vs
 | [],_,_,h=>by simp only[AVals]at h ⊢; exact h
 | x::xs,vs,hp,h=>by
  simp only[AVals]at h ⊢
  simp only[AV.ltAll,af]at hp
  obtain⟨v,vs',h1,h2,h3⟩:=h
  exact⟨v,vs',h1,AVal.beta hb hp.1 h2,AVals.beta hb hp.2 h3⟩
end
def Ob.lt (n:Nat):Ob->Bool
 | .box _ cells=>AV.ltAll n cells
 | .row ..=>true
 | .arow _ _ rows=>AV.ltAll n rows.flatten
 | .any _ xs=>AV.ltAll n xs
def RowBlk (w:World) (b:Nat) (cur:Array Value) (e:Nat):Prop:=∃ m:Nat×Nat,(m=(0,0)∨m=(cur.size,cur.size+1))/\w.heap[b]? = some (.cells cur e m)
variable {b e:Nat}{cur:Array Value}{w:World}
def RowBlk.laid  (h:w.heap[b]? = some (.cells cur e (0,0))):RowBlk w b cur e:=⟨_,.inl rfl,h⟩
variable {w':World}
def RowBlk.to  (h:RowBlk w b cur e) (hh:∀ x,w.heap[b]? = some x->w'.heap[b]? = some x):RowBlk w' b cur e:=let ⟨m,h1,h2⟩:=h; ⟨m,h1,hh _ h2⟩
def RowBlk.lt  (h:RowBlk w b cur e):b<w.heap.size:=let ⟨_,_,h2⟩:=h; (aJ.1 h2).1
def RowBlk.frz {m:Nat×Nat} (h:w.heap[b]? = some (.cells cur e m)) (hm:m=(0,0)∨m=(cur.size,cur.size+1)){i:Nat} (hi:i<cur.size):w.frozen? ⟨b,i,none⟩=false:=by
 rcases hm with rfl | rfl <;> simp[World.frozen?,h]
 omega
def ObAt (c:Cx) (G:Nat->Prop) (w:World) (O:Nat->Value) (v:Value):Ob->Prop
 | .box t cells=>∃ b e cur,v = .pointer (some ⟨b,0,none⟩)/\w.heap[b]? = some (.cells cur e (0,0))/\¬ G b/\c.mine b /\
   AVals G w O cells cur.toList/\(∀ u∈cur.toList,u.oneCell'=true)/\e=t
 | .row e sz rows=>(∀ r∈rows,r.length=sz)/\0<sz /\
   ((v = .slice none 0 0/\rows=[])∨∃ b cap cur,v = .slice (some ⟨b,0,none⟩) rows.length cap/\rows.length<=cap/\cur.size=cap * sz /\
    RowBlk w b cur e/\¬ G b/\c.mine b/\∀ (i:Nat) s,rows.flatten[i]? = some s->∃ u,cur[i]? = some u/\Rep G w s u)
 | .arow e sz rows=>(∀ r∈rows,r.length=sz)/\0<sz /\
   ((v = .slice none 0 0/\rows=[])∨∃ b cap cur,v = .slice (some ⟨b,0,none⟩) rows.length cap/\rows.length<=cap/\cur.size=cap * sz /\
    RowBlk w b cur e/\¬ G b/\c.mine b/\∀ (i:Nat) x,rows.flatten[i]? = some x->∃ u,cur[i]? = some u/\AVal G w O x u/\u.oneCell'=true)
 | .any τ xs=>∃ b o vs,blk v=some b/\w.heap[b]? = some o/\¬ G b/\c.mine b/\AVals G w O xs vs/\τ.ok vs v o
def zIX {n:Nat}:∀ {l:List AV}{q:Nat}{y:AV},AV.ltAll n l=true->l[q]? = some y->y.lt n=true
 | [],_,_,_,h=>by simp at h
 | x::l,0,y,h,hq=>by simp only[AV.ltAll,af]at h; simp at hq; subst hq; exact h.1
 | x::l,q+1,y,h,hq=>by simp only[AV.ltAll,af]at h; exact zIX h.2 (by simpa using hq)
def zNT {n:Nat}:∀ {l:List AV},(∀ (q:Nat) (y:AV),l[q]? = some y->y.lt n=true)->AV.ltAll n l=true
 | [],_=>rfl
 | x::l,h=>by
  simp only[AV.ltAll,af];exact⟨h 0 x (by simp),zNT fun q y hq=>h (q+1) y (by simpa using hq)⟩
variable {v:Value}{O:Nat->Value}{G G':Nat->Prop}{c:Cx}
def ObAt.moveA {c':Cx}{O':Nat->Value}{sz:Nat}{rows:List (List AV)} (ho:ObAt c G w O v (.arow e sz rows))
  (hb:∀ b x,blk v=some b->w.heap[b]? = some x->w'.heap[b]? = some x) (hg:∀ b x,blk v=some b->w.heap[b]? = some x->¬ G b->¬ G' b) (hm:∀ b,blk v=some b->c.mine b->c'.mine b)
  (hA:∀ (i:Nat) x u,rows.flatten[i]? = some x->AVal G w O x u->AVal G' w' O' x u):ObAt c' G' w' O' v (.arow e sz rows):=by
 obtain⟨h0,h0',h1⟩:=ho;refine⟨h0,h0',h1.imp id ?_⟩;rintro⟨b,cap,cur,h1,h2,h3,⟨m,hmm,h4⟩,h5,h6,h7⟩;have hbv:blk v=some b :=(by rw[h1]; rfl);exact⟨b,cap,cur,h1,h2,h3,⟨m,hmm,hb b _ hbv h4⟩,hg b _ hbv h4 h5,hm b hbv h6,fun i x hi=>let ⟨u,hu,hr,h1⟩:=h7 i x hi; ⟨u,hu,hA i x u hi hr,h1⟩⟩
def GlobOk (G:Nat->Prop) (w:World):Prop:=(∀ g row,yDD g=some row->RepRow G w g row 0)/\∀ g cs,yEH g=some cs->G g/\∃ e f,w.heap[g]? = some (.cells cs e f)
def GlobOk.keep  (k:Keep G G' w w') (h:GlobOk G w):GlobOk G' w' :=
 ⟨fun g row hg=>RepRow.keep k (h.1 g row hg),fun g cs hg=>let ⟨h1,e,f,h2⟩:=h.2 g cs hg; ⟨k.sub g h1,e,f,(k.same g h1).trans h2⟩⟩
structure Fr (X:Nat->Prop) (w w':World):Prop where
 os:w'.os=w.os
 tape:w'.tape=w.tape
 output:w'.output=w.output
 size:w.heap.size<=w'.heap.size
 old:∀ b,b<w.heap.size->¬ X b->w'.heap[b]? = w.heap[b]?
def Fr.refl (X:Nat->Prop) (w:World):Fr X w w:=⟨rfl,rfl,rfl,ar _,fun _ _ _=>rfl⟩
def Fr.trans {X:Nat->Prop}{a b c:World} (h:Fr X a b) (k:Fr X b c):Fr X a c :=
 ⟨k.os.trans h.os,k.tape.trans h.tape,k.output.trans h.output,bc h.size k.size,fun i hi hx=>(k.old i (a9 hi h.size) hx).trans (h.old i hi hx)⟩
structure Conc (c:Cx) (G:Nat->Prop) (O:Nat->Value) (V:St) (a:Act) (w:World):Prop where
 defers:a.defers=c.ds
 size:a.tmps.size=c.N
 env:∀ t,AVal G w O (V.env t) (a.tmps.getD t undef)
 envlt:∀ t,(V.env t).lt V.nx=true
 hp:∀ k ob,V.hp k=some ob->ObAt c G w O (O k) ob
 hplt:∀ k ob,V.hp k=some ob->k<V.nx/\ob.lt V.nx=true
 inj:∀ k k' ob ob',V.hp k=some ob->V.hp k'=some ob'->k ≠ k'->∀ b,blk (O k)=some b->blk (O k') ≠ some b
 lt:∀ b,G b->b<w.heap.size
 sub:∀ b,c.G0 b->G b
 new:∀ b,G b->c.G0 b∨c.mine b
 fr:Fr c.X c.w0 w
 stay:c.n0<=V.nx/\∀ k,k<c.n0->O k=c.B0 k
 glob:GlobOk G w
structure Ext (G G':Nat->Prop) (w w':World):Prop where
 os:w'.os=w.os
 tape:w'.tape=w.tape
 output:w'.output=w.output
 size:w.heap.size<=w'.heap.size
 old:∀ b,b<w.heap.size->w'.heap[b]? = w.heap[b]?
 sub:∀ b,G b->G' b
 new:∀ b,G' b->G b∨w.heap.size<=b
 lt:∀ b,G' b->b<w'.heap.size
def Ext.refl  (h:∀ b,G b->b<w.heap.size):Ext G G w w :=
 ⟨rfl,rfl,rfl,ar _,fun _ _=>rfl,fun _ h=>h,fun _ h=>.inl h,h⟩
def Ext.trans {G'':Nat->Prop}{w'':World} (h:Ext G G' w w') (k:Ext G' G'' w' w''):Ext G G'' w w'' :=
 ⟨k.os.trans h.os,k.tape.trans h.tape,k.output.trans h.output,bc h.size k.size,
  fun b hb=>(k.old b (a9 hb h.size)).trans (h.old b hb),fun b hb=>k.sub b (h.sub b hb),
  fun b hb=>(k.new b hb).elim (fun h1=>h.new b h1) (fun h1=>.inr (bc h.size h1)),k.lt⟩
def Ext.keep  (h:Ext G G' w w') (hl:∀ b,G b->b<w.heap.size):Keep G G' w w' :=
 ⟨h.sub,fun b hb=>h.old b (hl b hb)⟩
def Ext.drew  (h:∀ b,G b->b<w.heap.size):Ext G G w w.drew :=
 ⟨rfl,rfl,rfl,ar _,fun _ _=>rfl,fun _ h=>h,fun _ h=>.inl h,h⟩
def zBV (w:World) (o:Obj) (h:b<w.heap.size):(w.alloc o).heap[b]? = w.heap[b]?:=by
 show(w.heap.push o)[b]? = _;rw[Array.getElem?_push,if_neg (by omega)]
def zCm (w:World) (o:Obj):(w.alloc o).heap[w.heap.size]? = some o:=by
 show(w.heap.push o)[w.heap.size]? = _;rw[Array.getElem?_push,if_pos rfl]
def Ext.alloc  (h:∀ b,G b->b<w.heap.size) (o:Obj):Ext G (fun b=>G b∨b=w.heap.size) w (w.alloc o) :=
 ⟨rfl,rfl,rfl,by simp,fun _ hb=>zBV w o hb,fun _ h=>.inl h,fun b hb=>hb.imp id (fun e=>by omega),fun b hb=>by
  rcases hb with hb | rfl
  ·have:=h b hb; simp; omega
  ·simp⟩
variable {ob:Ob}
def ObAt.ext  (hl:∀ b,G b->b<w.heap.size) (h:Ext G G' w w') (ho:ObAt c G w O v ob):ObAt c G' w' O v ob:=by
 have k:=h.keep hl;have hlt:∀ b x,w.heap[b]? = some x->b<w.heap.size:=fun b x hx=>(aJ.1 hx).1
 have hng:∀ b x,w.heap[b]? = some x->¬ G b->¬ G' b:=fun b x hx hg hg'=>(h.new b hg').elim hg (fun h1=>by have:=hlt b x hx; omega)
 cases ob with
 | box cells=>obtain⟨b,e,cur,h1,h2,h3,h4,h5,h6⟩:=ho;exact⟨b,e,cur,h1,by rw[h.old b (hlt _ _ h2)]; exact h2,hng b _ h2 h3,h4,h5.keep k,h6⟩
 | row e sz rows =>
  obtain⟨h0,h0',h1⟩:=ho;refine⟨h0,h0',h1.imp id ?_⟩;rintro⟨b,cap,cur,h1,h2,h3,⟨m,hmm,h4⟩,h5,h6,h7⟩;exact⟨b,cap,cur,h1,h2,h3,⟨m,hmm,by rw[h.old b (hlt _ _ h4)]; exact h4⟩,hng b _ h4 h5,h6,fun i s hi=>let ⟨u,hu,hr⟩:=h7 i s hi; ⟨u,hu,hr.keep k⟩⟩
 | arow e sz rows=>exact ho.moveA (fun b x _ hx=>by rw[h.old b (hlt _ _ hx)]; exact hx) (fun b x _ hx hg=>hng b x hx hg) (fun _ _ h=>h) (fun _ _ _ _ hr=>hr.keep k)
 | any τ xs=>obtain⟨b,o,vs,h1,h2,h3,h4,h5,h6⟩:=ho;exact⟨b,o,vs,h1,by rw[h.old b (hlt _ _ h2)]; exact h2,hng b _ h2 h3,h4,h5.keep k,h6⟩
variable {a:Act}{V:St}
def Conc.ext  (h:Conc c G O V a w) (he:Ext G G' w w'):Conc c G' O V a w' where
 defers:=h.defers
 size:=h.size
 env t:=(h.env t).keep (he.keep h.lt)
 envlt:=h.envlt
 hp k ob hk:=(h.hp k ob hk).ext h.lt he
 hplt:=h.hplt
 inj:=h.inj
 lt:=he.lt
 sub b hb:=he.sub b (h.sub b hb)
 new b hb:=(he.new b hb).elim (fun h1=>h.new b h1) (fun h1=>.inr (.inr (bc h.fr.size h1)))
 fr:=h.fr.trans ⟨he.os,he.tape,he.output,he.size,fun b hb _=>he.old b hb⟩
 stay:=h.stay
 glob:=h.glob.keep (he.keep h.lt)
def yAL (a:Act) (d:Option Nat) (v:Value):(a.put d v).tmps.size=a.tmps.size:=by cases d <;> simp[Act.put]
def put_defers (a:Act) (d:Option Nat) (v:Value):(a.put d v).defers=a.defers:=by cases d <;> simp[Act.put]
def Conc.put  (h:Conc c G O V a w){d:Option Nat}{x:AV}
  (hd:∀ t,d=some t->t<c.N) (hx:AVal G w O x v) (hl:x.lt V.nx=true):Conc c G O (V.put d x) (a.put d v) w:=by
 cases d with
 | none=>exact h
 | some d=>
 have hd':=hd d rfl;refine { h with defers:=(put_defers ..).trans h.defers,size:=(yAL ..).trans h.size,env:=fun t=>?_,envlt:=fun t=>?_ }
 ·simp only[St.put,Act.put];cases ht:Nat.beq t d with
  | true =>
   obtain rfl:t=d:=ab ht;simp only[ag,Array.getD_eq_getD_getElem?];rw[Array.getElem?_setIfInBounds_self_of_lt (by rw[h.size]; exact hd')];exact hx
  | false=>
  have hne:t ≠ d:=Nat.ne_of_beq_eq_false ht;simp only[ae,Array.getD_eq_getD_getElem?];rw[Array.getElem?_setIfInBounds_ne (Ne.symm hne)];have:=h.env t;simpa only[Array.getD_eq_getD_getElem?] using this
 simp only[St.put];cases Nat.beq t d with
 | true=>exact hl
 | false=>exact h.envlt t
def qF {P:Prop} (h:P:=by obtain⟨b,e,cur,h1,h2,h3,h4,h5,h6⟩:=hu;exact⟨b,e,cur,h1,h2,h3,h4,h5.beta hb (by simpa [Ob.lt] using hlt),h6⟩):P:=h
def qL {P:Prop} (h:P:=by obtain⟨b,o,vs,h1,h2,h3,h4,h5,h6⟩:=hu;exact⟨b,o,vs,h1,h2,h3,h4,h5.beta hb (by simpa [Ob.lt] using hlt),h6⟩):P:=h
def Conc.make  (h:Conc c G O V a w)
  (ho:ObAt c G w O v ob) (hl:ob.lt V.nx=true) (hn:∀ k ob',V.hp k=some ob'->∀ b,blk v=some b->blk (O k) ≠ some b) :
  ∃ O',(∀ k,k<V.nx->O' k=O k)/\O' V.nx=v /\
   Conc c G O' { V with hp:=fun k=>bif Nat.beq k V.nx then some ob else V.hp k,nx:=V.nx+1 } a w:=by
 refine⟨fun k=>if k=V.nx then v else O k,fun k hk=>if_neg (by omega),if_pos rfl,?_⟩;have hb:∀ k,k<V.nx->(fun k=>if k=V.nx then v else O k) k=O k:=fun k hk=>if_neg (by omega)
 have hob:∀ {u:Value} {o:Ob},o.lt V.nx=true->ObAt c G w O u o->ObAt c G w (fun k=>if k=V.nx then v else O k) u o:=fun {u o} hlt hu=>by
  cases o with
  | box cells=>exact qF
  | row e sz rows=>exact hu
  | arow e sz rows=>exact hu.moveA (fun _ _ _ h=>h) (fun _ _ _ _ h=>h) (fun _ _ h=>h) (fun i x u hx hr=>hr.beta hb (zIX (by simpa [Ob.lt] using hlt) hx))
  | any τ xs=>exact qL
 have hst:c.n0<=V.nx+1/\∀ k,k<c.n0->(if k=V.nx then v else O k)=c.B0 k:=by
  refine⟨Nat.le_succ_of_le h.stay.1,fun k hk=>?_⟩;have h1:=h.stay.1;rw[if_neg (by omega)];exact h.stay.2 k hk
 refine { h with env:=fun t=>(h.env t).beta hb (h.envlt t),envlt:=fun t=>AV.lt_mono (bw _) (h.envlt t),hp:=fun k ob' hk=>?_,hplt:=fun k ob' hk=>?_,inj:=?_,stay:=hst }
 ·dsimp only at hk ⊢;cases hkn:Nat.beq k V.nx with
  | true =>
   obtain rfl:k=V.nx:=ab hkn;rw[hkn,ag,aC]at hk;subst hk;rw[if_pos rfl];exact hob hl ho
  | false=>
  rw[hkn,ae]at hk;rw[if_neg (Nat.ne_of_beq_eq_false hkn)];exact hob (h.hplt k ob' hk).2 (h.hp k ob' hk)
 ·dsimp only at hk ⊢;cases hkn:Nat.beq k V.nx with
  | true =>
   obtain rfl:k=V.nx:=ab hkn;rw[hkn,ag,aC]at hk;subst hk;refine⟨ax _,?_⟩;cases ob with
   | box cells=>exact AV.ltAll_mono (bw _) (by simpa [Ob.lt] using hl)
   | row=>rfl
   | arow=>exact AV.ltAll_mono (bw _) (by simpa [Ob.lt] using hl)
   | any=>exact AV.ltAll_mono (bw _) (by simpa [Ob.lt] using hl)
  | false=>
  rw[hkn,ae]at hk;have:=h.hplt k ob' hk;refine⟨Nat.lt_succ_of_lt this.1,?_⟩;cases ob' with
  | box cells=>exact AV.ltAll_mono (bw _) (by simpa [Ob.lt] using this.2)
  | row=>rfl
  | arow=>exact AV.ltAll_mono (bw _) (by simpa [Ob.lt] using this.2)
  | any=>exact AV.ltAll_mono (bw _) (by simpa [Ob.lt] using this.2)
 intro k k' o o' hk hk' hne b hbk hbk';dsimp only at hk hk' hbk hbk';cases hkn:Nat.beq k V.nx with
 | true =>
  obtain rfl:k=V.nx:=ab hkn;have hk'n:Nat.beq k' V.nx=false:=by
   cases e:Nat.beq k' V.nx with
   | false=>rfl
   | true=>exact absurd (ab e).symm hne
  rw[hk'n,ae]at hk';rw[if_pos rfl]at hbk;rw[if_neg (Ne.symm hne)]at hbk';exact hn k' o' hk' b hbk hbk'
 | false=>
 rw[hkn,ae]at hk;rw[if_neg (Nat.ne_of_beq_eq_false hkn)]at hbk;cases hk'n:Nat.beq k' V.nx with
 | true=>obtain rfl:k'=V.nx:=ab hk'n;rw[if_pos rfl]at hbk';exact hn k o hk b hbk' hbk
 | false=>rw[hk'n,ae]at hk';rw[if_neg (Nat.ne_of_beq_eq_false hk'n)]at hbk';exact h.inj k k' o o' hk hk' hne b hbk hbk'
def Conc.drop  (h:Conc c G O V a w) (j:Nat) :
  Conc c G O { V with hp:=fun k=>bif Nat.beq k j then none else V.hp k } a w:=by
 have hk':∀ {k ob},(bif Nat.beq k j then none else V.hp k)=some ob->V.hp k=some ob:=fun {k ob} hk=>by
  cases e:Nat.beq k j with
  | true=>rw[e,ag]at hk; cases hk
  | false=>rw[e,ae]at hk; exact hk
 exact { h with hp:=fun k ob hk=>h.hp k ob (hk' hk),hplt:=fun k ob hk=>h.hplt k ob (hk' hk),inj:=fun k k2 o o2 h1 h2=>h.inj k k2 o o2 (hk' h1) (hk' h2) }
def Conc.write  (h:Conc c G O V a w){j:Nat}{ob':Ob} (hj:V.hp j=some ob)
  {b:Nat} (hb:blk (O j)=some b) (hg:¬ G b) (hm:c.mine b) (hos:w'.os=w.os) (htape:w'.tape=w.tape) (hout:w'.output=w.output) (hsize:w'.heap.size=w.heap.size)
  (hold:∀ i,i ≠ b->w'.heap[i]? = w.heap[i]?) (hnew:∀ (_:Keep G G w w'),ObAt c G w' O (O j) ob') (hl:ob'.lt V.nx=true) :
  Conc c G O { V with hp:=fun k=>bif Nat.beq k j then some ob' else V.hp k } a w':=by
 have k:Keep G G w w':=⟨fun _ h=>h,fun i hi=>hold i (fun e=>hg (e ▸ hi))⟩;have hoth:∀ {k' o},V.hp k'=some o->k' ≠ j->∀ {b':Nat},blk (O k')=some b'->w'.heap[b']? = w.heap[b']?:=fun {k' o} hk hne {b'} hb' =>
  hold b' (fun e=>h.inj k' j o ob hk hj hne b (e ▸ hb') hb)
 refine { h with env:=fun t=>(h.env t).keep k,hp:=fun k' o hk=>?_,hplt:=fun k' o hk=>?_,inj:=?_,lt:=fun i hi=>by rw[hsize]; exact h.lt i hi,fr:=?_,glob:=h.glob.keep k }
 ·dsimp only at hk;cases e:Nat.beq k' j with
  | true=>obtain rfl:k'=j:=ab e;rw[e,ag,aC]at hk;subst hk;exact hnew k
  | false=>
  rw[e,ae]at hk;have hne:=Nat.ne_of_beq_eq_false e;have ho:=h.hp k' o hk;cases o with
  | box cells=>obtain⟨b',e',cur,h1,h2,h3,h4,h5,h6⟩:=ho;exact⟨b',e',cur,h1,by rw[hoth hk hne (by rw[h1]; rfl)]; exact h2,h3,h4,h5.keep k,h6⟩
  | row e' sz rows =>
   obtain⟨h0,h0',h1⟩:=ho;refine⟨h0,h0',h1.imp id ?_⟩;rintro⟨b',cap,cur,h1,h2,h3,h4,h5,h6,h7⟩;exact⟨b',cap,cur,h1,h2,h3,h4.to (fun x hx=>by rw[hoth hk hne (by rw[h1]; rfl)]; exact hx),h5,h6,fun i s hi=>let ⟨u,hu,hr⟩:=h7 i s hi; ⟨u,hu,hr.keep k⟩⟩
  | arow e' sz rows=>exact ho.moveA (fun b x hb hx=>by rw[hoth hk hne hb]; exact hx) (fun _ _ _ _ h=>h) (fun _ _ h=>h) (fun _ _ _ _ hr=>hr.keep k)
  | any τ xs=>obtain⟨b',o',vs,h1,h2,h3,h4,h5,h6⟩:=ho;exact⟨b',o',vs,h1,by rw[hoth hk hne h1]; exact h2,h3,h4,h5.keep k,h6⟩
 ·dsimp only at hk ⊢;cases e:Nat.beq k' j with
  | true=>obtain rfl:k'=j:=ab e;rw[e,ag,aC]at hk;subst hk;exact⟨(h.hplt k' ob hj).1,hl⟩
  | false=>rw[e,ae]at hk;exact h.hplt k' o hk
 ·have hget:∀ {k':Nat} {o:Ob},(bif Nat.beq k' j then some ob' else V.hp k')=some o->∃ o',V.hp k'=some o':=fun {k' o} hk=>by
   cases e:Nat.beq k' j with
   | true=>obtain rfl:k'=j:=ab e; exact⟨ob,hj⟩
   | false=>rw[e,ae]at hk; exact⟨o,hk⟩
  intro k1 k2 o1 o2 h1 h2 hne;obtain⟨o1',h1'⟩:=hget h1;obtain⟨o2',h2'⟩:=hget h2;exact h.inj k1 k2 o1' o2' h1' h2' hne
 refine⟨hos.trans h.fr.os,htape.trans h.fr.tape,hout.trans h.fr.output,by rw[hsize]; exact h.fr.size,fun i hi hx=>(hold i ?_).trans (h.fr.old i hi hx)⟩;rintro rfl;rcases hm with hm | hm
 ·exact hx hm
 omega
def zKx (v:Value) (z:S):Option AV :=
 match v with
 | .int k n=>some (.s (.int k n))
 | .bool b=>some (.s (.bool b))
 | .string b=>some (.s (.str b.data.toList))
 | .pointer none=>some (.s .np)
 | .nilFunc=>some (.s .nf)
 | .map none=>some (.s .nm)
 | .slice none 0 0=>match z with | .sl sz _=>some (.s (.sl sz [])) | _=>none
 | _=>none
def zDc:List Value->List S->Option (List AV)
 | [],_=>some []
 | v::vs,z::zs=>match zKx v z,zDc vs zs with | some x,some xs=>some (x::xs) | _,_=>none
 | _::_,[]=>none
def zNG (T:Nat->Option TI) (ty:Nat) (v:Value):AV :=
 match v with
 | .int k n=>.s (.int k n)
 | .bool b=>.s (.bool b)
 | .string b=>.s (.str b.data.toList)
 | .pointer none=>.s .np
 | .nilFunc=>.s .nf
 | .map none=>.s .nm
 | .slice none 0 0=>match T ty with
  | some i=>match i.zero with | [.sl sz _]=>.nl sz | _=>.junk
  | none=>.junk
 | .agg cs=>match T ty with
  | some i=>match zDc cs.toList i.zero with | some xs=>.agg xs | none=>.junk
  | none=>.junk
 | _=>.junk
variable {x:AV}{v:Value}{O:Nat->Value}{w:World}{G:Nat->Prop}
def zQE {z:S} (h:zKx v z=some x):AVal G w O x v:=by
 unfold zKx at h;split at h
 ·cases h; simp[AVal,Rep]
 ·cases h; simp[AVal,Rep]
 ·cases h; simp[AVal,Rep]
 ·cases h; simp[AVal,Rep]
 ·cases h; simp[AVal,Rep]
 ·cases h; simp[AVal,Rep]
 ·split at h
  ·cases h; simp[AVal,Rep]
  cases h
 cases h
def zJu {G:Nat->Prop}{w:World}{O:Nat->Value}:∀ {vs:List Value}{zs:List S}{xs:List AV},zDc vs zs=some xs->AVals G w O xs vs
 | [],_,xs,h=>by simp only[zDc,aC]at h; subst h; simp only[AVals]
 | v::vs,[],xs,h=>by simp[zDc]at h
 | v::vs,z::zs,xs,h=>by
  simp only[zDc]at h;split at h
  ·rename_i x ys h1 h2;cases h;simp only[AVals];exact⟨v,vs,rfl,zQE h1,zJu h2⟩
  ·cases h
def zUg  (T:Nat->Option TI) (ty:Nat) (v:Value):AVal G w O (zNG T ty v) v:=by
 unfold zNG;split
 ·simp[AVal,Rep]
 ·simp[AVal,Rep]
 ·simp[AVal,Rep]
 ·simp[AVal,Rep]
 ·simp[AVal,Rep]
 ·simp[AVal,Rep]
 ·split
  ·split <;> simp[AVal]
  simp[AVal]
 ·split
  ·split
   ·rename_i xs hx;simp only[AVal];exact⟨_,rfl,zJu hx⟩
   simp[AVal]
  simp[AVal]
 simp[AVal]
def opd (T:Nat->Option TI) (env:Nat->AV) (ty:Nat):Operand->AV
 | .tmp t=>env t
 | .const v=>zNG T ty v
 | .func f=>.s (.fn f)
 | .global g=>match yDD g with | some row=>.s (.pt row) | none=>.junk
def zEO {c:Cx}{V:St}{a:Act} (h:Conc c G O V a w) (T:Nat->Option TI) (ty:Nat) (x:Operand) :
  AVal G w O (opd T V.env ty x) (a.eval x):=by
 cases x with
 | tmp t=>exact h.env t
 | const v=>exact zUg T ty v
 | func f=>simp[opd,AVal,Rep,Act.eval]
 | global g=>
 simp only[opd];split
 ·rename_i row hg;simp only[AVal,Rep];exact⟨g,0,rfl,h.glob.1 g row hg⟩
 simp only[AVal]
def zKy:∀ {vs:List Value}{zs:List S}{xs:List AV} (n:Nat),zDc vs zs=some xs->AV.ltAll n xs=true
 | [],_,xs,n,h=>by simp only[zDc,aC]at h; subst h; simp only[AV.ltAll]
 | v::vs,[],xs,n,h=>by simp[zDc]at h
 | v::vs,z::zs,xs,n,h=>by
  simp only[zDc]at h;split at h
  ·rename_i x ys h1 h2;cases h;simp only[AV.ltAll,af];refine⟨?_,zKy n h2⟩;unfold zKx at h1;split at h1
   ·cases h1; rfl
   ·cases h1; rfl
   ·cases h1; rfl
   ·cases h1; rfl
   ·cases h1; rfl
   ·cases h1; rfl
   ·split at h1
    ·cases h1; rfl
    ·cases h1
   ·cases h1
  ·cases h
def zWw (T:Nat->Option TI) (ty:Nat) (v:Value) (n:Nat):(zNG T ty v).lt n=true:=by
 unfold zNG;split
 ·rfl
 ·rfl
 ·rfl
 ·rfl
 ·rfl
 ·rfl
 ·split
  ·split <;> rfl
  rfl
 ·split
  ·split
   ·rename_i xs hx;simp only[AV.lt];exact zKy n hx
   rfl
  rfl
 rfl
def zMl {V:St} (h:∀ t,(V.env t).lt V.nx=true) (T:Nat->Option TI) (ty:Nat) (x:Operand):(opd T V.env ty x).lt V.nx=true:=by
 cases x with
 | tmp t=>exact h t
 | const v=>exact zWw T ty v _
 | func f=>rfl
 | global g=>simp only[opd]; split <;> rfl
def AV.nrm:AV->AV
 | .nl sz=>.s (.sl sz [])
 | x=>x
def zAV:S->AV
 | .sl sz []=>.nl sz
 | s=>.s s
def zRC {s:S} (h:s.zok=true):AVal G w O (zAV s) s.zval:=by
 unfold zAV;split
 ·simp only[AVal,S.zval]
 simp only[AVal]; exact S.zrep h
def yC4 (s:S):(zAV s).one=true:=by unfold zAV; split <;> rfl
def zOF {n:Nat}:∀ (l:List S),AV.ltAll n (l.map zAV)=true
 | []=>rfl
 | s::l=>by
  simp only[ba,AV.ltAll,af];exact⟨by unfold zAV; split <;> rfl,zOF l⟩
def yC3 (l:List S):(l.map zAV).all AV.one=true:=by
 simp[yC4]
def AVal.nrm  (h:AVal G w O x v):AVal G w O x.nrm v:=by
 cases x <;> simp only[AV.nrm] <;> try exact h
 simp only[AVal,Rep]at h ⊢;exact .inl ⟨trivial,_,_,h⟩
def AV.nrm_lt {n:Nat} (h:x.lt n=true):x.nrm.lt n=true:=by
 cases x <;> simp only[AV.nrm] <;> first | exact h | rfl
def AV.deep:AV->AV
 | .agg xs=>.agg (xs.map AV.nrm)
 | x=>x.nrm
def AVal.deep  (h:AVal G w O x v):AVal G w O x.deep v:=by
 cases x <;> simp only[AV.deep] <;> try exact h.nrm
 simp only[AVal]at h ⊢;obtain⟨vs,h1,h2⟩:=h;refine⟨vs,h1,AVals.mk (by rw[az]; exact h2.length) fun i x v hx hv=>?_⟩;rw[ao]at hx;obtain⟨y,hy,rfl⟩:=aH.1 hx;obtain⟨u,hu,hr⟩:=h2.get hy;rw[hv]at hu; cases hu;exact hr.nrm
def zS1 {n:Nat}:∀ {xs:List AV},AV.ltAll n xs=true->AV.ltAll n (xs.map AV.nrm)=true
 | [],_=>rfl
 | x::xs,h=>by
  simp only[ba,AV.ltAll,af]at h ⊢;exact⟨AV.nrm_lt h.1,zS1 h.2⟩
def AV.deep_lt {n:Nat} (h:x.lt n=true):x.deep.lt n=true:=by
 cases x <;> simp only[AV.deep] <;> first | exact AV.nrm_lt h | skip
 simp only[AV.lt]at h ⊢;exact zS1 h
def AV.sc:AV->Option S
 | .s x=>some x
 | .nl sz=>some (.sl sz [])
 | _=>none
def zLI:List AV->Option (List S)
 | []=>some []
 | x::xs=>match x.sc,zLI xs with | some y,some ys=>some (y::ys) | _,_=>none
def AV.cellsS:AV->Option (List S)
 | .s x=>some [x]
 | .nl sz=>some [.sl sz []]
 | .agg xs=>zLI xs
 | _=>none
def Reps (G:Nat->Prop) (w:World) (ss:List S) (vs:List Value):Prop :=
 vs.length=ss.length/\∀ (i:Nat) s v,ss[i]? = some s->vs[i]? = some v->Rep G w s v
def AV.sc_rep {s:S} (hs:x.sc=some s) (h:AVal G w O x v):Rep G w s v:=by
 cases x <;> simp only[AV.sc,aC,reduceCtorEq]at hs
 ·subst hs; simpa only[AVal] using h
 subst hs; simp only[AVal]at h; simp[Rep,h]
def zK5 {G:Nat->Prop}{w:World}{O:Nat->Value}:∀ {xs:List AV}{ss:List S}{vs:List Value},zLI xs=some ss->AVals G w O xs vs->Reps G w ss vs
 | [],ss,vs,h,hv=>by
  simp only[zLI,aC]at h; subst h;simp only[AVals]at hv; subst hv;exact⟨rfl,fun i s v h=>by simp at h⟩
 | x::xs,ss,vs,h,hv=>by
  simp only[zLI]at h;split at h
  ·rename_i y ys h1 h2;cases h;simp only[AVals]at hv;obtain⟨v,vs',rfl,h3,h4⟩:=hv;have ih:=zK5 h2 h4;refine⟨by simp[ih.1],fun i s u hs hu=>?_⟩;cases i with
   | zero=>simp at hs hu; subst hs; subst hu; exact AV.sc_rep h1 h3
   | succ i=>exact ih.2 i s u (by simpa using hs) (by simpa using hu)
  ·cases h
def cells_one  (h:v.oneCell'=true):v.cells = #[v]:=by cases v <;> first | rfl | simp[Value.oneCell']at h
def zLl {ss:List S} (hs:x.cellsS=some ss) (h:AVal G w O x v):Reps G w ss v.cells.toList:=by
 cases x <;> simp only[AV.cellsS,aC,reduceCtorEq]at hs
 case s y =>
  subst hs;simp only[AVal]at h;rw[cells_one h.one];exact⟨rfl,fun i s u h1 h2=>by
   cases i <;> simp at h1 h2
   subst h1; subst h2; exact h⟩
 case nl sz =>
  subst hs;simp only[AVal]at h;subst h;exact⟨rfl,fun i s u h1 h2=>by
   cases i <;> simp[Value.cells]at h1 h2
   subst h1; subst h2; simp[Rep]⟩
 case agg xs =>
  simp only[AVal]at h;obtain⟨vs,rfl,hv⟩:=h;simpa [Value.cells] using zK5 hs hv
def zMG (T:Nat->Option TI) (t:Nat) (row:List S):Option AV :=
 match T t with
 | none=>none
 | some i =>
  match i.k.agg with
  | true=>match Nat.ble i.size row.length with | true=>some (.agg ((row.take i.size).map .s)) | false=>none
  | false=>match row with | x::_=>some (.s x) | []=>none
def kEq:IntKind->IntKind->Bool
 | .i8,.i8 | .i16,.i16 | .i32,.i32 | .i64,.i64 | .u8,.u8 | .u16,.u16 | .u32,.u32 | .u64,.u64=>true
 | _,_=>false
def zNR {a b:IntKind} (h:kEq a b=true):a=b:=by cases a <;> cases b <;> simp[kEq]at h <;> rfl
def zId (op:BinOp) (k:IntKind) (x y:Int):Int :=
 let a:=BitVec.ofInt k.bits x
 let b:=BitVec.ofInt k.bits y
 match op with
 | .and=>k.wrap (a &&& b).toNat
 | .or=>k.wrap (a ||| b).toNat
 | .xor=>k.wrap (a ^^^ b).toNat
 | _=>k.wrap (a &&& ~~~b).toNat
def pInt (op:BinOp) (k:IntKind) (a b:Int):Option (Option Prop×AV) :=
 match op with
 | .add=>some (none,.s (.int k (k.wrap (a+b))))
 | .sub=>some (none,.s (.int k (k.wrap (a - b))))
 | .mul=>some (none,.s (.int k (k.wrap (a * b))))
 | .quo=>some (some (b ≠ 0),.s (.int k (k.wrap (a.tdiv b))))
 | .rem=>some (some (b ≠ 0),.s (.int k (a.tmod b)))
 | .and=>some (none,.s (.int k (zId .and k a b)))
 | .or=>some (none,.s (.int k (zId .or k a b)))
 | .xor=>some (none,.s (.int k (zId .xor k a b)))
 | .andNot=>some (none,.s (.int k (zId .andNot k a b)))
 | .eql=>some (none,.s (.bool (a == b)))
 | .neq=>some (none,.s (.bool (a != b)))
 | .lss=>some (none,.s (.bool (decide (a<b))))
 | .leq=>some (none,.s (.bool (decide (a<=b))))
 | .gtr=>some (none,.s (.bool (decide (b<a))))
 | .geq=>some (none,.s (.bool (decide (b<=a))))
 | _=>none
def pStr (op:BinOp) (a b:List UInt8):Option (Option Prop×AV) :=
 match op with
 | .add=>some (some (a.length+b.length<=9223372036854775807),.s (.str (a++b)))
 | .eql=>some (none,.s (.bool (a == b)))
 | .neq=>some (none,.s (.bool (!(a == b))))
 | .lss=>some (none,.s (.bool (Op.bytesLess a b)))
 | _=>none
def tk (T:Nat->Option TI) (t:Nat):TK:=match T t with | some i=>i.k | none=>.other
def zYy (T:Nat->Option TI) (t:Nat) (op:BinOp) (x y:AV):Option (Option Prop×AV) :=
 match op,x,y with
 | .shl,.s (.int k a),.s (.int _ b)=>some (some (0<=b),.s (.int k (k.wrap (a * 2 ^ (min b.toNat k.bits)))))
 | .shr,.s (.int k a),.s (.int _ b)=>some (some (0<=b),.s (.int k (a.fdiv (2 ^ (min b.toNat k.bits)))))
 | op,.s (.int k a),.s (.int k' b)=>match kEq k k' with | true=>pInt op k a b | false=>none
 | op,.s (.str a),.s (.str b)=>pStr op a b
 | .eql,.s (.bool a),.s (.bool b)=>match tk T t with | .bool=>some (none,.s (.bool (a == b))) | _=>none
 | .neq,.s (.bool a),.s (.bool b)=>match tk T t with | .bool=>some (none,.s (.bool (!(a == b)))) | _=>none
 | .eql,.s .np,.s .np=>match tk T t with | .ptr _=>some (none,.s (.bool true)) | _=>none
 | .neq,.s .np,.s .np=>match tk T t with | .ptr _=>some (none,.s (.bool false)) | _=>none
 | .eql,.s (.pt _),.s .np=>match tk T t with | .ptr _=>some (none,.s (.bool false)) | _=>none
 | .neq,.s (.pt _),.s .np=>match tk T t with | .ptr _=>some (none,.s (.bool true)) | _=>none
 | .eql,.s .nf,.s .nf=>match tk T t with | .fn=>some (none,.s (.bool true)) | _=>none
 | .eql,.op _ _,.s .np=>match tk T t with | .ptr _=>some (none,.s (.bool false)) | _=>none
 | .neq,.op _ _,.s .np=>match tk T t with | .ptr _=>some (none,.s (.bool true)) | _=>none
 | .eql,.op k o,.op k' o'=>match tk T t with | .ptr e=>(match T e,Nat.beq k k',Nat.beq o o' with | some _,true,true=>some (none,.s (.bool true)) | _,_,_=>none) | _=>none
 | .neq,.op k o,.op k' o'=>match tk T t with | .ptr e=>(match T e,Nat.beq k k',Nat.beq o o' with | some _,true,true=>some (none,.s (.bool false)) | _,_,_=>none) | _=>none
 | _,_,_=>none
def pArr (T:Nat->Option TI) (t:Nat) (op:BinOp) (x y:AV):Option (Option Prop×AV) :=
 match op,x,y with
 | .neq,.agg [.s (.int k a),.s (.int k1 b)],.agg [.s (.int k2 c),.s (.int k3 d)]=>match tk T t with
  | .arr 2 e=>match T e with
   | some i=>match i.k,Nat.beq i.size 1,kEq k k1&&(kEq k k2&&kEq k k3) with
    | .int k4,true,true=>match kEq k k4 with | true=>some (none,.s (.bool (!(a == c&&b == d)))) | false=>none
    | _,_,_=>none
   | none=>none
  | _=>none
 | _,_,_=>none
def pBin (T:Nat->Option TI) (t:Nat) (op:BinOp) (x y:AV):Option (Option Prop×AV) :=
 match zYy T t op x y with
 | some r=>some r
 | none=>pArr T t op x y
def pUn (op:UnOp) (x:AV):Option (Option Prop×AV) :=
 match op,x with
 | .not,.s (.bool b)=>some (none,.s (.bool (!b)))
 | .neg,.s (.int k n)=>some (none,.s (.int k (k.wrap (0 - n))))
 | _,_=>none
def brow (b:UInt8):List S:=[.int .u8 (b.toNat:Int)]
def zKv:List S->UInt8
 | [.int .u8 n]=>UInt8.ofNat n.toNat
 | _=>0
def zW3 (T:Nat->Option TI) (src dst:Nat) (x:AV):Option (Option Prop×AV) :=
 match T src,T dst with
 | some i,some j =>
  match i.k,j.k,x with
  | .int _,.int k,.s (.int _ n)=>some (none,.s (.int k (k.wrap n)))
  | .str,.str,.s (.str l)=>some (none,.s (.str l))
  | .slice e,.str,.s (.sl _ rows)=>match T e with
   | some m=>match m.k with
    | .int .u8=>some (some (rows=(rows.map zKv).map brow),.s (.str (rows.map zKv)))
    | _=>none
   | none=>none
  | _,_,_=>none
 | _,_=>none
def zW5 (T:Nat->Option TI) (t:Nat) (xs:List AV) (off:Nat):Option AV :=
 match T t with
 | none=>none
 | some i =>
  match i.k.agg with
  | true=>match Nat.ble (off+i.size) xs.length with | true=>some (.agg ((xs.drop off).take i.size)) | false=>none
  | false=>xs[off]?
def zPU (T:Nat->Option TI) (t:Nat) (x:AV) (f:Nat):Option (Option Prop×AV) :=
 match T t,x with
 | some i,.agg xs=>match i.k with
  | .struct fs=>match fs[f]? with
   | some (off,ft)=>match zW5 T ft xs off with | some y=>some (none,y) | none=>none
   | none=>none
  | _=>none
 | _,_=>none
def zOc (T:Nat->Option TI) (t:Nat) (x i:AV):Option (Option Prop×AV) :=
 match T t,x,i with
 | some ti,.s (.str l),.s (.int _ n)=>match ti.k with
  | .str=>some (some (0<=n/\n<l.length),.s (.int .u8 ((l.getD n.toNat 0).toNat:Int)))
  | _=>none
 | some ti,.agg xs,.s (.int _ n)=>match ti.k with
  | .arr len e=>match T e with
   | some j=>match zW5 T e xs (n.toNat * j.size) with | some y=>some (some (0<=n/\n<len),y) | none=>none
   | none=>none
  | _=>none
 | _,_,_=>none
def zO3 (x:AV) (off:Nat):Option AV :=
 match x with
 | .s (.pt row)=>some (.s (.pt (row.drop off)))
 | .op k o=>some (.op k (o+off))
 | .rp k sz i o=>some (.rp k sz i (o+off))
 | _=>none
def zF2 (T:Nat->Option TI) (t:Nat) (x:AV) (f:Nat):Option (Option Prop×AV) :=
 match T t with
 | some i=>match i.k with
  | .struct fs=>match fs[f]? with
   | some (off,ft)=>match T ft with
    | some j=>match Nat.ble 1 j.size,zO3 x off with | true,some y=>some (none,y) | _,_=>none
    | none=>none
   | none=>none
  | _=>none
 | none=>none
def zEx (T:Nat->Option TI) (t:Nat) (x i:AV):Option (Option Prop×AV) :=
 match T t,i with
 | some ti,.s (.int _ n)=>match ti.k,x with
  | .slice e,.s (.sl sz rows)=>match T e with
   | some j=>match Nat.beq sz j.size with | true=>some (some (0<=n/\n<rows.length),.s (.pt (rows.getD n.toNat []))) | false=>none
   | none=>none
  | .arr len e,x=>match T e with
   | some j=>match zO3 x (n.toNat * j.size) with | some y=>some (some (0<=n/\n<len),y) | none=>none
   | none=>none
  | _,_=>none
 | _,_=>none
def bnd (d:Int):Option AV->Option Int
 | none=>some d
 | some (.s (.int _ n))=>some n
 | _=>none
def zKX (T:Nat->Option TI) (t:Nat) (x:AV) (lo hi:Option AV):Option (Option Prop×AV) :=
 match T t,x with
 | some ti,.s (.str l)=>match ti.k,bnd 0 lo,bnd l.length hi with
  | .str,some a,some b=>some (some (0<=a/\a<=b/\b<=l.length),.s (.str ((l.take b.toNat).drop a.toNat)))
  | _,_,_=>none
 | some ti,.s (.sl sz rows)=>match ti.k,bnd 0 lo,bnd rows.length hi with
  | .slice e,some a,some b=>match T e with
   | some j=>match Nat.beq sz j.size with | true=>some (some (0<=a/\a<=b/\b<=rows.length),.s (.sl sz ((rows.take b.toNat).drop a.toNat))) | false=>none
   | none=>none
  | _,_,_=>none
 | _,_=>none
def zLz (T:Nat->Option TI) (t sz:Nat) (lo hi:Option AV):Option (Option Prop×AV) :=
 match tk T t,bnd 0 lo,bnd 0 hi with
 | .slice e,some a,some b=>match T e with
  | some _=>some (some (0<=a/\a<=b/\b<=0),.nl sz)
  | none=>none
 | _,_,_=>none
def pCap (T:Nat->Option TI) (t:Nat) (x:AV):Option (Option Prop×AV) :=
 match tk T t,x with
 | .slice _,.nl _=>some (none,.s (.int .i64 0))
 | _,_=>none
def pLen (T:Nat->Option TI) (t:Nat) (x:AV):Option (Option Prop×AV) :=
 match tk T t,x with
 | .str,.s (.str l)=>some (none,.s (.int .i64 (l.length:Int)))
 | .slice _,.s (.sl _ rows)=>some (none,.s (.int .i64 (rows.length:Int)))
 | .slice _,.nl _=>some (none,.s (.int .i64 0))
 | .arr n _,_=>some (none,.s (.int .i64 (n:Int)))
 | _,_=>none
inductive Ret where
 | val (x:AV)
 | row (e sz:Nat) (rows:List (List S))
structure zAq where
 spec:List AV->Ret->Prop
 own:Option (List AV->List Ob->AV->List (Option Ob)->Prop)
 nil:Option Nat:=none
 heap:Option (List AV->(Nat->Option Ob)->Nat->(AV->(Nat->Option Ob)->Nat->Prop)->Prop):=none
 nils:Bool:=false
def zAr (f:List AV->Ret->Prop):zAq:=⟨f,none,none,none,false⟩
def yEJ (f:List AV->Ret->Prop):zAq:=⟨f,none,none,none,true⟩
def zD8 (R:List AV->List Ob->AV->List (Option Ob)->Prop) (nil:Option Nat:=none):zAq:=⟨fun _ _=>False,some R,nil,none,false⟩
def zSO (R:List AV->(Nat->Option Ob)->Nat->(AV->(Nat->Option Ob)->Nat->Prop)->Prop):zAq:=⟨fun _ _=>False,none,none,some R,false⟩
def zV7 (c:Cx) (G:Nat->Prop) (w:World) (O:Nat->Value) (os:List (Option Ob)):Prop :=
 (∀ (i:Nat) ob,os[i]? = some (some ob)->ObAt c G w O (O i) ob/\ob.lt os.length=true) /\
 ∀ (i j:Nat) ob ob',os[i]? = some (some ob)->os[j]? = some (some ob')->i ≠ j->∀ b,blk (O i)=some b->blk (O j) ≠ some b
def zET (P:Program) (w:World) (O:Nat->Value) (n:Nat) (G:Nat->Prop) (N:Nat):Cx :=
 { P:=P,w0:=w,X:=fun b=>∃ i,i<n/\blk (O i)=some b,G0:=G,N:=N,n0:=n,B0:=O }
def OwnSound (P:Program) (f:Nat) (R:List AV->List Ob->AV->List (Option Ob)->Prop):Prop :=
 ∀ (G:Nat->Prop) (w:World) (O:Nat->Value) (xs:List AV) (vs:List Value) (os:List Ob) (x:AV) (os':List (Option Ob)),(∀ b,G b->b<w.heap.size)->GlobOk G w->AVals G w O xs vs->AV.ltAll os.length xs=true ->
  zV7 (zET P w O os.length G 0) G w O (os.map some)->R xs os x os' ->
  Calls P f vs.toArray w fun e w'=>∃ v G' O',e = .returned v/\Fr (zET P w O os.length G 0).X w w'/\(∀ b,G b->G' b)/\(∀ b,G' b->G b∨(zET P w O os.length G 0).mine b)/\(∀ b,G' b->b<w'.heap.size) /\
   AVal G' w' O' x v/\x.lt os'.length=true/\os.length<=os'.length/\zV7 (zET P w O os.length G 0) G' w' O' os'/\∀ (i:Nat) ob,i<os.length->os'[i]? = some (some ob)->O' i=O i
structure HpAt (c:Cx) (G:Nat->Prop) (w:World) (O:Nat->Value) (hp:Nat->Option Ob) (n:Nat):Prop where
 obs:∀ k ob,hp k=some ob->ObAt c G w O (O k) ob
 lts:∀ k ob,hp k=some ob->k<n/\ob.lt n=true
 inj:∀ k k' ob ob',hp k=some ob->hp k'=some ob'->k ≠ k'->∀ b,blk (O k)=some b->blk (O k') ≠ some b
def zFp (P:Program) (w:World) (O:Nat->Value) (hp:Nat->Option Ob) (n:Nat) (G:Nat->Prop) (N:Nat):Cx :=
 { P:=P,w0:=w,X:=fun b=>∃ k ob,hp k=some ob/\blk (O k)=some b,G0:=G,N:=N,n0:=n,B0:=O }
def zXn (P:Program) (f:Nat) (R:List AV->(Nat->Option Ob)->Nat->(AV->(Nat->Option Ob)->Nat->Prop)->Prop):Prop :=
 ∀ (G:Nat->Prop) (w:World) (O:Nat->Value) (xs:List AV) (vs:List Value) (hp:Nat->Option Ob) (n:Nat) (Φ:AV->(Nat->Option Ob)->Nat->Prop),(∀ b,G b->b<w.heap.size)->GlobOk G w ->
  AVals G w O xs vs->AV.ltAll n xs=true->HpAt (zFp P w O hp n G 0) G w O hp n->R xs hp n Φ ->
  Calls P f vs.toArray w fun e w'=>∃ v G' O' x hp' n',e = .returned v/\Φ x hp' n'/\n<=n'/\Fr (zFp P w O hp n G 0).X w w'/\(∀ b,G b->G' b)/\(∀ b,G' b->G b∨(zFp P w O hp n G 0).mine b)/\(∀ b,G' b->b<w'.heap.size) /\
   AVal G' w' O' x v/\x.lt n'=true/\HpAt (zFp P w O hp n G 0) G' w' O' hp' n'/\∀ k,k<n->O' k=O k
def zZI (G:Nat->Prop) (w w':World) (e sz:Nat) (rows:List (List S)) (v:Value):Prop :=
 (∀ r∈rows,r.length=sz)/\0<sz /\
   ((v = .slice none 0 0/\rows=[])∨∃ b cap cur,v = .slice (some ⟨b,0,none⟩) rows.length cap/\rows.length<=cap/\cur.size=cap * sz /\
    RowBlk w' b cur e/\¬ G b/\w.heap.size<=b/\∀ (i:Nat) s,rows.flatten[i]? = some s->∃ u,cur[i]? = some u/\Rep G w' s u)
def RetAt (G:Nat->Prop) (w w':World) (r:Ret) (v:Value):Prop :=
 match r with
 | .val x=>x.pers=true/\AVal G w' (fun _=>.tuple #[]) x v
 | .row e sz rows=>zZI G w w' e sz rows v
def PSound (P:Program) (f:Nat) (s:zAq):Prop :=
 (∀ args w,(callFunc f args).run P w = .ok (.enter f args) w) /\
 (∀ (G:Nat->Prop) (w:World) (xs:List AV) (vs:List Value) (r:Ret),(∀ b,G b->b<w.heap.size)->GlobOk G w->AV.persAll xs=true->AVals G w (fun _=>.tuple #[]) xs vs->s.spec xs r ->
  Calls P f vs.toArray w fun e w'=>∃ v G',e = .returned v/\Ext G G' w w'/\RetAt G' w w' r v) /\
 (∀ R,s.own=some R->OwnSound P f R)/\∀ R,s.heap=some R->zXn P f R
def gok0 {P:Program}:∀ (f:Nat) (s:zAq),(fun _=>none:Nat->Option zAq) f=some s->PSound P f s:=fun _ _ h=>by cases h
def opds (T:Nat->Option TI) (env:Nat->AV):List Operand->List Nat->List AV
 | [],_=>[]
 | x::xs,ts=>(opd T env (ts.headD 0) x).deep::opds T env xs ts.tail
def zLw (T:Nat->Option TI) (env:Nat->AV):List Operand->List Nat->List AV
 | [],_=>[]
 | x::xs,ts=>opd T env (ts.headD 0) x::zLw T env xs ts.tail
def zSk (s:zAq) (T:Nat->Option TI) (env:Nat->AV) (xs:List Operand) (ts:List Nat):List AV :=
 match s.nils with | false=>opds T env xs ts | true=>zLw T env xs ts
def callOf (T:Nat->Option TI) (Γ:Nat->Option zAq) (o:Oper) (env:Nat->AV):Option (Nat×zAq×List AV) :=
 match o.op with
 | .call { callee:=.value f,args:=args,argTypes:=ts }=>match opd T env 0 f with
  | .s (.fn g)=>match Γ g with
   | some s=>match s.own,s.heap with
    | none,none=>match AV.persAll (zSk s T env args.toList ts.toList) with
     | true=>some (g,s,zSk s T env args.toList ts.toList)
     | false=>none
    | _,_=>none
   | none=>none
  | _=>none
 | _=>none
def zW4 (T:Nat->Option TI) (t tx:Nat) (x y:AV):Option (Option Prop×AV) :=
 match x,y with
 | .s (.sl _ []),.s (.sl _ _)=>match tk T t,tk T tx with
  | .slice e,.slice _=>match T e with | some _=>some (none,.s (.int .i64 0)) | none=>none
  | _,_=>none
 | _,_=>none
def pMin (op:Builtin) (xs:List AV):Option (Option Prop×AV) :=
 match op,xs with
 | .min,[.s (.int k a),.s (.int k' b)]=>match kEq k k' with | true=>some (none,.s (.int k (if b<a then b else a))) | false=>none
 | .max,[.s (.int k a),.s (.int k' b)]=>match kEq k k' with | true=>some (none,.s (.int k (if a<b then b else a))) | false=>none
 | _,_=>none
def zKY (T:Nat->Option TI) (env:Nat->AV) (e:Nat):Nat->List (Nat×Operand)->Option (List (List S))
 | _,[]=>some []
 | i,(j,x)::r=>match Nat.beq i j,(opd T env e x).cellsS,zKY T env e (i+1) r with
  | true,some cs,some rs=>some (cs::rs)
  | _,_,_=>none
def AV.cellsA:AV->List AV
 | .agg xs=>xs
 | x=>[x.nrm]
def spine {O:Type}:List AV->(List AV->O)->O
 | [],k=>k []
 | x::xs,k=>spine xs fun ys=>k (x::ys)
def zCt {O:Type}:∀ (l:List AV) (k:List AV->O),spine l k=k l
 | [],_=>rfl
 | x::xs,k=>by rw[spine,zCt xs]
def zME (T:Nat->Option TI) (env:Nat->AV) (place:Nat->Option (Nat×Nat)):List AV->List (Nat×Operand)->Option (List AV)
 | cells,[]=>some cells
 | cells,(j,x)::r=>match place j with
  | none=>none
  | some (off,ft)=>match T ft with
   | none=>none
   | some i =>
    let xs:=(opd T env ft x).cellsA
    match Nat.beq xs.length i.size,Nat.ble (off+i.size) cells.length,xs.all AV.one with
    | true,true,true=>spine (cells.take off++xs++cells.drop (off+i.size)) fun l=>zME T env place l r
    | _,_,_=>none
def zTn (T:Nat->Option TI) (env:Nat->AV) (t:Nat) (parts:List (Nat×Operand)):Option (Option Prop×AV) :=
 match T t with
 | none=>none
 | some i=>match i.k with
  | .struct fs=>match fs.all (fun q=>(T q.2).isSome),zME T env (fun j=>fs[j]?) (i.zero.map zAV) parts with | true,some xs=>some (none,.agg xs) | _,_=>none
  | .arr _ e=>match T e with
   | some m=>match zME T env (fun j=>some (j * m.size,e)) (i.zero.map zAV) parts with | some xs=>some (none,.agg xs) | none=>none
   | none=>none
  | _=>none
def zAY:Operand->Bool
 | .const (.slice none 0 0)=>true
 | _=>false
def zBH (T:Nat->Option TI) (own:Bool) (o:Oper) (env:Nat->AV):Option (Option Prop×AV) :=
 match o.op with
 | .move x | .assign x=>match own&&zAY x with
  | true=>none
  | false=>some (none,(opd T env o.type x).nrm)
 | .pick c x y=>match opd T env 0 c with
  | .s (.bool true)=>some (none,(opd T env o.type x).nrm)
  | .s (.bool false)=>some (none,(opd T env o.type y).nrm)
  | _=>none
 | .box t x=>match own with
  | true=>none
  | false=>match (opd T env t x).cellsS with | some cs=>some (none,.s (.pt cs)) | none=>none
 | .buildSlice t n parts=>match own,T t with
  | false,some i=>match i.k with
   | .slice e=>match T e with
    | some j=>match zKY T env e 0 parts.toList with
     | some rows=>match Nat.beq rows.length n,rows.all (fun r=>Nat.beq r.length j.size),Nat.ble 1 j.size,Nat.ble (n * j.size) 16777216 with
      | true,true,true,true=>some (none,.s (.sl j.size rows))
      | _,_,_,_=>none
     | none=>none
    | none=>none
   | _=>none
  | _,_=>none
 | .build t parts=>zTn T env t parts.toList
 | .load t x=>match opd T env 0 x with
  | .s (.pt row)=>match zMG T t row with | some y=>some (none,y) | none=>none
  | _=>none
 | .nilCheck x=>match opd T env 0 x with
  | .s (.pt row)=>some (none,.s (.pt row))
  | .op k o=>some (none,.op k o)
  | .rp k sz i o=>some (none,.rp k sz i o)
  | .s (.fn f)=>some (none,.s (.fn f))
  | .clo f xs=>some (none,.clo f xs)
  | _=>none
 | .binOp op t x y u=>pBin T t op (opd T env t x) (opd T env u y)
 | .unOp op t x=>pUn op (opd T env t x)
 | .convert src dst x=>zW3 T src dst (opd T env src x).nrm
 | .makeFunc (.func f) first caps=>match first.toList,caps.toList with
  | [],[]=>some (none,.s (.fn f))
  | [],cs=>match Nat.ble 1048576 f with
   | false=>some (none,.clo f (cs.map (opd T env 0)))
   | true=>none
  | cs,[]=>some (none,.clo (f+1048576) (cs.map (opd T env 0)))
  | _,_=>none
 | .slice t x lo hi none=>match opd T env t x with
  | .nl sz=>match own with
   | true=>zLz T t sz (lo.map (opd T env 0)) (hi.map (opd T env 0))
   | false=>zKX T t (.s (.sl sz [])) (lo.map (opd T env 0)) (hi.map (opd T env 0))
  | y=>zKX T t y.nrm (lo.map (opd T env 0)) (hi.map (opd T env 0))
 | .fieldAddr t x f=>zF2 T t (opd T env 0 x) f
 | .field t x f=>zPU T t (opd T env t x) f
 | .indexAddr t x i=>zEx T t (opd T env t x).nrm (opd T env 0 i)
 | .index t x i=>zOc T t (opd T env t x) (opd T env 0 i)
 | .extract x i=>match opd T env 0 x with
  | .tup xs=>(match xs[i]? with | some y=>some (none,y) | none=>none)
  | _=>none
 | .call { callee:=.builtin .len,args:=args,argTypes:=ts }=>match args.toList,ts.toList with
  | [x],[t]=>pLen T t (opd T env t x)
  | _,_=>none
 | .call { callee:=.builtin .min,args:=args,argTypes:=_ }=>pMin .min (args.toList.map (opd T env 0))
 | .call { callee:=.builtin .max,args:=args,argTypes:=_ }=>pMin .max (args.toList.map (opd T env 0))
 | .call { callee:=.builtin .copy,args:=args,argTypes:=ts }=>match args.toList,ts.toList with
  | [x,y],[t,tx]=>zW4 T t tx (opd T env t x) (opd T env tx y)
  | _,_=>none
 | .call { callee:=.builtin .cap,args:=args,argTypes:=ts }=>match args.toList,ts.toList with
  | [x],[t]=>pCap T t (opd T env t x)
  | _,_=>none
 | _=>none
def zAA {P:Program}{o:Oper}{a:Act}{w w':World}{v:Value}{K:Act->World->Prop}{Q:Exit->Act->World->Prop}
  (hr:(execOp a.eval o).run P w = .ok (.value v) w') (h:K (a.put o.dst v) w'):o.wp P a w K Q:=by
 unfold Oper.wp; rw[hr]; exact h
section
variable {P:Program} {T:Nat->Option TI} {G:Nat->Prop} {w:World} {O:Nat->Value}
variable {t:Nat}
theorem zCN (hT:TOk P T){k:TK} (h:tk T t=k) (hk:k ≠ .other):∃ d,P.underlying t=some d/\tkOf d=k:=by
 unfold tk at h;split at h
 ·rename_i i hi;obtain⟨d,info,z,h1,h2,_⟩:=hT t i hi;exact⟨d,h1,by rw[h2,h]⟩
 exact absurd h.symm hk
variable {x:AV}{φ:Option Prop}{op:BinOp}
def yAZ {k:IntKind}{a b:Int} (h:pInt op k a b=some (φ,x)) (hφ:φ.getD True) (t:Nat) :
  ∃ v,(binOp op t (.int k a) (.int k b)).run P w = .ok v w/\AVal G w O x v:=by
 cases op <;> simp only[pInt,aC,Prod.mk.injEq,reduceCtorEq]at h <;> obtain⟨rfl,rfl⟩:=h <;>
  simp only[aF,Option.getD_none]at hφ <;>
  simp[binOp,Op.intArith,Op.intDiv,Op.intBits,Op.intCmp,AVal,Rep,zId,hφ]
def yA1 {a b:List UInt8} (h:pStr op a b=some (φ,x)) (hφ:φ.getD True) (t:Nat) :
  ∃ v,(binOp op t (.string ⟨a.toArray⟩) (.string ⟨b.toArray⟩)).run P w = .ok v w/\AVal G w O x v:=by
 have e1:∀ l:List UInt8,(ByteArray.mk l.toArray).toList=l:=fun l=>by rw[ByteArray.toList_eq]
 have e2:∀ l:List UInt8,(ByteArray.mk l.toArray).size=l.length:=fun l=>rfl
 have e3:ByteArray.mk a.toArray++ByteArray.mk b.toArray=ByteArray.mk (a++b).toArray:=by
  apply ByteArray.ext;simp
 cases op <;> simp only[pStr,aC,Prod.mk.injEq,reduceCtorEq]at h <;> obtain⟨rfl,rfl⟩:=h <;>
  simp only[aF,Option.getD_none]at hφ
 ·have hn:¬ (9223372036854775807<(a.length:Int)+b.length) :=(by omega);simp[binOp,Op.stringOp,e2,e3,AVal,Rep,IntKind.max,IntKind.signed,IntKind.bits,hn]
 all_goals simp[binOp,Op.stringOp,e1,AVal,Rep]
theorem zOn (hT:TOk P T) (h:tk T t = .bool) (a b:Bool):(Op.equal t (.bool a) (.bool b)).run P w = .ok (a == b) w:=by
 obtain⟨d,hd,hk⟩:=zCN hT h (by simp);cases d <;> simp only[tkOf,reduceCtorEq]at hk
 show(Op.equalIn (9999+1) t (.bool a) (.bool b)).run P w=_;unfold Op.equalIn;simp[zAi w hd]
theorem zF3 (hT:TOk P T){e:Nat} (h:tk T t = .ptr e) (a:Option Addr):(Op.equal t (.pointer a) (.pointer none)).run P w = .ok a.isNone w:=by
 obtain⟨d,hd,hk⟩:=zCN hT h (by simp);cases d <;> simp only[tkOf,reduceCtorEq]at hk
 show(Op.equalIn (9999+1) t (.pointer a) (.pointer none)).run P w=_;unfold Op.equalIn;cases a <;> simp[zAi w hd]
theorem zYX (hT:TOk P T) (h:tk T t = .fn):(Op.equal t .nilFunc .nilFunc).run P w = .ok true w:=by
 obtain⟨d,hd,hk⟩:=zCN hT h (by simp);cases d <;> simp only[tkOf,reduceCtorEq]at hk
 show(Op.equalIn (9999+1) t .nilFunc .nilFunc).run P w=_;unfold Op.equalIn;simp[zAi w hd]
theorem zIM (hT:TOk P T){e:Nat}{j:TI} (h:tk T t = .ptr e) (he:T e=some j) (a:Addr):(Op.equal t (.pointer (some a)) (.pointer (some a))).run P w = .ok true w:=by
 obtain⟨d,hd,hk⟩:=zCN hT h (by simp);cases d <;> simp only[tkOf,reduceCtorEq]at hk
 cases hk;obtain⟨_,info,_,_,_,h3,_⟩:=hT _ _ he;show(Op.equalIn (9999+1) t (.pointer (some a)) (.pointer (some a))).run P w=_;unfold Op.equalIn;simp[zAi w hd,sizeOf,typeInfo,h3,run_sameAddr_same]
variable {u v:Value}
def zUX {ox oy:Operand} (h:(∀ cs,u ≠ .agg cs)/\u ≠ .nilIface):(eqGuard op t ox oy u v).run P w = .ok () w:=by
 unfold eqGuard;cases op <;> simp <;> (split <;> first | rfl | simp_all)
variable {r y:AV}
def qG {P:Prop} (h:P:=by simp[binOp,zF3 hT hk,AVal,Rep]):P:=h
theorem zY2 (hT:TOk P T) (h:zYy T t op x y=some (φ,r)) (hφ:φ.getD True) (hx:AVal G w O x u) (hy:AVal G w O y v) (ox oy:Operand) :
  ∃ z,(do eqGuard op t ox oy u v; binOp op t u v:Sem Value).run P w = .ok z w/\AVal G w O r z:=by
 have key:(∃ z,(binOp op t u v).run P w = .ok z w/\AVal G w O r z)/\((∀ cs,u ≠ .agg cs)/\u ≠ .nilIface):=by
  unfold zYy at h;split at h
  ·cases h; simp only[AVal,Rep]at hx hy; subst hx; subst hy;simp only[aF]at hφ;refine⟨?_,by simp⟩;refine⟨_,by simp only[binOp,Op.shift]; rw[if_neg (by omega)]; rfl,by simp[AVal,Rep]⟩
  ·cases h; simp only[AVal,Rep]at hx hy; subst hx; subst hy;simp only[aF]at hφ;refine⟨?_,by simp⟩;refine⟨_,by simp only[binOp,Op.shift]; rw[if_neg (by omega)]; rfl,by simp[AVal,Rep]⟩
  ·split at h
   ·rename_i hk;obtain rfl:=zNR hk;simp only[AVal,Rep]at hx hy; subst hx; subst hy;exact⟨yAZ h hφ t,by simp⟩
   cases h
  ·simp only[AVal,Rep]at hx hy; subst hx; subst hy;exact⟨yA1 h hφ t,by simp⟩
  ·split at h
   ·rename_i hk;cases h; simp only[AVal,Rep]at hx hy; subst hx; subst hy;refine⟨?_,by simp⟩;simp[binOp,zOn hT hk,AVal,Rep]
   cases h
  ·split at h
   ·rename_i hk;cases h; simp only[AVal,Rep]at hx hy; subst hx; subst hy;refine⟨?_,by simp⟩;simp[binOp,zOn hT hk,AVal,Rep]
   cases h
  ·split at h
   ·rename_i hk;cases h; simp only[AVal,Rep]at hx hy; subst hx; subst hy;refine⟨?_,by simp⟩;exact qG
   cases h
  ·split at h
   ·rename_i hk;cases h; simp only[AVal,Rep]at hx hy; subst hx; subst hy;refine⟨?_,by simp⟩;exact qG
   cases h
  ·split at h
   ·rename_i hk;cases h; simp only[AVal,Rep]at hx hy; obtain⟨b,off,rfl,_⟩:=hx; subst hy;refine⟨?_,by simp⟩;exact qG
   cases h
  ·split at h
   ·rename_i hk;cases h; simp only[AVal,Rep]at hx hy; obtain⟨b,off,rfl,_⟩:=hx; subst hy;refine⟨?_,by simp⟩;exact qG
   cases h
  ·split at h
   ·rename_i hk;cases h; simp only[AVal,Rep]at hx hy; subst hx; subst hy;refine⟨?_,by simp⟩;simp[binOp,zYX hT hk,AVal,Rep]
   cases h
  ·split at h
   ·rename_i hk;cases h; simp only[AVal,Rep]at hx hy; obtain⟨b,_,rfl⟩:=hx; subst hy;refine⟨?_,by simp⟩;exact qG
   cases h
  ·split at h
   ·rename_i hk;cases h; simp only[AVal,Rep]at hx hy; obtain⟨b,_,rfl⟩:=hx; subst hy;refine⟨?_,by simp⟩;exact qG
   cases h
  ·split at h
   ·rename_i hk;split at h
    ·rename_i he hk1 hk2;cases h;obtain rfl:=ab hk1;obtain rfl:=ab hk2;simp only[AVal]at hx hy; obtain⟨b,h1,rfl⟩:=hx; obtain⟨b',h2,rfl⟩:=hy;rw[h1]at h2; cases h2;refine⟨?_,by simp⟩;simp[binOp,zIM hT hk he,AVal,Rep]
    cases h
   cases h
  ·split at h
   ·rename_i hk;split at h
    ·rename_i he hk1 hk2;cases h;obtain rfl:=ab hk1;obtain rfl:=ab hk2;simp only[AVal]at hx hy; obtain⟨b,h1,rfl⟩:=hx; obtain⟨b',h2,rfl⟩:=hy;rw[h1]at h2; cases h2;refine⟨?_,by simp⟩;simp[binOp,zIM hT hk he,AVal,Rep]
    cases h
   cases h
  cases h
 obtain⟨⟨z,h1,h2⟩,h3⟩:=key;exact⟨z,by simp[zUX h3,h1],h2⟩
def zMN (w:World) (n:Nat) (t e:TypeId) (k:IntKind) (i:TypeInfo) (ht:P.underlying t=some (.array 2 e)) (he:P.underlying e=some (.int k)) (hi:P.info? e=some i) (hs:i.size=1) (a b c d:Int) :
  (Op.equalIn (n+2) t (.agg #[.int k a,.int k b]) (.agg #[.int k c,.int k d])).run P w = .ok (a == c&&b == d) w:=by
 have h1:∀ x y,(Op.equalIn (n+1) e (.int k x) (.int k y)).run P w = .ok (x == y) w:=fun x y=>by
  simp[Op.equalIn,zAi w he]
 unfold Op.equalIn;cases hac:a == c <;> cases hbd:b == d <;>
 simp[range',zAi w ht,zAt w hi,hs,part,isAgg,zAi w he,h1,hac,hbd]
def zO5 (w:World) (op:BinOp) (t e:TypeId) (k:IntKind) (i:TypeInfo) (ht:P.underlying t=some (.array 2 e)) (he:P.underlying e=some (.int k)) (hi:P.info? e=some i) (hs:i.size=1) (x y:Operand) (a b c d:Int) :
  (eqGuard op t x y (.agg #[.int k a,.int k b]) (.agg #[.int k c,.int k d])).run P w = .ok () w:=by
 have h1:∀ x y,(Op.eqGuardIn 9999 e (.int k x) (.int k y)).run P w = .ok false w:=fun x y=>by
  unfold Op.eqGuardIn;simp[zAi w he]
 have h2:(Op.eqGuardIn Op.maxDepth t (.agg #[.int k a,.int k b]) (.agg #[.int k c,.int k d])).run P w = .ok false w:=by
  unfold Op.maxDepth Op.eqGuardIn;simp[range',zAi w ht,zAt w hi,hs,part,isAgg,zAi w he,h1]
 unfold eqGuard;cases op <;> simp
 all_goals (cases hg:P.eqGuardType P.depth t <;> simp[hg,h2])
def zTx (w:World) (t e:TypeId) (k:IntKind) (i:TypeInfo) (ht:P.underlying t=some (.array 2 e)) (he:P.underlying e=some (.int k)) (hi:P.info? e=some i) (hs:i.size=1) (a b c d:Int) :
  (binOp .neq t (.agg #[.int k a,.int k b]) (.agg #[.int k c,.int k d])).run P w = .ok (.bool (!(a == c&&b == d))) w:=by
 have:=zMN w 9998 t e k i ht he hi hs a b c d;rw[run_neq_struct,this]; rfl
theorem yAX (hT:TOk P T) (h:pBin T t op x y=some (φ,r)) (hφ:φ.getD True) (hx:AVal G w O x u) (hy:AVal G w O y v) (ox oy:Operand) :
  ∃ z,(do eqGuard op t ox oy u v; binOp op t u v:Sem Value).run P w = .ok z w/\AVal G w O r z:=by
 unfold pBin at h;split at h
 ·rename_i r' h0;cases h;exact zY2 hT h0 hφ hx hy ox oy
 unfold pArr at h;split at h
 ·split at h
  ·rename_i e hk;split at h
   ·rename_i i hi;split at h
    ·rename_i k4 hk4 hs hke;split at h
     ·rename_i hk5;cases h;simp only[af]at hke;obtain rfl:=zNR hke.1;obtain rfl:=zNR hke.2.1;obtain rfl:=zNR hke.2.2;obtain rfl:=zNR hk5;obtain⟨d,hd,hdk⟩:=zCN hT hk (by simp);cases d <;> simp only[tkOf,reduceCtorEq,TK.arr.injEq]at hdk
      obtain⟨rfl,rfl⟩:=hdk;obtain⟨d',info,z,g1,g2,g3,g4,_⟩:=hT _ i hi;rw[hk4]at g2;cases d' <;> simp only[tkOf,reduceCtorEq,TK.int.injEq]at g2
      subst g2;simp only[AVal,AVals,Rep]at hx hy;obtain⟨_,rfl,_,_,rfl,rfl,_,_,rfl,rfl,rfl⟩:=hx;obtain⟨_,rfl,_,_,rfl,rfl,_,_,rfl,rfl,rfl⟩:=hy;have hsz:info.size=1:=g4.trans (ab hs);refine⟨_,?_,by simp only[AVal,Rep]; rfl⟩;rw[Sem.run_bind,zO5 w _ t _ _ info hd g1 g3 hsz];exact zTx w t _ _ info hd g1 g3 hsz _ _ _ _
     cases h
    cases h
   cases h
  cases h
 cases h
def yCM {op:UnOp} (h:pUn op x=some (φ,r)) (hx:AVal G w O x u) :
  ∃ z,(Op.unary op u).run P w = .ok z w/\AVal G w O r z:=by
 unfold pUn at h;split at h
 ·cases h; simp only[AVal,Rep]at hx; subst hx; exact⟨_,rfl,by simp[AVal,Rep]⟩
 ·cases h; simp only[AVal,Rep]at hx; subst hx; exact⟨_,rfl,by simp[AVal,Rep]⟩
 cases h
def yC8 (G:Nat->Prop) (w:World) (b:Nat) (row:List S) (off:Nat):Prop:=∀ (i:Nat) s,row[i]? = some s->∃ v,w.cell? ⟨b,off+i,none⟩=some v/\Rep G w s v
variable {b off:Nat}{row:List S}
def zUY  (h:yC8 G w b row off) (n:Nat) (hn:n<=row.length) :
  ∃ vs,(loadCells ⟨b,off,none⟩ n).run P w = .ok vs.toArray w/\Reps G w (row.take n) vs:=by
 have hv:∀ i,i<n->∃ v,w.cell? ⟨b,off+i,none⟩=some v/\Rep G w (row.getD i .np) v:=fun i hi=>by
  exact h i (row.getD i .np) (by simp[ac (show i<row.length by omega)])
 refine⟨(List.range n).map (fun i=>(w.cell? ⟨b,off+i,none⟩).getD undef),?_,?_,?_⟩
 ·refine run_loadCells w ⟨b,off,none⟩ n (fun i=>(w.cell? ⟨b,off+i,none⟩).getD undef) fun j hj=>?_
  obtain⟨v,h1,_⟩:=hv j hj;have:(Addr.mk b off none).add j=⟨b,off+j,none⟩:=by
   unfold Addr.add; split
   ·rename_i e; subst e; simp
   rfl
  rw[this,h1]; rfl
 ·simp; omega
 intro i s v hs hv';rw[aU]at hs;split at hs
 ·rename_i hi;obtain⟨u,h1,h2⟩:=hv i hi;simp[hi,h1]at hv';subst hv';have:row.getD i .np=s :=(by simp[getD,hs]);rw[← this]; exact h2
 cases hs
variable {vs:List Value}
def Reps.avals {ss:List S} (h:Reps G w ss vs):AVals G w O (ss.map .s) vs :=
 AVals.mk (by simp[h.1]) fun i x v hx hv=>by
  rw[ao]at hx;cases hs:ss[i]? with
  | none=>rw[hs]at hx; simp at hx
  | some s=>rw[hs]at hx; simp at hx; subst hx; simpa only[AVal] using h.2 i s v hs hv
theorem zLH (hT:TOk P T) (h:zMG T t row=some y) (hr:yC8 G w b row off) :
  ∃ z,(Instr.loadAt t (.pointer (some ⟨b,off,none⟩))).run P w = .ok z w/\AVal G w O y z:=by
 unfold zMG at h;split at h
 ·cases h
 rename_i i hi;obtain⟨d,info,z,h1,h2,h3,h4,h5,h6,h7,h8,h9,h10⟩:=hT t i hi;split at h
 ·rename_i ha;split at h
  ·rename_i hle;cases h;obtain⟨vs,hl,hreps⟩:=zUY (P:=P) hr i.size (aj hle);refine⟨.agg vs.toArray,?_,?_⟩
   ·simp[Instr.loadAt,Instr.sureAddr,loadVar,zDV w h1,h2,ha,zAt w h3,h4,hl]
   simp only[AVal]; exact⟨vs,rfl,hreps.avals⟩
  cases h
 rename_i ha;split at h
 ·rename_i s r;cases h;obtain⟨u,hu,hrep⟩:=hr 0 s rfl;refine⟨u,?_,by simpa only[AVal] using hrep⟩;simp only[bz]at hu;simp[Instr.loadAt,Instr.sureAddr,loadVar,zDV w h1,h2,ha,hu]
 cases h
theorem zYZ (hT:TOk P T) (h:zMG T t row=some y) (hx:AVal G w O (.s (.pt row)) v) :
  ∃ z,(Instr.loadAt t v).run P w = .ok z w/\AVal G w O y z:=by
 simp only[AVal,Rep]at hx;obtain⟨b,off,rfl,hr⟩:=hx;exact zLH hT h fun i s hi=>(hr.get hi).2
def zLj (P:Program) (w:World) (e:String):∀ (l:List UInt8) (s:ByteArray),
  (forIn (m:=Sem) (l.map fun b=>Value.int .u8 (b.toNat:Int)) s fun c s=>do
   let .int .u8 n:=c | stuck e
   pure (ForInStep.yield (s.push (UInt8.ofNat n.toNat)))).run P w = .ok ⟨s.data++l.toArray⟩ w
 | [],s=>by simp
 | b::l,s=>by
  simp only[ba,forIn_cons,Sem.run_bind,Sem.run_pure,Result.andThen_ok];rw[zLj P w e l];simp[ByteArray.push]
def qA {P:Prop} (h:P:=by simpa using this):P:=h
def run_loadBytes {l:List UInt8} (h:RepRows G w 1 b (l.map brow) off) :
  (loadCells ⟨b,off,none⟩ l.length).run P w = .ok (l.map fun x=>Value.int .u8 (x.toNat:Int)).toArray w:=by
 have:=run_loadCells_list (P:=P) w ⟨b,off,none⟩ (l.map fun x=>Value.int .u8 (x.toNat:Int)) fun j v hj=>by
  rw[ao]at hj;cases hl:l[j]? with
  | none=>rw[hl]at hj; simp at hj
  | some x=>
  rw[hl]at hj; simp at hj; subst hj;have h1:=h.get (i:=j) (r:=brow x) (by simp[ao,hl]);obtain⟨_,_,⟨v,hv,hr⟩,_⟩:=h1;simp only[Rep]at hr;subst hr;have:(Addr.mk b off none).add j=⟨b,off+j * 1,none⟩:=by
   unfold Addr.add; split
   ·rename_i e; subst e; simp
   simp
  rw[this]; exact hv
 exact qA
theorem zY3 (hT:TOk P T){src dst:Nat} (h:zW3 T src dst x=some (φ,r)) (hφ:φ.getD True) (hx:AVal G w O x u) :
  ∃ z,(convert src dst u).run P w = .ok z w/\AVal G w O r z:=by
 unfold zW3 at h;split at h
 ·rename_i i j hi hj;obtain⟨d1,i1,z1,a1,a2,_⟩:=hT src i hi;obtain⟨d2,i2,z2,b1,b2,_⟩:=hT dst j hj;split at h
  ·rename_i k1 k2 _ n e1 e2;cases h;rw[e1]at a2; rw[e2]at b2
   cases d1 <;> simp only[tkOf,reduceCtorEq]at a2
   cases d2 <;> simp only[tkOf,reduceCtorEq,TK.int.injEq]at b2
   subst b2;simp only[AVal,Rep]at hx; subst hx;simp[convert,zAi w a1,zAi w b1,Conv.intToInt,AVal,Rep]
  ·rename_i l e1 e2;cases h;rw[e1]at a2; rw[e2]at b2
   cases d1 <;> simp only[tkOf,reduceCtorEq]at a2
   cases d2 <;> simp only[tkOf,reduceCtorEq]at b2
   simp only[AVal,Rep]at hx; subst hx;simp[convert,zAi w a1,zAi w b1,AVal,Rep]
  ·rename_i e sz rows e1 e2;split at h
   ·rename_i m hm;split at h
    ·rename_i hk;cases h;obtain⟨d3,i3,z3,c1,c2,_⟩:=hT e m hm;rw[e1]at a2; rw[e2]at b2; rw[hk]at c2
     cases d1 <;> simp only[tkOf,reduceCtorEq,TK.slice.injEq]at a2
     subst a2;cases d2 <;> simp only[tkOf,reduceCtorEq]at b2
     cases d3 <;> simp only[tkOf,reduceCtorEq,TK.int.injEq]at c2
     subst c2;simp only[aF]at hφ;generalize hl:rows.map zKv=l at *;subst hφ;simp only[AVal,Rep]at hx;rcases hx with ⟨h0,o,cp,rfl⟩ | ⟨b,off,cap,rfl,hle,hr⟩
     ·have:l=[] :=(by simpa using h0);subst this;refine⟨.string .empty,?_,by simp[AVal,Rep]; rfl⟩;cases o <;> simp[convert,zAi w a1,zAi w b1,zAi w c1,Conv.bytesToString,loadCells,loadCellsFrom]
     have hsz:l ≠ []->sz=1:=fun hne=>by
      cases l with
      | nil=>exact absurd rfl hne
      | cons y l=>have:=(hr.get (i:=0) (r:=brow y) (by simp)).1; simpa [brow] using this.symm
     have hr1:RepRows G w 1 b (l.map brow) off:=by
      by_cases hne:l=[]
      ·subst hne; trivial
      rw[← hsz hne]; exact hr
     refine⟨.string ⟨l.toArray⟩,?_,by simp[AVal,Rep]⟩;have hb:=fun e=>zLj P w e l .empty
     have hlb:=run_loadBytes (P:=P) hr1;simp only[az];simp only[convert,zAi w a1,zAi w b1,zAi w c1,Sem.run_bind,Result.andThen_ok,Conv.bytesToString,hlb];rw[← Array.forIn_toList]
     erw [hb]
     simp
    cases h
   cases h
  cases h
 cases h
theorem zTy (hT:TOk P T){xs:List AV} (h:zW5 T t xs off=some y) (hv:AVals G w O xs vs) :
  ∃ z,(part t vs.toArray off).run P w = .ok z w/\AVal G w O y z:=by
 unfold zW5 at h;split at h
 ·cases h
 rename_i i hi;obtain⟨d,info,z,h1,h2,h3,h4,_⟩:=hT t i hi;split at h
 ·rename_i ha;split at h
  ·rename_i hle;cases h;have hle:=aj hle;refine⟨.agg ((vs.drop off).take i.size).toArray,?_,?_⟩
   ·have:(vs.toArray.extract off (off+i.size))=((vs.drop off).take i.size).toArray:=by
     apply bC;simp
    simp[part,zDV w h1,h2,ha,zAt w h3,h4]
   simp only[AVal];refine⟨_,rfl,AVals.mk ?_ fun j x v hx hv'=>?_⟩
   ·have:=hv.length; simp[this]
   rw[aU,List.getElem?_drop]at hx hv';split at hx
   ·rename_i hj;rw[if_pos hj]at hv';obtain⟨v2,h5,h6⟩:=hv.get hx;rw[h5]at hv'; cases hv'; exact h6
   cases hx
  cases h
 rename_i ha;obtain⟨v,h5,h6⟩:=hv.get h;refine⟨v,?_,h6⟩;simp[part,zDV w h1,h2,ha,h5]
theorem zW9 (hT:TOk P T){f:Nat} (h:zPU T t x f=some (φ,r)) (hx:AVal G w O x u) :
  ∃ z,(Instr.field t u f).run P w = .ok z w/\AVal G w O r z:=by
 unfold zPU at h;split at h
 ·rename_i i xs hi;obtain⟨d,info,z,h1,h2,_⟩:=hT t i hi;split at h
  ·rename_i fs hk;split at h
   ·rename_i off ft hf;split at h
    ·rename_i y hp;cases h;rw[hk]at h2;cases d <;> simp only[tkOf,reduceCtorEq,TK.struct.injEq]at h2
     rename_i fields;subst h2;simp only[AVal]at hx;obtain⟨vs,rfl,hv⟩:=hx;rw[ao]at hf;cases hfa:fields.toList[f]? with
     | none=>rw[hfa]at hf; simp at hf
     | some fld=>
     rw[hfa]at hf; simp at hf;obtain⟨rfl,rfl⟩:=hf;obtain⟨z,hz1,hz2⟩:=zTy hT hp hv;refine⟨z,?_,hz2⟩;have hfa':fields[f]? = some fld :=(by simpa using hfa);simp[Instr.field,zAi w h1,hfa',asAgg,hz1]
    cases h
   cases h
  cases h
 cases h
theorem zXa (hT:TOk P T){i:AV} (h:zOc T t x i=some (φ,r)) (hφ:φ.getD True) (hx:AVal G w O x u) (hi:AVal G w O i v) :
  ∃ z,(Instr.index t u v).run P w = .ok z w/\AVal G w O r z:=by
 unfold zOc at h;split at h
 ·rename_i ti l k n ht;obtain⟨d,info,z,h1,h2,_⟩:=hT t ti ht;split at h
  ·rename_i hk;cases h;rw[hk]at h2;cases d <;> simp only[tkOf,reduceCtorEq]at h2
   simp only[AVal,Rep]at hx hi; subst hx; subst hi;simp only[aF]at hφ;obtain⟨h3,h4⟩:=hφ;have hlt:n.toNat<l.length :=(by omega);have hget:(ByteArray.mk l.toArray)[n.toNat]? = some l[n.toNat]:=by
    rw[getElem?_pos _ _ (by simpa [ByteArray.size] using hlt)];rfl
   refine⟨_,?_,by simp[AVal,Rep]; rfl⟩;simp[Instr.index,asIntOf,zAi w h1,h3,hget,ac hlt]
  cases h
 ·rename_i ti xs k n ht;obtain⟨d,info,z,h1,h2,_⟩:=hT t ti ht;split at h
  ·rename_i len e hk;split at h
   ·rename_i j hj;split at h
    ·rename_i y hp;cases h;obtain⟨d',info',z',g1,g2,g3,g4,_⟩:=hT e j hj;rw[hk]at h2;cases d <;> simp only[tkOf,reduceCtorEq,TK.arr.injEq]at h2
     obtain⟨rfl,rfl⟩:=h2;simp only[AVal,Rep]at hx hi; subst hi;obtain⟨vs,rfl,hv⟩:=hx;simp only[aF]at hφ;obtain⟨z,hz1,hz2⟩:=zTy hT hp hv;refine⟨z,?_,hz2⟩;simp[Instr.index,asIntOf,zAi w h1,hφ.1,hφ.2,zAt w g3,g4,hz1]
    cases h
   cases h
  cases h
 cases h
def addr_add (b off n:Nat):(Addr.mk b off none).add n=⟨b,off+n,none⟩:=by
 unfold Addr.add; split
 ·rename_i e; subst e; simp
 rfl
def zTm {n:Nat} (h:zO3 x n=some y) (hx:AVal G w O x u):∃ b off,u = .pointer (some ⟨b,off,none⟩)/\AVal G w O y (.pointer (some ⟨b,off+n,none⟩)):=by
 cases x with
 | s s =>
  cases s <;> simp only[zO3,reduceCtorEq,aC]at h
  subst h;simp only[AVal,Rep]at hx ⊢;obtain⟨b,off,rfl,hr⟩:=hx;exact⟨b,off,rfl,b,off+n,rfl,hr.drop n⟩
 | op k o =>
  simp only[zO3,aC]at h; subst h;simp only[AVal]at hx ⊢;obtain⟨b,h1,rfl⟩:=hx;exact⟨b,o,rfl,b,h1,rfl⟩
 | rp k sz i o =>
  simp only[zO3,aC]at h; subst h;simp only[AVal]at hx ⊢;obtain⟨b,m,c,h1,rfl⟩:=hx;exact⟨b,i * sz+o,rfl,b,m,c,h1,by rw[Nat.add_assoc]⟩
 | _=>simp only[zO3,reduceCtorEq]at h
theorem zO6 (hT:TOk P T){f:Nat} (h:zF2 T t x f=some (φ,r)) (hx:AVal G w O x u) :
  ∃ z,(Instr.fieldAt t u f).run P w = .ok z w/\AVal G w O r z:=by
 unfold zF2 at h;split at h
 ·rename_i i hi;obtain⟨d,info,z,h1,h2,_⟩:=hT t i hi;split at h
  ·rename_i fs hk;split at h
   ·rename_i off ft hf;split at h
    ·rename_i j hj;split at h
     ·rename_i y hs hp;cases h;obtain⟨d',info',z',g1,g2,g3,g4,_⟩:=hT ft j hj;rw[hk]at h2;cases d <;> simp only[tkOf,reduceCtorEq,TK.struct.injEq]at h2
      rename_i fields;subst h2;rw[ao]at hf;cases hfa:fields.toList[f]? with
      | none=>rw[hfa]at hf; simp at hf
      | some fld=>
      rw[hfa]at hf; simp at hf;obtain⟨rfl,rfl⟩:=hf;obtain⟨b,o,rfl,hy⟩:=zTm hp hx;have hfa':fields[f]? = some fld :=(by simpa using hfa);have hne:info'.size ≠ 0 :=(by have:=aj hs; omega);refine⟨_,?_,hy⟩;simp[Instr.fieldAt,zAi w h1,hfa',Instr.sureAddr,fieldPlace,zAt w g3,hne,addr_add]
     cases h
    cases h
   cases h
  cases h
 cases h
theorem zO7 (hT:TOk P T){i:AV} (h:zEx T t x i=some (φ,r)) (hφ:φ.getD True) (hx:AVal G w O x u) (hi:AVal G w O i v) :
  ∃ z,(Instr.indexAt t u v).run P w = .ok z w/\AVal G w O r z:=by
 unfold zEx at h;split at h
 ·rename_i ti k n ht;obtain⟨d,info,z,h1,h2,_⟩:=hT t ti ht;simp only[AVal,Rep]at hi; subst hi;split at h
  ·rename_i e sz rows hk;split at h
   ·rename_i j hj;split at h
    ·rename_i hsz;cases h;obtain⟨d',info',z',g1,g2,g3,g4,_⟩:=hT e j hj;obtain rfl:sz=j.size:=ab hsz;rw[hk]at h2;cases d <;> simp only[tkOf,reduceCtorEq,TK.slice.injEq]at h2
     subst h2;simp only[aF]at hφ;obtain⟨h3,h4⟩:=hφ;have hlt:n.toNat<rows.length :=(by omega);simp only[AVal,Rep]at hx;rcases hx with ⟨rfl,_⟩ | ⟨b,off,cap,rfl,hle,hr⟩
     ·simp at hlt
     have hg:=hr.get (i:=n.toNat) (r:=rows.getD n.toNat []) (by simp[ac hlt]);refine⟨.pointer (some ⟨b,off+n.toNat * j.size,none⟩),?_,?_⟩
     ·simp[Instr.indexAt,asIntOf,zAi w h1,h3,h4,zAt w g3,g4,addr_add]
     simp only[AVal,Rep]; exact⟨b,_,rfl,hg.2⟩
    cases h
   cases h
  ·rename_i len e hk;split at h
   ·rename_i j hj;split at h
    ·rename_i y hp;cases h;obtain⟨d',info',z',g1,g2,g3,g4,_⟩:=hT e j hj;rw[hk]at h2;cases d <;> simp only[tkOf,reduceCtorEq,TK.arr.injEq]at h2
     obtain⟨rfl,rfl⟩:=h2;simp only[aF]at hφ;obtain⟨b,o,rfl,hy⟩:=zTm hp hx;refine⟨_,?_,hy⟩;simp[Instr.indexAt,asIntOf,zAi w h1,hφ.1,hφ.2,Instr.sureAddr,zAt w g3,g4,addr_add]
    cases h
   cases h
  cases h
 cases h
end
section
variable {P:Program} {T:Nat->Option TI} {G:Nat->Prop} {w:World} {O:Nat->Value}
def zTP (G:Nat->Prop) (w:World) (O:Nat->Value):Option AV->Option Value->Prop
 | none,none=>True
 | some y,some u=>AVal G w O y u
 | _,_=>False
def zIe {d n:Int}{x:Option AV} (h:bnd d x=some n){v:Option Value} (hv:zTP G w O x v) :
  (v=none/\n=d)∨∃ k,v=some (.int k n):=by
 unfold bnd at h;split at h
 ·cases h;cases v with
  | none=>exact .inl ⟨rfl,rfl⟩
  | some u=>exact hv.elim
 ·cases h;cases v with
  | none=>exact hv.elim
  | some u=>simp only[zTP,AVal,Rep]at hv; subst hv; exact .inr ⟨_,rfl⟩
 cases h
def run_sliceBound {k:IntKind}{n:Int}{y:Nat}{code:BoundsCode} (h0:0<=n) (h1:n<=y):(Instr.sliceBound (.int k n) y code).run P w = .ok n.toNat w:=by
 simp[Instr.sliceBound,asIntOf,h0,h1]
variable {vhi vlo:Option Value}
def zEA {isSlice:Bool}{len cap:Nat}{a b:Int} (hl:(vlo=none/\a=0)∨∃ k,vlo=some (.int k a)) (hh:(vhi=none/\b=len)∨∃ k,vhi=some (.int k b))
  (h0:0<=a) (h1:a<=b) (h2:b<=cap):(Instr.sliceBounds isSlice len cap vlo vhi none).run P w = .ok (a.toNat,b.toNat,cap) w:=by
 have h3:0<=b :=(by omega);rcases hh with ⟨rfl,rfl⟩ | ⟨k,rfl⟩ <;> rcases hl with ⟨rfl,rfl⟩ | ⟨k',rfl⟩
 ·simp[Instr.sliceBounds]
 ·simp[Instr.sliceBounds,run_sliceBound (P:=P) (w:=w) h0 h1]
 ·simp[Instr.sliceBounds,run_sliceBound (P:=P) (w:=w) h3 h2]
 have h4:a<=(b.toNat:Int) :=(by omega);simp[Instr.sliceBounds,run_sliceBound (P:=P) (w:=w) h3 h2,run_sliceBound (P:=P) (w:=w) h0 h4]
variable {u:Value}{φ:Option Prop}{hi lo:Option AV}{r x:AV}{t:Nat}
theorem zP2 (hT:TOk P T) (h:zKX T t x lo hi=some (φ,r)) (hφ:φ.getD True)
  (hx:AVal G w O x u) (hlo:zTP G w O lo vlo) (hhi:zTP G w O hi vhi) :
  ∃ z,(Instr.sliceAt t u vlo vhi none).run P w = .ok z w/\AVal G w O r z:=by
 unfold zKX at h;split at h
 ·rename_i ti l ht;obtain⟨d,info,z,h1,h2,_⟩:=hT t ti ht;split at h
  ·rename_i a b hk ha hb;cases h;rw[hk]at h2;cases d <;> simp only[tkOf,reduceCtorEq]at h2
   simp only[AVal,Rep]at hx; subst hx;simp only[aF]at hφ;obtain⟨h3,h4,h5⟩:=hφ;have hbb:=zEA (P:=P) (w:=w) (isSlice:=false) (len:=l.length) (cap:=l.length) (zIe ha hlo) (zIe hb hhi) h3 h4 h5;refine⟨.string ⟨((l.take b.toNat).drop a.toNat).toArray⟩,?_,by simp[AVal,Rep]⟩;have he:(ByteArray.mk l.toArray).extract a.toNat b.toNat=⟨((l.take b.toNat).drop a.toNat).toArray⟩:=by
    apply ByteArray.ext;apply bC;simp[drop_take]
   have hsz:(ByteArray.mk l.toArray).size=l.length:=rfl;simp[Instr.sliceAt,Instr.slice,zAi w h1,hsz,hbb,he]
  cases h
 ·rename_i ti sz rows ht;obtain⟨d,info,z,h1,h2,_⟩:=hT t ti ht;split at h
  ·rename_i e a b hk ha hb;split at h
   ·rename_i j hj;split at h
    ·rename_i hsz;cases h;obtain rfl:sz=j.size:=ab hsz;obtain⟨d',info',z',g1,g2,g3,g4,_⟩:=hT e j hj;rw[hk]at h2;cases d <;> simp only[tkOf,reduceCtorEq,TK.slice.injEq]at h2
     subst h2;simp only[aF]at hφ;obtain⟨h3,h4,h5⟩:=hφ;simp only[AVal,Rep]at hx;rcases hx with ⟨rfl,o,cp,rfl⟩ | ⟨b0,off,cap,rfl,hle,hr⟩
     ·obtain rfl:b=0 :=(by simp at h5; omega);obtain rfl:a=0 :=(by omega);have hbb:=zEA (P:=P) (w:=w) (isSlice:=true) (len:=0) (cap:=cp) (zIe ha hlo) (zIe hb hhi) h3 h4 (by simp);refine⟨.slice (o.map (fun ad=>if cp=0 then ad else ad.add 0)) 0 cp,?_,?_⟩
      ·cases o with
       | none=>simp[Instr.sliceAt,Instr.slice,zAi w h1,hbb,zAt w g3,g4]
       | some ad=>
       simp only[Instr.sliceAt,Instr.slice,zAi w h1,hbb,zAt w g3,g4,Sem.run_bind,Result.andThen_ok,Sem.run_pure];by_cases hcp:cp=0 <;> simp[hcp]
      simp only[AVal,Rep];exact .inl ⟨by simp,_,_,rfl⟩
     have hbb:=zEA (P:=P) (w:=w) (isSlice:=true) (len:=rows.length) (cap:=cap) (zIe ha hlo) (zIe hb hhi) h3 h4 (by omega);refine⟨.slice (some (if cap=a.toNat then ⟨b0,off,none⟩ else ⟨b0,off+a.toNat * j.size,none⟩)) (b.toNat - a.toNat) (cap - a.toNat),?_,?_⟩
     ·simp[Instr.sliceAt,Instr.slice,zAi w h1,hbb,zAt w g3,g4,addr_add];split <;> rfl
     have hlen:((rows.take b.toNat).drop a.toNat).length=b.toNat - a.toNat :=(by simp; omega);simp only[AVal,Rep];refine .inr ⟨b0,if cap=a.toNat then off else off+a.toNat * j.size,cap - a.toNat,?_,by rw[hlen]; omega,?_⟩
     ·rw[hlen]; split <;> rfl
     split
     ·have:(rows.take b.toNat).drop a.toNat=[]:=List.length_eq_zero_iff.1 (by rw[hlen]; omega);rw[this]; trivial
     exact(hr.take b.toNat).drop a.toNat
    cases h
   cases h
  cases h
 cases h
theorem zU0 (hT:TOk P T){sz:Nat} (h:zLz T t sz lo hi=some (φ,r)) (hφ:φ.getD True)
  (hlo:zTP G w O lo vlo) (hhi:zTP G w O hi vhi) :
  ∃ z,(Instr.sliceAt t (.slice none 0 0) vlo vhi none).run P w = .ok z w/\AVal G w O r z:=by
 unfold zLz at h;split at h
 ·rename_i e a b hk ha hb;split at h
  ·rename_i j hj;cases h;obtain⟨d,hd,e1⟩:=zCN hT hk (by simp);obtain⟨d',info',z',g1,g2,g3,g4,_⟩:=hT e j hj;cases d <;> simp only[tkOf,reduceCtorEq,TK.slice.injEq]at e1
   subst e1;simp only[aF]at hφ;obtain⟨h3,h4,h5⟩:=hφ;obtain rfl:b=0 :=(by omega);obtain rfl:a=0 :=(by omega);have hbb:=zEA (P:=P) (w:=w) (isSlice:=true) (len:=0) (cap:=0) (zIe ha hlo) (zIe hb hhi) h3 h4 (by simp);exact⟨.slice none 0 0,by simp[Instr.sliceAt,Instr.slice,zAi w hd,hbb,zAt w g3,g4],by simp only[AVal]⟩
  cases h
 cases h
variable {ty:Nat}
theorem yAY (hT:TOk P T) (h:pCap T t x=some (φ,r)) (hx:AVal G w O x u) :
  ∃ z,(Builtin.cap_ #[t] ty #[u]).run P w = .ok z w/\AVal G w O r z:=by
 unfold pCap at h;split at h
 ·rename_i e0 sz hk;obtain⟨d,hd,e⟩:=zCN hT hk (by simp);cases d <;> simp only[tkOf,reduceCtorEq]at e
  cases h;simp only[AVal]at hx; subst hx;exact⟨goInt 0,by simp[Builtin.cap_,zAi w hd],by simp[AVal,Rep,goInt]⟩
 cases h
theorem yA0 (hT:TOk P T) (h:pLen T t x=some (φ,r)) (hx:AVal G w O x u) :
  ∃ z,(Builtin.len_ #[t] ty #[u]).run P w = .ok z w/\AVal G w O r z:=by
 unfold pLen at h;split at h
 ·rename_i l hk;obtain⟨d,hd,e⟩:=zCN hT hk (by simp);cases d <;> simp only[tkOf,reduceCtorEq]at e
  cases h;simp only[AVal,Rep]at hx; subst hx;refine⟨goInt l.length,?_,by simp[AVal,Rep,goInt]⟩;simp[Builtin.len_,zAi w hd];rfl
 ·rename_i e0 sz rows hk;obtain⟨d,hd,e⟩:=zCN hT hk (by simp);cases d <;> simp only[tkOf,reduceCtorEq]at e
  cases h;simp only[AVal,Rep]at hx;rcases hx with ⟨rfl,o,cp,rfl⟩ | ⟨b,off,cap,rfl,_⟩
  ·exact⟨goInt 0,by simp[Builtin.len_,zAi w hd],by simp[AVal,Rep,goInt]⟩
  exact⟨goInt rows.length,by simp[Builtin.len_,zAi w hd],by simp[AVal,Rep,goInt]⟩
 ·rename_i e0 sz hk;obtain⟨d,hd,e⟩:=zCN hT hk (by simp);cases d <;> simp only[tkOf,reduceCtorEq]at e
  cases h;simp only[AVal]at hx; subst hx;exact⟨goInt 0,by simp[Builtin.len_,zAi w hd],by simp[AVal,Rep,goInt]⟩
 ·rename_i n e0 hk;obtain⟨d,hd,e⟩:=zCN hT hk (by simp);cases d <;> simp only[tkOf,reduceCtorEq,TK.arr.injEq]at e
  cases h;exact⟨goInt n,by simp[Builtin.len_,zAi w hd,e.1],by simp[AVal,Rep,goInt]⟩
 cases h
variable {v:Value}
theorem zY4 (hT:TOk P T){tx:Nat}{y:AV} (h:zW4 T t tx x y=some (φ,r)) (hx:AVal G w O x u) (hy:AVal G w O y v) :
  ∃ z,(Builtin.copy_ #[t,tx] ty #[u,v]).run P w = .ok z w/\AVal G w O r z:=by
 unfold zW4 at h;split at h
 ·split at h
  ·rename_i e0 e1 hk hk';split at h
   ·rename_i j hj;cases h;obtain⟨d,hd,e⟩:=zCN hT hk (by simp);cases d <;> simp only[tkOf,reduceCtorEq,TK.slice.injEq]at e
    subst e;obtain⟨d',info',z',g1,g2,g3,g4,_⟩:=hT _ j hj;simp only[AVal,Rep]at hx hy;have hu:∃ o c,u = .slice o 0 c:=by
     rcases hx with ⟨_,o,c,rfl⟩ | ⟨b,off,cap,rfl,_⟩
     ·exact⟨o,c,rfl⟩
     exact⟨_,_,rfl⟩
    have hv:∃ o n c,v = .slice o n c:=by
     rcases hy with ⟨_,o,c,rfl⟩ | ⟨b,off,cap,rfl,_⟩
     ·exact⟨o,0,c,rfl⟩
     exact⟨_,_,_,rfl⟩
    obtain⟨o,c,rfl⟩:=hu;obtain⟨o',n',c',rfl⟩:=hv;refine⟨goInt 0,?_,by simp[AVal,Rep,goInt]⟩;cases o <;> cases o' <;> simp[Builtin.copy_,zAi w hd,zAt w g3,Builtin.lenOf,Builtin.firstCells,loadCells,loadCellsFrom,storeCells]
   cases h
  cases h
 cases h
variable {vs:List Value}{xs:List AV}
def zVW {op:Builtin} (h:pMin op xs=some (φ,r)) (hx:AVals G w O xs vs) :
  ∃ z,(∀ ts ty cs,(builtin op ts ty cs vs.toArray).run P w = .ok (.value z) w)/\AVal G w O r z:=by
 unfold pMin at h;split at h
 ·rename_i k a k' b;split at h
  ·rename_i hk;obtain rfl:=zNR hk;cases h;simp only[AVals,AVal,Rep]at hx;obtain⟨_,_,rfl,rfl,_,_,rfl,rfl,rfl⟩:=hx;exact⟨.int k (if b<a then b else a),fun _ _ _=>by simp[builtin,Builtin.min_,Builtin.min2],by simp[AVal,Rep]⟩
  cases h
 ·rename_i k a k' b;split at h
  ·rename_i hk;obtain rfl:=zNR hk;cases h;simp only[AVals,AVal,Rep]at hx;obtain⟨_,_,rfl,rfl,_,_,rfl,rfl,rfl⟩:=hx;exact⟨.int k (if a<b then b else a),fun _ _ _=>by simp[builtin,Builtin.max_,Builtin.max2],by simp[AVal,Rep]⟩
  cases h
 cases h
def zSj {ss:List S}{vs:Array Value} (hl:∀ b,G b->b<w.heap.size) (h:Reps G w ss vs.toList) (e:TypeId) (n:Nat) (w':World) (hw:w'.heap=w.heap) :
  RepRow (fun b=>G b∨b=w.heap.size) (w'.alloc (.cells vs e)) w.heap.size ss 0:=by
 have k:Keep G (fun b=>G b∨b=w.heap.size) w (w'.alloc (.cells vs e)) :=
  ⟨fun _ h=>.inl h,fun b hb=>by rw[zBV _ _ (by rw[hw]; exact hl b hb),hw]⟩
 refine RepRow.mk fun i s hi=>⟨.inr rfl,?_⟩
 have hlt:i<vs.toList.length :=(by rw[h.1]; exact(aa.1 hi).1);refine⟨vs.toList[i],?_,(h.2 i s _ hi (ac hlt)).keep k⟩;rw[← hw];simp[World.cell?_alloc_new]
def zCl {sz b:Nat}:∀ {rows:List (List S)}{off:Nat},(∀ r∈rows,r.length=sz)->RepRow G w b rows.flatten off->RepRows G w sz b rows off
 | [],_,_,_=>trivial
 | r::rows,off,hl,h=>by
  simp only[RepRows];have h1:r.length=sz:=hl r (by simp);refine⟨h1,?_,zCl (fun r hr=>hl r (by simp[hr])) ?_⟩
  ·have:=h.take r.length; simpa using this
  ·have:=h.drop r.length; rw[h1]at this; simpa [← h1] using this
def zMt {sz b:Nat}:∀ {rows:List (List S)}{off:Nat},RepRows G w sz b rows off->RepRow G w b rows.flatten off
 | [],_,_=>by simp only[flatten_nil,RepRow]
 | r::rows,off,h=>by
  simp only[RepRows]at h;refine RepRow.mk fun i s hi=>?_
  rw[flatten_cons,aA]at hi;split at hi
  ·exact h.2.1.get hi
  ·rename_i hlt;have:=(zMt h.2.2).get hi;rwa [h.1,show off+sz+(i - sz)=off+i by omega]at this
def Reps.append {s1 s2:List S}{v1 v2:List Value} (h1:Reps G w s1 v1) (h2:Reps G w s2 v2):Reps G w (s1++s2) (v1++v2) :=
 ⟨by simp[h1.1,h2.1],fun i s v hs hv=>by
  rw[aA]at hs hv;rw[h1.1]at hv;split at hs
  ·rename_i hlt; rw[if_pos hlt]at hv; exact h1.2 i s v hs hv
  ·rename_i hlt; rw[if_neg hlt]at hv; exact h2.2 _ s v hs hv⟩
def zX6 (off:Nat):∀ (l:List Value) (k:Nat) (cells:Array Value),off+k+l.length<=cells.size ->
  ((l.zipIdx k).foldl (fun(cs:Array Value) (p:Value×Nat)=>cs.setIfInBounds (off+p.2) p.1) cells).toList=cells.toList.take (off+k)++l++cells.toList.drop (off+k+l.length)
 | [],k,cells,_=>by simp
 | v::l,k,cells,h=>by
  simp only[ah]at h;simp only[zipIdx_cons,foldl_cons];rw[zX6 off l (k+1) _ (by simp; omega)];apply ext_getElem?
  intro n;simp only[aX,aA,bg,Array.length_toList,bJ,aU,List.getElem?_drop,ah,aI,bF,List.getElem?_cons];have e1:min (off+(k+1)) cells.size=off+k+1 :=(by omega);have e2:min (off+k) cells.size=off+k :=(by omega);rw[e1,e2];by_cases h1:n<off+k
  ·rw[if_pos (by omega),if_pos (by omega),if_pos h1,if_pos h1,if_neg (by omega)]
  ·rw[if_neg h1];by_cases h2:n=off+k
   ·subst h2;rw[if_pos (by omega),if_pos (by omega),if_pos rfl,if_pos (by omega),if_pos (by omega),if_pos (by omega)]
   ·rw[if_neg (by omega)];by_cases h3:n - (off+k+1)<l.length
    ·rw[if_pos h3,if_pos (by omega),if_neg (by omega)];congr 1 <;> omega
    ·rw[if_neg h3,if_neg (by omega),if_neg (by omega)];congr 1 <;> omega
def zSJ {place:Nat->Option (Nat×Nat)}{i off size:Nat}{rest:List (Nat×Value)}{cells:List Value} (hp:place i=some (off,size))
  (h1:v.cells.size=size) (h2:off+size<=cells.length) :
  Instr.fill place cells.toArray ((i,v)::rest)=Instr.fill place (cells.take off++v.cells.toList++cells.drop (off+size)).toArray rest:=by
 have hc:¬ (v.cells.size ≠ size∨off+v.cells.size > cells.toArray.size):=by simp; omega
 conv=>lhs; unfold Instr.fill
 simp only[hp];rw[if_neg (by simpa using hc)];congr 1;apply bC;have:=zX6 off v.cells.toList 0 cells.toArray (by simp; omega);simp only[bz,Array.length_toList,h1]at this;rw[← this,← Array.foldl_toList];simp
def zSI (size:Nat):∀ (us:List Value) (i:Nat) (cells:List Value),(∀ v∈us,v.cells.size=size)->(i+us.length) * size<=cells.length ->
  Instr.fill (fun i=>some (i * size,size)) cells.toArray ((us.zipIdx i).map fun p=>(p.2,p.1)) =
   some (cells.take (i * size)++(us.map fun v=>v.cells.toList).flatten++cells.drop ((i+us.length) * size)).toArray
 | [],i,cells,_,_=>by simp[Instr.fill]
 | v::us,i,cells,hs,hc=>by
  have h1:v.cells.size=size:=hs v (by simp);simp only[ah]at hc;have e1:(i+(us.length+1)) * size=i * size+size+us.length * size:=by
   rw[bq,bq]; omega
  have e2:(i+1+us.length) * size=i * size+size+us.length * size:=by
   rw[bq,bq]; omega
  have e3:(i+1) * size=i * size+size :=(by rw[bq]; omega);rw[e1]at hc;simp only[zipIdx_cons,ba];rw[zSJ rfl h1 (by omega),zSI size us (i+1) _ (fun u hu=>hs u (by simp[hu])) (by simp[h1]; rw[e2]; omega)];congr 2;have l1:(cells.take (i * size)).length=i * size :=(by simp; omega);have l2:v.cells.toList.length=size :=(by simpa using h1);rw[e2,e3,ah,e1];simp only[flatten_cons,aX];rw[take_append,take_append,drop_append,drop_append,l1,l2];simp only[take_take,drop_drop,drop_take];rw[take_of_length_le (l:=v.cells.toList) (by omega),drop_eq_nil_of_le (as:=v.cells.toList) (by omega)];have z1:i * size - (i * size+size+us.length * size)=0 :=(by omega);have z2:i * size+size - i * size - size=0 :=(by omega);have z3:min (i * size+size) (i * size)=i * size :=(by omega);have z4:i * size+size+(i * size+size+us.length * size - i * size - size)=i * size+size+us.length * size :=(by omega);simp[z1,z2,z3,z4]
def zG9  (hx:AVal G w O x v) (h:x.cellsA=xs) (hone:xs.all AV.one=true):AVals G w O xs v.cells.toList:=by
 subst h;cases x with
 | agg ys=>simp only[AVal]at hx; obtain⟨vs,rfl,hv⟩:=hx; simpa [AV.cellsA,Value.cells] using hv
 | tup ys=>simp[AV.cellsA,AV.nrm,AV.one]at hone
 | junk=>simp[AV.cellsA,AV.nrm,AV.one]at hone
 | s y=>rw[cells_one hx.one_s]; exact⟨v,[],rfl,hx,rfl⟩
 | nl y=>have h1:=hx.nrm;rw[cells_one (AVal.one (by rfl) hx)]; exact⟨v,[],rfl,h1,rfl⟩
 | op k o=>rw[cells_one (AVal.one (by rfl) hx)]; exact⟨v,[],rfl,hx,rfl⟩
 | orow k=>rw[cells_one (AVal.one (by rfl) hx)]; exact⟨v,[],rfl,hx,rfl⟩
 | rp k sz i o=>rw[cells_one (AVal.one (by rfl) hx)]; exact⟨v,[],rfl,hx,rfl⟩
 | mref k=>rw[cells_one (AVal.one (by rfl) hx)]; exact⟨v,[],rfl,hx,rfl⟩
 | clo f cs=>rw[cells_one (AVal.one (by rfl) hx)]; exact⟨v,[],rfl,hx,rfl⟩
variable {us:List Value}
def AVals.append {ys:List AV} (h1:AVals G w O xs us) (h2:AVals G w O ys vs):AVals G w O (xs++ys) (us++vs) :=
 AVals.mk (by simp[h1.length,h2.length]) fun i x v hx hv=>by
  rw[aA]at hx hv;rw[h1.length]at hv;split at hx
  ·rename_i hlt; rw[if_pos hlt]at hv; obtain⟨u,e1,e2⟩:=h1.get hx; rw[e1]at hv; cases hv; exact e2
  ·rename_i hlt; rw[if_neg hlt]at hv; obtain⟨u,e1,e2⟩:=h2.get hx; rw[e1]at hv; cases hv; exact e2
def AVals.take  (h:AVals G w O xs us) (n:Nat):AVals G w O (xs.take n) (us.take n) :=
 AVals.mk (by simp[h.length]) fun i x v hx hv=>by
  rw[aU]at hx hv;split at hx
  ·rename_i hlt; rw[if_pos hlt]at hv; obtain⟨u,e1,e2⟩:=h.get hx; rw[e1]at hv; cases hv; exact e2
  ·cases hx
def AVals.drop  (h:AVals G w O xs us) (n:Nat):AVals G w O (xs.drop n) (us.drop n) :=
 AVals.mk (by simp[h.length]) fun i x v hx hv=>by
  rw[List.getElem?_drop]at hx hv;obtain⟨u,e1,e2⟩:=h.get hx; rw[e1]at hv; cases hv; exact e2
theorem zNK {env:Nat->AV}{ρ:Operand->Value} (hρ:∀ ty x,AVal G w O (opd T env ty x) (ρ x)){place:Nat->Option (Nat×Nat)}{placeV:Nat->Option (Nat×Nat)}
  (hpl:∀ j off ft i,place j=some (off,ft)->T ft=some i->placeV j=some (off,i.size)) :
  ∀ {parts:List (Nat×Operand)} {cells xs:List AV} {cs:List Value},zME T env place cells parts=some xs->AVals G w O cells cs ->
   ∃ cs',Instr.fill placeV cs.toArray (parts.map fun p=>(p.1,ρ p.2))=some cs'.toArray/\AVals G w O xs cs'
 | [],cells,xs,cs,h,hc=>by
  simp only[zME,aC]at h; subst h;exact⟨cs,by simp[Instr.fill],hc⟩
 | (j,x)::r,cells,xs,cs,h,hc=>by
  simp only[zME,zCt]at h;split at h
  ·cases h
  ·rename_i off ft hj;split at h
   ·cases h
   ·rename_i i hi;split at h
    ·rename_i h1 h2 h3;have h1:=ab h1;have h2:=aj h2;have hv:=zG9 (hρ ft x) rfl h3;have hvl:=hv.length;obtain⟨cs',e1,e2⟩:=zNK hρ hpl h (((hc.take off).append hv).append (hc.drop (off+i.size)));refine⟨cs',?_,e2⟩;rw[ba,zSJ (hpl j off ft i hj hi) (by simpa [h1] using hvl) (by rw[hc.length]; exact h2)];exact e1
    ·cases h
theorem run_places (hT:TOk P T):∀ (fields:List Field),(fields.map fun f=>(f.offset,f.type)).all (fun q=>(T q.2).isSome)=true ->
  ∃ places:List (Nat×Nat),(fields.mapM (m:=Sem) fun f=>do pure (f.offset,← sizeOf f.type)).run P w = .ok places w /\
   ∀ (j off ft:Nat) (k:TI),(fields.map fun f=>(f.offset,f.type))[j]? = some (off,ft)->T ft=some k->places[j]? = some (off,k.size)
 | [],_=>⟨[],by simp,fun j off ft k h=>by simp at h⟩
 | f::fields,h=>by
  simp only[ba,all_cons,af]at h;obtain⟨ps,h1,h2⟩:=run_places hT fields h.2;obtain⟨k0,hk0⟩:=Option.isSome_iff_exists.1 h.1;obtain⟨d,info,z,b1,b2,b3,b4,_⟩:=hT _ _ hk0;refine⟨(f.offset,k0.size)::ps,?_,fun j off ft k hj hk=>?_⟩
  ·simp only[mapM_cons,Sem.run_bind,zAt w b3,b4,Result.andThen_ok,Sem.run_pure,h1]
  ·cases j with
   | zero=>simp at hj; obtain⟨rfl,rfl⟩:=hj; rw[hk0]at hk; cases hk; simp
   | succ j=>simpa using h2 j off ft k (by simpa using hj) hk
end
section
variable {P:Program} {T:Nat->Option TI} {G:Nat->Prop} {w:World} {O:Nat->Value}
theorem zLA {env:Nat->AV}{ρ:Operand->Value} (hρ:∀ ty x,AVal G w O (opd T env ty x) (ρ x)){e:Nat}:∀ {parts:List (Nat×Operand)}{i:Nat}{rows:List (List S)},zKY T env e i parts=some rows ->
  parts.map (fun p=>(p.1,ρ p.2))=((parts.map fun p=>ρ p.2).zipIdx i).map (fun p=>(p.2,p.1))/\rows.length=parts.length /\
   ∀ (j:Nat) r p,rows[j]? = some r->parts[j]? = some p->Reps G w r (ρ p.2).cells.toList
 | [],i,rows,h=>by
  simp only[zKY,aC]at h; subst h;exact⟨rfl,rfl,fun j r p h1 _=>by simp at h1⟩
 | (j,x)::rest,i,rows,h=>by
  simp only[zKY]at h;split at h
  ·rename_i cs rs h1 h2 h3;cases h;obtain rfl:=ab h1;obtain⟨a1,a2,a3⟩:=zLA hρ h3;refine⟨by simp[zipIdx_cons,a1],by simp[a2],fun n r p hr hp=>?_⟩;cases n with
   | zero=>simp at hr hp; subst hr; subst hp; exact zLl h2 (hρ e x)
   | succ n=>exact a3 n r p (by simpa using hr) (by simpa using hp)
  ·cases h
def zIK:∀ {rows:List (List S)}{vss:List (List Value)},rows.length=vss.length->(∀ (j:Nat) r vs,rows[j]? = some r->vss[j]? = some vs->Reps G w r vs)->Reps G w rows.flatten vss.flatten
 | [],[],_,_=>⟨rfl,fun i s v h=>by simp at h⟩
 | [],_::_,hl,_=>by simp at hl
 | _::_,[],hl,_=>by simp at hl
 | r::rows,vs::vss,hl,h=>by
  simp only[flatten_cons];exact(h 0 r vs (by simp) (by simp)).append (zIK (by simpa using hl) fun j r vs h1 h2=>h (j+1) r vs (by simpa using h1) (by simpa using h2))
theorem zIc {env:Nat->AV}{ρ:Operand->Value} (hρ:∀ ty x,AVal G w O (opd T env ty x) (ρ x)) (ty:Nat):∀ (xs:List Operand),AVals G w O (xs.map (opd T env ty)) (xs.map ρ)
 | []=>by simp only[map_nil,AVals]
 | x::xs=>by simp only[ba,AVals]; exact⟨_,_,rfl,hρ ty x,zIc hρ ty xs⟩
theorem zRe {env:Nat->AV}{ρ:Operand->Value} (hρ:∀ ty x,AVal G w O (opd T env ty x) (ρ x)):∀ (xs:List Operand) (ts:List Nat),AVals G w O (opds T env xs ts) (xs.map ρ)
 | [],_=>by simp only[opds,map_nil,AVals]
 | x::xs,ts=>by simp only[opds,ba,AVals]; exact⟨_,_,rfl,(hρ _ x).deep,zRe hρ xs ts.tail⟩
theorem zOb {env:Nat->AV}{ρ:Operand->Value} (hρ:∀ ty x,AVal G w O (opd T env ty x) (ρ x)):∀ (xs:List Operand) (ts:List Nat),AVals G w O (zLw T env xs ts) (xs.map ρ)
 | [],_=>by simp[zLw,AVals]
 | x::xs,ts=>by
  simp only[zLw,ba,AVals];exact⟨_,_,rfl,hρ _ x,zOb hρ xs ts.tail⟩
variable {ρ:Operand->Value}{env:Nat->AV}
theorem zWp {s:zAq} (hρ:∀ ty x,AVal G w O (opd T env ty x) (ρ x)) (xs:List Operand) (ts:List Nat):AVals G w O (zSk s T env xs ts) (xs.map ρ):=by
 unfold zSk;split
 ·exact zRe hρ xs ts
 exact zOb hρ xs ts
theorem zWQ  (hρ:∀ ty x,AVal G w O (opd T env ty x) (ρ x)) (x:Option Operand):zTP G w O (x.map (opd T env 0)) (x.map ρ):=by
 cases x with
 | none=>trivial
 | some x=>exact hρ 0 x
def zLe {k:TK}{zero:List S}{size:Nat}{z:Value} (g7:z=if k.agg=true then Value.agg (zero.map S.zval).toArray else (zero.headD S.np).zval) (g8:zero.length=size) (g9:k.agg=false->size=1):z.cells.size=size:=by
 subst g7;cases hag:k.agg with
 | true=>simp[Value.cells,g8]
 | false=>
 have hz1:(zero.headD .np).zval.oneCell'=true :=(by cases hh:zero.headD .np <;> rfl);rw[if_neg (by simp),cells_one hz1];simp[g9 hag]
theorem run_buildSlice (hT:TOk P T){t e n:Nat}{i j:TI} (ht:T t=some i) (hk:i.k = .slice e) (hj:T e=some j) (us:List Value) (parts:Array (Nat×Value)) (hp:parts.toList=(us.zipIdx 0).map fun p=>(p.2,p.1))
  (hus:∀ v∈us,v.cells.size=j.size) (hn:us.length=n) (h3:1<=j.size) (h4:n * j.size<=16777216) :
  (Instr.buildSlice t n parts).run P w = .ok (.slice (some ⟨w.heap.size,0,none⟩) n n) (w.alloc (.cells (us.map fun v=>v.cells.toList).flatten.toArray e)):=by
 obtain⟨d,info,z,b1,b2,_⟩:=hT t i ht;obtain⟨d',info',z',g1,g2,g3,g4,g5,g6,g7,g8,g9,g10⟩:=hT e j hj;rw[hk]at b2;cases d <;> simp only[tkOf,reduceCtorEq,TK.slice.injEq]at b2
 subst b2;have hzs:=zLe g7 g8 g9;have hfill:=zSI j.size us 0 ((Array.range (n * j.size)).map (fun x=>z'.cells[x % z'.cells.size]!)).toList hus (by simp[hn]);have hdrop:((Array.range (n * j.size)).map (fun x=>z'.cells[x % z'.cells.size]!)).toList.drop ((0+us.length) * j.size)=[]:=by
  apply drop_eq_nil_of_le; simp[hn]
 rw[hdrop,bs,← hp]at hfill;simp only[Nat.zero_mul,take_zero,bE,Array.toArray_toList]at hfill;have h5:¬ (n * j.size > 2 ^ 24):=by omega
 by_cases h0:n=0
 ·subst h0;obtain rfl:us=[]:=List.length_eq_zero_iff.1 hn;obtain rfl:parts = #[]:=Array.toList_eq_nil_iff.1 (by rw[hp]; rfl);simp[Instr.buildSlice,zAi w b1,zAt w g3,Instr.fill,newRow,show Array.range 0 = #[] from rfl]
 have h6:¬ (n * j.size=0):=fun h=>by rcases Nat.mul_eq_zero.1 h with h | h <;> omega
 simp only[Instr.buildSlice,Sem.run_bind,zAi w b1,Result.andThen_ok,zAt w g3,g4,Sem.run_ite,if_neg h5,if_neg h6,zHn w g3 g6,Sem.run_map,Sem.run_pure];simp only[Sem.run_pure,Result.andThen_ok,Sem.run_bind,hfill];simp[newRow]
end
def zUu (o:Oper):Bool:=match o.op with | .box ..=>false | .buildSlice ..=>false | _=>true
variable {w:World}{O:Nat->Value}{G:Nat->Prop}{T:Nat->Option TI}
def kE {P:Prop} (h:P:=by exact pureRun (s:=Instr.sliceAt t (a.eval y) (lo.map a.eval) (hi.map a.eval) none) (by simp only[execOp,ho,Option.map_none]) (zP2 hT h hφ hy.nrm (zWQ hρ lo) (zWQ hρ hi))):P:=h
def kT {P:Prop} (h:P:=by rw[hv]at this;exact same (by simp[execOp,ho,hv]) this):P:=h
theorem yCA {c:Cx}{V:St}{a:Act} (hT:TOk c.P T)
  (hc:Conc c G O V a w) {own:Bool} {o:Oper} {φ:Option Prop} {x:AV} (h:zBH T own o V.env=some (φ,x)) (hφ:φ.getD True) {K:Act->World->Prop} {Q:Exit->Act->World->Prop}
  (hK:∀ G' w' v,Ext G G' w w'->(zUu o=true->w'=w)->AVal G' w' O x v->K (a.put o.dst v) w'):o.wp c.P a w K Q:=by
 have hρ:∀ ty x,AVal G w O (opd T V.env ty x) (a.eval x):=zEO hc T;have same:∀ {v},(execOp a.eval o).run c.P w = .ok (.value v) w->AVal G w O x v->o.wp c.P a w K Q:=fun hr hv=>zAA hr (hK _ _ _ (Ext.refl hc.lt) (fun _=>rfl) hv)
 have pureRun:∀ {s:Sem Value},execOp a.eval o=(do pure (.value (← s)))->(∃ z,s.run c.P w = .ok z w/\AVal G w O x z)->o.wp c.P a w K Q:=fun {s} he ⟨z,h1,h2⟩ =>
  same (by rw[he]; simp[h1]) h2
 unfold zBH at h;split at h;case h_1 y ho =>
  split at h
  ·cases h
  cases h; exact same (by simp[execOp,ho]) (hρ _ _).nrm
 case h_2 y ho =>
  split at h
  ·cases h
  cases h; exact same (by simp[execOp,ho]) (hρ _ _).nrm
 case h_3 cnd y z ho =>
  have hcn:=hρ 0 cnd;split at h
  ·rename_i e; cases h; rw[e]at hcn; simp only[AVal,Rep]at hcn;exact same (v:=a.eval y) (by simp[execOp,ho,hcn,asBool]) (hρ _ _).nrm
  ·rename_i e; cases h; rw[e]at hcn; simp only[AVal,Rep]at hcn;exact same (v:=a.eval z) (by simp[execOp,ho,hcn,asBool]) (hρ _ _).nrm
  cases h
 case h_4 t y ho =>
  split at h
  ·cases h
  split at h
  ·rename_i cs hcs;cases h;have hr:=zLl hcs (hρ t y);refine zAA (v:=.pointer (some ⟨w.heap.size,0,none⟩)) (w':=w.alloc (.cells (a.eval y).cells t)) (by simp[execOp,ho,Instr.box,newVar,newRow]) (hK _ _ _ (Ext.alloc hc.lt _) (fun h=>by simp[zUu,ho]at h) ?_);simp only[AVal,Rep];exact⟨_,0,rfl,zSj hc.lt hr t 0 w rfl⟩
  cases h
 case h_5 t n parts ho =>
  split at h
  ·rename_i i ht;split at h
   ·rename_i e hk;split at h
    ·rename_i j hj;split at h
     ·rename_i rows hp;split at h
      ·rename_i h1 h2 h3 h4;cases h;have h1:=ab h1;have h3:=aj h3;have h4:=aj h4;have hlen:∀ r∈rows,r.length=j.size:=fun r hr=>ab (bo.1 h2 r hr)
       obtain⟨p1,p2,p3⟩:=zLA hρ hp;have hus:∀ v∈parts.toList.map (fun p=>a.eval p.2),v.cells.size=j.size:=fun v hv=>by
        obtain⟨q,hq,rfl⟩:=be.1 hv;obtain⟨m,hm⟩:=bp hq;have hlt:m<rows.length :=(by rw[p2]; exact(aa.1 hm).1);have:=(p3 m rows[m] q (ac hlt) hm).1;rw[hlen _ (aV hlt)]at this
        exact qA
       have hrun:=run_buildSlice (w:=w) hT (n:=n) ht hk hj (parts.toList.map fun p=>a.eval p.2) (parts.map fun(i,x)=>(i,a.eval x)) (by rw[← p1]; simp) hus (by rw[az,← p2,h1]) h3 h4;refine zAA (by unfold execOp; rw[ho]; simp only[Sem.run_bind]; rw[hrun]; rfl) (hK _ _ _ (Ext.alloc hc.lt _) (fun h=>by simp[zUu,ho]at h) ?_);simp only[AVal,Rep];refine .inr ⟨w.heap.size,0,n,by rw[h1],by omega,zCl hlen ?_⟩;refine zSj hc.lt ?_ e 0 w rfl;refine zIK (by simp[p2]) fun m r vs hr hvs=>?_
       simp only[ao]at hvs;cases hpm:parts.toList[m]? with
       | none=>rw[hpm]at hvs; simp at hvs
       | some q=>rw[hpm]at hvs; simp at hvs; subst hvs; exact p3 m r q hr hpm
      cases h
     cases h
    cases h
   cases h
  cases h
 case h_6 t parts ho =>
  unfold zTn at h;split at h
  ·cases h
  rename_i i ht;obtain⟨d,info,z,b1,b2,b3,b4,b5,b6,b7,b8,b9,b10⟩:=hT t i ht;have hz:∀ (hag:i.k.agg=true),z.cells=(i.zero.map S.zval).toArray/\AVals G w O (i.zero.map zAV) (i.zero.map S.zval):=fun hag=>by
   rw[if_pos hag]at b7;refine⟨by subst b7; rfl,AVals.mk (by simp) fun m y v hy hv=>?_⟩;rw[ao]at hy hv;cases hs:i.zero[m]? with
   | none=>rw[hs]at hy; simp at hy
   | some s=>
   rw[hs]at hy hv; simp at hy hv; subst hy; subst hv;exact zRC (bo.1 b10 s (av hs))
  split at h
  ·rename_i fs hk;split at h
   ·rename_i xs hall hf;cases h;obtain⟨e1,e2⟩:=hz (by rw[hk]; rfl);rw[hk]at b2;cases d <;> simp only[tkOf,reduceCtorEq,TK.struct.injEq]at b2
    rename_i fields;subst b2;obtain⟨ps,m1',m2⟩:=run_places (w:=w) hT fields.toList hall;have m1:(fields.mapM (m:=Sem) fun f=>do pure (f.offset,← sizeOf f.type)).run c.P w = .ok ps.toArray w:=by
     rw[Array.mapM_eq_mapM_toList];simp only[Sem.run_map,m1',Result.andThen_ok]
    obtain⟨cs',f1,f2⟩:=zNK (placeV:=(ps.toArray[·]?)) hρ (fun j off ft k h1 h2=>by simpa using m2 j off ft k h1 h2) hf e2;refine same (v:=.agg cs'.toArray) ?_ (by simp only[AVal]; exact⟨cs',rfl,f2⟩);unfold execOp; rw[ho];simp only[Sem.run_bind,Instr.build,zHn w b3 b6,Result.andThen_ok,zAi w b1,Sem.run_map,m1,e1,Sem.run_pure];have:(parts.map fun(x:Nat×Operand)=>(x.1,a.eval x.2)).toList=parts.toList.map fun p=>(p.1,a.eval p.2):=by simp
    simp only[Sem.run_pure,Result.andThen_ok,this,f1]
   cases h
  ·rename_i len e hk;split at h
   ·rename_i m hm;split at h
    ·rename_i xs hf;cases h;obtain⟨d',info',z',g1,g2,g3,g4,_⟩:=hT e m hm;obtain⟨e1,e2⟩:=hz (by rw[hk]; rfl);rw[hk]at b2;cases d <;> simp only[tkOf,reduceCtorEq,TK.arr.injEq]at b2
     obtain⟨rfl,rfl⟩:=b2;obtain⟨cs',f1,f2⟩:=zNK (placeV:=fun i=>some (i * info'.size,info'.size)) hρ (fun j off ft k h1 h2=>by
      cases h1; rw[hm]at h2; cases h2; rw[g4]) hf e2
     refine same (v:=.agg cs'.toArray) ?_ (by simp only[AVal]; exact⟨cs',rfl,f2⟩);unfold execOp; rw[ho];simp only[Sem.run_bind,Instr.build,zHn w b3 b6,Result.andThen_ok,zAi w b1,Sem.run_map,zAt w g3,e1,Sem.run_pure];have:(parts.map fun(x:Nat×Operand)=>(x.1,a.eval x.2)).toList=parts.toList.map fun p=>(p.1,a.eval p.2):=by simp
     simp only[Sem.run_pure,Result.andThen_ok,this,f1]
    cases h
   cases h
  cases h
 case h_7 t y ho =>
  split at h
  ·rename_i row e;split at h
   ·rename_i z hl;cases h;have:=hρ 0 y;rw[e]at this;exact pureRun (s:=Instr.loadAt t (a.eval y)) (by simp only[execOp,ho]) (zYZ hT hl this)
   cases h
  cases h
 case h_8 y ho =>
  have:=hρ 0 y;split at h
  ·rename_i e; cases h; rw[e]at this
   have h2:=this;simp only[AVal,Rep]at h2; obtain⟨b,off,hv,_⟩:=h2;exact kT
  ·rename_i e; cases h; rw[e]at this
   have h2:=this;simp only[AVal]at h2; obtain⟨b,_,hv⟩:=h2;exact kT
  ·rename_i e; cases h; rw[e]at this
   have h2:=this;simp only[AVal]at h2; obtain⟨b,_,_,_,hv⟩:=h2;exact kT
  ·rename_i e; cases h; rw[e]at this
   have h2:=this;simp only[AVal,Rep]at h2;rw[h2]at this;exact same (by simp[execOp,ho,h2]) this
  ·rename_i e; cases h; rw[e]at this
   have h2:=this;simp only[AVal]at h2; obtain⟨vs,hv,_⟩:=h2;obtain⟨g,x,y',e3⟩:=yCd _ vs;rw[e3]at hv;exact kT
  cases h
 case h_9 op t y z u ho =>
  exact pureRun (s:=do eqGuard op t y z (a.eval y) (a.eval z); binOp op t (a.eval y) (a.eval z)) (by simp only[execOp,ho]) (yAX hT h hφ (hρ t y) (hρ u z) y z)
 case h_10 op t y ho =>
  exact pureRun (s:=Op.unary op (a.eval y)) (by simp only[execOp,ho]) (yCM h (hρ t y))
 case h_11 src dst y ho =>
  exact pureRun (s:=convert src dst (a.eval y)) (by simp only[execOp,ho]) (zY3 hT h hφ (hρ src y).nrm)
 case h_12 f first caps ho =>
  split at h
  ·rename_i e1 e2;cases h;have e1':first = #[]:=Array.toList_eq_nil_iff.1 e1;have e2':caps = #[]:=Array.toList_eq_nil_iff.1 e2;subst e1'; subst e2';exact same (v:=.func (.func f) #[] #[]) (by simp[execOp,ho,Instr.makeFunc]) (by simp[AVal,Rep])
  ·rename_i cs e1 e2;have e1':first = #[]:=Array.toList_eq_nil_iff.1 e1;subst e1';split at h
   ·rename_i hf;cases h;refine same (v:=.func (.func f) #[] (caps.map a.eval)) (by simp[execOp,ho,Instr.makeFunc]) ?_;simp only[AVal];refine⟨caps.toList.map a.eval,?_,zIc hρ 0 caps.toList⟩;rw[zVl hf];exact congrArg _ (bC (by simp))
   cases h
  ·rename_i cs e1 e2 e3;cases h;have e2':caps = #[]:=Array.toList_eq_nil_iff.1 e2;subst e2';refine same (v:=.func (.func f) (first.map a.eval) #[]) (by simp[execOp,ho,Instr.makeFunc]) ?_;simp only[AVal];refine⟨first.toList.map a.eval,?_,zIc hρ 0 first.toList⟩;rw[zWv];exact congrArg (fun x=>Value.func (.func f) x #[]) (bC (by simp))
  cases h
 case h_13 t y lo hi ho =>
  have hy:=hρ t y;split at h
  ·rename_i sz e;rw[e]at hy;split at h
   ·simp only[AVal]at hy;exact pureRun (s:=Instr.sliceAt t (a.eval y) (lo.map a.eval) (hi.map a.eval) none) (by simp only[execOp,ho,Option.map_none]) (by rw[hy]; exact zU0 hT h hφ (zWQ hρ lo) (zWQ hρ hi))
   exact kE
  exact kE
 case h_14 t y f ho =>
  exact pureRun (s:=Instr.fieldAt t (a.eval y) f) (by simp only[execOp,ho]) (zO6 hT h (hρ 0 y))
 case h_15 t y f ho =>
  exact pureRun (s:=Instr.field t (a.eval y) f) (by simp only[execOp,ho]) (zW9 hT h (hρ t y))
 case h_16 t y i ho =>
  exact pureRun (s:=Instr.indexAt t (a.eval y) (a.eval i)) (by simp only[execOp,ho]) (zO7 hT h hφ (hρ t y).nrm (hρ 0 i))
 case h_17 t y i ho =>
  exact pureRun (s:=Instr.index t (a.eval y) (a.eval i)) (by simp only[execOp,ho]) (zXa hT h hφ (hρ t y) (hρ 0 i))
 case h_18 y i ho =>
  split at h
  ·rename_i xs e;split at h
   ·rename_i z hz;cases h;have:=hρ 0 y;rw[e]at this;simp only[AVal]at this;obtain⟨vs,hv,h2⟩:=this;obtain⟨u,hu,h3⟩:=h2.get hz;exact same (v:=u) (by unfold execOp; rw[ho]; simp[hv,Instr.extract,hu]) h3
   cases h
  cases h
 case h_19 args ts ho =>
  split at h
  ·rename_i y t e e';have e1:args = #[y]:=Array.toList_inj.1 (by simpa using e);have e2:ts = #[t]:=Array.toList_inj.1 (by simpa using e');subst e1; subst e2;obtain⟨z,h1,h2⟩:=yA0 (w:=w) (ty:=o.type) hT h (hρ t y);exact same (v:=z) (by simp[execOp,ho,resolve,invoke,builtin,h1]) h2
  cases h
 case h_20 args ts ho =>
  obtain⟨z,h1,h2⟩:=zVW (P:=c.P) h (zIc hρ 0 args.toList);refine same (v:=z) ?_ h2;have e:(args.toList.map a.eval).toArray=args.map a.eval:=bC (by simp);rw[e]at h1;simp[execOp,ho,resolve,invoke,h1]
 case h_21 args ts ho =>
  obtain⟨z,h1,h2⟩:=zVW (P:=c.P) h (zIc hρ 0 args.toList);refine same (v:=z) ?_ h2;have e:(args.toList.map a.eval).toArray=args.map a.eval:=bC (by simp);rw[e]at h1;simp[execOp,ho,resolve,invoke,h1]
 case h_22 args ts ho =>
  split at h
  ·rename_i y z t tx e e';have e1:args = #[y,z]:=Array.toList_inj.1 (by simpa using e);have e2:ts = #[t,tx]:=Array.toList_inj.1 (by simpa using e');subst e1; subst e2;obtain⟨u,h1,h2⟩:=zY4 (w:=w) (ty:=o.type) hT h (hρ t y) (hρ tx z);exact same (v:=u) (by simp[execOp,ho,resolve,invoke,builtin,h1]) h2
  cases h
 case h_23 args ts ho =>
  split at h
  ·rename_i y t e e';have e1:args = #[y]:=Array.toList_inj.1 (by simpa using e);have e2:ts = #[t]:=Array.toList_inj.1 (by simpa using e');subst e1; subst e2;obtain⟨z,h1,h2⟩:=yAY (w:=w) (ty:=o.type) hT h (hρ t y);exact same (v:=z) (by simp[execOp,ho,resolve,invoke,builtin,h1]) h2
  cases h
 all_goals cases h
theorem yDW {c:Cx}{V:St}{a:Act} (hT:TOk c.P T)
  (hc:Conc c G O V a w) {own:Bool} {o:Oper} {φ:Option Prop} {x:AV} (h:zBH T own o V.env=some (φ,x)) (hφ:φ.getD True) {K:Act->World->Prop} {Q:Exit->Act->World->Prop}
  (hK:∀ G' w' v,Ext G G' w w'->AVal G' w' O x v->K (a.put o.dst v) w'):o.wp c.P a w K Q :=
 yCA hT hc h hφ fun G' w' v h1 _ h2=>hK G' w' v h1 h2
def Conc.other {c:Cx}{G:Nat->Prop}{O:Nat->Value}{V:St}{a:Act}{w w':World} (h:Conc c G O V a w) (b? : Option Nat)
  (hnl:∀ k ob,V.hp k=some ob->∀ b,blk (O k)=some b->some b ≠ b?) (hg:∀ b,b? = some b->¬ G b/\c.mine b)
  (hos:w'.os=w.os) (htape:w'.tape=w.tape) (hout:w'.output=w.output) (hsize:w.heap.size<=w'.heap.size)
  (hold:∀ i,i<w.heap.size->some i ≠ b?->w'.heap[i]? = w.heap[i]?):Conc c G O V a w':=by
 have k:Keep G G w w':=⟨fun _ h=>h,fun i hi=>hold i (h.lt i hi) (fun e=>(hg i e.symm).1 hi)⟩;have hin:∀ {b:Nat} {x:Obj},w.heap[b]? = some x->b<w.heap.size:=fun {b x} hx=>(aJ.1 hx).1
 refine { h with env:=fun t=>(h.env t).keep k,hp:=fun k' o hk=>?_,lt:=fun i hi=>a9 (h.lt i hi) hsize,fr:=?_,glob:=h.glob.keep k }
 ·have ho:=h.hp k' o hk;have hn:=hnl k' o hk;cases o with
  | box cells=>obtain⟨b',e',cur,h1,h2,h3,h4,h5,h6⟩:=ho;exact⟨b',e',cur,h1,by rw[hold b' (hin h2) (hn b' (by rw[h1]; rfl))]; exact h2,h3,h4,h5.keep k,h6⟩
  | row e' sz rows =>
   obtain⟨h0,h0',h1⟩:=ho;refine⟨h0,h0',h1.imp id ?_⟩;rintro⟨b',cap,cur,h1,h2,h3,h4,h5,h6,h7⟩;exact⟨b',cap,cur,h1,h2,h3,h4.to (fun x hx=>by rw[hold b' h4.lt (hn b' (by rw[h1]; rfl))]; exact hx),h5,h6,fun i s hi=>let ⟨u,hu,hr⟩:=h7 i s hi; ⟨u,hu,hr.keep k⟩⟩
  | arow e' sz rows=>exact ho.moveA (fun b x hb hx=>by rw[hold b (hin hx) (hn b hb)]; exact hx) (fun _ _ _ _ h=>h) (fun _ _ h=>h) (fun _ _ _ _ hr=>hr.keep k)
  | any τ xs=>obtain⟨b',o',vs,h1,h2,h3,h4,h5,h6⟩:=ho;exact⟨b',o',vs,h1,by rw[hold b' (hin h2) (hn b' h1)]; exact h2,h3,h4,h5.keep k,h6⟩
 refine⟨hos.trans h.fr.os,htape.trans h.fr.tape,hout.trans h.fr.output,bc h.fr.size hsize,fun i hi hx=>(hold i (a9 hi h.fr.size) ?_).trans (h.fr.old i hi hx)⟩;intro e;rcases(hg i e.symm).2 with hm | hm
 ·exact hx hm
 omega
def zA6 (V:St) (ob:Ob):St:={ V with hp:=fun k=>bif Nat.beq k V.nx then some ob else V.hp k,nx:=V.nx+1 }
def zHJ (V:St) (j:Nat):St:={ V with hp:=fun k=>bif Nat.beq k j then none else V.hp k }
def zDW (V:St) (j:Nat) (ob:Ob):St:={ V with hp:=fun k=>bif Nat.beq k j then some ob else V.hp k }
variable {α:Type}
def RepsR  (Q:α->Value->Prop) (ss:List α) (vs:List Value):Prop :=
 vs.length=ss.length/\∀ (i:Nat) s v,ss[i]? = some s->vs[i]? = some v->Q s v
def ORow  (c:Cx) (G:Nat->Prop) (w:World) (Q:α->Value->Prop) (v:Value) (e sz:Nat) (rows:List (List α)):Prop :=
 (∀ r∈rows,r.length=sz)/\0<sz /\
   ((v = .slice none 0 0/\rows=[])∨∃ b cap cur,v = .slice (some ⟨b,0,none⟩) rows.length cap/\rows.length<=cap/\cur.size=cap * sz /\
    RowBlk w b cur e/\¬ G b/\c.mine b/\∀ (i:Nat) s,rows.flatten[i]? = some s->∃ u,cur[i]? = some u/\Q s u)
def AQ (G:Nat->Prop) (O:Nat->Value) (w:World) (x:AV) (u:Value):Prop:=AVal G w O x u/\u.oneCell'=true
structure zR3 {α:Type} (w:World) (P:Program) (Q:α->Value->Prop) (tx sz:Nat) (rows:List (List α)) (x:Value):Prop where
 src:∃ news,Src P sz tx x rows.length news w/\RepsR Q rows.flatten news
 len:∀ r∈rows,r.length=sz
structure Reads (G:Nat->Prop) (w:World) (P:Program) (tx sz:Nat) (rows:List (List S)) (x:Value):Prop where
 src:∃ news,Src P sz tx x rows.length news w/\Reps G w rows.flatten news
 len:∀ r∈rows,r.length=sz
section
variable {P:Program} {T:Nat->Option TI} {G:Nat->Prop} {w:World} {O:Nat->Value} {c:Cx}
def cells_of_row {row:List S}{b off:Nat} (h:RepRow G w b row off):∃ vs:List Value,Reps G w row vs/\∀ (j:Nat) u,vs[j]? = some u->w.cell? ⟨b,off+j,none⟩=some u:=by
 refine⟨(List.range row.length).map fun i=>(w.cell? ⟨b,off+i,none⟩).getD undef,⟨by simp,fun i s v hs hv=>?_⟩,fun j u hu=>?_⟩
 ·obtain⟨_,u,h1,h2⟩:=h.get hs;have hlt:i<row.length:=(aa.1 hs).1;simp[hlt,h1]at hv;subst hv; exact h2
 have hlt:j<row.length :=(by have:=(aa.1 hu).1; simpa using this);obtain⟨_,v,h1,h2⟩:=h.get (i:=j) (s:=row[j]) (ac hlt);simp[hlt,h1]at hu;subst hu; exact h1
variable {vs:List Value}
theorem Reps.one {ss:List S} (h:Reps G w ss vs):∀ u∈vs,u.oneCell'=true:=fun u hu=>by
 obtain⟨i,hi⟩:=bp hu;have hlt:i<ss.length :=(by rw[← h.1]; exact(aa.1 hi).1);exact(h.2 i ss[i] u (ac hlt) hi).one
def zAL {α:Type}{sz:Nat}:∀ {rows:List (List α)},(∀ r∈rows,r.length=sz)->rows.flatten.length=rows.length * sz
 | [],_=>by simp
 | r::rows,h=>by
  simp only[flatten_cons,am,ah,h r (by simp),zAL (rows:=rows) fun r hr=>h r (by simp[hr])];rw[bq]; omega
variable {x:Value}{rows:List (List S)}{e sz tx:Nat}
def yAQ  (ht:P.underlying tx=some (.slice e)) (h:Rep G w (.sl sz rows) x) (hl:rows=[]∨True):Reads G w P tx sz rows x:=by
 simp only[Rep]at h;rcases h with ⟨rfl,o,cp,rfl⟩ | ⟨b,off,cap,rfl,hle,hr⟩
 ·refine⟨⟨[],?_,⟨rfl,fun i s v hs=>by simp at hs⟩⟩,fun r hr=>by cases hr⟩;cases o with
  | none=>exact Src.ofNil w ht cp
  | some ad=>exact Src.ofSlice w ht ad 0 cp [] (by simp) (fun j u hu=>by simp at hu) (fun u hu=>by cases hu)
 have hlen:∀ r∈rows,r.length=sz:=fun r hr'=>by
  obtain⟨i,hi⟩:=bp hr';exact(hr.get hi).1
 obtain⟨vs,h1,h2⟩:=cells_of_row (zMt hr);refine⟨⟨vs,Src.ofSlice w ht ⟨b,off,none⟩ _ cap vs (by rw[h1.1,zAL hlen]) (fun j u hu=>by rw[addr_add]; exact h2 j u hu) h1.one,h1⟩,hlen⟩
def zGI:∀ (l:List UInt8),(l.map brow).flatten=l.map fun b=>S.int .u8 (b.toNat:Int)
 | []=>rfl
 | b::l=>by simp[brow,zGI l]
def zYP  (ht:P.underlying tx=some .string){l:List UInt8}:Reads G w P tx 1 (l.map brow) (.string ⟨l.toArray⟩):=by
 refine⟨⟨byteCells ⟨l.toArray⟩,by have:=Src.ofString (w:=w) ht ⟨l.toArray⟩; simpa [ByteArray.size] using this,?_⟩,fun r hr=>by obtain⟨b,_,rfl⟩:=be.1 hr; rfl⟩;rw[zGI];refine⟨by simp[byteCells],fun i s v hs hv=>?_⟩;simp only[byteCells,ao]at hs hv;cases hb:l[i]? with
 | none=>rw[hb]at hs; simp at hs
 | some b=>
 rw[hb]at hs; simp at hs; simp[hb]at hv
 subst hs; subst hv; simp[Rep]
variable {α:Type}
def RepsR.append {Q:α->Value->Prop}{s1 s2:List α}{v1 v2:List Value} (h1:RepsR Q s1 v1) (h2:RepsR Q s2 v2):RepsR Q (s1++s2) (v1++v2):=by
 refine⟨by simp[h1.1,h2.1],fun i s v hs hv=>?_⟩;rw[aA]at hs hv;rw[h1.1]at hv;split at hs
 ·rename_i hlt;rw[if_pos hlt]at hv; exact h1.2 i s v hs hv
 rename_i hlt;rw[if_neg hlt]at hv; exact h2.2 _ s v hs hv
theorem RepsR.one {Q:α->Value->Prop} (hQ:∀ s u,Q s u->u.oneCell'=true){ss:List α} (h:RepsR Q ss vs):∀ u∈vs,u.oneCell'=true:=fun u hu=>by
 obtain⟨i,hi⟩:=bp hu;have hlt:i<ss.length :=(by rw[← h.1]; exact(aa.1 hi).1);exact hQ _ _ (h.2 i ss[i] u (ac hlt) hi)
variable {v:Value}{e':Nat}
def zLE {Q:α->Value->Prop} (hQ:∀ s u,Q s u->u.oneCell'=true) (ht:P.underlying tx=some (.slice e)){rows:List (List α)} (h:ORow c G w Q v e' sz rows):zR3 w P Q tx sz rows v:=by
 obtain⟨hlen,hsz,h⟩:=h;rcases h with ⟨rfl,rfl⟩ | ⟨b,cap,cur,rfl,hle,hs,⟨mk,hmk,hb⟩,_,_,hc⟩
 ·exact⟨⟨[],Src.ofNil w ht 0,⟨rfl,fun i s v hs=>by simp at hs⟩⟩,fun r hr=>by cases hr⟩
 have hfl:=zAL hlen;have hin:∀ i,i<rows.flatten.length->i<cur.size:=fun i hi=>by
  rw[hfl]at hi; rw[hs];exact a9 hi (bh sz hle)
 have hreps:RepsR Q rows.flatten (cur.toList.take rows.flatten.length):=by
  refine⟨?_,fun i s v h1 h2=>?_⟩
  ·have h1:=bh sz hle;rw[bg,hfl];simp only[Array.length_toList];omega
  obtain⟨u,hu,hr⟩:=hc i s h1;rw[aU,if_pos (aa.1 h1).1]at h2;rw[aI,hu]at h2;cases h2; exact hr
 refine⟨⟨_,Src.ofSlice w ht ⟨b,0,none⟩ _ cap _ (by rw[hreps.1,hfl]) (fun j u hu=>?_) (hreps.one hQ),hreps⟩,hlen⟩;rw[addr_add];have hj:j<rows.flatten.length :=(by rw[← hreps.1]; exact(aa.1 hu).1);rw[aU,if_pos hj,aI]at hu;simp[World.cell?,hb,hu]
def zYO  (ht:P.underlying tx=some (.slice e)) (h:ObAt c G w O v (.row e' sz rows)):Reads G w P tx sz rows v :=
 have r:=zLE (c:=c) (G:=G) (Q:=Rep G w) (fun _ _ h=>h.one) ht h
 ⟨r.src,r.len⟩
def zCY (b:Nat):∀ (vs:List Value) (o:Nat) (w:World) (k:Nat),k ≠ b->(w.setCells b o vs).heap[k]? = w.heap[k]?
 | [],_,_,_,_=>rfl
 | v::vs,o,w,k,h=>by
  rw[World.setCells,zCY b vs (o+1) _ k h];simp only[World.setCell,Array.getElem?_modify];rw[if_neg (Ne.symm h)]
def zDg (b:Nat):∀ (vs:List Value) (o:Nat) (w:World),(w.setCells b o vs).heap.size=w.heap.size
 | [],_,_=>rfl
 | v::vs,o,w=>by rw[World.setCells,zDg b vs]; simp
def zDU (b:Nat):∀ (vs:List Value) (o:Nat) (w:World),(w.setCells b o vs).os=w.os/\(w.setCells b o vs).tape=w.tape/\(w.setCells b o vs).output=w.output
 | [],_,_=>⟨rfl,rfl,rfl⟩
 | v::vs,o,w=>by rw[World.setCells]; exact zDU b vs (o+1) _
def zDb (b:Nat){e:TypeId}{f:Nat×Nat}:∀ (vs:List Value) (o:Nat) (w:World) (cur:Array Value),w.heap[b]? = some (.cells cur e f) ->
  ∃ cur',(w.setCells b o vs).heap[b]? = some (.cells cur' e f)/\cur'.size=cur.size/\∀ i,cur'[i]? = if o<=i/\i<o+vs.length/\i<cur.size then vs[i - o]? else cur[i]?
 | [],o,w,cur,h=>⟨cur,h,rfl,fun i=>by rw[if_neg (by simp; omega)]⟩
 | v::vs,o,w,cur,h=>by
  have h1:(w.setCell ⟨b,o,none⟩ v).heap[b]? = some (.cells (cur.setIfInBounds o v) e f):=by
   simp[World.setCell,Array.getElem?_modify,h]
  obtain⟨cur',h2,h3,h4⟩:=zDb b vs (o+1) _ _ h1;refine⟨cur',h2,by simpa using h3,fun i=>?_⟩;rw[h4];simp only[bJ,ah,bF];by_cases ha:o+1<=i/\i<o+1+vs.length/\i<cur.size
  ·rw[if_pos ha,if_pos (by omega),show i - o=(i - (o+1))+1 by omega]; simp
  rw[if_neg ha];by_cases hi:o=i
  ·subst hi;rw[if_pos rfl];split
   ·rw[if_pos (by omega)]; simp
   rw[if_neg (by omega),Array.getElem?_eq_none (by omega)]
  rw[if_neg hi,if_neg (by omega)]
variable {i:TI}{t:Nat}
theorem zC7 (hT:TOk P T) (ht:T t=some i) (hk:i.k = .slice e):P.underlying t=some (.slice e):=by
 obtain⟨d,info,z,b1,b2,_⟩:=hT t i ht;rw[hk]at b2;cases d <;> simp only[tkOf,reduceCtorEq,TK.slice.injEq]at b2
 subst b2; exact b1
def zQd (c:Cx) (G:Nat->Prop) (w:World) (O:Nat->Value) (v:Value) (ob:Ob) (v':Value) (w':World):Prop :=
 w'.os=w.os/\w'.tape=w.tape/\w'.output=w.output/\w.heap.size<=w'.heap.size /\
   (∀ i,i<w.heap.size->some i ≠ blk v->w'.heap[i]? = w.heap[i]?)/\ObAt c G w' O v' ob/\(∀ b,blk v'=some b->blk v=some b∨w.heap.size<=b)
def zRD  (c:Cx) (G:Nat->Prop) (w:World) (Q:World->α->Value->Prop) (v:Value) (e sz:Nat) (rows:List (List α)) (v':Value) (w':World):Prop :=
 w'.os=w.os/\w'.tape=w.tape/\w'.output=w.output/\w.heap.size<=w'.heap.size /\
   (∀ i,i<w.heap.size->some i ≠ blk v->w'.heap[i]? = w.heap[i]?)/\ORow c G w' (Q w') v' e sz rows/\(∀ b,blk v'=some b->blk v=some b∨w.heap.size<=b)
variable {j:TI}{ty:Nat}
theorem zOm {Q:World->α->Value->Prop} (hQ:∀ w s u,Q w s u->u.oneCell'=true) (hQk:∀ w w' s u,Keep G G w w'->Q w s u->Q w' s u) (hT:TOk P T) (ht:T t=some i) (hk:i.k = .slice e) (hj:T e=some j) (hsz':sz=j.size){rows rows':List (List α)}
  (ho:ORow c G w (Q w) v e sz rows) (hx:zR3 w P (Q w) tx sz rows' x) (hb:(rows.length+rows'.length) * j.bytes<=140737488355328) (h63:rows.length+rows'.length<=9223372036854775807) (hw0:c.w0.heap.size<=w.heap.size)
  (hG:∀ b,G b->b<w.heap.size) :
  ∃ v' w',(Builtin.append_ #[t,tx] ty #[v,x]).run P w = .ok v' w'/\zRD c G w Q v e sz (rows++rows') v' w':=by
 subst hsz';have b1:=zC7 hT ht hk;obtain⟨d',info',z',g1,g2,g3,g4,g5,g6,g7,g8,g9,g10⟩:=hT e j hj;have hzs:=zLe g7 g8 g9;obtain⟨⟨news,hs,hreps⟩,hlen'⟩:=hx;have hvn:v = .slice none 0 0∨∃ b cap,v = .slice (some ⟨b,0,none⟩) rows.length cap:=by
  obtain⟨_,_,h⟩:=ho;exact h.imp (fun h=>h.1) (fun⟨b,cap,_,h,_⟩=>⟨b,cap,h⟩)
 have hown:=zLE (hQ w) (P:=P) (tx:=t) b1 ho;obtain⟨hlen,hsz,h⟩:=ho;have hall:∀ r∈rows++rows',r.length=j.size:=fun r hr=>(aN.1 hr).elim (hlen r) (hlen' r)
 have hnl:news.length=rows'.length * j.size:=hs.newsLen;rw[← g4]at hs;have grow:∀ (base:Option Addr) (sCap:Nat) (olds:List Value),v = .slice base rows.length sCap->sCap<rows.length+rows'.length ->
   (Builtin.firstCells info'.size rows.length (.slice base rows.length sCap)).run P w.drew = .ok olds.toArray w.drew->RepsR (Q w) rows.flatten olds ->
   ∃ v' w',(Builtin.append_ #[t,tx] ty #[v,x]).run P w = .ok v' w'/\zRD c G w Q v e j.size (rows++rows') v' w':=by
  intro base sCap olds hv hg hold hro;subst hv;have hrun:=run_append_grow_src (P:=P) w t tx ty e info' z' b1 g3 g6 base rows.length sCap olds hold x rows'.length news hs hg (by omega) (by rw[g5]; exact growslice_fits hg hb);refine⟨_,_,hrun,rfl,rfl,rfl,by simp,fun i hi _=>zBV w.drew _ hi,?_,fun b hbk=>.inr (by simp[blk]at hbk; omega)⟩;have hcap:rows.length+rows'.length<=grownCap w (rows.length+rows'.length) sCap e:=by
   unfold grownCap Question.cut; simp
  have hol:olds.length=rows.length * j.size :=(by rw[hro.1,zAL hlen]);refine⟨hall,hsz,.inr ⟨w.heap.size,grownCap w (rows.length+rows'.length) sCap e,_,by simp,by simpa using hcap,?_,RowBlk.laid (zCm w.drew _),fun hg'=>Nat.lt_irrefl _ (hG _ hg'),.inr hw0,fun i s hi=>?_⟩⟩
  ·simp only[Array.size_append,size_toArray,am,hol,hnl,Builtin.zeroCells,Array.size_map,Array.size_range,hzs];rw[← bq,← bq];congr 1; omega
  have hcat:RepsR (Q w) (rows++rows').flatten (olds++news) :=(by rw[flatten_append]; exact hro.append hreps);have hlt:i<(olds++news).length :=(by rw[hcat.1]; exact(aa.1 hi).1);refine⟨(olds++news)[i],?_,hQk w _ _ _ ⟨fun _ h=>h,fun b hb'=>zBV w.drew _ (hG b hb')⟩ (hcat.2 i s _ hi (ac hlt))⟩;rw[Array.getElem?_append_left (by simpa using hlt)];simp
 rcases h with ⟨rfl,rfl⟩ | ⟨b,cap,cur,rfl,hle,hcs,⟨mk,hmk,hbb⟩,hng,hm,hc⟩
 ·by_cases h0:rows'.length=0
  ·obtain rfl:rows'=[]:=List.length_eq_zero_iff.1 h0;refine⟨.slice none 0 0,w,?_,rfl,rfl,rfl,ar _,fun _ _ _=>rfl,⟨hall,hsz,.inl ⟨rfl,rfl⟩⟩,fun b hb=>by simp[blk]at hb⟩;rcases hs.kind with ⟨e',hk'⟩ | hk' <;>
    (have hcl:=hs.cells
     simp only[an]at hcl;simp[Builtin.append_,zAi w b1,zAi w hk',zAt w g3,hs.len,hcl])
  exact grow none 0 [] rfl (by simp; omega) (by simp[Builtin.firstCells]) ⟨rfl,fun i s v hi=>by simp at hi⟩
 by_cases hroom:rows.length+rows'.length<=cap
 ·have hfit:(rows.length+rows'.length) * j.size<=cur.size :=(by rw[hcs]; exact bh _ hroom);rw[bq]at hfit;have hcell:∀ i,i<cur.size->w.cell? ⟨b,i,none⟩=some (cur.getD i undef):=fun i hi=>by
   simp[World.cell?,hbb,hi]
  have hrun:=run_append_room_src (P:=P) w t tx ty e info' b1 g3 b 0 rows.length cap x rows'.length news hs hroom
   (fun k hk=>by rw[g4,hcell _ (by omega)]; rfl) (fun k hk=>RowBlk.frz hbb hmk (by rw[g4]; omega))
  obtain⟨cur',c1,c2,c3⟩:=zDb b news (0+rows.length * info'.size) w cur hbb;have hrest:=zDU b news (0+rows.length * info'.size) w;refine⟨_,_,hrun,hrest.1,hrest.2.1,hrest.2.2,by rw[zDg]; exact ar _,fun i hi hne=>zCY _ _ _ _ _ (fun e=>hne (by subst e; rfl)),?_,fun b' hb'=>.inl hb'⟩;have hk':Keep G G w (w.setCells b (0+rows.length * info'.size) news):=⟨fun _ h=>h,fun i hi=>zCY _ _ _ _ _ (fun e=>hng (e ▸ hi))⟩;refine⟨hall,hsz,.inr ⟨b,cap,cur',by simp,by simpa using hroom,by rw[c2,hcs],⟨mk,by rw[c2]; exact hmk,c1⟩,hng,hm,fun i s hi=>?_⟩⟩;have hfl:=zAL hlen;rw[flatten_append,aA]at hi;rw[c3];simp only[g4,a8]at hk' ⊢;split at hi
  ·rename_i hlt;rw[hfl]at hlt;rw[if_neg (by omega)];obtain⟨u,hu,hr⟩:=hc i s hi;exact⟨u,hu,hQk w _ _ _ hk' hr⟩
  rename_i hlt;rw[hfl]at hlt hi;have hlt2:=(aa.1 hi).1;rw[← hreps.1]at hlt2;rw[if_pos (by omega)];exact⟨news[i - rows.length * j.size],ac hlt2,hQk w _ _ _ hk' (hreps.2 _ s _ hi (ac hlt2))⟩
 obtain⟨⟨olds,ho1,ho2⟩,_⟩:=hown;rw[← g4]at ho1;exact grow (some ⟨b,0,none⟩) cap olds rfl (by omega) ho1.cellsD ho2
theorem zP1 (hT:TOk P T) (ht:T t=some i) (hk:i.k = .slice e) (hj:T e=some j) (hsz':sz=j.size){rows':List (List S)}
  (ho:ObAt c G w O v (.row e sz rows)) (hx:Reads G w P tx sz rows' x) (hb:(rows.length+rows'.length) * j.bytes<=140737488355328) (h63:rows.length+rows'.length<=9223372036854775807) (hw0:c.w0.heap.size<=w.heap.size)
  (hG:∀ b,G b->b<w.heap.size) :
  ∃ v' w',(Builtin.append_ #[t,tx] ty #[v,x]).run P w = .ok v' w'/\zQd c G w O v (.row e sz (rows++rows')) v' w' :=
 zOm (Q:=Rep G) (fun _ _ _ h=>h.one) (fun _ _ _ _ k h=>h.keep k) hT ht hk hj hsz' ho ⟨hx.src,hx.len⟩ hb h63 hw0 hG
def AQ.keep {w w':World}{x:AV}{u:Value} (k:Keep G G w w') (h:AQ G O w x u):AQ G O w' x u:=⟨h.1.keep k,h.2⟩
theorem zUW (hT:TOk P T) (ht:T t=some i) (hk:i.k = .slice e) (hj:T e=some j) (hsz':sz=j.size){rows rows':List (List AV)}
  (ho:ObAt c G w O v (.arow e sz rows)) (hx:zR3 w P (AQ G O w) tx sz rows' x) (hb:(rows.length+rows'.length) * j.bytes<=140737488355328) (h63:rows.length+rows'.length<=9223372036854775807) (hw0:c.w0.heap.size<=w.heap.size)
  (hG:∀ b,G b->b<w.heap.size) :
  ∃ v' w',(Builtin.append_ #[t,tx] ty #[v,x]).run P w = .ok v' w'/\zQd c G w O v (.arow e sz (rows++rows')) v' w' :=
 zOm (Q:=AQ G O) (fun _ _ _ h=>h.2) (fun _ _ _ _ k h=>h.keep k) hT ht hk hj hsz' ho hx hb h63 hw0 hG
def Reads.any  (h:Reads G w P tx sz rows x):zR3 w P (AQ G O w) tx sz (rows.map (·.map AV.s)) x:=by
 obtain⟨⟨news,h1,h2⟩,h3⟩:=h;have hf:(rows.map (·.map AV.s)).flatten=rows.flatten.map AV.s :=(by simp[map_flatten]);refine⟨⟨news,by simpa using h1,?_⟩,fun r hr=>?_⟩
 ·rw[hf];refine⟨by rw[az]; exact h2.1,fun i s v hs hv=>?_⟩;rw[ao]at hs;obtain⟨s',hs',rfl⟩:=aH.1 hs;have:=h2.2 i s' v hs' hv;exact⟨by simpa only[AVal] using this,this.one⟩
 obtain⟨r',hr',rfl⟩:=be.1 hr;simpa using h3 r' hr'
end
def rowsOf (T:Nat->Option TI) (V:St) (tx:Nat) (x:AV):Option (Nat×List (List S)) :=
 match tk T tx,x with
 | .slice _,.nl sz=>some (sz,[])
 | .slice _,.s (.sl sz rows)=>some (sz,rows)
 | .slice _,.orow k=>match V.hp k with | some (.row _ sz rows)=>some (sz,rows) | _=>none
 | .str,.s (.str l)=>some (1,l.map brow)
 | _,_=>none
def elemOf (T:Nat->Option TI) (t:Nat):Option (Nat×TI) :=
 match T t with
 | some i=>match i.k with
  | .slice e=>match T e with | some j=>some (e,j) | none=>none
  | _=>none
 | none=>none
def zJt (V:St) (x:AV):Option (Option Nat×Nat×Nat×List (List S)) :=
 match x with
 | .nl sz=>some (none,0,sz,[])
 | .orow k=>match V.hp k with | some (.row e sz rows)=>some (some k,e,sz,rows) | _=>none
 | _=>none
def zIn (T:Nat->Option TI) (V:St) (t tx:Nat) (x y:AV):Option (Option Prop×AV×St) :=
 match elemOf T t,zJt V x,rowsOf T V tx y with
 | some (e,j),some (k,e',sz,rows),some (sz',rows') =>
  match Nat.beq sz j.size,Nat.beq sz' j.size,Nat.ble 1 j.size with
  | true,true,true =>
   match k with
   | none=>some (some (rows'.length * j.bytes<=140737488355328/\rows'.length<=9223372036854775807),.orow V.nx,zA6 V (.row e sz rows'))
   | some k=>match Nat.beq e e' with
    | true=>some (some ((rows.length+rows'.length) * j.bytes<=140737488355328/\rows.length+rows'.length<=9223372036854775807),.orow V.nx,zA6 (zHJ V k) (.row e sz (rows++rows')))
    | false=>none
  | _,_,_=>none
 | _,_,_=>none
def zCO (T:Nat->Option TI) (own:Bool) (o:Oper) (V:St):Option (Option Prop×AV×St) :=
 match o.op with
 | .move x | .assign x=>match own&&zAY x,elemOf T o.type with
  | true,some (e,j)=>match Nat.ble 1 j.size with | true=>some (none,.orow V.nx,zA6 V (.row e j.size [])) | false=>none
  | _,_=>none
 | .box t x=>match ((opd T V.env t x).cellsA).all AV.one,AV.ltAll V.nx (opd T V.env t x).cellsA with
  | true,true=>some (none,.op V.nx 0,zA6 V (.box t (opd T V.env t x).cellsA))
  | _,_=>none
 | .alloc t=>match T t with
  | some i=>spine (i.zero.map zAV) fun l=>some (none,.op V.nx 0,zA6 V (.box t l))
  | none=>none
 | .buildSlice t n parts=>match elemOf T t with
  | some (e,j)=>match zKY T V.env e 0 parts.toList with
   | some rows=>match Nat.beq rows.length n,rows.all (fun r=>Nat.beq r.length j.size),Nat.ble 1 j.size,Nat.ble (n * j.size) 16777216 with
    | true,true,true,true=>some (none,.orow V.nx,zA6 V (.row e j.size rows))
    | _,_,_,_=>none
   | none=>none
  | none=>none
 | .makeSlice t l c=>match elemOf T t,opd T V.env 0 l,opd T V.env 0 c with
  | some (e,j),.s (.int _ n),.s (.int _ m)=>match Nat.ble 1 j.size with
   | true=>some (some (0<=n/\n<=m/\m * j.bytes<=281474976710656/\m<=281474976710656),.orow V.nx,zA6 V (.row e j.size (List.replicate n.toNat j.zero)))
   | false=>none
  | _,_,_=>none
 | .load t x=>match opd T V.env 0 x with
  | .op k off=>match V.hp k,T t with
   | some (.box _ cells),some i=>match i.k.agg with
    | true=>match Nat.ble (off+i.size) cells.length with | true=>some (none,.agg ((cells.drop off).take i.size),V) | false=>none
    | false=>match cells[off]? with | some y=>some (none,y,V) | none=>none
   | _,_=>none
  | _=>none
 | .store t x y=>match opd T V.env 0 x,T t with
  | .op k off,some i=>match V.hp k with
   | some (.box bt cells) =>
    let cs:=(opd T V.env t y).cellsA
    match Nat.beq cs.length i.size,Nat.ble (off+i.size) cells.length,cs.all AV.one,AV.ltAll V.nx cs with
    | true,true,true,true=>spine (cells.take off++cs++cells.drop (off+i.size)) fun l=>some (none,.junk,zDW V k (.box bt l))
    | _,_,_,_=>none
   | _=>none
  | .rp k sz j off,some i=>match V.hp k,(opd T V.env t y).cellsS with
   | some (.row e sz' rows),some ss=>match Nat.beq sz sz',Nat.beq ss.length i.size,Nat.ble (off+i.size) sz with
    | true,true,true=>some (some (j<rows.length),.junk,zDW V k (.row e sz (rows.set j ((rows.getD j []).take off++ss++(rows.getD j []).drop (off+i.size)))))
    | _,_,_=>none
   | _,_=>none
  | _,_=>none
 | .indexAddr t x i=>match elemOf T t,opd T V.env t x,opd T V.env 0 i with
  | some (_,j),.orow k,.s (.int _ n)=>match V.hp k with
   | some (.row _ sz rows)=>match Nat.beq sz j.size with | true=>some (some (0<=n/\n<rows.length),.rp k sz n.toNat 0,V) | false=>none
   | _=>none
  | _,_,_=>none
 | .convert src dst x=>match elemOf T src,tk T dst,opd T V.env src x with
  | some (_,j),.str,.orow k=>match j.k,V.hp k with
   | .int .u8,some (.row _ sz rows)=>match Nat.beq sz 1 with | true=>some (some (rows=(rows.map zKv).map brow),.s (.str (rows.map zKv)),V) | false=>none
   | _,_=>none
  | some (_,j),.slice _,.orow k=>match j.k,V.hp k with
   | .int .u8,some (.row _ sz rows)=>match Nat.beq src dst with | true=>some (some (rows ≠ []),.orow k,V) | false=>none
   | _,_=>none
  | _,_,_=>none
 | .slice t x none (some hi) none=>match elemOf T t,opd T V.env t x,opd T V.env 0 hi with
  | some (_,j),.orow k,.s (.int _ n)=>match V.hp k with
   | some (.row e sz rows)=>match Nat.beq sz j.size with | true=>some (some (0<=n/\n<=rows.length),.orow V.nx,zA6 (zHJ V k) (.row e sz (rows.take n.toNat))) | false=>none
   | _=>none
  | _,_,_=>none
 | .call { callee:=.builtin .len,args:=args,argTypes:=ts }=>match args.toList,ts.toList with
  | [x],[t]=>match tk T t,opd T V.env t x with
   | .slice _,.orow k=>match V.hp k with
    | some (.row _ _ rows)=>some (none,.s (.int .i64 (rows.length:Int)),V)
    | _=>none
   | _,_=>none
  | _,_=>none
 | .call { callee:=.builtin .append,args:=args,argTypes:=ts }=>match args.toList,ts.toList with
  | [x,y],[t,tx]=>zIn T V t tx (opd T V.env t x) (opd T V.env tx y)
  | _,_=>none
 | _=>none
def zK4 (T:Nat->Option TI) (V:St) (tx:Nat) (x:AV):Option (Nat×List (List AV)) :=
 match tk T tx,x with
 | .slice _,.nl sz=>some (sz,[])
 | .slice _,.s (.sl sz rows)=>some (sz,rows.map (·.map AV.s))
 | .slice _,.orow k=>match V.hp k with
  | some (.row _ sz rows)=>some (sz,rows.map (·.map AV.s))
  | some (.arow _ sz rows)=>some (sz,rows)
  | _=>none
 | _,_=>none
def zKu (V:St) (x:AV):Option (Nat×Nat×Nat×List (List AV)) :=
 match x with
 | .orow k=>match V.hp k with | some (.arow e sz rows)=>some (k,e,sz,rows) | _=>none
 | _=>none
def zIH (T:Nat->Option TI) (env:Nat->AV) (e:Nat):Nat->List (Nat×Operand)->Option (List (List AV))
 | _,[]=>some []
 | i,(j,x)::r=>match Nat.beq i j,((opd T env e x).cellsA).all AV.one,zIH T env e (i+1) r with
  | true,true,some rs=>some ((opd T env e x).cellsA::rs)
  | _,_,_=>none
def zCA (T:Nat->Option TI) (o:Oper) (V:St):Option (Option Prop×AV×St) :=
 match o.op with
 | .buildSlice t n parts=>match elemOf T t with
  | some (e,j)=>match zIH T V.env e 0 parts.toList with
   | some rows=>match Nat.beq rows.length n,rows.all (fun r=>Nat.beq r.length j.size),Nat.ble 1 j.size,Nat.ble (n * j.size) 16777216 with
    | true,true,true,true=>some (none,.orow V.nx,zA6 V (.arow e j.size rows))
    | _,_,_,_=>none
   | none=>none
  | none=>none
 | .store t x y=>match opd T V.env 0 x,T t with
  | .rp k sz j off,some i=>match V.hp k with
   | some (.arow e sz' rows)=>match Nat.beq sz sz',Nat.beq (opd T V.env t y).cellsA.length i.size,Nat.ble (off+i.size) sz,((opd T V.env t y).cellsA).all AV.one with
    | true,true,true,true=>some (some (j<rows.length),.junk,zDW V k (.arow e sz (rows.set j ((rows.getD j []).take off++(opd T V.env t y).cellsA++(rows.getD j []).drop (off+i.size)))))
    | _,_,_,_=>none
   | _=>none
  | _,_=>none
 | .indexAddr t x i=>match elemOf T t,opd T V.env t x,opd T V.env 0 i with
  | some (_,j),.orow k,.s (.int _ n)=>match V.hp k with
   | some (.arow _ sz rows)=>match Nat.beq sz j.size with | true=>some (some (0<=n/\n<rows.length),.rp k sz n.toNat 0,V) | false=>none
   | _=>none
  | _,_,_=>none
 | .slice t x none (some hi) none=>match elemOf T t,opd T V.env t x,opd T V.env 0 hi with
  | some (_,j),.orow k,.s (.int _ n)=>match V.hp k with
   | some (.arow e sz rows)=>match Nat.beq sz j.size with | true=>some (some (0<=n/\n<=rows.length),.orow V.nx,zA6 (zHJ V k) (.arow e sz (rows.take n.toNat))) | false=>none
   | _=>none
  | _,_,_=>none
 | .call { callee:=.builtin .len,args:=args,argTypes:=ts }=>match args.toList,ts.toList with
  | [x],[t]=>match tk T t,opd T V.env t x with
   | .slice _,.orow k=>match V.hp k with
    | some (.arow _ _ rows)=>some (none,.s (.int .i64 (rows.length:Int)),V)
    | _=>none
   | _,_=>none
  | _,_=>none
 | .call { callee:=.builtin .append,args:=args,argTypes:=ts }=>match args.toList,ts.toList with
  | [x,y],[t,tx]=>match elemOf T t,zKu V (opd T V.env t x),zK4 T V tx (opd T V.env tx y) with
   | some (e,j),some (k,e',sz,rows),some (sz',rows') =>
    match Nat.beq sz j.size,Nat.beq sz' j.size,Nat.beq e e' with
    | true,true,true=>some (some ((rows.length+rows'.length) * j.bytes<=140737488355328/\rows.length+rows'.length<=9223372036854775807),.orow V.nx,zA6 (zHJ V k) (.arow e sz (rows++rows')))
    | _,_,_=>none
   | _,_,_=>none
  | _,_=>none
 | .call { callee:=.builtin .copy,args:=args,argTypes:=ts }=>match args.toList,ts.toList with
  | [x,y],[t,tx]=>match elemOf T t,zKu V (opd T V.env t x),zK4 T V tx (opd T V.env tx y) with
   | some (e,j),some (k,e',sz,rows),some (sz',rows') =>
    match Nat.beq sz j.size,Nat.beq sz' j.size with
    | true,true=>some (some (rows'.length=rows.length),.s (.int .i64 (rows.length:Int)),zDW V k (.arow e' sz rows'))
    | _,_=>none
   | _,_,_=>none
  | _,_=>none
 | _=>none
variable {ob:Ob}{k:Nat}{w:World}{a:Act}{V:St}{O:Nat->Value}{G:Nat->Prop}{c:Cx}
def Conc.blk_lt  (h:Conc c G O V a w) (hk:V.hp k=some ob){b:Nat} (hb:blk (O k)=some b):b<w.heap.size:=by
 have ho:=h.hp k ob hk;cases ob with
 | box cells =>
  obtain⟨b',e,cur,h1,h2,_⟩:=ho;rw[h1]at hb; cases hb;exact(aJ.1 h2).1
 | row e sz rows =>
  obtain⟨_,_,h1⟩:=ho;rcases h1 with ⟨h1,_⟩ | ⟨b',cap,cur,h1,_,_,h2,_⟩
  ·rw[h1]at hb; cases hb
  rw[h1]at hb; cases hb;exact h2.lt
 | arow e sz rows =>
  obtain⟨_,_,h1⟩:=ho;rcases h1 with ⟨h1,_⟩ | ⟨b',cap,cur,h1,_,_,h2,_⟩
  ·rw[h1]at hb; cases hb
  rw[h1]at hb; cases hb;exact h2.lt
 | any τ xs=>
 obtain⟨b',o,vs,h1,h2,_⟩:=ho;rw[h1]at hb; cases hb;exact(aJ.1 h2).1
theorem Ext.own  (h:∀ b,G b->b<w.heap.size) (o:Obj):Ext G G w (w.alloc o) :=
 ⟨rfl,rfl,rfl,by simp,fun _ hb=>zBV w o hb,fun _ h=>h,fun _ h=>.inl h,fun b hb=>by have:=h b hb; simp; omega⟩
variable {v:Value}
def Conc.fresh  (h:Conc c G O V a w) (cur:Array Value) (e:TypeId) (hb:∀ b,blk v=some b->b=w.heap.size)
  (ho:Conc c G O V a (w.alloc (.cells cur e))->ObAt c G (w.alloc (.cells cur e)) O v ob) (hl:ob.lt V.nx=true) :
  ∃ O',(∀ k,k<V.nx->O' k=O k)/\O' V.nx=v/\Conc c G O' (zA6 V ob) a (w.alloc (.cells cur e)):=by
 have h1:=h.ext (Ext.own h.lt (.cells cur e));obtain⟨O',b1,b2,b3⟩:=h1.make (ho h1) hl (fun k ob' hk b hv e'=>by
  have:=h.blk_lt hk e';rw[hb b hv]at this
  omega)
 exact⟨O',b1,b2,b3⟩
def zIZ  (h:Conc c G O V a w):c.mine w.heap.size:=.inr h.fr.size
def zI0  (h:Conc c G O V a w):¬ G w.heap.size:=fun hg=>Nat.lt_irrefl _ (h.lt _ hg)
def Conc.freshRow  (h:Conc c G O V a w) (cur:Array Value) (e sz cap:Nat) (rows:List (List S)) (hlen:∀ r∈rows,r.length=sz) (hsz:0<sz)
  (hcap:rows.length<=cap) (hcur:cur.size=cap * sz) (hc:∀ (i:Nat) s,rows.flatten[i]? = some s->∃ u,cur[i]? = some u/\Rep G w s u) :
  ∃ O',(∀ k,k<V.nx->O' k=O k)/\O' V.nx = .slice (some ⟨w.heap.size,0,none⟩) rows.length cap/\Conc c G O' (zA6 V (.row e sz rows)) a (w.alloc (.cells cur e)) :=
 h.fresh cur e (by simp[blk]) (fun h1=>⟨hlen,hsz,.inr ⟨w.heap.size,cap,cur,rfl,hcap,hcur,RowBlk.laid (zCm _ _),zI0 h,zIZ h,fun i s hi =>
  let ⟨u,hu,hr⟩:=hc i s hi; ⟨u,hu,hr.keep ((Ext.own h.lt _).keep h.lt)⟩⟩⟩) rfl
variable {vs:List Value}
def zK3 {ss:List S} (h:Reps G w ss vs){i:Nat}{s:S} (hi:ss[i]? = some s):∃ u,vs[i]? = some u/\Rep G w s u:=by
 have hlt:i<vs.length :=(by rw[h.1]; exact(aa.1 hi).1);exact⟨vs[i],ac hlt,h.2 i s _ hi (ac hlt)⟩
def zHc (z:List S):∀ n i,(List.replicate n z).flatten[i]? = if i<n * z.length then z[i % z.length]? else none
 | 0,i=>by simp
 | n+1,i=>by
  rw[replicate_succ,flatten_cons,aA];have e:(n+1) * z.length=n * z.length+z.length :=(by rw[bq]; omega);split
  ·rename_i hlt;rw[if_pos (by omega),Nat.mod_eq_of_lt hlt]
  ·rename_i hlt;rw[zHc z n (i - z.length)];by_cases h2:i<(n+1) * z.length
   ·rw[if_pos h2,if_pos (by omega),← Nat.mod_eq_sub_mod (by omega)]
   ·rw[if_neg h2,if_neg (by omega)]
variable {t:Nat}{T:Nat->Option TI}
theorem zC8 {e:Nat}{j:TI} (h:elemOf T t=some (e,j)):∃ i,T t=some i/\i.k = .slice e/\T e=some j:=by
 unfold elemOf at h;split at h
 ·rename_i i hi;split at h
  ·rename_i e' hk;split at h
   ·rename_i j' hj; cases h; exact⟨i,hi,hk,hj⟩
   cases h
  cases h
 cases h
variable {P:Program}
theorem zFd  (hT:TOk P T){e:Nat} (h:tk T t = .slice e):P.underlying t=some (.slice e):=by
 obtain⟨d,hd,hk⟩:=zCN hT h (by simp);cases d <;> simp only[tkOf,reduceCtorEq,TK.slice.injEq]at hk
 subst hk; exact hd
variable {y:AV}{sz tx:Nat}
theorem zGM  (hT:TOk c.P T) (hc:Conc c G O V a w){rows:List (List S)} (h:rowsOf T V tx y=some (sz,rows))
  {v:Value} (hv:AVal G w O y v):Reads G w c.P tx sz rows v:=by
 unfold rowsOf at h;split at h
 ·rename_i e sz0 hk;cases h;have hu:=zFd hT hk;simp only[AVal]at hv; subst hv;exact⟨⟨[],Src.ofNil w hu 0,⟨rfl,fun i s v hs=>by simp at hs⟩⟩,fun r hr=>by cases hr⟩
 ·rename_i e sz0 rows0 hk;cases h;have hu:=zFd hT hk;simp only[AVal]at hv;exact yAQ hu hv (.inr trivial)
 ·rename_i e k hk;split at h
  ·rename_i e0 sz0 rows0 hh;cases h;have hu:=zFd hT hk;simp only[AVal]at hv;obtain⟨rfl,_⟩:=hv;exact zYO hu (hc.hp k _ hh)
  cases h
 ·rename_i l hk;cases h;obtain⟨d,hd,hk'⟩:=zCN hT hk (by simp);cases d <;> simp only[tkOf,reduceCtorEq]at hk'
  simp only[AVal,Rep]at hv; subst hv;exact zYP hd
 cases h
def zWs  (hc:Conc c G O V a w) (hk:V.hp k=some ob) :
  ∀ k' ob',(zHJ V k).hp k'=some ob'->∀ b,blk (O k')=some b->some b ≠ blk (O k):=fun k' ob' hk' b hb e=>by
 unfold zHJ at hk';dsimp only at hk';cases e1:Nat.beq k' k with
 | true=>rw[e1,ag]at hk'; cases hk'
 | false=>rw[e1,ae]at hk';exact hc.inj k' k ob' ob hk' hk (Nat.ne_of_beq_eq_false e1) b hb e.symm
def row_block  (h:ObAt c G w O v ob):∀ b,blk v=some b->¬ G b/\c.mine b:=fun b hb=>by
 cases ob with
 | box cells=>obtain⟨b',e,cur,rfl,_,h3,h4,_⟩:=h;cases hb; exact⟨h3,h4⟩
 | row e sz rows =>
  obtain⟨_,_,h1⟩:=h;rcases h1 with ⟨rfl,_⟩ | ⟨b',cap,cur,rfl,_,_,_,h3,h4,_⟩
  ·cases hb
  cases hb; exact⟨h3,h4⟩
 | arow e sz rows =>
  obtain⟨_,_,h1⟩:=h;rcases h1 with ⟨rfl,_⟩ | ⟨b',cap,cur,rfl,_,_,_,h3,h4,_⟩
  ·cases hb
  cases hb; exact⟨h3,h4⟩
 | any τ xs=>obtain⟨b',o,vs,h1,_,h3,h4,_⟩:=h;rw[h1]at hb; cases hb; exact⟨h3,h4⟩
variable {w':World}
def Conc.turn  (hc:Conc c G O V a w){ob':Ob} (hk:V.hp k=some ob){v':Value}
  (h:zQd c G w O (O k) ob' v' w') (hl:ob'.lt V.nx=true) :
  ∃ O',(∀ j,j<V.nx->O' j=O j)/\O' V.nx=v'/\Conc c G O' (zA6 (zHJ V k) ob') a w':=by
 obtain⟨h1,h2,h3,h4,h5,h6,h7⟩:=h;have hd:=hc.drop k;have hn:=zWs hc hk;have ho:=hd.other (w':=w') (blk (O k)) (fun k' o' hk' b hb=>hn k' o' hk' b hb) (fun b hb=>row_block (hc.hp k ob hk) b hb) h1 h2 h3 h4 h5;obtain⟨O',b1,b2,b3⟩:=ho.make h6 hl (fun k' o' hk' b hb e=>by
  rcases h7 b hb with h7 | h7
  ·exact hn k' o' hk' b e h7.symm
  have:=hd.blk_lt hk' e; omega)
 exact⟨O',b1,b2,b3⟩
def zA7 {n:Nat}:∀ {l:List AV}{q:Nat}{y:AV},AV.ltAll n l=true->l[q]? = some y->y.lt n=true
 | [],_,_,_,h=>by simp at h
 | a::l,0,y,h,hq=>by
  simp only[AV.ltAll,af]at h;simp at hq; subst hq; exact h.1
 | a::l,q+1,y,h,hq=>by
  simp only[AV.ltAll,af]at h;exact zA7 h.2 (by simpa using hq)
def zCB {n:Nat}:∀ {l:List AV},(∀ (q:Nat) (y:AV),l[q]? = some y->y.lt n=true)->AV.ltAll n l=true
 | [],_=>rfl
 | a::l,h=>by
  simp only[AV.ltAll,af];exact⟨h 0 a rfl,zCB fun q y hq=>h (q+1) y (by simpa using hq)⟩
variable {n:Nat}
def zYm  (l:List S):AV.ltAll n (l.map AV.s)=true:=by
 induction l with
 | nil=>rfl
 | cons a l ih=>simp[AV.ltAll,AV.lt,ih]
theorem zQO {row:List S} (h:zMG T t row=some y):y.lt n=true:=by
 unfold zMG at h;split at h
 ·cases h
 split at h
 ·split at h
  ·cases h; simp only[AV.lt]; exact zYm _
  cases h
 split at h
 ·cases h; rfl
 cases h
def zE1 {α:Type} (sz:Nat):∀ {rows:List (List α)}{j q:Nat},(∀ r∈rows,r.length=sz)->(hj:j<rows.length)->j * sz<=q->q<j * sz+sz->rows.flatten[q]? = (rows[j])[q - j * sz]?
 | [],_,_,_,hj,_,_=>by simp at hj
 | r::rows,0,q,hl,hj,h1,h2=>by
  have hr:r.length=sz:=hl r (by simp);rw[flatten_cons,aA,if_pos (by omega)]; simp
 | r::rows,j+1,q,hl,hj,h1,h2=>by
  have hr:r.length=sz:=hl r (by simp);rw[bq]at h1 h2;rw[flatten_cons,aA,if_neg (by omega),zE1 sz (j:=j) (fun r hr=>hl r (by simp[hr])) (by simpa using hj) (by omega) (by omega)];simp only[getElem_cons_succ];congr 1;rw[bq]; omega
def zJS {α:Type} (sz:Nat):∀ {rows:List (List α)}{j:Nat}{nr:List α},(∀ r∈rows,r.length=sz)->j<rows.length->nr.length=sz->∀ {q:Nat},
  (rows.set j nr).flatten[q]? = if j * sz<=q/\q<j * sz+sz then nr[q - j * sz]? else rows.flatten[q]?
 | [],_,_,_,hj,_,_=>by simp at hj
 | r::rows,0,nr,hl,hj,hn,q=>by
  have hr:r.length=sz:=hl r (by simp);rw[set_cons_zero,flatten_cons,flatten_cons,aA,aA,hn,hr];by_cases h:q<sz
  ·rw[if_pos h,if_pos (by omega)]; simp
  ·rw[if_neg h,if_neg (by omega),if_neg h]
 | r::rows,j+1,nr,hl,hj,hn,q=>by
  have hr:r.length=sz:=hl r (by simp);rw[set_cons_succ,flatten_cons,flatten_cons,aA,aA,hr,zJS sz (fun r hr=>hl r (by simp[hr])) (by simpa using hj) hn,bq];by_cases h:q<sz
  ·rw[if_pos h,if_pos h,if_neg (by omega)]
  ·rw[if_neg h,if_neg h];by_cases h2:j * sz<=q - sz/\q - sz<j * sz+sz
   ·rw[if_pos h2,if_pos (by omega)]; congr 1; omega
   ·rw[if_neg h2,if_neg (by omega)]
def zN9 {xs:List AV} (h:AVals G w O xs vs) (ho:xs.all AV.one=true):∀ u∈vs,u.oneCell'=true:=fun u hu=>by
 obtain⟨m,hm⟩:=bp hu;have hlt:m<xs.length :=(by rw[← h.length]; exact(aa.1 hm).1);obtain⟨u',h1,h2⟩:=h.get (ac hlt);rw[hm]at h1; cases h1;exact AVal.one (bo.1 ho _ (aV hlt)) h2
def zGi {o:Oper}{b:Builtin}{args:Array Operand}{ts:Array TypeId} (ho:o.op = .call { callee:=.builtin b,args:=args,argTypes:=ts })
  (h:∀ cs,(builtin b ts o.type cs (args.map a.eval)).run P w = .ok (.value v) w'):(execOp a.eval o).run P w = .ok (.value v) w':=by
 simp[execOp,ho,resolve,invoke,h]
theorem yCr  (hT:TOk c.P T)
  (hc:Conc c G O V a w) {o:Oper} {t:Nat} {y:Operand} (ho:o.op = .load t y) {k sz i off e':Nat} (e:opd T V.env 0 y = .rp k sz i off) {rows:List (List S)} (hh:V.hp k=some (.row e' sz rows)) (hφ:i<rows.length) {x:AV}
  (hl:zMG T t ((rows.getD i []).drop off)=some x) {K:Act->World->Prop} {Q:Exit->Act->World->Prop}
  (hK':∀ v,AVal G w O x v->x.lt V.nx=true->K (a.put o.dst v) w):o.wp c.P a w K Q:=by
 have hρ:∀ ty x,AVal G w O (opd T V.env ty x) (a.eval x):=zEO hc T;have hy:=hρ 0 y;rw[e]at hy;simp only[AVal]at hy;obtain⟨b,n,cp,hβ,hv⟩:=hy;have ho':=hc.hp k _ hh;obtain⟨hlen,hs0,ho'⟩:=ho';rcases ho' with ⟨_,rfl⟩ | ⟨b',cap,cur,o1,o2,o3,⟨mk,hmk,o4⟩,o5,o6,o7⟩
 ·simp at hφ
 rw[hβ]at o1;cases o1;have hrow:∀ q s,(rows.getD i [])[q]? = some s->∃ u,w.cell? ⟨b,i * sz+q,none⟩=some u/\Rep G w s u:=fun q s hq=>by
  have hq':rows.flatten[i * sz+q]? = some s:=by
   have hg:rows.getD i []=rows[i] :=(by simp[ac hφ]);rw[hg]at hq;have hql:q<sz :=(by rw[← hlen rows[i] (aV hφ)]; exact(aa.1 hq).1);have:∀ (rs:List (List S)) (i:Nat) (hi:i<rs.length),(∀ r∈rs,r.length=sz)->∀ q,q<sz->rs.flatten[i * sz+q]? = (rs[i])[q]?:=by
    intro rs;induction rs with
    | nil=>intro i hi; simp at hi
    | cons r rs ih=>
    intro i hi hl q hq;have hr:r.length=sz:=hl r (by simp);rw[flatten_cons,aA];cases i with
    | zero=>rw[if_pos (by omega)]; simp
    | succ i=>
    rw[if_neg (by rw[bq]; omega)];have:=ih i (by simpa using hi) (fun r hr=>hl r (by simp[hr])) q hq;rw[show(i+1) * sz+q - r.length=i * sz+q by rw[bq]; omega,this];simp
   rw[this rows i hφ hlen q hql,hq]
  obtain⟨u,hu,hr⟩:=o7 _ s hq';exact⟨u,by simp[World.cell?,o4,hu],hr⟩
 obtain⟨u,hu,hr⟩:=zLH (O:=O) hT hl (b:=b) (off:=i * sz+off) fun q s hq=>by
  rw[List.getElem?_drop]at hq;rw[Nat.add_assoc]; exact hrow (off+q) s hq
 rw[← hv]at hu;exact zAA (v:=u) (w':=w) (by unfold execOp; rw[ho]; simp[hu]) (hK' u hr (zQO hl))
variable {V':St}
def qB {P:Prop} (h:P:=by simp[hv,Instr.storeAt,Instr.sureAddr,storeVar,zAt w b3,hsz2,hst]):P:=h
theorem yDK  (hT:TOk c.P T)
  (hc:Conc c G O V a w) {own:Bool} {o:Oper} {φ:Option Prop} {x:AV} (h:zCO T own o V=some (φ,x,V')) (hφ:φ.getD True) {K:Act->World->Prop} {Q:Exit->Act->World->Prop}
  (hK':∀ G' O' w' v,Conc c G' O' V' a w'->AVal G' w' O' x v->x.lt V'.nx=true->K (a.put o.dst v) w'):o.wp c.P a w K Q:=by
 have hK:=hK' G;have hρ:∀ ty x,AVal G w O (opd T V.env ty x) (a.eval x):=zEO hc T;have hlt:∀ ty x,(opd T V.env ty x).lt V.nx=true:=zMl hc.envlt T;have nilrow:∀ {y:Operand} {e:Nat} {j:TI},(execOp a.eval o).run c.P w = .ok (.value (a.eval y)) w->zAY y=true->Nat.ble 1 j.size=true->x = .orow V.nx->V'=zA6 V (.row e j.size [])->o.wp c.P a w K Q:=by
  intro y e j hr hn hs hx hσ;subst hx; subst hσ;have hy:a.eval y = .slice none 0 0:=by
   unfold zAY at hn;split at hn
   ·rfl
   cases hn
  obtain⟨O',b1,b2,b3⟩:=hc.make (ob:=.row e j.size []) (v:=.slice none 0 0) ⟨fun r hr=>(by cases hr),aj hs,.inl ⟨rfl,rfl⟩⟩ rfl (fun _ _ _ b hb=>by cases hb);refine zAA hr (hK O' w _ b3 ?_ (by simp[AV.lt,zA6]));simp only[AVal];rw[b2,hy];exact⟨rfl,_,_,_,rfl⟩
 unfold zCO at h;simp only[zCt]at h;split at h;case h_1 y ho =>
  split at h
  ·rename_i e j hn hej;split at h
   ·rename_i hs;cases h;simp only[af]at hn;exact nilrow (y:=y) (by simp[execOp,ho]) hn.2 hs rfl rfl
   cases h
  cases h
 case h_2 y ho =>
  split at h
  ·rename_i e j hn hej;split at h
   ·rename_i hs;cases h;simp only[af]at hn;exact nilrow (y:=y) (by simp[execOp,ho]) hn.2 hs rfl rfl
   cases h
  cases h
 case h_3 t y ho =>
  split at h
  ·rename_i h1 h2;cases h;have hv:=zG9 (hρ t y) rfl h1;obtain⟨O',b1,b2,b3⟩:=hc.fresh (a.eval y).cells t (ob:=.box t (opd T V.env t y).cellsA) (v:=.pointer (some ⟨w.heap.size,0,none⟩)) (by simp[blk]) (fun h3 =>
    ⟨_,_,_,rfl,zCm _ _,zI0 hc,zIZ hc,hv.keep ((Ext.own hc.lt _).keep hc.lt),zN9 hv h1,rfl⟩) (by simpa [Ob.lt] using h2)
   refine zAA (v:=.pointer (some ⟨w.heap.size,0,none⟩)) (by simp[execOp,ho,Instr.box,newVar,newRow]) (hK O' _ _ b3 ?_ (by simp[AV.lt,zA6]));simp only[AVal];exact⟨_,b2,rfl⟩
  cases h
 case h_4 t ho =>
  split at h
  ·rename_i i hi;cases h;obtain⟨d,info,z,b1,b2,b3,b4,b5,b6,b7,b8,b9,b10⟩:=hT t i hi;have hz:AVals G w O (i.zero.map zAV) z.cells.toList:=by
    have hzz:AVals G w O (i.zero.map zAV) (i.zero.map S.zval):=AVals.mk (by simp) fun m y v hy hv=>by
     rw[ao]at hy hv;cases hs:i.zero[m]? with
     | none=>rw[hs]at hy; simp at hy
     | some s=>
     rw[hs]at hy hv; simp at hy hv; subst hy; subst hv;exact zRC (bo.1 b10 s (av hs))
    subst b7;cases hag:i.k.agg with
    | true=>simpa [Value.cells] using hzz
    | false=>
    have h1:=b9 hag;rw[← b8]at h1;obtain⟨s,hs⟩:=aT.1 h1;have hz1:s.zval.oneCell'=true :=(by cases s <;> rfl);rw[hs]at hzz ⊢
    simpa [cells_one hz1] using hzz
   have hall:(i.zero.map zAV).all AV.one=true:=yC3 _;have hltz:AV.ltAll V.nx (i.zero.map zAV)=true:=zOF _;obtain⟨O',c1,c2,c3⟩:=hc.fresh z.cells t (ob:=.box t (i.zero.map zAV)) (v:=.pointer (some ⟨w.heap.size,0,none⟩)) (by simp[blk]) (fun h3 =>
    ⟨_,_,_,rfl,zCm _ _,zI0 hc,zIZ hc,hz.keep ((Ext.own hc.lt _).keep hc.lt),zN9 hz hall,rfl⟩) (by simpa [Ob.lt] using hltz)
   refine zAA (v:=.pointer (some ⟨w.heap.size,0,none⟩)) (by simp[execOp,ho,Instr.alloc,newVar,newRow,zHn w b3 b6]) (hK O' _ _ c3 ?_ (by simp[AV.lt,zA6]));simp only[AVal];exact⟨_,c2,rfl⟩
  cases h
 case h_5 t n parts ho =>
  split at h
  ·rename_i e j hej;split at h
   ·rename_i rows hp;split at h
    ·rename_i h1 h2 h3 h4;cases h;obtain⟨i,ht,hk,hj⟩:=zC8 hej;have h1:=ab h1;have h3:=aj h3;have h4:=aj h4;have hlen:∀ r∈rows,r.length=j.size:=fun r hr=>ab (bo.1 h2 r hr)
     obtain⟨p1,p2,p3⟩:=zLA hρ hp;have hus:∀ v∈parts.toList.map (fun p=>a.eval p.2),v.cells.size=j.size:=fun v hv=>by
      obtain⟨q,hq,rfl⟩:=be.1 hv;obtain⟨m,hm⟩:=bp hq;have hlt:m<rows.length :=(by rw[p2]; exact(aa.1 hm).1);have:=(p3 m rows[m] q (ac hlt) hm).1;rw[hlen _ (aV hlt)]at this
      exact qA
     have hrun:=run_buildSlice (w:=w) hT (n:=n) ht hk hj (parts.toList.map fun p=>a.eval p.2) (parts.map fun(i,x)=>(i,a.eval x)) (by rw[← p1]; simp) hus (by rw[az,← p2,h1]) h3 h4;have hreps:Reps G w rows.flatten ((parts.toList.map fun p=>a.eval p.2).map fun v=>v.cells.toList).flatten:=by
      refine zIK (by simp[p2]) fun m r vs hr hvs=>?_
      simp only[ao]at hvs;cases hpm:parts.toList[m]? with
      | none=>rw[hpm]at hvs; simp at hvs
      | some q=>rw[hpm]at hvs; simp at hvs; subst hvs; exact p3 m r q hr hpm
     obtain⟨O',b1,b2,b3⟩:=hc.freshRow (((parts.toList.map fun p=>a.eval p.2).map fun v=>v.cells.toList).flatten.toArray) e j.size n rows hlen h3 (by omega)
      (by have:=hreps.1; rw[zAL hlen,h1]at this; simpa using this) (fun i s hi=>by
       obtain⟨u,hu,hr⟩:=zK3 hreps hi;exact⟨u,by simpa using hu,hr⟩)
     refine zAA (by unfold execOp; rw[ho]; simp only[Sem.run_bind]; rw[hrun]; rfl) (hK O' _ _ b3 ?_ (by simp[AV.lt,zA6]));simp only[AVal];exact⟨by rw[b2,h1],_,_,_,rfl⟩
    cases h
   cases h
  cases h
 case h_6 t l c0 ho =>
  split at h
  ·rename_i e j k1 n k2 m hej hl hcp;split at h
   ·rename_i hs;cases h;obtain⟨i,ht,hk,hj⟩:=zC8 hej;have hsz:=aj hs;obtain⟨d',info',z',g1,g2,g3,g4,g5,g6,g7,g8,g9,g10⟩:=hT e j hj;have hu:=zC7 hT ht hk;have hzs:=zLe g7 g8 g9;simp only[aF]at hφ;obtain⟨f1,f2,f3,f4⟩:=hφ;have hl':=hρ 0 l; rw[hl]at hl'; simp only[AVal,Rep]at hl';have hc':=hρ 0 c0; rw[hcp]at hc'; simp only[AVal,Rep]at hc';have hz:Reps G w j.zero z'.cells.toList:=by
     have hzz:Reps G w j.zero (j.zero.map S.zval):=⟨by simp,fun m s v hs hv=>by
      rw[ao,hs]at hv; simp at hv; subst hv
      exact S.zrep (bo.1 g10 s (av hs))⟩
     subst g7;cases hag:j.k.agg with
     | true=>simpa [Value.cells] using hzz
     | false=>
     have h1:=g9 hag;rw[← g8]at h1;obtain⟨s,hs⟩:=aT.1 h1;have hz1:s.zval.oneCell'=true :=(by cases s <;> rfl);rw[hs]at hzz ⊢
     simpa [cells_one hz1] using hzz
    have hwrap:∀ q:Int,0<=q->q<=281474976710656->i64.wrap q=q:=fun q h1 h2=>by
     have e:q % (2 ^ 64:Int)=q:=Int.emod_eq_of_lt h1 (by omega);simp only[IntKind.wrap,IntKind.bits,IntKind.signed,e];rw[if_neg (by simp; omega)]
    have hlen:∀ r∈List.replicate n.toNat j.zero,r.length=j.size:=fun r hr=>by rw[(List.mem_replicate.1 hr).2,g8]
    have hcell:∀ q,((Array.range (m.toNat * j.size)).map fun x=>z'.cells[x % z'.cells.size]!)[q]? = if q<m.toNat * j.size then z'.cells[q % j.size]? else none:=fun q=>by
     rw[Array.getElem?_map];by_cases hq:q<m.toNat * j.size
     ·rw[if_pos hq,Array.getElem?_range,if_pos hq];have h2:q % j.size<z'.cells.size :=(by rw[hzs]; exact Nat.mod_lt _ (by omega));simp only[bu,hzs];rw[Array.getElem?_eq_getElem h2,getElem!_pos z'.cells _ h2]
     rw[if_neg hq,Array.getElem?_range,if_neg hq]; rfl
    obtain⟨O',b1,b2,b3⟩:=hc.freshRow ((Array.range (m.toNat * j.size)).map fun x=>z'.cells[x % z'.cells.size]!) e j.size m.toNat (List.replicate n.toNat j.zero) hlen hsz (by simp; omega) (by simp) (fun i s hi=>by
     rw[zHc]at hi;split at hi
     ·rename_i hlt
      rw[g8]at hlt hi;obtain⟨u,hu,hr⟩:=zK3 hz hi;refine⟨u,?_,hr⟩
      rw[hcell,if_pos (a9 hlt (bh _ (by omega)))]
      simpa using hu
     cases hi)
    have hrun:(Instr.makeSlice t (a.eval l) (a.eval c0)).run c.P w = .ok (.slice (some ⟨w.heap.size,0,none⟩) n.toNat m.toNat) (w.alloc (.cells ((Array.range (m.toNat * j.size)).map fun x=>z'.cells[x % z'.cells.size]!) e)):=by
     have f3':(j.bytes:Int) * m<=281474976710656:=by rw[Int.mul_comm]; exact f3
     by_cases h0:m.toNat * j.size=0
     ·simp[Instr.makeSlice,zAi w hu,hl',hc',asInt,asIntOf,zFT w g3,g5,hwrap m (by omega) f4,hwrap n f1 (by omega),zAt w g3,g4,h0,newRow];rw[if_neg (by omega)];simp[zAt w g3,g4,h0,show Array.range 0 = #[] from rfl]
     simp[Instr.makeSlice,zAi w hu,hl',hc',asInt,asIntOf,zFT w g3,g5,hwrap m (by omega) f4,hwrap n f1 (by omega),zAt w g3,g4,h0,newRow,zHn w g3 g6];intro hbad;exfalso;omega
    refine zAA (by unfold execOp; rw[ho]; simp only[Sem.run_bind]; rw[hrun]; rfl) (hK O' _ _ b3 ?_ (by simp[AV.lt,zA6]));simp only[AVal];exact⟨by rw[b2]; simp,_,_,_,rfl⟩
   cases h
  cases h
 case h_7 t y ho =>
  split at h
  ·rename_i k off e;have hy:=hρ 0 y;rw[e]at hy;simp only[AVal]at hy;obtain⟨b,hβ,hv⟩:=hy;split at h
   ·rename_i cells i hh hi;obtain⟨d,info,z,b1,b2,b3,b4,_⟩:=hT t i hi;have ho':=hc.hp k _ hh;obtain⟨b',e',cur,o1,o2,o3,o4,o5,o6⟩:=ho';rw[hβ]at o1;cases o1;have hltc:=(hc.hplt k _ hh).2;simp only[Ob.lt]at hltc;have hcell:∀ q v,cur[q]? = some v->w.cell? ⟨b,q,none⟩=some v:=fun q v hq=>by simp[World.cell?,o2,hq]
    split at h
    ·rename_i hag;split at h
     ·rename_i hle;cases h;have hle:=aj hle;have hl:=o5.length;simp only[Array.length_toList]at hl;have hlc:=run_loadCells_list (P:=c.P) w ⟨b,off,none⟩ ((cur.toList.drop off).take i.size) fun q v hq=>by
       rw[aU]at hq;split at hq
       ·rw[List.getElem?_drop,aI]at hq;rw[addr_add]; exact hcell _ _ hq
       cases hq
      have hlen:((cur.toList.drop off).take i.size).length=i.size :=(by simp; omega);rw[hlen]at hlc;refine zAA (v:=.agg ((cur.toList.drop off).take i.size).toArray) (w':=w) ?_ (hK O w _ hc ?_ ?_)
      ·unfold execOp; rw[ho];simp[hv,Instr.loadAt,Instr.sureAddr,loadVar,zDV w b1,b2,hag,zAt w b3,b4,hlc]
      ·simp only[AVal];exact⟨_,rfl,(o5.drop off).take i.size⟩
      simp only[AV.lt];refine zCB fun q y hq=>?_
      rw[aU]at hq;split at hq
      ·rw[List.getElem?_drop]at hq; exact zA7 hltc hq
      cases hq
     cases h
    rename_i hag;split at h
    ·rename_i z hz;cases h;obtain⟨u,hu,hr⟩:=o5.get hz;rw[aI]at hu;refine zAA (v:=u) (w':=w) ?_ (hK O w _ hc hr (zA7 hltc hz));unfold execOp; rw[ho];simp[hv,Instr.loadAt,Instr.sureAddr,loadVar,zDV w b1,b2,hag,hcell _ _ hu]
    cases h
   cases h
  cases h
 case h_8 t y z ho =>
  split at h
  ·rename_i k off i e hi;have hy:=hρ 0 y;rw[e]at hy;simp only[AVal]at hy;obtain⟨b,hβ,hv⟩:=hy;split at h
   ·rename_i bt cells hh;try dsimp only at h
    split at h
    ·rename_i q1 q2 q3 q4;cases h;have q1:=ab q1;have q2:=aj q2;obtain⟨d,info,zz,b1,b2,b3,b4,_⟩:=hT t i hi;obtain⟨b',e',cur,o1,o2,o3,o4,o5,o6,o7⟩:=hc.hp k _ hh;rw[hβ]at o1;cases o1;have hz:=zG9 (hρ t z) rfl q3;have hl:=o5.length;simp only[Array.length_toList]at hl;have hzl:=hz.length;have hone:=zN9 hz q3;have hst:=run_storeCells_cells (P:=c.P) b off (a.eval z).cells.toList 0 w
      (fun j hj=>by
       have h9:off+j<cur.size :=(by omega);simp[World.cell?,o2,h9]) (fun j hj=>by simp[World.frozen?,o2]) hone
     obtain⟨cur',d1,d2,d3⟩:=zDb b (a.eval z).cells.toList (off+0) w cur o2;have hrest:=zDU b (a.eval z).cells.toList (off+0) w;have hoff:off+0=off:=rfl;rw[hoff]at hst d1 d3 hrest;have hsz2:(a.eval z).cells.size=info.size :=(by rw[b4,← q1,← hzl]; simp);have hwr:=hc.write (w':=w.setCells b off (a.eval z).cells.toList) (ob':=.box bt (cells.take off++(opd T V.env t z).cellsA++cells.drop (off+i.size))) hh (b:=b) (by rw[hβ]; rfl) o3 o4 hrest.1 hrest.2.1 hrest.2.2
      (zDg _ _ _ _) (fun q hq=>zCY _ _ _ _ _ hq) (fun hk=>by
       refine⟨b,e',cur',hβ,d1,o3,o4,?_,?_,o7⟩
       ·refine AVals.mk ?_ fun q x v hx hv'=>?_
        ·simp; omega
        rw[aI,d3]at hv';rw[aA,aA]at hx;simp only[am,bg]at hx;have hm:min off cells.length=off :=(by omega);rw[hm]at hx
        by_cases g1:q<off
        ·rw[if_neg (by omega)]at hv';rw[if_pos (by omega),if_pos g1,aU,if_pos g1]at hx;obtain⟨u,h1,h2⟩:=o5.get hx;rw[aI,hv']at h1;cases h1; exact h2.keep hk
        by_cases g2:q<off+(opd T V.env t z).cellsA.length
        ·rw[if_pos (by omega)]at hv';rw[if_pos g2,if_neg g1]at hx;obtain⟨u,h1,h2⟩:=hz.get hx;rw[hv']at h1;cases h1; exact h2.keep hk
        rw[if_neg (by omega)]at hv';rw[if_neg g2,List.getElem?_drop]at hx;obtain⟨u,h1,h2⟩:=o5.get hx;rw[show off+i.size+(q - (off+(opd T V.env t z).cellsA.length))=q by omega,aI,hv']at h1;cases h1; exact h2.keep hk
       ·intro u hu;obtain⟨m,hm⟩:=bp hu;rw[aI,d3]at hm;split at hm
        ·exact hone u (av hm)
        exact o6 u (av (by rw[aI]; exact hm))) (by
       simp only[Ob.lt]
       have hlc:=(hc.hplt k _ hh).2;simp only[Ob.lt]at hlc;refine zCB fun q x hx=>?_
       rw[aA,aA]at hx;split at hx
       ·split at hx
        ·rw[aU]at hx;split at hx
         ·exact zA7 hlc hx
         cases hx
        exact zA7 q4 hx
       rw[List.getElem?_drop]at hx; exact zA7 hlc hx)
     have hrun:(execOp a.eval o).run c.P w = .ok .skip (w.setCells b off (a.eval z).cells.toList):=by
      unfold execOp; rw[ho];exact qB
     unfold Oper.wp;rw[hrun];exact hK O _ undef hwr (by simp only[AVal]) rfl
    cases h
   cases h
  ·rename_i k sz j off i e hi;split at h
   ·rename_i e0 sz' rows ss hh hss;split at h
    ·rename_i q1 q2 q3;cases h;obtain rfl:=ab q1;have q2:=ab q2;have q3:=aj q3;simp only[aF]at hφ;have hy:=hρ 0 y;rw[e]at hy;simp only[AVal]at hy;obtain⟨b,n,cp,hβ,hv⟩:=hy;obtain⟨d,info,zz,b1,b2,b3,b4,_⟩:=hT t i hi;have hz:=zLl hss (hρ t z);obtain⟨hlen,hs0,hob⟩:=hc.hp k _ hh;rcases hob with ⟨_,rfl⟩ | ⟨b',cap,cur,o1,o2,o3,⟨mk,hmk,o4⟩,o5,o6,o7⟩
     ·simp at hφ
     rw[hβ]at o1;cases o1;have hjs:j * sz+sz<=rows.length * sz :=(by rw[← Nat.succ_mul]; exact bh _ hφ);have hcs:rows.length * sz<=cur.size :=(by rw[o3]; exact bh _ o2);have hzl:=hz.1;have hst:=run_storeCells_cells (P:=c.P) b (j * sz+off) (a.eval z).cells.toList 0 w
      (fun q hq=>by
       have h9:j * sz+off+q<cur.size :=(by omega);simp[World.cell?,o4,h9]) (fun q hq=>RowBlk.frz o4 hmk (by omega)) hz.one
     obtain⟨cur',d1,d2,d3⟩:=zDb b (a.eval z).cells.toList (j * sz+off+0) w cur o4;have hrest:=zDU b (a.eval z).cells.toList (j * sz+off+0) w;have hoff:j * sz+off+0=j * sz+off:=rfl;rw[hoff]at hst d1 d3 hrest;have hsz2:(a.eval z).cells.size=info.size :=(by rw[b4,← q2,← hzl]; simp);have hg:rows.getD j []=rows[j] :=(by simp[ac hφ]);have hrl:(rows.getD j []).length=sz :=(by rw[hg]; exact hlen _ (aV hφ));have hnl:((rows.getD j []).take off++ss++(rows.getD j []).drop (off+i.size)).length=sz:=by
      simp only[am,bg,bA,hrl]; omega
     have hwr:=hc.write (w':=w.setCells b (j * sz+off) (a.eval z).cells.toList) (ob':=.row e0 sz (rows.set j ((rows.getD j []).take off++ss++(rows.getD j []).drop (off+i.size)))) hh (b:=b) (by rw[hβ]; rfl) o5 o6 hrest.1 hrest.2.1 hrest.2.2
      (zDg _ _ _ _) (fun q hq=>zCY _ _ _ _ _ hq) (fun hk=>by
       refine⟨fun r hr=>?_,hs0,.inr ⟨b,cp,cur',by rw[hβ]; simp,by simpa using o2,by rw[d2,o3],⟨mk,by rw[d2]; exact hmk,d1⟩,o5,o6,fun q s hq=>?_⟩⟩
       ·rcases mem_or_eq_of_mem_set hr with h1 | h1
        ·exact hlen r h1
        rw[h1]; exact hnl
       rw[d3]
       rw[zJS sz hlen hφ hnl]at hq;split at hq
       ·rename_i hin
        rw[aA,aA]at hq;simp only[am,bg,hrl]at hq;have hm:min off sz=off :=(by omega);rw[hm]at hq
        by_cases g1:q - j * sz<off
        ·rw[if_pos (by omega),if_pos g1,aU,if_pos g1]at hq;rw[if_neg (by omega)]
         obtain⟨u,hu,hr⟩:=o7 q s (by rw[zE1 sz hlen hφ hin.1 hin.2,← hg]; exact hq)
         exact⟨u,hu,hr.keep hk⟩
        by_cases g2:q - j * sz<off+ss.length
        ·rw[if_pos g2,if_neg g1]at hq;rw[if_pos (by omega)]
         obtain⟨u,hu,hr⟩:=zK3 hz hq;exact⟨u,by rw[show q - (j * sz+off)=q - j * sz - off by omega]; exact hu,hr.keep hk⟩
        rw[if_neg g2,List.getElem?_drop]at hq;rw[if_neg (by omega)]
        obtain⟨u,hu,hr⟩:=o7 q s (by rw[zE1 sz hlen hφ hin.1 hin.2,← hg,← hq]; congr 1; omega)
        exact⟨u,hu,hr.keep hk⟩
       rename_i hin
       rw[if_neg (by omega)]
       obtain⟨u,hu,hr⟩:=o7 q s hq;exact⟨u,hu,hr.keep hk⟩) rfl
     have hrun:(execOp a.eval o).run c.P w = .ok .skip (w.setCells b (j * sz+off) (a.eval z).cells.toList):=by
      unfold execOp; rw[ho];exact qB
     unfold Oper.wp;rw[hrun];exact hK O _ undef hwr (by simp only[AVal]) rfl
    cases h
   cases h
  cases h
 case h_9 t y i ho =>
  split at h
  ·rename_i e j k k1 n hej hy hi;split at h
   ·rename_i e0 sz rows hh;split at h
    ·rename_i hs;cases h;obtain rfl:=ab hs;obtain⟨ti,ht,hk,hj⟩:=zC8 hej;obtain⟨d',info',z',g1,g2,g3,g4,_⟩:=hT e j hj;have hu:=zC7 hT ht hk;simp only[aF]at hφ;have hv:=hρ t y; rw[hy]at hv; simp only[AVal]at hv;have hiv:=hρ 0 i; rw[hi]at hiv; simp only[AVal,Rep]at hiv;obtain⟨_,_,hob⟩:=hc.hp k _ hh;rcases hob with ⟨_,rfl⟩ | ⟨b,cap,cur,o1,_⟩
     ·simp at hφ; omega
     refine zAA (v:=.pointer (some ⟨b,n.toNat * j.size,none⟩)) (w':=w) ?_ (hK O w _ hc ?_ ?_)
     ·unfold execOp; rw[ho];simp[hv.1,o1,hiv,Instr.indexAt,asIntOf,zAi w hu,hφ.1,hφ.2,zAt w g3,g4,addr_add]
     ·simp only[AVal]; exact⟨b,_,_,o1,by simp⟩
     simp only[AV.lt,ay]; exact(hc.hplt k _ hh).1
    cases h
   cases h
  cases h
 case h_10 src dst y ho =>
  split at h
  ·rename_i e j k hej hd hy;split at h
   ·rename_i e0 sz rows hjk hh;split at h
    ·rename_i hs;cases h;obtain rfl:=ab hs;obtain⟨ti,ht,hk,hj⟩:=zC8 hej;obtain⟨d',info',z',g1,g2,g3,g4,_⟩:=hT e j hj;rw[hjk]at g2;cases d' <;> simp only[tkOf,reduceCtorEq,TK.int.injEq]at g2
     subst g2;have hu:=zC7 hT ht hk;obtain⟨d2,hd2,hk2⟩:=zCN hT hd (by simp);cases d2 <;> simp only[tkOf,reduceCtorEq]at hk2
     simp only[aF]at hφ;generalize hl:rows.map zKv=l at *;subst hφ;have hv:=hρ src y; rw[hy]at hv; simp only[AVal]at hv;obtain⟨hlen,hs0,hob⟩:=hc.hp k _ hh;refine zAA (v:=.string ⟨l.toArray⟩) (w':=w) ?_ (hK O w _ hc (by simp[AVal,Rep]) rfl);unfold execOp; rw[ho];rcases hob with ⟨o1,o2⟩ | ⟨b,cap,cur,o1,o2,o3,⟨mk,hmk,o4⟩,o5,o6,o7⟩
     ·have:l=[] :=(by simpa using o2);subst this;simp[hv.1,o1,convert,zAi w hu,zAi w hd2,zAi w g1,Conv.bytesToString];rfl
     have hlb:(loadCells ⟨b,0,none⟩ l.length).run c.P w = .ok (l.map fun x=>Value.int .u8 (x.toNat:Int)).toArray w:=by
      have:=run_loadCells_list (P:=c.P) w ⟨b,0,none⟩ (l.map fun x=>Value.int .u8 (x.toNat:Int)) fun q v hq=>by
       rw[ao]at hq;cases hlq:l[q]? with
       | none=>rw[hlq]at hq; simp at hq
       | some x=>
       rw[hlq]at hq; simp at hq; subst hq;obtain⟨u,hu',hr⟩:=o7 q (.int .u8 (x.toNat:Int)) (by rw[zGI]; simp[hlq]);simp only[Rep]at hr;subst hr;rw[addr_add];simp[World.cell?,o4,hu']
      exact qA
     have hb:=fun e=>zLj c.P w e l .empty
     simp only[hv.1,o1,az];simp only[convert,zAi w hu,zAi w hd2,zAi w g1,Sem.run_bind,Result.andThen_ok,Conv.bytesToString,hlb];rw[← Array.forIn_toList]
     erw [hb]
     simp
    cases h
   cases h
  ·rename_i e j e2 k hej hd hy;split at h
   ·rename_i e0 sz rows hjk hh;split at h
    ·rename_i hs;cases h;obtain rfl:=ab hs;obtain⟨ti,ht,hk,hj⟩:=zC8 hej;obtain⟨d',info',z',g1,g2,g3,g4,_⟩:=hT e j hj;rw[hjk]at g2;cases d' <;> simp only[tkOf,reduceCtorEq,TK.int.injEq]at g2
     subst g2;have hu:=zC7 hT ht hk;simp only[aF]at hφ;have hv:=hρ src y; rw[hy]at hv; simp only[AVal]at hv;obtain⟨hlen,hs0,hob⟩:=hc.hp k _ hh;rcases hob with ⟨o1,o2⟩ | ⟨b,cap,cur,o1,o2,o3,⟨mk,hmk,o4⟩,o5,o6,o7⟩
     ·exact absurd o2 hφ
     obtain⟨w',hw⟩:∃ w',w'=w.freeze ⟨b,cur.size,none⟩ 1:=⟨_,rfl⟩;have hbl:b<w.heap.size:=(aJ.1 o4).1;have hb':w'.heap[b]? = some (.cells cur e0 (cur.size,cur.size+1)):=by
      rw[hw]; unfold World.freeze; rw[if_neg (by decide)];simp only[Array.getElem?_modify,if_pos,o4];rcases hmk with rfl | rfl <;> simp
     have hoth:∀ i,i ≠ b->w'.heap[i]? = w.heap[i]?:=fun i hi=>by
      rw[hw]; unfold World.freeze; rw[if_neg (by decide)];simp only[Array.getElem?_modify]; rw[if_neg (by omega)]
     have hsz':w'.heap.size=w.heap.size :=(by rw[hw]; simp[World.freeze]);have hwr:Conc c G O (zDW V k (.row e0 sz rows)) a w':=hc.write (w':=w') (ob':=.row e0 sz rows) hh (b:=b) (by rw[o1]; rfl) o5 o6 (by rw[hw]; simp[World.freeze]) (by rw[hw]; simp[World.freeze]) (by rw[hw]; simp[World.freeze]) hsz' (fun q hq=>hoth q hq) (fun hk =>
      ⟨hlen,hs0,.inr ⟨b,cap,cur,o1,o2,o3,⟨_,.inr rfl,hb'⟩,o5,o6,fun q s hq=>let ⟨u,hu,hr⟩:=o7 q s hq; ⟨u,hu,hr.keep hk⟩⟩⟩) rfl
     have hsame:zDW V k (.row e0 sz rows)=V:=by
      unfold zDW;congr 1;funext q;cases hq:Nat.beq q k with
      | true=>obtain rfl:=ab hq; simp[hh]
      | false=>rfl
     rw[hsame]at hwr;refine zAA (v:=a.eval y) (w':=w') ?_ (hK O w' _ hwr (by simpa only[AVal] using hv) ?_)
     ·unfold execOp; rw[ho];simp[hv.1,o1,convert,zAi w hu,zAi w g1,markStringish,World.shape?,o4,hw]
     have:=(hc.hplt k _ hh).1;simpa [AV.lt] using this
    cases h
   cases h
  cases h
 case h_11 t y hi ho =>
  split at h
  ·rename_i e j k k1 n hej hy hi';split at h
   ·rename_i e0 sz rows hh;split at h
    ·rename_i hs;cases h;obtain rfl:=ab hs;obtain⟨ti,ht,hk,hj⟩:=zC8 hej;obtain⟨d',info',z',g1,g2,g3,g4,_⟩:=hT e j hj;have hu:=zC7 hT ht hk;simp only[aF]at hφ;obtain⟨f1,f2⟩:=hφ;have hv:=hρ t y; rw[hy]at hv; simp only[AVal]at hv;have hiv:=hρ 0 hi; rw[hi']at hiv; simp only[AVal,Rep]at hiv;obtain⟨hlen,hs0,hob⟩:=hc.hp k _ hh;have hlen':∀ r∈rows.take n.toNat,r.length=j.size:=fun r hr=>hlen r (mem_of_mem_take hr)
     have hob':=hob;rcases hob with ⟨o1,o2⟩ | ⟨b,cap,cur,o1,o2,o3,o4,o5,o6,o7⟩
     ·subst o2;obtain rfl:n=0 :=(by simp at f2; omega);obtain⟨O',b1,b2,b3⟩:=hc.turn (k:=k) hh (ob':=.row e0 j.size ([].take (0:Int).toNat)) (v':=.slice none 0 0) (w':=w)
       ⟨rfl,rfl,rfl,ar _,fun _ _ _=>rfl,⟨hlen',hs0,.inl ⟨rfl,by simp⟩⟩,fun b hb=>by cases hb⟩ rfl
      refine zAA (v:=.slice none 0 0) (w':=w) ?_ (hK O' w _ b3 ?_ (by simp[AV.lt,zA6,zHJ]))
      ·unfold execOp; rw[ho];have hbb:=zEA (P:=c.P) (w:=w) (isSlice:=true) (len:=0) (cap:=0) (vlo:=none) (vhi:=some (.int k1 0)) (.inl ⟨rfl,rfl⟩) (.inr ⟨k1,rfl⟩) (Int.le_refl 0) (Int.le_refl 0) (by simp);simp[hv.1,o1,hiv,Instr.sliceAt,Instr.slice,zAi w hu,hbb,zAt w g3,g4]
      simp only[AVal];have:(zHJ V k).nx=V.nx:=rfl;exact⟨b2.symm,_,_,_,rfl⟩
     have hn:(rows.take n.toNat).length=n.toNat :=(by simp; omega);obtain⟨O',b1,b2,b3⟩:=hc.turn (k:=k) hh (ob':=.row e0 j.size (rows.take n.toNat)) (v':=.slice (some ⟨b,0,none⟩) n.toNat cap) (w':=w)
      ⟨rfl,rfl,rfl,ar _,fun _ _ _=>rfl,⟨hlen',hs0,.inr ⟨b,cap,cur,by rw[hn],by rw[hn]; omega,o3,o4,o5,o6,fun q s hq=>by
       refine o7 q s ?_;have e3:rows.flatten=(rows.take n.toNat).flatten++(rows.drop n.toNat).flatten :=(by rw[← flatten_append,take_append_drop]);rw[e3,aA,if_pos (aa.1 hq).1]; exact hq⟩⟩,fun b' hb'=>.inl (by rw[o1]; exact hb')⟩ rfl
     refine zAA (v:=.slice (some ⟨b,0,none⟩) n.toNat cap) (w':=w) ?_ (hK O' w _ b3 ?_ (by simp[AV.lt,zA6,zHJ]))
     ·unfold execOp; rw[ho];have hbb:=zEA (P:=c.P) (w:=w) (isSlice:=true) (len:=rows.length) (cap:=cap) (vlo:=none) (vhi:=some (.int k1 n)) (.inl ⟨rfl,rfl⟩) (.inr ⟨k1,rfl⟩) (Int.le_refl 0) f1 (by omega);simp[hv.1,o1,hiv,Instr.sliceAt,Instr.slice,zAi w hu,hbb,zAt w g3,g4];intro _; rfl
     simp only[AVal];exact⟨b2.symm,_,_,_,rfl⟩
    cases h
   cases h
  cases h
 case h_12 args ts ho =>
  split at h
  ·rename_i y t e e';have e1:args = #[y]:=Array.toList_inj.1 (by simpa using e);have e2:ts = #[t]:=Array.toList_inj.1 (by simpa using e');subst e1; subst e2;split at h
   ·rename_i e3 k hk hy;split at h
    ·rename_i e0 sz rows hh;cases h;have hu:=zFd hT hk;have hv:=hρ t y; rw[hy]at hv; simp only[AVal]at hv;obtain⟨_,_,hob⟩:=hc.hp k _ hh;refine zAA (v:=.int .i64 rows.length) (w':=w) (zGi ho fun cs=>?_) (hK O w _ hc (by simp[AVal,Rep]) rfl);rcases hob with ⟨o1,rfl⟩ | ⟨b,cap,cur,o1,_⟩ <;>
      simp[builtin,Builtin.len_,zAi w hu,hv.1,o1,goInt]
    cases h
   cases h
  cases h
 case h_13 args ts ho =>
  split at h
  ·rename_i y z t tx e e';have e1:args = #[y,z]:=Array.toList_inj.1 (by simpa using e);have e2:ts = #[t,tx]:=Array.toList_inj.1 (by simpa using e');subst e1; subst e2;unfold zIn at h;split at h
   ·rename_i e j k? e0 sz rows sz' rows' hej hb hr;split at h
    ·rename_i q1 q2 q3;obtain rfl:=ab q1;obtain rfl:=ab q2;obtain⟨i,ht,hk,hj⟩:=zC8 hej;have hreads:=zGM hT hc hr (hρ tx z);split at h
     ·cases h;simp only[aF]at hφ;unfold zJt at hb;split at hb
      ·rename_i sz2 hy;cases hb;have hv:=hρ t y; rw[hy]at hv; simp only[AVal]at hv;have ho0:ObAt c G w O (a.eval y) (.row e j.size []):=⟨fun r hr=>(by cases hr),aj q3,.inl ⟨hv,rfl⟩⟩;obtain⟨v',w',r1,r2⟩:=zP1 (ty:=o.type) hT ht hk hj rfl ho0 hreads (by simpa using hφ.1) (by simpa using hφ.2) hc.fr.size hc.lt;obtain⟨a1,a2,a3,a4,a5,a6,a7⟩:=r2;rw[hv]at a5 a7;have hoth:=hc.other (w':=w') none (fun _ _ _ _ _ h=>by cases h) (fun b hb=>by cases hb) a1 a2 a3 a4 (fun q hq _=>a5 q hq (by simp[blk]));obtain⟨O',b1,b2,b3⟩:=hoth.make a6 rfl (fun k' o' hk' b hb e=>by
        rcases a7 b hb with h7 | h7
        ·cases h7
        have:=hc.blk_lt hk' e; omega)
       have hs:∃ o n c,v' = .slice o n c:=by
        obtain⟨_,_,h⟩:=a6;rcases h with ⟨h,_⟩ | ⟨_,_,_,h,_⟩ <;> exact⟨_,_,_,h⟩
       refine zAA (zGi ho fun cs=>by simp[builtin]; rw[r1]; rfl) (hK O' w' v' b3 ?_ (by simp[AV.lt,zA6]));simp only[AVal];exact⟨b2.symm,hs⟩
      ·split at hb <;> cases hb
      cases hb
     split at h
     ·rename_i k q4;cases h;obtain rfl:=ab q4;simp only[aF]at hφ;unfold zJt at hb;split at hb
      ·cases hb
      ·rename_i k' hy;split at hb
       ·rename_i e3 sz3 rows3 hh;cases hb;have hv:=hρ t y; rw[hy]at hv; simp only[AVal]at hv;have ho0:=hc.hp _ _ hh;obtain⟨v',w',r1,r2⟩:=zP1 (ty:=o.type) hT ht hk hj rfl ho0 hreads hφ.1 hφ.2 hc.fr.size hc.lt;have a6:=r2.2.2.2.2.2.1;obtain⟨O',b1,b2,b3⟩:=hc.turn hh r2 rfl;have hs:∃ o n c,v' = .slice o n c:=by
         obtain⟨_,_,h⟩:=a6;rcases h with ⟨h,_⟩ | ⟨_,_,_,h,_⟩ <;> exact⟨_,_,_,h⟩
        refine zAA (zGi ho fun cs=>by simp[builtin,hv.1]; rw[r1]; rfl) (hK O' w' v' b3 ?_ (by simp[AV.lt,zA6,zHJ]));simp only[AVal];exact⟨b2.symm,hs⟩
       cases hb
      cases hb
     cases h
    cases h
   cases h
  cases h
 all_goals cases h
def zPJ {n:Nat}:∀ {xs ys:List AV},AV.ltAll n xs=true->AV.ltAll n ys=true->AV.ltAll n (xs++ys)=true
 | [],_,_,h=>h
 | x::xs,_,h,k=>by
  simp only[bj,AV.ltAll,af]at h ⊢;exact⟨h.1,zPJ h.2 k⟩
def zPu {x:AV} (h:x.lt n=true):AV.ltAll n x.cellsA=true:=by
 have h1:∀ y:AV,y.lt n=true->AV.ltAll n [y.nrm]=true:=fun y hy=>by
  simp only[AV.ltAll,Bool.and_true]; exact AV.nrm_lt hy
 cases x <;> first | exact h1 _ h | skip
 simp only[AV.lt]at h;exact h
variable {l:List AV}
def zHf  (h:∀ x∈l,x.lt n=true):AV.ltAll n l=true:=zCB fun _ _ hq=>h _ (av hq)
def zFY  (h:AV.ltAll n l=true):∀ x∈l,x.lt n=true:=fun x hx=>by
 obtain⟨i,hi⟩:=bp hx;exact zA7 h hi
theorem zPV {T:Nat->Option TI}{G:Nat->Prop}{w:World}{O:Nat->Value}{env:Nat->AV}{ρ:Operand->Value} (hρ:∀ ty x,AVal G w O (opd T env ty x) (ρ x)){e:Nat}:∀ {parts:List (Nat×Operand)}{i:Nat}{rows:List (List AV)},zIH T env e i parts=some rows ->
  parts.map (fun p=>(p.1,ρ p.2))=((parts.map fun p=>ρ p.2).zipIdx i).map (fun p=>(p.2,p.1))/\rows.length=parts.length /\
   ∀ (j:Nat) r p,rows[j]? = some r->parts[j]? = some p->RepsR (AQ G O w) r (ρ p.2).cells.toList
 | [],i,rows,h=>by
  simp only[zIH,aC]at h; subst h;exact⟨rfl,rfl,fun j r p h=>by simp at h⟩
 | (j,x)::parts,i,rows,h=>by
  simp only[zIH]at h;split at h
  ·rename_i rs h1 h2 h3;cases h;obtain rfl:=ab h1;obtain⟨a1,a2,a3⟩:=zPV hρ h3;refine⟨by simp[a1],by simp[a2],fun k r p hr hp=>?_⟩;cases k with
   | zero =>
    simp at hr hp; subst hr; subst hp;have hav:=zG9 (hρ e x) rfl h2;refine⟨hav.length,fun q s v hs hv=>?_⟩;obtain⟨u,hu,hr⟩:=hav.get hs;rw[hv]at hu; cases hu;exact⟨hr,zN9 hav h2 v (av hv)⟩
   | succ k=>exact a3 k r p (by simpa using hr) (by simpa using hp)
  ·cases h
def zK2 {α:Type}{Q:α->Value->Prop}:∀ {rows:List (List α)}{vss:List (List Value)},rows.length=vss.length->(∀ (j:Nat) r vs,rows[j]? = some r->vss[j]? = some vs->RepsR Q r vs)->RepsR Q rows.flatten vss.flatten
 | [],[],_,_=>⟨rfl,fun i s v h=>by simp at h⟩
 | r::rows,v::vss,hl,h=>by
  rw[flatten_cons,flatten_cons];exact(h 0 r v rfl rfl).append (zK2 (by simpa using hl) fun j r vs h1 h2=>h (j+1) r vs (by simpa using h1) (by simpa using h2))
 | [],_::_,hl,_=>by simp at hl
 | _::_,[],hl,_=>by simp at hl
theorem zOl  (hT:TOk c.P T) (hc:Conc c G O V a w){rows:List (List AV)} (h:zK4 T V tx y=some (sz,rows))
  {v:Value} (hv:AVal G w O y v) (hy:y.lt V.nx=true):zR3 w c.P (AQ G O w) tx sz rows v/\AV.ltAll V.nx rows.flatten=true:=by
 have hs:∀ rs:List (List S),AV.ltAll V.nx (rs.map (·.map AV.s)).flatten=true:=fun rs=>zHf fun x hx=>by
  simp only[mem_flatten,mem_map]at hx;obtain⟨l,⟨r,_,rfl⟩,hx⟩:=hx;obtain⟨s,_,rfl⟩:=be.1 hx;rfl
 unfold zK4 at h;split at h
 ·rename_i e hk;cases h;exact⟨by simpa using (zGM (rows:=[]) hT hc (by simp only[rowsOf,hk]) hv).any (O:=O),rfl⟩
 ·rename_i e rs hk;cases h;exact⟨(zGM hT hc (by simp only[rowsOf,hk]) hv).any,hs _⟩
 ·rename_i e k hk;split at h
  ·rename_i e0 sz0 rs hh;cases h;exact⟨(zGM hT hc (by simp only[rowsOf,hk,hh]) hv).any,hs _⟩
  ·rename_i e0 sz0 rs hh;cases h;have ho:=hc.hp k _ hh;simp only[AVal]at hv;rw[← hv.1]at ho;exact⟨zLE (c:=c) (G:=G) (fun _ _ h=>h.2) (zFd hT hk) ho,by simpa [Ob.lt] using (hc.hplt k _ hh).2⟩
  cases h
 cases h
theorem yDb  (hT:TOk c.P T)
  (hc:Conc c G O V a w) {o:Oper} {φ:Option Prop} {x:AV} (h:zCA T o V=some (φ,x,V')) (hφ:φ.getD True) {K:Act->World->Prop} {Q:Exit->Act->World->Prop}
  (hK:∀ O' w' v,Conc c G O' V' a w'->AVal G w' O' x v->x.lt V'.nx=true->K (a.put o.dst v) w'):o.wp c.P a w K Q:=by
 have hρ:∀ ty x,AVal G w O (opd T V.env ty x) (a.eval x):=zEO hc T;have hlt:∀ ty x,(opd T V.env ty x).lt V.nx=true:=zMl hc.envlt T;unfold zCA at h;split at h;case h_1 t n parts ho =>
  split at h
  ·rename_i e j hej;split at h
   ·rename_i rows hrows;split at h
    ·rename_i q1 q2 q3 q4;cases h;have q1:=ab q1;have q3:=aj q3;have q4:=aj q4;have q2:∀ r∈rows,r.length=j.size:=fun r hr=>ab (bo.1 q2 r hr)
     obtain⟨i,ht,hk,hj⟩:=zC8 hej;obtain⟨p1,p2,p3⟩:=zPV hρ hrows;have hcell:∀ (q:Nat) r v,rows[q]? = some r->(parts.toList.map fun p=>a.eval p.2)[q]? = some v->RepsR (AQ G O w) r v.cells.toList:=fun q r v h1 h2=>by
      rw[ao]at h2;obtain⟨p,hp,rfl⟩:=aH.1 h2;exact p3 q r p h1 hp
     have hus:∀ v∈(parts.toList.map fun p=>a.eval p.2),v.cells.size=j.size:=fun v hv=>by
      obtain⟨q,hq⟩:=bp hv;have hql:q<rows.length :=(by rw[p2]; simpa using (aa.1 hq).1);have:=(hcell q rows[q] v (ac hql) hq).1;rw[q2 _ (aV hql)]at this
      exact qA
     have hrun:=run_buildSlice (P:=c.P) (w:=w) hT ht hk hj (parts.toList.map fun p=>a.eval p.2) (parts.map fun p=>(p.1,a.eval p.2)) (by simpa using p1) hus (by rw[az,← p2]; exact q1) q3 q4;have hfl:RepsR (AQ G O w) rows.flatten ((parts.toList.map fun p=>a.eval p.2).map fun v=>v.cells.toList).flatten :=
      zK2 (by rw[az,az]; exact p2) fun q r vs h1 h2=>by
       rw[ao]at h2;obtain⟨v,hv,rfl⟩:=aH.1 h2;exact hcell q r v h1 hv
     have hltr:AV.ltAll V.nx rows.flatten=true:=zHf fun y hy=>by
      have:∀ (ps:List (Nat×Operand)) (i:Nat) (rs:List (List AV)),zIH T V.env e i ps=some rs->∀ y∈rs.flatten,y.lt V.nx=true:=by
       intro ps;induction ps with
       | nil=>intro i rs h y hy; simp only[zIH,aC]at h; subst h; simp at hy
       | cons p ps ih=>
       obtain⟨j,x⟩:=p;intro i rs h y hy;simp only[zIH]at h;split at h
       ·rename_i rs' _ _ h3;cases h;rw[flatten_cons,mem_append]at hy;rcases hy with hy | hy
        ·exact zFY (zPu (hlt e x)) y hy
        exact ih (i+1) rs' h3 y hy
       cases h
      exact this _ _ _ hrows y hy
     obtain⟨O',b1,b2,b3⟩:=hc.fresh (((parts.toList.map fun p=>a.eval p.2).map fun v=>v.cells.toList).flatten.toArray) e (ob:=.arow e j.size rows) (v:=.slice (some ⟨w.heap.size,0,none⟩) n n) (fun b hb=>by cases hb; rfl)
      (fun hc2=>⟨q2,q3,.inr ⟨w.heap.size,n,_,by rw[q1],by omega,by rw[size_toArray,hfl.1,zAL q2,q1],RowBlk.laid (zCm _ _),zI0 hc,zIZ hc,fun i s hi=>by
       have hil:i<(((parts.toList.map fun p=>a.eval p.2).map fun v=>v.cells.toList).flatten).length :=(by rw[hfl.1]; exact(aa.1 hi).1);have:=hfl.2 i s _ hi (ac hil)
       exact⟨_,by rw[List.getElem?_toArray]; exact ac hil,this.1.keep ((Ext.own hc.lt _).keep hc.lt),this.2⟩⟩⟩) (by simpa [Ob.lt] using hltr)
     refine zAA (v:=.slice (some ⟨w.heap.size,0,none⟩) n n) (w':=w.alloc (.cells (((parts.toList.map fun p=>a.eval p.2).map fun v=>v.cells.toList).flatten.toArray) e)) ?_ (hK O' _ _ b3 ?_ (by simp[AV.lt,zA6]))
     ·unfold execOp; rw[ho]; simp only[Sem.run_bind,hrun,Result.andThen_ok]; rfl
     simp only[AVal]; exact⟨b2.symm,_,_,_,rfl⟩
    cases h
   cases h
  cases h
 case h_2 t y z ho =>
  split at h
  ·rename_i k sz j off i e hi;split at h
   ·rename_i e0 sz' rows hh;split at h
    ·rename_i q1 q2 q3 q4;cases h;obtain rfl:=ab q1;have q2:=ab q2;have q3:=aj q3;simp only[aF]at hφ;have hy:=hρ 0 y;rw[e]at hy;simp only[AVal]at hy;obtain⟨b,n,cp,hβ,hv⟩:=hy;obtain⟨d,info,zz,b1,b2,b3,b4,_⟩:=hT t i hi;have hz:=zG9 (hρ t z) rfl q4;generalize hss:(opd T V.env t z).cellsA=ss at hz q2 q4;have hssl:AV.ltAll V.nx ss=true :=(by rw[← hss]; exact zPu (hlt t z));obtain⟨hlen,hs0,hob⟩:=hc.hp k _ hh;rcases hob with ⟨_,rfl⟩ | ⟨b',cap,cur,o1,o2,o3,⟨mk,hmk,o4⟩,o5,o6,o7⟩
     ·simp at hφ
     rw[hβ]at o1;cases o1;have hjs:j * sz+sz<=rows.length * sz :=(by rw[← Nat.succ_mul]; exact bh _ hφ);have hcs:rows.length * sz<=cur.size :=(by rw[o3]; exact bh _ o2);have hzl:=hz.length;have hzo:=zN9 hz q4;have hst:=run_storeCells_cells (P:=c.P) b (j * sz+off) (a.eval z).cells.toList 0 w
      (fun q hq=>by
       have h9:j * sz+off+q<cur.size :=(by omega);simp[World.cell?,o4,h9]) (fun q hq=>RowBlk.frz o4 hmk (by omega)) hzo
     obtain⟨cur',d1,d2,d3⟩:=zDb b (a.eval z).cells.toList (j * sz+off+0) w cur o4;have hrest:=zDU b (a.eval z).cells.toList (j * sz+off+0) w;have hoff:j * sz+off+0=j * sz+off:=rfl;rw[hoff]at hst d1 d3 hrest;have hsz2:(a.eval z).cells.size=info.size :=(by rw[b4,← q2,← hzl]; simp);have hg:rows.getD j []=rows[j] :=(by simp[ac hφ]);have hrl:(rows.getD j []).length=sz :=(by rw[hg]; exact hlen _ (aV hφ));have hnl:((rows.getD j []).take off++ss++(rows.getD j []).drop (off+i.size)).length=sz:=by
      simp only[am,bg,bA,hrl]; omega
     have hrowlt:AV.ltAll V.nx rows.flatten=true :=(by simpa [Ob.lt] using (hc.hplt k _ hh).2);have hgd:∀ y∈rows.getD j [],y.lt V.nx=true:=fun y hy=>zFY hrowlt y (by
      rw[hg]at hy; exact List.mem_flatten.2 ⟨_,aV hφ,hy⟩)
     have hwr:=hc.write (w':=w.setCells b (j * sz+off) (a.eval z).cells.toList) (ob':=.arow e0 sz (rows.set j ((rows.getD j []).take off++ss++(rows.getD j []).drop (off+i.size)))) hh (b:=b) (by rw[hβ]; rfl) o5 o6 hrest.1 hrest.2.1 hrest.2.2
      (zDg _ _ _ _) (fun q hq=>zCY _ _ _ _ _ hq) (fun hk=>by
       refine⟨fun r hr=>?_,hs0,.inr ⟨b,cp,cur',by rw[hβ]; simp,by simpa using o2,by rw[d2,o3],⟨mk,by rw[d2]; exact hmk,d1⟩,o5,o6,fun q s hq=>?_⟩⟩
       ·rcases mem_or_eq_of_mem_set hr with h1 | h1
        ·exact hlen r h1
        rw[h1]; exact hnl
       ·rw[d3]
        rw[zJS sz hlen hφ hnl]at hq;split at hq
        ·rename_i hin
         rw[aA,aA]at hq;simp only[am,bg,hrl]at hq;have hm:min off sz=off :=(by omega);rw[hm]at hq
         by_cases g1:q - j * sz<off
         ·rw[if_pos (by omega),if_pos g1,aU,if_pos g1]at hq;rw[if_neg (by omega)]
          obtain⟨u,hu,hr,h1⟩:=o7 q s (by rw[zE1 sz hlen hφ hin.1 hin.2,← hg]; exact hq)
          exact⟨u,hu,hr.keep hk,h1⟩
         by_cases g2:q - j * sz<off+ss.length
         ·rw[if_pos g2,if_neg g1]at hq;rw[if_pos (by omega)]
          obtain⟨u,hu,hr⟩:=hz.get hq;exact⟨u,by rw[show q - (j * sz+off)=q - j * sz - off by omega]; exact hu,hr.keep hk,hzo u (av hu)⟩
         rw[if_neg g2,List.getElem?_drop]at hq;rw[if_neg (by omega)]
         obtain⟨u,hu,hr,h1⟩:=o7 q s (by rw[zE1 sz hlen hφ hin.1 hin.2,← hg,← hq]; congr 1; omega)
         exact⟨u,hu,hr.keep hk,h1⟩
        rename_i hin
        rw[if_neg (by omega)]
        obtain⟨u,hu,hr,h1⟩:=o7 q s hq;exact⟨u,hu,hr.keep hk,h1⟩) (by
       simp only[Ob.lt]
       refine zHf fun y hy=>?_
       obtain⟨r,hr,hy⟩:=List.mem_flatten.1 hy;rcases mem_or_eq_of_mem_set hr with h1 | h1
       ·exact zFY hrowlt y (List.mem_flatten.2 ⟨r,h1,hy⟩)
       rw[h1]at hy;simp only[mem_append]at hy;rcases hy with (hy | hy) | hy
       ·exact hgd y (mem_of_mem_take hy)
       ·exact zFY hssl y hy
       exact hgd y (mem_of_mem_drop hy))
     have hrun:(execOp a.eval o).run c.P w = .ok .skip (w.setCells b (j * sz+off) (a.eval z).cells.toList):=by
      unfold execOp; rw[ho];exact qB
     unfold Oper.wp;rw[hrun];refine hK O _ undef ?_ (by simp only[AVal]) rfl;subst hss;exact hwr
    cases h
   cases h
  cases h
 case h_3 t y i ho =>
  split at h
  ·rename_i e j k k1 n hej hy hi;split at h
   ·rename_i e0 sz rows hh;split at h
    ·rename_i hs;cases h;obtain rfl:=ab hs;obtain⟨ti,ht,hk,hj⟩:=zC8 hej;obtain⟨d',info',z',g1,g2,g3,g4,_⟩:=hT e j hj;have hu:=zC7 hT ht hk;simp only[aF]at hφ;obtain⟨f1,f2⟩:=hφ;have hv:=hρ t y; rw[hy]at hv; simp only[AVal]at hv;have hiv:=hρ 0 i; rw[hi]at hiv; simp only[AVal,Rep]at hiv;obtain⟨hlen,hs0,hob⟩:=hc.hp k _ hh;rcases hob with ⟨o1,rfl⟩ | ⟨b,cap,cur,o1,o2,o3,o4,o5,o6,o7⟩
     ·simp at f2; omega
     refine zAA (v:=.pointer (some ⟨b,n.toNat * j.size+0,none⟩)) (w':=w) ?_ (hK O w _ hc ?_ ?_)
     ·unfold execOp; rw[ho];have hnn:n.toNat<rows.length :=(by omega);simp[hv.1,o1,hiv,Instr.indexAt,asIntOf,zAi w hu,f1,f2,zAt w g3,g4,addr_add]
     ·simp only[AVal];exact⟨b,_,_,o1,rfl⟩
     have:=(hc.hplt k _ hh).1;simpa [AV.lt] using this
    cases h
   cases h
  cases h
 case h_4 t y hi ho =>
  split at h
  ·rename_i e j k k1 n hej hy hi';split at h
   ·rename_i e0 sz rows hh;split at h
    ·rename_i hs;cases h;obtain rfl:=ab hs;obtain⟨ti,ht,hk,hj⟩:=zC8 hej;obtain⟨d',info',z',g1,g2,g3,g4,_⟩:=hT e j hj;have hu:=zC7 hT ht hk;simp only[aF]at hφ;obtain⟨f1,f2⟩:=hφ;have hv:=hρ t y; rw[hy]at hv; simp only[AVal]at hv;have hiv:=hρ 0 hi; rw[hi']at hiv; simp only[AVal,Rep]at hiv;have hrowlt:AV.ltAll V.nx rows.flatten=true :=(by simpa [Ob.lt] using (hc.hplt k _ hh).2);have htl:(Ob.arow e0 j.size (rows.take n.toNat)).lt V.nx=true:=by
      simp only[Ob.lt];refine zHf fun y hy=>?_
      obtain⟨r,hr,hy⟩:=List.mem_flatten.1 hy;exact zFY hrowlt y (List.mem_flatten.2 ⟨r,mem_of_mem_take hr,hy⟩)
     obtain⟨hlen,hs0,hob⟩:=hc.hp k _ hh;have hlen':∀ r∈rows.take n.toNat,r.length=j.size:=fun r hr=>hlen r (mem_of_mem_take hr)
     rcases hob with ⟨o1,o2⟩ | ⟨b,cap,cur,o1,o2,o3,o4,o5,o6,o7⟩
     ·subst o2;obtain rfl:n=0 :=(by simp at f2; omega);obtain⟨O',b1,b2,b3⟩:=hc.turn (k:=k) hh (ob':=.arow e0 j.size ([].take (0:Int).toNat)) (v':=.slice none 0 0) (w':=w)
       ⟨rfl,rfl,rfl,ar _,fun _ _ _=>rfl,⟨hlen',hs0,.inl ⟨rfl,by simp⟩⟩,fun b hb=>by cases hb⟩ htl
      refine zAA (v:=.slice none 0 0) (w':=w) ?_ (hK O' w _ b3 ?_ (by simp[AV.lt,zA6,zHJ]))
      ·unfold execOp; rw[ho];have hbb:=zEA (P:=c.P) (w:=w) (isSlice:=true) (len:=0) (cap:=0) (vlo:=none) (vhi:=some (.int k1 0)) (.inl ⟨rfl,rfl⟩) (.inr ⟨k1,rfl⟩) (Int.le_refl 0) (Int.le_refl 0) (by simp);simp[hv.1,o1,hiv,Instr.sliceAt,Instr.slice,zAi w hu,hbb,zAt w g3,g4]
      simp only[AVal];exact⟨b2.symm,_,_,_,rfl⟩
     have hn:(rows.take n.toNat).length=n.toNat :=(by simp; omega);obtain⟨O',b1,b2,b3⟩:=hc.turn (k:=k) hh (ob':=.arow e0 j.size (rows.take n.toNat)) (v':=.slice (some ⟨b,0,none⟩) n.toNat cap) (w':=w)
      ⟨rfl,rfl,rfl,ar _,fun _ _ _=>rfl,⟨hlen',hs0,.inr ⟨b,cap,cur,by rw[hn],by rw[hn]; omega,o3,o4,o5,o6,fun q s hq=>by
       refine o7 q s ?_;have e3:rows.flatten=(rows.take n.toNat).flatten++(rows.drop n.toNat).flatten :=(by rw[← flatten_append,take_append_drop]);rw[e3,aA,if_pos (aa.1 hq).1]; exact hq⟩⟩,fun b' hb'=>.inl (by rw[o1]; exact hb')⟩ htl
     refine zAA (v:=.slice (some ⟨b,0,none⟩) n.toNat cap) (w':=w) ?_ (hK O' w _ b3 ?_ (by simp[AV.lt,zA6,zHJ]))
     ·unfold execOp; rw[ho];have hbb:=zEA (P:=c.P) (w:=w) (isSlice:=true) (len:=rows.length) (cap:=cap) (vlo:=none) (vhi:=some (.int k1 n)) (.inl ⟨rfl,rfl⟩) (.inr ⟨k1,rfl⟩) (Int.le_refl 0) f1 (by omega);simp[hv.1,o1,hiv,Instr.sliceAt,Instr.slice,zAi w hu,hbb,zAt w g3,g4];intro _; rfl
     simp only[AVal];exact⟨b2.symm,_,_,_,rfl⟩
    cases h
   cases h
  cases h
 case h_5 args ts ho =>
  split at h
  ·rename_i y t e e';have e1:args = #[y]:=Array.toList_inj.1 (by simpa using e);have e2:ts = #[t]:=Array.toList_inj.1 (by simpa using e');subst e1; subst e2;split at h
   ·rename_i e3 k hk hy;split at h
    ·rename_i e0 sz rows hh;cases h;have hu:=zFd hT hk;have hv:=hρ t y; rw[hy]at hv; simp only[AVal]at hv;obtain⟨_,_,hob⟩:=hc.hp k _ hh;refine zAA (v:=.int .i64 rows.length) (w':=w) (zGi ho fun cs=>?_) (hK O w _ hc (by simp[AVal,Rep]) rfl);rcases hob with ⟨o1,rfl⟩ | ⟨b,cap,cur,o1,_⟩ <;>
      simp[builtin,Builtin.len_,zAi w hu,hv.1,o1,goInt]
    cases h
   cases h
  cases h
 case h_6 args ts ho =>
  split at h
  ·rename_i y z t tx e e';have e1:args = #[y,z]:=Array.toList_inj.1 (by simpa using e);have e2:ts = #[t,tx]:=Array.toList_inj.1 (by simpa using e');subst e1; subst e2;split at h
   ·rename_i e j k e0 sz rows sz' rows' hej hb hr;split at h
    ·rename_i q1 q2 q3;cases h;obtain rfl:=ab q1;obtain rfl:=ab q2;obtain rfl:=ab q3;obtain⟨i,ht,hk,hj⟩:=zC8 hej;obtain⟨hreads,hl2⟩:=zOl hT hc hr (hρ tx z) (hlt tx z);simp only[aF]at hφ;unfold zKu at hb;split at hb
     ·rename_i k' hy;split at hb
      ·rename_i e3 sz3 rows3 hh;cases hb;have hv:=hρ t y; rw[hy]at hv; simp only[AVal]at hv;have ho0:=hc.hp _ _ hh;have hl1:AV.ltAll V.nx rows.flatten=true :=(by simpa [Ob.lt] using (hc.hplt _ _ hh).2);obtain⟨v',w',r1,r2⟩:=zUW (ty:=o.type) hT ht hk hj rfl ho0 hreads hφ.1 hφ.2 hc.fr.size hc.lt;have a6:=r2.2.2.2.2.2.1;obtain⟨O',b1,b2,b3⟩:=hc.turn hh r2 (by simp only[Ob.lt,flatten_append]; exact zPJ hl1 hl2);have hs:∃ o n c,v' = .slice o n c:=by
        obtain⟨_,_,h⟩:=a6;rcases h with ⟨h,_⟩ | ⟨_,_,_,h,_⟩ <;> exact⟨_,_,_,h⟩
       refine zAA (zGi ho fun cs=>by simp[builtin,hv.1]; rw[r1]; rfl) (hK O' w' v' b3 ?_ (by simp[AV.lt,zA6,zHJ]));simp only[AVal];exact⟨b2.symm,hs⟩
      cases hb
     cases hb
    cases h
   cases h
  cases h
 case h_7 args ts ho =>
  split at h
  ·rename_i y z t tx e e';have e1:args = #[y,z]:=Array.toList_inj.1 (by simpa using e);have e2:ts = #[t,tx]:=Array.toList_inj.1 (by simpa using e');subst e1; subst e2;split at h
   ·rename_i e j k e0 sz rows sz' rows' hej hb hr;split at h
    ·rename_i q1 q2;cases h;obtain rfl:=ab q1;obtain rfl:=ab q2;obtain⟨i,ht,hk,hj⟩:=zC8 hej;obtain⟨d',info',z',g1,g2,g3,g4,_⟩:=hT e j hj;have hu:=zC7 hT ht hk;obtain⟨⟨⟨news,hsrc,hreps⟩,hlen'⟩,hl2⟩:=zOl hT hc hr (hρ tx z) (hlt tx z);simp only[aF]at hφ;unfold zKu at hb;split at hb
     ·rename_i k' hy;split at hb
      ·rename_i e3 sz3 rows3 hh;cases hb;have hv:=hρ t y; rw[hy]at hv; simp only[AVal]at hv;have ho0:=hc.hp _ _ hh;obtain⟨hlen,hs0,hob⟩:=ho0;have hnl:=hsrc.newsLen;have hone:=hreps.one (fun _ _ h=>h.2);have hcl:=hsrc.cells;rw[← g4]at hcl;rcases hob with ⟨o1,o2⟩ | ⟨b,cap,cur,o1,o2,o3,⟨mk,hmk,o4⟩,o5,o6,o7⟩
       ·subst o2;obtain rfl:rows'=[]:=List.length_eq_zero_iff.1 (by simpa using hφ);refine zAA (v:=.int .i64 0) (w':=w) (zGi ho fun cs=>?_) (hK O w _ ?_ (by simp[AVal,Rep]) rfl)
        ·simp only[an]at hcl;simp[builtin,Builtin.copy_,zAi w hu,hv.1,o1,hsrc.len,zAt w g3,hcl,goInt]
        have:zDW V k (.arow e0 j.size [])={ V with hp:=V.hp }:=by
         unfold zDW;congr 1;funext q;cases hq:Nat.beq q k with
         | true=>obtain rfl:=ab hq; simp[hh]
         | false=>rfl
        rw[this]; exact hc
       have hst:=run_storeCells_cells (P:=c.P) b 0 news 0 w
        (fun q hq=>by
         have h8:rows.length * j.size<=cap * j.size:=bh _ o2;have h9:0+q<cur.size :=(by rw[hnl,hφ]at hq; omega);simp[World.cell?,o4,a8]at h9 ⊢; exact h9) (fun q hq=>RowBlk.frz o4 hmk (by rw[hnl,hφ]at hq; have h8:rows.length * j.size<=cap * j.size:=bh _ o2; omega)) hone
       simp only[bz]at hst;obtain⟨cur',d1,d2,d3⟩:=zDb b news 0 w cur o4;have hrest:=zDU b news 0 w;have hwr:=hc.write (w':=w.setCells b 0 news) (ob':=.arow e0 j.size rows') hh (b:=b) (by rw[o1]; rfl) o5 o6 hrest.1 hrest.2.1 hrest.2.2
        (zDg _ _ _ _) (fun q hq=>zCY _ _ _ _ _ hq) (fun hk=>by
         refine⟨hlen',hs0,.inr ⟨b,cap,cur',by rw[o1,hφ],by rw[hφ]; exact o2,by rw[d2,o3],⟨mk,by rw[d2]; exact hmk,d1⟩,o5,o6,fun q s hq=>?_⟩⟩
         have hql:=(aa.1 hq).1;rw[← hreps.1]at hql;have h8:rows.length * j.size<=cap * j.size:=bh _ o2;rw[d3,if_pos ⟨aQ _,by omega,by rw[hnl,hφ]at hql; omega⟩]
         have:=hreps.2 q s _ hq (ac hql)
         exact⟨_,by simp,this.1.keep hk,this.2⟩) (by simpa [Ob.lt] using hl2)
       refine zAA (v:=.int .i64 rows.length) (w':=w.setCells b 0 news) (zGi ho fun cs=>?_) (hK O _ _ hwr (by simp[AVal,Rep]) rfl);have hmin:Nat.min rows'.length rows.length=rows.length :=(by rw[hφ]; exact Nat.min_self _);rw[hφ]at hcl;simp[builtin,Builtin.copy_,zAi w hu,hv.1,o1,hsrc.len,hφ,zAt w g3,hcl,hst,goInt]
      cases hb
     cases hb
    cases h
   cases h
  cases h
 all_goals cases h
def zOQ (T:Nat->Option TI) (t:Nat) (row:List AV):Option AV :=
 match T t with
 | none=>none
 | some i =>
  match i.k.agg with
  | true=>match Nat.ble i.size row.length with | true=>some (.agg (row.take i.size)) | false=>none
  | false=>match row with | x::_=>some x | []=>none
variable {row:List AV}
theorem zYY  (hT:TOk c.P T) (h:zOQ T t row=some y){b off:Nat}
  (hr:∀ (i:Nat) x,row[i]? = some x->∃ u,w.cell? ⟨b,off+i,none⟩=some u/\AVal G w O x u) :
  ∃ z,(Instr.loadAt t (.pointer (some ⟨b,off,none⟩))).run c.P w = .ok z w/\AVal G w O y z:=by
 have hload:∀ n,n<=row.length->∃ vs,(loadCells ⟨b,off,none⟩ n).run c.P w = .ok vs.toArray w/\AVals G w O (row.take n) vs:=fun n hn=>by
  have hc:∀ i,i<n->∃ u,w.cell? ⟨b,off+i,none⟩=some u/\AVal G w O (row.getD i .junk) u:=fun i hi=>by
   have:=hr i (row.getD i .junk) (by rw[aL,ac (by omega)]; rfl);exact this
  let vs:=(List.range n).map fun i=>(w.cell? ⟨b,off+i,none⟩).getD undef
  have hl:=run_loadCells_list (P:=c.P) w ⟨b,off,none⟩ vs (fun j v hj=>by
   have hjn:j<n :=(by have:=(aa.1 hj).1; simpa [vs] using this);obtain⟨u,hu,_⟩:=hc j hjn;rw[addr_add]
   simp[vs,hjn,hu]at hj;rw[hu,hj])
  refine⟨vs,by simpa [vs] using hl,AVals.mk (by simp[vs]; omega) fun i x v hx hv=>?_⟩;have hin:i<n :=(by have:=(aa.1 hv).1; simpa [vs] using this);obtain⟨u,hu,hr⟩:=hc i hin;rw[aU,if_pos hin]at hx;rw[aL,hx]at hr;simp[vs,hin,hu]at hv;subst hv; exact hr
 unfold zOQ at h;split at h
 ·cases h
 rename_i i ht;obtain⟨d,info,z,b1,b2,b3,b4,b5,b6,b7,b8,b9,b10⟩:=hT t i ht;have hagg:=zDV (P:=c.P) w b1;rw[b2]at hagg;split at h
 ·rename_i hk;split at h
  ·rename_i hle;cases h;obtain⟨vs,h1,h2⟩:=hload i.size (aj hle);refine⟨.agg vs.toArray,?_,by simp only[AVal]; exact⟨vs,rfl,h2⟩⟩;simp[Instr.loadAt,Instr.sureAddr,loadVar,hagg,hk,zAt w b3,b4,h1]
  cases h
 rename_i hk;split at h
 ·rename_i x r;cases h;obtain⟨u,hu,hr'⟩:=hr 0 y rfl;simp only[bz]at hu;refine⟨u,?_,hr'⟩;simp[Instr.loadAt,Instr.sureAddr,loadVar,hagg,hk,hu]
 cases h
theorem yAi  (h:zOQ T t row=some y) (hr:∀ x∈row,x.lt n=true):y.lt n=true:=by
 unfold zOQ at h;split at h
 ·cases h
 split at h
 ·split at h
  ·cases h; simp only[AV.lt]; exact zHf fun x hx=>hr x (mem_of_mem_take hx)
  cases h
 split at h
 ·cases h; exact hr _ (by simp)
 cases h
theorem yAj  (hT:TOk c.P T)
  (hc:Conc c G O V a w) {o:Oper} {t:Nat} {y:Operand} (ho:o.op = .load t y) {k sz i off e':Nat} (e:opd T V.env 0 y = .rp k sz i off) {rows:List (List AV)} (hh:V.hp k=some (.arow e' sz rows)) (hφ:i<rows.length) {x:AV}
  (hl:zOQ T t ((rows.getD i []).drop off)=some x) {K:Act->World->Prop} {Q:Exit->Act->World->Prop}
  (hK':∀ v,AVal G w O x v->x.lt V.nx=true->K (a.put o.dst v) w):o.wp c.P a w K Q:=by
 have hρ:∀ ty x,AVal G w O (opd T V.env ty x) (a.eval x):=zEO hc T;have hy:=hρ 0 y;rw[e]at hy;simp only[AVal]at hy;obtain⟨b,n,cp,hβ,hv⟩:=hy;have hrowlt:AV.ltAll V.nx rows.flatten=true :=(by simpa [Ob.lt] using (hc.hplt k _ hh).2);obtain⟨hlen,hs0,ho'⟩:=hc.hp k _ hh;rcases ho' with ⟨_,rfl⟩ | ⟨b',cap,cur,o1,o2,o3,⟨mk,hmk,o4⟩,o5,o6,o7⟩
 ·simp at hφ
 rw[hβ]at o1;cases o1;have hg:rows.getD i []=rows[i] :=(by simp[ac hφ]);have hrow:∀ q s,(rows.getD i [])[q]? = some s->∃ u,w.cell? ⟨b,i * sz+q,none⟩=some u/\AVal G w O s u:=fun q s hq=>by
  have hql:q<sz :=(by rw[hg]at hq; rw[← hlen rows[i] (aV hφ)]; exact(aa.1 hq).1);have hq':rows.flatten[i * sz+q]? = some s:=by
   rw[zE1 sz hlen hφ (by omega) (by omega),← hg,← hq]; congr 1; omega
  obtain⟨u,hu,hr,_⟩:=o7 _ s hq';exact⟨u,by simp[World.cell?,o4,hu],hr⟩
 obtain⟨u,hu,hr⟩:=zYY (c:=c) (G:=G) (O:=O) hT hl (b:=b) (off:=i * sz+off) fun q s hq=>by
  rw[List.getElem?_drop]at hq;rw[Nat.add_assoc]; exact hrow (off+q) s hq
 rw[← hv]at hu;exact zAA (v:=u) (w':=w) (by unfold execOp; rw[ho]; simp[hu]) (hK' u hr (yAi hl fun x hx=>zFY hrowlt x (List.mem_flatten.2 ⟨rows[i],aV hφ,hg ▸ mem_of_mem_drop hx⟩)))
end
end Go.Proofs.YtbfnjnljboncgaaGreat
