/-
  Joined out of: LibS, LibT, XuB, MNod, MCnt, XuT, XuC, PCnt, PByte, PText, XuL, XuM, XuN, XuO, XuQ, XuS, XuR, LibU, XuJ, XuU, XuV, XuZ, XuAC, XeY, XeW, XuAE, XuAF, XuW, XuX, XuY, XuE, XuF, XuG, XuH, PVal, XuI, XuP, XuK, XuAD, XuAA, XuAB.
-/
import Derived.Lib.Strings
import Derived.Lib.Slices
import Derived.Lib.Walk
import Derived.Lib.Bytealg
import Derived.Lib.Builder
import Derived.Lib.UnsafeStr
import Derived.Laws.Externs
import Derived.Shelf.RegionOpenPlain
import Derived.Test.YtbfnjnljboncgaaGreatZc
open List
open Go.IntKind (i16 i32 i64 i8 u16 u32 u64 u8)
open Go.Proofs.Tryz
set_option linter.unusedVariables false
set_option linter.defProp false
set_option linter.unusedSimpArgs false
set_option maxHeartbeats 2000000
set_option maxRecDepth 100000
namespace Go.Proofs.YtbfnjnljboncgaaGreat
set_option maxHeartbeats 1000000 in
def Tryz.stringslite_IndexByte (s:ByteArray) (c:Int) (w:World) :
  Calls prog 197 #[.string s,.int .u8 c] w fun e w'=>e = .returned (.int .i64 (Lib.indexByte s.data.toList c.toNat.toUInt8))/\w'=w:=by
 go_enter func197,Tryz.ntmps197
 go_wp2
 rw[run_callFunc_extern func229 (by kernel_rfl) (by kernel_rfl) (by kernel_rfl) (e:=Extern.BytealgIndexByte.indexByte) (by kernel_rfl),Lib.run_indexByteString];simp only[Result.andThen];rw[Oper.upon_value]
 go_wp2
 go_ret;exact qQ
def Tryz.stringslite_Index_one (s:ByteArray) (c:UInt8) (w:World) :
  Calls prog 228 #[.string s,.string ⟨#[c]⟩] w fun e w'=>e = .returned (.int .i64 (Lib.indexByte s.data.toList c))/\w'=w:=by
 go_enter func228,Tryz.ntmps228
 go_wp2_with (go_at_call 197; refine(Tryz.stringslite_IndexByte _ _ _).mono ?_; rintro e w' ⟨rfl,rfl⟩)
 ·have h:([c] == s.toList)=true:=by assumption
  go_ret;refine⟨?_,rfl⟩;have e:s.data.toList=[c] :=(by rw[← Lib.toList_data]; exact(bD.1 h).symm);rw[e];simp[Lib.indexByte]
 go_ret;exact qQ
set_option maxHeartbeats 1000000 in
def Tryz.strings_IndexByte (s:ByteArray) (c:Int) (w:World) :
  Calls prog 146 #[.string s,.int .u8 c] w fun e w'=>e = .returned (.int .i64 (Lib.indexByte s.data.toList c.toNat.toUInt8))/\w'=w:=by
 go_enter func146,Tryz.ntmps146
 go_wp2_with (go_at_call 197; refine(Tryz.stringslite_IndexByte _ _ _).mono ?_; rintro e w' ⟨rfl,rfl⟩)
 go_ret;exact qQ
set_option maxHeartbeats 1000000 in
def Tryz.strings_Index_one (s:ByteArray) (c:UInt8) (w:World) :
  Calls prog 195 #[.string s,.string ⟨#[c]⟩] w fun e w'=>e = .returned (.int .i64 (Lib.indexByte s.data.toList c))/\w'=w:=by
 go_enter func195,Tryz.ntmps195
 go_wp2_with (go_at_call 228; refine(Tryz.stringslite_Index_one _ _ _).mono ?_; rintro e w' ⟨rfl,rfl⟩)
 go_ret;exact qQ
set_option maxHeartbeats 1000000 in
def Tryz.strings_Contains_one (s:ByteArray) (c:UInt8) (w:World) :
  Calls prog 142 #[.string s,.string ⟨#[c]⟩] w fun e w'=>e = .returned (.bool (decide (0<=Lib.indexByte s.data.toList c)))/\w'=w:=by
 go_enter func142,Tryz.ntmps142
 go_wp2_with (go_at_call 195; refine(Tryz.strings_Index_one _ _ _).mono ?_; rintro e w' ⟨rfl,rfl⟩)
 go_ret;exact qQ
def zLB {f:Nat}{s:List AV->Ret->Prop} (hcall:∀ args w,(callFunc f args).run prog w = .ok (.enter f args) w)
  (h:∀ (G:Nat->Prop) (w:World) (xs:List AV) (vs:List Value) (r:Ret),AVals G w (fun _=>.tuple #[]) xs vs->s xs r->Calls prog f vs.toArray w fun e w'=>w'=w/\∃ v,e = .returned v/\RetAt G w w r v):PSound prog f (zAr s) :=
 ⟨hcall,fun G w xs vs r hl _ _ hv hs=>(h G w xs vs r hv hs).mono fun e w' ⟨h1,v,h2,h3⟩=>(by subst h1; exact⟨v,G,h2,Ext.refl hl,h3⟩),fun R hR=>(by cases hR),fun R hR=>(by cases hR)⟩
def zJJ (xs:List AV) (r:Ret):Prop:=∃ (a0 a1:List UInt8) (y0:Int),zEj a0 a1=some y0/\xs=[nS a0,nS a1]/\r = .val (nI y0)
def zGd:zAq:=zAr fun xs r=>zJJ xs r
def zJj:PSound prog 228 zGd:=zLB call228 fun G w xs vs r hv ⟨a,p,y,h,hx,hr⟩=>by
 subst hx; subst hr;obtain⟨hp,h⟩:=zAs h;have hy:=Option.some.inj h;subst hy;obtain⟨c,rfl⟩:∃ c,p=[c]:=by
  match p,hp with
  | [c],_=>exact⟨c,rfl⟩
 simp only[AVals,AVal,Rep]at hv;obtain⟨_,_,rfl,rfl,_,_,rfl,rfl,rfl⟩:=hv;exact(Tryz.stringslite_Index_one ⟨a.toArray⟩ c w).mono fun e w' ⟨h1,h2⟩=>⟨h2,_,h1,rfl,by simp only[AVal,Rep]; rfl⟩
def zKb (xs:List AV) (r:Ret):Prop:=∃ (a0 a1:List UInt8) (y0:Bool),zEK a0 a1=some y0/\xs=[nS a0,nS a1]/\r = .val (nB y0)
def zGF:zAq:=zAr fun xs r=>zKb xs r
def zJ0:PSound prog 142 zGF:=zLB call142 fun G w xs vs r hv ⟨a,p,y,h,hx,hr⟩=>by
 subst hx; subst hr;obtain⟨hp,h⟩:=zAs h;have hy:=Option.some.inj h;subst hy;obtain⟨c,rfl⟩:∃ c,p=[c]:=by
  match p,hp with
  | [c],_=>exact⟨c,rfl⟩
 simp only[AVals,AVal,Rep]at hv;obtain⟨_,_,rfl,rfl,_,_,rfl,rfl,rfl⟩:=hv;exact(Tryz.strings_Contains_one ⟨a.toArray⟩ c w).mono fun e w' ⟨h1,h2⟩=>⟨h2,_,h1,rfl,by simp only[AVal,Rep]; rfl⟩
def zJI (xs:List AV) (r:Ret):Prop:=∃ (a0:List UInt8) (a1:Int) (y0:Int),zCd a0 a1=some y0/\xs=[nS a0,.s (.int .u8 a1)]/\r = .val (nI y0)
def zGc:zAq:=zAr fun xs r=>zJI xs r
def zFN:PSound prog 146 zGc:=zLB call146 fun G w xs vs r hv ⟨a,c,y,h,hx,hr⟩=>by
 subst hx; subst hr;have hy:=Option.some.inj h;subst hy;simp only[AVals,AVal,Rep]at hv;obtain⟨_,_,rfl,rfl,_,_,rfl,rfl,rfl⟩:=hv;exact(Tryz.strings_IndexByte ⟨a.toArray⟩ c w).mono fun e w' ⟨h1,h2⟩=>⟨h2,_,h1,rfl,by simp only[AVal,Rep]⟩
set_option maxHeartbeats 1000000 in
def Tryz.bld_check_used (b off:Nat) (w:World) (h0:w.cell? ⟨b,off,none⟩=some (.pointer (some ⟨b,off,none⟩))) :
  Calls prog 194 #[.pointer (some ⟨b,off,none⟩)] w fun e w'=>e = .returned (.tuple #[])/\w'=w:=by
 have hj:prog.info? 89=some Tryz.t89:=by kernel_rfl
 go_enter func194,Tryz.ntmps194
 go_wp2
 rw[Lib.run_neq_ptr_same w _ Tryz.underlying86 hj]
 go_wp2
 go_end0
 exact qQ
set_option maxHeartbeats 1000000 in
def Tryz.bld_check_fresh (b off D n:Nat) (w:World) (h0:w.cell? ⟨b,off,none⟩=some (.pointer none)) (hsh:w.shape? b=some (D,n)) (hn:off<n) (hlies:liesAt prog prog.depth D (n / prog.cellsOf D) off 89 1=true) (hfz:w.frozen? ⟨b,off,none⟩=false) :
  Calls prog 194 #[.pointer (some ⟨b,off,none⟩)] w fun e w'=>e = .returned (.tuple #[])/\w'=w.setCell ⟨b,off,none⟩ (.pointer (some ⟨b,off,none⟩)):=by
 have hj:prog.info? 89=some Tryz.t89 :=(by kernel_rfl);have hjs:Tryz.t89.size ≠ 0:=by decide
 go_enter func194,Tryz.ntmps194
 go_wp2
 rw[Lib.run_to_unsafe w ⟨b,off,none⟩ Tryz.underlying86 Tryz.underlying265 hj hjs hsh hn];simp only[Result.andThen];rw[Oper.upon_value]
 go_wp2
 rw[run_callFunc_extern func227 (by kernel_rfl) (by kernel_rfl) (by kernel_rfl) (e:=Extern.AbiNoEscape.same) (by kernel_rfl)];rw[Lib.run_noEscape];simp only[Result.andThen];rw[Oper.upon_value]
 go_wp2
 rw[Lib.run_from_unsafe w ⟨b,off,none⟩ Tryz.underlying265 Tryz.underlying86 hj hsh hlies];simp only[Result.andThen];rw[Oper.upon_value]
 go_wp2
 go_end0
 exact qQ
def Tryz.bld_String (b off g cap:Nat) (l:List UInt8) (w:World) (cur:Array Value) (mk:Nat×Nat) (h0:l ≠ []) (hb:w.cell? ⟨b,off+1,none⟩=some (.slice (some ⟨g,0,none⟩) l.length cap)) (hg:w.heap[g]? = some (.cells cur 5 mk)) (hc:cur.size=cap * 1) (hle:l.length<=cap) (hm:l.length<=9223372036854775807)
  (hx:∀ (j:Nat) x,l[j]? = some x->cur[j]? = some (.int .u8 x.toNat)) :
  Calls prog 40 #[.pointer (some ⟨b,off,none⟩)] w fun e w'=>e = .returned (.string ⟨l.toArray⟩)/\w'=w.drew.freeze ⟨g,0,none⟩ l.length:=by
 have hl0:l.length ≠ 0 :=(by simpa using h0);have c1:w.drew.cell? ⟨b,off+1,none⟩=some (.slice (some ⟨g,0,none⟩) l.length cap):=hb;have hSD:(Builtin.unsafeSliceData_ #[87] 140 #[.slice (some ⟨g,0,none⟩) l.length cap]).run prog w.drew = .ok (.pointer (some ⟨g,0,none⟩)) w.drew :=
  Lib.run_unsafeSliceData_row _ _ _ _ _ _ (by omega)
 have hg':w.drew.heap[g]? = some (.cells cur 5 mk):=hg;have hUS:(Builtin.unsafeString_ #[140,3] 9 #[.pointer (some ⟨g,0,none⟩),.int .i64 l.length]).run prog w.drew = .ok (.string ⟨l.toArray⟩) (w.drew.freeze ⟨g,0,none⟩ l.length):=by
  refine Lib.run_unsafeString_row w.drew 140 3 9 5 Tryz.underlying140 (by kernel_rfl) g cur.size (by simp[World.shape?,hg']) l h0 (by omega) hm ?_;intro j x hx';have e:(Addr.mk g 0 none).add j=⟨g,j,none⟩:=by
   unfold Addr.add;split
   ·rename_i e; rw[e]
   simp
  rw[e];simp only[World.cell?,hg'];exact hx j x hx'
 have mixed:prog.follows .mixedOrders=true:=by kernel_rfl
 go_enter func40,Tryz.ntmps40
 go_wp2
 go_region_o;all_goals (go_wp2; go_ret; exact⟨rfl,rfl⟩)
def yB6:zQI Tryz.prog 194 (extB 89 0 2) :=
 zPy Tryz.call194 fun b w cur h hs hc=>hc.elim
  (fun hc=>(Tryz.bld_check_fresh b 0 89 2 w (by simp[World.cell?,h,hc]) (by simp[World.shape?,h,hs]) (by decide) (by kernel_rfl) (by simp[World.frozen?,h])).mono fun e w' ⟨h1,h2⟩=>⟨h1,by subst h2; exact Wrote.cell h⟩)
  (fun hc=>(Tryz.bld_check_used b 0 w (by simp[World.cell?,h,hc])).mono fun e w' ⟨h1,h2⟩=>⟨h1,by subst h2; exact Wrote.same h hc⟩)
def yB7:zQI Tryz.prog 194 (extB 91 1 3) :=
 zPy Tryz.call194 fun b w cur h hs hc=>hc.elim
  (fun hc=>(Tryz.bld_check_fresh b 1 91 3 w (by simp[World.cell?,h,hc]) (by simp[World.shape?,h,hs]) (by decide) (by kernel_rfl) (by simp[World.frozen?,h])).mono fun e w' ⟨h1,h2⟩=>⟨h1,by subst h2; exact Wrote.cell h⟩)
  (fun hc=>(Tryz.bld_check_used b 1 w (by simp[World.cell?,h,hc])).mono fun e w' ⟨h1,h2⟩=>⟨h1,by subst h2; exact Wrote.same h hc⟩)
def e0 (g:Nat):Option ExtF:=bif Nat.beq g 194 then some (orX (extB 89 0 2) (extB 91 1 3)) else none
def zZ3:∀ g h,e0 g=some h->zQI Tryz.prog g h:=fun g h e=>by
 unfold e0 at e;cases e1:Nat.beq g 194 with
 | false=>rw[e1]at e; cases e
 | true=>rw[e1]at e;cases e;obtain rfl:=ab e1;exact yDR yB6 yB7
def auL:List Nat:=[73,72,174,175,215,216,231,232,239,172,125,126,128,177,210,138,140,206,165,166,68,114,115,116,117,118,119,120,121]
noncomputable def auT (g:Nat):Option Fi:=bif inL g auL then xFn g else none
def zXG:∀ g fi,auT g=some fi->zK9 Tryz.prog g fi:=fun g fi h=>by
 unfold auT at h;cases e:inL g auL with
 | true=>rw[e]at h; exact zQc g fi h
 | false=>rw[e]at h; cases h
abbrev Fc:=Fact Tryz.prog
abbrev E:=Evl Tryz.prog
noncomputable def rnE (g:Nat) (xs:List AV) (os:List Ob) (fs:List Fc):=match xFn g with | some fi=>runE TW e0 auT fi xs os fs | none=>none
def ev {g:Nat}{xs:List AV}{os:List Ob}{x:AV}{os':List (Option Ob)} (fs:List Fc) (h:(rnE g xs os fs).map lftE=some (rgtE x os' (rnE g xs os fs))):E g xs os x os':=by
 unfold rnE at h;cases e:xFn g with
 | none=>rw[e]at h; cases h
 | some fi=>rw[e]at h; exact zY0 tokW mixed zZ3 zXG (zQc g fi e) fs h
noncomputable def runl (g k n0:Nat) (L:List (Nat×AV)) (H:List (Nat×Ob)) (n:Nat) (ts:List Nat) (fs:List Fc):=match xFn g with | some fi=>runL TW e0 auT fi k n0 L H n ts fs | none=>none
noncomputable def LP (g k n0:Nat) (L:List (Nat×AV)) (H:List (Nat×Ob)) (n:Nat) (e:YtbfnjnljboncgaaGreat.End) (L':List (Nat×AV)) (H':List (Nat×Ob)) (n':Nat):Prop :=
 match xFn g with | some fi=>zXq Tryz.prog fi.fn.ntmps n0 (zPI fi k) L H n e L' H' n' | none=>False
def lp {g k n0:Nat}{L:List (Nat×AV)}{H:List (Nat×Ob)}{n:Nat}{e:YtbfnjnljboncgaaGreat.End}{L':List (Nat×AV)}{H':List (Nat×Ob)}{n':Nat} (fs:List Fc) (h:(runl g k n0 L H n (L'.map (·.1)) fs).map lftL=some (rgtL e L' H' n' (runl g k n0 L H n (L'.map (·.1)) fs))):LP g k n0 L H n e L' H' n':=by
 unfold runl at h;unfold LP;cases hg:xFn g with
 | none=>rw[hg]at h; cases h
 | some fi=>rw[hg]at h; exact yCs tokW mixed zZ3 zXG fs h
noncomputable def zB7 (g k n0:Nat) (L:List (Nat×AV)) (H:List (Nat×Ob)) (n:Nat) (e:YtbfnjnljboncgaaGreat.End) (L':List (Nat×AV)) (H':List (Nat×Ob)) (n':Nat) (fi:Fi) (hg:xFn g=some fi) (h:LP g k n0 L H n e L' H' n'):Fc :=
 .loop fi.fn.ntmps n0 (zPI fi k) L H n e L' H' n' (by unfold LP at h; rw[hg]at h; exact h)
def zBZ:(List UInt8)->Option Bool
| s1=>some (s1 == [])
def zBk (s1:List UInt8):Nat->Int->Option (Fl Bool Unit)
| 0,_=>none
| k+1,i2=>bif decide (i2<(s1.length:Int)) then ((at? s1 i2).bind fun c3=>(bif decide ((zId .or .u8 (c3.toNat:Int) 32)<97) then (some true) else (some (decide (122<(zId .or .u8 (c3.toNat:Int) 32)))):Option (Bool)).bind fun x5=>bif x5 then (some (.ret false)) else (zBk s1 k (i64.wrap (i2+1)))) else (some (.go ()))
def zDd (n:Nat):(List UInt8)->Option Bool
| s1=>(zBk s1 n 0).bind fun fl=>match fl with
 | .ret r=>some r
 | .go _=>some true
def zD6:(List UInt8)->Option Bool
| s1=>((bif (s1 == [102,114,97,99]) then (some (s1 == [102,114,97,99])) else (bif (s1 == [114,111,111,116]) then (some (s1 == [114,111,111,116])) else (bif (s1 == [109,97,116,114,105,120]) then (some (s1 == [109,97,116,114,105,120])) else (some (s1 == [102,101,110,99,101])))):Option (Bool)).bind fun x2=>bif x2 then (some (.ret true)) else (some (.go ())):Option (Fl Bool Unit)).bind fun fl=>match fl with
 | .ret r=>some r
 | .go _=>some false
def zDK:(List UInt8)->Option Bool
| s1=>((bif (s1 == [104,97,116]) then (some (s1 == [104,97,116])) else (bif (s1 == [98,97,114]) then (some (s1 == [98,97,114])) else (bif (s1 == [118,101,99]) then (some (s1 == [118,101,99])) else (bif (s1 == [100,111,116]) then (some (s1 == [100,111,116])) else (bif (s1 == [116,105,108,100,101]) then (some (s1 == [116,105,108,100,101])) else (some (s1 == [99,104,101,99,107])))))):Option (Bool)).bind fun x2=>bif x2 then (some (.ret true)) else (some (.go ())):Option (Fl Bool Unit)).bind fun fl=>match fl with
 | .ret r=>some r
 | .go _=>some false
def zEI (n:Nat):(List UInt8)->Option Bool
| s1=>bif ((s1.length:Int) == 1) then (((zDd n s1).bind fun y3=>bif y3 then (some true) else ((zEK [43,45,42,47,61,60,62,44,59,58,33,124,39,63,126,64] s1).bind fun y4=>some y4):Option (Bool)).bind fun x2=>some x2) else ((bif decide (2<=(s1.length:Int)) then (bif decide ((s1.length:Int)<=16) then ((zDd n s1).bind fun y6=>bif y6 then ((zD6 s1).bind fun y7=>bif (!y7) then ((zDK s1).bind fun y8=>some (!y8)) else (some false)) else (some false)) else (some false)) else (some false):Option (Bool)).bind fun x5=>some x5)
def zCK:(List UInt8)->(List UInt8)->Option ((List UInt8)×(List UInt8)×Bool)
| s1,sep2=>(zEj s1 sep2).bind fun y3=>bif decide (0<=y3) then (req (0<=(0:Int)/\(0:Int)<=y3/\y3<=(s1.length:Int)) <| req (0<=(i64.wrap (y3+(sep2.length:Int)))/\(i64.wrap (y3+(sep2.length:Int)))<=(s1.length:Int)/\(s1.length:Int)<=(s1.length:Int)) <| some ((s1.take y3.toNat).drop (0:Int).toNat,(s1.take (s1.length:Int).toNat).drop (i64.wrap (y3+(sep2.length:Int))).toNat,true)) else (some (s1,[],false))
def zEL:(List UInt8)->(List UInt8)->Option ((List UInt8)×(List UInt8)×Bool)
| s1,sep2=>(zCK s1 sep2).bind fun⟨y3,y4,y5⟩=>some (y3,y4,y5)
def zBw (s1:List UInt8):Nat->Int->Option (Fl Bool Unit)
| 0,_=>none
| k+1,i2=>bif decide (i2<(s1.length:Int)) then (((at? s1 i2).bind fun c4=>bif decide ((c4.toNat:Int)<48) then (some true) else ((at? s1 i2).bind fun c6=>some (decide (57<(c6.toNat:Int)))):Option (Bool)).bind fun x3=>bif x3 then (some (.ret false)) else (zBw s1 k (i64.wrap (i2+1)))) else (some (.go ()))
def zDL (n:Nat):(List UInt8)->Option Bool
| s1=>(zBw s1 n 0).bind fun fl=>match fl with
 | .ret r=>some r
 | .go _=>some (!(s1 == []))
def zDJ (n:Nat):(List UInt8)->Option Bool
| s1=>(zEL s1 [46]).bind fun⟨y2,y3,y4⟩=>(bif decide ((s1.length:Int)<=20) then ((zDL n y2).bind fun y6=>bif y6 then (bif (!y4) then (some true) else ((zDL n y3).bind fun y7=>some y7)) else (some false)) else (some false):Option (Bool)).bind fun x5=>some x5
def zBI (s1:List UInt8):Nat->Int->Option (Fl Bool Unit)
| 0,_=>none
| k+1,i2=>bif decide (i2<(s1.length:Int)) then (((at? s1 i2).bind fun c4=>bif decide ((c4.toNat:Int)<32) then (some true) else ((at? s1 i2).bind fun c6=>some (decide (126<(c6.toNat:Int)))):Option (Bool)).bind fun x3=>bif x3 then (some (.ret false)) else (zBI s1 k (i64.wrap (i2+1)))) else (some (.go ()))
def zFt (n:Nat):(List UInt8)->Option Bool
| s1=>(zBI s1 n 0).bind fun fl=>match fl with
 | .ret r=>some r
 | .go _=>some (decide ((s1.length:Int)<=200))
def zFs:(List UInt8)->Option Bool
| s1=>(bif ((s1.length:Int) == 2) then ((at? s1 0).bind fun c3=>(zCd [40,41,91,93,123,125,60,62,47,124,46] (c3.toNat:Int)).bind fun y5=>bif decide (0<=y5) then ((at? s1 1).bind fun c6=>(zCd [40,41,91,93,123,125,60,62,47,124,46] (c6.toNat:Int)).bind fun y8=>some (decide (0<=y8))) else (some false)) else (some false):Option (Bool)).bind fun x2=>some x2
def zGJ:Option Unit
:= some ()
def zCn (n:Nat):(Unit×Int)->Nd->Option (Bool×(Unit×Int))
| ⟨_,o1H⟩,⟨a2A,a2C,a2D,a2B⟩=>(bif decide (a2A<1) then (some true) else (bif decide (12<a2A) then (some true) else (bif (a2A == 1) then ((zBZ a2C).bind fun y4=>some (!y4)) else (bif (a2A == 2) then ((zEI n a2C).bind fun y5=>some (!y5)) else (bif (a2A == 3) then ((zDJ n a2C).bind fun y6=>some (!y6)) else (bif (a2A == 4) then ((zFt n a2C).bind fun y7=>some (!y7)) else (bif (a2A == 5) then ((zBZ a2C).bind fun y8=>some (!y8)) else (bif (a2A == 6) then ((zBZ a2C).bind fun y9=>some (!y9)) else (bif (a2A == 7) then ((zBZ a2C).bind fun y10=>some (!y10)) else (bif (a2A == 8) then ((zBZ a2C).bind fun y11=>some (!y11)) else (bif (a2A == 9) then ((zBZ a2C).bind fun y12=>some (!y12)) else (
             bif (a2A == 10) then ((zDK a2C).bind fun y13=>some (!y13)) else (bif (a2A == 11) then ((zFs a2C).bind fun y14=>some (!y14)) else (bif (a2A == 12) then ((zBZ a2C).bind fun y15=>some (!y15)) else (none)))))))))))))):Option (Bool)).bind fun x3=>bif x3 then (some (false,((),o1H))) else (bif (a2A == 1) then ((bif (a2D == 0) then (some (decide ((a2B.length:Int)<=200))) else (some false):Option (Bool)).bind fun x16=>some (x16,((),o1H))) else (bif (a2A == 12) then ((bif decide (1<=a2D) then (bif decide (a2D<=16) then (bif decide (1<=(a2B.length:Int)) then (bif decide ((a2B.length:Int)<=256) then (req (a2D ≠ 0) <| some (((a2B.length:Int).tmod a2D) == 0)) else (some false)) else (some false)) else (some false)) else (some false)
     : Option (Bool)).bind fun x18=>some (x18,((),o1H))) else ((bif (a2D == 0) then (bif (a2A == 1) then (some ((a2B.length:Int) == 0)) else (bif (a2A == 2) then (some ((a2B.length:Int) == 0)) else (bif (a2A == 3) then (some ((a2B.length:Int) == 0)) else (bif (a2A == 4) then (some ((a2B.length:Int) == 0)) else (bif (a2A == 5) then (some ((a2B.length:Int) == 2)) else (bif (a2A == 6) then (some ((a2B.length:Int) == 2)) else (bif (a2A == 7) then (some ((a2B.length:Int) == 2)) else (bif (a2A == 8) then (some ((a2B.length:Int) == 2)) else (bif (a2A == 9) then (some ((a2B.length:Int) == 3)) else (bif (a2A == 10) then (some ((a2B.length:Int) == 1)) else (bif (a2A == 11) then (some ((a2B.length:Int) == 1)) else (bif (a2A == 12) then (some ((a2B.length:Int) == 0)
                 ) else (none))))))))))))) else (some false):Option (Bool)).bind fun x22=>some (x22,((),o1H)))))
def zAK (F_node_checker_node:(Unit×Int)->Nd->Int->Option (Bool×(Unit×Int))) (a2A:Int) (a2B:List Nd) (a3:Int):Nat->Int->Int->Option (Fl (Bool×(Unit×Int)) (Int))
| 0,_,_=>none
| k+1,x9,x10=>bif decide (x10<(a2B.length:Int)) then (((at? a2B x10).bind fun⟨e14A,e14C,e14D,e14B⟩=>bif ((a2A == 1) == (e14A == 1)) then (some (true,x9)) else ((at? a2B x10).bind fun⟨e16A,e16C,e16D,e16B⟩=>(F_node_checker_node ((),x9) (Nd.mk e16A e16C e16D e16B) (i64.wrap (a3+1))).bind fun⟨y18,⟨_,w19H⟩⟩=>some ((!y18),w19H)):Option (Bool×Int)).bind fun⟨x12,x13⟩=>bif x12 then (some (.ret (false,((),x13)))) else (zAK F_node_checker_node a2A a2B a3 k x13 (i64.wrap (x10+1)))) else (some (.go x9))
def zAT:Nat->(Unit×Int)->Nd->Int->Option (Bool×(Unit×Int))
| 0,_,_,_=>none
| n+1,⟨_,o1H⟩,⟨a2A,a2C,a2D,a2B⟩,a3=>(bif decide (1000<(i64.wrap (o1H+1))) then (some (true,i64.wrap (o1H+1))) else (bif decide (24<a3) then (some (true,i64.wrap (o1H+1))) else ((zCn n ((),i64.wrap (o1H+1)) (Nd.mk a2A a2C a2D a2B)).bind fun⟨y6,⟨_,w7H⟩⟩=>some ((!y6),w7H))):Option (Bool×Int)).bind fun⟨x4,x5⟩=>bif x4 then (some (false,((),x5))) else ((zAK (zAT n) a2A a2B a3 n x5 0).bind fun fl=>match fl with
  | .ret r=>some r
  | .go x11=>some (true,((),x11)))
def zAZ (n:Nat):Nd->Option Bool
| ⟨n1A,n1C,n1D,n1B⟩=>(zGJ ).bind fun _=>(bif (n1A == 1) then ((zAT n ((),0) (Nd.mk n1A n1C n1D n1B) 1).bind fun⟨y4,⟨_,w5H⟩⟩=>some y4) else (some false):Option (Bool)).bind fun x3=>some x3
def zEs:Int->Option Bool
| c1=>(bif decide (97<=c1) then (bif decide (c1<=122) then (some true) else (bif decide (65<=c1) then (some (decide (c1<=90))) else (some false))) else (bif decide (65<=c1) then (some (decide (c1<=90))) else (some false)):Option (Bool)).bind fun x2=>some x2
def zCP (s1:List UInt8) (c2:Int):Nat->Int->Option (Fl Bool Unit)
| 0,_=>none
| k+1,i3=>bif decide (i3<(s1.length:Int)) then ((at? s1 i3).bind fun c4=>bif ((c4.toNat:Int) == c2) then (some (.ret true)) else (zCP s1 c2 k (i64.wrap (i3+1)))) else (some (.go ()))
def zDy (n:Nat):(List UInt8)->Int->Option Bool
| s1,c2=>(zCP s1 c2 n 0).bind fun fl=>match fl with
 | .ret r=>some r
 | .go _=>some false
def zEJ (n:Nat):Int->Option Bool
| c1=>((zEs c1).bind fun y3=>bif y3 then (some true) else ((zDy n [43,45,42,47,61,60,62,44,59,58,33,124,39,63,126,64] c1).bind fun y4=>some y4):Option (Bool)).bind fun x2=>some x2
def zFg:Option (List (List UInt8))
:= some [[102,114,97,99],[114,111,111,116],[109,97,116,114,105,120],[102,101,110,99,101]]
def zDw (l1:List (List UInt8)) (s2:List UInt8):Nat->Int->Option (Fl Bool Unit)
| 0,_=>none
| k+1,i3=>bif decide (i3<(l1.length:Int)) then ((at? l1 i3).bind fun e5=>bif (e5 == s2) then (some (.ret true)) else (zDw l1 s2 k (i64.wrap (i3+1)))) else (some (.go ()))
def zFf (n:Nat):(List (List UInt8))->(List UInt8)->Option Bool
| l1,s2=>(zDw l1 s2 n 0).bind fun fl=>match fl with
 | .ret r=>some r
 | .go _=>some false
def zDM:Option (List (List UInt8))
:= some [[104,97,116],[98,97,114],[118,101,99],[100,111,116],[116,105,108,100,101],[99,104,101,99,107]]
def zBs (s1:List UInt8):Nat->Int->Option (Fl Bool Unit)
| 0,_=>none
| k+1,i5=>bif decide (i5<(s1.length:Int)) then ((at? s1 i5).bind fun c6=>(zEs (c6.toNat:Int)).bind fun y8=>bif (!y8) then (some (.ret false)) else (zBs s1 k (i64.wrap (i5+1)))) else (some (.go ()))
def zFw (n:Nat):(List UInt8)->Option Bool
| s1=>bif ((s1.length:Int) == 1) then ((at? s1 0).bind fun c2=>(zEJ n (c2.toNat:Int)).bind fun y4=>some y4) else ((zBs s1 n 0).bind fun fl=>match fl with
  | .ret r=>some r
  | .go _=>(bif decide (2<=(s1.length:Int)) then (bif decide ((s1.length:Int)<=16) then ((zFg ).bind fun y10=>(zFf n y10 s1).bind fun y11=>bif (!y11) then ((zDM ).bind fun y12=>(zFf n y12 s1).bind fun y13=>some (!y13)) else (some false)) else (some false)) else (some false):Option (Bool)).bind fun x9=>some x9)
def zGk:Int->Option Bool
| c1=>(bif decide (48<=c1) then (some (decide (c1<=57))) else (some false):Option (Bool)).bind fun x2=>some x2
def zB9 (s1:List UInt8):Nat->Int->Int->Option (Fl Bool (Int))
| 0,_,_=>none
| k+1,points2,i3=>bif decide (i3<(s1.length:Int)) then ((((at? s1 i3).bind fun c7=>bif ((c7.toNat:Int) == 46) then (bif decide (0<i3) then (some (decide (i3<(i64.wrap ((s1.length:Int) - 1))))) else (some false)) else (some false):Option (Bool)).bind fun x6=>bif x6 then (some (.go (i64.wrap (points2+1)))) else ((at? s1 i3).bind fun c9=>(zGk (c9.toNat:Int)).bind fun y11=>bif (!y11) then (some (.ret false)) else (some (.go points2))):Option (Fl Bool (Int))).bind fun fl=>match fl with
  | .ret r=>some (.ret r)
  | .go points5=>zB9 s1 k points5 (i64.wrap (i3+1))) else (some (.go points2))
def zFu (n:Nat):(List UInt8)->Option Bool
| s1=>(zB9 s1 n 0 0).bind fun fl=>match fl with
 | .ret r=>some r
 | .go points4=>(bif decide (0<(s1.length:Int)) then (bif decide ((s1.length:Int)<=20) then (some (decide (points4<=1))) else (some false)) else (some false):Option (Bool)).bind fun x12=>some x12
def zBb (s1:List UInt8):Nat->Int->Option (Fl Bool Unit)
| 0,_=>none
| k+1,i2=>bif decide (i2<(s1.length:Int)) then (((at? s1 i2).bind fun c4=>bif decide ((c4.toNat:Int)<32) then (some true) else ((at? s1 i2).bind fun c6=>some (decide (126<(c6.toNat:Int)))):Option (Bool)).bind fun x3=>bif x3 then (some (.ret false)) else (zBb s1 k (i64.wrap (i2+1)))) else (some (.go ()))
def zDx (n:Nat):(List UInt8)->Option Bool
| s1=>(zBb s1 n 0).bind fun fl=>match fl with
 | .ret r=>some r
 | .go _=>some true
def zHj (n:Nat):Nd->Option Bool
| ⟨n1A,n1C,n1D,n1B⟩=>bif (n1A == 2) then ((zFw n n1C).bind fun y2=>some y2) else (bif (n1A == 3) then ((zFu n n1C).bind fun y3=>some y3) else (bif (n1A == 4) then ((bif decide ((n1C.length:Int)<=200) then ((zDx n n1C).bind fun y5=>some y5) else (some false):Option (Bool)).bind fun x4=>some x4) else (bif (n1A == 10) then ((zDM ).bind fun y6=>(zFf n y6 n1C).bind fun y7=>some y7) else (bif (n1A == 11) then ((bif ((n1C.length:Int) == 2) then ((at? n1C 0).bind fun c9=>(zDy n [40,41,91,93,123,125,124,60,62,47,46] (c9.toNat:Int)).bind fun y11=>bif y11 then ((at? n1C 1).bind fun c12=>(zDy n [40,41,91,93,123,125,124,60,62,47,46] (c12.toNat:Int)).bind fun y14=>some y14) else (some false)) else (some false)
       : Option (Bool)).bind fun x8=>some x8) else (some (n1C == []))))))
def zHi:Nd->Option Bool
| ⟨n1A,n1C,n1D,n1B⟩=>bif (n1A == 12) then ((bif decide (1<=n1D) then (bif decide (n1D<=16) then (bif decide (1<=(n1B.length:Int)) then (bif decide ((n1B.length:Int)<=256) then (req (n1D ≠ 0) <| some (((n1B.length:Int).tmod n1D) == 0)) else (some false)) else (some false)) else (some false)) else (some false):Option (Bool)).bind fun x3=>some x3) else (bif (n1D != 0) then (some false) else ((bif (n1A == 1) then (some (.ret (decide ((n1B.length:Int)<=200)))) else ((bif (n1A == 2) then (some (n1A == 2)) else (bif (n1A == 3) then (some (n1A == 3)) else (some (n1A == 4))):Option (Bool)).bind fun x4=>bif x4 then (some (.ret ((n1B.length:Int) == 0))) else ((bif (n1A == 5) then (some (n1A == 5)) else (bif (n1A == 6) then (some (n1A == 6)) else (bif (n1A == 7) then (
          some (n1A == 7)) else (some (n1A == 8)))):Option (Bool)).bind fun x5=>bif x5 then (some (.ret ((n1B.length:Int) == 2))) else (bif (n1A == 9) then (some (.ret ((n1B.length:Int) == 3))) else ((bif (n1A == 10) then (some (n1A == 10)) else (some (n1A == 11)):Option (Bool)).bind fun x6=>bif x6 then (some (.ret ((n1B.length:Int) == 1))) else (some (.go ())))))):Option (Fl Bool Unit)).bind fun fl=>match fl with
   | .ret r=>some r
   | .go _=>some false))
def zC3 (F_r09_form:Nd->Option Bool) (n1A:Int) (n1B:List Nd):Nat->Int->Option (Fl Bool Unit)
| 0,_=>none
| k+1,i5=>bif decide (i5<(n1B.length:Int)) then (((at? n1B i5).bind fun⟨e8A,e8C,e8D,e8B⟩=>bif ((e8A == 1) == (n1A == 1)) then (some true) else ((at? n1B i5).bind fun⟨e10A,e10C,e10D,e10B⟩=>(F_r09_form (Nd.mk e10A e10C e10D e10B)).bind fun y12=>some (!y12)):Option (Bool)).bind fun x7=>bif x7 then (some (.ret false)) else (zC3 F_r09_form n1A n1B k (i64.wrap (i5+1)))) else (some (.go ()))
def zDN:Nat->Nd->Option Bool
| 0,_=>none
| n+1,⟨n1A,n1C,n1D,n1B⟩=>((zHj n (Nd.mk n1A n1C n1D n1B)).bind fun y3=>bif (!y3) then (some true) else ((zHi (Nd.mk n1A n1C n1D n1B)).bind fun y4=>some (!y4)):Option (Bool)).bind fun x2=>bif x2 then (some false) else ((zC3 (zDN n) n1A n1B n 0).bind fun fl=>match fl with
  | .ret r=>some r
  | .go _=>some true)
def zCw (F_r09_Count:Nd->Option Int) (n1B:List Nd):Nat->Int->Int->Option (Int)
| 0,_,_=>none
| k+1,out2,i3=>bif decide (i3<(n1B.length:Int)) then ((at? n1B i3).bind fun⟨e6A,e6C,e6D,e6B⟩=>(F_r09_Count (Nd.mk e6A e6C e6D e6B)).bind fun y8=>zCw F_r09_Count n1B k (i64.wrap (out2+y8)) (i64.wrap (i3+1))) else (some out2)
def zC1:Nat->Nd->Option Int
| 0,_=>none
| n+1,⟨n1A,n1C,n1D,n1B⟩=>(zCw (zC1 n) n1B n 1 0).bind fun out4=>some out4
def zCx (F_r09_Depth:Nd->Option Int) (n1B:List Nd):Nat->Int->Int->Option (Int)
| 0,_,_=>none
| k+1,out2,i3=>bif decide (i3<(n1B.length:Int)) then ((at? n1B i3).bind fun⟨e6A,e6C,e6D,e6B⟩=>(F_r09_Depth (Nd.mk e6A e6C e6D e6B)).bind fun y8=>zCx F_r09_Depth n1B k (if out2<y8 then y8 else out2) (i64.wrap (i3+1))) else (some out2)
def zC2:Nat->Nd->Option Int
| 0,_=>none
| n+1,⟨n1A,n1C,n1D,n1B⟩=>(zCx (zC2 n) n1B n 0 0).bind fun out4=>some (i64.wrap (out4+1))
def zAM (n:Nat):Nd->Option Bool
| ⟨n1A,n1C,n1D,n1B⟩=>(bif (n1A == 1) then ((zDN n (Nd.mk n1A n1C n1D n1B)).bind fun y3=>bif y3 then ((zC1 n (Nd.mk n1A n1C n1D n1B)).bind fun y4=>bif decide (y4<=1000) then ((zC2 n (Nd.mk n1A n1C n1D n1B)).bind fun y5=>some (decide (y5<=24))) else (some false)) else (some false)) else (some false):Option (Bool)).bind fun x2=>some x2
def zBr (F_r09_Equal:Nd->Nd->Option Bool) (a1:List Nd) (b2:List Nd):Nat->Int->Option (Fl Bool Unit)
| 0,_=>none
| k+1,i5=>bif decide (i5<(a1.length:Int)) then ((at? a1 i5).bind fun⟨e7A,e7C,e7D,e7B⟩=>(at? b2 i5).bind fun⟨e9A,e9C,e9D,e9B⟩=>(F_r09_Equal (Nd.mk e7A e7C e7D e7B) (Nd.mk e9A e9C e9D e9B)).bind fun y11=>bif (!y11) then (some (.ret false)) else (zBr F_r09_Equal a1 b2 k (i64.wrap (i5+1)))) else (some (.go ()))
mutual
def zBi:Nat->Nd->Nd->Option Bool
| 0,_,_=>none
| n+1,⟨a1A,a1C,a1D,a1B⟩,⟨b2A,b2C,b2D,b2B⟩ =>
 (
  bif (a1A == b2A) then (
   bif (a1C == b2C) then (
    bif (a1D == b2D) then (
     (zCa n a1B b2B).bind fun y4 =>
     some y4
    ) else (
     some false
    )
   ) else (
    some false
   )
  ) else (
   some false
  )
  : Option (Bool)).bind fun x3 =>
 some x3
def zCa:Nat->(List Nd)->(List Nd)->Option Bool
| 0,_,_=>none
| n+1,a1,b2 =>
 bif ((a1.length:Int) != (b2.length:Int)) then (
  some false
 ) else (
  (zBr (zBi n) a1 b2 n 0).bind fun fl=>match fl with
  | .ret r=>some r
  | .go _ =>
   some true
 )
end
def zCo (F_r09_left:Nd->Int->Option Int) (n1B:List Nd):Nat->Int->Int->Option (Int)
| 0,_,_=>none
| k+1,most3,i4=>(bif decide (i4<(n1B.length:Int)) then (some (decide (0<=most3))) else (some false):Option (Bool)).bind fun x6=>bif x6 then ((at? n1B i4).bind fun⟨e8A,e8C,e8D,e8B⟩=>(F_r09_left (Nd.mk e8A e8C e8D e8B) most3).bind fun y10=>zCo F_r09_left n1B k y10 (i64.wrap (i4+1))) else (some most3)
def zDO:Nat->Nd->Int->Option Int
| 0,_,_=>none
| n+1,⟨n1A,n1C,n1D,n1B⟩,most2=>(zCo (zDO n) n1B n (i64.wrap (most2 - 1)) 0).bind fun most5=>some most5
def zGl (n:Nat):Nd->Int->Option Bool
| ⟨n1A,n1C,n1D,n1B⟩,most2=>(zDO n (Nd.mk n1A n1C n1D n1B) most2).bind fun y3=>some (decide (0<=y3))
def zAU:(List Nd)->Option Nd
| l1=>some (Nd.mk 1 [] 0 l1)
def zBP (n:Nat):(List Nd)->Option Bool
| l1=>(zAU l1).bind fun⟨y2A,y2C,y2D,y2B⟩=>(zAM n (Nd.mk y2A y2C y2D y2B)).bind fun y3=>some y3
def zD7 (n:Nat):(List Nd)->Int->Option Bool
| l1,slot2=>(bif ((l1.length:Int) == 1) then ((zBP n l1).bind fun y5=>bif y5 then (bif decide (0<=slot2) then ((at? l1 0).bind fun⟨e6A,e6C,e6D,e6B⟩=>bif decide (slot2<(e6B.length:Int)) then ((at? l1 0).bind fun⟨e9A,e9C,e9D,e9B⟩=>(at? e9B slot2).bind fun⟨e11A,e11C,e11D,e11B⟩=>some ((e11B.length:Int) == 0)) else (some false)) else (some false)) else (some false)) else (some false):Option (Bool)).bind fun x3=>some x3
def zEt (n:Nat):zO8->Option Bool
| ⟨a1A,a1E,a1F,a1V,a1H,a1W,a1Ac,a1C⟩=>((bif (a1A == 1) then (some (a1A == 1)) else (some (a1A == 2)):Option (Bool)).bind fun x2=>bif x2 then ((bif decide (0<(a1H.length:Int)) then ((zBP n a1H).bind fun y5=>bif y5 then (bif (a1V == 0) then (bif (a1W == 0) then (bif (a1Ac == []) then (some (a1C == [])) else (some false)) else (some false)) else (some false)) else (some false)) else (some false):Option (Bool)).bind fun x3=>some (.ret x3)) else ((bif (a1A == 3) then (some (a1A == 3)) else (some (a1A == 4)):Option (Bool)).bind fun x6=>bif x6 then ((bif decide (0<=a1V) then ((zD7 n a1H a1W).bind fun y8=>bif y8 then (bif (a1Ac == []) then (some (a1C == [])) else (some false)) else (some false)) else (some false):Option (Bool)).bind fun x7 =>
    some (.ret x7)) else (bif (a1A == 5) then ((bif (!(a1Ac == a1C)) then (bif ((a1H.length:Int) == 0) then (bif (a1V == 0) then (some (a1W == 0)) else (some false)) else (some false)) else (some false):Option (Bool)).bind fun x9=>some (.ret x9)) else (some (.go ())))):Option (Fl Bool Unit)).bind fun fl=>match fl with
 | .ret r=>some r
 | .go _=>some false
def zBX  : Nat->Int->(List UInt8)->Int->(List Nd)->(List Int)->Option (Fl (Nd×Bool) ((List Int)×Int×(List UInt8)×Int×(List Nd)))
| 0,_,_,_,_,_=>none
| k+1,x3,x4,x5,x6,path8=>bif decide (2<=(path8.length:Int)) then (((at? path8 0).bind fun e16=>bif decide (e16<0) then (some true) else ((at? path8 0).bind fun e18=>some (decide ((x6.length:Int)<=e18))):Option (Bool)).bind fun x15=>bif x15 then (some (.ret (Nd.mk 0 [] 0 [],false))) else ((at? path8 0).bind fun e21=>(at? x6 e21).bind fun⟨e23A,e23C,e23D,e23B⟩=>((at? path8 1).bind fun e26=>bif decide (e26<0) then (some true) else ((at? path8 1).bind fun e28=>some (decide ((e23B.length:Int)<=e28))):Option (Bool)).bind fun x25=>bif x25 then (some (.ret (Nd.mk 0 [] 0 [],false))) else ((at? path8 1).bind fun e31=>(at? e23B e31).bind fun⟨e33A,e33C,e33D,e33B⟩=>req (0<=(2:Int)/\(2:Int)<=(path8.length:Int)/\(path8.length:Int)<=(path8.length:Int)) <|
    zBX k e33A e33C e33D e33B ((path8.take (path8.length:Int).toNat).drop (2:Int).toNat)))) else (some (.go (path8,x3,x4,x5,x6)))
def zHh (n:Nat):Nd->(List Int)->Option (Nd×Bool)
| ⟨n1A,n1C,n1D,n1B⟩,path2=>(zBX  n n1A n1C n1D n1B path2).bind fun fl=>match fl with
 | .ret r=>some r
 | .go ⟨path9,x10,x11,x12,x13⟩=>some (Nd.mk x10 x11 x12 x13,((path9.length:Int) == 0))
def zFv (n:Nat):Nd->(List Int)->Option (Nd×Int)
| ⟨n1A,n1C,n1D,n1B⟩,path2=>(zAM n (Nd.mk n1A n1C n1D n1B)).bind fun y3=>bif (!y3) then (some (Nd.mk 0 [] 0 [],1)) else ((zHh n (Nd.mk n1A n1C n1D n1B) path2).bind fun⟨⟨y4A,y4C,y4D,y4B⟩,y5⟩=>bif (!y5) then (some (Nd.mk 0 [] 0 [],8)) else (some (Nd.mk y4A y4C y4D y4B,0)))
def zB0:(List Nd)->Int->Int->(List Nd)->Option (List Nd)
| l1,at2,to3,by4=>req (0<=(0:Int)/\(0:Int)<=at2/\at2<=(l1.length:Int)) <| req (([]:List Nd).length+((l1.take at2.toNat).drop (0:Int).toNat).length<=4294967296) <| req (((l1.take at2.toNat).drop (0:Int).toNat).length+by4.length<=4294967296) <| req (0<=to3/\to3<=(l1.length:Int)/\(l1.length:Int)<=(l1.length:Int)) <| req ((((l1.take at2.toNat).drop (0:Int).toNat)++by4).length+((l1.take (l1.length:Int).toNat).drop to3.toNat).length<=4294967296) <| some ((((l1.take at2.toNat).drop (0:Int).toNat)++by4)++((l1.take (l1.length:Int).toNat).drop to3.toNat))
def zBg:Nd->Int->Nd->Option Nd
| ⟨n1A,n1C,n1D,n1B⟩,i2,⟨kid3A,kid3C,kid3D,kid3B⟩=>req (([]:List Nd).length+n1B.length<=4294967296) <| (at? n1B i2).bind fun⟨e4A,e4C,e4D,e4B⟩=>some (Nd.mk n1A n1C n1D (n1B.set i2.toNat (Nd.mk kid3A kid3C kid3D kid3B)))
def zDC:Nd->Int->(List Nd)->Option Nd
| ⟨n1A,n1C,n1D,n1B⟩,slot2,l3=>req (([]:List Nd).length+l3.length<=4294967296) <| (zAU l3).bind fun⟨y4A,y4C,y4D,y4B⟩=>(zBg (Nd.mk n1A n1C n1D n1B) slot2 (Nd.mk y4A y4C y4D y4B)).bind fun⟨y5A,y5C,y5D,y5B⟩=>some (Nd.mk y5A y5C y5D y5B)
def zFx (n:Nat):(List Nd)->zO8->Option ((List Nd)×Int)
| a1,⟨a2A,a2E,a2F,a2V,a2H,a2W,a2Ac,a2C⟩=>(bif (a2A == 1) then (some 0) else (bif (a2A == 2) then (some (a2H.length:Int)) else (bif (a2A == 3) then (some a2V) else (some 1))):Option (Int)).bind fun x3=>(bif decide (a2F<0) then (some true) else (bif decide ((a1.length:Int)<a2F) then (some true) else (some (decide ((i64.wrap ((a1.length:Int) - a2F))<x3)))):Option (Bool)).bind fun x5=>bif x5 then (some ([],2)) else (bif (a2A == 1) then ((zB0 a1 a2F (i64.wrap (a2F+x3)) a2H).bind fun y8=>some (y8,0)) else (bif (a2A == 2) then (req (0<=a2F/\a2F<=i64.wrap (a2F+x3)/\i64.wrap (a2F+x3)<=(a1.length:Int)) <| (zCa n ((a1.take (i64.wrap (a2F+x3)).toNat).drop a2F.toNat) a2H).bind fun y10=>bif (!y10) then (
     some ([],7)) else ((zB0 a1 a2F (i64.wrap (a2F+x3)) []).bind fun y11=>some (y11,0))) else (bif (a2A == 3) then ((at? a2H 0).bind fun⟨e12A,e12C,e12D,e12B⟩=>req (0<=a2F/\a2F<=i64.wrap (a2F+x3)/\i64.wrap (a2F+x3)<=(a1.length:Int)) <| (zDC (Nd.mk e12A e12C e12D e12B) a2W ((a1.take (i64.wrap (a2F+x3)).toNat).drop a2F.toNat)).bind fun⟨y15A,y15C,y15D,y15B⟩=>(zB0 a1 a2F (i64.wrap (a2F+x3)) [Nd.mk y15A y15C y15D y15B]).bind fun y17=>some (y17,0)) else ((at? a1 a2F).bind fun⟨e18A,e18C,e18D,e18B⟩=>bif (a2A == 4) then ((bif decide ((e18B.length:Int)<=a2W) then (some true) else ((at? e18B a2W).bind fun⟨e22A,e22C,e22D,e22B⟩ =>
        bif ((e22B.length:Int) != a2V) then (some true) else ((at? a2H 0).bind fun⟨e25A,e25C,e25D,e25B⟩=>(at? e18B a2W).bind fun⟨e27A,e27C,e27D,e27B⟩=>(zDC (Nd.mk e25A e25C e25D e25B) a2W e27B).bind fun⟨y29A,y29C,y29D,y29B⟩=>(zBi n (Nd.mk e18A e18C e18D e18B) (Nd.mk y29A y29C y29D y29B)).bind fun y30=>some (!y30))):Option (Bool)).bind fun x20=>bif x20 then (some ([],7)) else ((at? e18B a2W).bind fun⟨e31A,e31C,e31D,e31B⟩=>(zB0 a1 a2F (i64.wrap (a2F+x3)) e31B).bind fun y33=>some (y33,0))) else (((bif (e18A == 2) then (some (e18A == 2)) else (bif (e18A == 3) then (some (e18A == 3)) else (bif (e18A == 4) then (some (e18A == 4)) else (
           bif (e18A == 10) then (some (e18A == 10)) else (some (e18A == 11))))):Option (Bool)).bind fun x34=>bif x34 then (bif (e18C == a2Ac) then ((zB0 a1 a2F (i64.wrap (a2F+x3)) [Nd.mk e18A a2C e18D e18B]).bind fun y36=>some (.ret (y36,0))) else (some (.go ()))) else (some (.go ())):Option (Fl ((List Nd)×Int) Unit)).bind fun fl=>match fl with
      | .ret r=>some r
      | .go _=>some ([],7))))))
def zFy:Nat->Nd->(List Int)->(List Nd)->Option Nd
| 0,_,_,_=>none
| n+1,⟨n1A,n1C,n1D,n1B⟩,path2,l3=>bif ((path2.length:Int) == 0) then ((zAU l3).bind fun⟨y5A,y5C,y5D,y5B⟩=>some (Nd.mk y5A y5C y5D y5B)) else ((at? path2 0).bind fun e6=>(at? n1B e6).bind fun⟨e8A,e8C,e8D,e8B⟩=>(at? path2 0).bind fun e10=>(at? path2 1).bind fun e12=>(at? path2 1).bind fun e14=>(at? e8B e14).bind fun⟨e16A,e16C,e16D,e16B⟩=>req (0<=(2:Int)/\(2:Int)<=(path2.length:Int)/\(path2.length:Int)<=(path2.length:Int)) <| (zFy n (Nd.mk e16A e16C e16D e16B) ((path2.take (path2.length:Int).toNat).drop (2:Int).toNat) l3).bind fun⟨y19A,y19C,y19D,y19B⟩ =>
  (zBg (Nd.mk e8A e8C e8D e8B) e12 (Nd.mk y19A y19C y19D y19B)).bind fun⟨y20A,y20C,y20D,y20B⟩=>(zBg (Nd.mk n1A n1C n1D n1B) e10 (Nd.mk y20A y20C y20D y20B)).bind fun⟨y21A,y21C,y21D,y21B⟩=>some (Nd.mk y21A y21C y21D y21B))
def zEg (n:Nat):Nd->zO8->Option (Nd×Int)
| ⟨n1A,n1C,n1D,n1B⟩,⟨op2A,op2E,op2F,op2V,op2H,op2W,op2Ac,op2C⟩=>(zAM n (Nd.mk n1A n1C n1D n1B)).bind fun y3=>bif (!y3) then (some (Nd.mk 0 [] 0 [],1)) else ((zEt n (op2A,op2E,op2F,op2V,op2H,op2W,op2Ac,op2C)).bind fun y4=>bif (!y4) then (some (Nd.mk 0 [] 0 [],4)) else ((zFv n (Nd.mk n1A n1C n1D n1B) op2E).bind fun⟨⟨y5A,y5C,y5D,y5B⟩,y6⟩=>bif (y6 != 0) then (some (Nd.mk 0 [] 0 [],y6)) else ((zFx n y5B (op2A,op2E,op2F,op2V,op2H,op2W,op2Ac,op2C)).bind fun⟨y7,y8⟩=>bif (y8 != 0) then (some (Nd.mk 0 [] 0 [],y8)) else ((zFy n (Nd.mk n1A n1C n1D n1B) op2E y7).bind fun⟨y9A,y9C,y9D,y9B⟩ =>
     (zAM n (Nd.mk y9A y9C y9D y9B)).bind fun y10=>bif (!y10) then (some (Nd.mk 0 [] 0 [],6)) else (some (Nd.mk y9A y9C y9D y9B,0))))))
def zBB (n:Nat) (ops2:List zO8):Nat->Int->(List UInt8)->Int->(List Nd)->Int->Option (Fl (Nd×Int×Int) (Int×(List UInt8)×Int×(List Nd)))
| 0,_,_,_,_,_=>none
| k+1,x4,x5,x6,x7,i9=>bif decide (i9<(ops2.length:Int)) then ((at? ops2 i9).bind fun⟨e15A,e15E,e15F,e15V,e15H,e15W,e15Ac,e15C⟩=>(zEg n (Nd.mk x4 x5 x6 x7) (e15A,e15E,e15F,e15V,e15H,e15W,e15Ac,e15C)).bind fun⟨⟨y17A,y17C,y17D,y17B⟩,y18⟩=>bif (y18 != 0) then (some (.ret (Nd.mk 0 [] 0 [],i9,y18))) else (zBB n ops2 k y17A y17C y17D y17B (i64.wrap (i9+1)))) else (some (.go (x4,x5,x6,x7)))
def zDe (n:Nat):Nd->(List zO8)->Option (Nd×Int×Int)
| ⟨n1A,n1C,n1D,n1B⟩,ops2=>(zAM n (Nd.mk n1A n1C n1D n1B)).bind fun y3=>bif (!y3) then (some (Nd.mk 0 [] 0 [],0,1)) else ((zBB n ops2 n n1A n1C n1D n1B 0).bind fun fl=>match fl with
  | .ret r=>some r
  | .go ⟨x10,x11,x12,x13⟩=>some (Nd.mk x10 x11 x12 x13,0,0))
def zDu:Nd->Option Int
| ⟨n1A,n1C,n1D,n1B⟩=>bif (n1A == 1) then (some 0) else (some (n1B.length:Int))
def zB4 (n:Nat):(List Nd)->Option Bool
| l1=>(zAZ n (Nd.mk 1 [] 0 l1)).bind fun y2=>some y2
def zAF (F_node_Equal:Nd->Nd->Option Bool) (s11:List Nd) (s22:List Nd):Nat->Int->Option (Fl Bool Unit)
| 0,_=>none
| k+1,x6=>bif decide (x6<(s11.length:Int)) then ((at? s11 x6).bind fun⟨e7A,e7C,e7D,e7B⟩=>(at? s22 x6).bind fun⟨e9A,e9C,e9D,e9B⟩=>(F_node_Equal (Nd.mk e7A e7C e7D e7B) (Nd.mk e9A e9C e9D e9B)).bind fun y11=>bif (!y11) then (some (.ret false)) else (zAF F_node_Equal s11 s22 k (i64.wrap (x6+1)))) else (some (.go ()))
mutual
def zBY:Nat->Nd->Nd->Option Bool
| 0,_,_=>none
| n+1,⟨a1A,a1C,a1D,a1B⟩,⟨b2A,b2C,b2D,b2B⟩ =>
 (
  bif (a1A == b2A) then (
   bif (a1C == b2C) then (
    bif (a1D == b2D) then (
     (zAP n a1B b2B).bind fun y4 =>
     some y4
    ) else (
     some false
    )
   ) else (
    some false
   )
  ) else (
   some false
  )
  : Option (Bool)).bind fun x3 =>
 some x3
def zAP:Nat->(List Nd)->(List Nd)->Option Bool
| 0,_,_=>none
| n+1,s11,s22 =>
 bif ((s11.length:Int) != (s22.length:Int)) then (
  some false
 ) else (
  (zAF (zBY n) s11 s22 n 0).bind fun fl=>match fl with
  | .ret r=>some r
  | .go _ =>
   some true
 )
end
mutual
def Nd.cnt:Nd->Nat
 | .mk _ _ _ ks=>Nd.cnts ks+1
def Nd.cnts:List Nd->Nat
 | []=>0
 | v::vs=>v.cnt+Nd.cnts vs
end
def Nd.cnt_pos:∀ v:Nd,1<=v.cnt
 | .mk _ _ _ ks=>by simp only[Nd.cnt]; omega
def Nd.cnts_len:∀ a:List Nd,a.length<=Nd.cnts a
 | []=>ar _
 | v::a=>by have:=Nd.cnts_len a; have:=v.cnt_pos; simp only[Nd.cnts,ah]; omega
def Nd.cnts_mem:∀ {a:List Nd}{v:Nd},v∈a->v.cnt<=Nd.cnts a
 | u::a,v,h=>by
  simp only[Nd.cnts];rcases aR.1 h with rfl | h
  ·omega
  ·have:=Nd.cnts_mem h; omega
def kP {P:Prop} (h:P:=by rw[aO h]; rfl):P:=h
def Nd.cnts_drop {a:List Nd}{i:Nat} (h:i<a.length):Nd.cnts (a.drop i)=(a[i]).cnt+Nd.cnts (a.drop (i+1)):=by
 exact kP
def zAS (n:Nd):Option Nd:=req (n.cnt<=1000000000) (some n)
def Nd.kids:Nd->List Nd
 | .mk _ _ _ ks=>ks
def yAf (n:Nd):n.kids ≠ []↔n.kids.isEmpty=false:=by cases n.kids <;> simp
instance (n:Nd):Decidable (n.kids ≠ []):=decidable_of_iff _ (yAf n).symm
def zCJ (n:Nd):Option Nd:=req (n.cnt<=1000000000/\n.kids ≠ []) (some n)
def zBn:Nd->List Int->Option Nd
 | n,[]=>some n
 | _,[_]=>none
 | n,i::s::path=>if 0<=i/\i<n.kids.length then
   let item:=n.kids.getD i.toNat n
   if 0<=s/\s<item.kids.length then zBn (item.kids.getD s.toNat n) path else none
  else none
def zCv:Nd:=.mk 0 [] 0 []
def putL:Nd->List Int->Nd->Nd
 | .mk k t c ks,i::s::path,r=>.mk k t c (ks.set i.toNat (match ks[i.toNat]? with
  | some (.mk k2 t2 c2 ks2)=>.mk k2 t2 c2 (ks2.set s.toNat (match ks2[s.toNat]? with
   | some z=>putL z path r
   | none=>r))
  | none=>r))
 | _,_,r=>r
def zHg (f:Nat) (n:Nd) (path:List Int):Option (Nd×Int) :=
 (zAZ f n).bind fun b=>if b=true then (match zBn n path with
  | some r=>(zAS r).bind fun r=>some (r,0)
  | none=>some (zCv,8)) else some (zCv,1)
def zE4 (f:Nat) (n:Nd) (path:List Int) (row:Nd):Option (Nd×Int) :=
 (zAZ f n).bind fun b=>if b=true then (zAS n).bind fun n=>(match zBn n path with
  | some _=>(zAZ f row).bind fun b=>if b=true then (zAS row).bind fun row=>(zAZ f (putL n path row)).bind fun b=>if b=true then some (putL n path row,0) else some (zCv,6) else some (zCv,4)
  | none=>some (zCv,8)) else some (zCv,1)
abbrev Tkn:=Int×List UInt8
def mk1 (c:UInt8):Tkn:=(7,[c])
def kF:List UInt8:=[102,114,97,99]
def kR:List UInt8:=[114,111,111,116]
def kM:List UInt8:=[109,97,116,114,105,120]
def zO9:List Nd->Bool
 | [.mk k _ _ _]=>k == 2||k == 3||k == 4
 | _=>false
def scr1 (k:Int):Bool:=k == 7||k == 8||k == 9
def scrI:List Nd->Bool
 | [.mk k _ _ _]=>scr1 k
 | _=>true
def brc (l:List Tkn):List Tkn:=mk1 123::(l++[mk1 125])
def argT (vs:List Nd) (l:List Tkn):List Tkn:=bif zO9 vs then l else brc l
def basT (vs:List Nd) (l:List Tkn):List Tkn:=bif scrI vs then brc l else l
def sepT (c:Int) (i:Nat):List Tkn:=if i=0 then [] else if (i:Int).tmod c=0 then [(8,[92,92])] else [mk1 38]
def zFm (c:Int):Nat->List (List Tkn)->List Tkn
 | _,[]=>[]
 | i,l::r=>sepT c i++(l++zFm c (i+1) r)
def shp (k:Int) (t:List UInt8) (c:Int) (ss:List (List Nd)) (ls:List (List Tkn)):List Tkn :=
 if k=12 then (4,kM)::mk1 123::(zFm c 0 ls++[mk1 125]) else match ss,ls with
 | [s],[l]=>if k=10 then (4,t)::argT s l else if t=[40,41] then mk1 40::(l++[mk1 41]) else if t=[91,93] then mk1 91::(l++[mk1 93]) else (5,t)::argT s l
 | [s0,s1],[l0,l1]=>if k=5 then (4,kF)::(argT s0 l0++argT s1 l1) else if k=6 then (4,kR)::((bif s0.isEmpty then [] else mk1 91::(l0++[mk1 93]))++argT s1 l1) else basT s0 l0++mk1 (if k=7 then 95 else 94)::argT s1 l1
 | [s0,s1,s2],[l0,l1,l2]=>basT s0 l0++mk1 95::(argT s1 l1++mk1 94::argT s2 l2)
 | _,_=>[if k=3 then (2,t) else if k=4 then (3,t) else (if t.length=1 then 1 else 4,t)]
def Nd.its:Nd->List Nd | .mk _ _ _ vs=>vs
mutual
def tI:Nd->List Tkn
 | .mk k t c ks=>shp k t c (ks.map Nd.its) (tRs ks)
def tRs:List Nd->List (List Tkn)
 | []=>[]
 | .mk _ _ _ vs::r=>tL vs::tRs r
def tL:List Nd->List Tkn
 | []=>[]
 | v::vs=>tI v++tL vs
end
section
abbrev Tk:=Int×List UInt8×Int×Int
abbrev Tk.enc (t:Tk):List S:=[.int .i64 t.1,.str t.2.1,.int .i64 t.2.2.1,.int .i64 t.2.2.2]
abbrev Tk.key (t:Tk):Tkn:=(t.1,t.2.1)
def hdT:List Tkn->Tkn
 | []=>(0,[])
 | t::_=>t
def isM (t:Tkn) (m:List UInt8):Bool:=decide (t.1=7)&&t.2 == m
def wz (z:Int):Int:=i64.wrap (z+1)
def Rs (tk:List Tk) (z:Int) (ts:List Tkn):Prop:=tk.length<=100000/\0<=z/\z<=tk.length/\(tk.drop z.toNat).map Tk.key=ts
def pK:List (List UInt8):=[[102,114,97,99],[114,111,111,116],[109,97,116,114,105,120],[104,97,116],[98,97,114],[118,101,99],[100,111,116],[116,105,108,100,101],[99,104,101,99,107]]
def pM:List AV:=[.clo 1048701 [.op 0 0],.clo 1048702 [.op 0 0],.clo 1048703 [.op 0 0],.clo 1048704 [.op 0 0],.clo 1048704 [.op 0 0],.clo 1048704 [.op 0 0],.clo 1048704 [.op 0 0],.clo 1048704 [.op 0 0],.clo 1048704 [.op 0 0]]
def pB (k:Nat) (tk:List Tk) (en z:Int):Ob:=.box 149 [.s (.sl 4 (tk.map Tk.enc)),nI z,nI en,.orow k,.s .np,nI 0,.mref 2,nI 0,nB false]
def PO (tk:List Tk) (en z:Int) (ro:List (List S)):List Ob:=[pB 1 tk en z,.row 3 1 ro,.any (.map pK) pM]
def PT (tk:List Tk) (en z:Int) (ro:List (List S)):List (Option Ob):=[some (pB 3 tk en z),none,some (.any (.map pK) pM),some (.row 3 1 ro)]
variable {os':List (Option Ob)}{os:List Ob}{xs:List AV}
def C {g:Nat}{x:AV} (h:E g xs os x os'):Fc:=.call false g xs os x os' h
def R {g:Nat}{x:AV} (h:E g xs os x os'):Fc:=.call true g xs os x os' h
def B (d:Nat){a b:Bool} (h:a=b):Fc:=.val d (nB a) (nB b) (by rw[h])
section
variable {tk:List Tk} {en z:Int} {ro:List (List S)} {t:Tkn} {ts:List Tkn}
def kK {P:Prop} (h:P:=by exact⟨h0,by omega,by omega,by rw[au]; exact(List.cons.inj h3).2⟩):P:=h
theorem Rs.next (h:Rs tk z (t::ts)):Rs tk (wz z) ts:=by
 obtain⟨h0,h1,h2,h3⟩:=h;obtain⟨n,rfl⟩:=aM h1;have hn:n<tk.length:=by
  rcases Nat.lt_or_ge n tk.length with h | h
  ·exact h
  rw[au,drop_eq_nil_of_le h]at h3; cases h3
 have e:wz (n:Int)=((n+1:Nat):Int):=zAG (by omega);rw[au,aO hn]at h3;rw[e];exact kK
def qO {P:Prop} (h:P:=by rw[drop_eq_nil_of_le h]at h3; cases h3):P:=h
theorem Rs.tok (h:Rs tk z (t::ts)):∃ a b,decide (z<(tk.map Tk.enc).length)=true/\zFC z (tk.map Tk.enc).length=true/\AV.s (.pt ((tk.map Tk.enc).getD z.toNat [])) = .s (.pt (Tk.enc (t.1,t.2,a,b))):=by
 obtain⟨h0,h1,h2,h3⟩:=h;obtain⟨n,rfl⟩:=aM h1;rw[au]at h3;have hn:n<tk.length:=by
  rcases Nat.lt_or_ge n tk.length with h | h
  ·exact h
  exact qO
 rw[aO hn]at h3;have h4:=(List.cons.inj h3).1;have h5:(n:Int)<((tk.map Tk.enc).length:Int) :=(by rw[az]; omega);refine⟨tk[n].2.2.1,tk[n].2.2.2,aP h5,?_,?_⟩
 ·unfold zFC;rw[aP h1,aP h5];rfl
 rw[au,aL,ao,ac hn,← h4];rfl
theorem Rs.done (h:Rs tk z []):decide (z<(tk.map Tk.enc).length)=false:=by
 obtain⟨h0,h1,h2,h3⟩:=h;obtain⟨n,rfl⟩:=aM h1;have:=List.map_eq_nil_iff.1 h3;rw[au,drop_eq_nil_iff]at this;refine aW ?_;rw[az];omega
theorem zCU (h:Rs tk z ts):∃ a b,E 129 [.op 0 0] (PO tk en z ro) (.agg [nI (hdT ts).1,nS (hdT ts).2,nI a,nI b]) ((PO tk en z ro).map some):=by
 cases ts with
 | nil=>exact⟨en,en,ev [B 12 h.done] (by kernel_rfl)⟩
 | cons t ts=>obtain⟨a,b,h1,h2,h3⟩:=h.tok;exact⟨a,b,ev [B 12 h1,.ok 21 _ h2,.val 21 _ _ h3] (by kernel_rfl)⟩
theorem at_ (en:Int) (ro:List (List S)) (h:Rs tk z ts) (m:List UInt8):E 130 [.op 0 0,nS m] (PO tk en z ro) (nB (isM (hdT ts) m)) ((PO tk en z ro).map some):=by
 obtain⟨a,b,h1⟩:=zCU (en:=en) (ro:=ro) h;unfold isM;generalize hdT ts=t at *;by_cases e:t.1=7
 ·rw[aP e];exact ev [R h1,B 10 (aP e)] (by kernel_rfl)
 rw[aW e];exact ev [R h1,B 10 (aW e)] (by kernel_rfl)
abbrev fl0:AV:=.agg [nI 0,nI 0]
abbrev nL (rows:List (List S)):AV:=.s (.sl 4 rows)
def zK8 (t:Tkn):Bool:=decide (t.1=0)||decide (t.1=8)||isM t [41]||isM t [93]||isM t [125]||isM t [38]
def yBO (h:zK8 t=false):decide (t.1=0)=false/\decide (t.1=8)=false/\isM t [41]=false/\isM t [93]=false/\isM t [125]=false/\isM t [38]=false:=by
 simpa [zK8,and_assoc] using h
def rH (tk:List Tk) (en z:Int) (ro its:List (List S)):List (Nat×Ob):=[(0,pB 3 tk en z),(2,.any (.map pK) pM),(3,.row 3 1 ro),(4,.box 96 [nI 0,nI 0]),(5,.row 24 4 its)]
abbrev RowL (tk:List Tk) (en z:Int) (ro its:List (List S)) (z':Int) (its':List (List S)):Prop :=
 LP 71 0 3 [(0,.op 0 0),(3,.op 4 0),(4,.orow 5)] (rH tk en z ro its) 6 .ret [(3,.op 4 0),(2,.orow 5)] (rH tk en z' ro its') 6
variable {its' rows:List (List S)}{z1 z2:Int}
theorem yAV {a b:Int}{its:List (List S)} (h:Rs tk z ts) (h1:E 129 [.op 0 0] (PO tk en z ro) (.agg [nI (hdT ts).1,nS (hdT ts).2,nI a,nI b]) ((PO tk en z ro).map some))
  (hs:zK8 (hdT ts)=false) (h2:E 131 [.op 0 0] (PO tk en z ro) (.tup [nL rows,fl0]) (PT tk en z1 ro)) (hb:zDE its.length rows.length 56=true) (ih:RowL tk en z1 ro (its++rows) z2 its'):RowL tk en z ro its z2 its':=by
 obtain⟨e1,e2,e3,e4,e5,e6⟩:=yBO hs;exact lp [.go,R h1,B 13 e1,B 38 e1,B 42 e2,R (at_ en ro h [41]),B 46 e3,R (at_ en ro h [93]),B 50 e4,R (at_ en ro h [125]),B 54 e5,R (at_ en ro h [38]),B 58 e6,C h2,.ok 73 _ hb,zB7 71 0 3 _ _ _ _ _ _ _ _ rfl ih] (by kernel_rfl)
theorem zLF (fs:List Fc) (a:(rnE 71 [.op 0 0] (PO tk en z ro) (.mv 1::fs)).map lftE=some (rgtE (.tup [nL [],fl0]) (PT tk en z ro) (rnE 71 [.op 0 0] (PO tk en z ro) (.mv 1::fs))))
  (b:∀ its,(runl 71 0 3 [(0,.op 0 0),(3,.op 4 0),(4,.orow 5)] (rH tk en z ro its) 6 [3,2] (.go::fs)).map lftL=some (rgtL .ret [(3,.op 4 0),(2,.orow 5)] (rH tk en z ro its) 6 (runl 71 0 3 [(0,.op 0 0),(3,.op 4 0),(4,.orow 5)] (rH tk en z ro its) 6 [3,2] (.go::fs)))) :
  E 71 [.op 0 0] (PO tk en z ro) (.tup [nL [],fl0]) (PT tk en z ro)/\∀ its,RowL tk en z ro its z its:=⟨ev (.mv 1::fs) a,fun its=>lp (.go::fs) (b its)⟩
theorem yAW (h:Rs tk z ts) (hs:zK8 (hdT ts)=true) (h0:decide ((hdT ts).1=0)=true->ro=[]):E 71 [.op 0 0] (PO tk en z ro) (.tup [nL [],fl0]) (PT tk en z ro)/\∀ its,RowL tk en z ro its z its:=by
 obtain⟨a,b,h1⟩:=zCU (en:=en) (ro:=ro) h;cases e1:decide ((hdT ts).1=0) with
 | true=>obtain rfl:=h0 e1; exact zLF [R h1,B 13 e1,B 38 e1] (by kernel_rfl) (fun its=>by kernel_rfl)
 | false =>
 cases e2:decide ((hdT ts).1=8) with
 | true=>exact zLF [R h1,B 13 e1,B 38 e1,B 42 e2] (by kernel_rfl) (fun its=>by kernel_rfl)
 | false =>
 cases e3:isM (hdT ts) [41] with
 | true=>exact zLF [R h1,B 13 e1,B 38 e1,B 42 e2,R (at_ en ro h [41]),B 46 e3] (by kernel_rfl) (fun its=>by kernel_rfl)
 | false =>
 cases e4:isM (hdT ts) [93] with
 | true=>exact zLF [R h1,B 13 e1,B 38 e1,B 42 e2,R (at_ en ro h [41]),B 46 e3,R (at_ en ro h [93]),B 50 e4] (by kernel_rfl) (fun its=>by kernel_rfl)
 | false =>
 cases e5:isM (hdT ts) [125] with
 | true=>exact zLF [R h1,B 13 e1,B 38 e1,B 42 e2,R (at_ en ro h [41]),B 46 e3,R (at_ en ro h [93]),B 50 e4,R (at_ en ro h [125]),B 54 e5] (by kernel_rfl) (fun its=>by kernel_rfl)
 | false=>have e6:isM (hdT ts) [38]=true :=(by simpa [zK8,e1,e2,e3,e4,e5] using hs);exact zLF [R h1,B 13 e1,B 38 e1,B 42 e2,R (at_ en ro h [41]),B 46 e3,R (at_ en ro h [93]),B 50 e4,R (at_ en ro h [125]),B 54 e5,R (at_ en ro h [38]),B 58 e6] (by kernel_rfl) (fun its=>by kernel_rfl)
theorem zYW {a b:Int} (h:Rs tk z ts) (h1:E 129 [.op 0 0] (PO tk en z ro) (.agg [nI (hdT ts).1,nS (hdT ts).2,nI a,nI b]) ((PO tk en z ro).map some))
  (hs:zK8 (hdT ts)=false) (h2:E 131 [.op 0 0] (PO tk en z ro) (.tup [nL rows,fl0]) (PT tk en z1 ro)) (hb:zDE 0 rows.length 56=true) (ih:RowL tk en z1 ro rows z2 its'):E 71 [.op 0 0] (PO tk en z ro) (.tup [nL its',fl0]) (PT tk en z2 ro):=by
 obtain⟨e1,e2,e3,e4,e5,e6⟩:=yBO hs;exact ev [.mv 1,.go,R h1,B 13 e1,B 38 e1,B 42 e2,R (at_ en ro h [41]),B 46 e3,R (at_ en ro h [93]),B 50 e4,R (at_ en ro h [125]),B 54 e5,R (at_ en ro h [38]),B 58 e6,C h2,.ok 73 _ hb,zB7 71 0 3 _ _ _ _ _ _ _ _ rfl ih] (by kernel_rfl)
end
def escT (t:List UInt8):List UInt8:=t.flatMap fun c=>bif c == 34||c == 92 then [92,c] else [c]
def fenL:List UInt8:=[102,101,110,99,101]
def zCM {n m k:Nat} (h:n+m<=200000000) (hk:k<=1000):zDE n m k=true:=by
 have:(n+m) * k<=200000000 * 1000:=Nat.mul_le_mul h hk;unfold zDE;rw[Nat.ble_eq_true_of_le (by omega),Nat.ble_eq_true_of_le (by omega)];rfl
def zU4 {l:List UInt8} (h0:l ≠ []) (hl:l.length<=1000000000):E 40 [.op 0 0] [.box 89 [.op 0 0,.orow 1],.row 5 1 (l.map brow)] (nS l) [some (.box 89 [.op 0 0,.junk]),none] :=
 OwnSound.evl Tryz.call40 (zNB (D:=89) (e:=5) (off:=0) (cells:=[.op 0 0,.orow 1]) rfl rfl rfl (fun i x h h1 h2=>by
  match i,h with
  | 0,_=>exact absurd rfl h1
  | 1,_=>exact absurd rfl h2
  | i+2,h=>simp at h) fun b g cap l w cur mk=>Tryz.bld_String b 0 g cap l w cur mk) ⟨l,h0,by omega,rfl,rfl,rfl,rfl⟩
def zXj {c d:UInt8} (h:c ≠ d):(((c.toNat:Nat):Int) == ((d.toNat:Nat):Int))=false:=by
 rw[aw];intro e;exact h (UInt8.toNat_inj.1 (Int.ofNat.inj e))
variable {φ:Prop}
def zAD  [Decidable φ] (h:φ):decide φ=true:=aP h
def zAC  [Decidable φ] (h:¬ φ):decide φ=false:=aW h
def zJC {F:Nd->Option Int}{ks:List Nd} (hF:∀ v∈ks,F v=some (v.cnt:Int)) :
  ∀ (k i:Nat) (o:Nat),ks.length - i<k->i<=ks.length->o+Nd.cnts (ks.drop i)<=1073741824->ks.length<=1073741824->zCw F ks k (o:Int) (i:Int)=some ((o+Nd.cnts (ks.drop i):Nat):Int)
 | 0,_,_,h,_,_,_=>by omega
 | k+1,i,o,hk,hi,ho,hl=>by
  unfold zCw;by_cases h:i<ks.length
  ·rw[zAD (aK.2 h),ag,zAH h];have hd:=Nd.cnts_drop h;have hf:=hF _ (aV h);rcases e:ks[i] with ⟨a,b,c,d⟩
   rw[e]at hd hf;simp only[obs,hf];rw[wrap64_in (by omega) (by omega),zAG (by omega),← Int.natCast_add,zJC hF k (i+1) _ (by omega) (by omega) (by omega) hl,hd];congr 2; omega
  ·rw[zAC (by omega),ae];obtain rfl:i=ks.length :=(by omega);simp[Nd.cnts]
def zMm:∀ (n:Nat) (t:Nd),t.cnt<n->t.cnt<=67108864->zC1 n t=some (t.cnt:Int)
 | 0,_,h,_=>by omega
 | n+1,.mk a b c ks,h,hb=>by
  simp only[Nd.cnt]at h hb;have hl:=Nd.cnts_len ks;unfold zC1;have:=zJC (F:=zC1 n) (ks:=ks) (fun v hv=>zMm n v (by have:=Nd.cnts_mem hv; omega) (by have:=Nd.cnts_mem hv; omega)) n 0 1 (by omega) (by omega) (by simp; omega) (by omega);rw[show((0:Nat):Int)=0 from rfl,show((1:Nat):Int)=1 from rfl]at this;rw[this];simp only[obs,drop_zero,Nd.cnt];congr 2; omega
def zSW {F:Nd->Int->Option Int}{ks:List Nd}{b:Nat} (hF:∀ (v:Nd) (m:Nat),m<=b->∃ r,F v (m:Int)=some r/\-1<=r/\r<m/\(0<=r->r+v.cnt=m)) :
  ∀ (k i:Nat) (m:Int),m+1<k->-1<=m->m<=b->i<=ks.length->(i:Int)+m<4611686018427387904->∃ r,zCo F ks k m (i:Int)=some r/\-1<=r/\r<=m/\(0<=r->r+Nd.cnts (ks.drop i)=m)
 | 0,_,_,h,_,_,_,_=>by omega
 | k+1,i,m,hk,hm,hb,hi,hx=>by
  unfold zCo;by_cases h:i<ks.length
  ·rw[zAD (aK.2 h),ag];simp only[obs];by_cases h0:0<=m
   ·rw[zAD h0,ag,zAH h];have hd:=Nd.cnts_drop h;rcases e:ks[i] with ⟨e1,e2,e3,e4⟩
    rw[e]at hd;simp only[obs];obtain⟨m',rfl⟩:=aM h0;obtain⟨r,h1,h2,h3,h4⟩:=hF (.mk e1 e2 e3 e4) m' (by omega);rw[h1,obs,zAG (by omega)];obtain⟨r',g1,g2,g3,g4⟩:=zSW (ks:=ks) hF k (i+1) r (by omega) h2 (by omega) (by omega) (by omega);exact⟨r',g1,g2,by omega,fun g=>by have:=g4 g; have:=h4 (by omega); omega⟩
   ·rw[zAC h0,ae];exact⟨m,rfl,hm,Int.le_refl _,fun g=>by omega⟩
  ·rw[zAC (by omega),ae];simp only[obs,ae];obtain rfl:i=ks.length :=(by omega);exact⟨m,rfl,hm,Int.le_refl _,fun _=>by simp[Nd.cnts]⟩
def left_eq:∀ (n:Nat) (t:Nd) (m:Nat),m+1<n->m<=67108864->∃ r,zDO n t (m:Int)=some r/\-1<=r/\r<m/\(0<=r->r+t.cnt=m)
 | 0,_,_,h,_=>by omega
 | n+1,.mk a b c ks,m,h,hm=>by
  unfold zDO;rw[wrap64_in (by omega) (by omega)];cases m with
  | zero =>
   cases n with
   | zero=>omega
   | succ n =>
    refine⟨-1,?_,by omega,by omega,fun h=>by omega⟩;unfold zCo;cases decide (((0:Nat):Int)<(ks.length:Int)) <;> simp <;> rfl
  | succ m =>
   obtain⟨r,h1,h2,h3,h4⟩:=zSW (F:=zDO n) (ks:=ks) (b:=m) (fun v q hq=>left_eq n v q (by omega) (by omega)) n 0 (m:Int) (by omega) (by omega) (by omega) (by omega) (by omega);rw[show((0:Nat):Int)=0 from rfl]at h1;rw[show((m+1:Nat):Int) - 1=(m:Int) by omega,h1];exact⟨r,rfl,h2,by omega,fun g=>by have:=h4 g; rw[drop_zero]at this; simp only[Nd.cnt]; omega⟩
def zXm (n:Nat) (t:Nd) (m:Nat) (h:m+1<n) (hm:m<=67108864):∃ b,zGl n t (m:Int)=some b/\(b=true->t.cnt<=m):=by
 obtain⟨a,b,c,ks⟩:=t;obtain⟨r,h1,h2,h3,h4⟩:=left_eq n (.mk a b c ks) m h hm;refine⟨decide (0<=r),by simp[zGl,h1],fun g=>by have g0:=aY g; have:=h4 g0; omega⟩
variable {α:Type}
def zQv  (p:α->Bool) (l:List α):Fl Bool Unit:=if l.all p then .go () else .ret false
def zZQ {p:α->Bool}{l:List α}{i:Nat} (h:i<l.length):(l.drop i).all p=(p l[i]&&(l.drop (i+1)).all p):=by
 exact kP
def zZR {p:α->Bool}{l:List α}{i:Nat} (h:i<l.length):(l.drop i).any p=(p l[i]||(l.drop (i+1)).any p):=by
 exact kP
def zIW {α:Type}{p:α->Bool}{l:List α} (L:Nat->Int->Option (Fl Bool Unit)) (hb:l.length<=1073741824)
  (h1:∀ (k i:Nat) (h:i<l.length),L (k+1) (i:Int)=if p l[i] then L k (((i+1:Nat)):Int) else some (.ret false)) (h2:∀ k,L (k+1) (l.length:Int)=some (.go ())) :
  ∀ (k i:Nat),l.length - i<k->i<=l.length->L k (i:Int)=some (zQv p (l.drop i))
 | 0,_,h,_=>by omega
 | k+1,i,hk,hi=>by
  by_cases h:i<l.length
  ·rw[h1 k i h,zIW L hb h1 h2 k (i+1) (by omega) (by omega)];unfold zQv;rw[zZQ h];cases p l[i] <;> simp
  ·obtain rfl:i=l.length :=(by omega);rw[h2]; simp[zQv]
def zQP {α:Type}{p:α->Bool}{l:List α} (L:Nat->Int->Option (Fl Bool Unit)) (hb:l.length<=1073741824)
  (h1:∀ (k i:Nat) (h:i<l.length),L (k+1) (i:Int)=if p l[i] then some (.ret true) else L k (((i+1:Nat)):Int)) (h2:∀ k,L (k+1) (l.length:Int)=some (.go ())) :
  ∀ (k i:Nat),l.length - i<k->i<=l.length->L k (i:Int)=some (if (l.drop i).any p then .ret true else .go ())
 | 0,_,h,_=>by omega
 | k+1,i,hk,hi=>by
  by_cases h:i<l.length
  ·rw[h1 k i h,zQP L hb h1 h2 k (i+1) (by omega) (by omega),zZR h];cases p l[i] <;> simp
  ·obtain rfl:i=l.length :=(by omega);rw[h2]; simp
def zIP {P:UInt8->Bool} (h:(List.range 256).all (fun n=>P n.toUInt8)=true) (b:UInt8):P b=true:=by
 have:P (UInt8.ofNat b.toNat)=true:=bo.1 h b.toNat (List.mem_range.2 b.toNat_lt);rwa [UInt8.ofNat_toNat]at this
def zAX (b:UInt8):Bool:=(decide (97<=b.toNat)&&decide (b.toNat<=122))||(decide (65<=b.toNat)&&decide (b.toNat<=90))
def zBE (b:UInt8):Bool:=decide (48<=b.toNat)&&decide (b.toNat<=57)
def zEP (b:UInt8):Bool:=decide (32<=b.toNat)&&decide (b.toNat<=126)
def zSp (b:UInt8):(bif decide ((zId .or .u8 (b.toNat:Int) 32)<97) then some true else some (decide (122<(zId .or .u8 (b.toNat:Int) 32))))=some (!zAX b) :=
 aY (zIP (P:=fun b=>decide ((bif decide ((zId .or .u8 (b.toNat:Int) 32)<97) then some true else some (decide (122<(zId .or .u8 (b.toNat:Int) 32))))=some (!zAX b))) (by decide +kernel) b)
def zL8 (b:UInt8):zEs (b.toNat:Int)=some (zAX b) :=
 aY (zIP (P:=fun b=>decide (zEs (b.toNat:Int)=some (zAX b))) (by decide +kernel) b)
def zUd (b:UInt8):zGk (b.toNat:Int)=some (zBE b) :=
 aY (zIP (P:=fun b=>decide (zGk (b.toNat:Int)=some (zBE b))) (by decide +kernel) b)
def zNX (n:Nat) (s:List UInt8) (h:s.length<n) (hb:s.length<=1073741824):zDd n s=some (s.all zAX):=by
 have:=zIW (p:=zAX) (l:=s) (zBk s) hb (fun k i h=>by
  rw[zBk,zAD (aK.2 h),ag,zAH h]
  simp only[obs,zSp]
  rw[zAG (by omega)]
  cases zAX s[i] <;> rfl) (fun k=>by rw[zBk,zAC (by omega)]; rfl) n 0 (by omega) (by omega)
 rw[show((0:Nat):Int)=0 from rfl,drop_zero]at this;rw[zDd,this];unfold zQv;cases s.all zAX <;> rfl
def zO4 (n:Nat) (s:List UInt8) (h:s.length<n) (hb:s.length<=1073741824):zBs s n 0=some (zQv zAX s):=by
 have:=zIW (p:=zAX) (l:=s) (zBs s) hb (fun k i h=>by
  rw[zBs,zAD (aK.2 h),ag,zAH h]
  simp only[obs,zL8]
  rw[zAG (by omega)]
  cases zAX s[i] <;> rfl) (fun k=>by rw[zBs,zAC (by omega)]; rfl) n 0 (by omega) (by omega)
 rwa [show((0:Nat):Int)=0 from rfl,drop_zero]at this
def zPW (n:Nat) (s:List UInt8) (c:Int) (h:s.length<n) (hb:s.length<=1073741824):zDy n s c=some (s.any fun b=>(b.toNat:Int) == c):=by
 have:=zQP (p:=fun b=>(b.toNat:Int) == c) (l:=s) (zCP s c) hb (fun k i h=>by
  rw[zCP,zAD (aK.2 h),ag,zAH h]
  simp only[obs]
  rw[zAG (by omega)]
  cases((s[i].toNat:Int) == c) <;> rfl) (fun k=>by rw[zCP,zAC (by omega)]; rfl) n 0 (by omega) (by omega)
 rw[show((0:Nat):Int)=0 from rfl,drop_zero]at this;rw[zDy,this];cases s.any fun b=>(b.toNat:Int) == c <;> rfl
def zOd (n:Nat) (l:List (List UInt8)) (s:List UInt8) (h:l.length<n) (hb:l.length<=1073741824):zFf n l s=some (l.any fun e=>e == s):=by
 have:=zQP (p:=fun e=>e == s) (l:=l) (zDw l s) hb (fun k i h=>by
  rw[zDw,zAD (aK.2 h),ag,zAH h]
  simp only[obs]
  rw[zAG (by omega)]
  cases(l[i] == s) <;> rfl) (fun k=>by rw[zDw,zAC (by omega)]; rfl) n 0 (by omega) (by omega)
 rw[show((0:Nat):Int)=0 from rfl,drop_zero]at this;rw[zFf,this];cases l.any fun e=>e == s <;> rfl
def zG0 (n:Nat) (s:List UInt8) (h:s.length<n) (hb:s.length<=1073741824):zDL n s=some (s.all zBE&&!(s == [])):=by
 have:=zIW (p:=zBE) (l:=s) (zBw s) hb (fun k i h=>by
  rw[zBw,zAD (aK.2 h),ag,zAH h]
  simp only[obs]
  rw[zAG (by omega)]
  unfold zBE
  by_cases a:48<=s[i].toNat
  ·by_cases b:s[i].toNat<=57
   ·simp[a,b,show ¬ ((s[i].toNat:Int)<48) by omega,show ¬ (57<(s[i].toNat:Int)) by omega]
   simp[a,b,show ¬ ((s[i].toNat:Int)<48) by omega,show(57<(s[i].toNat:Int)) by omega]
  simp[a,show((s[i].toNat:Int)<48) by omega]) (fun k=>by rw[zBw,zAC (by omega)]; rfl) n 0 (by omega) (by omega)
 rw[show((0:Nat):Int)=0 from rfl,drop_zero]at this;rw[zDL,this];unfold zQv;cases s.all zBE <;> rfl
def zTq (b:UInt8):(bif decide ((b.toNat:Int)<32) then some true else some (decide (126<(b.toNat:Int))):Option Bool)=some (!zEP b):=by
 unfold zEP;by_cases a:32<=b.toNat
 ·by_cases c:b.toNat<=126
  ·simp[a,c,show ¬ ((b.toNat:Int)<32) by omega,show ¬ (126<(b.toNat:Int)) by omega]
  simp[a,c,show ¬ ((b.toNat:Int)<32) by omega,show(126<(b.toNat:Int)) by omega]
 simp[a,show((b.toNat:Int)<32) by omega]
def zQS (n:Nat) (s:List UInt8) (h:s.length<n) (hb:s.length<=1073741824):zFt n s=some (s.all zEP&&decide ((s.length:Int)<=200)):=by
 have:=zIW (p:=zEP) (l:=s) (zBI s) hb (fun k i h=>by
  rw[zBI,zAD (aK.2 h),ag,zAH h]
  simp only[obs,zTq]
  rw[zAG (by omega)]
  cases zEP s[i] <;> rfl) (fun k=>by rw[zBI,zAC (by omega)]; rfl) n 0 (by omega) (by omega)
 rw[show((0:Nat):Int)=0 from rfl,drop_zero]at this;rw[zFt,this];unfold zQv;cases s.all zEP <;> rfl
def zMM (n:Nat) (s:List UInt8) (h:s.length<n) (hb:s.length<=1073741824):zDx n s=some (s.all zEP):=by
 have:=zIW (p:=zEP) (l:=s) (zBb s) hb (fun k i h=>by
  rw[zBb,zAD (aK.2 h),ag,zAH h]
  simp only[obs,zTq]
  rw[zAG (by omega)]
  cases zEP s[i] <;> rfl) (fun k=>by rw[zBb,zAC (by omega)]; rfl) n 0 (by omega) (by omega)
 rw[show((0:Nat):Int)=0 from rfl,drop_zero]at this;rw[zDx,this];unfold zQv;cases s.all zEP <;> rfl
def spL:List UInt8:=[43,45,42,47,61,60,62,44,59,58,33,124,39,63,126,64]
def fsL:List UInt8:=[40,41,91,93,123,125,60,62,47,124,46]
def kwL:List (List UInt8):=[[102,114,97,99],[114,111,111,116],[109,97,116,114,105,120],[102,101,110,99,101]]
def acL:List (List UInt8):=[[104,97,116],[98,97,114],[118,101,99],[100,111,116],[116,105,108,100,101],[99,104,101,99,107]]
def spB (c:UInt8):Bool:=decide (0<=Lib.indexByte spL c)
def fsB (c:UInt8):Bool:=decide (0<=Lib.indexByte fsL c)
def yCb (c:UInt8):(spL.any fun b=>(b.toNat:Int) == (c.toNat:Int))=spB c :=
 aY (zIP (P:=fun c=>decide ((spL.any fun b=>(b.toNat:Int) == (c.toNat:Int))=spB c)) (by decide +kernel) c)
def yCa (c:UInt8):(([40,41,91,93,123,125,124,60,62,47,46]:List UInt8).any fun b=>(b.toNat:Int) == (c.toNat:Int))=fsB c :=
 aY (zIP (P:=fun c=>decide ((([40,41,91,93,123,125,124,60,62,47,46]:List UInt8).any fun b=>(b.toNat:Int) == (c.toNat:Int))=fsB c)) (by decide +kernel) c)
def zVi (c:UInt8):Lib.indexByte fsL ((c.toNat:Int).toNat.toUInt8)=Lib.indexByte fsL c:=by
 rw[au]; congr 1; exact UInt8.ofNat_toNat
def zON (e s:List UInt8):(e == s)=(s == e):=by
 rw[Bool.eq_iff_iff]; simp only[bD]; exact eq_comm
def zNW (s:List UInt8):zD6 s=some (kwL.any fun e=>e == s):=by
 simp only[zD6,kwL,any_cons,any_nil,zON [102,114,97,99] s,zON [114,111,111,116] s,zON [109,97,116,114,105,120] s,zON [102,101,110,99,101] s];generalize (s == [102,114,97,99])=b1;generalize (s == [114,111,111,116])=b2;generalize (s == [109,97,116,114,105,120])=b3;generalize (s == [102,101,110,99,101])=b4;cases b1 <;> cases b2 <;> cases b3 <;> cases b4 <;> rfl
def zJx (s:List UInt8):zDK s=some (acL.any fun e=>e == s):=by
 simp only[zDK,acL,any_cons,any_nil,zON [104,97,116] s,zON [98,97,114] s,zON [118,101,99] s,zON [100,111,116] s,zON [116,105,108,100,101] s,zON [99,104,101,99,107] s];generalize (s == [104,97,116])=b1;generalize (s == [98,97,114])=b2;generalize (s == [118,101,99])=b3;generalize (s == [100,111,116])=b4;generalize (s == [116,105,108,100,101])=b5;generalize (s == [99,104,101,99,107])=b6;cases b1 <;> cases b2 <;> cases b3 <;> cases b4 <;> cases b5 <;> cases b6 <;> rfl
def symB (s:List UInt8):Bool :=
 if s.length=1 then s.all zAX||s.all spB
 else s.all zAX&&(decide (2<=s.length)&&(decide (s.length<=16)&&(!(kwL.any fun e=>e == s)&&!(acL.any fun e=>e == s))))
def lenE1 (s:List UInt8):((s.length:Int) == 1)=decide (s.length=1):=by
 by_cases h:s.length=1
 ·simp[h]
 rw[zAC h];cases e:((s.length:Int) == 1) with
 | false=>rfl
 | true=>have:=aE e; omega
def zGg (a b:Nat):decide ((a:Int)<=(b:Int))=decide (a<=b):=by
 by_cases h:a<=b
 ·rw[zAD h,zAD (by omega)]
 rw[zAC h,zAC (by omega)]
def zXM (a b:Nat):decide ((a:Int)<(b:Int))=decide (a<b):=by
 by_cases h:a<b
 ·rw[zAD h,zAD (by omega)]
 rw[zAC h,zAC (by omega)]
def qC {P:Prop} (h:P:=by cases s.all zAX <;> cases decide (2<=s.length) <;> cases decide (s.length<=16) <;> cases(kwL.any fun e=>e == s) <;> rfl):P:=h
def zOS (n:Nat) (s:List UInt8) (h:s.length+40<n) (hb:s.length<=1073741824):zEI n s=some (symB s):=by
 rw[zEI,lenE1,zNX n s (by omega) hb];unfold symB;by_cases h1:s.length=1
 ·rw[zAD h1,if_pos h1];obtain⟨c,rfl⟩:=aT.1 h1;have:zEK [43,45,42,47,61,60,62,44,59,58,33,124,39,63,126,64] [c]=some (spB c):=rfl;simp only[ag,obs,this,all_cons,all_nil,Bool.and_true];cases zAX c <;> rfl
 rw[zAC h1,if_neg h1];have e2:=zGg 2 s.length;have e16:=zGg s.length 16;rw[show((2:Nat):Int)=2 from rfl]at e2;rw[show((16:Nat):Int)=16 from rfl]at e16;simp only[ae,obs,zNW,zJx,e2,e16];exact qC
def zRl (n:Nat) (s:List UInt8) (h:s.length+40<n) (hb:s.length<=1073741824):zFw n s=some (symB s):=by
 rw[zFw,lenE1,zO4 n s (by omega) hb];unfold symB;by_cases h1:s.length=1
 ·rw[zAD h1,if_pos h1];obtain⟨c,rfl⟩:=aT.1 h1;have e1:at? [c] (0:Int)=some c:=rfl;have e2:zDy n [43,45,42,47,61,60,62,44,59,58,33,124,39,63,126,64] (c.toNat:Int)=some (spB c):=by
   rw[zPW n _ _ (by simp only[ah,an]; omega) (by simp only[ah,an]; omega)];exact congrArg some (yCb c)
  simp only[ag,obs,e1,zEJ,zL8,e2,all_cons,all_nil,Bool.and_true];cases zAX c <;> rfl
 rw[zAC h1,if_neg h1];have e2:=zGg 2 s.length;have e16:=zGg s.length 16;rw[show((2:Nat):Int)=2 from rfl]at e2;rw[show((16:Nat):Int)=16 from rfl]at e16;have ek:zFf n kwL s=some (kwL.any fun e=>e == s):=zOd n kwL s (by simp only[kwL,ah,an]; omega) (by simp[kwL]);have ea:zFf n acL s=some (acL.any fun e=>e == s):=zOd n acL s (by simp only[acL,ah,an]; omega) (by simp[acL]);have k1:zFg=some kwL:=rfl;have a1:zDM=some acL:=rfl;unfold zQv;simp only[ae,obs,k1,a1,ek,ea,e2,e16];exact qC
def fenB (s:List UInt8):Bool:=decide (s.length=2)&&s.all fsB
def len2 (s:List UInt8):((s.length:Int) == 2)=decide (s.length=2):=by
 by_cases h:s.length=2
 ·simp[h]
 rw[zAC h];cases e:((s.length:Int) == 2) with
 | false=>rfl
 | true=>have:=aE e; omega
def zQR (s:List UInt8):zFs s=some (fenB s):=by
 rw[zFs,len2];unfold fenB;by_cases h1:s.length=2
 ·rw[zAD h1];match s,h1 with
  | [c,d],_ =>
   have e0:at? [c,d] (0:Int)=some c:=rfl;have e1:at? [c,d] (1:Int)=some d:=rfl;have f:∀ c:UInt8,zCd [40,41,91,93,123,125,60,62,47,124,46] (c.toNat:Int)=some (Lib.indexByte fsL c):=fun c=>congrArg some (zVi c)
   have g:∀ c:UInt8,decide (0<=Lib.indexByte fsL c)=fsB c:=fun c=>rfl
   simp only[ag,e0,e1,f,obs,g,all_cons,all_nil,Bool.and_true,Bool.true_and];cases fsB c <;> rfl
 rw[zAC h1]; rfl
def zTr (n:Nat) (s:List UInt8) (h:40<n):(bif ((s.length:Int) == 2) then (
        (at? s 0).bind fun c9 =>
        (zDy n [40,41,91,93,123,125,124,60,62,47,46] (c9.toNat:Int)).bind fun y11 =>
        bif y11 then (
         (at? s 1).bind fun c12 =>
         (zDy n [40,41,91,93,123,125,124,60,62,47,46] (c12.toNat:Int)).bind fun y14 =>
         some y14
        ) else (
         some false
        )
       ) else (
        some false
       ))=some (fenB s):=by
 rw[len2];unfold fenB;by_cases h1:s.length=2
 ·rw[zAD h1];match s,h1 with
  | [c,d],_ =>
   have e0:at? [c,d] (0:Int)=some c:=rfl;have e1:at? [c,d] (1:Int)=some d:=rfl;have f:∀ c:UInt8,zDy n [40,41,91,93,123,125,124,60,62,47,46] (c.toNat:Int)=some (fsB c):=fun c=>by
    rw[zPW n _ _ (by simp only[ah,an]; omega) (by simp only[ah,an]; omega)];exact congrArg some (yCa c)
   simp only[ag,e0,e1,f,obs,all_cons,all_nil,Bool.and_true,Bool.true_and];cases fsB c <;> rfl
 rw[zAC h1]; rfl
def okL (L:Nat):Nat->List UInt8->Bool
 | _,[]=>true
 | i,c::r=>((c == 46&&(decide (0<i)&&decide (i+1<L)))||zBE c)&&okL L (i+1) r
def numB (s:List UInt8):Bool:=okL s.length 0 s&&(decide (0<s.length)&&(decide (s.length<=20)&&decide (s.count 46<=1)))
def yDk (c:UInt8):((c.toNat:Int) == 46)=(c == 46) :=
 aY (zIP (P:=fun c=>decide (((c.toNat:Int) == 46)=(c == 46))) (by decide +kernel) c)
def yCh:zBE 46=false:=by decide
def zQT (s:List UInt8) (hb:s.length<=1073741824):∀ (k i p:Nat),s.length - i<k->i<=s.length->p<=i ->
  zB9 s k (p:Int) (i:Int)=some (if okL s.length i (s.drop i) then .go ((p+(s.drop i).count 46:Nat):Int) else .ret false)
 | 0,_,_,h,_,_=>by omega
 | k+1,i,p,hk,hi,hp=>by
  unfold zB9;by_cases h:i<s.length
  ·rw[zAD (aK.2 h),ag,zAH h,aO h];generalize s[i]=c;simp only[obs,yDk,zUd,okL,count_cons];rw[zAG (by omega),zAG (by omega),wrap64_in (by omega) (by omega)];have d1:decide ((0:Int)<(i:Int))=decide (0<i):=zXM 0 i;have d2:decide ((i:Int)<(s.length:Int) - 1)=decide (i+1<s.length):=by
    by_cases h:i+1<s.length
    ·rw[zAD h,zAD (by omega)]
    rw[zAC h,zAC (by omega)]
   rw[d1,d2];cases e:c == 46 with
   | true =>
    obtain rfl:c=46:=aE e;simp only[ag,yCh,Bool.true_and,Bool.or_false];cases decide (0<i) with
    | false=>rfl
    | true=>
    simp only[ag,obs,Bool.true_and];cases decide (i+1<s.length) with
    | false=>rfl
    | true=>
    simp only[ag,obs,Bool.true_and];rw[zQT s hb k (i+1) (p+1) (by omega) (by omega) (by omega)];simp only[if_true];rw[show p+1+(s.drop (i+1)).count 46=p+((s.drop (i+1)).count 46+1) by omega]
   | false=>
   simp only[ae,obs,Bool.false_and,Bool.false_or];cases zBE c with
   | false=>rfl
   | true=>
   simp only[aB,ae,obs,Bool.true_and];rw[zQT s hb k (i+1) p (by omega) (by omega) (by omega)];simp
  rw[zAC (by omega),ae];obtain rfl:i=s.length :=(by omega);simp[okL]
def zRk (n:Nat) (s:List UInt8) (h:s.length<n) (hb:s.length<=1073741824):zFu n s=some (numB s):=by
 have:=zQT s hb n 0 0 (by omega) (by omega) (by omega);rw[show((0:Nat):Int)=0 from rfl,drop_zero]at this;rw[zFu,this];unfold numB;have e0:=zXM 0 s.length;have e20:=zGg s.length 20;have e1:=zGg (s.count 46) 1;rw[show((0:Nat):Int)=0 from rfl]at e0;rw[show((20:Nat):Int)=20 from rfl]at e20;rw[show((1:Nat):Int)=1 from rfl]at e1;cases okL s.length 0 s with
 | false=>rfl
 | true=>
 simp only[if_true,obs,e0,e20,a8,e1];cases decide (0<s.length) <;> cases decide (s.length<=20) <;> rfl
def zKz:∀ s:List UInt8,(s.count 46=0/\Lib.indexByte s 46 = -1)∨∃ a b,s=a++46::b/\a.count 46=0/\Lib.indexByte s 46=(a.length:Int)
 | []=>.inl ⟨rfl,rfl⟩
 | c::s=>by
  by_cases h:c=46
  ·subst h;exact .inr ⟨[],s,rfl,rfl,by simp[Lib.indexByte]⟩
  have hc:(c == 46)=false :=(by simpa using h);rcases zKz s with ⟨h1,h2⟩ | ⟨a,b,rfl,h1,h2⟩
  ·exact .inl ⟨by rw[count_cons,h1,hc]; rfl,by simp[Lib.indexByte,hc,h2]⟩
  refine .inr ⟨c::a,b,rfl,by rw[count_cons,h1,hc]; rfl,?_⟩;have h3:((a.length:Int) == -1)=false:=by
   cases e:((a.length:Int) == -1) with
   | false=>rfl
   | true=>have:=aE e; omega
  simp[Lib.indexByte,hc,h2,h3]
def zIy (L:Nat):∀ (i:Nat) (a:List UInt8),a.count 46=0->okL L i a=a.all zBE
 | _,[],_=>rfl
 | i,c::a,h=>by
  have hc:(c == 46)=false:=by
   cases e:c == 46 with
   | false=>rfl
   | true=>rw[count_cons,e]at h; simp at h
  rw[count_cons,hc]at h;rw[okL,hc,zIy L (i+1) a (by simpa using h)];simp
def zPQ (L:Nat):∀ (i:Nat) (a b:List UInt8),okL L i (a++b)=(okL L i a&&okL L (i+a.length) b)
 | _,[],b=>by simp[okL]
 | i,c::a,b=>by
  simp only[bj,okL,zPQ L (i+1) a b,ah,Bool.and_assoc,show i+1+a.length=i+(a.length+1) by omega]
def zQF:∀ a:List UInt8,a.all zBE=true->a.count 46=0
 | [],_=>rfl
 | c::a,h=>by
  simp only[all_cons,af]at h;have hc:(c == 46)=false:=by
   cases e:c == 46 with
   | false=>rfl
   | true=>obtain rfl:c=46:=aE e; simp[yCh]at h
  rw[count_cons,hc,zQF a h.2]; rfl
def zUx (a b:List UInt8) (ha:a.count 46=0):numB (a++46::b)=(decide ((a++46::b).length<=20)&&((a.all zBE&&!(a == []))&&(b.all zBE&&!(b == [])))):=by
 unfold numB;have hl:(a++46::b).length=a.length+(b.length+1) :=(by simp);rw[zPQ,zIy _ _ a ha,hl];simp only[okL,yCh,Bool.or_false,count_append,count_cons,ha,aZ,Bool.true_and,if_true,a8];have e1:decide (0<a.length) = !(a == []) :=(by cases a <;> rfl);have e2:decide (a.length+1<a.length+(b.length+1)) = !(b == []):=by
  cases b with
  | nil=>simp
  | cons c b=>simp
 have e3:decide (0<a.length+(b.length+1))=true:=zAD (by omega);rw[e1,e2,e3];cases hb:b.all zBE with
 | true =>
  rw[zIy _ _ b (zQF b hb),hb,zQF b hb];cases a.all zBE <;> cases a == [] <;> cases b == [] <;> cases decide (a.length+(b.length+1)<=20) <;> rfl
 | false=>
 cases hc:decide (b.count 46+1<=1) with
 | true =>
  have:b.count 46=0 :=(by have:=aY hc; omega);rw[zIy _ _ b this,hb];cases a.all zBE <;> cases a == [] <;> cases b == [] <;> cases decide (a.length+(b.length+1)<=20) <;> rfl
 | false=>generalize okL _ _ b=z;cases z <;> cases a.all zBE <;> cases a == [] <;> cases b == [] <;> cases decide (a.length+(b.length+1)<=20) <;> rfl
def zNY (s:List UInt8) (h:s.count 46=0):numB s=(decide (s.length<=20)&&(s.all zBE&&!(s == []))):=by
 unfold numB;rw[zIy _ _ s h,h];have e1:decide (0<s.length) = !(s == []) :=(by cases s <;> rfl);rw[e1];cases s.all zBE <;> cases s == [] <;> cases decide (s.length<=20) <;> rfl
def zOR (n:Nat) (s:List UInt8) (h:s.length<n) (hb:s.length<=1073741824):zDJ n s=some (numB s):=by
 have e20:=zGg s.length 20;rw[show((20:Nat):Int)=20 from rfl]at e20;have hi:zEj s [46]=some (Lib.indexByte s 46):=rfl;rcases zKz s with ⟨h1,h2⟩ | ⟨a,b,rfl,h1,h2⟩
 ·rw[zNY s h1];simp only[zDJ,zEL,zCK,hi,h2,obs,show decide ((0:Int)<=-1)=false from rfl,ae,e20,zG0 n s h hb];cases decide (s.length<=20) <;> cases(s.all zBE&&!(s == [])) <;> rfl
 have hl:(a++46::b).length=a.length+(b.length+1) :=(by simp);rw[zUx a b h1];have w1:i64.wrap ((a.length:Int)+(([46]:List UInt8).length:Int))=((a.length+1:Nat):Int):=zAG (by omega);have t1:((a++46::b).take ((a.length:Int)).toNat).drop (0:Int).toNat=a :=(by simp);have t2:((a++46::b).take (((a++46::b).length:Int)).toNat).drop (((a.length+1:Nat):Int)).toNat=b:=by
  rw[au,au,take_length,drop_append];simp
 simp only[zDJ,zEL,zCK,hi,h2,obs,w1];rw[zAD (by omega),ag,zA5 (by omega),zA5 (by omega),t1,t2];simp only[obs,e20,zG0 n a (by omega) (by omega),zG0 n b (by omega) (by omega)];cases decide ((a++46::b).length<=20) <;> cases(a.all zBE&&!(a == [])) <;> cases(b.all zBE&&!(b == [])) <;> rfl
end
def clsB (b:UInt8):Nat:=if b=32∨b=9∨b=10 then 1 else bif zBE b then 2 else bif zAX b then 3 else bif spB b then 4 else bif (b == 123||b == 125||b == 40||b == 41||b == 91||b == 93||b == 94||b == 95||b == 38) then 5 else 0
abbrev nU (n:Nat):AV:=.s (.int .u8 (n:Int))
def clsL:List AV:=(List.range 256).map fun n=>nU (clsB n.toUInt8)
def lC (s:List UInt8) (z:Int):List AV:=clsL++[nS s,nI z,nI 0,nI 0]
def LO (s:List UInt8) (z:Int):List Ob:=[.box 189 (lC s z)]
def Tx (s:List UInt8) (z:Int) (r:List UInt8):Prop:=s.length<=100000000/\0<=z/\z<=s.length/\s.drop z.toNat=r
section
variable {s r:List UInt8} {z:Int} {b:UInt8}
def Tx.next (h:Tx s z (b::r)):Tx s (wz z) r:=by
 obtain⟨h0,h1,h2,h3⟩:=h;obtain⟨n,rfl⟩:=aM h1;rw[au]at h3;have hn:n<s.length:=by
  rcases Nat.lt_or_ge n s.length with h | h
  ·exact h
  exact qO
 have e:wz (n:Int)=((n+1:Nat):Int):=zAG (by omega);rw[aO hn]at h3;rw[e];exact kK
def Tx.lt (h:Tx s z (b::r)):decide (z<(s.length:Int))=true:=by
 obtain⟨h0,h1,h2,h3⟩:=h;refine aP ?_;rcases Int.lt_or_le z s.length with h | h
 ·exact h
 rw[drop_eq_nil_of_le (by omega)]at h3; cases h3
def Tx.ok (h:Tx s z (b::r)):zFC z s.length=true:=by
 have:=h.lt;unfold zFC;rw[this,aP h.2.1];rfl
def Tx.done (h:Tx s z []):decide (z<(s.length:Int))=false:=by
 obtain⟨h0,h1,h2,h3⟩:=h;have:=bB.1 h3;exact aW (by omega)
def zZ0 (b:UInt8) (l:List AV):(clsL++l)[b.toNat]? = some (nU (clsB b)):=by
 have hl:clsL.length=256 :=(by simp[clsL]);have hb:=b.toNat_lt;rw[bH (by omega)];unfold clsL;rw[ao,List.getElem?_range (by omega)];simp
def Tx.get (h:Tx s z (b::r)):AV.s (.int .u8 ((s.getD z.toNat 0).toNat:Int))=nU b.toNat:=by
 obtain⟨h0,h1,h2,h3⟩:=h;have hn:z.toNat<s.length:=by
  rcases Nat.lt_or_ge z.toNat s.length with h | h
  ·exact h
  exact qO
 rw[aO hn]at h3;rw[aL,ac hn,(List.cons.inj h3).1];rfl
def Tx.val (h:Tx s z (b::r)) (d:Nat):Fc:=.val d _ _ h.get
def yEX (b:UInt8):zFC (b.toNat:Int) 256=true:=by
 have:=b.toNat_lt;unfold zFC;rw[aP (by omega),aP (by omega)];rfl
def isC (r:List UInt8) (c:Nat):Bool:=match r with | []=>false | b::_=>((clsB b:Nat):Int) == (c:Int)
def is_ (zz:Int) (h:Tx s z r) (c:Nat):E 208 [.op 0 0,nI z,nU c] (LO s zz) (nB (isC r c)) ((LO s zz).map some):=by
 cases r with
 | nil=>exact ev [B 13 h.done] (by kernel_rfl)
 | cons b r=>exact ev [B 13 h.lt,.ok 21 _ h.ok,h.val 21,.ok 24 _ (yEX b),.bx (lC s zz) (0+b.toNat * 1) (nU (clsB b)) (by rw[a8,Nat.mul_one]; exact zZ0 b _)] (by kernel_rfl)
def isK (c:Nat) (b:UInt8):Bool:=((clsB b:Nat):Int) == (c:Int)
abbrev RunL (s:List UInt8) (zz z:Int) (c:Nat) (z':Int):Prop:=LP 170 0 1 [(0,.op 0 0),(1,nI z),(2,nU c)] [(0,.box 189 (lC s zz))] 1 (.exit 0) [(0,.op 0 0),(1,nI z'),(2,nU c)] [(0,.box 189 (lC s zz))] 1
def yEb (zz:Int) (c:Nat):∀ (r:List UInt8) (z:Int),Tx s z r->∃ z',Tx s z' (r.dropWhile (isK c))/\RunL s zz z c z'
 | [],z,h=>⟨z,h,lp [.go,R (is_ zz h c)] (by kernel_rfl)⟩
 | b::r,z,h=>by
  cases hb:isK c b with
  | true =>
   obtain⟨z',h1,h2⟩:=yEb zz c r (wz z) h.next;exact⟨z',by rw[dropWhile_cons_of_pos hb]; exact h1,lp [.go,R (is_ zz h c),B 10 hb,zB7 170 0 1 _ _ _ _ _ _ _ _ rfl h2] (by kernel_rfl)⟩
  | false=>exact⟨z,by rw[dropWhile_cons_of_neg (by simp[hb])]; exact h,lp [.go,R (is_ zz h c),B 10 hb] (by kernel_rfl)⟩
def run_ (zz:Int) (c:Nat) (h:Tx s z r):∃ z',Tx s z' (r.dropWhile (isK c))/\E 170 [.op 0 0,nI z,nU c] (LO s zz) (nI z') ((LO s zz).map some):=by
 obtain⟨z',h1,h2⟩:=yEb zz c r z h;exact⟨z',h1,ev [zB7 170 0 1 _ _ _ _ _ _ _ _ rfl h2] (by kernel_rfl)⟩
end
section
variable {s r t:List UInt8} {z z':Int} {b:UInt8}
def Tx.len (h:Tx s z r):(s.length:Int)=z+r.length:=by
 obtain⟨h0,h1,h2,h3⟩:=h;have:=congrArg List.length h3;rw[bA]at this
 omega
def Tx.cut (h:Tx s z (t++r)) (h2:Tx s z' r):AV.s (.str ((s.take z'.toNat).drop z.toNat))=nS t:=by
 have e1:=h.len;have e2:=h2.len;simp only[am]at e1;obtain⟨_,g1,g2,g3⟩:=h;have e3:z'.toNat=z.toNat+t.length :=(by omega);rw[drop_take,g3,e3,Nat.add_sub_cancel_left,take_left]
def Tx.sl (h:Tx s z (t++r)) (h2:Tx s z' r):okSl s.length (some (nI z)) (some (nI z'))=true:=by
 have e1:=h.len;have e2:=h2.len;simp only[am]at e1;have:=h.2.1;simp only[okSl,bnd,af,ay];omega
def nxF (h:Tx s z (b::r)):List Fc:=[.ok 18 _ (Tx.sl (t:=[b]) h h.next),.val 18 _ _ (Tx.cut (t:=[b]) h h.next)]++match r,h with
 | [],h=>[B 26 h.next.done]
 | _::_,h=>[B 26 h.next.lt,.ok 33 _ h.next.ok,h.next.val 33]
def LT (s:List UInt8) (z:Int):List (Option Ob):=[some (.box 189 (lC s z))]
abbrev tokV (k:Int) (t:List UInt8) (z z':Int):AV:=.tup [.agg [nI k,nS t,nI z,nI z'],nB true]
def cb (b:UInt8) (c:Nat):Bool:=((clsB b:Nat):Int) == (c:Int)
def cb_t {c:Nat} (h:clsB b=c):((clsB b:Nat):Int) == (c:Int):=by simp[h]
def cb_f {c d:Nat} (h:clsB b=c) (hn:c ≠ d):(((clsB b:Nat):Int) == (d:Int))=false:=by simp[h]; omega
def zYq (h:Tx s z (b::r)) (hc:clsB b=5):E 171 [.op 0 0] (LO s z) (tokV 7 [b] z (wz z)) (LT s (wz z)):=by
 cases r <;> exact ev (nxF h++[R (is_ z h 2),B 37 (cb_f (d:=2) hc (by decide)),R (is_ z h 5),B 45 (cb_t hc)]) (by kernel_rfl)
def zSs {c:UInt8}{k:Nat} (h:clsB b=k) (hk:clsB c ≠ k):([b] == [c])=false:=by
 rw[aw]; rintro e; cases e; exact hk h
def zUt (h:Tx s z (b::r)) (hc:clsB b=3):E 171 [.op 0 0] (LO s z) (tokV 1 [b] z (wz z)) (LT s (wz z)):=by
 cases r <;> exact ev (nxF h++[R (is_ z h 2),B 37 (cb_f (d:=2) hc (by decide)),R (is_ z h 5),B 45 (cb_f (d:=5) hc (by decide)),B 55 (zSs (c:=34) hc (by decide)),B 62 (zSs (c:=92) hc (by decide)),B 75 (zSs (c:=92) hc (by decide)),B 88 (zSs (c:=35) hc (by decide)),R (is_ z h 3),B 109 (cb_t hc)]) (by kernel_rfl)
def zYr (h:Tx s z (b::r)) (hc:clsB b=4):E 171 [.op 0 0] (LO s z) (tokV 1 [b] z (wz z)) (LT s (wz z)):=by
 cases r <;> exact ev (nxF h++[R (is_ z h 2),B 37 (cb_f (d:=2) hc (by decide)),R (is_ z h 5),B 45 (cb_f (d:=5) hc (by decide)),B 55 (zSs (c:=34) hc (by decide)),B 62 (zSs (c:=92) hc (by decide)),B 75 (zSs (c:=92) hc (by decide)),B 88 (zSs (c:=35) hc (by decide)),R (is_ z h 3),B 109 (cb_f (d:=3) hc (by decide)),R (is_ z h 4),B 113 (cb_t hc)]) (by kernel_rfl)
def zWO (h:Tx s z (92::92::r)):E 171 [.op 0 0] (LO s z) (tokV 8 [92,92] z (i64.wrap (z+2))) (LT s (i64.wrap (z+2))) :=
 ev (nxF h++[R (is_ z h 2),R (is_ z h 5)]) (by kernel_rfl)
end
section
variable {s r t:List UInt8} {z z':Int} {b:UInt8}
def zZ8 (b:UInt8):(isK 2 b == zBE b)=true:=zIP (P:=fun b=>isK 2 b == zBE b) (by decide +kernel) b
def zZ9 (b:UInt8):(isK 3 b == zAX b)=true:=zIP (P:=fun b=>isK 3 b == zAX b) (by decide +kernel) b
def yCe (h:zBE b=true):clsB b=2:=by
 have:=zZ8 b;rw[h]at this;have:isK 2 b=true :=(by simpa using this);unfold isK at this;exact Int.ofNat.inj (aE this)
def zJe (p:UInt8->Bool):List UInt8->Bool
 | []=>true
 | b::_=>!p b
def zIS {p q:UInt8->Bool} (hpq:∀ b,(p b == q b)=true):∀ {t:List UInt8},t.all q=true->zJe q r=true->(t++r).dropWhile p=r
 | [],_,hr=>by
  cases r with
  | nil=>rfl
  | cons b r =>
   have:p b=q b :=(by simpa using hpq b);simp only[zJe,Bool.not_eq_true']at hr;rw[bE,dropWhile_cons_of_neg (by rw[this,hr]; simp)]
 | b::t,h,hr=>by
  have:p b=q b :=(by simpa using hpq b);simp only[all_cons,af]at h;rw[bj,dropWhile_cons_of_pos (by rw[this,h.1])];exact zIS hpq h.2 hr
def zYf {m:Nat} (h:t.length<=m):decide ((m:Int)<(t.length:Int))=false:=aW (by omega)
def yEK (h:Tx s z (t++r)) (ht:t.all zBE=true) (hl:t.length<=20) (hr:zJe zBE r=true) (hp:zJe (fun b=>b == 46) r=true):∃ z',Tx s z' r/\E 209 [.op 0 0] (LO s z) (tokV 2 t z z') (LT s z'):=by
 obtain⟨z1,h1,h2⟩:=run_ z 2 h;rw[zIS zZ8 ht hr]at h1;refine⟨z1,h1,?_⟩;cases r with
 | nil=>exact ev [R h2,B 17 h1.done,.ok 47 _ (Tx.sl h h1),.val 47 _ _ (Tx.cut h h1),B 20 (zYf (m:=20) hl)] (by kernel_rfl)
 | cons b r=>
 have hb:(((b.toNat:Nat):Int) == 46)=false:=by
  simp only[zJe,Bool.not_eq_true',aw]at hp;rw[aw];intro e;exact hp (UInt8.toNat_inj.1 (Int.ofNat.inj e))
 exact ev [R h2,B 17 h1.lt,.ok 24 _ h1.ok,h1.val 24,B 25 hb,.ok 47 _ (Tx.sl h h1),.val 47 _ _ (Tx.cut h h1),B 20 (zYf (m:=20) hl)] (by kernel_rfl)
def yEL {t1 t2:List UInt8} (h:Tx s z ((t1++46::t2)++r)) (ht:t1.all zBE=true) (ht2:t2.all zBE=true) (hn:t2 ≠ []) (hl:(t1++46::t2).length<=20) (hr:zJe zBE r=true):∃ z',Tx s z' r/\E 209 [.op 0 0] (LO s z) (tokV 2 (t1++46::t2) z z') (LT s z'):=by
 obtain⟨z1,h1,h2⟩:=run_ z 2 (show Tx s z (t1++(46::(t2++r))) by simpa using h);rw[zIS zZ8 ht rfl]at h1;obtain⟨z2,h3,h4⟩:=run_ z 2 h1.next;rw[zIS zZ8 ht2 hr]at h3;refine⟨z2,h3,?_⟩;cases t2 with
 | nil=>exact absurd rfl hn
 | cons b t2=>simp only[all_cons,af]at ht2;exact ev [R h2,B 17 h1.lt,.ok 24 _ h1.ok,h1.val 24,R (is_ z h1.next 2),B 31 (cb_t (c:=2) (yCe ht2.1)),R h4,.ok 47 _ (Tx.sl h h3),.val 47 _ _ (Tx.cut h h3),B 20 (zYf (m:=20) hl)] (by kernel_rfl)
def num_ (h:Tx s z (t++r)) (ht:numB t=true) (hr:zJe zBE r=true) (hp:zJe (fun b=>b == 46) r=true):∃ z',Tx s z' r/\E 209 [.op 0 0] (LO s z) (tokV 2 t z z') (LT s z'):=by
 rcases zKz t with ⟨h1,_⟩ | ⟨a,c,rfl,h1,_⟩
 ·rw[zNY t h1]at ht;simp only[af,ay]at ht;exact yEK h ht.2.1 ht.1 hr hp
 rw[zUx a c h1]at ht;simp only[af,ay,Bool.not_eq_true',aw]at ht;exact yEL h ht.2.1.1 ht.2.2.1 ht.2.2.2 ht.1 hr
def yAs (h:Tx s z (b::r)) (hc:clsB b=2){t:List UInt8} (hn:E 209 [.op 0 0] (LO s z) (tokV 2 t z z') (LT s z')):E 171 [.op 0 0] (LO s z) (tokV 2 t z z') (LT s z'):=by
 cases r <;> exact ev (nxF h++[R (is_ z h 2),B 37 (cb_t (c:=2) hc),C hn]) (by kernel_rfl)
end
section
variable {s r t:List UInt8} {z z':Int} {b:UInt8}
def yEI (h:Tx s z (92::(t++r))) (ht:t.all zAX=true) (hf:t ≠ fenL) (hl:t.length<=16) (hr:zJe zAX r=true):∃ z',Tx s z' r/\E 212 [.op 0 0] (LO s z) (tokV 4 t z z') (LT s z'):=by
 obtain⟨z1,h1,h2⟩:=run_ z 3 h.next;rw[zIS zZ9 ht hr]at h1;have hne:(!(t == fenL))=true :=(by simpa using hf);exact⟨z1,h1,ev [R h2,.ok 23 _ (Tx.sl h.next h1),.val 23 _ _ (Tx.cut h.next h1),B 25 hne,B 20 (zYf (m:=16) hl)] (by kernel_rfl)⟩
def yBw (a:UInt8):E 146 [nS fsL,nU a.toNat] [] (nI (Lib.indexByte fsL a)) [] :=
 PSound.evl zFN rfl ⟨fsL,(a.toNat:Int),_,by unfold zCd; rw[zVi],rfl,rfl⟩
variable {a c:UInt8}
theorem Tx.two  (h:Tx s z (a::c::r)):Tx s (i64.wrap (z+2)) r:=by
 have h2:=h.next.next;have e1:=h.len;simp only[ah]at e1;have e:=h.2.1;have e3:=h.1;have:wz (wz z)=i64.wrap (z+2):=by
  unfold wz;rw[wrap64_in (n:=z+1) (by omega) (by omega),wrap64_in (by omega) (by omega),wrap64_in (by omega) (by omega)];omega
 rwa [this]at h2
def fs_f  (h:fsB a=true):decide (Lib.indexByte fsL a<0)=false:=aW (by have:0<=Lib.indexByte fsL a:=aY h; omega)
def yDC (a:UInt8):(!(fsB a)||!(zAX a))=true:=zIP (P:=fun a=>!(fsB a)||!(zAX a)) (by decide +kernel) a
def yDx  (h:Tx s z (92::(fenL++(a::c::r)))) (ha:fsB a=true) (hc:fsB c=true):∃ z',Tx s z' r/\E 212 [.op 0 0] (LO s z) (tokV 5 [a,c] z z') (LT s z'):=by
 obtain⟨z1,h1,h2⟩:=run_ z 3 h.next;rw[zIS zZ9 (by decide) (by have:=yDC a; rw[ha]at this; simpa [zJe] using this)]at h1;have hl:decide ((s.length:Int)<i64.wrap (z1+2))=false:=aW (by have:=h1.two.2.2.1; omega);exact⟨_,h1.two,ev [R h2,.ok 23 _ (Tx.sl h.next h1),.val 23 _ _ (Tx.cut h.next h1),B 39 hl,.ok 46 _ h1.ok,h1.val 46,C (yBw a),B 48 (fs_f ha),.ok 57 _ h1.next.ok,h1.next.val 57,C (yBw c),B 59 (fs_f hc),.ok 77 _ (Tx.sl (t:=[a,c]) h1 h1.two),.val 77 _ _ (Tx.cut (t:=[a,c]) h1 h1.two)] (by kernel_rfl)⟩
def zS4 {b:UInt8} (h:Tx s z (92::b::r)) (hb:zAX b=true){k:Int}{t:List UInt8} (hn:E 212 [.op 0 0] (LO s z) (tokV k t z z') (LT s z')):E 171 [.op 0 0] (LO s z) (tokV k t z z') (LT s z'):=by
 have hc:clsB b=3:=by
  have h3:=zZ9 b;rw[hb]at h3;have:isK 3 b=true :=(by simpa using h3);unfold isK at this;exact Int.ofNat.inj (aE this)
 have h9:(((b.toNat:Nat):Int) == 92)=false:=by
  rw[aw];intro e;have:b=92:=UInt8.toNat_inj.1 (Int.ofNat.inj e);subst this;cases hb
 exact ev (nxF h++[R (is_ z h 2),R (is_ z h 5),B 65 h9,R (is_ z h.next 3),B 80 (cb_t (c:=3) hc),C hn]) (by kernel_rfl)
end
section
variable {s r t:List UInt8} {z z' zz:Int} {b:UInt8}
def qH (s:List UInt8) (zz:Int) (l:List UInt8):List (Nat×Ob):=[(0,.box 189 (lC s zz)),(1,.box 194 [nI 0,nS [],nI 0,nI 0]),(2,.box 89 [.op 2 0,.orow 3]),(3,.row 5 1 (l.map brow))]
abbrev QL (s:List UInt8) (zz z:Int) (l:List UInt8) (z':Int) (t:List UInt8):Prop :=
 LP 211 0 1 [(0,.op 0 0),(2,.op 1 0),(4,.op 2 0),(5,nI z)] (qH s zz l) 4 .ret [(2,.op 1 0),(3,nB true)] [(0,.box 189 (lC s z')),(1,.box 194 [nI 3,nS t,nI zz,nI z'])] 2
variable {l:List UInt8}
def yEM  (h:Tx s z (34::r)) (h0:l ≠ []) (hl:l.length<=200):QL s zz z l (wz z) l :=
 lp [.go,B 18 h.lt,.ok 26 _ h.ok,h.val 26,C (zU4 h0 (by omega)),B 20 (zYf (m:=200) hl)] (by kernel_rfl)
variable {c:UInt8}
def yCF  (h:Tx s z (c::r)) (e1:(((c.toNat:Nat):Int) == 34)=false) (e2:decide (((c.toNat:Nat):Int)<32)=false) (e3:decide ((126:Int)<((c.toNat:Nat):Int))=false) (e4:(((c.toNat:Nat):Int) == 92)=false) (hl:l.length<=200) (ih:QL s zz (wz z) (l++[c]) z' t):QL s zz z l z' t:=by
 rw[QL,qH,bn]at ih;exact lp [.go,B 18 h.lt,.ok 26 _ h.ok,h.val 26,B 29 e1,B 39 e2,B 42 e3,B 51 e4,.ok 14 (zDE (l.map brow).length 1 1) (zCM (by rw[az]; omega) (by omega)),zB7 211 0 1 _ _ _ _ _ _ _ _ rfl ih] (by kernel_rfl)
def yEN  (hc:c=34∨c=92) (h:Tx s z (92::c::r)) (hl:l.length<=200) (ih:QL s zz (wz (wz z)) (l++[c]) z' t):QL s zz z l z' t:=by
 rw[QL,qH,bn]at ih;have hn:(wz z == (s.length:Int))=false:=by
  have:=aY h.next.lt;rw[aw]; omega
 rcases hc with rfl | rfl
 ·exact lp [.go,B 18 h.lt,.ok 26 _ h.ok,h.val 26,B 59 hn,.ok 67 _ h.next.ok,h.next.val 67,.ok 92 _ h.next.ok,h.next.val 92,.ok 14 (zDE (l.map brow).length 1 1) (zCM (by rw[az]; omega) (by omega)),zB7 211 0 1 _ _ _ _ _ _ _ _ rfl ih] (by kernel_rfl)
 exact lp [.go,B 18 h.lt,.ok 26 _ h.ok,h.val 26,B 59 hn,.ok 67 _ h.next.ok,h.next.val 67,.ok 76 _ h.next.ok,h.next.val 76,.ok 92 _ h.next.ok,h.next.val 92,.ok 14 (zDE (l.map brow).length 1 1) (zCM (by rw[az]; omega) (by omega)),zB7 211 0 1 _ _ _ _ _ _ _ _ rfl ih] (by kernel_rfl)
end
section
variable {s r t:List UInt8} {z z' zz:Int} {b:UInt8}
def zSE (c:UInt8) (u:List UInt8):escT (c::u)=(bif c == 34||c == 92 then [92,c] else [c])++escT u:=rfl
variable {c:UInt8}
def pr_1  (h:zEP c=true):decide (((c.toNat:Nat):Int)<32)=false/\decide ((126:Int)<((c.toNat:Nat):Int))=false:=by
 simp only[zEP,af,ay]at h;exact⟨aW (by omega),aW (by omega)⟩
def yAM:∀ (u:List UInt8) (z:Int) (l:List UInt8),l ≠ []->u.all zEP=true->l.length+u.length<=200->Tx s z (escT u++34::r)->∃ z',Tx s z' r/\QL s zz z l z' (l++u)
 | [],z,l,h0,_,hl,h=>⟨_,h.next,by rw[bs]; exact yEM h h0 (by simpa using hl)⟩
 | c::u,z,l,h0,hp,hl,h=>by
  simp only[all_cons,af]at hp;simp only[ah]at hl;rw[zSE,aX]at h;have e:l++[c]++u=l++c::u:=by simp
  by_cases hc:c=34∨c=92
  ·have h2:Tx s z (92::c::(escT u++34::r)):=by rcases hc with rfl | rfl <;> exact h
   obtain⟨z',h3,h4⟩:=yAM u (wz (wz z)) (l++[c]) (by simp) hp.2 (by simp; omega) h2.next.next;exact⟨z',h3,yEN hc h2 (by omega) (by rw[e]at h4; exact h4)⟩
  have h2:Tx s z (c::(escT u++34::r)):=by
   rw[show(c == 34||c == 92)=false by simpa using hc]at h;exact h
  obtain⟨z',h3,h4⟩:=yAM u (wz z) (l++[c]) (by simp) hp.2 (by simp; omega) h2.next;obtain⟨p1,p2⟩:=pr_1 hp.1;exact⟨z',h3,yCF h2 (zXj (d:=34) fun e=>hc (.inl e)) p1 p2 (zXj (d:=92) fun e=>hc (.inr e)) (by omega) (by rw[e]at h4; exact h4)⟩
def quo_ {u:List UInt8} (h:Tx s z (34::(escT (c::u)++34::r))) (hp:(c::u).all zEP=true) (hl:(c::u).length<=200):∃ z',Tx s z' r/\E 211 [.op 0 0] (LO s z) (tokV 3 (c::u) z z') (LT s z'):=by
 have g:=h.next;simp only[all_cons,af]at hp;simp only[ah]at hl;rw[zSE,aX]at g
 by_cases hc:c=34∨c=92
 ·have h2:Tx s (wz z) (92::c::(escT u++34::r)):=by rcases hc with rfl | rfl <;> exact g
  obtain⟨z',h3,h4⟩:=yAM (zz:=z) u (wz (wz (wz z))) [c] (by simp) hp.2 (by simp; omega) h2.next.next;refine⟨z',h3,?_⟩;have hn:(wz (wz z) == (s.length:Int))=false:=by
   have:=aY h2.next.lt;rw[aw]; omega
  rcases hc with rfl | rfl
  ·exact ev [B 18 h2.lt,.ok 26 _ h2.ok,h2.val 26,B 59 hn,.ok 67 _ h2.next.ok,h2.next.val 67,.ok 92 _ h2.next.ok,h2.next.val 92,zB7 211 0 1 _ _ _ _ _ _ _ _ rfl h4] (by kernel_rfl)
  exact ev [B 18 h2.lt,.ok 26 _ h2.ok,h2.val 26,B 59 hn,.ok 67 _ h2.next.ok,h2.next.val 67,.ok 76 _ h2.next.ok,h2.next.val 76,.ok 92 _ h2.next.ok,h2.next.val 92,zB7 211 0 1 _ _ _ _ _ _ _ _ rfl h4] (by kernel_rfl)
 have h2:Tx s (wz z) (c::(escT u++34::r)):=by
  rw[show(c == 34||c == 92)=false by simpa using hc]at g;exact g
 obtain⟨z',h3,h4⟩:=yAM (zz:=z) u (wz (wz z)) [c] (by simp) hp.2 (by simp; omega) h2.next;obtain⟨p1,p2⟩:=pr_1 hp.1;exact⟨z',h3,ev [B 18 h2.lt,.ok 26 _ h2.ok,h2.val 26,B 29 (zXj (d:=34) fun e=>hc (.inl e)),B 39 p1,B 42 p2,B 51 (zXj (d:=92) fun e=>hc (.inr e)),zB7 211 0 1 _ _ _ _ _ _ _ _ rfl h4] (by kernel_rfl)⟩
def zVJ (h:Tx s z (34::r)) (hn:E 211 [.op 0 0] (LO s z) (tokV 3 t z z') (LT s z')):E 171 [.op 0 0] (LO s z) (tokV 3 t z z') (LT s z'):=by
 cases r <;> exact ev (nxF h++[R (is_ z h 2),R (is_ z h 5),C hn]) (by kernel_rfl)
end
section
def splT (t:Tkn):List UInt8:=if t.1=3 then 34::(escT t.2++[34]) else if t.1=4 then 92::t.2 else if t.1=5 then 92::(fenL++t.2) else t.2
def zHU (a b:Tkn):Bool:=(a.1 == 2&&b.1 == 2)||(a.1 == 4&&b.1 == 1&&match b.2 with | []=>false | c::_=>zAX c)
def yDS (b:UInt8):((decide (97<=zId .or .u8 (b.toNat:Int) 32)&&decide (zId .or .u8 (b.toNat:Int) 32<=122)) == zAX b)=true:=zIP (P:=fun b=>(decide (97<=zId .or .u8 (b.toNat:Int) 32)&&decide (zId .or .u8 (b.toNat:Int) 32<=122)) == zAX b) (by decide +kernel) b
abbrev tkA (t:Tkn) (a b:Int):AV:=.agg [nI t.1,nS t.2,nI a,nI b]
def yBx (a b:Tkn) (a1 a2 b1 b2:Int):E 205 [tkA a a1 a2,tkA b b1 b2] [] (nB (zHU a b)) []:=by
 obtain⟨ka,ta⟩:=a;obtain⟨kb,tb⟩:=b;unfold zHU;dsimp only;by_cases h1:ka=2
 ·subst h1;cases h2:(kb == 2) with
  | true=>exact ev [B 12 h2] (by kernel_rfl)
  | false=>exact ev [B 12 h2] (by kernel_rfl)
 have e1:(ka == 2)=false:=by simpa using h1
 by_cases h2:ka=4
 ·subst h2;by_cases h3:kb=1
  ·subst h3;cases tb with
   | nil=>exact ev [] (by kernel_rfl)
   | cons c t=>
   have hl:=yDS c;cases h4:decide (97<=zId .or .u8 (c.toNat:Int) 32) with
   | false =>
    have:zAX c=false :=(by rw[h4,Bool.false_and]at hl; simpa using hl);dsimp only;rw[this];exact ev [.ok 29 _ (show zFC 0 (c::t).length=true by simp[zFC]),B 32 h4] (by kernel_rfl)
   | true=>have:decide (zId .or .u8 (c.toNat:Int) 32<=122)=zAX c :=(by rw[h4,Bool.true_and]at hl; simpa using hl);exact ev [.ok 29 _ (show zFC 0 (c::t).length=true by simp[zFC]),B 32 h4,B 35 this] (by kernel_rfl)
  have e3:(kb == 1)=false :=(by simpa using h3);have e4:(kb != 1)=true :=(by simpa using h3);rw[e3];exact ev [B 20 e4] (by kernel_rfl)
 have e2:(ka == 4)=false :=(by simpa using h2);have e4:(ka != 4)=true :=(by simpa using h2);rw[e1,e2];exact ev [B 8 e1,B 16 e4] (by kernel_rfl)
def zWm (t:Tkn):Prop:=∀ a b,E 207 [tkA t a b] [] (nS (splT t)) []
def yBr {n m:Nat} (h:n<=m):Nat.ble n m=true:=Nat.ble_eq_true_of_le h
variable {t:List UInt8}
def yA9 {k:Int} (hk:k=1∨k=2∨k=7∨k=8):zWm (k,t):=fun a b=>by
 rcases hk with rfl | rfl | rfl | rfl <;> exact ev [] (by kernel_rfl)
def zXc  (hl:t.length<=1000):zWm (4,t):=fun a b=>ev [.ok 41 (Nat.ble (([92]:List UInt8).length+t.length) 9223372036854775807) (yBr (by simp; omega))] (by kernel_rfl)
def yER  (hl:t.length<=1000):zWm (5,t):=fun a b=>ev [.ok 46 (Nat.ble (([92,102,101,110,99,101]:List UInt8).length+t.length) 9223372036854775807) (yBr (by simp; omega))] (by kernel_rfl)
def PS (p:AV) (tr:List (List S)) (x:List UInt8):List Ob:=[.box 91 [.orow 1,p,.orow 2],.row 194 4 tr,.row 5 1 (x.map brow)]
def PU (p:AV) (tr:List (List S)) (x:List UInt8):List (Option Ob):=[some (.box 91 [.orow 3,p,.orow 4]),none,none,some (.row 194 4 tr),some (.row 5 1 (x.map brow))]
def Last (tr:List (List S)) (lt:Option Tkn):Prop:=(tr=[]/\lt=none)∨∃ tr0 t a b,tr=tr0++[[.int .i64 t.1,.str t.2,.int .i64 a,.int .i64 b]]/\lt=some t
def spT (lt:Option Tkn) (t:Tkn):List UInt8:=match lt with | none=>[] | some l=>bif zHU l t then [32] else []
abbrev hpP (p:AV):Prop:=p = .s .np∨p = .op 0 1
def yDM (d:Nat) (x:List UInt8):Fc:=.val d (nI ((x.map brow).length:Int)) (nI (x.length:Int)) (by rw[az])
def add_ {p:AV} (hp:hpP p){tr:List (List S)}{x:List UInt8}{lt:Option Tkn} (hl:Last tr lt){t:Tkn} (hs:zWm t) (h1:tr.length<=100000) (h2:x.length+(splT t).length<=100000000) :
  ∃ tr',Last tr' (some t)/\tr'.length=tr.length+1/\E 163 [.op 0 0,nI t.1,nS t.2] (PS p tr x) (.tup []) (PU (.op 0 1) tr' (x++(spT lt t++splT t))):=by
 rcases hl with ⟨rfl,rfl⟩ | ⟨tr0,l,a,b,rfl,rfl⟩
 ·refine⟨[[.int .i64 t.1,.str t.2,.int .i64 (x.length:Int),.int .i64 ((x++splT t).length:Int)]],.inr ⟨[],t,_,_,rfl,rfl⟩,rfl,?_⟩;have:E 163 [.op 0 0,nI t.1,nS t.2] (PS p [] x) (.tup []) [some (.box 91 [.orow 3,.op 0 1,.orow 4]),none,none,some (.row 194 4 [[.int .i64 t.1,.str t.2,.int .i64 (x.length:Int),.int .i64 ((x++splT t).length:Int)]]),some (.row 5 1 (x.map brow++(splT t).map brow))]:=by
   rcases hp with rfl | rfl <;> exact ev [yDM 39 x,C (hs (x.length:Int) 0),.ok 14 (zDE (x.map brow).length (splT t).length 1) (zCM (by rw[az]; omega) (by omega)),.val 50 (nI ((x.map brow++(splT t).map brow).length:Int)) (nI ((x++splT t).length:Int)) (by simp)] (by kernel_rfl)
  unfold PU spT;rw[bE,bn];exact this
 refine⟨(tr0++[[.int .i64 l.1,.str l.2,.int .i64 a,.int .i64 b]])++[[.int .i64 t.1,.str t.2,.int .i64 ((x++spT (some l) t).length:Int),.int .i64 ((x++spT (some l) t++splT t).length:Int)]],.inr ⟨_,t,_,_,rfl,rfl⟩,by simp,?_⟩;rw[← aX];generalize hy:x++spT (some l) t=y;have hyl:y.length<=x.length+1:=by
  subst hy; rw[am]; have:(spT (some l) t).length<=1:=by show(bif zHU l t then [32] else ([]:List UInt8)).length<=1; cases zHU l t <;> simp
  omega
 have hn:(tr0++[[S.int .i64 l.1,.str l.2,.int .i64 a,.int .i64 b]]).length=tr0.length+1 :=(by simp);have hw:i64.wrap (((tr0++[[S.int .i64 l.1,.str l.2,.int .i64 a,.int .i64 b]]).length:Int) - 1)=(tr0.length:Int) :=(by rw[hn,wrap64_in (by omega) (by omega)]; omega);have f1:decide ((0:Int)<((tr0++[[S.int .i64 l.1,.str l.2,.int .i64 a,.int .i64 b]]).length:Int))=true:=aP (by omega);have hok:zFC (tr0.length:Int) (tr0++[[S.int .i64 l.1,.str l.2,.int .i64 a,.int .i64 b]]).length=true :=(by unfold zFC; rw[aP (by omega),aP (by omega)]; rfl);rw[hn]at h1;cases hj:zHU l t with
 | false =>
  have:y=x :=(by subst hy; show x++(bif zHU l t then [32] else [])=x; rw[hj]; simp);subst this;have:E 163 [.op 0 0,nI t.1,nS t.2] (PS p (tr0++[[S.int .i64 l.1,.str l.2,.int .i64 a,.int .i64 b]]) y) (.tup []) [some (.box 91 [.orow 3,.op 0 1,.orow 4]),none,none,some (.row 194 4 ((tr0++[[S.int .i64 l.1,.str l.2,.int .i64 a,.int .i64 b]])++[[.int .i64 t.1,.str t.2,.int .i64 (y.length:Int),.int .i64 ((y++splT t).length:Int)]])),some (.row 5 1 (y.map brow++(splT t).map brow))]:=by
   rcases hp with rfl | rfl <;> exact ev [B 15 f1,.val 26 _ (nI (tr0.length:Int)) (congrArg nI hw),.ok 27 _ hok,.ld (tr0++[[S.int .i64 l.1,.str l.2,.int .i64 a,.int .i64 b]]) tr0.length [.int .i64 l.1,.str l.2,.int .i64 a,.int .i64 b] (by omega) (by simp),C (yBx l t a b 0 0),B 30 hj,yDM 39 y,C (hs (y.length:Int) 0),.ok 14 (zDE (y.map brow).length (splT t).length 1) (zCM (by rw[az]; omega) (by omega)),.val 50 (nI ((y.map brow++(splT t).map brow).length:Int)) (nI ((y++splT t).length:Int)) (by simp),.ok 59 (zDE (tr0++[[S.int .i64 l.1,.str l.2,.int .i64 a,.int .i64 b]]).length 1 40) (zCM (by omega) (by omega))] (by kernel_rfl)
  unfold PU;rw[bn];exact this
 | true=>
 have:y=x++[32] :=(by subst hy; show x++(bif zHU l t then [32] else [])=_; rw[hj]; rfl);subst this;clear hy hyl;have:E 163 [.op 0 0,nI t.1,nS t.2] (PS p (tr0++[[S.int .i64 l.1,.str l.2,.int .i64 a,.int .i64 b]]) x) (.tup []) [some (.box 91 [.orow 3,.op 0 1,.orow 4]),none,none,some (.row 194 4 ((tr0++[[S.int .i64 l.1,.str l.2,.int .i64 a,.int .i64 b]])++[[.int .i64 t.1,.str t.2,.int .i64 ((x++[32]).length:Int),.int .i64 ((x++[32]++splT t).length:Int)]])),some (.row 5 1 ((x.map brow++[brow 32])++(splT t).map brow))]:=by
  rcases hp with rfl | rfl <;> exact ev [B 15 f1,.val 26 _ (nI (tr0.length:Int)) (congrArg nI hw),.ok 27 _ hok,.ld (tr0++[[S.int .i64 l.1,.str l.2,.int .i64 a,.int .i64 b]]) tr0.length [.int .i64 l.1,.str l.2,.int .i64 a,.int .i64 b] (by omega) (by simp),C (yBx l t a b 0 0),B 30 hj,.ok 14 (zDE (x.map brow).length 1 1) (zCM (by rw[az]; omega) (by omega)),.val 39 (nI ((x.map brow++[brow 32]).length:Int)) (nI ((x++[32]).length:Int)) (by simp),C (hs ((x++[32]).length:Int) 0),.ok 14 (zDE (x.map brow++[brow 32]).length (splT t).length 1) (zCM (by simp; omega) (by omega)),.val 50 (nI (((x.map brow++[brow 32])++(splT t).map brow).length:Int)) (nI ((x++[32]++splT t).length:Int)) (by simp),.ok 59 (zDE (tr0++[[S.int .i64 l.1,.str l.2,.int .i64 a,.int .i64 b]]).length 1 40) (zCM (by omega) (by omega))] (by kernel_rfl)
 unfold PU;rw[bn,bn];exact this
end
def Tryz.bld_String0 (b off:Nat) (w:World) (hb:w.cell? ⟨b,off+1,none⟩=some (.slice none 0 0)) :
  Calls prog 40 #[.pointer (some ⟨b,off,none⟩)] w fun e w'=>e = .returned (.string .empty)/\w'=w.drew:=by
 have c1:w.drew.cell? ⟨b,off+1,none⟩=some (.slice none 0 0):=hb;have hSD:(Builtin.unsafeSliceData_ #[87] 140 #[.slice none 0 0]).run prog w.drew = .ok (.pointer none) w.drew :=
  Lib.run_unsafeSliceData_nil _ _ _ _ _
 have hUS:(Builtin.unsafeString_ #[140,3] 9 #[.pointer none,.int .i64 0]).run prog w.drew = .ok (.string .empty) w.drew:=Lib.run_unsafeString_none _ _ _ _ _;have mixed:prog.follows .mixedOrders=true:=by kernel_rfl
 go_enter func40,Tryz.ntmps40
 go_wp2
 go_region_o;all_goals (go_wp2; go_ret; exact⟨rfl,rfl⟩)
def qR {P:Prop} (h:P:=by obtain⟨q1,q2⟩:=hobs.1 i ob hi;exact⟨q1.turn hk (fun b hb=>rfl) (fun b hb=>(row_block q1 b hb).2),q2⟩):P:=h
def yCV:OwnSound prog 40 fun xs os x os'=>∃ p,xs=[.op 0 0]/\os=[.box 89 [p,.nl 1]]/\x = .s (.str [])/\os'=[some (.box 89 [p,.nl 1])]:=by
 rintro G w O xs vs os x os' hlt hgl hv hxl hobs ⟨p,rfl,rfl,rfl,rfl⟩;obtain⟨hob0,hl0⟩:=hobs.1 0 (.box 89 [p,.nl 1]) rfl;obtain⟨b,e',cur,h1,h2,h3,h4,h5,h6,rfl⟩:=id hob0;simp only[AVals,AVal]at hv;obtain⟨v,vs',rfl,⟨b',hb',rfl⟩,rfl⟩:=hv;have hbb:b'=b :=(by rw[h1]at hb'; simpa using hb'.symm);subst hbb;have hc:w.cell? ⟨b',0+1,none⟩=some (.slice none 0 0):=by
  obtain⟨u,hu,hr⟩:=h5.get (i:=1) (x:=.nl 1) rfl;simp only[AVal]at hr;rw[aI]at hu;simp[World.cell?,h2,hu,hr]
 refine(Tryz.bld_String0 b' 0 w hc).mono fun e2 w' ⟨he,hw⟩=>?_
 subst hw;have hk:Keep G G w w.drew:=⟨fun _ h=>h,fun _ _=>rfl⟩;refine⟨.string .empty,G,O,he,⟨rfl,rfl,rfl,ar _,fun i hi hx=>rfl⟩,fun _ h=>h,fun _ h=>.inl h,hlt,by simp only[AVal,Rep]; rfl,rfl,ar _,⟨fun i ob hi=>?_,hobs.2⟩,fun i ob hi ho=>rfl⟩;exact qR
section
variable {s r:List UInt8} {z z':Int} {t:Tkn}
def yBe:E 40 [.op 0 0] [.box 89 [.s .np,.nl 1]] (nS []) [some (.box 89 [.s .np,.nl 1])]:=OwnSound.evl Tryz.call40 yCV ⟨_,rfl,rfl,rfl,rfl⟩
def yEO (h:Tx s z (34::34::r)):E 211 [.op 0 0] (LO s z) (tokV 3 [] z (wz (wz z))) (LT s (wz (wz z))) :=
 ev [B 18 h.next.lt,.ok 26 _ h.next.ok,h.next.val 26,C yBe] (by kernel_rfl)
inductive TkR:Tkn->List UInt8->Prop
 | sym (b:UInt8) (r:List UInt8) (h:clsB b=3∨clsB b=4):TkR (1,[b]) r
 | num (t r:List UInt8) (h:numB t=true) (h1:zJe zBE r=true) (h2:zJe (fun b=>b == 46) r=true):TkR (2,t) r
 | txt (t r:List UInt8) (h:t.all zEP=true) (hl:t.length<=200):TkR (3,t) r
 | name (t r:List UInt8) (h:t.all zAX=true) (hf:t ≠ fenL) (h0:t ≠ []) (hl:t.length<=16) (h1:zJe zAX r=true):TkR (4,t) r
 | fen (a c:UInt8) (r:List UInt8) (h1:fsB a=true) (h2:fsB c=true):TkR (5,[a,c]) r
 | mark (b:UInt8) (r:List UInt8) (h:clsB b=5):TkR (7,[b]) r
 | brk (r:List UInt8):TkR (8,[92,92]) r
def zVL {t:List UInt8} (h:numB t=true):∃ b u,t=b::u/\clsB b=2:=by
 match t,h with
 | b::u,h =>
  refine⟨b,u,rfl,yCe ?_⟩;rcases zKz (b::u) with ⟨h1,_⟩ | ⟨a,c,e,h1,_⟩
  ·rw[zNY _ h1]at h;simp only[af,all_cons]at h;exact h.2.1.1
  rw[e]at h;rw[zUx a c h1]at h;simp only[af,ay,Bool.not_eq_true',aw]at h;cases a with
  | nil=>exfalso; simp at h
  | cons a0 a=>have:=(List.cons.inj e).1;subst this;have:=h.2.1.1;simp only[all_cons,af]at this;exact this.1
def yAt (ht:TkR t r) (h:Tx s z (splT t++r)):∃ z',Tx s z' r/\E 171 [.op 0 0] (LO s z) (tokV t.1 t.2 z z') (LT s z'):=by
 cases ht with
 | sym b r hb=>exact⟨_,Tx.next h,hb.elim (fun hb=>zUt h hb) fun hb=>zYr h hb⟩
 | num t r hn h1 h2=>obtain⟨z',g1,g2⟩:=num_ (t:=t) h hn h1 h2;obtain⟨b,u,rfl,hb⟩:=zVL hn;exact⟨z',g1,yAs (b:=b) h hb g2⟩
 | txt t r hp hl =>
  have h':Tx s z (34::(escT t++34::r)) :=(by simpa [splT] using h);cases t with
  | nil=>exact⟨_,h'.next.next,zVJ h' (yEO h')⟩
  | cons c u=>obtain⟨z',g1,g2⟩:=quo_ h' hp hl;exact⟨z',g1,zVJ h' g2⟩
 | name t r hp hf h0 hl h1 =>
  have h':Tx s z (92::(t++r)) :=(by simpa [splT] using h);obtain⟨z',g1,g2⟩:=yEI h' hp hf hl h1;match t,h0 with
  | b::u,_=>simp only[all_cons,af]at hp;exact⟨z',g1,zS4 h' hp.1 g2⟩
 | fen a c r h1 h2=>have h':Tx s z (92::(fenL++(a::c::r))) :=(by simpa [splT] using h);obtain⟨z',g1,g2⟩:=yDx h' h1 h2;exact⟨z',g1,zS4 h' (by decide) g2⟩
 | mark b r hb=>exact⟨_,Tx.next h,zYq h hb⟩
 | brk r=>exact⟨_,Tx.two h,zWO h⟩
end
section
variable {t r:List UInt8} {z a b:Int} {c:UInt8} {l l':List UInt8}
abbrev SpL (t:List UInt8) (a b z:Int) (l l':List UInt8):Prop :=
 LP 207 0 0 [(1,.op 0 0),(3,.op 1 0),(4,nI z)] [(0,.box 194 [nI 3,nS t,nI a,nI b]),(1,.box 89 [.op 1 0,.orow 2]),(2,.row 5 1 (l.map brow))] 3 (.exit 1) [(3,.op 0 0)] [(0,.box 89 [.op 0 0,.orow 1]),(1,.row 5 1 (l'.map brow))] 2
def yEe (h:Tx t z []):SpL t a b z l l:=lp [.go,B 14 h.done] (by kernel_rfl)
def yA7 (h:Tx t z (c::r)) (e1:c ≠ 34) (e2:c ≠ 92) (hl:l.length<=10000) (ih:SpL t a b (wz z) (l++[c]) l'):SpL t a b z l l':=by
 rw[SpL,bn]at ih;exact lp [.go,B 14 h.lt,.ok 20 _ h.ok,h.val 20,B 21 (zXj (d:=34) e1),.ok 26 _ h.ok,h.val 26,B 27 (zXj (d:=92) e2),.ok 33 _ h.ok,h.val 33,.ok 14 (zDE (l.map brow).length 1 1) (zCM (by rw[az]; omega) (by omega)),zB7 207 0 0 _ _ _ _ _ _ _ _ rfl ih] (by kernel_rfl)
def yEf (hc:c=34∨c=92) (h:Tx t z (c::r)) (hl:l.length<=10000) (ih:SpL t a b (wz z) ((l++[92])++[c]) l'):SpL t a b z l l':=by
 rw[SpL,bn,bn]at ih;rcases hc with rfl | rfl
 ·exact lp [.go,B 14 h.lt,.ok 20 _ h.ok,h.val 20,.ok 14 (zDE (l.map brow).length 1 1) (zCM (by rw[az]; omega) (by omega)),.ok 33 _ h.ok,h.val 33,.ok 14 (zDE (l.map brow++[brow 92]).length 1 1) (zCM (by simp; omega) (by omega)),zB7 207 0 0 _ _ _ _ _ _ _ _ rfl ih] (by kernel_rfl)
 exact lp [.go,B 14 h.lt,.ok 20 _ h.ok,h.val 20,.ok 26 _ h.ok,h.val 26,.ok 14 (zDE (l.map brow).length 1 1) (zCM (by rw[az]; omega) (by omega)),.ok 33 _ h.ok,h.val 33,.ok 14 (zDE (l.map brow++[brow 92]).length 1 1) (zCM (by simp; omega) (by omega)),zB7 207 0 0 _ _ _ _ _ _ _ _ rfl ih] (by kernel_rfl)
def zZc:∀ (r:List UInt8) (z:Int) (l:List UInt8),Tx t z r->l.length+2 * r.length<=10000->SpL t a b z l (l++escT r)
 | [],z,l,h,_=>by show SpL t a b z l (l++[]); rw[bs]; exact yEe h
 | c::r,z,l,h,hl=>by
  simp only[ah]at hl;by_cases hc:c=34∨c=92
  ·refine yEf hc h (by omega) ?_;have:=zZc r (wz z) (l++[92]++[c]) h.next (by simp; omega);have e:l++[92]++[c]++escT r=l++escT (c::r):=by rcases hc with rfl | rfl <;> simp[escT]
   rwa [e]at this
  refine yA7 h (fun e=>hc (.inl e)) (fun e=>hc (.inr e)) (by omega) ?_;have:=zZc r (wz z) (l++[c]) h.next (by simp; omega);have hf:(c == 34||c == 92)=false :=(by simpa using hc);have e:l++[c]++escT r=l++escT (c::r):=by simp[escT,hf]
  rwa [e]at this
def zUh:∀ r:List UInt8,(escT r).length<=2 * r.length
 | []=>ar _
 | c::r=>by
  have:=zUh r;have e:escT (c::r)=(bif c == 34||c == 92 then [92,c] else [c])++escT r:=rfl;rw[e,am];cases(c == 34||c == 92) <;> simp <;> omega
def yEQ (hl:t.length<=1000):zWm (3,t):=fun a b=>by
 have h0:Tx t 0 t:=⟨by omega,Int.le_refl _,by omega,rfl⟩;have h1:=zZc (a:=a) (b:=b) t 0 [34] h0 (by simp; omega);have h2:=zUh t;have hs:splT (3,t)=([34]++escT t)++[34] :=(by simp[splT]);have hm:([34]++escT t).map brow++[brow 34]=(splT (3,t)).map brow :=(by rw[hs]; simp);have h3:E 40 [.op 0 0] [.box 89 [.op 0 0,.orow 1],.row 5 1 (([34]++escT t).map brow++[brow 34])] (nS (splT (3,t))) [some (.box 89 [.op 0 0,.junk]),none] :=(by rw[hm]; exact zU4 (by rw[hs]; simp) (by rw[hs]; simp; omega));exact ev [zB7 207 0 0 _ _ _ _ _ _ _ _ rfl h1,.ok 14 (zDE (([34]++escT t).map brow).length 1 1) (zCM (by simp; omega) (by omega)),C h3] (by kernel_rfl)
end
section
def outF:Option Tkn->List Tkn->List UInt8
 | _,[]=>[]
 | lt,t::ts=>spT lt t++splT t++outF (some t) ts
def zOP:Option Tkn->List Tkn->Option Tkn
 | lt,[]=>lt
 | _,t::ts=>zOP (some t) ts
def zVO:∀ (a:List Tkn) (lt:Option Tkn) (b:List Tkn),outF lt (a++b)=outF lt a++outF (zOP lt a) b
 | [],_,_=>rfl
 | t::a,lt,b=>by simp only[bj,outF,zOP,zVO a,aX]
def zST:∀ (a:List Tkn) (lt:Option Tkn) (b:List Tkn),zOP lt (a++b)=zOP (zOP lt a) b
 | [],_,_=>rfl
 | t::a,lt,b=>zST a (some t) b
def Nx (ks:List Nd) (z:Int) (vs:List Nd):Prop:=ks.length<=100000/\0<=z/\z<=ks.length/\ks.drop z.toNat=vs
def zHx (ks:List Nd):(Nd.encs ks).length=ks.length:=by rw[Nd.encs_eq,az]
section
variable {ks vs:List Nd} {z:Int} {v:Nd}
def Nx.lt (h:Nx ks z (v::vs)):decide (z<((Nd.encs ks).length:Int))=true:=by
 obtain⟨h0,h1,h2,h3⟩:=h;rw[zHx];refine aP ?_;rcases Int.lt_or_le z ks.length with h | h
 ·exact h
 rw[drop_eq_nil_of_le (by omega)]at h3; cases h3
def Nx.ok (h:Nx ks z (v::vs)):zFC z (Nd.encs ks).length=true:=by
 have:=h.lt;unfold zFC;rw[this,aP h.2.1];rfl
def Nx.get (h:Nx ks z (v::vs)):AV.s (.pt ((Nd.encs ks).getD z.toNat [])) = .s (.pt v.enc):=by
 obtain⟨h0,h1,h2,h3⟩:=h;have hn:z.toNat<ks.length:=by
  rcases Nat.lt_or_ge z.toNat ks.length with h | h
  ·exact h
  exact qO
 rw[aO hn]at h3;rw[Nd.encs_eq,aL,ao,ac hn,(List.cons.inj h3).1];rfl
def Nx.next (h:Nx ks z (v::vs)):Nx ks (wz z) vs:=by
 have hlt:=aY h.lt;rw[zHx]at hlt;obtain⟨h0,h1,h2,h3⟩:=h;obtain⟨n,rfl⟩:=aM h1;rw[au,aO (by omega)]at h3;have e:wz (n:Int)=((n+1:Nat):Int):=zAG (by omega);rw[e];exact kK
def Nx.done (h:Nx ks z []):decide (z<((Nd.encs ks).length:Int))=false:=by
 obtain⟨h0,h1,h2,h3⟩:=h;have:=bB.1 h3;rw[zHx];exact aW (by omega)
def stF (h:Nx ks z (v::vs)):List Fc:=[.go,B 10 h.lt,.ok 11 _ h.ok,.val 11 _ _ h.get]
abbrev rwH (p:AV) (tr:List (List S)) (x:List UInt8):List (Nat×Ob):=[(0,.box 91 [.orow 3,p,.orow 4]),(3,.row 194 4 tr),(4,.row 5 1 (x.map brow))]
abbrev PrL (ks:List Nd) (z:Int) (p:AV) (tr:List (List S)) (x:List UInt8) (p':AV) (tr':List (List S)) (x':List UInt8):Prop :=
 LP 39 0 3 [(0,.op 0 0),(7,nL (Nd.encs ks)),(8,nI ((Nd.encs ks).length:Int)),(9,nI z)] (rwH p tr x) 5 (.exit 0) [] (rwH p' tr' x') 5
end
abbrev Fn:=AV->List (List S)->List UInt8->AV->List (List S)->List UInt8->Prop
def pOf:Option Tkn->AV
 | none=>.s .np
 | some _=>.op 0 1
def zTo:∀ lt,hpP (pOf lt)
 | none=>.inl rfl
 | some _=>.inr rfl
def zMZ:∀ (l:List Tkn) (lt:Option Tkn),pOf lt = .op 0 1->pOf (zOP lt l) = .op 0 1
 | [],_,h=>h
 | t::l,_,_=>zMZ l (some t) rfl
def wT:List Tkn->Nat
 | []=>0
 | t::l=>(splT t).length+1+wT l
def yBS:∀ a b:List Tkn,wT (a++b)=wT a+wT b
 | [],b=>by simp[wT]
 | t::a,b=>by simp only[bj,wT,yBS a b]; omega
def yCQ (lt:Option Tkn) (t:Tkn):(spT lt t).length<=1:=by
 cases lt with
 | none=>simp[spT]
 | some l=>show(bif zHU l t then [32] else ([]:List UInt8)).length<=1; cases zHU l t <;> simp
def zMY:∀ (l:List Tkn) (lt:Option Tkn),(outF lt l).length<=wT l
 | [],_=>ar _
 | t::l,lt=>by
  have:=zMY l (some t);have:=yCQ lt t;simp only[outF,wT,am];omega
def Acc (F:Fn) (l:List Tkn):Prop:=∀ lt tr x,Last tr lt->tr.length+l.length<=90000->x.length+wT l<=90000000->∃ tr',Last tr' (zOP lt l)/\tr'.length=tr.length+l.length/\F (pOf lt) tr x (pOf (zOP lt l)) tr' (x++outF lt l)
def Sq (F G:Fn):Fn:=fun p tr x p' tr' x'=>∃ p1 tr1 x1,hpP p1/\(p = .op 0 1->p1 = .op 0 1)/\(p1 = .op 0 1->p' = .op 0 1)/\F p tr x p1 tr1 x1/\G p1 tr1 x1 p' tr' x'
def Acc.sq {F G:Fn}{l1 l2:List Tkn} (h1:Acc F l1) (h2:Acc G l2):Acc (Sq F G) (l1++l2):=fun lt tr x hl ht hx=>by
 rw[am]at ht;rw[yBS]at hx;obtain⟨tr1,a1,a2,a3⟩:=h1 lt tr x hl (by omega) (by omega);have:=zMY l1 lt;obtain⟨tr2,b1,b2,b3⟩:=h2 _ tr1 (x++outF lt l1) a1 (by omega) (by rw[am]; omega);rw[zST,zVO,← aX,am];exact⟨tr2,b1,by omega,_,tr1,_,zTo _,zMZ _ _,zMZ _ _,a3,b3⟩
variable {l:List Tkn}
def Acc.mono {F G:Fn} (h:Acc F l) (hm:∀ p tr x p' tr' x',hpP p->hpP p'->F p tr x p' tr' x'->G p tr x p' tr' x'):Acc G l:=fun lt tr x hl ht hx=>by
 obtain⟨tr1,a1,a2,a3⟩:=h lt tr x hl ht hx;exact⟨tr1,a1,a2,hm _ _ _ _ _ _ (zTo _) (zTo _) a3⟩
abbrev F163 (t:Tkn):Fn:=fun p tr x p' tr' x'=>p' = .op 0 1/\E 163 [.op 0 0,nI t.1,nS t.2] (PS p tr x) (.tup []) (PU (.op 0 1) tr' x')
def zFD {t:Tkn} (hs:zWm t):Acc (F163 t) [t]:=fun lt tr x hl ht hx=>by
 simp only[wT,ah,an]at ht hx;obtain⟨tr',a1,a2,a3⟩:=add_ (x:=x) (zTo lt) hl hs (by omega) (by omega);exact⟨tr',a1,a2,rfl,by simpa [outF] using a3⟩
def zEC (c:UInt8):Acc (F163 (mk1 c)) [mk1 c]:=zFD (yA9 (.inr (.inr (.inl rfl))))
abbrev rowV (vs:List Nd):AV:=.agg [nI 1,nS [],nI 0,nL (Nd.encs vs)]
abbrev F39 (vs:List Nd):Fn:=fun p tr x p' tr' x'=>E 39 [.op 0 0,rowV vs] (PS p tr x) (.tup []) (PU p' tr' x')
abbrev F164 (vs:List Nd):Fn:=fun p tr x p' tr' x'=>E 164 [.op 0 0,rowV vs] (PS p tr x) (.tup []) (PU p' tr' x')
abbrev F167 (vs:List Nd):Fn:=fun p tr x p' tr' x'=>E 167 [.op 0 0,rowV vs] (PS p tr x) (.tup []) (PU p' tr' x')
variable {vs:List Nd}
def zVu  (h:Acc (F39 vs) l):Acc (F167 vs) (brc l):=by
 refine((zEC 123).sq (h.sq (zEC 125))).mono ?_;rintro p tr x p' tr' x' hp hp' ⟨p1,tr1,x1,-,-,-,⟨rfl,e1⟩,p2,tr2,x2,-,k2,-,e2,rfl,e3⟩;obtain rfl:=k2 rfl;rcases hp with rfl | rfl <;> exact ev [C e1,C e2,C e3] (by kernel_rfl)
def arg_  (h:Acc (F39 vs) l):Acc (F164 vs) (argT vs l):=by
 cases e:zO9 vs with
 | true =>
  unfold argT;rw[e];match vs,e with
  | [.mk k t c ks],e =>
   refine h.mono fun p tr x p' tr' x' hp hp' h1=>?_
   have hk:(k=2∨k=3)∨k=4 :=(by simpa [zO9] using e);rcases hk with (rfl | rfl) | rfl <;> rcases hp with rfl | rfl <;> rcases hp' with rfl | rfl <;> exact ev [C h1] (by kernel_rfl)
 | false=>
 unfold argT;rw[e];refine(zVu h).mono fun p tr x p' tr' x' hp hp' h1=>?_
 match vs,e with
 | [],_=>rcases hp with rfl | rfl <;> rcases hp' with rfl | rfl <;> exact ev [C h1] (by kernel_rfl)
 | [.mk k t c ks],e=>have hk:((k == 2)=false/\(k == 3)=false)/\(k == 4)=false :=(by simpa [zO9] using e);rcases hp with rfl | rfl <;> rcases hp' with rfl | rfl <;> exact ev [B 14 hk.1.1,B 15 hk.1.2,B 16 hk.2,C h1] (by kernel_rfl)
 | v::w::r,_=>have hn:(((Nd.encs (v::w::r)).length:Int) == 1)=false :=(by rw[zHx]; simp only[ah,aw]; omega);rcases hp with rfl | rfl <;> rcases hp' with rfl | rfl <;> exact ev [B 7 hn,C h1] (by kernel_rfl)
end
section
abbrev TkV (t:Tkn):Prop:=TkR t []
variable {b:UInt8}
def yDm  (h:zAX b=true):clsB b=3:=by
 have:=zZ9 b;rw[h]at this;have:isK 3 b=true :=(by simpa using this);unfold isK at this;exact Int.ofNat.inj (aE this)
def yBA  (h:clsB b ≠ 2):(!zBE b)=true:=by
 cases e:zBE b with
 | false=>rfl
 | true=>exact absurd (yCe e) h
def yBC  (h:clsB b ≠ 3):(!zAX b)=true:=by
 cases e:zAX b with
 | false=>rfl
 | true=>exact absurd (yDm e) h
def yBB  (h:clsB b ≠ 0):(!(b == 46))=true:=by
 cases e:(b == 46) with
 | false=>rfl
 | true=>have:=aE e; subst this; exact absurd (by decide) h
def zRu {u:Tkn} (h:TkV u):∃ b x,splT u=b::x/\clsB b ≠ 1/\(u.1 ≠ 2->(!zBE b)=true/\(!(b == 46))=true)/\(u.1 ≠ 1->(!zAX b)=true):=by
 cases h with
 | sym b _ hb=>refine⟨b,[],rfl,by rcases hb with h | h <;> rw[h] <;> decide,fun _=>⟨yBA (by rcases hb with h | h <;> rw[h] <;> decide),yBB (by rcases hb with h | h <;> rw[h] <;> decide)⟩,fun h=>absurd rfl h⟩
 | num t _ hn h1 h2=>obtain⟨b,x,rfl,hb⟩:=zVL hn;exact⟨b,x,rfl,by rw[hb]; decide,fun h=>absurd rfl h,fun _=>yBC (by rw[hb]; decide)⟩
 | txt t _ hp hl=>exact⟨34,_,rfl,by decide,fun _=>⟨by decide,by decide⟩,fun _=>by decide⟩
 | name t _ hp hf h0 hl h1=>exact⟨92,_,rfl,by decide,fun _=>⟨by decide,by decide⟩,fun _=>by decide⟩
 | fen a c _ h1 h2=>exact⟨92,_,rfl,by decide,fun _=>⟨by decide,by decide⟩,fun _=>by decide⟩
 | mark b _ hb=>exact⟨b,[],rfl,by rw[hb]; decide,fun _=>⟨yBA (by rw[hb]; decide),yBB (by rw[hb]; decide)⟩,fun _=>yBC (by rw[hb]; decide)⟩
 | brk _=>exact⟨92,_,rfl,by decide,fun _=>⟨by decide,by decide⟩,fun _=>by decide⟩
variable {ts:List Tkn}
def zNO {p:UInt8->Bool}{t u:Tkn} (h32:(!p 32)=true) (h:zHU t u=false->zJe p (splT u++outF (some u) ts)=true):zJe p (outF (some t) (u::ts))=true:=by
 show zJe p ((bif zHU t u then [32] else [])++splT u++outF (some u) ts)=true;cases e:zHU t u with
 | true=>exact h32
 | false=>exact h e
def yCX {t:Tkn} (h:TkV t) (hs:∀ u∈ts,TkV u):TkR t (outF (some t) ts):=by
 cases h with
 | sym b _ hb=>exact .sym b _ hb
 | num t _ hn h1 h2 =>
  cases ts with
  | nil=>exact .num t _ hn rfl rfl
  | cons u ts=>
  obtain⟨b,x,e,_,h3,_⟩:=zRu (hs u ak);have hk:zHU (2,t) u=false->u.1 ≠ 2:=fun hj e=>by simp[zHU,e]at hj
  exact .num t _ hn (zNO (by decide) fun hj=>by rw[e]; exact(h3 (hk hj)).1) (zNO (by decide) fun hj=>by rw[e]; exact(h3 (hk hj)).2)
 | txt t _ hp hl=>exact .txt t _ hp hl
 | name t _ hp hf h0 hl h1 =>
  cases ts with
  | nil=>exact .name t _ hp hf h0 hl rfl
  | cons u ts=>
  refine .name t _ hp hf h0 hl (zNO (by decide) fun hj=>?_);obtain⟨b,x,e,_,_,h3⟩:=zRu (hs u ak);by_cases hu:u.1=1
  ·cases hs u ak with
   | sym b r hb=>have:zAX b=false :=(by simpa [zHU] using hj);show(!zAX b)=true;rw[this]; rfl
   | num=>cases hu
   | txt=>cases hu
   | name=>cases hu
   | fen=>cases hu
   | mark=>cases hu
   | brk=>cases hu
  rw[e]; exact h3 hu
 | fen a c _ h1 h2=>exact .fen a c _ h1 h2
 | mark b _ hb=>exact .mark b _ hb
 | brk _=>exact .brk _
section
variable {s:List UInt8} {z:Int} {t:Tkn} {ts:List Tkn} {lt:Option Tkn}
def yCw (h:TkV t) (hs:∀ u∈ts,TkV u) (hx:Tx s z (outF lt (t::ts))):∃ z1 z2,Tx s z1 (splT t++outF (some t) ts)/\E 170 [.op 0 0,nI z,nU 1] (LO s z) (nI z1) ((LO s z).map some)/\Tx s z2 (outF (some t) ts)/\E 171 [.op 0 0] (LO s z1) (tokV t.1 t.2 z1 z2) (LT s z2):=by
 obtain⟨z1,h1,h2⟩:=run_ z 1 hx;obtain⟨b,x,e,hb,_⟩:=zRu h;have hk:isK 1 b=false:=by
  unfold isK; rw[aw]; intro e; exact hb (Int.ofNat.inj e)
 have hdT:(splT t++outF (some t) ts).dropWhile (isK 1)=splT t++outF (some t) ts:=by
  rw[e,bj,dropWhile_cons_of_neg (by simp[hk])]
 have hd2:(outF lt (t::ts)).dropWhile (isK 1)=splT t++outF (some t) ts:=by
  show(spT lt t++splT t++outF (some t) ts).dropWhile (isK 1)=_;cases lt with
  | none=>exact hdT
  | some l=>
  show((bif zHU l t then [32] else [])++splT t++outF (some t) ts).dropWhile (isK 1)=_;cases zHU l t with
  | false=>exact hdT
  | true=>rw[ag,aX,bj,bE,dropWhile_cons_of_pos (by decide)]; exact hdT
 rw[hd2]at h1;obtain⟨z2,h3,h4⟩:=yAt (yCX h hs) h1;exact⟨z1,z2,h1,h2,h3,h4⟩
end
end
def yAm (s:List UInt8) (c:Nat) (l:List AV):List AV:=s.foldl (fun l b=>l.set b.toNat (nU c)) l
def cl0:List AV:=List.replicate 256 (nU 0)
def sg1:List UInt8:=[32,9,10]
def sg2:List UInt8:=[48,49,50,51,52,53,54,55,56,57]
def sg3:List UInt8:=[97,98,99,100,101,102,103,104,105,106,107,108,109,110,111,112,113,114,115,116,117,118,119,120,121,122,65,66,67,68,69,70,71,72,73,74,75,76,77,78,79,80,81,82,83,84,85,86,87,88,89,90]
def sg4:List UInt8:=[43,45,42,47,61,60,62,44,59,58,33,124,39,63,126,64]
def sg5:List UInt8:=[123,125,40,41,91,93,94,95,38]
def cl1:List AV:=yAm sg1 1 cl0
def cl2:List AV:=yAm sg2 2 cl1
def cl3:List AV:=yAm sg3 3 cl2
def cl4:List AV:=yAm sg4 4 cl3
abbrev ClE (s:List UInt8) (c:Nat) (l l':List AV):Prop:=E 168 [nS s,nU c,.op 0 0] [.box 186 l] (.tup []) [some (.box 186 l')]
def yDn:ClE sg1 1 cl0 cl1:=ev (List.replicate 3 .go) (by kernel_rfl)
def yDo:ClE sg2 2 cl1 cl2:=ev (List.replicate 10 .go) (by kernel_rfl)
def yDp:ClE sg3 3 cl2 cl3:=ev (List.replicate 52 .go) (by kernel_rfl)
def yDq:ClE sg4 4 cl3 cl4:=ev (List.replicate 16 .go) (by kernel_rfl)
def yDr:ClE sg5 5 cl4 clsL:=ev (List.replicate 9 .go) (by kernel_rfl)
def zZX:E 123 [] [] (.agg clsL) []:=ev [C yDn,C yDo,C yDp,C yDq,C yDr] (by kernel_rfl)
def tmpsOf:List Operand->Option (List Nat)
 | []=>some []
 | .tmp x::r=>match tmpsOf r with | some l=>some (x::l) | none=>none
 | _=>none
def zTH:∀ {l:List Operand}{r:List Nat},tmpsOf l=some r->l=r.map Operand.tmp
 | [],_,h=>by cases h; rfl
 | .tmp x::l,r,h=>by
  simp only[tmpsOf]at h;split at h
  ·rename_i l' hl;cases h;rw[zTH hl];rfl
  ·cases h
def zQG (o:Oper):Option (Nat×List Nat×Array TypeId) :=
 match o.op with
 | .call { callee:=.value (.tmp f),args:=⟨l⟩,argTypes:=ts }=>match tmpsOf l with | some xs=>some (f,xs,ts) | none=>none
 | _=>none
def zWx {o:Oper}{f:Nat}{xs:List Nat}{ts:Array TypeId} (h:zQG o=some (f,xs,ts)):o.op = .call { callee:=.value (.tmp f),args:=(xs.map Operand.tmp).toArray,argTypes:=ts }:=by
 unfold zQG at h;split at h
 ·rename_i e;split at h
  ·rename_i hx;cases h;rw[e,zTH hx]
  cases h
 cases h
def zV1:List Oper->Option (List Oper×Oper×List Oper)
 | []=>none
 | o::os=>match zQG o with
  | some _=>some ([],o,os)
  | none=>match zV1 os with
   | some (a,y,b)=>some (o::a,y,b)
   | none=>none
def zTE:∀ {l a b:List Oper}{y:Oper},zV1 l=some (a,y,b)->l=a++y::b
 | [],_,_,_,h=>by cases h
 | o::os,a,b,y,h=>by
  unfold zV1 at h;split at h
  ·cases h; rfl
  ·split at h
   ·rename_i h1;cases h;rw[zTE h1];rfl
   ·cases h
section
variable {P:Program}
def zYU (T:Nat->Option TI) (F:CallF P) (M:List Nat) (N:Nat) (assign body:Code) (env:Nat->AV) (p:List Nat) (row:List AV) (hp:Nat->Option Ob) (nx:Nat) (fs:List (Fact P)):Ou P ((Nat->Option Ob)×Nat) :=
 match zGx T F M N nx 1000 assign ⟨renv env p row,hp,nx⟩ fs with
 | none=>none
 | some (L1,us,f1)=>andU us (zMB L1 (fun q fs=>match q with
  | (.normal,V1)=>match zGx T F M N nx 1000 body V1 fs with
   | none=>none
   | some (L2,u2,f2)=>andU u2 (zMB L2 (fun q fs=>match q with
    | (.normal,V2)=>one (V2.hp,V2.nx) fs
    | _=>none) f2)
  | _=>none) f1)
def yE (T:Nat->Option TI) (F:CallF P) (M:List Nat) (N n0 ky np:Nat) (round:List AV->(Nat->Option Ob)->Nat->List (Fact P)->Ou P ((Nat->Option Ob)×Nat)):Nat->Code->St->List (Fact P)->Ou P (End×St)
 | 0,_,_,_=>none
 | n+1,code,V,fs=>match code with
  | .seq x y=>match yE T F M N n0 ky np round n x V fs with
   | none=>none
   | some (l,us,f1)=>andU us (zMB l (fun p fs=>match p with
    | (.normal,V1)=>yE T F M N n0 ky np round n y V1 fs
    | r=>one r fs) f1)
  | .region id ops drawn=>match zV1 ops.toList with
   | none=>zGx T F M N n0 1 (.region id ops drawn) V fs
   | some (pre,yo,post)=>match drawn,zD4 N ops.toList with
    | false,true=>match eOps T F M [] N ops.toList pre V fs with
     | none=>none
     | some (L,us,f1)=>andU us (zMB L (fun τ fs=>match zQG yo,yo.dst,gate ops.toList yo τ.env with
      | some (f,xs,_),some d,some true=>match τ.env f with
       | .mref k=>match Nat.beq k ky,Nat.beq xs.length np with
        | true,true=>match fVs (xs.map τ.env) fun vs=>round vs τ.hp τ.nx fs with
         | none=>none
         | some (R,u2,f2)=>andU u2 (zMB R (fun q fs=>match eOps T F M [] N ops.toList post ((⟨τ.env,q.1,q.2⟩:St).put (some d) (.s (.bool true))) fs with
          | none=>none
          | some (L2,u3,f3)=>some (L2.map fun V=>(End.normal,V),u3,f3)) f2)
        | _,_=>none
       | _=>none
      | _,_,_=>none) f1)
    | _,_=>none
  | .cond (.tmp t) x y=>match V.env t with
   | .s (.bool true)=>yE T F M N n0 ky np round n x V fs
   | .s (.bool false)=>yE T F M N n0 ky np round n y V fs
   | _=>none
  | .block id x=>match yE T F M N n0 ky np round n x V fs with
   | none=>none
   | some (l,us,fs')=>some (l.map fun p=>match p with
    | (.exit j,V1)=>(match Nat.beq j id with | true=>(.normal,V1) | false=>(.exit j,V1))
    | r=>r,us,fs')
  | c=>zGx T F M N n0 1 c V fs
end
section
variable {h:Hd} {T:Nat->Option TI} {F:CallF h.c.P}
variable {fs fs':List (Fact h.c.P)}{M:List Nat}
theorem zMr (hT:TOk h.c.P T) (hm:h.c.P.follows .mixedOrders=true) (hf:F.Ok){row:List AV}{hp:Nat->Option Ob}{nx:Nat}{us:Us}{R:List ((Nat->Option Ob)×Nat)}
  (e:zYU T F M h.c.N h.rc.assign h.rc.body h.env h.p row hp nx fs=some (R,us,fs')) (hu:Us.ok us):zR4 h row hp nx (fun hp' nx'=>(hp',nx')∈R):=fun w X G B _=>by
 unfold zYU at e;split at e
 ·cases e
 rename_i L1 u1 f1 h1;obtain⟨g1,u2,g2,g3⟩:=zGG e hu;refine(zB6 (c:=rcx h.c.P h.c.N nx h.l w X G B) hT hm hf h1 g1 fun q hq=>?_).1;obtain⟨f2,l',u',f3,h2,h3,h4⟩:=zD3 g2 g3 q hq;obtain⟨e1,V1⟩:=q;cases e1 with
 | normal =>
  refine⟨rfl,fun w X G B _=>?_⟩;dsimp only at h2;split at h2
  ·cases h2
  rename_i L2 u4 f4 h5;obtain⟨k1,k2,k3,k4⟩:=zGG h2 h3;refine(zB6 (c:=rcx h.c.P h.c.N nx h.l w X G B) hT hm hf h5 k1 fun q hq=>?_).1;obtain⟨f5,l5,u5,f6,j2,j3,j4⟩:=zD3 k3 k4 q hq;obtain⟨e2,V2⟩:=q;cases e2 with
  | normal=>cases j2; exact⟨rfl,V2,Le.refl _ _,h4 _ (j4 _ ak)⟩
  | exit id=>cases j2
  | ret=>cases j2
 | exit id=>cases h2
 | ret=>cases h2
theorem zRB (ho:h.Ok) (hT:TOk h.c.P T) (hm:h.c.P.follows .mixedOrders=true) (hf:F.Ok){M:List Nat}{round:List AV->(Nat->Option Ob)->Nat->List (Fact h.c.P)->Ou h.c.P ((Nat->Option Ob)×Nat)}
  (hr:∀ row hp nx fs R us fs',round row hp nx fs=some (R,us,fs')->Us.ok us->zR4 h row hp nx (fun hp' nx'=>(hp',nx')∈R)):∀ {n:Nat} {code:Code} {V:St} {L:List (End×St)} {fs fs':List (Fact h.c.P)} {us:Us} {Q:End->St->Prop},yE T F M h.N h.m h.ky h.p.length round n code V fs=some (L,us,fs')->Us.ok us->(∀ p∈L,Q p.1 p.2)->TriY h code V Q
 | 0,_,_,_,_,_,_,_,e,_,_=>by cases e
 | n+1,code,V,L,fs,fs',us,Q,e,hu,hq=>by
  have ih:=fun {code:Code} {V:St} {L:List (End×St)} {fs fs':List (Fact h.c.P)} {us:Us} {Q:End->St->Prop}=>zRB ho hT hm hf hr (M:=M) (n:=n) (code:=code) (V:=V) (L:=L) (fs:=fs) (fs':=fs') (us:=us) (Q:=Q)
  have plain:∀ {code:Code},zGx T F M h.N h.m 1 code V fs=some (L,us,fs')->TriY h code V Q:=fun e=>zZs ho fun W X G B=>(zB6 (c:=h.cx W X G B) hT hm hf e hu hq).1
  unfold yE at e;split at e
  ·rename_i x y;refine zV4 ?_;split at e
   ·cases e
   rename_i l u1 f1 h1;obtain⟨g1,u2,g2,g3⟩:=zGG e hu;refine ih h1 g1 (Q:=yEs h y Q) fun p hp=>?_
   obtain⟨f2,l',u',f3,h2,h3,h4⟩:=zD3 g2 g3 p hp;obtain⟨e,τ⟩:=p;cases e with
   | normal=>exact ih h2 h3 fun p hp=>hq p (h4 p hp)
   | exit id=>cases h2; exact hq _ (h4 _ ak)
   | ret=>cases h2; exact hq _ (h4 _ ak)
  ·rename_i id ops drawn;split at e
   ·exact plain e
   rename_i pre yo post hs;split at e
   ·rename_i hd;split at e
    ·cases e
    rename_i L1 u1 f1 h1;obtain⟨g1,u2,g2,g3⟩:=zGG e hu;have:=zXf ho hT zSM (id:=id) (zTE hs) hd (M:=M) (nm:=[]) (Q:=Q) (zHa hf (zIV h.c.P) h1 g1 fun τ hτ=>?_)
    ·exact qA
    obtain⟨f2,l',u',f3,h2,h3,h4⟩:=zD3 g2 g3 τ hτ;split at h2
    ·rename_i f xs ts d e1 e2 e3;split at h2
     ·rename_i k e4;split at h2
      ·rename_i e6 e7;rw[zKE]at h2;split at h2
       ·cases h2
       rename_i R u4 f4 e8;obtain⟨k1,u5,k2,k3⟩:=zGG h2 h3;obtain rfl:=ab e6;refine⟨f,xs,d,ts,_,zWx e1,e2,e3,e4,ab e7,hr _ _ _ _ _ _ _ e8 k1,fun hp' nx' hR=>?_⟩;obtain⟨f5,l2,u6,f6,j1,j2,j3⟩:=zD3 k2 k3 _ hR;dsimp only at j1;split at j1
       ·cases j1
       rename_i L2 u7 f7 e9;cases j1;exact zHa hf (zIV h.c.P) e9 j2 fun τ hτ=>hq (.normal,τ) (h4 _ (j3 _ (be.2 ⟨τ,hτ,rfl⟩)))
      cases h2
     cases h2
    cases h2
   cases e
  ·rename_i t x y;split at e
   ·rename_i hb;exact zTI hb (fun _=>ih e hu hq) (fun h=>by cases h)
   ·rename_i hb;exact zTI hb (fun h=>by cases h) (fun _=>ih e hu hq)
   cases e
  ·rename_i id x;refine zP7 ?_;split at e
   ·cases e
   rename_i l u1 f1 h1;cases e;refine ih h1 hu (Q:=zPr id Q) fun p hp=>?_
   have:=hq _ (be.2 ⟨p,hp,rfl⟩);obtain⟨e,τ⟩:=p;cases e with
   | normal=>exact this
   | exit j =>
    show match Nat.beq j id with | true=>Q .normal τ | false=>Q (.exit j) τ
    dsimp only at this;cases e:Nat.beq j id with
    | true=>rw[e]at this; exact this
    | false=>rw[e]at this; exact this
   | ret=>exact this
  exact plain e
def zQL {P:Program} (T:Nat->Option TI) (F:CallF P) (M M2:List Nat) (N m ky N2:Nat) (assign body:Code) (env:Nat->AV) (p:List Nat) (x:Code) (L:List (Nat×AV)) (H:List (Nat×Ob)) (n:Nat) (ts:List Nat) (fs:List (Fact P)):Option ((End×List (Nat×AV)×List (Nat×Ob)×Nat)×Us×List (Fact P)) :=
 match yE T F M N m ky p.length (zYU T F M2 N2 assign body env p) 1000 x ⟨ofL L,ofH H,n⟩ fs with
 | some ([(.normal,V)],us,fs')=>match zUw m ts V with
  | some (L1,H1,n1)=>some ((.normal,L1,H1,n1),us,fs')
  | none=>none
 | some ([(e,V)],us,fs')=>hpX V.hp V.nx [] fun H1=>some ((e,[],H1,V.nx),us,fs')
 | _=>none
abbrev yDJ (T:Nat->Option TI) (F:CallF h.c.P) (M M2:List Nat) (x:Code) (L:List (Nat×AV)) (H:List (Nat×Ob)) (n:Nat) (ts:List Nat) (fs:List (Fact h.c.P)):Option ((End×List (Nat×AV)×List (Nat×Ob)×Nat)×Us×List (Fact h.c.P)) :=
 zQL T F M M2 h.N h.m h.ky h.c.N h.rc.assign h.rc.body h.env h.p x L H n ts fs
theorem zYc (ho:h.Ok) (hT:TOk h.c.P T) (hm:h.c.P.follows .mixedOrders=true) (hf:F.Ok){M2:List Nat}{x:Code}{L L1:List (Nat×AV)}{H H1:List (Nat×Ob)}{n n1:Nat}{ts:List Nat}{us:Us}{e0:End}{Q:End->St->Prop}
  (e:yDJ T F M M2 x L H n ts fs=some ((e0,L1,H1,n1),us,fs')) (hu:Us.ok us) (ih:e0 = .normal->zSd h x ⟨ofL L1,ofH H1,n1⟩ Q) (hq:e0 ≠ .normal->∀ τ:St,τ.nx=n1->(∀ k ob,ofH H1 k=some ob->τ.hp k=some ob)->Q e0 τ):zSd h x ⟨ofL L,ofH H,n⟩ Q:=by
 unfold yDJ zQL at e;split at e
 ·rename_i V us1 f1 h1;split at e
  ·rename_i L2 H2 n2 h2;cases e;refine zOz (zRB ho hT hm hf (fun row hp nx fs R us fs' e hu=>zMr hT hm hf e hu) h1 hu fun p hp=>?_);obtain rfl:=aD.1 hp;exact zV3 ho (fun W X G B=>zKQ (c:=h.cx W X G B) h2) (ih rfl)
  cases e
 ·rename_i e1 V us1 f1 hne h1;obtain⟨l',h2,h3⟩:=zMS (hp:=V.hp) (n:=V.nx) (l:=[]) (K:=fun H1=>some ((e1,([]:List (Nat×AV)),H1,V.nx),us1,f1)) (fun k ob h=>by cases h);rw[h3]at e;cases e;refine zOz (zRB ho hT hm hf (fun row hp nx fs R us fs' e hu=>zMr hT hm hf e hu) h1 hu fun p hp=>?_);obtain rfl:=aD.1 hp;cases e0 with
  | normal=>exact(hne rfl).elim
  | exit id=>exact hq (fun h=>by cases h) _ rfl h2
  | ret=>exact hq (fun h=>by cases h) _ rfl h2
 cases e
end
def zRw {c:Cx}{V V':St}{x:Code}{Φ:Exit->Act->World->Prop} (hle:Le c V V') (h:TriX c x V' Φ):TriX c x V Φ:=fun G O a w hc=>by
 unfold Le at hle;obtain⟨G',O',h'⟩:=hle G O a w hc;exact h G' O' a w h'
section
variable {P:Program}
def zVa (P:Program) (N N2 ky m:Nat) (p:List Nat) (env:Nat->AV) (assign body icode:Code) (V0:St) (Q:(Nat->Option Ob)->Nat->Prop):Prop :=
 ∀ h:Hd,h.Ok->h.c.P=P->h.c.N=N->h.env=env->h.N=N2->h.p=p->h.ky=ky->h.rc.assign=assign->h.rc.body=body->h.m=m->TriY h icode V0 (fun e τ=>(∀ id,e ≠ .exit id)/\Q τ.hp τ.nx)
def zPC (T:Nat->Option TI) (F:CallF P) (M:List Nat) (N:Nat) (A B R:Code) (xs:List AV) (ts:List Nat) (fs:List (Fact P)):Option ((List (Nat×AV)×List (Nat×Ob)×Nat)×Us×List (Fact P)) :=
 match zGx T F M N 0 1000 A (start xs) fs with
 | some ([(.normal,V1)],u1,f1)=>match zGx T F M N 0 1000 B V1 f1 with
  | some ([(.normal,V2)],u2,f2)=>match zMD 0 N V2 f2 with
   | (V3,f3)=>match zGx T F M N 0 1000 R V3 f3 with
    | some ([(.normal,V4)],u4,f4)=>match zMD 0 N V4 f4 with
     | (V5,f5)=>match zUw 0 ts V5 with
      | some r=>some (r,u1++(u2++u4),f5)
      | none=>none
    | _=>none
  | _=>none
 | _=>none
variable {H:List (Nat×Ob)}{L:List (Nat×AV)}{xs:List AV}{A B R Y:Code}{F:CallF P}{T:Nat->Option TI}
theorem zUi  (hT:TOk P T) (hm:P.follows .mixedOrders=true) (hf:F.Ok){M:List Nat}{N:Nat}{Z:Code}{ts:List Nat}{fs fs':List (Fact P)}{n:Nat}{us:Us}{w0:World}{G0:Nat->Prop}{Φ:Exit->Act->World->Prop}
  (e:zPC T F M N A B R xs ts fs=some ((L,H,n),us,fs') ) (hu:Us.ok us) (h:TriX (zDX P w0 G0 N) Z ⟨ofL L,ofH H,n⟩ (Exit.then (Y.wpIn (rF none) 2 P Φ) Φ)):TriX (zDX P w0 G0 N) (.seq A (.seq B (.seq (.seq R Z) Y))) (start xs) Φ:=by
 unfold zPC at e;split at e
 ·rename_i V1 u1 f1 h1;split at e
  ·rename_i V2 u2 f2 h2;split at e;rename_i V3 f3 t3;split at e
   ·rename_i V4 u4 f4 h4;split at e;rename_i V5 f5 t5;split at e
    ·rename_i r hr;cases e;obtain⟨k1,k2⟩:=hu.app;obtain⟨k2,k4⟩:=k2.app;refine zRx rfl (zB6 (c:=zDX P w0 G0 N) hT hm hf h1 k1 fun q hq=>?_).1;obtain rfl:=aD.1 hq;refine⟨rfl,zRx rfl (zB6 (c:=zDX P w0 G0 N) hT hm hf h2 k2 fun q hq=>?_).1⟩;obtain rfl:=aD.1 hq;have l3:Le (zDX P w0 G0 N) V2 V3 :=(by have:=zIT (c:=zDX P w0 G0 N) (N:=N) (fs:=f2) (V:=V2); rw[show zMD (zDX P w0 G0 N).n0 N V2 f2=(V3,f3) from t3]at this; exact this);have l5:Le (zDX P w0 G0 N) V4 V5 :=(by have:=zIT (c:=zDX P w0 G0 N) (N:=N) (fs:=f4) (V:=V4); rw[show zMD (zDX P w0 G0 N).n0 N V4 f4=(V5,fs') from t5]at this; exact this);refine⟨rfl,zRw l3 (yBl (zRx rfl (zB6 (c:=zDX P w0 G0 N) hT hm hf h4 k4 fun q hq=>?_).1))⟩;obtain rfl:=aD.1 hq;exact⟨rfl,zRw l5 (zRw (zKQ (c:=zDX P w0 G0 N) hr) h)⟩
    cases e
   cases e
  cases e
 cases e
def noEx:YtbfnjnljboncgaaGreat.End->Bool
 | .exit _=>false
 | _=>true
def xFin (T:Nat->Option TI) (rs:List ResultVar) (V:St):Option AV :=
 match zHX T V rs with
 | none=>none
 | some x0=>fL fN (zAo V.hp 500 x0.keys []).reverse fun k0=>match zHX T (xFrz 0 k0 V) rs with
  | none=>none
  | some x1=>match x1.pers with
   | true=>some x1
   | false=>none
theorem zQb {c:Cx} (h0:c.n0=0){rs:List ResultVar}{V:St}{x:AV} (h:xFin T rs V=some x):zBF c T rs (.val x) V:=by
 unfold xFin at h;split at h
 ·cases h
 rw[zIi zFn]at h;split at h
 ·cases h
 rename_i x1 h1;split at h
 ·rename_i h2;cases h;unfold zBF;exact⟨_,zLN (n0:=0),h1,h2⟩
 cases h
def zWq (T:Nat->Option TI) (F:CallF P) (M:List Nat) (N:Nat) (rs:List ResultVar) (Y:Code) (L:List (Nat×AV)) (H:List (Nat×Ob)) (n:Nat) (fs:List (Fact P)):Option (AV×Us×List (Fact P)) :=
 match zGx T F M N 0 1000 Y ⟨ofL L,ofH H,n⟩ fs with
 | some ([(e,V)],us,fs')=>match noEx e,xFin T rs V with
  | true,some x=>some (x,us,fs')
  | _,_=>none
 | _=>none
theorem zYK  (hT:TOk P T) (hm:P.follows .mixedOrders=true) (hf:F.Ok){g:Nat}{fi:Fi} (hg:zK9 P g fi) (hp:AV.persAll xs=true) (hl:xs.length<=fi.fn.ntmps){assign body:Code}{bid tg:Nat}{p:List Nat}
  (hb:fi.fn.body=some (.seq A (.seq B (.seq (.seq R (.block bid (.rangeFunc (.tmp tg) p.toArray assign body))) Y)))) {ts:List Nat} {fs fs':List (Fact P)} {L:List (Nat×AV)} {H:List (Nat×Ob)} {n:Nat} {us:Us}
  (hfr:zPC T F fi.M fi.fn.ntmps A B R xs ts fs=some ((L,H,n),us,fs')) (hu:Us.ok us) (hL:holds (ofL L) L) {fid:Nat} {caps:List AV} {gi:Fi} (hclo:ofL L tg = .clo fid caps) (hgi:zK9 P fid gi) {icode:Code} (hib:gi.fn.body=some icode) (hres:gi.fn.results = #[]) (hN:caps.length+1<=gi.fn.ntmps) (hpN:∀ q∈p,q<fi.fn.ntmps) (hfid:Nat.ble 1048576 fid=false)
  {Q:(Nat->Option Ob)->Nat->Prop} (hit:zVa P fi.fn.ntmps gi.fn.ntmps n (n+1) p (ofL L) assign body icode ⟨fun t=>(AV.mref n::caps).getD t .junk,ofH H,n+1⟩ Q)
  {x:AV} (hend:∀ hp nx,Q hp nx->∃ H1 fs us fs',(∀ k ob,ofH H1 k=some ob->hp k=some ob)/\zWq T F fi.M fi.fn.ntmps fi.fn.results.toList Y L H1 nx fs=some (x,us,fs')/\Us.ok us):Evl P g xs [] x []:=by
 obtain⟨hcall,hfn⟩:=hg;obtain⟨hicall,hifn⟩:=hgi;refine PSound.evl (s:=zAr fun xs' r=>xs'=xs/\r = .val x) (yCD hcall hfn hb (fun xs' r h=>by obtain⟨rfl,_⟩:=h; exact hl) fi.fn.ntmps rfl fun xs' r w0 G0 h _=>?_) hp ⟨rfl,rfl⟩;obtain⟨rfl,rfl⟩:=h;refine zUi hT hm hf hfr hu (zXg (zU5 (c:=zDX P w0 G0 fi.fn.ntmps) rfl rfl hicall hifn hib hres hN hclo hpN (Q:=Q) ?_ ?_ hfid))
 ·intro h ho g1 g2 g3 g4 g5 g6 g7 g8;exact hit h ho (by rw[g1]; rfl) (by rw[g1]; rfl) g2 g3 g4 g5 g6 g7 g8
 rintro D w2 X G2 G' O' a2 hp' nx' hQ hsw hc;obtain⟨H1,fs1,us1,fs2,k1,k2,k3⟩:=hend hp' nx' hQ;show Y.wpIn _ _ _ _ a2 w2;have hle:Le (lcx P fi.fn.ntmps 0 w2 X G2 (zDX P w0 G0 fi.fn.ntmps).B0 D) ⟨ofL L,hp',nx'⟩ ⟨ofL L,ofH H1,nx'⟩:=Le.fewer (V:=⟨ofL L,hp',nx'⟩) L (ofH H1) hL k1;unfold Le at hle;obtain⟨G3,O3,hc3⟩:=hle G' O' a2 w2 hc;unfold zWq at k2;split at k2
 ·rename_i e2 V2 u2 f2 h2;split at k2
  ·rename_i y hne hy;cases k2;refine zX4 (c:=zDX P w0 G0 fi.fn.ntmps) hT hsw (fun _ h=>h) rfl rfl (zB6 (c:=lcx P fi.fn.ntmps 0 w2 X G2 _ D) hT hm hf h2 k3 fun q hq=>?_).1 G3 O3 a2 w2 hc3;obtain rfl:=aD.1 hq;cases e2 with
   | exit id=>cases hne
   | normal=>exact zQb rfl hy
   | ret=>exact zQb rfl hy
  cases k2
 cases k2
def zZr {h:Hd}{x:Code}{τ:St}{Q Q':End->St->Prop} (ht:TriY h x τ Q) (hq:∀ e τ,Q e τ->Q' e τ):TriY h x τ Q':=fun a W hh=>wpIn_mono (ht a W hh) fun e a' W' ⟨e',τ',r,q,k⟩=>⟨e',τ',r,hq _ _ q,k⟩
theorem zY1 {q:Option ((End×List (Nat×AV)×List (Nat×Ob)×Nat)×Us×List (Fact P))}{e:End}{n:Nat} (h:q.map lftL=some (rgtL e L H n q)):∃ us fs',q=some ((e,L,H,n),us,fs')/\Us.ok us:=by
 cases q with
 | none=>cases h
 | some q=>obtain⟨⟨e0,L0,H0,n0⟩,us,f1⟩:=q;simp only[bu,lftL,rgtL,aC,Prod.mk.injEq,List.cons.injEq,U.l.injEq,U.h.injEq,U.n.injEq]at h;obtain⟨rfl,⟨rfl,rfl,rfl,h3⟩,_⟩:=h;exact⟨us,f1,rfl,zU7 h3⟩
def zMQ {q:Option (AV×Us×List (Fact P))}{x:AV} (h:(q.map fun q=>(U.a q.1::q.2.1.map (·.1),q.2.2.isEmpty))=some (U.a x::(match q with | some q=>q.2.1.map (·.2) | none=>[]),true)):∃ us fs',q=some (x,us,fs')/\Us.ok us:=by
 cases q with
 | none=>cases h
 | some q=>obtain⟨x0,us,f1⟩:=q;simp only[bu,aC,Prod.mk.injEq,List.cons.injEq,U.a.injEq]at h;obtain⟨⟨rfl,h3⟩,_⟩:=h;exact⟨us,f1,rfl,zU7 h3⟩
def Lies (H:List (Nat×Ob)) (n:Nat) (hp:Nat->Option Ob) (nx:Nat):Prop:=nx=n/\∀ k ob,ofH H k=some ob->hp k=some ob
def zTO (P:Program) (N N2 ky m:Nat) (p:List Nat) (env:Nat->AV) (assign body x:Code) (L:List (Nat×AV)) (H:List (Nat×Ob)) (n:Nat) (e0:End) (H1:List (Nat×Ob)) (n1:Nat):Prop :=
 ∀ h:Hd,h.Ok->h.c.P=P->h.c.N=N->h.env=env->h.N=N2->h.p=p->h.ky=ky->h.rc.assign=assign->h.rc.body=body->h.m=m->zSd h x ⟨ofL L,ofH H,n⟩ (fun e τ=>e=e0/\Lies H1 n1 τ.hp τ.nx)
section
variable {T:Nat->Option TI} (hT:TOk P T) (hm:P.follows .mixedOrders=true) {F:CallF P} (hf:F.Ok) {M M2:List Nat} {N N2 ky m:Nat} {p:List Nat} {env:Nat->AV} {assign body x:Code} {L L1:List (Nat×AV)} {H H1 H2:List (Nat×Ob)} {n n1 n2:Nat} {ts:List Nat} {fs:List (Fact P)} {e0:End}
include hT hm hf
theorem zMU (e:(zQL T F M M2 N2 m ky N assign body env p x L H n ts fs).map lftL=some (rgtL .normal L1 H1 n1 (zQL T F M M2 N2 m ky N assign body env p x L H n ts fs))) (ih:zTO P N N2 ky m p env assign body x L1 H1 n1 e0 H2 n2):zTO P N N2 ky m p env assign body x L H n e0 H2 n2:=fun h ho e1 e2 e3 e4 e5 e6 e7 e8 e9=>by
 subst e1 e2 e3 e4 e5 e6 e7 e8 e9;obtain⟨us,fs',g1,g2⟩:=zY1 e;exact zYc ho hT hm hf g1 g2 (fun _=>ih h ho rfl rfl rfl rfl rfl rfl rfl rfl rfl) fun h=>absurd rfl h
theorem zKK (e:(zQL T F M M2 N2 m ky N assign body env p x L H n ts fs).map lftL=some (rgtL e0 L1 H1 n1 (zQL T F M M2 N2 m ky N assign body env p x L H n ts fs))) (hne:e0 ≠ .normal):zTO P N N2 ky m p env assign body x L H n e0 H1 n1:=fun h ho e1 e2 e3 e4 e5 e6 e7 e8 e9=>by
 subst e1 e2 e3 e4 e5 e6 e7 e8 e9;obtain⟨us,fs',g1,g2⟩:=zY1 e;exact zYc ho hT hm hf g1 g2 (fun h=>absurd h hne) fun _ τ h1 h2=>⟨rfl,h1,h2⟩
end
def backTo (b:Nat):End->Bool
 | .exit j=>Nat.beq j b
 | .ret=>true
 | .normal=>false
variable {e0:End}{V0:St}{N2 ky n1:Nat}{H H1:List (Nat×Ob)}{L:List (Nat×AV)}{assign body x:Code}{env:Nat->AV}{p:List Nat}
theorem zSQ {N m:Nat}{n b:Nat} (hle:∀ c:Cx,c.n0=m->Le c V0 ⟨ofL L,ofH H,n⟩) (he:backTo b e0=true) (hit:zTO P N N2 ky m p env assign body x L H n e0 H1 n1) :
  zVa P N N2 ky m p env assign body (.block b (.loop x)) V0 (Lies H1 n1):=fun h ho e1 e2 e3 e4 e5 e6 e7 e8 e9=>zP7 (by
 refine zZr (zZq (zV3 ho (fun W X G B=>hle (h.cx W X G B) e9) (hit h ho e1 e2 e3 e4 e5 e6 e7 e8 e9))) fun e τ ⟨h1,h2⟩=>?_
 subst h1;cases e with
 | exit id =>
  have he:Nat.beq id b=true:=he;show match Nat.beq id b with | true=>_ | false=>_
  rw[he]
  exact⟨fun _ h=>(by cases h),h2⟩
 | normal=>cases he
 | ret=>exact⟨fun _ h=>(by cases h),h2⟩)
def zUm (T:Nat->Option TI) (F:CallF P) (M:List Nat) (N2 m:Nat) (A:Code) (V0:St) (ts:List Nat) (fs:List (Fact P)):Option ((List (Nat×AV)×List (Nat×Ob)×Nat)×Us×List (Fact P)) :=
 match zGx T F M N2 m 1000 A V0 fs with
 | some ([(.normal,V)],us,fs')=>(match zUw m ts V with | some r=>some (r,us,fs') | none=>none)
 | _=>none
variable {A:Code}{F:CallF P}{T:Nat->Option TI}
theorem yAc  (hT:TOk P T) (hm:P.follows .mixedOrders=true) (hf:F.Ok){M:List Nat}{N m:Nat}{n b:Nat}{ts:List Nat}{fs fs':List (Fact P)}{us:Us}
  (e:zUm T F M N2 m A V0 ts fs=some ((L,H,n),us,fs')) (hu:Us.ok us) (he:backTo b e0=true) (hit:zTO P N N2 ky m p env assign body x L H n e0 H1 n1) :
  zVa P N N2 ky m p env assign body (.seq A (.block b (.loop x))) V0 (Lies H1 n1):=fun h ho e1 e2 e3 e4 e5 e6 e7 e8 e9=>by
 unfold zUm at e;split at e
 ·rename_i V us1 f1 h1;split at e
  ·rename_i r hr;cases e;have hl:=zSQ (V0:=V) (b:=b) (fun c hc=>by rw[← hc]at hr; exact zKQ hr) he hit h ho e1 e2 e3 e4 e5 e6 e7 e8 e9;subst e1;refine zV4 (zZs ho fun W X G B=>(zB6 (c:=h.cx W X G B) hT hm hf (by rw[← e4,← e9]at h1; exact h1) hu fun q hq=>?_).1);obtain rfl:=aD.1 hq;exact hl
  cases e
 cases e
theorem zPY  (hT:TOk P T) (hm:P.follows .mixedOrders=true) (hf:F.Ok){g:Nat}{fi:Fi} (hg:zK9 P g fi){xs:List AV} (hp:AV.persAll xs=true) (hl:xs.length<=fi.fn.ntmps){B R Y icode:Code}{bid tg:Nat}
  (hb:fi.fn.body=some (.seq A (.seq B (.seq (.seq R (.block bid (.rangeFunc (.tmp tg) p.toArray assign body))) Y)))) {ts:List Nat} {fs fs' fs2 fs3:List (Fact P)} {L:List (Nat×AV)} {H H1:List (Nat×Ob)} {n n1:Nat} {us us2:Us}
  (hfr:zPC T F fi.M fi.fn.ntmps A B R xs ts fs=some ((L,H,n),us,fs')) (hu:Us.ok us) (hL:holds (ofL L) L) {fid:Nat} {caps:List AV} {gi:Fi} (hclo:ofL L tg = .clo fid caps) (hgi:zK9 P fid gi) (hib:gi.fn.body=some icode) (hres:gi.fn.results = #[]) (hN:caps.length+1<=gi.fn.ntmps) (hpN:∀ q∈p,q<fi.fn.ntmps) (hfid:Nat.ble 1048576 fid=false)
  (hit:zVa P fi.fn.ntmps gi.fn.ntmps n (n+1) p (ofL L) assign body icode ⟨fun t=>(AV.mref n::caps).getD t .junk,ofH H,n+1⟩ (Lies H1 n1))
  {y:AV} (hend:zWq T F fi.M fi.fn.ntmps fi.fn.results.toList Y L H1 n1 fs2=some (y,us2,fs3)) (hu2:Us.ok us2):Evl P g xs [] y [] :=
 zYK hT hm hf hg hp hl hb hfr hu hL hclo hgi hib hres hN hpN hfid (Q:=Lies H1 n1) hit fun hp nx ⟨h1,h2⟩=>⟨H1,fs2,us2,fs3,h2,by rw[h1]; exact hend,hu2⟩
end
noncomputable def cF:CallF Tryz.prog:=zUe TW e0 auT 100
def zXL:cF.Ok:=zKw tokW mixed zZ3 zXG 100
noncomputable def fiT:Fi:=(xFn 69).getD ⟨Tryz.f69,[]⟩
noncomputable def fiI:Fi:=(xFn 169).getD ⟨Tryz.f69,[]⟩
def yDz:xFn 69=some fiT:=by kernel_rfl
def yDy:xFn 169=some fiI:=by kernel_rfl
def sq1:Code->Code | .seq x _=>x | _=>.skip
def sq2:Code->Code | .seq _ y=>y | _=>.skip
def bkC:Code->Code | .block _ x=>x | c=>c
def rfA:Code->Code | .rangeFunc _ _ a _=>a | _=>.skip
def rfB:Code->Code | .rangeFunc _ _ _ b=>b | _=>.skip
noncomputable def cT:Code:=fiT.fn.body.getD .skip
noncomputable def cA:Code:=sq1 cT
noncomputable def cB:Code:=sq1 (sq2 cT)
noncomputable def cR:Code:=sq1 (sq1 (sq2 (sq2 cT)))
noncomputable def cL:Code:=bkC (sq2 (sq1 (sq2 (sq2 cT))))
noncomputable def cAs:Code:=rfA cL
noncomputable def cBd:Code:=rfB cL
noncomputable def cY:Code:=sq2 (sq2 (sq2 cT))
def yED:fiT.fn.body=some (.seq cA (.seq cB (.seq (.seq cR (.block 0 (.rangeFunc (.tmp 12) #[13] cAs cBd))) cY))):=by kernel_rfl
def tH (s:List UInt8) (z:Int) (tr:List (List S)):List (Nat×Ob):=[(0,.box 85 [.orow 1]),(1,.row 194 4 tr),(2,.box 3 [nI 0]),(3,.box 29 [nI 0]),(4,.box 189 (lC s z)),(5,.box 185 [.op 4 0])]
noncomputable def frT (s:List UInt8) (fs:List Fc):=zPC TW cF fiT.M fiT.fn.ntmps cA cB cR [nS s] [2,3,4,5,12] fs
def gZ {P:Prop} (h:P:=by simp only[bu,lftL,rgtL,aC,Prod.mk.injEq,List.cons.injEq,U.l.injEq,U.h.injEq,U.n.injEq]at h;obtain⟨_,⟨rfl,rfl,rfl,h3⟩,_⟩:=h;exact⟨us,f1,rfl,zU7 h3⟩):P:=h
def yEG {s:List UInt8}{fs:List Fc}{L:List (Nat×AV)}{H:List (Nat×Ob)}{n:Nat} (h:((frT s fs).map fun q=>lftL ((End.normal,q.1),q.2))=some (rgtL .normal L H n ((frT s fs).map fun q=>((End.normal,q.1),q.2)))):∃ us fs',frT s fs=some ((L,H,n),us,fs')/\Us.ok us:=by
 cases e:frT s fs with
 | none=>rw[e]at h; cases h
 | some q=>obtain⟨⟨L0,H0,n0⟩,us,f1⟩:=q;rw[e]at h;exact gZ
def e124 (s:List UInt8):E 124 [.op 0 0] (LO s 0) (.clo 169 [.op 1 0]) [some (.box 189 (lC s 0)),some (.box 185 [.op 0 0])]:=ev [] (by kernel_rfl)
def tL0:List (Nat×AV):=[(2,.op 0 0),(3,.op 2 0),(4,.op 3 0),(5,.op 4 0),(12,.clo 169 [.op 5 0])]
def yDB (s:List UInt8):∃ us fs',frT s [C zZX,C (e124 s),.take 0 0 194]=some ((tL0,tH s 0 [],6),us,fs')/\Us.ok us:=yEG (by kernel_rfl)
noncomputable def cX:Code:=zPI fiI 0
def itL0:List (Nat×AV):=[(0,.mref 6),(1,.op 5 0)]
def iH (k:Nat) (s:List UInt8) (z:Int) (tr:List (List S)):List (Nat×Ob):=[(0,.box 85 [.orow k])]++(bif Nat.beq k 1 then [(1,.row 194 4 tr)] else [])++[(2,.box 3 [nI 0]),(3,.box 29 [nI 0]),(4,.box 189 (lC s z)),(5,.box 185 [.op 4 0])]++(bif Nat.beq k 1 then [] else [(7,.row 194 4 tr)])
noncomputable def itT (k:Nat) (s:List UInt8) (z:Int) (tr:List (List S)) (n:Nat) (fs:List Fc):=zQL TW cF fiI.M fiT.M fiI.fn.ntmps 7 6 fiT.fn.ntmps cAs cBd (ofL tL0) [13] cX itL0 (iH k s z tr) n [0,1] fs
section
inductive Chn (s:List UInt8):Int->List Tk->Int->Prop
 | nil {z z1:Int} (h1:E 170 [.op 0 0,nI z,nU 1] (LO s z) (nI z1) ((LO s z).map some)) (hdT:(z1 == (s.length:Int))=true):Chn s z [] z1
 | cons {z z1 z2 z' k:Int} {t:List UInt8} {tk:List Tk} (h1:E 170 [.op 0 0,nI z,nU 1] (LO s z) (nI z1) ((LO s z).map some)) (hdT:(z1 == (s.length:Int))=false) (h2:E 171 [.op 0 0] (LO s z1) (tokV k t z1 z2) (LT s z2)) (r:Chn s z2 tk z'):Chn s z ((k,t,z1,z2)::tk) z'
def yBt {s:List UInt8}:∀ {ts:List Tkn}{lt:Option Tkn}{z:Int},(∀ u∈ts,TkV u)->Tx s z (outF lt ts)->∃ tk z',tk.map Tk.key=ts/\Chn s z tk z'
 | [],lt,z,_,hx=>by
  obtain⟨z1,h1,h2⟩:=run_ z 1 hx;refine⟨[],z1,rfl,.nil h2 ?_⟩;obtain⟨_,a,b,c⟩:=h1;have:z1.toNat≥s.length:=bB.1 c;rw[bD];omega
 | t::ts,lt,z,hs,hx=>by
  have hs':∀ u∈ts,TkV u:=fun u hu=>hs u (aG _ hu)
  have h:=hs t ak;obtain⟨z1,z2,h1,h2,h3,h4⟩:=yCw h hs' hx;obtain⟨tk,z',e,c⟩:=yBt hs' h3;refine⟨(t.1,t.2,z1,z2)::tk,z',by rw[ba,e],.cons h2 ?_ h4 c⟩;obtain⟨b,x,e,_⟩:=zRu h;rw[e]at h1;have:=aY (Tx.lt h1);rw[aw];omega
noncomputable abbrev ItL (s:List UInt8) (L:List (Nat×AV)) (H:List (Nat×Ob)) (n:Nat) (H1:List (Nat×Ob)) (n1:Nat):Prop:=zTO Tryz.prog fiT.fn.ntmps fiI.fn.ntmps 6 7 [13] (ofL tL0) cAs cBd cX L H n .ret H1 n1
section
variable {s:List UInt8} {z z1 z2:Int} {tr:List (List S)} {k:Int} {t:List UInt8}
noncomputable def itA (s:List UInt8) (z:Int) (fs:List Fc):=zQL TW cF fiI.M fiT.M fiI.fn.ntmps 7 6 fiT.fn.ntmps cAs cBd (ofL tL0) [13] cX itL0 (tH s z []) 7 [0,1] fs
def g1 (h1:E 170 [.op 0 0,nI z,nU 1] (LO s z) (nI z1) ((LO s z).map some)) (hdT:(z1 == (s.length:Int))=false) (h2:E 171 [.op 0 0] (LO s z1) (tokV k t z1 z2) (LT s z2)) :
 (itA s z [R h1,B 23 hdT,C h2]).map lftL=some (rgtL .normal itL0 (iH 7 s z2 ([]++[[.int .i64 k,.str t,.int .i64 z1,.int .i64 z2]])) 8 (itA s z [R h1,B 23 hdT,C h2])):=by kernel_rfl
def g0 (h1:E 170 [.op 0 0,nI z,nU 1] (LO s z) (nI z1) ((LO s z).map some)) (hdT:(z1 == (s.length:Int))=true) :
 (itA s z [R h1,B 23 hdT]).map lftL=some (rgtL .ret [] (tH s z1 []) 7 (itA s z [R h1,B 23 hdT])):=by kernel_rfl
def g2 (h1:E 170 [.op 0 0,nI z,nU 1] (LO s z) (nI z1) ((LO s z).map some)) (hdT:(z1 == (s.length:Int))=false) (h2:E 171 [.op 0 0] (LO s z1) (tokV k t z1 z2) (LT s z2)) (hn:((tr.length:Int) == 8000)=false) (ha:zDE tr.length 1 40=true) :
 (itT 7 s z tr 8 [R h1,B 23 hdT,C h2,B 16 hn,.ok 22 _ ha]).map lftL=some (rgtL .normal itL0 (iH 7 s z2 (tr++[[.int .i64 k,.str t,.int .i64 z1,.int .i64 z2]])) 8 (itT 7 s z tr 8 [R h1,B 23 hdT,C h2,B 16 hn,.ok 22 _ ha])):=by kernel_rfl
def g3 (h1:E 170 [.op 0 0,nI z,nU 1] (LO s z) (nI z1) ((LO s z).map some)) (hdT:(z1 == (s.length:Int))=true) :
 (itT 7 s z tr 8 [R h1,B 23 hdT]).map lftL=some (rgtL .ret [] (iH 7 s z1 tr) 8 (itT 7 s z tr 8 [R h1,B 23 hdT])):=by kernel_rfl
end
def rnds {s:List UInt8}:∀ {r:List Tk}{z z':Int}{d:List Tk},Chn s z r z'->d.length+r.length<8000->ItL s itL0 (iH 7 s z (d.map Tk.enc)) 8 (iH 7 s z' ((d++r).map Tk.enc)) 8
 | [],z,z',d,.nil h1 hdT,_=>by
  rw[bs];exact zKK tokW mixed zXL (g3 h1 hdT) (fun h=>by cases h)
 | (k,t,z1,z2)::r,z,z',d,.cons h1 hdT h2 hr,hl=>by
  simp only[ah]at hl;have:=rnds (d:=d++[(k,t,z1,z2)]) hr (by simp only[am,ah,an]; omega);rw[bn,aX]at this;exact zMU tokW mixed zXL (g2 h1 hdT h2 (by rw[az,aw]; omega) (by rw[az]; simp only[zDE,af]; exact⟨Nat.ble_eq_true_of_le (by omega),Nat.ble_eq_true_of_le (by omega)⟩)) this
variable {s:List UInt8}
def yCJ:∀ {tk:List Tk}{z z':Int},Chn s z tk z'->tk.length<8000->ItL s itL0 (tH s z []) 7 (bif tk.isEmpty then tH s z' [] else iH 7 s z' (tk.map Tk.enc)) (bif tk.isEmpty then 7 else 8)
 | [],_,_,.nil h1 hdT,_=>zKK tokW mixed zXL (g0 h1 hdT) (fun h=>by cases h)
 | (k,t,z1,z2)::r,_,_,.cons h1 hdT h2 hr,hl=>zMU tokW mixed zXL (g1 h1 hdT h2) (rnds (d:=[(k,t,z1,z2)]) hr (by simp only[ah,an]at hl ⊢; omega))
noncomputable def bkT (H:List (Nat×Ob)) (n:Nat) (fs:List Fc):=zWq TW cF fiT.M fiT.fn.ntmps fiT.fn.results.toList cY tL0 H n fs
def b0 (s:List UInt8) (z:Int):((bkT (tH s z []) 7 []).map fun q=>(U.a q.1::q.2.1.map (·.1),q.2.2.isEmpty))=some (U.a (.tup [nL [],nI 0,nI 0])::(match bkT (tH s z []) 7 [] with | some q=>q.2.1.map (·.2) | none=>[]),true):=by kernel_rfl
def b1 (s:List UInt8) (z:Int) (tr:List (List S)):((bkT (iH 7 s z tr) 8 []).map fun q=>(U.a q.1::q.2.1.map (·.1),q.2.2.isEmpty))=some (U.a (.tup [nL tr,nI 0,nI 0])::(match bkT (iH 7 s z tr) 8 [] with | some q=>q.2.1.map (·.2) | none=>[]),true):=by kernel_rfl
def yBY {tk:List Tk}{z':Int} (h:Chn s 0 tk z') (hl:tk.length<8000):E 69 [nS s] [] (.tup [nL (tk.map Tk.enc),nI 0,nI 0]) []:=by
 obtain⟨us,fs',h1,h2⟩:=yDB s;have hr:=yCJ h hl;have hb:∃ us fs,zWq TW cF fiT.M fiT.fn.ntmps fiT.fn.results.toList cY tL0 (bif tk.isEmpty then tH s z' [] else iH 7 s z' (tk.map Tk.enc)) (bif tk.isEmpty then 7 else 8) []=some (.tup [nL (tk.map Tk.enc),nI 0,nI 0],us,fs)/\Us.ok us:=by
  cases tk with
  | nil=>exact zMQ (b0 s z')
  | cons a r=>exact zMQ (b1 s z' _)
 obtain⟨us2,fs2,h3,h4⟩:=hb;exact zPY tokW mixed zXL (zQc 69 fiT yDz) rfl (aj (by kernel_rfl)) yED h1 h2 ⟨rfl,rfl,rfl,rfl,rfl,trivial⟩ (fid:=169) (caps:=[.op 5 0]) rfl (zQc 169 fiI yDy) (icode:=.block 0 (.loop cX)) (by kernel_rfl) (by kernel_rfl) (aj (by kernel_rfl)) (p:=[13]) (fun q hq=>by rw[aD.1 hq]; exact aj (by kernel_rfl)) (by kernel_rfl)
  (zSQ (fun c _=>Le.fewer (V:=⟨fun t=>(AV.mref 6::[.op 5 0]).getD t .junk,ofH (tH s 0 []),7⟩) itL0 (ofH (tH s 0 [])) ⟨rfl,rfl,trivial⟩ fun _ _ h=>h) rfl hr) h3 h4
end
abbrev FL (ks:List Nd) (z:Int):Fn:=fun p tr x p' tr' x'=>PrL ks z p tr x p' tr' x'
def zD2 (v:Nd) (l:List Tkn):Prop:=∀ ks z vs l2,Nx ks z (v::vs)->Acc (FL ks (wz z)) l2->Acc (FL ks z) (l++l2)
section
variable {t:List UInt8} {v0 v1 v2:List Nd} {l0 l1 l2:List Tkn}
def st_1 (hl:t.length=1):zD2 (.mk 2 t 0 []) [(1,t)]:=fun ks z vs l2 h ih=>by
 have h7:((t.length:Int) == 1)=true :=(by simp[hl]);refine((zFD (t:=(1,t)) (yA9 (.inl rfl))).sq ih).mono ?_;rintro p tr x p' tr' x' hp hp' ⟨p1,tr1,x1,-,-,k,⟨rfl,e1⟩,e2⟩;obtain rfl:=k rfl;rcases hp with rfl | rfl <;> exact lp (stF h++[B 7 h7,C e1,zB7 39 0 3 _ _ _ _ _ _ _ _ rfl e2]) (by kernel_rfl)
def st_4 (hl:2<=t.length) (hm:t.length<=1000):zD2 (.mk 2 t 0 []) [(4,t)]:=fun ks z vs l2 h ih=>by
 have h7:((t.length:Int) == 1)=false :=(by rw[aw]; omega);refine((zFD (t:=(4,t)) (zXc hm)).sq ih).mono ?_;rintro p tr x p' tr' x' hp hp' ⟨p1,tr1,x1,-,-,k,⟨rfl,e1⟩,e2⟩;obtain rfl:=k rfl;rcases hp with rfl | rfl <;> exact lp (stF h++[B 7 h7,C e1,zB7 39 0 3 _ _ _ _ _ _ _ _ rfl e2]) (by kernel_rfl)
def st_2:zD2 (.mk 3 t 0 []) [(2,t)]:=fun ks z vs l2 h ih=>by
 refine((zFD (t:=(2,t)) (yA9 (.inr (.inl rfl)))).sq ih).mono ?_;rintro p tr x p' tr' x' hp hp' ⟨p1,tr1,x1,-,-,k,⟨rfl,e1⟩,e2⟩;obtain rfl:=k rfl;rcases hp with rfl | rfl <;> exact lp (stF h++[C e1,zB7 39 0 3 _ _ _ _ _ _ _ _ rfl e2]) (by kernel_rfl)
def st_3 (hm:t.length<=1000):zD2 (.mk 4 t 0 []) [(3,t)]:=fun ks z vs l2 h ih=>by
 refine((zFD (t:=(3,t)) (yEQ hm)).sq ih).mono ?_;rintro p tr x p' tr' x' hp hp' ⟨p1,tr1,x1,-,-,k,⟨rfl,e1⟩,e2⟩;obtain rfl:=k rfl;rcases hp with rfl | rfl <;> exact lp (stF h++[C e1,zB7 39 0 3 _ _ _ _ _ _ _ _ rfl e2]) (by kernel_rfl)
def yCS (h0:Acc (F164 v0) l0) (h1:Acc (F164 v1) l1):zD2 (.mk 5 [] 0 [.mk 1 [] 0 v0,.mk 1 [] 0 v1]) ((4,kF)::(l0++l1)):=fun ks z vs l2 h ih=>by
 rw[bj,aX];refine((zFD (t:=(4,kF)) (zXc (by decide))).sq (h0.sq (h1.sq ih))).mono ?_;rintro p tr x p' tr' x' hp hp' ⟨p1,tr1,x1,-,-,-,⟨rfl,e1⟩,p2,tr2,x2,-,k2,-,e2,p3,tr3,x3,-,k3,k,e3,e4⟩;obtain rfl:=k2 rfl;obtain rfl:=k3 rfl;obtain rfl:=k rfl;rcases hp with rfl | rfl <;> exact lp (stF h++[C e1,C e2,C e3,zB7 39 0 3 _ _ _ _ _ _ _ _ rfl e4]) (by kernel_rfl)
def yBa (h1:Acc (F164 v1) l1):zD2 (.mk 6 [] 0 [.mk 1 [] 0 [],.mk 1 [] 0 v1]) ((4,kR)::l1):=fun ks z vs l2 h ih=>by
 rw[bj];refine((zFD (t:=(4,kR)) (zXc (by decide))).sq (h1.sq ih)).mono ?_;rintro p tr x p' tr' x' hp hp' ⟨p1,tr1,x1,-,-,-,⟨rfl,e1⟩,p2,tr2,x2,-,k2,k,e2,e3⟩;obtain rfl:=k2 rfl;obtain rfl:=k rfl;rcases hp with rfl | rfl <;> exact lp (stF h++[C e1,C e2,zB7 39 0 3 _ _ _ _ _ _ _ _ rfl e3]) (by kernel_rfl)
def yCT (hn:v0 ≠ []) (h0:Acc (F39 v0) l0) (h1:Acc (F164 v1) l1):zD2 (.mk 6 [] 0 [.mk 1 [] 0 v0,.mk 1 [] 0 v1]) ((4,kR)::mk1 91::(l0++mk1 93::l1)):=fun ks z vs l2 h ih=>by
 have f1:decide ((0:Int)<((Nd.encs v0).length:Int))=true:=by
  rw[zHx];have:=List.length_pos_iff.2 hn;exact aP (by omega)
 have e:((4,kR)::mk1 91::(l0++mk1 93::l1))++l2=[(4,kR)]++([mk1 91]++(l0++([mk1 93]++(l1++l2)))) :=(by simp);rw[e];refine((zFD (t:=(4,kR)) (zXc (by decide))).sq ((zEC 91).sq (h0.sq ((zEC 93).sq (h1.sq ih))))).mono ?_;rintro p tr x p' tr' x' hp hp' ⟨p1,tr1,x1,-,-,-,⟨rfl,e1⟩,p2,tr2,x2,-,-,-,⟨rfl,e2⟩,p3,tr3,x3,-,k3,-,e3,p4,tr4,x4,-,-,-,⟨rfl,e4⟩,p5,tr5,x5,-,k5,k,e5,e6⟩;obtain rfl:=k3 rfl;obtain rfl:=k5 rfl;obtain rfl:=k rfl;rcases hp with rfl | rfl <;> exact lp (stF h++[C e1,B 12 f1,C e2,C e3,C e4,C e5,zB7 39 0 3 _ _ _ _ _ _ _ _ rfl e6]) (by kernel_rfl)
def yEg (hm:t.length<=1000) (h0:Acc (F164 v0) l0):zD2 (.mk 10 t 0 [.mk 1 [] 0 v0]) ((4,t)::l0):=fun ks z vs l2 h ih=>by
 rw[bj];refine((zFD (t:=(4,t)) (zXc hm)).sq (h0.sq ih)).mono ?_;rintro p tr x p' tr' x' hp hp' ⟨p1,tr1,x1,-,-,-,⟨rfl,e1⟩,p2,tr2,x2,-,k2,k,e2,e3⟩;obtain rfl:=k2 rfl;obtain rfl:=k rfl;rcases hp with rfl | rfl <;> exact lp (stF h++[C e1,C e2,zB7 39 0 3 _ _ _ _ _ _ _ _ rfl e3]) (by kernel_rfl)
def yEh (n1:t ≠ [40,41]) (n2:t ≠ [91,93]) (hm:t.length<=1000) (h0:Acc (F164 v0) l0):zD2 (.mk 11 t 0 [.mk 1 [] 0 v0]) ((5,t)::l0):=fun ks z vs l2 h ih=>by
 have f1:(t == [40,41])=false :=(by simpa using n1);have f2:(t == [91,93])=false :=(by simpa using n2);rw[bj];refine((zFD (t:=(5,t)) (yER hm)).sq (h0.sq ih)).mono ?_;rintro p tr x p' tr' x' hp hp' ⟨p1,tr1,x1,-,-,-,⟨rfl,e1⟩,p2,tr2,x2,-,k2,k,e2,e3⟩;obtain rfl:=k2 rfl;obtain rfl:=k rfl;rcases hp with rfl | rfl <;> exact lp (stF h++[B 6 f1,B 10 f2,C e1,C e2,zB7 39 0 3 _ _ _ _ _ _ _ _ rfl e3]) (by kernel_rfl)
def yEj (h0:Acc (F39 v0) l0):zD2 (.mk 11 [40,41] 0 [.mk 1 [] 0 v0]) (mk1 40::(l0++[mk1 41])):=fun ks z vs l2 h ih=>by
 rw[bj,aX];refine((zEC 40).sq (h0.sq ((zEC 41).sq ih))).mono ?_;rintro p tr x p' tr' x' hp hp' ⟨p1,tr1,x1,-,-,-,⟨rfl,e1⟩,p2,tr2,x2,-,k2,-,e2,p3,tr3,x3,-,-,k,⟨rfl,e3⟩,e4⟩;obtain rfl:=k2 rfl;obtain rfl:=k rfl;rcases hp with rfl | rfl <;> exact lp (stF h++[C e1,C e2,C e3,zB7 39 0 3 _ _ _ _ _ _ _ _ rfl e4]) (by kernel_rfl)
def yES (h0:Acc (F39 v0) l0):zD2 (.mk 11 [91,93] 0 [.mk 1 [] 0 v0]) (mk1 91::(l0++[mk1 93])):=fun ks z vs l2 h ih=>by
 rw[bj,aX];refine((zEC 91).sq (h0.sq ((zEC 93).sq ih))).mono ?_;rintro p tr x p' tr' x' hp hp' ⟨p1,tr1,x1,-,-,-,⟨rfl,e1⟩,p2,tr2,x2,-,k2,-,e2,p3,tr3,x3,-,-,k,⟨rfl,e3⟩,e4⟩;obtain rfl:=k2 rfl;obtain rfl:=k rfl;rcases hp with rfl | rfl <;> exact lp (stF h++[C e1,C e2,C e3,zB7 39 0 3 _ _ _ _ _ _ _ _ rfl e4]) (by kernel_rfl)
end
section
variable {v0 v1 v2:List Nd} {l0 l1 l2:List Tkn}
def yEk (h0:Acc (F39 v0) l0) (h1:Acc (F164 v1) l1):zD2 (.mk 7 [] 0 [.mk 1 [] 0 v0,.mk 1 [] 0 v1]) (basT v0 l0++mk1 95::l1):=fun ks z vs l3 h ih=>by
 have e:(basT v0 l0++mk1 95::l1)++l3=basT v0 l0++([mk1 95]++(l1++l3)) :=(by simp);rw[e];cases e:scrI v0 with
 | false =>
  unfold basT;rw[e];match v0,e with
  | [.mk q t c vs],e =>
   have hk:((q == 7)=false/\(q == 8)=false)/\(q == 9)=false :=(by simpa [scrI,scr1] using e);refine(h0.sq ((zEC 95).sq (h1.sq ih))).mono ?_;rintro p tr x p' tr' x' hp hp' ⟨p1,tr1,x1,hp1,-,-,e1,p2,tr2,x2,-,-,-,⟨rfl,e2⟩,p3,tr3,x3,-,k3,k,e3,e4⟩;obtain rfl:=k3 rfl;obtain rfl:=k rfl;rcases hp with rfl | rfl <;> rcases hp1 with rfl | rfl <;> exact lp (stF h++[.val 15 (nI 7) (nI 7) rfl,B 12 (rfl:true=true),B 5 hk.1.1,B 9 hk.1.2,B 14 hk.2,C e1,C e2,C e3,zB7 39 0 3 _ _ _ _ _ _ _ _ rfl e4]) (by kernel_rfl)
 | true=>
 unfold basT;rw[e];refine((zVu h0).sq ((zEC 95).sq (h1.sq ih))).mono ?_;rintro p tr x p' tr' x' hp hp' ⟨p1,tr1,x1,hp1,-,-,e1,p2,tr2,x2,-,-,-,⟨rfl,e2⟩,p3,tr3,x3,-,k3,k,e3,e4⟩;obtain rfl:=k3 rfl;obtain rfl:=k rfl;match v0,e with
 | [],_=>rcases hp with rfl | rfl <;> rcases hp1 with rfl | rfl <;> exact lp (stF h++[C e1,C e2,C e3,zB7 39 0 3 _ _ _ _ _ _ _ _ rfl e4]) (by kernel_rfl)
 | [.mk q t c vs],e=>have hk:(q=7∨q=8)∨q=9 :=(by simpa [scrI,scr1] using e);rcases hk with (rfl | rfl) | rfl <;> rcases hp with rfl | rfl <;> rcases hp1 with rfl | rfl <;> exact lp (stF h++[C e1,C e2,C e3,zB7 39 0 3 _ _ _ _ _ _ _ _ rfl e4]) (by kernel_rfl)
 | v::w::r,_=>have hn:(((Nd.encs (v::w::r)).length:Int) == 1)=false :=(by rw[zHx]; simp only[ah,aw]; omega);rcases hp with rfl | rfl <;> rcases hp1 with rfl | rfl <;> exact lp (stF h++[.val 15 (nI 7) (nI 7) rfl,B 12 hn,C e1,C e2,C e3,zB7 39 0 3 _ _ _ _ _ _ _ _ rfl e4]) (by kernel_rfl)
def yEl (h0:Acc (F39 v0) l0) (h1:Acc (F164 v1) l1):zD2 (.mk 8 [] 0 [.mk 1 [] 0 v0,.mk 1 [] 0 v1]) (basT v0 l0++mk1 94::l1):=fun ks z vs l3 h ih=>by
 have e:(basT v0 l0++mk1 94::l1)++l3=basT v0 l0++([mk1 94]++(l1++l3)) :=(by simp);rw[e];cases e:scrI v0 with
 | false =>
  unfold basT;rw[e];match v0,e with
  | [.mk q t c vs],e =>
   have hk:((q == 7)=false/\(q == 8)=false)/\(q == 9)=false :=(by simpa [scrI,scr1] using e);refine(h0.sq ((zEC 94).sq (h1.sq ih))).mono ?_;rintro p tr x p' tr' x' hp hp' ⟨p1,tr1,x1,hp1,-,-,e1,p2,tr2,x2,-,-,-,⟨rfl,e2⟩,p3,tr3,x3,-,k3,k,e3,e4⟩;obtain rfl:=k3 rfl;obtain rfl:=k rfl;rcases hp with rfl | rfl <;> rcases hp1 with rfl | rfl <;> exact lp (stF h++[.val 15 (nI 8) (nI 8) rfl,B 12 (rfl:true=true),B 5 hk.1.1,B 9 hk.1.2,B 14 hk.2,C e1,C e2,C e3,zB7 39 0 3 _ _ _ _ _ _ _ _ rfl e4]) (by kernel_rfl)
 | true=>
 unfold basT;rw[e];refine((zVu h0).sq ((zEC 94).sq (h1.sq ih))).mono ?_;rintro p tr x p' tr' x' hp hp' ⟨p1,tr1,x1,hp1,-,-,e1,p2,tr2,x2,-,-,-,⟨rfl,e2⟩,p3,tr3,x3,-,k3,k,e3,e4⟩;obtain rfl:=k3 rfl;obtain rfl:=k rfl;match v0,e with
 | [],_=>rcases hp with rfl | rfl <;> rcases hp1 with rfl | rfl <;> exact lp (stF h++[C e1,C e2,C e3,zB7 39 0 3 _ _ _ _ _ _ _ _ rfl e4]) (by kernel_rfl)
 | [.mk q t c vs],e=>have hk:(q=7∨q=8)∨q=9 :=(by simpa [scrI,scr1] using e);rcases hk with (rfl | rfl) | rfl <;> rcases hp with rfl | rfl <;> rcases hp1 with rfl | rfl <;> exact lp (stF h++[C e1,C e2,C e3,zB7 39 0 3 _ _ _ _ _ _ _ _ rfl e4]) (by kernel_rfl)
 | v::w::r,_=>have hn:(((Nd.encs (v::w::r)).length:Int) == 1)=false :=(by rw[zHx]; simp only[ah,aw]; omega);rcases hp with rfl | rfl <;> rcases hp1 with rfl | rfl <;> exact lp (stF h++[.val 15 (nI 8) (nI 8) rfl,B 12 hn,C e1,C e2,C e3,zB7 39 0 3 _ _ _ _ _ _ _ _ rfl e4]) (by kernel_rfl)
def yCR (h0:Acc (F39 v0) l0) (h1:Acc (F164 v1) l1) (h2:Acc (F164 v2) l2):zD2 (.mk 9 [] 0 [.mk 1 [] 0 v0,.mk 1 [] 0 v1,.mk 1 [] 0 v2]) (basT v0 l0++mk1 95::(l1++mk1 94::l2)):=fun ks z vs l3 h ih=>by
 have e:(basT v0 l0++mk1 95::(l1++mk1 94::l2))++l3=basT v0 l0++([mk1 95]++(l1++([mk1 94]++(l2++l3)))) :=(by simp);rw[e];cases e:scrI v0 with
 | false =>
  unfold basT;rw[e];match v0,e with
  | [.mk q t c vs],e =>
   have hk:((q == 7)=false/\(q == 8)=false)/\(q == 9)=false :=(by simpa [scrI,scr1] using e);refine(h0.sq ((zEC 95).sq (h1.sq ((zEC 94).sq (h2.sq ih))))).mono ?_;rintro p tr x p' tr' x' hp hp' ⟨p1,tr1,x1,hp1,-,-,e1,p2,tr2,x2,-,-,-,⟨rfl,e2⟩,p3,tr3,x3,-,k3,-,e3,p4,tr4,x4,-,-,-,⟨rfl,e4⟩,p5,tr5,x5,-,k5,k,e5,e6⟩;obtain rfl:=k3 rfl;obtain rfl:=k5 rfl;obtain rfl:=k rfl;rcases hp with rfl | rfl <;> rcases hp1 with rfl | rfl <;> exact lp (stF h++[.val 15 (nI 9) (nI 9) rfl,B 12 (rfl:true=true),B 5 hk.1.1,B 9 hk.1.2,B 14 hk.2,C e1,C e2,C e3,C e4,C e5,zB7 39 0 3 _ _ _ _ _ _ _ _ rfl e6]) (by kernel_rfl)
 | true=>
 unfold basT;rw[e];refine((zVu h0).sq ((zEC 95).sq (h1.sq ((zEC 94).sq (h2.sq ih))))).mono ?_;rintro p tr x p' tr' x' hp hp' ⟨p1,tr1,x1,hp1,-,-,e1,p2,tr2,x2,-,-,-,⟨rfl,e2⟩,p3,tr3,x3,-,k3,-,e3,p4,tr4,x4,-,-,-,⟨rfl,e4⟩,p5,tr5,x5,-,k5,k,e5,e6⟩;obtain rfl:=k3 rfl;obtain rfl:=k5 rfl;obtain rfl:=k rfl;match v0,e with
 | [],_=>rcases hp with rfl | rfl <;> rcases hp1 with rfl | rfl <;> exact lp (stF h++[C e1,C e2,C e3,C e4,C e5,zB7 39 0 3 _ _ _ _ _ _ _ _ rfl e6]) (by kernel_rfl)
 | [.mk q t c vs],e=>have hk:(q=7∨q=8)∨q=9 :=(by simpa [scrI,scr1] using e);rcases hk with (rfl | rfl) | rfl <;> rcases hp with rfl | rfl <;> rcases hp1 with rfl | rfl <;> exact lp (stF h++[C e1,C e2,C e3,C e4,C e5,zB7 39 0 3 _ _ _ _ _ _ _ _ rfl e6]) (by kernel_rfl)
 | v::w::r,_=>have hn:(((Nd.encs (v::w::r)).length:Int) == 1)=false :=(by rw[zHx]; simp only[ah,aw]; omega);rcases hp with rfl | rfl <;> rcases hp1 with rfl | rfl <;> exact lp (stF h++[.val 15 (nI 9) (nI 9) rfl,B 12 hn,C e1,C e2,C e3,C e4,C e5,zB7 39 0 3 _ _ _ _ _ _ _ _ rfl e6]) (by kernel_rfl)
end
section
variable {ks vs:List Nd} {z c m:Int} {v:Nd} {v2:List Nd} {tr tr1 tr':List (List S)} {x x1 x':List UInt8}
abbrev PmL (ks:List Nd) (c z:Int):Fn:=fun p tr x p' tr' x' =>
 p = .op 0 1->p' = .op 0 1/\LP 122 0 3 [(0,.op 0 0),(3,.op 5 0),(11,nL (Nd.encs ks)),(12,nI ((Nd.encs ks).length:Int)),(13,nI z)] (rwH (.op 0 1) tr x++[(5,.box 24 [nI 12,nS [],nI c,nL (Nd.encs ks)])]) 6 (.exit 0) [(0,.op 0 0)] (rwH (.op 0 1) tr' x') 5
def yDZ (h:Nx ks z []):Acc (PmL ks c z) []:=fun lt tr x hl ht hx=>⟨tr,hl,rfl,fun e=>⟨e,by
 rw[show x++outF lt []=x from bs x]
 exact lp [.go,B 14 h.done] (by kernel_rfl)⟩⟩
variable {l l2:List Tkn}
def yAA  (h:Nx ks 0 (.mk 1 [] 0 vs::v2)) (h0:Acc (F39 vs) l) (ih:Acc (PmL ks c (wz 0)) l2):Acc (PmL ks c 0) (l++l2):=by
 refine(h0.sq ih).mono ?_;rintro p tr x p' tr' x' hp hp' ⟨p1,tr1,x1,-,k1,-,e1,e2⟩ rfl;obtain rfl:=k1 rfl;obtain⟨rfl,e3⟩:=e2 rfl;exact⟨rfl,lp [.go,B 14 h.lt,.ok 16 _ h.ok,.val 16 _ _ h.get,C e1,zB7 122 0 3 _ _ _ _ _ _ _ _ rfl e3] (by kernel_rfl)⟩
def yDY  (hz:(z == 0)=false) (hc:(c != 0)=true) (hm:z.tmod c=0) (h:Nx ks z (.mk 1 [] 0 vs::v2)) (h0:Acc (F39 vs) l) (ih:Acc (PmL ks c (wz z)) l2):Acc (PmL ks c z) ((8,[92,92])::(l++l2)):=by
 refine((zFD (t:=(8,[92,92])) (yA9 (.inr (.inr (.inr rfl))))).sq (h0.sq ih)).mono ?_;rintro p tr x p' tr' x' hp hp' ⟨p1,tr1,x1,-,-,-,⟨rfl,e0⟩,p2,tr2,x2,-,k1,-,e1,e2⟩ rfl;obtain rfl:=k1 rfl;obtain⟨rfl,e3⟩:=e2 rfl;exact⟨rfl,lp [.go,B 14 h.lt,.ok 16 _ h.ok,.val 16 _ _ h.get,B 22 hz,.ok 27 _ hc,.val 27 _ (nI 0) (congrArg nI hm),C e0,C e1,zB7 122 0 3 _ _ _ _ _ _ _ _ rfl e3] (by kernel_rfl)⟩
def yDX  (hz:(z == 0)=false) (hc:(c != 0)=true) (hm:z.tmod c=m) (hm0:(m == 0)=false) (h:Nx ks z (.mk 1 [] 0 vs::v2)) (h0:Acc (F39 vs) l) (ih:Acc (PmL ks c (wz z)) l2):Acc (PmL ks c z) (mk1 38::(l++l2)):=by
 refine((zEC 38).sq (h0.sq ih)).mono ?_;rintro p tr x p' tr' x' hp hp' ⟨p1,tr1,x1,-,-,-,⟨rfl,e0⟩,p2,tr2,x2,-,k1,-,e1,e2⟩ rfl;obtain rfl:=k1 rfl;obtain⟨rfl,e3⟩:=e2 rfl;exact⟨rfl,lp [.go,B 14 h.lt,.ok 16 _ h.ok,.val 16 _ _ h.get,B 22 hz,.ok 27 _ hc,.val 27 _ (nI m) (congrArg nI hm),B 28 hm0,C e0,C e1,zB7 122 0 3 _ _ _ _ _ _ _ _ rfl e3] (by kernel_rfl)⟩
def yBG {cn:Nat} (hc:1<=cn):∀ (vss:List (List Nd)) (ls:List (List Tkn)) (i:Nat),vss.length=ls.length->(∀ p∈vss.zip ls,Acc (F39 p.1) p.2)->Nx ks (i:Int) (vss.map fun vs=>Nd.mk 1 [] 0 vs)->Acc (PmL ks (cn:Int) (i:Int)) (zFm (cn:Int) i ls)
 | [],[],i,_,_,h=>yDZ h
 | vs::vss,l::ls,i,hl,ha,h=>by
  have hn:wz (i:Int)=((i+1:Nat):Int):=by
   have:=aY h.lt;rw[zHx]at this;exact zAG (by have:=h.1; omega)
  have hi:i<=100000 :=(by have:=h.1; have:=h.2.2.1; omega);have ih:=yBG hc vss ls (i+1) (by simpa using hl) (fun p hp=>ha p (aG _ hp)) (by rw[← hn]; exact h.next);rw[← hn]at ih;have h0:=ha (vs,l) (by simp);unfold zFm sepT;by_cases e0:i=0
  ·subst e0;rw[if_pos rfl];exact yAA (l:=l) h h0 ih
  rw[if_neg e0];have hz:((i:Int) == 0)=false :=(by rw[aw]; omega);have hc':((cn:Int) != 0)=true:=by rw[bne_iff_ne]; omega
  by_cases e1:(i:Int).tmod (cn:Int)=0
  ·rw[if_pos e1];exact yDY (l:=l) hz hc' e1 h h0 ih
  rw[if_neg e1];exact yDX (l:=l) hz hc' rfl (by rw[aw]; exact e1) h h0 ih
abbrev F122 (c:Int) (ks:List Nd):Fn:=fun p tr x p' tr' x'=>p' = .op 0 1/\E 122 [.op 0 0,.agg [nI 12,nS [],nI c,nL (Nd.encs ks)]] (PS p tr x) (.tup []) (PU (.op 0 1) tr' x')
def mat_  (h:Acc (PmL ks c 0) l):Acc (F122 c ks) ((4,kM)::mk1 123::(l++[mk1 125])):=by
 refine((zFD (t:=(4,kM)) (zXc (by decide))).sq ((zEC 123).sq (h.sq (zEC 125)))).mono ?_;rintro p tr x p' tr' x' hp hp' ⟨p1,tr1,x1,-,-,-,⟨rfl,e1⟩,p2,tr2,x2,-,-,-,⟨rfl,e2⟩,p3,tr3,x3,-,-,-,e3,rfl,e4⟩;obtain⟨rfl,e5⟩:=e3 rfl;refine⟨rfl,?_⟩;rcases hp with rfl | rfl <;> exact ev [C e1,C e2,zB7 122 0 3 _ _ _ _ _ _ _ _ rfl e5,C e4] (by kernel_rfl)
def yEi  (h:Acc (F122 c ks) l):zD2 (.mk 12 [] c ks) l:=fun ks z vs l2 hn ih=>by
 refine(h.sq ih).mono ?_;rintro p tr x p' tr' x' hp hp' ⟨p1,tr1,x1,-,-,k,⟨rfl,e1⟩,e2⟩;obtain rfl:=k rfl;rcases hp with rfl | rfl <;> exact lp (stF hn++[C e1,zB7 39 0 3 _ _ _ _ _ _ _ _ rfl e2]) (by kernel_rfl)
def yD0 {p:AV} (hp:hpP p) (h:Nx ks z []):PrL ks z p tr x p tr x:=by
 rcases hp with rfl | rfl <;> exact lp [.go,B 10 h.done] (by kernel_rfl)
def zTv {ks:List Nd} (hk:ks.length<=100000):∀ (vs:List Nd) (z:Int),(∀ v∈vs,zD2 v (tI v))->Nx ks z vs->Acc (FL ks z) (tL vs)
 | [],z,_,h=>fun lt tr x hl ht hx=>⟨tr,hl,rfl,by rw[show x++outF lt (tL [])=x from bs x]; exact yD0 (zTo lt) h⟩
 | v::vs,z,hv,h=>hv v ak ks z vs (tL vs) h (zTv hk vs (wz z) (fun w hw=>hv w (aG _ hw)) h.next)
def yBJ (hk:ks.length<=100000) (hv:∀ v∈ks,zD2 v (tI v)):Acc (F39 ks) (tL ks):=by
 refine(zTv hk ks 0 hv ⟨hk,Int.le_refl _,by omega,rfl⟩).mono fun p tr x p' tr' x' hp hp' h=>?_
 rcases hp with rfl | rfl <;> rcases hp' with rfl | rfl <;> exact ev [.mv 1,.mv 2,zB7 39 0 3 _ _ _ _ _ _ _ _ rfl h] (by kernel_rfl)
end
section
variable {tk:List Tk} {en z:Int} {ro:List (List S)} {ts l:List Tkn} {vs:List Nd}
def zJd (d:Nat) (vs:List Nd) (l:List Tkn):Prop:=∀ (tk:List Tk) (en z:Int) (ro:List (List S)) (ts:List Tkn),ro.length+d<=100000->Rs tk z (l++ts)->zK8 (hdT ts)=true->(decide ((hdT ts).1=0)=true->ro=[]) ->
 ∃ z',Rs tk z' ts/\E 71 [.op 0 0] (PO tk en z ro) (.tup [nL (Nd.encs vs),fl0]) (PT tk en z' ro)
variable {d:Nat}
theorem zIh  (hr:zJd d vs l){o:Tkn}{c:UInt8} (hc:zK8 (mk1 c)=true) (hdT':ro.length+d+1<=100000) (h:Rs tk z (o::(l++mk1 c::ts))) :
  ∃ z',Rs tk z' ts/\E 173 [.op 0 0,nS [c]] (PO tk en z ro) (.tup [nL (Nd.encs vs),fl0]) (PT tk en z' ro):=by
 obtain⟨a,b,h1⟩:=zCU (en:=en) (ro:=ro) h;obtain⟨z1,h2,h3⟩:=hr tk en (wz z) (ro++[[.int .i64 a]]) (mk1 c::ts) (by simp; omega) h.next hc (fun h=>by cases h);refine⟨_,h2.next,?_⟩;have hl:(ro++[[S.int .i64 a]]).length=ro.length+1 :=(by simp);have:=ev (g:=173) (xs:=[.op 0 0,nS [c]]) (os:=PO tk en z ro) (x:=.tup [nL (Nd.encs vs),fl0]) (os':=PT tk en (wz z1) ((ro++[[S.int .i64 a]]).take ro.length)) [R h1,.ok 11 _ (zCM (n:=ro.length) (m:=1) (k:=8) (by omega) (by omega)),C h3,R (at_ en (ro++[[.int .i64 a]]) h2 [c]),B 7 (show isM (mk1 c) [c]=true by simp[isM,mk1]),
  .val 21 (nI (i64.wrap (((ro++[[S.int .i64 a]]).length:Int) - 1))) (nI (ro.length:Int)) (by rw[hl,wrap64_in (by omega) (by omega)]; congr 3; omega),.ok 22 (okSl (ro++[[S.int .i64 a]]).length none (some (nI (ro.length:Int)))) (by simp[okSl,bnd]; omega)] (by kernel_rfl)
 rwa [take_left]at this
theorem yDg  (hr:zJd d vs l) (hdT':ro.length+d+1<=100000) (h:Rs tk z (mk1 123::(l++mk1 125::ts))) :
  ∃ z',Rs tk z' ts/\E 214 [.op 0 0] (PO tk en z ro) (.tup [.agg [nI 1,nS [],nI 0,nL (Nd.encs vs)],fl0]) (PT tk en z' ro):=by
 obtain⟨a,b,h1⟩:=zCU (en:=en) (ro:=ro) h;obtain⟨z1,h2,h3⟩:=zIh (en:=en) hr (c:=125) rfl hdT' h;exact⟨z1,h2,ev [R h1,R h1,R (at_ en ro h [123]),C h3] (by kernel_rfl)⟩
variable {s:List UInt8}
def kN {P:Prop} (h:P:=by obtain⟨a,b,h1⟩:=zCU (en:=en) (ro:=ro) h;exact ev [.mv 1,R h1] (by kernel_rfl)):P:=h
theorem yEz  (h:Rs tk z ((1,s)::ts)):E 214 [.op 0 0] (PO tk en z ro) (.tup [.agg [nI 1,nS [],nI 0,nL (Nd.encs [.mk 2 s 0 []])],fl0]) (PT tk en (wz z) ro):=by
 exact kN
theorem yEA  (h:Rs tk z ((2,s)::ts)):E 214 [.op 0 0] (PO tk en z ro) (.tup [.agg [nI 1,nS [],nI 0,nL (Nd.encs [.mk 3 s 0 []])],fl0]) (PT tk en (wz z) ro):=by
 exact kN
theorem yEB  (h:Rs tk z ((3,s)::ts)):E 214 [.op 0 0] (PO tk en z ro) (.tup [.agg [nI 1,nS [],nI 0,nL (Nd.encs [.mk 4 s 0 []])],fl0]) (PT tk en (wz z) ro):=by
 exact kN
def yDL  (h:2<=s.length):decide ((s.length:Int)=1)=false:=aW (by omega)
theorem yEC  (hk:zFP s pK 0=none) (hn:2<=s.length) (h:Rs tk z ((4,s)::ts)):E 214 [.op 0 0] (PO tk en z ro) (.tup [.agg [nI 1,nS [],nI 0,nL (Nd.encs [.mk 2 s 0 []])],fl0]) (PT tk en (wz z) ro):=by
 obtain⟨a,b,h1⟩:=zCU (en:=en) (ro:=ro) h;exact ev [.mv 1,R h1,R h1,R (at_ en ro h [123]),.ix s pK none hk,.ix s pK none hk,B 49 (yDL hn)] (by kernel_rfl)
def zMv (d:Nat) (vs:List Nd) (l:List Tkn):Prop:=∀ (tk:List Tk) (en z:Int) (ro:List (List S)) (ts:List Tkn),ro.length+d+1<=100000->Rs tk z (l++ts) ->
 ∃ z',Rs tk z' ts/\E 214 [.op 0 0] (PO tk en z ro) (.tup [.agg [nI 1,nS [],nI 0,nL (Nd.encs vs)],fl0]) (PT tk en z' ro)
def zDZ (d:Nat) (vs:List Nd) (l:List Tkn):Prop:=∀ (tk:List Tk) (en z:Int) (ro:List (List S)) (ts:List Tkn),ro.length+d<=100000->Rs tk z (l++ts) ->
 ∃ z',Rs tk z' ts/\E 176 [.op 0 0] (PO tk en z ro) (.tup [nL (Nd.encs vs),fl0]) (PT tk en z' ro)
def zJ6 (d:Nat) (vs:List Nd) (l:List Tkn):Prop:=∀ (tk:List Tk) (en z:Int) (ro:List (List S)) (ts:List Tkn),ro.length+d<=100000->Rs tk z (l++ts)->isM (hdT ts) [95]=false->isM (hdT ts) [94]=false ->
 ∃ z',Rs tk z' ts/\E 131 [.op 0 0] (PO tk en z ro) (.tup [nL (Nd.encs vs),fl0]) (PT tk en z' ro)
def kB {P:Prop} (h:P:=by obtain⟨a,b,h1⟩:=zCU (en:=en) (ro:=ro) h;exact⟨_,h.next,ev [.mv 1,R h1] (by kernel_rfl)⟩):P:=h
theorem yD1:zDZ d [.mk 2 s 0 []] [(1,s)]:=fun tk en z ro ts hdT' h=>by
 exact kB
theorem yD2:zDZ d [.mk 3 s 0 []] [(2,s)]:=fun tk en z ro ts hdT' h=>by
 exact kB
theorem yD3:zDZ d [.mk 4 s 0 []] [(3,s)]:=fun tk en z ro ts hdT' h=>by
 exact kB
theorem yD4  (hk:zFP s pK 0=none) (hn:2<=s.length):zDZ d [.mk 2 s 0 []] [(4,s)]:=fun tk en z ro ts hdT' h=>by
 obtain⟨a,b,h1⟩:=zCU (en:=en) (ro:=ro) h;exact⟨_,h.next,ev [.mv 1,R h1,R h1,.ix s pK none hk,B 49 (yDL hn)] (by kernel_rfl)⟩
theorem yCB  (hr:zJd d vs l):zDZ (d+1) vs (brc l):=fun tk en z ro ts hdT' h=>by
 obtain⟨a,b,h1⟩:=zCU (en:=en) (ro:=ro) h;obtain⟨z1,h2,h3⟩:=zIh (en:=en) (ro:=ro) hr (c:=125) rfl hdT' (by simpa [brc] using h);exact⟨z1,h2,ev [R h1,R h1,R (at_ en ro h [40]),R (at_ en ro h [91]),R (at_ en ro h [123]),C h3] (by kernel_rfl)⟩
theorem zYE {v0 v1:List Nd}{l0 l1:List Tkn} (a0:zMv d v0 l0) (a1:zMv d v1 l1):zDZ (d+1) [.mk 5 [] 0 [.mk 1 [] 0 v0,.mk 1 [] 0 v1]] ((4,kF)::(l0++l1)):=fun tk en z ro ts hdT' h=>by
 obtain⟨a,b,h1⟩:=zCU (en:=en) (ro:=ro) h;obtain⟨z1,h2,h3⟩:=a0 tk en _ ro (l1++ts) (by omega) (by have:=h.next; simpa using this);obtain⟨z2,h4,h5⟩:=a1 tk en _ ro ts (by omega) h2;exact⟨z2,h4,ev [R h1,R h1,C h3,C h5] (by kernel_rfl)⟩
end
section
variable {l0:List Tkn}{v0:List Nd}{d:Nat}
def zYF {v1:List Nd}{l1:List Tkn} (r0:zJd d v0 l0) (h0:∀ ts,isM (hdT (l1++ts)) [91]=false) (a1:zMv d v1 l1):zDZ (d+1) [.mk 6 [] 0 [.mk 1 [] 0 v0,.mk 1 [] 0 v1]] ((4,kR)::((bif v0.isEmpty then [] else mk1 91::(l0++[mk1 93]))++l1)):=fun tk en z ro ts hdT' h=>by
 obtain⟨a,b,h1⟩:=zCU (en:=en) (ro:=ro) h;cases v0 with
 | nil=>have h2:Rs tk (wz z) (l1++ts):=h.next;obtain⟨z2,h5,h6⟩:=a1 tk en _ ro ts (by omega) h2;exact⟨z2,h5,ev [R h1,R h1,R (at_ en ro h2 [91]),B 14 (h0 ts),C h6] (by kernel_rfl)⟩
 | cons v vs=>have h2:Rs tk (wz z) (mk1 91::(l0++mk1 93::(l1++ts))) :=(by have:=h.next; simpa using this);obtain⟨z1,h3,h4⟩:=zIh (en:=en) (ro:=ro) r0 (c:=93) rfl hdT' h2;obtain⟨z2,h5,h6⟩:=a1 tk en _ ro ts (by omega) h3;exact⟨z2,h5,ev [R h1,R h1,R (at_ en ro h2 [91]),C h4,C h6] (by kernel_rfl)⟩
variable {s:List UInt8}
def yAD {i:Nat} (hk:zFP s pK 0=some (i+3)) (hi:i<6) (a0:zMv d v0 l0):zDZ (d+1) [.mk 10 s 0 [.mk 1 [] 0 v0]] ((4,s)::l0):=fun tk en z ro ts hdT' h=>by
 obtain⟨a,b,h1⟩:=zCU (en:=en) (ro:=ro) h;obtain⟨z1,h2,h3⟩:=a0 tk en _ ro ts (by omega) h.next;refine⟨z1,h2,?_⟩;rcases(by omega:i=0∨i=1∨i=2∨i=3∨i=4∨i=5) with rfl | rfl | rfl | rfl | rfl | rfl
 all_goals exact ev [R h1,R h1,.ix s pK (some _) hk,R h1,C h3] (by kernel_rfl)
def yAE  (a0:zMv d v0 l0):zDZ (d+1) [.mk 11 s 0 [.mk 1 [] 0 v0]] ((5,s)::l0):=fun tk en z ro ts hdT' h=>by
 obtain⟨a,b,h1⟩:=zCU (en:=en) (ro:=ro) h;obtain⟨z1,h2,h3⟩:=a0 tk en _ ro ts (by omega) h.next;exact⟨z1,h2,ev [R h1,R h1,C h3] (by kernel_rfl)⟩
def yAG  (r0:zJd d v0 l0):zDZ (d+1) [.mk 11 [40,41] 0 [.mk 1 [] 0 v0]] (mk1 40::(l0++[mk1 41])):=fun tk en z ro ts hdT' h=>by
 obtain⟨a,b,h1⟩:=zCU (en:=en) (ro:=ro) h;obtain⟨z1,h2,h3⟩:=zIh (en:=en) (ro:=ro) r0 (c:=41) rfl hdT' (by simpa using h);exact⟨z1,h2,ev [R h1,R h1,R (at_ en ro h [40]),C h3] (by kernel_rfl)⟩
def yCC  (r0:zJd d v0 l0):zDZ (d+1) [.mk 11 [91,93] 0 [.mk 1 [] 0 v0]] (mk1 91::(l0++[mk1 93])):=fun tk en z ro ts hdT' h=>by
 obtain⟨a,b,h1⟩:=zCU (en:=en) (ro:=ro) h;obtain⟨z1,h2,h3⟩:=zIh (en:=en) (ro:=ro) r0 (c:=93) rfl hdT' (by simpa using h);exact⟨z1,h2,ev [R h1,R h1,R (at_ en ro h [40]),R (at_ en ro h [91]),C h3] (by kernel_rfl)⟩
def zWH {vs:List Nd}{l:List Tkn} (p:zDZ d vs l) (hl:∀ ts,isM (hdT (l++ts)) [123]=false):zJ6 d vs l:=fun tk en z ro ts hdT' h n1 n2=>by
 obtain⟨z1,h2,h3⟩:=p tk en z ro ts hdT' h;exact⟨z1,h2,ev [R (at_ en ro h [123]),B 12 (hl ts),C h3,R (at_ en ro h2 [95]),B 9 n1,R (at_ en ro h2 [94]),B 9 n2] (by kernel_rfl)⟩
section
variable {d:Nat} {v0 v1 v2:List Nd} {l0 l1 l2:List Tkn}
def yAa (p:zDZ (d+1) v0 l0) (a1:zMv d v1 l1):zJ6 (d+1) [.mk 7 [] 0 [.mk 1 [] 0 v0,.mk 1 [] 0 v1]] (l0++mk1 95::l1):=fun tk en z ro ts hdT' h n1 n2=>by
 obtain⟨z1,h2,h3⟩:=p tk en z ro (mk1 95::(l1++ts)) hdT' (by simpa using h);obtain⟨z2,h4,h5⟩:=a1 tk en _ ro ts (by omega) h2.next;refine⟨z2,h4,?_⟩;cases e:isM (hdT ((l0++mk1 95::l1)++ts)) [123] <;>
 exact ev [R (at_ en ro h [123]),B 12 e,C h3,R (at_ en ro h2 [95]),C h5,R (at_ en ro h4 [94]),B 9 n2] (by kernel_rfl)
def yAb (p:zDZ (d+1) v0 l0) (a1:zMv d v1 l1):zJ6 (d+1) [.mk 8 [] 0 [.mk 1 [] 0 v0,.mk 1 [] 0 v1]] (l0++mk1 94::l1):=fun tk en z ro ts hdT' h n1 n2=>by
 obtain⟨z1,h2,h3⟩:=p tk en z ro (mk1 94::(l1++ts)) hdT' (by simpa using h);obtain⟨z2,h4,h5⟩:=a1 tk en _ ro ts (by omega) h2.next;refine⟨z2,h4,?_⟩;cases e:isM (hdT ((l0++mk1 94::l1)++ts)) [123] <;>
 exact ev [R (at_ en ro h [123]),B 12 e,C h3,R (at_ en ro h2 [95]),R (at_ en ro h2 [94]),C h5,R (at_ en ro h4 [95]),B 9 n1] (by kernel_rfl)
def zYa (p:zDZ (d+1) v0 l0) (a1:zMv d v1 l1) (a2:zMv d v2 l2):zJ6 (d+1) [.mk 9 [] 0 [.mk 1 [] 0 v0,.mk 1 [] 0 v1,.mk 1 [] 0 v2]] (l0++mk1 95::(l1++mk1 94::l2)):=fun tk en z ro ts hdT' h n1 n2=>by
 obtain⟨z1,h2,h3⟩:=p tk en z ro (mk1 95::(l1++mk1 94::(l2++ts))) hdT' (by simpa using h);obtain⟨z2,h4,h5⟩:=a1 tk en _ ro (mk1 94::(l2++ts)) (by omega) h2.next;obtain⟨z3,h6,h7⟩:=a2 tk en _ ro ts (by omega) h4.next;refine⟨z3,h6,?_⟩;cases e:isM (hdT ((l0++mk1 95::(l1++mk1 94::l2))++ts)) [123] <;>
 exact ev [R (at_ en ro h [123]),B 12 e,C h3,R (at_ en ro h2 [95]),C h5,R (at_ en ro h4 [94]),C h7] (by kernel_rfl)
end
end
def mxH (tk:List Tk) (en z:Int) (ro:List (List S)) (c:Int) (cs:List (List S)):List (Nat×Ob) :=
 [(0,pB 3 tk en z),(2,.any (.map pK) pM),(3,.row 3 1 ro),(4,.box 96 [nI 0,nI 0]),(5,.box 24 [nI 12,nS [],nI c,.orow 6]),(6,.row 24 4 cs)]
def mxF (tk:List Tk) (en z:Int) (ro:List (List S)):List (Nat×Ob) :=
 [(0,pB 3 tk en z),(2,.any (.map pK) pM),(3,.row 3 1 ro),(4,.box 96 [nI 0,nI 0])]
abbrev MxL (tk:List Tk) (en z:Int) (ro:List (List S)) (b c:Int) (cs:List (List S)) (z':Int) (ro':List (List S)) (c':Int) (cs':List (List S)):Prop :=
 LP 127 0 3 [(0,.op 0 0),(3,.op 4 0),(4,.op 5 0),(5,nI b)] (mxH tk en z ro c cs) 7 .ret [(3,.op 4 0),(2,nL [[.int .i64 12,.str [],.int .i64 c',.sl 4 cs']])] (mxF tk en z' ro') 5
abbrev zHK (vs:List Nd):List S:=[.int .i64 1,.str [],.int .i64 0,.sl 4 (Nd.encs vs)]
section
variable {tk:List Tk} {en z z1 z2 b c c':Int} {ro ro' cs cs':List (List S)} {vs:List Nd} {ts:List Tkn}
theorem yDO (h2:Rs tk z1 (mk1 38::ts)) (h3:E 71 [.op 0 0] (PO tk en z ro) (.tup [nL (Nd.encs vs),fl0]) (PT tk en z1 ro)) (hb:zDE cs.length 1 56=true) (ih:MxL tk en (wz z1) ro b c (cs++[zHK vs]) z2 ro' c' cs'):MxL tk en z ro b c cs z2 ro' c' cs' :=
 lp [.go,C h3,.ok 38 _ hb,R (at_ en ro h2 [38]),zB7 127 0 3 _ _ _ _ _ _ _ _ rfl ih] (by kernel_rfl)
variable {x:List S}{r0:List (List S)}
def yDt  (h:r0.length<=100000):nI (i64.wrap (((r0++[x]).length:Int) - 1))=nI (r0.length:Int):=by
 have hl:(r0++[x]).length=r0.length+1 :=(by simp);rw[hl,wrap64_in (by omega) (by omega)]; congr 3; omega
def yDu:okSl (r0++[x]).length none (some (nI (r0.length:Int)))=true:=by simp[okSl,bnd]; omega
def ne_f (c:Int):(c != c)=false:=by simp
variable {r0:List (List S)} {x:List S}
theorem yDQ (h2:Rs tk z1 (mk1 125::ts)) (h3:E 71 [.op 0 0] (PO tk en z (r0++[x])) (.tup [nL (Nd.encs vs),fl0]) (PT tk en z1 (r0++[x]))) (hb:zDE cs.length 1 56=true) (hl:i64.wrap (((cs++[zHK vs]).length:Int) - b)=c) (hz:(b == 0)=false) (hr:r0.length<=100000):MxL tk en z (r0++[x]) b c cs (wz z1) r0 c (cs++[zHK vs]):=by
 obtain⟨a1,a2,h1⟩:=zCU (en:=en) (ro:=r0++[x]) h2;have:MxL tk en z (r0++[x]) b c cs (wz z1) ((r0++[x]).take r0.length) c (cs++[zHK vs]):=lp [.go,C h3,.ok 38 _ hb,R (at_ en (r0++[x]) h2 [38]),R h1,R (at_ en (r0++[x]) h2 [125]),B 63 hz,.val 72 _ (nI c) (congrArg nI hl),B 75 (ne_f c),.give 9,R (at_ en (r0++[x]) h2 [125]),.val 21 (nI (i64.wrap (((r0++[x]).length:Int) - 1))) (nI (r0.length:Int)) (yDt hr),.ok 22 (okSl (r0++[x]).length none (some (nI (r0.length:Int)))) yDu] (by kernel_rfl);rwa [take_left]at this
theorem yCv (h2:Rs tk z1 (mk1 125::ts)) (h3:E 71 [.op 0 0] (PO tk en z (r0++[x])) (.tup [nL (Nd.encs vs),fl0]) (PT tk en z1 (r0++[x]))) (hb:zDE cs.length 1 56=true) (hl:i64.wrap (((cs++[zHK vs]).length:Int) - 0)=c) (hz:((cs++[zHK vs]).length:Int)=c) (hr:r0.length<=100000):MxL tk en z (r0++[x]) 0 c' cs (wz z1) r0 c (cs++[zHK vs]):=by
 obtain⟨a1,a2,h1⟩:=zCU (en:=en) (ro:=r0++[x]) h2;have:MxL tk en z (r0++[x]) 0 c' cs (wz z1) ((r0++[x]).take r0.length) c (cs++[zHK vs]):=lp [.go,C h3,.ok 38 _ hb,R (at_ en (r0++[x]) h2 [38]),R h1,R (at_ en (r0++[x]) h2 [125]),.val 66 _ (nI c) (congrArg nI hz),.val 72 _ (nI c) (congrArg nI hl),B 75 (ne_f c),.give 9,R (at_ en (r0++[x]) h2 [125]),.val 21 (nI (i64.wrap (((r0++[x]).length:Int) - 1))) (nI (r0.length:Int)) (yDt hr),.ok 22 (okSl (r0++[x]).length none (some (nI (r0.length:Int)))) yDu] (by kernel_rfl);rwa [take_left]at this
variable {c2:Int}
theorem yDP  (h2:Rs tk z1 ((8,[92,92])::ts)) (h3:E 71 [.op 0 0] (PO tk en z ro) (.tup [nL (Nd.encs vs),fl0]) (PT tk en z1 ro)) (hb:zDE cs.length 1 56=true) (hl:i64.wrap (((cs++[zHK vs]).length:Int) - b)=c) (hz:(b == 0)=false) (ih:MxL tk en (wz z1) ro ((cs++[zHK vs]).length:Int) c (cs++[zHK vs]) z2 ro' c' cs'):MxL tk en z ro b c cs z2 ro' c' cs':=by
 obtain⟨a1,a2,h1⟩:=zCU (en:=en) (ro:=ro) h2;exact lp [.go,C h3,.ok 38 _ hb,R (at_ en ro h2 [38]),R h1,B 63 hz,.val 72 _ (nI c) (congrArg nI hl),B 75 (ne_f c),zB7 127 0 3 _ _ _ _ _ _ _ _ rfl ih] (by kernel_rfl)
theorem yCu  (h2:Rs tk z1 ((8,[92,92])::ts)) (h3:E 71 [.op 0 0] (PO tk en z ro) (.tup [nL (Nd.encs vs),fl0]) (PT tk en z1 ro)) (hb:zDE cs.length 1 56=true) (hl:i64.wrap (((cs++[zHK vs]).length:Int) - 0)=c) (hz:((cs++[zHK vs]).length:Int)=c) (ih:MxL tk en (wz z1) ro ((cs++[zHK vs]).length:Int) c (cs++[zHK vs]) z2 ro' c' cs'):MxL tk en z ro 0 c2 cs z2 ro' c' cs':=by
 obtain⟨a1,a2,h1⟩:=zCU (en:=en) (ro:=ro) h2;exact lp [.go,C h3,.ok 38 _ hb,R (at_ en ro h2 [38]),R h1,.val 66 _ (nI c) (congrArg nI hz),.val 72 _ (nI c) (congrArg nI hl),B 75 (ne_f c),zB7 127 0 3 _ _ _ _ _ _ _ _ rfl ih] (by kernel_rfl)
end
section
def smod (i:Nat){c:Nat} (hc:1<=c):(i+1) % c=if i % c+1=c then 0 else i % c+1:=by
 have h:=Nat.mod_lt i (by omega:0<c);rw[Nat.add_mod];by_cases h1:c=1
 ·subst h1; simp[Nat.mod_one]
 rw[Nat.mod_eq_of_lt (show 1<c by omega)];split
 ·rename_i e; rw[e,Nat.mod_self]
 rename_i e; exact Nat.mod_eq_of_lt (by omega)
def yBd {c:Int}{i:Nat}{x:List Tkn} (hi:i ≠ 0):zK8 (hdT (sepT c i++x))=true/\decide ((hdT (sepT c i++x)).1=0)=false:=by
 unfold sepT;rw[if_neg hi];split <;> exact⟨rfl,rfl⟩
def yBz {d:Nat}{m:Nat}{c:Nat} (hc:1<=c) (hm:m<=1000) (hmc:m % c=0){tk:List Tk}{en:Int}{r0:List (List S)}{x:List S}{ts:List Tkn} (hr:r0.length+d+1<=100000) :
  ∀ (vss:List (List Nd)) (ls:List (List Tkn)) (i:Nat) (z:Int) (cs:List (List S)),vss.length=ls.length->vss ≠ []->i+vss.length=m->cs.length=i->(∀ p∈vss.zip ls,zJd d p.1 p.2) ->
   Rs tk z ((zFm c i ls).drop (sepT c i).length++mk1 125::ts) ->
   ∃ z',Rs tk z' ts/\MxL tk en z (r0++[x]) ((i:Int) - ((i % c:Nat):Int)) (if i<c then 0 else (c:Int)) cs z' r0 c (cs++vss.map zHK)
 | [],_,_,_,_,_,h,_,_,_,_=>absurd rfl h
 | vs::vss,[],_,_,_,h,_,_,_,_,_=>by cases h
 | vs::vss,l::ls,i,z,cs,hl,_,hi,hcs,hok,h=>by
  have h0:=hok (vs,l) ak;simp only[zFm,drop_left]at h;simp only[ah,Nat.add_right_cancel_iff]at hi hl;have hb:zDE cs.length 1 56=true:=zCM (by omega) (by omega);have hcl:(cs++[zHK vs]).length=i+1 :=(by simp[hcs]);have hs:=smod i hc;have hlt:=Nat.mod_lt i (by omega:0<c);have hle:=Nat.mod_le i c;have hsm:i<c->i % c=i:=fun h=>Nat.mod_eq_of_lt h
  have hge:¬ i<c->i % c<=i - c:=fun h=>by
   rw[Nat.mod_eq_sub_mod (by omega)];exact Nat.mod_le _ _
  have hro:(r0++[x]).length+d<=100000 :=(by simp; omega);cases vss with
  | nil =>
   simp only[an]at hl hi;obtain rfl:ls=[]:=List.length_eq_zero_iff.1 hl.symm;simp only[zFm,bs]at h;obtain⟨z1,h2,h3⟩:=h0 tk en z (r0++[x]) _ hro h rfl (fun h=>by cases h);rw[show i+1=m by omega,hmc]at hs;have e1:i % c+1=c:=by
    rcases Nat.lt_or_ge (i % c+1) c with h | h
    ·rw[if_neg (by omega)]at hs; omega
    omega
   refine⟨_,h2.next,?_⟩;simp only[ba,map_nil];by_cases hic:i<c
   ·rw[if_pos hic,hsm hic,Int.sub_self];have:=hsm hic;exact yCv h2 h3 hb (by rw[hcl,wrap64_in (by omega) (by omega)]; omega) (by rw[hcl]; omega) (by omega)
   rw[if_neg hic];have:=hge hic;exact yDQ h2 h3 hb (by rw[hcl,wrap64_in (by omega) (by omega)]; omega) (by rw[aw]; omega) (by omega)
  | cons vs2 vss2=>
  cases ls with
  | nil=>simp at hl
  | cons l2 ls2 =>
  have hst:=yBd (c:=c) (i:=i+1) (x:=l2++zFm c (i+1+1) ls2++mk1 125::ts) (Nat.succ_ne_zero i);simp only[zFm,aX]at h hst;obtain⟨z1,h2,h3⟩:=h0 tk en z (r0++[x]) _ hro h hst.1 (fun h=>by rw[hst.2]at h; cases h);have ih:=fun z hz=>yBz hc hm hmc (tk:=tk) (en:=en) (r0:=r0) (x:=x) (ts:=ts) hr (vs2::vss2) (l2::ls2) (i+1) z (cs++[zHK vs]) hl (by simp) (by simp only[ah]at hi ⊢; omega) hcl (fun p hp=>hok p (aG _ hp)) hz
  simp only[zFm,drop_left,aX,bj,bE,ba]at ih ⊢;have htm:(((i+1:Nat):Int).tmod (c:Int))=(((i+1) % c:Nat):Int):=rfl;unfold sepT at h2;rw[if_neg (Nat.succ_ne_zero i),htm]at h2
  by_cases e1:i % c+1=c
  ·rw[if_pos e1]at hs;rw[hs,if_pos (show((0:Nat):Int)=0 from rfl)]at h2;obtain⟨z2,h4,h5⟩:=ih _ h2.next;refine⟨z2,h4,?_⟩;rw[hs,if_neg (by omega),show(((i+1:Nat):Int) - ((0:Nat):Int))=((i+1:Nat):Int) from Int.sub_zero _]at h5
   by_cases hic:i<c
   ·rw[if_pos hic,hsm hic,Int.sub_self];have:=hsm hic;have hci:i+1=c :=(by omega);exact yCu h2 h3 hb (by rw[hcl,Int.sub_zero,wrap64_in (by omega) (by omega),hci]) (by rw[hcl,hci]) (by rw[hcl]; exact h5)
   rw[if_neg hic];have:=hge hic;exact yDP h2 h3 hb (by rw[hcl,wrap64_in (by omega) (by omega)]; omega) (by rw[aw]; omega) (by rw[hcl]; exact h5)
  rw[if_neg e1]at hs;rw[hs,if_neg (by omega)]at h2;obtain⟨z2,h4,h5⟩:=ih _ h2.next;refine⟨z2,h4,yDO h2 h3 hb ?_⟩;rw[hs,show((i+1:Nat):Int) - ((i % c+1:Nat):Int)=(i:Int) - ((i % c:Nat):Int) by omega]at h5
  by_cases hic:i<c
  ·have:=hsm hic;rw[if_pos hic];rwa [if_pos (by omega)]at h5
  rw[if_neg hic];rwa [if_neg (by omega)]at h5
def zTD:∀ vss:List (List Nd),vss.map zHK=Nd.encs (vss.map fun vs=>Nd.mk 1 [] 0 vs)
 | []=>rfl
 | vs::r=>by simp only[ba,Nd.encs,zTD r]; rfl
def yAF {d:Nat}{c:Nat} (hc:1<=c){vss:List (List Nd)}{ls:List (List Tkn)} (hl:vss.length=ls.length) (hne:vss ≠ []) (hm:vss.length<=1000) (hmc:vss.length % c=0) (hok:∀ p∈vss.zip ls,zJd d p.1 p.2) :
  zDZ (d+1) [.mk 12 [] c (vss.map fun vs=>Nd.mk 1 [] 0 vs)] ((4,kM)::mk1 123::(zFm c 0 ls++[mk1 125])):=fun tk en z ro ts hdT' h=>by
 obtain⟨a,b,h1⟩:=zCU (en:=en) (ro:=ro) h;have g:=h.next;obtain⟨a2,b2,g1⟩:=zCU (en:=en) (ro:=ro) g;have g2:Rs tk (wz (wz z)) (zFm c 0 ls++mk1 125::ts) :=(by have:=g.next; simpa using this);obtain⟨z1,h2,h3⟩:=yBz (en:=en) (r0:=ro) (x:=[.int .i64 a2]) (ts:=ts) hc hm hmc (by omega) vss ls 0 (wz (wz z)) [] hl hne (by simp) rfl hok (by simpa [sepT] using g2);rw[if_pos (by omega),Nat.zero_mod,bE,zTD]at h3;have h4:E 127 [.op 0 0] (PO tk en z ro) (.tup [nL [[.int .i64 12,.str [],.int .i64 c,.sl 4 (Nd.encs (vss.map fun vs=>Nd.mk 1 [] 0 vs))]],fl0]) (PT tk en z1 ro) :=
  ev [R (at_ en ro g [123]),R g1,.ok 11 _ (zCM (n:=ro.length) (m:=1) (k:=8) (by omega) (by omega)),.take 5 3 24,zB7 127 0 3 _ _ _ _ _ _ _ _ rfl h3] (by kernel_rfl)
 exact⟨z1,h2,ev [R h1,R h1,C h4] (by kernel_rfl)⟩
def Nd.kind:Nd->Int | .mk k _ _ _=>k
def zFU (k:Int) (t:List UInt8):Bool :=
 if k=2 then symB t else if k=3 then numB t else if k=4 then (decide (t.length<=200)&&t.all zEP) else if k=10 then acL.any (fun e=>e == t) else if k=11 then fenB t else t == []
def zDp (k c:Int) (m:Int):Bool :=
 if k=12 then decide (1<=c)&&(decide (c<=16)&&(decide (1<=m)&&(decide (m<=256)&&(m.tmod c == 0))))
 else (c == 0)&&(if k=1 then decide (m<=200) else if k=2 then m == 0 else if k=3 then m == 0 else if k=4 then m == 0 else if k=5 then m == 2 else if k=6 then m == 2 else if k=7 then m == 2 else if k=8 then m == 2
  else if k=9 then m == 3 else if k=10 then m == 1 else if k=11 then m == 1 else false)
mutual
def zCI:Nd->Bool
 | .mk k t c ks=>(zFU k t&&zDp k c (ks.length:Int))&&zBL k ks
def zBL:Int->List Nd->Bool
 | _,[]=>true
 | k,v::vs=>(!((v.kind == 1) == (k == 1))&&zCI v)&&zBL k vs
end
mutual
def Nd.dep:Nd->Nat
 | .mk _ _ _ ks=>Nd.deps ks+1
def Nd.deps:List Nd->Nat
 | []=>0
 | v::vs=>Nat.max v.dep (Nd.deps vs)
end
variable {a:List Nd}
def zPB {k:Int}{i:Nat} (h:i<a.length):zBL k (a.drop i)=((!((a[i].kind == 1) == (k == 1))&&zCI a[i])&&zBL k (a.drop (i+1))):=by
 exact kP
def zSy {i:Nat} (h:i<a.length):Nd.deps (a.drop i)=Nat.max (a[i]).dep (Nd.deps (a.drop (i+1))):=by
 exact kP
mutual
def Nd.dep_cnt:∀ v:Nd,v.dep<=v.cnt
 | .mk _ _ _ ks=>by have:=Nd.deps_cnts ks; simp only[Nd.dep,Nd.cnt]; omega
def Nd.deps_cnts:∀ vs:List Nd,Nd.deps vs<=Nd.cnts vs
 | []=>ar _
 | v::vs=>by
  have:=Nd.dep_cnt v; have:=Nd.deps_cnts vs
  simp only[Nd.deps,Nd.cnts]
  exact Nat.max_le.2 ⟨by omega,by omega⟩
end
mutual
def Nd.cnt_w:∀ v:Nd,v.cnt<=v.w
 | .mk _ t _ ks=>by have:=Nd.cnts_ws ks; simp only[Nd.cnt,Nd.w]; omega
def Nd.cnts_ws:∀ vs:List Nd,Nd.cnts vs<=Nd.ws vs
 | []=>ar _
 | v::vs=>by have:=Nd.cnt_w v; have:=Nd.cnts_ws vs; simp only[Nd.cnts,Nd.ws]; omega
end
def zBA {a b:Int} (h:a ≠ b):(a == b)=false:=by
 cases e:(a == b) with
 | false=>rfl
 | true=>exact absurd (aE e) h
def zUQ (n:Nat) (k:Int) (t:List UInt8) (c:Int) (ks:List Nd) (h:t.length+40<n) (hb:t.length<=1073741824):zHj n (.mk k t c ks)=some (zFU k t):=by
 have e200:=zGg t.length 200;rw[show((200:Nat):Int)=200 from rfl]at e200;have ea:zFf n acL t=some (acL.any fun e=>e == t):=zOd n acL t (by simp only[acL,ah,an]; omega) (by simp[acL]);have a1:zDM=some acL:=rfl;unfold zHj zFU;dsimp only;by_cases h2:k=2
 ·subst h2; simp only[aZ,ag,zRl n t h hb,obs,if_true]
 rw[zBA h2,if_neg h2,ae];by_cases h3:k=3
 ·subst h3; simp only[aZ,ag,zRk n t (by omega) hb,obs,if_true]
 rw[zBA h3,if_neg h3,ae];by_cases h4:k=4
 ·subst h4; simp only[aZ,ag,zMM n t (by omega) hb,obs,if_true,e200];cases decide (t.length<=200) <;> rfl
 rw[zBA h4,if_neg h4,ae];by_cases h10:k=10
 ·subst h10; simp only[aZ,ag,a1,ea,obs,if_true]
 rw[zBA h10,if_neg h10,ae];by_cases h11:k=11
 ·subst h11; rw[if_pos rfl,aZ,ag,zTr n t (by omega)]; rfl
 rw[zBA h11,if_neg h11,ae]
def kinds (k:Int):k=1∨k=2∨k=3∨k=4∨k=5∨k=6∨k=7∨k=8∨k=9∨k=10∨k=11∨k=12∨(k<1∨12<k):=by omega
def gR {P:Prop} (h:P:=by simp only[bne,zDp]; generalize (c == 0)=z; generalize (m == 2)=y; cases z <;> rfl):P:=h
def kO {P:Prop} (h:P:=by simp only[bne,zDp]; generalize (c == 0)=z; generalize (m == 0)=y; cases z <;> rfl):P:=h
def zUP (k:Int) (t:List UInt8) (c:Int) (ks:List Nd):zHi (.mk k t c ks)=some (zDp k c (ks.length:Int)):=by
 unfold zHi;dsimp only;generalize (ks.length:Int)=m;rcases kinds k with rfl | rfl | rfl | rfl | rfl | rfl | rfl | rfl | rfl | rfl | rfl | rfl | h
 ·simp only[bne,zDp]; generalize (c == 0)=z; generalize decide (m<=200)=y; cases z <;> rfl
 ·exact kO
 ·exact kO
 ·exact kO
 ·exact gR
 ·exact gR
 ·exact gR
 ·exact gR
 ·simp only[bne,zDp]; generalize (c == 0)=z; generalize (m == 3)=y; cases z <;> rfl
 ·simp only[bne,zDp]; generalize (c == 0)=z; generalize (m == 1)=y; cases z <;> rfl
 ·simp only[bne,zDp]; generalize (c == 0)=z; generalize (m == 1)=y; cases z <;> rfl
 ·unfold zDp;rw[if_pos rfl,aZ,ag];by_cases h1:1<=c
  ·rw[zAD h1,zA5 (by omega)];generalize (m.tmod c == 0)=y;cases decide (c<=16) <;> cases decide (1<=m) <;> cases decide (m<=256) <;> rfl
  rw[zAC h1]; rfl
 have e:∀ i:Int,1<=i->i<=12->(k == i)=false:=fun i h1 h2=>zBA (by omega)
 have f:∀ i:Int,1<=i->i<=12->k ≠ i:=fun i h1 h2=>by omega
 unfold zDp;rw[if_neg (f 12 (by decide) (by decide)),if_neg (f 1 (by decide) (by decide)),if_neg (f 2 (by decide) (by decide)),if_neg (f 3 (by decide) (by decide)),if_neg (f 4 (by decide) (by decide)),if_neg (f 5 (by decide) (by decide)),
  if_neg (f 6 (by decide) (by decide)),if_neg (f 7 (by decide) (by decide)),if_neg (f 8 (by decide) (by decide)),if_neg (f 9 (by decide) (by decide)),if_neg (f 10 (by decide) (by decide)),if_neg (f 11 (by decide) (by decide))]
 rw[e 12 (by decide) (by decide),e 1 (by decide) (by decide),e 2 (by decide) (by decide),e 3 (by decide) (by decide),e 4 (by decide) (by decide),e 5 (by decide) (by decide),
  e 6 (by decide) (by decide),e 7 (by decide) (by decide),e 8 (by decide) (by decide),e 9 (by decide) (by decide),e 10 (by decide) (by decide),e 11 (by decide) (by decide)]
 cases(c == 0) <;> cases(c != 0) <;> rfl
def kL {P:Prop} (h:P:=by cases t == [] <;> cases c == 0 <;> rfl):P:=h
def yDT (n:Nat) (x:Int) (k:Int) (t:List UInt8) (c:Int) (ks:List Nd) (h:t.length+40<n) (hb:t.length<=1073741824) :
  zCn n ((),x) (.mk k t c ks)=some (zFU k t&&zDp k c (ks.length:Int),((),x)):=by
 have e200:=zGg t.length 200;rw[show((200:Nat):Int)=200 from rfl]at e200;unfold zCn;dsimp only;generalize (ks.length:Int)=m;have em:zBZ t=some (t == []):=rfl;rcases kinds k with rfl | rfl | rfl | rfl | rfl | rfl | rfl | rfl | rfl | rfl | rfl | rfl | h
 ·simp only[em];show _=some ((t == [])&&((c == 0)&&decide (m<=200)),((),x));exact kL
 ·simp only[zOS n t h hb];show _=some (symB t&&((c == 0)&&(m == 0)),((),x));cases symB t <;> cases c == 0 <;> rfl
 ·simp only[zOR n t (by omega) hb];show _=some (numB t&&((c == 0)&&(m == 0)),((),x));cases numB t <;> cases c == 0 <;> rfl
 ·simp only[zQS n t (by omega) hb,e200];show _=some ((decide (t.length<=200)&&t.all zEP)&&((c == 0)&&(m == 0)),((),x));cases decide (t.length<=200) <;> cases t.all zEP <;> cases c == 0 <;> rfl
 ·simp only[em];show _=some ((t == [])&&((c == 0)&&(m == 2)),((),x));exact kL
 ·simp only[em];show _=some ((t == [])&&((c == 0)&&(m == 2)),((),x));exact kL
 ·simp only[em];show _=some ((t == [])&&((c == 0)&&(m == 2)),((),x));exact kL
 ·simp only[em];show _=some ((t == [])&&((c == 0)&&(m == 2)),((),x));exact kL
 ·simp only[em];show _=some ((t == [])&&((c == 0)&&(m == 3)),((),x));exact kL
 ·simp only[zJx];show _=some ((acL.any fun e=>e == t)&&((c == 0)&&(m == 1)),((),x));cases(acL.any fun e=>e == t) <;> cases c == 0 <;> rfl
 ·simp only[zQR];show _=some (fenB t&&((c == 0)&&(m == 1)),((),x));cases fenB t <;> cases c == 0 <;> rfl
 ·simp only[em];show _=some ((t == [])&&(decide (1<=c)&&(decide (c<=16)&&(decide (1<=m)&&(decide (m<=256)&&(m.tmod c == 0))))),((),x));by_cases h1:1<=c
  ·rw[zAD h1,zA5 (by omega)];generalize (m.tmod c == 0)=y;cases t == [] <;> cases decide (c<=16) <;> cases decide (1<=m) <;> cases decide (m<=256) <;> rfl
  rw[zAC h1];cases t == [] <;> rfl
 have f:∀ i:Int,1<=i->i<=12->k ≠ i:=fun i h1 h2=>by omega
 have hk:zDp k c m=false:=by
  unfold zDp;rw[if_neg (f 12 (by decide) (by decide)),if_neg (f 1 (by decide) (by decide)),if_neg (f 2 (by decide) (by decide)),if_neg (f 3 (by decide) (by decide)),if_neg (f 4 (by decide) (by decide)),if_neg (f 5 (by decide) (by decide)),
   if_neg (f 6 (by decide) (by decide)),if_neg (f 7 (by decide) (by decide)),if_neg (f 8 (by decide) (by decide)),if_neg (f 9 (by decide) (by decide)),if_neg (f 10 (by decide) (by decide)),if_neg (f 11 (by decide) (by decide))]
  exact Bool.and_false _
 rw[hk,Bool.and_false];by_cases h1:k<1
 ·rw[zAD h1]; rfl
 rw[zAC h1,zAD (show 12<k by omega)]; rfl
def zK1 {F:Nd->Option Bool}{k:Int}{ks:List Nd} (hF:∀ v∈ks,F v=some (zCI v)) (hl:ks.length<=1073741824) :
  ∀ (q i:Nat),ks.length - i<q->i<=ks.length->zC3 F k ks q (i:Int)=some (if zBL k (ks.drop i) then .go () else .ret false)
 | 0,_,h,_=>by omega
 | q+1,i,hq,hi=>by
  unfold zC3;by_cases h:i<ks.length
  ·rw[zAD (aK.2 h),ag,zAH h];have hf:=hF _ (aV h);have g1:=zPB (k:=k) h;rcases e:ks[i] with ⟨a,b,c,d⟩
   rw[e]at hf g1;simp only[Nd.kind]at g1;generalize zBL k (ks.drop i)=g at g1 ⊢;subst g1;simp only[obs,hf];rw[zAG (by omega),zK1 hF hl q (i+1) (by omega) (by omega)];cases((a == 1) == (k == 1)) <;> cases zCI (Nd.mk a b c d) <;> simp
  ·rw[zAC (by omega),ae];obtain rfl:i=ks.length :=(by omega);simp[zBL]
def zOf:∀ (n:Nat) (t:Nd),t.w+45<n->t.w<=1073741824->zDN n t=some (zCI t)
 | 0,_,h,_=>by omega
 | n+1,.mk k t c ks,h,hb=>by
  simp only[Nd.w]at h hb;have hl:=Nd.ws_len ks;unfold zDN;rw[zUQ n k t c ks (by omega) (by omega),zUP];have:=zK1 (F:=zDN n) (k:=k) (ks:=ks) (fun v hv=>zOf n v (by have:=Nd.w_mem hv; omega) (by have:=Nd.w_mem hv; omega)) (by omega) n 0 (by omega) (by omega);rw[show((0:Nat):Int)=0 from rfl,drop_zero]at this;simp only[obs,this,zCI];cases zFU k t <;> cases zDp k c (ks.length:Int) <;> cases zBL k ks <;> rfl
def zJD {F:Nd->Option Int}{ks:List Nd} (hF:∀ v∈ks,F v=some (v.dep:Int)) (hl:ks.length<=1073741824) :
  ∀ (q i o:Nat),ks.length - i<q->i<=ks.length->zCx F ks q (o:Int) (i:Int)=some ((Nat.max o (Nd.deps (ks.drop i)):Nat):Int)
 | 0,_,_,h,_=>by omega
 | q+1,i,o,hq,hi=>by
  unfold zCx;by_cases h:i<ks.length
  ·rw[zAD (aK.2 h),ag,zAH h,zSy h];have hf:=hF _ (aV h);rcases e:ks[i] with ⟨a,b,c,d⟩
   rw[e]at hf;simp only[obs,hf];have hm:(if (o:Int)<((Nd.mk a b c d).dep:Int) then ((Nd.mk a b c d).dep:Int) else (o:Int))=((Nat.max o (Nd.mk a b c d).dep:Nat):Int):=by
    by_cases g:(o:Int)<((Nd.mk a b c d).dep:Int)
    ·rw[if_pos g]; congr 1; exact(Nat.max_eq_right (by omega)).symm
    rw[if_neg g]; congr 1; exact(Nat.max_eq_left (by omega)).symm
   rw[zAG (by omega),hm,zJD hF hl q (i+1) _ (by omega) (by omega)];congr 2;exact Nat.max_assoc _ _ _
  rw[zAC (by omega),ae];obtain rfl:i=ks.length :=(by omega);rw[drop_length];congr 2;exact(Nat.max_eq_left (aQ _)).symm
def zMn:∀ (n:Nat) (t:Nd),t.cnt<n->t.cnt<=67108864->zC2 n t=some (t.dep:Int)
 | 0,_,h,_=>by omega
 | n+1,.mk k t c ks,h,hb=>by
  simp only[Nd.cnt]at h hb;have hl:=Nd.cnts_len ks;have hd:=Nd.deps_cnts ks;unfold zC2;have:=zJD (F:=zC2 n) (ks:=ks) (fun v hv=>zMn n v (by have:=Nd.cnts_mem hv; omega) (by have:=Nd.cnts_mem hv; omega)) (by omega) n 0 0 (by omega) (by omega);rw[show((0:Nat):Int)=0 from rfl,drop_zero]at this;rw[this,obs,show Nat.max 0 (Nd.deps ks)=Nd.deps ks from Nat.max_eq_right (aQ _),zAG (by omega)];rfl
def zAu (t:Nd):Bool:=(t.kind == 1)&&(zCI t&&(decide (t.cnt<=1000)&&decide (t.dep<=24)))
def zEy (n:Nat) (t:Nd) (h:t.w+45<n) (hb:t.w<=67108864):zAM n t=some (zAu t):=by
 have hc:=Nd.cnt_w t;have e1:=zOf n t h (by omega);have e2:=zMm n t (by omega) (by omega);have e3:=zMn n t (by omega) (by omega);have e4:=zGg t.cnt 1000;rw[show((1000:Nat):Int)=1000 from rfl]at e4;have e5:=zGg t.dep 24;rw[show((24:Nat):Int)=24 from rfl]at e5;obtain⟨k,s,c,ks⟩:=t;unfold zAM zAu;simp only[e1,e2,e3,obs,e4,e5,Nd.kind];cases k == 1 <;> cases zCI (.mk k s c ks) <;> cases decide ((Nd.mk k s c ks).cnt<=1000) <;> rfl
abbrev okN (t:Nd) (x d:Nat):Prop:=zCI t=true/\x+t.cnt<=1000/\d+t.dep<=25
abbrev okNs (k:Int) (vs:List Nd) (x d:Nat):Prop:=zBL k vs=true/\x+Nd.cnts vs<=1000/\d+Nd.deps vs<=24
def zPv {F:(Unit×Int)->Nd->Int->Option (Bool×(Unit×Int))}{k:Int}{ks:List Nd}{d:Nat} (hd:d<=24)
  (hF:∀ v∈ks,∀ x:Nat,x<=1000->∃ y,F ((),(x:Int)) v ((d+1:Nat):Int)=some (decide (okN v x (d+1)),((),y))/\(okN v x (d+1)->y=((x+v.cnt:Nat):Int))) (hl:ks.length<=1073741824) :
  ∀ (q i x:Nat),ks.length - i<q->i<=ks.length->x<=1000 ->
   (okNs k (ks.drop i) x d/\zAK F k ks (d:Int) q (x:Int) (i:Int)=some (.go ((x+Nd.cnts (ks.drop i):Nat):Int))) ∨
   (¬ okNs k (ks.drop i) x d/\∃ z,zAK F k ks (d:Int) q (x:Int) (i:Int)=some (.ret (false,((),z))))
 | 0,_,_,h,_,_=>by omega
 | q+1,i,x,hq,hi,hx=>by
  unfold zAK;by_cases h:i<ks.length
  ·rw[zAD (aK.2 h),ag,zAH h];obtain⟨y,hf,hy⟩:=hF _ (aV h) x hx;have g1:=zPB (k:=k) h;have g2:=Nd.cnts_drop h;have g3:=zSy h;rcases e:ks[i] with ⟨a,b,c,ds⟩
   rw[e]at hf hy g1 g2 g3;simp only[obs];rw[zAG (by omega),zAG (by omega),hf];simp only[obs];have g4:Nd.deps (ks.drop i)=Nat.max (Nd.mk a b c ds).dep (Nd.deps (ks.drop (i+1))):=g3;have g5:(Nd.mk a b c ds).dep<=Nd.deps (ks.drop i) :=(by rw[g4]; exact Nat.le_max_left _ _);have g6:Nd.deps (ks.drop (i+1))<=Nd.deps (ks.drop i) :=(by rw[g4]; exact Nat.le_max_right _ _);rw[show((k == 1) == (a == 1))=((a == 1) == (k == 1)) by cases k == 1 <;> cases a == 1 <;> rfl];cases hkk:((a == 1) == (k == 1)) with
   | true =>
    simp only[ag,obs];refine .inr ⟨fun⟨h1,_⟩=>?_,_,rfl⟩;rw[g1]at h1;simp[Nd.kind,hkk]at h1
   | false=>
   simp only[ae,obs];by_cases hok:okN (Nd.mk a b c ds) x (d+1)
   ·rw[zAD hok];simp only[aB,ae];rw[hy hok];have hp:=(Nd.mk a b c ds).cnt_pos;rcases zPv hd hF hl q (i+1) (x+(Nd.mk a b c ds).cnt) (by omega) (by omega) hok.2.1 with ⟨hr,hr2⟩ | ⟨hr,z,hr2⟩
    ·refine .inl ⟨⟨?_,?_,?_⟩,?_⟩
     ·rw[g1,hr.1,hok.1]; simp[Nd.kind,hkk]
     ·have:=hr.2.1; omega
     ·have:=hr.2.2;have:=hok.2.2;have:Nd.deps (ks.drop i)<=24 - d:=by rw[g4]; exact Nat.max_le.2 ⟨by omega,by omega⟩
      omega
     rw[hr2,g2]; congr 3; omega
    refine .inr ⟨fun⟨h1,h2,h3⟩=>hr ⟨?_,by omega,by omega⟩,z,hr2⟩;rw[g1]at h1;simp only[af]at h1;exact h1.2
   rw[zAC hok];simp only[bf,ag];refine .inr ⟨fun⟨h1,h2,h3⟩=>hok ⟨?_,by omega,by omega⟩,y,rfl⟩;rw[g1]at h1;simp only[af]at h1;exact h1.1.2
  rw[zAC (by omega),ae];obtain rfl:i=ks.length :=(by omega);rw[drop_length];exact .inl ⟨⟨rfl,hx,hd⟩,rfl⟩
def zVj:∀ (n:Nat) (t:Nd) (x d:Nat),t.w+45<n->t.w<=67108864->x<=1000->d<=25 ->
  ∃ y,zAT n ((),(x:Int)) t (d:Int)=some (decide (okN t x d),((),y))/\(okN t x d->y=((x+t.cnt:Nat):Int))
 | 0,_,_,_,h,_,_,_=>by omega
 | n+1,.mk k t c ks,x,d,h,hb,hx,hd=>by
  simp only[Nd.w]at h hb;have hl:=Nd.ws_len ks;unfold zAT;rw[zAG (by omega)];by_cases h1:1000<((x+1:Nat):Int)
  ·rw[zAD h1];simp only[ag,obs];have hn:¬ okN (.mk k t c ks) x d:=fun⟨_,h2,_⟩=>by simp only[Nd.cnt]at h2; omega
   exact⟨_,by rw[zAC hn],fun h=>absurd h hn⟩
  rw[zAC h1,ae];by_cases h2:24<(d:Int)
  ·rw[zAD h2];simp only[ag,obs];have hn:¬ okN (.mk k t c ks) x d:=fun⟨_,_,h2⟩=>by simp only[Nd.dep]at h2; omega
   exact⟨_,by rw[zAC hn],fun h=>absurd h hn⟩
  rw[zAC h2,ae,yDT n _ k t c ks (by omega) (by omega)];simp only[obs];cases ho:(zFU k t&&zDp k c (ks.length:Int)) with
  | false =>
   simp only[bf,ag];have hn:¬ okN (.mk k t c ks) x d:=fun⟨h1,_⟩=>by rw[zCI,ho]at h1; cases h1
   exact⟨_,by rw[zAC hn],fun h=>absurd h hn⟩
  | true=>
  simp only[aB,ae];have:=zPv (F:=zAT n) (k:=k) (ks:=ks) (d:=d) (by omega) (fun v hv z hz=>zVj n v z (d+1) (by have:=Nd.w_mem hv; omega) (by have:=Nd.w_mem hv; omega) hz (by omega)) (by omega) n 0 (x+1) (by omega) (by omega) (by omega);rw[show((0:Nat):Int)=0 from rfl,drop_zero]at this;rcases this with ⟨hr,hr2⟩ | ⟨hr,z,hr2⟩
  ·have hy:okN (.mk k t c ks) x d:=⟨by rw[zCI,ho,hr.1]; rfl,by have:=hr.2.1; simp only[Nd.cnt]; omega,by have:=hr.2.2; simp only[Nd.dep]; omega⟩;rw[hr2];exact⟨_,by rw[zAD hy]; rfl,fun _=>by simp only[Nd.cnt]; omega⟩
  have hn:¬ okN (.mk k t c ks) x d:=fun⟨g1,g2,g3⟩=>hr ⟨by rw[zCI,ho]at g1; exact g1,by simp only[Nd.cnt]at g2; omega,by simp only[Nd.dep]at g3; omega⟩
  rw[hr2];exact⟨_,by rw[zAC hn]; rfl,fun h=>absurd h hn⟩
def zCs (n:Nat) (t:Nd) (h:t.w+45<n) (hb:t.w<=67108864):zAZ n t=some (zAu t):=by
 obtain⟨y,h1,_⟩:=zVj n t 0 1 h hb (by omega) (by omega);rw[show((0:Nat):Int)=0 from rfl,show((1:Nat):Int)=1 from rfl]at h1;obtain⟨k,s,c,ks⟩:=t;unfold zAZ zAu;have hk:zGJ=some ():=rfl;simp only[hk,h1,obs,Nd.kind];cases k == 1 with
 | false=>rfl
 | true=>
 simp only[ag,obs,Bool.true_and,aC,okN];cases zCI (.mk k s c ks) with
 | false=>simp
 | true=>
 by_cases g1:(Nd.mk k s c ks).cnt<=1000
 ·by_cases g2:(Nd.mk k s c ks).dep<=24
  ·rw[zAD g1,zAD g2,zAD ⟨rfl,by omega,by omega⟩]; rfl
  rw[zAD g1,zAC g2,zAC (fun h=>g2 (by omega))]; rfl
 rw[zAC g1,zAC (fun h=>g1 (by omega))]; rfl
end
section
def zMF (t:Tkn):Bool:=!zK8 t&&!isM t [95]&&!isM t [94]
def zVt {t:Tkn} (h:zMF t=true):zK8 t=false/\isM t [95]=false/\isM t [94]=false:=by
 simpa [zMF,and_assoc] using h
def zYV {d:Nat}{tk:List Tk}{en:Int}{ro:List (List S)}{ts:List Tkn} (hdT':ro.length+d<=100000) (hs:zK8 (hdT ts)=true) (h0:decide ((hdT ts).1=0)=true->ro=[]) (hn:isM (hdT ts) [95]=false/\isM (hdT ts) [94]=false) :
  ∀ (vs:List Nd) (z:Int) (its:List (List S)),(∀ v∈vs,zJ6 d [v] (tI v)/\∀ x,zMF (hdT (tI v++x))=true)->its.length+vs.length<=100000->Rs tk z (tL vs++ts) ->
   ∃ z',Rs tk z' ts/\RowL tk en z ro its z' (its++Nd.encs vs)/\(its=[]->E 71 [.op 0 0] (PO tk en z ro) (.tup [nL (Nd.encs vs),fl0]) (PT tk en z' ro))
 | [],z,its,_,_,h=>by
  obtain⟨h1,h2⟩:=yAW (en:=en) (ro:=ro) h hs h0;exact⟨z,h,by rw[Nd.encs,bs]; exact h2 its,fun _=>h1⟩
 | v::vs,z,its,hv,hl,h=>by
  obtain⟨g1,g2⟩:=hv v ak;simp only[tL,aX]at h;have hg:isM (hdT (tL vs++ts)) [95]=false/\isM (hdT (tL vs++ts)) [94]=false:=by
   cases vs with
   | nil=>exact hn
   | cons w ws=>
   have:=(hv w (aG _ ak)).2 (tL ws++ts);rw[tL,aX];exact(zVt this).2
  obtain⟨z1,h1,h2⟩:=g1 tk en z ro _ hdT' h hg.1 hg.2;obtain⟨a,b,h3⟩:=zCU (en:=en) (ro:=ro) h;have g3:=(zVt (g2 (tL vs++ts))).1;simp only[ah]at hl;obtain⟨z2,h4,h5,_⟩:=zYV hdT' hs h0 hn vs z1 (its++Nd.encs [v]) (fun w hw=>hv w (aG _ hw)) (by simp[Nd.encs]; omega) h1;have e:its++Nd.encs [v]++Nd.encs vs=its++Nd.encs (v::vs) :=(by simp[Nd.encs]);rw[e]at h5;refine⟨z2,h4,yAV h h3 g3 h2 (zCM (by simp[Nd.encs]; omega) (by omega)) h5,fun hi=>?_⟩;subst hi;exact zYW h h3 g3 h2 (zCM (by simp[Nd.encs]) (by omega)) h5
def yCU {t:Tkn} (h:zK8 t=true):isM t [95]=false/\isM t [94]=false:=by
 obtain⟨k,s⟩:=t;by_cases hk:k=7
 ·subst hk;simp only[zK8,isM,decide_true,Bool.true_and,bv]at h ⊢;have h':s=[41]∨s=[93]∨s=[125]∨s=[38] :=(by simpa [or_assoc] using h);rcases h' with rfl | rfl | rfl | rfl <;> exact⟨rfl,rfl⟩
 simp[isM,hk]
variable {vs:List Nd}
def yBK {d:Nat} (hl:vs.length<=100000) (hv:∀ v∈vs,zJ6 d [v] (tI v)/\∀ x,zMF (hdT (tI v++x))=true):zJd d vs (tL vs):=fun tk en z ro ts hdT' h hs h0=>by
 obtain⟨z',h1,_,h2⟩:=zYV (en:=en) hdT' hs h0 (yCU hs) vs z [] hv (by simpa using hl) h;exact⟨z',h1,h2 rfl⟩
def zF4 {k:Int} (hk:k ≠ 1):∀ {ks:List Nd},zBL k ks=true->ks=(ks.map Nd.its).map (fun vs=>Nd.mk 1 [] 0 vs)/\∀ vs∈ks.map Nd.its,zBL 1 vs=true/\vs.length<=200/\Nd.cnts vs<Nd.cnts ks
 | [],_=>⟨rfl,fun vs h=>by cases h⟩
 | .mk k2 t2 c2 vs::r,h=>by
  simp only[zBL,zCI,Nd.kind,af,Bool.not_eq_true']at h;obtain⟨⟨h1,⟨h2,h3⟩,h4⟩,h5⟩:=h;rw[zBA hk]at h1;have hk2:k2=1:=by
   cases e:(k2 == 1) with
   | true=>exact aE e
   | false=>rw[e]at h1; cases h1
  subst hk2;have ht:t2=[] :=(by simpa [zFU] using h2);have hc:c2=0/\vs.length<=200:=by
   have:c2=0/\(vs.length:Int)<=200 :=(by simpa [zDp] using h3);exact⟨this.1,by omega⟩
  obtain⟨q1,q2⟩:=zF4 hk h5;subst ht;obtain⟨rfl,hc⟩:=hc;refine⟨by simp only[ba,Nd.its]; rw[← q1],fun ws hw=>?_⟩;simp only[ba,Nd.its,mem_cons]at hw;simp only[Nd.cnts,Nd.cnt];rcases hw with rfl | hw
  ·exact⟨h4,hc,by omega⟩
  have:=q2 ws hw; exact⟨this.1,this.2.1,by omega⟩
def zP6:∀ ks:List Nd,tRs ks=(ks.map Nd.its).map tL
 | []=>rfl
 | .mk _ _ _ vs::r=>by simp only[tRs,ba,Nd.its,zP6 r]
def zGX {k:Int}:∀ {vs:List Nd}{v:Nd},zBL k vs=true->v∈vs->(v.kind == 1) ≠ (k == 1)/\zCI v=true/\v.cnt<=Nd.cnts vs
 | w::ws,v,h,hm=>by
  simp only[zBL,af,Bool.not_eq_true',aw]at h;simp only[Nd.cnts];rcases aR.1 hm with rfl | hm
  ·exact⟨h.1.1,h.1.2,by omega⟩
  ·obtain⟨q1,q2,q3⟩:=zGX h.2 hm; exact⟨q1,q2,by omega⟩
variable {s:List UInt8}
def yAe  (h:∀ k∈pK,s ≠ k):zFP s pK 0=none:=by
 have:∀ (l:List (List UInt8)) (i:Nat),(∀ k∈l,s ≠ k)->zFP s l i=none:=fun l=>by
  induction l with
  | nil=>intro i _; rfl
  | cons k l ih=>
  intro i h;unfold zFP;rw[if_neg (h k ak)];exact ih _ fun k hk=>h k (aG _ hk)
 exact this _ _ h
def yDU:∀ k∈pK,symB k=false:=by decide
def zZh  (h:symB s=true):s.length=1∨(2<=s.length/\zFP s pK 0=none):=by
 by_cases h1:s.length=1
 ·exact .inl h1
 refine .inr ⟨?_,yAe fun k hk e=>?_⟩
 ·unfold symB at h;rw[if_neg h1]at h;simp only[af,ay]at h;exact h.2.1
 subst e; rw[yDU s hk]at h; cases h
def yB1  (h:(acL.any fun e=>e == s)=true):∃ i,zFP s pK 0=some (i+3)/\i<6:=by
 simp only[acL,any_cons,any_nil,Bool.or_false,bv,bD]at h;rcases h with rfl | rfl | rfl | rfl | rfl | rfl
 ·exact⟨0,by decide,by decide⟩
 ·exact⟨1,by decide,by decide⟩
 ·exact⟨2,by decide,by decide⟩
 ·exact⟨3,by decide,by decide⟩
 ·exact⟨4,by decide,by decide⟩
 exact⟨5,by decide,by decide⟩
variable {ks:List Nd}{t:List UInt8}
def leaf {k:Int}{c:Int} (hk:k=2∨k=3∨k=4) (h:zCI (.mk k t c ks)=true):c=0/\ks=[]/\(k=2->t.length=1∨(2<=t.length/\zFP t pK 0=none)):=by
 simp only[zCI,af]at h;obtain⟨⟨h1,h2⟩,_⟩:=h;have:c=0/\ks.length=0:=by rcases hk with rfl | rfl | rfl <;> simpa [zDp] using h2
 refine⟨this.1,List.length_eq_zero_iff.1 this.2,fun e=>?_⟩;subst e;exact zZh (by simpa [zFU] using h1)
def yBQ (t:List UInt8) (c:Int):tI (.mk 2 t c [])=[(if t.length=1 then 1 else 4,t)]:=rfl
def yBp {d:Nat} (hf:zBL 1 vs=true) (hr:zJd d vs (tL vs)):zMv d vs (argT vs (tL vs)):=fun tk en z ro ts hdT' h=>by
 unfold argT at h;cases e:zO9 vs with
 | false=>rw[e,ae]at h;exact yDg hr hdT' (by simpa [brc] using h)
 | true=>
 rw[e,ag]at h
 match vs,e with
 | [.mk k t c ks],e =>
  have hk:k=2∨k=3∨k=4 :=(by simpa [zO9,or_assoc] using e);obtain⟨rfl,rfl,hs⟩:=leaf hk (zGX hf ak).2.1;rcases hk with rfl | rfl | rfl
  ·simp only[tL,yBQ,bs,bj,bE]at h;rcases hs rfl with h1 | ⟨h1,h2⟩
   ·rw[if_pos h1]at h; exact⟨_,h.next,yEz h⟩
   rw[if_neg (by omega)]at h; exact⟨_,h.next,yEC h2 h1 h⟩
  ·exact⟨_,Rs.next h,yEA h⟩
  exact⟨_,Rs.next h,yEB h⟩
def zM4 (n:Nat) (v:Nd):Prop:=zDZ n [v] (tI v)/\∀ x,zMF (hdT (tI v++x))=true/\isM (hdT (tI v++x)) [123]=false
variable {n:Nat}
def yB5  (hv:∀ v∈vs,scr1 v.kind=false->zM4 (n+1) v) (hr:zJd n vs (tL vs)):zDZ (n+1) vs (basT vs (tL vs))/\∀ x,zMF (hdT (basT vs (tL vs)++x))=true:=by
 unfold basT;cases e:scrI vs with
 | true=>exact⟨yCB hr,fun x=>rfl⟩
 | false=>
 match vs,e with
 | [.mk k t c ks],e =>
  obtain⟨h1,h2⟩:=hv _ ak (show scr1 k=false from e);simp only[ae,tL,bs];exact⟨h1,fun x=>(h2 x).1⟩
def zZU  (hf:zBL 1 vs=true) (x:List Tkn):isM (hdT (argT vs (tL vs)++x)) [91]=false:=by
 unfold argT;cases e:zO9 vs with
 | false=>rfl
 | true=>
 match vs,e with
 | [.mk k t c ks],e =>
  have hk:k=2∨k=3∨k=4 :=(by simpa [zO9,or_assoc] using e);obtain⟨rfl,rfl,hs⟩:=leaf hk (zGX hf ak).2.1;rcases hk with rfl | rfl | rfl
  ·simp only[ag,tL,yBQ,bs,bj,bE,hdT];split <;> rfl
  ·rfl
  rfl
variable {α:Type}
def zIo {l:List α} (h:l.length=2):∃ a b,l=[a,b]:=by
 match l,h with
 | [a,b],_=>exact⟨a,b,rfl⟩
def yAh {l:List α} (h:l.length=3):∃ a b c,l=[a,b,c]:=by
 match l,h with
 | [a,b,c],_=>exact⟨a,b,c,rfl⟩
def jF {P:Prop} (h:P:=by rw[if_neg (f 12 (by decide) (by decide)),if_neg (f 1 (by decide) (by decide)),if_neg (f 2 (by decide) (by decide)),if_neg (f 3 (by decide) (by decide)),if_neg (f 4 (by decide) (by decide)),if_neg (f 5 (by decide) (by decide)),if_neg (f 6 (by decide) (by decide)),if_neg (f 7 (by decide) (by decide)),if_neg (f 8 (by decide) (by decide)),if_neg (f 9 (by decide) (by decide)),if_neg (f 10 (by decide) (by decide)),if_neg (f 11 (by decide) (by decide))]at h2;simp at h2):P:=h
def gQ {P:Prop} (h:P:=by have:c=0/\(ss.length:Int)=2 :=(by simpa [zDp] using h2);exact⟨this.1,by omega⟩):P:=h
def yAz {k:Int}{c:Int} (hk:k ≠ 1) (hs:scr1 k=false) (h:zCI (.mk k t c ks)=true) (hr:∀ vs∈ks.map Nd.its,zBL 1 vs=true->zJd n vs (tL vs)):zM4 (n+1) (.mk k t c ks):=by
 have h':=h;simp only[zCI,af]at h';obtain⟨⟨h1,h2⟩,h3⟩:=h';obtain⟨q1,q2⟩:=zF4 hk h3;have q3:=zP6 ks;unfold zM4 tI;rw[q3];by_cases hl:k=2∨k=3∨k=4
 ·obtain⟨rfl,rfl,hy⟩:=leaf hl h;rcases hl with rfl | rfl | rfl
  ·show zDZ _ _ [(if t.length=1 then 1 else 4,t)]/\∀ x,zMF (hdT ([(if t.length=1 then 1 else 4,t)]++x))=true/\isM (hdT ([(if t.length=1 then 1 else 4,t)]++x)) [123]=false;rcases hy rfl with h1 | ⟨h1,h2⟩
   ·rw[if_pos h1]; exact⟨yD1,fun x=>⟨rfl,rfl⟩⟩
   rw[if_neg (by omega)]; exact⟨yD4 h2 h1,fun x=>⟨rfl,rfl⟩⟩
  ·exact⟨yD2,fun x=>⟨rfl,rfl⟩⟩
  exact⟨yD3,fun x=>⟨rfl,rfl⟩⟩
 generalize ks.map Nd.its=ss at *;subst q1;rw[az]at h2;have ha:∀ vs∈ss,zMv n vs (argT vs (tL vs)):=fun vs hv=>yBp (q2 vs hv).1 (hr vs hv (q2 vs hv).1)
 have hro:∀ vs∈ss,zJd n vs (tL vs):=fun vs hv=>hr vs hv (q2 vs hv).1
 rcases kinds k with rfl | rfl | rfl | rfl | rfl | rfl | rfl | rfl | rfl | rfl | rfl | rfl | hx
 ·exact absurd rfl hk
 ·exact absurd (.inl rfl) hl
 ·exact absurd (.inr (.inl rfl)) hl
 ·exact absurd (.inr (.inr rfl)) hl
 ·have hh:c=0/\ss.length=2:=by
   exact gQ
  have ht:t=[] :=(by simpa [zFU] using h1);obtain⟨rfl,hh⟩:=hh;subst ht;obtain⟨s0,s1,rfl⟩:=zIo hh;exact⟨zYE (ha _ (by simp)) (ha _ (by simp)),fun x=>⟨rfl,rfl⟩⟩
 ·have hh:c=0/\ss.length=2:=by
   exact gQ
  have ht:t=[] :=(by simpa [zFU] using h1);obtain⟨rfl,hh⟩:=hh;subst ht;obtain⟨s0,s1,rfl⟩:=zIo hh;exact⟨zYF (hro _ (by simp)) (zZU (q2 s1 (by simp)).1) (ha _ (by simp)),fun x=>⟨rfl,rfl⟩⟩
 ·cases hs
 ·cases hs
 ·cases hs
 ·have hh:c=0/\ss.length=1:=by
   have:c=0/\(ss.length:Int)=1 :=(by simpa [zDp] using h2);exact⟨this.1,by omega⟩
  obtain⟨rfl,hh⟩:=hh;obtain⟨s0,rfl⟩:=aT.1 hh;obtain⟨i,hi,hi6⟩:=yB1 (show(acL.any fun e=>e == t)=true by simpa [zFU] using h1);exact⟨yAD hi hi6 (ha _ (by simp)),fun x=>⟨rfl,rfl⟩⟩
 ·have hh:c=0/\ss.length=1:=by
   have:c=0/\(ss.length:Int)=1 :=(by simpa [zDp] using h2);exact⟨this.1,by omega⟩
  obtain⟨rfl,hh⟩:=hh;obtain⟨s0,rfl⟩:=aT.1 hh;show zDZ _ _ (if t=[40,41] then mk1 40::(tL s0++[mk1 41]) else if t=[91,93] then mk1 91::(tL s0++[mk1 93]) else (5,t)::argT s0 (tL s0))/\∀ x,zMF (hdT ((if t=[40,41] then mk1 40::(tL s0++[mk1 41]) else if t=[91,93] then mk1 91::(tL s0++[mk1 93]) else (5,t)::argT s0 (tL s0))++x))=true/\isM (hdT ((if t=[40,41] then mk1 40::(tL s0++[mk1 41]) else if t=[91,93] then mk1 91::(tL s0++[mk1 93]) else (5,t)::argT s0 (tL s0))++x)) [123]=false;by_cases e1:t=[40,41]
  ·subst e1; rw[if_pos rfl]; exact⟨yAG (hro _ (by simp)),fun x=>⟨rfl,rfl⟩⟩
  rw[if_neg e1];by_cases e2:t=[91,93]
  ·subst e2; rw[if_pos rfl]; exact⟨yCC (hro _ (by simp)),fun x=>⟨rfl,rfl⟩⟩
  rw[if_neg e2]; exact⟨yAE (ha _ (by simp)),fun x=>⟨rfl,rfl⟩⟩
 ·have hh:1<=c/\1<=ss.length/\ss.length<=256/\(ss.length:Int).tmod c=0:=by
   have:1<=c/\c<=16/\1<=(ss.length:Int)/\(ss.length:Int)<=256/\(ss.length:Int).tmod c=0 :=(by simpa [zDp] using h2);exact⟨this.1,by omega,by omega,this.2.2.2.2⟩
  have ht:t=[] :=(by simpa [zFU] using h1);subst ht;obtain⟨cn,rfl⟩:=aM (by omega:0<=c);have hm:ss.length % cn=0 :=(by have:=hh.2.2.2; exact Int.ofNat.inj this);exact⟨yAF (by omega) (by simp) (by rintro rfl; simp at hh) (by omega) hm (fun p hp=>by
   obtain⟨i,hi,rfl⟩:=List.mem_iff_getElem.1 hp;simp only[getElem_zip,getElem_map]
   exact hro _ (aV _)),fun x=>⟨rfl,rfl⟩⟩
 exfalso;simp only[zDp,af]at h2;have f:∀ i:Int,1<=i->i<=12->k ≠ i:=fun i h1 h2=>by omega
 exact jF
def zYb:∀ (n:Nat) (v:Nd),v.cnt<=n->zCI v=true->v.kind ≠ 1->zJ6 n [v] (tI v)/\(∀ x,zMF (hdT (tI v++x))=true)/\(scr1 v.kind=false->zM4 n v)
 | 0,v,h,_,_=>by have:=v.cnt_pos; omega
 | n+1,.mk k t c ks,h,hf,hk=>by
  have h':=hf;simp only[zCI,af]at h';obtain⟨⟨h1,h2⟩,h3⟩:=h';obtain⟨q1,q2⟩:=zF4 hk h3;simp only[Nd.cnt]at h;have hit:∀ vs∈ks.map Nd.its,∀ v∈vs,zJ6 n [v] (tI v)/\(∀ x,zMF (hdT (tI v++x))=true)/\(scr1 v.kind=false->zM4 n v):=fun vs hv v hm=>by
   obtain⟨g1,g2,g3⟩:=q2 vs hv;obtain⟨g4,g5,g6⟩:=zGX g1 hm;exact zYb n v (by omega) g5 (by simpa using g4)
  have hr:∀ vs∈ks.map Nd.its,zBL 1 vs=true->zJd n vs (tL vs):=fun vs hv _=>yBK (by have:=(q2 vs hv).2.1; omega) fun v hm=>⟨(hit vs hv v hm).1,(hit vs hv v hm).2.1⟩
  cases hs:scr1 k with
  | false=>have hp:=yAz hk hs hf hr;exact⟨zWH hp.1 fun ts=>(hp.2 ts).2,fun x=>(hp.2 x).1,fun _=>hp⟩
  | true=>
  have q3:=zP6 ks;have hb:∀ vs∈ks.map Nd.its,zDZ (n+1) vs (basT vs (tL vs))/\∀ x,zMF (hdT (basT vs (tL vs)++x))=true:=fun vs hv=>by
   refine yB5 (fun v hm hsv=>?_) (hr vs hv (q2 vs hv).1);obtain⟨w1,w2⟩:=(hit vs hv v hm).2.2 hsv;exact⟨fun tk en z ro ts h1=>w1 tk en z ro ts (by omega),w2⟩
  have ha:∀ vs∈ks.map Nd.its,zMv n vs (argT vs (tL vs)):=fun vs hv=>yBp (q2 vs hv).1 (hr vs hv (q2 vs hv).1)
  refine(fun w=>⟨w.1,w.2,fun h=>absurd (hs.symm.trans h) (by simp)⟩:zJ6 (n+1) [.mk k t c ks] (tI (.mk k t c ks))/\(∀ x,zMF (hdT (tI (.mk k t c ks)++x))=true)->_) ?_;unfold tI;rw[q3];generalize ks.map Nd.its=ss at *;subst q1;rw[az]at h2;have hk3:k=7∨k=8∨k=9 :=(by simpa [scr1,or_assoc] using hs);have ht:t=[]:=by rcases hk3 with rfl | rfl | rfl <;> simpa [zFU] using h1
  subst ht;rcases hk3 with rfl | rfl | rfl
  ·have hh:c=0/\ss.length=2:=by
    exact gQ
   obtain⟨rfl,hh⟩:=hh;obtain⟨s0,s1,rfl⟩:=zIo hh;have w:=hb s0 (by simp);exact⟨yAa w.1 (ha s1 (by simp)),fun x=>by have:=w.2 (mk1 95::(argT s1 (tL s1)++x)); simpa [shp,aX] using this⟩
  ·have hh:c=0/\ss.length=2:=by
    exact gQ
   obtain⟨rfl,hh⟩:=hh;obtain⟨s0,s1,rfl⟩:=zIo hh;have w:=hb s0 (by simp);exact⟨yAb w.1 (ha s1 (by simp)),fun x=>by have:=w.2 (mk1 94::(argT s1 (tL s1)++x)); simpa [shp,aX] using this⟩
  have hh:c=0/\ss.length=3:=by
   have:c=0/\(ss.length:Int)=3 :=(by simpa [zDp] using h2);exact⟨this.1,by omega⟩
  obtain⟨rfl,hh⟩:=hh;obtain⟨s0,s1,s2,rfl⟩:=yAh hh;have w:=hb s0 (by simp);exact⟨zYa w.1 (ha s1 (by simp)) (ha s2 (by simp)),fun x=>by have:=w.2 (mk1 95::(argT s1 (tL s1)++mk1 94::(argT s2 (tL s2)++x))); simpa [shp,aX] using this⟩
def yBj  (hf:zBL 1 vs=true) (hn:Nd.cnts vs<=n) (hl:vs.length<=100000):zJd n vs (tL vs):=yBK hl fun v hv=>by
 obtain⟨g1,g2,g3⟩:=zGX hf hv;obtain⟨w1,w2,_⟩:=zYb n v (by omega) g2 (by simpa using g1);exact⟨w1,w2⟩
end
def yC0 {k:Int}{t:List UInt8} (h:zFU k t=true):t.length<=1000:=by
 unfold zFU at h;split at h
 ·unfold symB at h;split at h
  ·omega
  simp only[af,ay]at h; omega
 split at h
 ·simp only[numB,af,ay]at h; omega
 split at h
 ·simp only[af,ay]at h; omega
 split at h
 ·simp only[acL,any_cons,any_nil,Bool.or_false,bv,bD]at h;rcases h with rfl | rfl | rfl | rfl | rfl | rfl <;> decide
 split at h
 ·simp only[fenB,af,ay]at h; omega
 have:t=[] :=(by simpa using h);subst this; decide
def kZ {P:Prop} (h:P:=by simp only[af,bD]at h;exact⟨h.1,by omega⟩):P:=h
def step_ok:∀ (n:Nat) (v:Nd),v.cnt<=n->zCI v=true->v.kind ≠ 1->zD2 v (tI v)
 | 0,v,h,_,_=>by have:=v.cnt_pos; omega
 | n+1,.mk k t c ks,h,hf,hk=>by
  have h':=hf;simp only[zCI,af]at h';obtain⟨⟨h1,h2⟩,h3⟩:=h';obtain⟨q1,q2⟩:=zF4 hk h3;simp only[Nd.cnt]at h;have ht:=yC0 h1;have hr:∀ vs∈ks.map Nd.its,Acc (F39 vs) (tL vs):=fun vs hv=>by
   obtain⟨g1,g2,g3⟩:=q2 vs hv;exact yBJ (by omega) fun v hm=>by
    obtain⟨g4,g5,g6⟩:=zGX g1 hm;exact step_ok n v (by omega) g5 (by simpa using g4)
  have q3:=zP6 ks;unfold tI;rw[q3];by_cases hl:k=2∨k=3∨k=4
  ·obtain⟨rfl,rfl,hy⟩:=leaf hl hf;rcases hl with rfl | rfl | rfl
   ·show zD2 _ [(if t.length=1 then 1 else 4,t)];rcases hy rfl with h1 | ⟨h1,h2⟩
    ·rw[if_pos h1]; exact st_1 h1
    rw[if_neg (by omega)]; exact st_4 h1 ht
   ·exact st_2
   exact st_3 ht
  generalize ks.map Nd.its=ss at *;subst q1;rw[az]at h2;have ha:∀ vs∈ss,Acc (F164 vs) (argT vs (tL vs)):=fun vs hv=>arg_ (hr vs hv)
  have z2:∀ (m:Nat),((c == 0)&&((ss.length:Int) == (m:Int)))=true->c=0/\ss.length=m:=fun m h=>by
   exact kZ
  rcases kinds k with rfl | rfl | rfl | rfl | rfl | rfl | rfl | rfl | rfl | rfl | rfl | rfl | hx
  ·exact absurd rfl hk
  ·exact absurd (.inl rfl) hl
  ·exact absurd (.inr (.inl rfl)) hl
  ·exact absurd (.inr (.inr rfl)) hl
  ·obtain⟨rfl,hh⟩:=z2 2 h2;obtain rfl:t=[] :=(by simpa [zFU] using h1);obtain⟨s0,s1,rfl⟩:=zIo hh;exact yCS (ha _ (by simp)) (ha _ (by simp))
  ·obtain⟨rfl,hh⟩:=z2 2 h2;obtain rfl:t=[] :=(by simpa [zFU] using h1);obtain⟨s0,s1,rfl⟩:=zIo hh;show zD2 _ ((4,kR)::((bif s0.isEmpty then [] else mk1 91::(tL s0++[mk1 93]))++argT s1 (tL s1)));match s0,hr s0 (by simp) with
   | [],_=>exact yBa (ha _ (by simp))
   | v::vs,h0 =>
    have:=yCT (by simp) h0 (ha s1 (by simp));exact qA
  ·obtain⟨rfl,hh⟩:=z2 2 h2;obtain rfl:t=[] :=(by simpa [zFU] using h1);obtain⟨s0,s1,rfl⟩:=zIo hh;exact yEk (hr _ (by simp)) (ha _ (by simp))
  ·obtain⟨rfl,hh⟩:=z2 2 h2;obtain rfl:t=[] :=(by simpa [zFU] using h1);obtain⟨s0,s1,rfl⟩:=zIo hh;exact yEl (hr _ (by simp)) (ha _ (by simp))
  ·obtain⟨rfl,hh⟩:=z2 3 h2;obtain rfl:t=[] :=(by simpa [zFU] using h1);obtain⟨s0,s1,s2,rfl⟩:=yAh hh;exact yCR (hr _ (by simp)) (ha _ (by simp)) (ha _ (by simp))
  ·obtain⟨rfl,hh⟩:=z2 1 h2;obtain⟨s0,rfl⟩:=aT.1 hh;exact yEg ht (ha _ (by simp))
  ·obtain⟨rfl,hh⟩:=z2 1 h2;obtain⟨s0,rfl⟩:=aT.1 hh;show zD2 _ (if t=[40,41] then mk1 40::(tL s0++[mk1 41]) else if t=[91,93] then mk1 91::(tL s0++[mk1 93]) else (5,t)::argT s0 (tL s0));by_cases e1:t=[40,41]
   ·subst e1; rw[if_pos rfl]; exact yEj (hr _ (by simp))
   rw[if_neg e1];by_cases e2:t=[91,93]
   ·subst e2; rw[if_pos rfl]; exact yES (hr _ (by simp))
   rw[if_neg e2]; exact yEh e1 e2 ht (ha _ (by simp))
  ·have hh:1<=c/\1<=ss.length/\ss.length<=256:=by
    have:1<=c/\c<=16/\1<=(ss.length:Int)/\(ss.length:Int)<=256/\(ss.length:Int).tmod c=0 :=(by simpa [zDp] using h2);exact⟨this.1,by omega,by omega⟩
   obtain rfl:t=[] :=(by simpa [zFU] using h1);obtain⟨cn,rfl⟩:=aM (by omega:0<=c);refine yEi (mat_ (yBG (cn:=cn) (by omega) ss (ss.map tL) 0 (by simp) (fun p hp=>?_) ⟨by rw[az]; omega,Int.le_refl _,by omega,rfl⟩));obtain⟨i,hi,rfl⟩:=List.mem_iff_getElem.1 hp;simp only[getElem_zip,getElem_map];exact hr _ (aV _)
  exfalso;simp only[zDp,af]at h2;have f:∀ i:Int,1<=i->i<=12->k ≠ i:=fun i h1 h2=>by omega
  exact jF
def yCY {vs:List Nd} (hf:zBL 1 vs=true) (hl:vs.length<=100000):Acc (F39 vs) (tL vs):=yBJ hl fun v hv=>by
 obtain⟨g1,g2,g3⟩:=zGX hf hv;exact step_ok v.cnt v (ar _) g2 (by simpa using g1)
def yCW:OwnSound Tryz.prog 40 fun xs os x os'=>∃ p q,xs=[.op 0 1]/\os=[.box 91 [p,q,.nl 1]]/\x = .s (.str [])/\os'=[some (.box 91 [p,q,.nl 1])]:=by
 rintro G w O xs vs os x os' hlt hgl hv hxl hobs ⟨p,q,rfl,rfl,rfl,rfl⟩;obtain⟨hob0,hl0⟩:=hobs.1 0 (.box 91 [p,q,.nl 1]) rfl;obtain⟨b,e',cur,h1,h2,h3,h4,h5,h6,rfl⟩:=id hob0;simp only[AVals,AVal]at hv;obtain⟨v,vs',rfl,⟨b',hb',rfl⟩,rfl⟩:=hv;have hbb:b'=b :=(by rw[h1]at hb'; simpa using hb'.symm);subst hbb;have hc:w.cell? ⟨b',1+1,none⟩=some (.slice none 0 0):=by
  obtain⟨u,hu,hr⟩:=h5.get (i:=2) (x:=.nl 1) rfl;simp only[AVal]at hr;rw[aI]at hu;simp[World.cell?,h2,hu,hr]
 refine(Tryz.bld_String0 b' 1 w hc).mono fun e2 w' ⟨he,hw⟩=>?_
 subst hw;have hk:Keep G G w w.drew:=⟨fun _ h=>h,fun _ _=>rfl⟩;refine⟨.string .empty,G,O,he,⟨rfl,rfl,rfl,ar _,fun i hi hx=>rfl⟩,fun _ h=>h,fun _ h=>.inl h,hlt,by simp only[AVal,Rep]; rfl,rfl,ar _,⟨fun i ob hi=>?_,hobs.2⟩,fun i ob hi ho=>rfl⟩;exact qR
def yBf {l:List UInt8}{tr:List (List S)} (h0:l ≠ []) (hl:l.length<=1000000000):E 40 [.op 0 1] [.box 91 [nL tr,.op 0 1,.orow 1],.row 5 1 (l.map brow)] (nS l) [some (.box 91 [nL tr,.op 0 1,.junk]),none] :=
 OwnSound.evl Tryz.call40 (zNB (D:=91) (e:=5) (off:=1) (cells:=[nL tr,.op 0 1,.orow 1]) rfl rfl rfl (fun i x h h1 h2=>by
  match i,h with
  | 0,h=>cases h; rfl
  | 1,_=>exact absurd rfl h1
  | 2,_=>exact absurd rfl h2
  | i+3,h=>simp at h) fun b g cap l w cur mk=>Tryz.bld_String b 1 g cap l w cur mk) ⟨l,h0,by omega,rfl,rfl,rfl,rfl⟩
def yBF:∀ (l:List Tkn) (lt:Option Tkn) (t:Tkn),t∈l->splT t ≠ []->outF lt l ≠ []
 | a::l,lt,t,h,hs=>by
  unfold outF;rcases aR.1 h with rfl | h
  ·intro e; simp only[append_eq_nil_iff]at e; exact hs e.1.2
  ·have:=yBF l (some a) t h hs;intro e; simp only[append_eq_nil_iff]at e; exact this e.2
def yEU {v:Nd} (hf:zCI v=true) (hk:v.kind ≠ 1):∃ t∈tI v,splT t ≠ []:=by
 obtain⟨k,t,c,ks⟩:=v;have h':=hf;simp only[zCI,af]at h';obtain⟨⟨h1,h2⟩,h3⟩:=h';obtain⟨q1,q2⟩:=zF4 hk h3;have q3:=zP6 ks;unfold tI;rw[q3];by_cases hl:k=2∨k=3∨k=4
 ·obtain⟨rfl,rfl,hy⟩:=leaf hl hf;rcases hl with rfl | rfl | rfl
  ·refine⟨_,mem_singleton_self _,?_⟩;rcases hy rfl with h1 | ⟨h1,h2⟩
   ·have:t ≠ [] :=(by rintro rfl; cases h1);show splT (if t.length=1 then 1 else 4,t) ≠ [];rw[if_pos h1]; exact this
   show splT (if t.length=1 then 1 else 4,t) ≠ [];rw[if_neg (by omega)]; simp[splT]
  ·refine⟨_,mem_singleton_self _,?_⟩;have:numB t=true:=h1;have:t ≠ [] :=(by rintro rfl; cases this);exact this
  exact⟨_,mem_singleton_self _,by simp[splT]⟩
 generalize ks.map Nd.its=ss at *;subst q1;rw[az]at h2;have z2:∀ (m:Nat),((c == 0)&&((ss.length:Int) == (m:Int)))=true->c=0/\ss.length=m:=fun m h=>by
  exact kZ
 have hm:∀ b,splT (mk1 b) ≠ []:=fun b=>by simp[splT,mk1]
 rcases kinds k with rfl | rfl | rfl | rfl | rfl | rfl | rfl | rfl | rfl | rfl | rfl | rfl | hx
 ·exact absurd rfl hk
 ·exact absurd (.inl rfl) hl
 ·exact absurd (.inr (.inl rfl)) hl
 ·exact absurd (.inr (.inr rfl)) hl
 ·obtain⟨rfl,hh⟩:=z2 2 h2;obtain⟨s0,s1,rfl⟩:=zIo hh;exact⟨(4,kF),ak,by simp[splT]⟩
 ·obtain⟨rfl,hh⟩:=z2 2 h2;obtain⟨s0,s1,rfl⟩:=zIo hh;exact⟨(4,kR),ak,by simp[splT]⟩
 ·obtain⟨rfl,hh⟩:=z2 2 h2;obtain⟨s0,s1,rfl⟩:=zIo hh;exact⟨mk1 95,aN.2 (.inr ak),hm _⟩
 ·obtain⟨rfl,hh⟩:=z2 2 h2;obtain⟨s0,s1,rfl⟩:=zIo hh;exact⟨mk1 94,aN.2 (.inr ak),hm _⟩
 ·obtain⟨rfl,hh⟩:=z2 3 h2;obtain⟨s0,s1,s2,rfl⟩:=yAh hh;exact⟨mk1 95,aN.2 (.inr ak),hm _⟩
 ·obtain⟨rfl,hh⟩:=z2 1 h2;obtain⟨s0,rfl⟩:=aT.1 hh;exact⟨(4,t),ak,by simp[splT]⟩
 ·obtain⟨rfl,hh⟩:=z2 1 h2;obtain⟨s0,rfl⟩:=aT.1 hh;show ∃ u∈(if t=[40,41] then mk1 40::(tL s0++[mk1 41]) else if t=[91,93] then mk1 91::(tL s0++[mk1 93]) else (5,t)::argT s0 (tL s0)),splT u ≠ [];by_cases e1:t=[40,41]
  ·rw[if_pos e1]; exact⟨_,ak,hm _⟩
  rw[if_neg e1];by_cases e2:t=[91,93]
  ·rw[if_pos e2]; exact⟨_,ak,hm _⟩
  rw[if_neg e2]; exact⟨_,ak,by simp[splT]⟩
 ·exact⟨(4,kM),ak,by simp[splT]⟩
 exfalso;simp only[zDp]at h2;have f:∀ i:Int,1<=i->i<=12->k ≠ i:=fun i h1 h2=>by omega
 exact jF
abbrev zMO (vs:List Nd):List UInt8:=outF none (tL vs)
def yD5 {vs:List Nd} (hf:zBL 1 vs=true) (hl:vs.length<=100000) (hn:(tL vs).length<=90000) (hw:wT (tL vs)<=90000000) (hv:E 27 [rowV vs] [] (nB true) []):E 16 [rowV vs] [] (.tup [nS (zMO vs),nI 0]) []:=by
 match vs,hf with
 | [],_ =>
  have e1:E 39 [.op 0 0,rowV []] [.box 91 [.nl 4,.s .np,.nl 1]] (.tup []) [some (.box 91 [.nl 4,.s .np,.nl 1])]:=ev [] (by kernel_rfl);have e2:E 40 [.op 0 1] [.box 91 [.nl 4,.s .np,.nl 1]] (nS []) [some (.box 91 [.nl 4,.s .np,.nl 1])]:=OwnSound.evl Tryz.call40 yCW ⟨_,_,rfl,rfl,rfl,rfl⟩;exact ev [C hv,C e1,C e2] (by kernel_rfl)
 | v::vs,hf =>
  obtain⟨tr,h1,h2,h3⟩:=yCY hf hl none [] [] (.inl ⟨rfl,rfl⟩) (by simpa using hn) (by simpa using hw);obtain⟨g1,g2,g3⟩:=zGX hf ak;obtain⟨t,m1,m2⟩:=yEU g2 (by simpa using g1);have hne:zMO (v::vs) ≠ []:=yBF _ _ t (aN.2 (.inl m1)) m2;have hlast:pOf (zOP none (tL (v::vs))) = .op 0 1:=by
   cases e:tL (v::vs) with
   | nil=>exact absurd (show zMO (v::vs)=[] by rw[zMO,e]; rfl) hne
   | cons a l=>exact zMZ l (some a) rfl
  have hlen:=zMY (tL (v::vs)) none;rw[hlast,bE]at h3;exact ev [C hv,.take 1 0 194,.take 1 2 5,C h3,.give 4,C (yBf (tr:=tr) hne (bc hlen (by omega)))] (by kernel_rfl)
section
def nObj (tk:List Tk) (en:Int):List (Option Ob):=[some (.box 149 [.s (.sl 4 (tk.map Tk.enc)),nI 0,nI en,.nl 1,.s .np,nI 0,.mref 1,nI 0,nB false]),some (.any (.map pK) pM)]
def new_ (tk:List Tk) (en:Int):E 70 [nL (tk.map Tk.enc),nI en,.s .np,nI 0] [] (.op 0 0) (nObj tk en):=ev [] (by kernel_rfl)
abbrev rowW (vs:List Nd):AV:=.agg [nI 1,nS [],nI 0,nL (Nd.encs vs)]
variable {vs:List Nd}{s:List UInt8}
def yDV {tk:List Tk} (ht:E 69 [nS s] [] (.tup [nL (tk.map Tk.enc),nI 0,nI 0]) []) (hk:tk.map Tk.key=tL vs) (hl:tk.length<=100000) (hr:zJd 1000 vs (tL vs)):E 41 [nS s,.s .np,nI 0] [] (.tup [rowW vs,nB true,fl0]) []:=by
 obtain⟨z',h1,h2⟩:=hr tk (s.length:Int) 0 [] [] (by simp) ⟨hl,Int.le_refl _,by omega,by rw[bs]; exact hk⟩ rfl (fun _=>rfl);exact ev [C ht,C (new_ tk (s.length:Int)),.take 2 3 3,C h2,B 50 h1.done] (by kernel_rfl)
def yC7  (hp:E 41 [nS s,.s .np,nI 0] [] (.tup [rowW vs,nB true,fl0]) []) (hv:E 27 [rowW vs] [] (nB true) []):E 17 [nS s,.s .np] [] (.tup [rowW vs,nI 0,nI 0]) [] :=
 ev [C hp,C hv] (by kernel_rfl)
end
section
def mk_v {b:UInt8} (h:clsB b=5):TkV (mk1 b):=.mark b _ h
def yEd (b:UInt8):(!(spB b)||(clsB b == 4))=true:=zIP (P:=fun b=>!(spB b)||(clsB b == 4)) (by decide +kernel) b
variable {t:List UInt8}
def yET  (h:symB t=true):TkV (if t.length=1 then 1 else 4,t):=by
 unfold symB at h;split at h
 ·rename_i h1;rw[if_pos h1];obtain⟨b,rfl⟩:=aT.1 h1;simp only[all_cons,all_nil,Bool.and_true,bv]at h;refine .sym b _ (h.imp yDm fun h=>?_);have:=yEd b;rw[h]at this
  exact qA
 rename_i h1;rw[if_neg h1];simp only[af,ay,Bool.not_eq_true']at h;refine .name t _ h.1 (fun e=>?_) (fun e=>?_) h.2.2.1 rfl
 ·rw[e]at h; have:=h.2.2.2.1; revert this; decide
 rw[e]at h; have:=h.2.1; simp at this
def yEy  (h:(acL.any fun e=>e == t)=true):TkV (4,t):=by
 simp only[acL,any_cons,any_nil,Bool.or_false,bv,bD]at h;rcases h with rfl | rfl | rfl | rfl | rfl | rfl <;> exact .name _ _ (by decide) (by decide) (by decide) (by decide) rfl
variable {l:List Tkn}
def yDj  (h:∀ t∈l,TkV t):∀ t∈brc l,TkV t:=fun t ht=>by
 simp only[brc,mem_cons,mem_append,not_mem_nil,or_false]at ht;rcases ht with rfl | ht | rfl
 ·exact mk_v (by decide)
 ·exact h t ht
 exact mk_v (by decide)
variable {vs:List Nd}
def zQA  (h:∀ t∈l,TkV t):∀ t∈argT vs l,TkV t:=by
 unfold argT; cases zO9 vs
 ·exact yDj h
 exact h
def yB4  (h:∀ t∈l,TkV t):∀ t∈basT vs l,TkV t:=by
 unfold basT; cases scrI vs
 ·exact h
 exact yDj h
def zXO {c:Int}:∀ (ls:List (List Tkn)) (i:Nat),(∀ l∈ls,∀ t∈l,TkV t)->∀ t∈zFm c i ls,TkV t
 | [],_,_,t,ht=>by cases ht
 | l::ls,i,h,t,ht=>by
  unfold zFm at ht;rcases aN.1 ht with ht | ht
  ·unfold sepT at ht;split at ht
   ·cases ht
   split at ht
   ·rw[aD.1 ht]; exact .brk _
   ·rw[aD.1 ht]; exact mk_v (by decide)
  ·rcases aN.1 ht with ht | ht
   ·exact h l ak t ht
   ·exact zXO ls (i+1) (fun l hl=>h l (aG _ hl)) t ht
def zZj:∀ {vs:List Nd},(∀ v∈vs,∀ t∈tI v,TkV t)->∀ t∈tL vs,TkV t
 | [],_,t,ht=>by cases ht
 | v::vs,h,t,ht=>(aN.1 ht).elim (h v ak t) (zZj (fun w hw=>h w (aG _ hw)) t)
def zYo:TkV (4,kF)/\TkV (4,kR)/\TkV (4,kM):=⟨.name _ _ (by decide) (by decide) (by decide) (by decide) rfl,.name _ _ (by decide) (by decide) (by decide) (by decide) rfl,.name _ _ (by decide) (by decide) (by decide) (by decide) rfl⟩
def kV {P:Prop} (h:P:=by obtain⟨rfl,hh⟩:=z2 2 h2;obtain⟨s0,s1,rfl⟩:=zIo hh;exact app (yB4 (hr _ (by simp))) (cons (mk_v (by decide)) (zQA (hr _ (by simp))))):P:=h
def tI_v:∀ (n:Nat) (v:Nd),v.cnt<=n->zCI v=true->v.kind ≠ 1->∀ t∈tI v,TkV t
 | 0,v,h,_,_=>by have:=v.cnt_pos; omega
 | n+1,.mk k t c ks,h,hf,hk=>by
  have h':=hf;simp only[zCI,af]at h';obtain⟨⟨h1,h2⟩,h3⟩:=h';obtain⟨q1,q2⟩:=zF4 hk h3;simp only[Nd.cnt]at h;have hr:∀ vs∈ks.map Nd.its,∀ t∈tL vs,TkV t:=fun vs hv=>by
   obtain⟨g1,g2,g3⟩:=q2 vs hv;exact zZj fun v hm=>by
    obtain⟨g4,g5,g6⟩:=zGX g1 hm;exact tI_v n v (by omega) g5 (by simpa using g4)
  have q3:=zP6 ks;unfold tI;rw[q3];by_cases hl:k=2∨k=3∨k=4
  ·obtain⟨rfl,rfl,hy⟩:=leaf hl hf;rcases hl with rfl | rfl | rfl
   ·show ∀ u∈[((if t.length=1 then 1 else 4:Int),t)],TkV u;intro u hu;rw[aD.1 hu];exact yET h1
   ·intro u hu;rw[aD.1 (show u∈[((2:Int),t)] from hu)];exact .num t _ h1 rfl rfl
   intro u hu;rw[aD.1 (show u∈[((3:Int),t)] from hu)];have:t.length<=200/\t.all zEP=true :=(by simpa [zFU] using h1);exact .txt t _ this.2 this.1
  generalize ks.map Nd.its=ss at *;subst q1;rw[az]at h2;have z2:∀ (m:Nat),((c == 0)&&((ss.length:Int) == (m:Int)))=true->c=0/\ss.length=m:=fun m h=>by
   exact kZ
  have cons {a:Tkn} {l:List Tkn} (h1:TkV a) (h2:∀ t∈l,TkV t):∀ t∈a::l,TkV t:=fun t ht=>(aR.1 ht).elim (fun e=>e ▸ h1) (h2 t)
  have app {l1 l2:List Tkn} (h1:∀ t∈l1,TkV t) (h2:∀ t∈l2,TkV t):∀ t∈l1++l2,TkV t:=fun t ht=>(aN.1 ht).elim (h1 t) (h2 t)
  have nil:∀ t∈([]:List Tkn),TkV t:=fun t ht=>by cases ht
  rcases kinds k with rfl | rfl | rfl | rfl | rfl | rfl | rfl | rfl | rfl | rfl | rfl | rfl | hx
  ·exact absurd rfl hk
  ·exact absurd (.inl rfl) hl
  ·exact absurd (.inr (.inl rfl)) hl
  ·exact absurd (.inr (.inr rfl)) hl
  ·obtain⟨rfl,hh⟩:=z2 2 h2;obtain⟨s0,s1,rfl⟩:=zIo hh;exact cons zYo.1 (app (zQA (hr _ (by simp))) (zQA (hr _ (by simp))))
  ·obtain⟨rfl,hh⟩:=z2 2 h2;obtain⟨s0,s1,rfl⟩:=zIo hh;refine cons zYo.2.1 (app ?_ (zQA (hr _ (by simp))));cases s0.isEmpty with
   | true=>exact nil
   | false=>exact cons (mk_v (by decide)) (app (hr _ (by simp)) (cons (mk_v (by decide)) nil))
  ·exact kV
  ·exact kV
  ·obtain⟨rfl,hh⟩:=z2 3 h2;obtain⟨s0,s1,s2,rfl⟩:=yAh hh;exact app (yB4 (hr _ (by simp))) (cons (mk_v (by decide)) (app (zQA (hr _ (by simp))) (cons (mk_v (by decide)) (zQA (hr _ (by simp))))))
  ·obtain⟨rfl,hh⟩:=z2 1 h2;obtain⟨s0,rfl⟩:=aT.1 hh;exact cons (yEy h1) (zQA (hr _ (by simp)))
  ·obtain⟨rfl,hh⟩:=z2 1 h2;obtain⟨s0,rfl⟩:=aT.1 hh;show ∀ u∈(if t=[40,41] then mk1 40::(tL s0++[mk1 41]) else if t=[91,93] then mk1 91::(tL s0++[mk1 93]) else (5,t)::argT s0 (tL s0)),TkV u;by_cases e1:t=[40,41]
   ·rw[if_pos e1]; exact cons (mk_v (by decide)) (app (hr _ (by simp)) (cons (mk_v (by decide)) nil))
   rw[if_neg e1];by_cases e2:t=[91,93]
   ·rw[if_pos e2]; exact cons (mk_v (by decide)) (app (hr _ (by simp)) (cons (mk_v (by decide)) nil))
   rw[if_neg e2];have hfb:fenB t=true:=h1;simp only[fenB,af,ay]at hfb;obtain⟨a,b,rfl⟩:=zIo hfb.1;have:=hfb.2;simp only[all_cons,all_nil,Bool.and_true,af]at this;exact cons (.fen a b _ this.1 this.2) (zQA (hr _ (by simp)))
  ·exact cons zYo.2.2 (cons (mk_v (by decide)) (app (zXO _ _ fun l hl=>by
    obtain⟨vs,hv,rfl⟩:=be.1 hl;exact hr vs hv) (cons (mk_v (by decide)) nil)))
  exfalso;simp only[zDp]at h2;have f:∀ i:Int,1<=i->i<=12->k ≠ i:=fun i h1 h2=>by omega
  exact jF
def tL_v  (hf:zBL 1 vs=true):∀ t∈tL vs,TkV t:=zZj fun v hv=>by
 obtain⟨g1,g2,g3⟩:=zGX hf hv;exact tI_v v.cnt v (ar _) g2 (by simpa using g1)
def totT:List (List Tkn)->Nat
 | []=>0
 | l::ls=>l.length+totT ls
def zSr {c:Int}:∀ (ls:List (List Tkn)) (i:Nat),(zFm c i ls).length<=totT ls+ls.length
 | [],_=>by simp[zFm]
 | l::ls,i=>by
  have:=zSr (c:=c) ls (i+1);have hs:(sepT c i).length<=1:=by
   unfold sepT;split
   ·simp
   split <;> simp
  simp only[zFm,totT,am,ah];omega
def zNu (vs:List Nd) (l:List Tkn):(argT vs l).length<=l.length+2:=by
 unfold argT brc; cases zO9 vs <;> simp
def zXI (vs:List Nd) (l:List Tkn):(basT vs l).length<=l.length+2:=by
 unfold basT brc; cases scrI vs <;> simp
def yCP (k:Int) (t:List UInt8) (c:Int) (ss:List (List Nd)) (ls:List (List Tkn)):(shp k t c ss ls).length<=totT ls+3+3 * ls.length:=by
 unfold shp;split
 ·have:=zSr (c:=c) ls 0;simp only[ah,am,an];omega
 split
 ·rename_i s l;have:=zNu s l;simp only[totT,ah,an];repeat' split
  all_goals (simp only[ah,am,an]; omega)
 ·rename_i s0 s1 l0 l1;have h0:=zNu s0 l0;have h1:=zNu s1 l1;have h2:=zXI s0 l0;simp only[totT,ah,an];split
  ·simp only[ah,am]; omega
  split
  ·cases s0.isEmpty
   ·simp only[ae,ah,am,an]; omega
   simp only[ag,ah,am,an]; omega
  simp only[ah,am]; omega
 ·rename_i s0 s1 s2 l0 l1 l2;have h0:=zXI s0 l0;have h1:=zNu s1 l1;have h2:=zNu s2 l2;simp only[totT,ah,an,am];omega
 simp;omega
mutual
def yEp:∀ v:Nd,(tI v).length<=4 * v.cnt
 | .mk k t c ks=>by
  have h1:=yCP k t c (ks.map Nd.its) (tRs ks)
  have h2:=zZk ks
  simp only[tI,Nd.cnt]
  omega
def zZk:∀ ks:List Nd,totT (tRs ks)+3 * (tRs ks).length<=4 * Nd.cnts ks
 | []=>by simp[tRs,totT]
 | .mk _ _ _ vs::r=>by
  have h1:=zZi vs
  have h2:=zZk r
  simp only[tRs,totT,ah,Nd.cnts,Nd.cnt]
  omega
def zZi:∀ vs:List Nd,(tL vs).length<=4 * Nd.cnts vs
 | []=>by simp[tL]
 | v::vs=>by
  have h1:=yEp v
  have h2:=zZi vs
  simp only[tL,Nd.cnts,am]
  omega
end
def yA8 {t:Tkn} (h:TkV t):(splT t).length<=500:=by
 cases h with
 | sym b _ hb=>simp[splT]
 | num t _ hn h1 h2 =>
            have:t.length<=20 :=(by simp only[numB,af,ay]at hn; exact hn.2.2.1);show t.length<=500; omega
 | txt t _ hp hl=>have:=zUh t; simp only[splT,if_pos,ah,am,an]; omega
 | name t _ hp hf h0 hl h1=>show t.length+1<=500; omega
 | fen a c _ h1 h2=>simp[splT,fenL]
 | mark b _ hb=>simp[splT]
 | brk _=>decide
def yBT:∀ {l:List Tkn},(∀ t∈l,TkV t)->wT l<=501 * l.length
 | [],_=>by simp[wT]
 | t::l,h=>by
  have h1:=yA8 (h t ak);have h2:=yBT fun u hu=>h u (aG _ hu)
  simp only[wT,ah];omega
end
end Go.Proofs.YtbfnjnljboncgaaGreat
