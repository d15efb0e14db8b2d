/-
  Joined out of: LibW, AbsY, LibO, LibR, HnE, LibE, HnF, RfA, RfB, LibV, LibK, MHn, HnH, PTypO, PTypR, PHAwk, PHNil.
-/
import Derived.WalkKit
import Derived.Lib.Walk
import Derived.Lib.SliceRun
import Derived.Lib.AppendZerosOnto
import Derived.Shelf.RegionOpenPlain
import Derived.RangeFuncNested
import Derived.RangeFuncLeaves
import Derived.RangeFuncRecord
import Derived.Test.YtffhjiplcfncdaaZc
set_option linter.unusedVariables false
set_option linter.unusedSimpArgs false
set_option maxHeartbeats 2000000
set_option maxRecDepth 100000
namespace Go.Proofs.Ytffhjiplcfncdaa
open Go.Abs
theorem zFu {T : Nat → Option TI} {σ : St} {t ty q bt u : Nat} {i : TI} {cells : List AV} (h1 : σ.env t = .op q 0) (h2 : σ.hp q = some (.box bt cells)) (h3 : T ty = some i) (ha : i.k.agg = true) (hz : i.size = cells.length) : zHp T σ [.cell t ty,.tmp u] = some (.tup [AV.deep (.agg cells),(σ.env u).deep]):=by
 have hb : Nat.ble i.size cells.length = true :=(by rw [hz]; exact Nat.ble_eq_true_of_le (Nat.le_refl _));simp only [zHp,zFn,zKq,h1,h2,h3,ha,hb]
 rw [hz,List.take_length]
theorem Hole.base {hp : Nat → Option Ob} {e : Nat} {p p1 : AV} {y : Nd} {keys : List Nat} {F : Nd → Nd} (h : Hole hp e p keys p1 y F) : zAI p1 = zAI p ∨ zAI p1 ∈ keys:=by
 obtain ⟨keys0,rest,w0,a1,a2,a3,a4,_⟩:=h;rcases a4 with rfl | a4
 ·exact .inl rfl
 ·exact .inr (a1.mem_iff.2 (List.mem_append_right _ a4))
theorem At.ofV {hp : Nat → Option Ob} {e : Nat} {p v : AV} {k c : Int} {t : List UInt8} {ks : List Nd} {keys : List Nat} (hc : zAA hp p = some (zAG k t c v)) (h : VAt hp e v ks keys) : ∃ w,At hp e p (.mk k t c ks) keys [] w:=by
 rcases h with ⟨rfl,rfl,rfl⟩ | ⟨q,rows,keys',w,rfl,h1,h2,rfl,h3⟩
 ·exact ⟨0,by simp only [At]; exact ⟨_,hc,.inr (.inl (by simp))⟩⟩
 ·exact ⟨w,by simp only [At]; exact ⟨_,hc,.inr (.inr ⟨q,rows,keys',rfl,h1,h2,rfl,h3⟩)⟩⟩
def zKC (n : Nat) (xs : List AV) (r : Ret) : Prop:=∃ (a0 : Nd) (a1 : List Int) (a2 : Nd) (y0 : Nd) (y1 : Int),zF5 n a0 a1 a2 = some (y0,y1) ∧ xs = [.agg ((Nd.enc a0).map .s),.s (.sl 1 (a1.map (irow .i64))),.agg ((Nd.enc a2).map .s)] ∧ r = .val (.tup [.agg ((Nd.enc y0).map .s),.s (.int .i64 y1)])
def zHF : zAo:=zAx fun xs r=>∃ n,zKC n xs r
set_option maxHeartbeats 600000 in
theorem zKh : PSound Try.prog 59 zHF:=by
 have gok : ∀ f s,look? f [(24,zBJ),(75,zHA),(25,zHz)] = some s → PSound Try.prog f s:=zAu (by
  simp only [List.forall_mem_cons]
  exact ⟨zBV,zJm,zED,by simp⟩)
 refine zAB tokW Try.call59 Try.func59 rfl (fun xs r h=>by obtain ⟨n,_,_,_,_,_,_,rfl,_⟩:=h; show 3 ≤ _; decide) _ rfl ?_;rintro xs r w0 G0 ⟨f,⟨k,t,c,ks⟩,path,⟨rk,rt,rc,rks⟩,y0,y1,h,rfl,rfl⟩ _;rw [zF5] at h;obtain ⟨b,hb,h⟩:=zAc h;refine zAa ?_;refine zAb [6] [] rfl ?_;show Tri ..;refine zAa ?_;refine zAa ?_;refine zAb [] [] rfl ?_;refine ⟨_,⟨f,_,_,hb,rfl,rfl⟩,?_⟩
 show Tri ..;cases b with
 | false =>
  refine zAg rfl (fun _=>?_) (fun h=>by cases h)
  refine zAa ?_;refine zAb [] [] rfl ?_;show Tri ..;refine zAh ?_;obtain ⟨rfl,rfl⟩:=Prod.mk.inj (Option.some.inj h)
  unfold zAv;exact ⟨_,Le.refl _ _,rfl,rfl⟩
 | true =>
  refine zAg rfl (fun h=>by cases h) (fun _=>?_)
  refine zAi ?_;show Tri ..;rw [if_pos rfl] at h;obtain ⟨n1,hn1,h⟩:=zAc h;obtain ⟨hcnt,hn1⟩:=zAW hn1;obtain rfl:=Option.some.inj hn1;refine zAa ?_;refine zAb [8] [] rfl ?_;refine ⟨_,⟨k,c,t,ks,hcnt,rfl,fun v hp' n' keys h1 h2 h3 h4 h5=>?_⟩,fun _ _ _ h=>h⟩
  have hv1 : v.one = true ∧ ∀ m,n' < m → v.lt m = true:=by
   rcases h3 with ⟨_,rfl,_⟩ | ⟨q,_,_,_,rfl,_,_,hk,_⟩
   ·exact ⟨rfl,fun _ _=>rfl⟩
   ·exact ⟨rfl,fun m hm=>decide_eq_true (Nat.lt_trans (h5 q (by rw [hk]; exact List.mem_cons_self)).2 hm)⟩
  refine zJ8 (d:=16) ?_;refine zAd rfl rfl rfl rfl rfl rfl trivial ?_;refine zEq (sz:=4) (cs:=[.s (.int .i64 0),.s (.str []),.s (.int .i64 0),.nl 4]) (cs':=zAG k t c v) (p:=.op n' 0) rfl rfl rfl rfl rfl (.inr ⟨n',rfl⟩) rfl (zCo (bt:=24) (by show (bif Nat.beq n' n' then _ else hp' n') = _; rw [Nat.beq_refl]; rfl)) rfl rfl rfl (by simp only [zAG,List.all_cons,List.all_nil,hv1.1]; rfl) (by have h0 : v.lt (n' + 1) = true:=hv1.2 _ (Nat.lt_succ_self _); show AV.ltAll (n' + 1) (zAG k t c v) = true; simp only [zAG,AV.ltAll,h0]; rfl) ?_;show Tri ..
  refine zFr [(1,.s (.sl 1 (path.map (irow .i64)))),(5,.s (.pt (Nd.enc (.mk rk rt rc rks)))),(6,.op 0 0),(8,.op n' 0)] (n' + 1) ⟨rfl,rfl,rfl,rfl,trivial⟩ rfl fun H hH=>?_
  have g1 : H n' = some (.box 24 (zAG k t c v)):=(hH n').trans (by
   show putC (fun m=>bif Nat.beq m n' then some (Ob.box 24 [.s (.int .i64 0),.s (.str []),.s (.int .i64 0),.nl 4]) else hp' m) (.op n' 0) (zAG k t c v) n' = _;rw [zDN (bt:=24) (cs:=[.s (.int .i64 0),.s (.str []),.s (.int .i64 0),.nl 4]) (by simp only [Nat.beq_refl,cond_true])]
   simp only [Nat.beq_refl,cond_true])
  have g2 : ∀ m,m < n' → H m = hp' m:=fun m hm=>(hH m).trans (by
   show putC (fun m=>bif Nat.beq m n' then some (Ob.box 24 [.s (.int .i64 0),.s (.str []),.s (.int .i64 0),.nl 4]) else hp' m) (.op n' 0) (zAG k t c v) m = _;rw [zA0 (show m ≠ n' by omega),zCm (show m ≠ n' by omega)]; rfl)
  clear hH
  have g0 : H 0 = some (.box 24 [.s (.int .i64 0),.s (.str []),.s (.int .i64 0),.nl 4]):=(g2 0 h1).trans (h2 0 (Nat.lt_succ_self 0))
  obtain ⟨w,hat⟩:=At.ofV (zCo g1) (h3.frame fun m hm=>g2 m (h5 m hm).2)
  have hnd : (zAI (.op n' 0) :: keys).Nodup:=List.nodup_cons.2 ⟨fun hm=>Nat.lt_irrefl _ (h5 n' hm).2,h4⟩
  refine zAa ?_;refine zAb [] [] rfl ?_;refine ⟨_,⟨.op n' 0,.mk k t c ks,path,keys,w,rfl,.inr ⟨n',rfl⟩,hat,hnd,fun hf=>?_,fun p1 y F hf hole hF=>?_⟩,fun _ _ _ h=>h⟩
  ·rw [hf] at h;show Tri ..;refine zAa ?_;refine zAa ?_;refine zAb [] [] rfl ?_;show Tri ..;refine zAg rfl (fun _=>?_) (fun h=>by cases h)
   obtain ⟨rfl,rfl⟩:=Prod.mk.inj (Option.some.inj h)
   refine zAk (Le.forgetH [(6,.op 0 0)] H (n' + 1) ⟨rfl,trivial⟩ (fun _=>rfl) rfl) ?_;refine zAa ?_;refine zAb [] [] rfl ?_;refine zAd rfl rfl rfl rfl rfl rfl trivial ?_;refine zEq (sz:=4) (cs:=[.s (.int .i64 0),.s (.str []),.s (.int .i64 0),.nl 4]) (cs':=[.s (.int .i64 0),.s (.str []),.s (.int .i64 0),.nl 4]) (p:=.op 0 0) rfl rfl rfl rfl rfl (.inr ⟨0,rfl⟩) rfl (zCo (bt:=24) g0) rfl rfl rfl rfl rfl ?_;refine zAd rfl rfl rfl rfl rfl rfl trivial ?_;show Tri ..;refine zAh ?_;unfold zAv
   refine ⟨_,Le.refl _ _,(zFu (bt:=24) (cells:=[.s (.int .i64 0),.s (.str []),.s (.int .i64 0),.nl 4]) rfl ?_ rfl rfl rfl).trans rfl,rfl⟩
   show putC H (.op 0 0) _ 0 = _;rw [zDN (bt:=24) (cs:=[.s (.int .i64 0),.s (.str []),.s (.int .i64 0),.nl 4]) g0]; rfl
  ·rw [hf] at h;obtain ⟨keys1,w1,hat1,hl1,hnd1⟩:=hole.here hnd;refine zJ8 (d:=19) ?_;refine zAd rfl rfl rfl rfl rfl rfl trivial ?_;refine zAd rfl rfl rfl rfl rfl rfl trivial ?_;refine zAd rfl rfl rfl rfl rfl rfl trivial ?_;refine zAd rfl rfl rfl rfl rfl (zBF hl1 (.inl rfl) rfl rfl) trivial ?_;refine zAd rfl rfl rfl rfl rfl rfl trivial ?_;show Tri ..;refine zAk (Le.forgetH [(5,.s (.pt (Nd.enc (.mk rk rt rc rks)))),(6,.op 0 0),(8,.op n' 0),(9,p1),(10,.s (.bool true))] H (n' + 1) ⟨rfl,rfl,rfl,rfl,rfl,trivial⟩ (fun _=>rfl) rfl) ?_;refine zAa ?_;refine zAa ?_;refine zAb [] [] rfl ?_;show Tri ..
   refine zAg rfl (fun h=>by cases h) (fun _=>?_)
   refine zAi ?_;show Tri ..;obtain ⟨b2,hb2,h⟩:=zAc h;refine zAa ?_;refine zAa ?_;refine zAb [] [] rfl ?_;refine ⟨_,⟨f,_,_,hb2,rfl,rfl⟩,?_⟩
   show Tri ..;cases b2 with
   | false =>
    refine zAg rfl (fun _=>?_) (fun h=>by cases h)
    obtain ⟨rfl,rfl⟩:=Prod.mk.inj (Option.some.inj h)
    refine zAk (Le.forgetH [(6,.op 0 0)] H (n' + 1) ⟨rfl,trivial⟩ (fun _=>rfl) rfl) ?_;refine zAa ?_;refine zAb [] [] rfl ?_;refine zAd rfl rfl rfl rfl rfl rfl trivial ?_;refine zEq (sz:=4) (cs:=[.s (.int .i64 0),.s (.str []),.s (.int .i64 0),.nl 4]) (cs':=[.s (.int .i64 0),.s (.str []),.s (.int .i64 0),.nl 4]) (p:=.op 0 0) rfl rfl rfl rfl rfl (.inr ⟨0,rfl⟩) rfl (zCo (bt:=24) g0) rfl rfl rfl rfl rfl ?_;refine zAd rfl rfl rfl rfl rfl rfl trivial ?_;show Tri ..;refine zAh ?_;unfold zAv
    refine ⟨_,Le.refl _ _,(zFu (bt:=24) (cells:=[.s (.int .i64 0),.s (.str []),.s (.int .i64 0),.nl 4]) rfl ?_ rfl rfl rfl).trans rfl,rfl⟩
    show putC H (.op 0 0) _ 0 = _;rw [zDN (bt:=24) (cs:=[.s (.int .i64 0),.s (.str []),.s (.int .i64 0),.nl 4]) g0]; rfl
   | true =>
    refine zAg rfl (fun h=>by cases h) (fun _=>?_)
    refine zAi ?_;show Tri ..;rw [if_pos rfl] at h;obtain ⟨n2,hn2,h⟩:=zAc h;obtain ⟨hcnt2,hn2⟩:=zAW hn2;obtain rfl:=Option.some.inj hn2;refine zAk (Le.forgetH [(5,.s (.pt (Nd.enc (.mk rk rt rc rks)))),(6,.op 0 0),(8,.op n' 0),(9,p1)] H (n' + 1) ⟨rfl,rfl,rfl,rfl,trivial⟩ (fun _=>rfl) rfl) ?_;refine zAa ?_;refine zAb [] [] rfl ?_;refine zAd rfl rfl rfl rfl rfl (zBF hl1 (.inr rfl) rfl rfl) trivial ?_;refine zAd rfl rfl rfl rfl rfl rfl trivial ?_;refine ⟨_,⟨rk,rc,rt,rks,hcnt2,rfl,fun v2 hp2 n2 keys2 q1 q2 q3 q4 q5=>?_⟩,fun _ _ _ h=>h⟩
    refine zJ8 (d:=31) ?_;refine zAd rfl rfl rfl rfl rfl (zCK hl1 rfl rfl) trivial ?_;have hb1 : zAI p1 < n' + 1:=by
     rcases hole.base with h | h
     ·have : zAI p1 = n':=h
      omega
     ·have:=(h5 _ h).2; omega
    obtain ⟨yk,yt,yc,yks⟩:=y;obtain ⟨vy,hcy,_⟩:=hat1.full;have hcy2 : zAA hp2 p1 = some (zAG yk yt yc vy):=(zBh hl1 (q2 _ hb1)).trans hcy;have hv2 : v2.one = true ∧ v2.lt n2 = true:=by
     rcases q3 with ⟨_,rfl,_⟩ | ⟨q,_,_,_,rfl,_,_,hk,_⟩
     ·exact ⟨rfl,rfl⟩
     ·exact ⟨rfl,decide_eq_true (q5 q (by rw [hk]; exact List.mem_cons_self)).2⟩
    refine zEq (sz:=4) (cs':=zAG rk rt rc v2) rfl rfl rfl rfl rfl hl1 rfl hcy2 rfl rfl rfl (by simp only [zAG,List.all_cons,List.all_nil,hv2.1]; rfl) (by show AV.ltAll n2 (zAG rk rt rc v2) = true; simp only [zAG,AV.ltAll,hv2.2]; rfl) ?_;show Tri ..;refine zFr [(6,.op 0 0),(8,.op n' 0)] n2 ⟨rfl,rfl,trivial⟩ rfl fun H2 hH2=>?_
    have hH2 : ∀ m,H2 m = putC hp2 p1 (zAG rk rt rc v2) m:=hH2
    have hcp : zAA H2 p1 = some (zAG rk rt rc v2):=(zBh hl1 (hH2 _)).trans (zFZ hl1 hcy2)
    have hb2k : ∀ m ∈ keys2,H2 m = hp2 m:=fun m hm=>(hH2 m).trans (zA0 (by have hm1 : n' + 1 ≤ m:=(q5 m hm).1; omega))
    obtain ⟨w3,hat3⟩:=At.ofV hcp (q3.frame hb2k)
    obtain ⟨keys0,rest,w0',a1,a2,a3,a4,a5⟩:=hole;have hrest : ∀ m,m = n' ∨ m ∈ rest → m < n' + 1:=fun m hm=>by
     rcases hm with rfl | hm
     ·omega
     ·have:=(h5 m (a1.mem_iff.2 (List.mem_append_right _ hm))).2; omega
    obtain ⟨keys3,w4,hperm,hfin⟩:=a5 H2 (.mk rk rt rc rks) keys2 w3 (Sim.put (c:=zAG rk rt rc v2) hl1 hcy fun m hm=>(hH2 m).trans (zFt hl1 (q2 m (hrest m hm)) (q2 _ hb1))) hat3;have hput : F (.mk rk rt rc rks) = putL (.mk k t c ks) path (.mk rk rt rc rks):=(hF _).symm;rw [hput] at hfin;have hn0 : ∀ m,m = n' ∨ m ∈ keys3 → m ≠ 0:=fun m hm=>by
     have e1 : 1 ≤ n':=h1;rcases hm with rfl | hm
     ·omega
     ·rcases List.mem_append.1 (hperm.mem_iff.1 hm) with hm | hm
      ·have e2 : 1 ≤ m:=(h5 m (a1.mem_iff.2 (List.mem_append_right _ hm))).1
       omega
      ·have e2 : n' + 1 ≤ m:=(q5 m hm).1
       omega
    have hatD : At (fun m=>bif Nat.beq m 0 then none else H2 m) 24 (.op n' 0) (putL (.mk k t c ks) path (.mk rk rt rc rks)) keys3 [] w4:=hfin.frame (.inr ⟨n',rfl⟩) fun m hm=>by rw [zCm (hn0 m hm)]; rfl
    obtain ⟨cs,hcs,hrd⟩:=hatD.rd;rcases zBv (sz:=4) (.inr ⟨n',rfl⟩) hcs with ⟨q,i,e,rows,h1,_⟩ | ⟨q,bt,h1,hbt⟩
    ·cases h1
    cases h1;refine zAk (Le.givePart [(6,.op 0 0),(8,.s (.pt (Nd.enc (putL (.mk k t c ks) path (.mk rk rt rc rks)))))] (fun m=>bif Nat.beq m 0 then none else H2 m) (fun m=>bif Nat.beq m 0 then H2 m else none) (fun m ob hm=>by
     cases e : Nat.beq m 0 with
     | true=>rw [e] at hm; cases hm
     | false=>rw [e] at hm; exact hm) (fun m ob hm=>by
     cases e : Nat.beq m 0 with
     | true=>rw [e] at hm; exact hm
     | false=>rw [e] at hm; cases hm) (fun m ob ob' h1 h2=>by
     cases e : Nat.beq m 0 with
     | true=>rw [e] at h1; cases h1
     | false=>rw [e] at h2; cases h2) ⟨.inl rfl,.inr (Rd.box (off:=0) hbt hrd.1 hrd.2),trivial⟩) ?_
    have hb0 : 0 ≠ zAI p1:=by
     rcases a4 with rfl | a4
     ·exact Ne.symm (hn0 n' (.inl rfl))
     ·exact Ne.symm (hn0 _ (.inr (hperm.mem_iff.2 (List.mem_append_left _ a4))))
    have g3 : H2 0 = some (.box 24 [.s (.int .i64 0),.s (.str []),.s (.int .i64 0),.nl 4]):=(hH2 0).trans ((zA0 hb0).trans ((q2 0 (Nat.succ_pos n')).trans g0))
    clear hrd hcs hatD hfin hput
    generalize putL (.mk k t c ks) path (.mk rk rt rc rks) = T1 at *;obtain ⟨k9,t9,c9,ks9⟩:=T1;obtain ⟨b3,hb3,h⟩:=zAc h;refine zFr [(6,.op 0 0),(8,.s (.pt (Nd.enc (.mk k9 t9 c9 ks9))))] n2 ⟨rfl,rfl,trivial⟩ rfl fun H3 hH3=>?_
    have g4 : H3 0 = some (.box 24 [.s (.int .i64 0),.s (.str []),.s (.int .i64 0),.nl 4]):=(hH3 0).trans g3;refine zAa ?_;refine zAa ?_;refine zAb [] [] rfl ?_;refine ⟨_,⟨f,_,_,hb3,rfl,rfl⟩,?_⟩
    show Tri ..;cases b3 with
    | false =>
     refine zAg rfl (fun _=>?_) (fun h=>by cases h)
     obtain ⟨rfl,rfl⟩:=Prod.mk.inj (Option.some.inj h)
     refine zAk (Le.forgetH [(6,.op 0 0)] H3 n2 ⟨rfl,trivial⟩ (fun _=>rfl) rfl) ?_;refine zAa ?_;refine zAb [] [] rfl ?_;refine zAd rfl rfl rfl rfl rfl rfl trivial ?_;refine zEq (sz:=4) (cs:=[.s (.int .i64 0),.s (.str []),.s (.int .i64 0),.nl 4]) (cs':=[.s (.int .i64 0),.s (.str []),.s (.int .i64 0),.nl 4]) (p:=.op 0 0) rfl rfl rfl rfl rfl (.inr ⟨0,rfl⟩) rfl (zCo (bt:=24) g4) rfl rfl rfl rfl rfl ?_;refine zAd rfl rfl rfl rfl rfl rfl trivial ?_;show Tri ..;refine zAh ?_;unfold zAv
     refine ⟨_,Le.refl _ _,(zFu (bt:=24) (cells:=[.s (.int .i64 0),.s (.str []),.s (.int .i64 0),.nl 4]) rfl ?_ rfl rfl rfl).trans rfl,rfl⟩
     show putC H3 (.op 0 0) _ 0 = _;rw [zDN (bt:=24) (cs:=[.s (.int .i64 0),.s (.str []),.s (.int .i64 0),.nl 4]) g4]; rfl
    | true =>
     refine zAg rfl (fun h=>by cases h) (fun _=>?_)
     obtain ⟨rfl,rfl⟩:=Prod.mk.inj (Option.some.inj h)
     refine zAi ?_;show Tri ..;refine zAk (Le.forgetH [(6,.op 0 0),(8,.s (.pt (Nd.enc (.mk k9 t9 c9 ks9))))] H3 n2 ⟨rfl,rfl,trivial⟩ (fun _=>rfl) rfl) ?_;refine zAa ?_;refine zAb [] [] rfl ?_;refine zAd rfl rfl rfl rfl rfl rfl trivial ?_;refine zEq (sz:=4) (cs:=[.s (.int .i64 0),.s (.str []),.s (.int .i64 0),.nl 4]) (cs':=zAG k9 t9 c9 (.s (.sl 4 (Nd.encs ks9)))) (p:=.op 0 0) rfl rfl rfl rfl rfl (.inr ⟨0,rfl⟩) rfl (zCo (bt:=24) g4) rfl rfl rfl rfl rfl ?_;refine zAd rfl rfl rfl rfl rfl rfl trivial ?_;show Tri ..;refine zAh ?_;unfold zAv
     refine ⟨_,Le.refl _ _,(zFu (bt:=24) (cells:=zAG k9 t9 c9 (.s (.sl 4 (Nd.encs ks9)))) rfl ?_ rfl rfl rfl).trans rfl,rfl⟩
     show putC H3 (.op 0 0) _ 0 = _;rw [zDN (bt:=24) (cs:=[.s (.int .i64 0),.s (.str []),.s (.int .i64 0),.nl 4]) g4]; rfl
end Go.Proofs.Ytffhjiplcfncdaa
namespace Go.Abs
theorem PSound.giveTop {P : Program} {f e sz : Nat} {R : List AV → (Nat → Option Ob) → Nat → (AV → (Nat → Option Ob) → Nat → Prop) → Prop} {S : List AV → List S → List (List S) → Prop} (h : PSound P f (zJ4 R))
  (hS : ∀ xs cs rs,S xs cs rs → R xs (fun _=>none) 0 fun x hp n=>∃ q rows hpD,x = .agg (cs.map .s ++ [.orow q]) ∧ hp q = some (.arow e sz rows) ∧ rows.length = rs.length ∧ (∀ r ∈ rs,r.length = sz) ∧ (∀ k ob,hpD k = some ob → hp k = some ob ∧ k ≠ q) ∧
   ∀ (i : Nat) x s,rows.flatten[i]? = some x → rs.flatten[i]? = some s → Rd hpD x s) :
  PSound P f (zCU fun xs os x os'=>∃ cs rs,os = [] ∧ x = .agg (cs.map .s ++ [.orow 0]) ∧ os' = [some (.row e sz rs)] ∧ S xs cs rs):=by
 refine PSound.ofOwn h.1 fun G w β xs vs os x os' hlt hgl hv hxl hob ⟨cs,rs,ho,hx,ho',hs⟩=>?_
 subst ho; subst hx; subst ho'
 refine (h.2.2.2 R rfl G w β xs vs (fun _=>none) 0 _ hlt hgl hv hxl ⟨fun k ob hk=>(by cases hk),fun k ob hk=>(by cases hk),fun k k' ob ob' hk=>(by cases hk)⟩ (hS xs cs rs hs)).mono ?_;rintro e' w' ⟨v,G',β',x,hp',n',rfl,⟨q,rows,hpD,rfl,hq,hlen,hsz,hD,hrd⟩,hn,hfr,hsub,hnew,hlt',hx,hxl,hob,hst⟩
 let c : Cx:=zCR P w β (fun _=>none) 0 G 0
 have hk : Keep G G' w w':=⟨hsub,fun b hb=>hfr.old b (hlt b hb) (by rintro ⟨k,ob,h,_⟩; cases h)⟩
 have hc : Conc c G' β' ⟨fun _=>.junk,hpD,n'⟩ { tmps:=#[],defers:=[] } w':={
  defers:=rfl
  size:=rfl
  env:=fun t=>by simp only [AVal]
  envlt:=fun t=>rfl
  hp:=fun k ob hk=>hob.obs k ob (hD k ob hk).1
  hplt:=fun k ob hk=>hob.lts k ob (hD k ob hk).1
  inj:=fun k k' ob ob' hk hk'=>hob.inj k k' ob ob' (hD k ob hk).1 (hD k' ob' hk').1
  lt:=hlt'
  sub:=hsub
  new:=hnew
  fr:=hfr
  stay:=⟨hn,hst⟩
  glob:=hgl.keep hk }
 have hmine : ∀ b,c.mine b → w.heap.size ≤ b:=fun b hb=>by
  rcases hb with ⟨k,ob,h,_⟩ | h
  ·cases h
  ·exact h
 have hk' : Keep G' (allG G' β' hpD) w' w':=⟨fun _ h=>.inl h,fun _ _=>rfl⟩
 refine ⟨v,allG G' β' hpD,fun _=>β' q,rfl,⟨hfr.os,hfr.tape,hfr.output,hfr.size,fun b hb _=>hfr.old b hb (by rintro ⟨k,ob,h,_⟩; cases h)⟩,fun b hb=>.inl (hsub b hb),fun b hb=>?_,fun b hb=>?_,?_,?_,Nat.zero_le _,⟨fun i ob hi=>?_,fun i j ob ob' hi hj hne=>?_⟩,fun i ob hi=>absurd hi (Nat.not_lt_zero _)⟩
 ·rcases hb with hb | ⟨k,ob,h1,h2⟩
  ·exact (hnew b hb).imp id fun h=>.inr (hmine b h)
  ·exact .inr (.inr (hmine b (row_block (hc.hp k ob h1) b h2).2))
 ·rcases hb with hb | ⟨k,ob,h1,h2⟩
  ·exact hlt' b hb
  ·exact hc.blk_lt h1 h2
 ·simp only [AVal] at hx ⊢;obtain ⟨us,rfl,hus⟩:=hx;refine ⟨us,rfl,AVals.mk (by rw [hus.length]; simp) fun i y u hy hu=>?_⟩
  rw [List.getElem?_append] at hy
  by_cases hi : i < (cs.map AV.s).length
  ·rw [if_pos hi] at hy;obtain ⟨u',hu',hr⟩:=hus.get (i:=i) (x:=y) (by rw [List.getElem?_append,if_pos hi]; exact hy)
   rw [hu] at hu'; cases hu'
   rw [List.getElem?_map] at hy;obtain ⟨s,_,rfl⟩:=Option.map_eq_some_iff.1 hy;simp only [AVal] at hr ⊢;exact hr.keep hk'
  ·rw [if_neg hi] at hy;have h0 : i - (cs.map AV.s).length = 0 :=(by have:=(List.getElem?_eq_some_iff.1 hy).1; simpa using this);rw [h0] at hy;cases hy;obtain ⟨u',hu',hr⟩:=hus.get (i:=i) (x:=.orow q) (by rw [List.getElem?_append,if_neg hi,h0]; rfl)
   rw [hu] at hu'; cases hu'
   simp only [AVal] at hr ⊢;exact hr
 ·simp only [AV.lt]
  refine zCd fun i y hy=>?_
  rw [List.getElem?_append] at hy;split at hy
  ·rw [List.getElem?_map] at hy;obtain ⟨s,_,rfl⟩:=Option.map_eq_some_iff.1 hy
   rfl
  ·rename_i hi
   have h0 : i - (cs.map AV.s).length = 0 :=(by have:=(List.getElem?_eq_some_iff.1 hy).1; simpa using this);rw [h0] at hy;cases hy
   rfl
 ·match i,hi with
  | 0,hi =>
   cases hi;refine ⟨?_,rfl⟩
   obtain ⟨hl,hz,ho⟩:=hob.obs q _ hq;refine ⟨hsz,hz,?_⟩
   rcases ho with ⟨h1,rfl⟩ | ⟨b,cap,cur,h1,h2,h3,h4,h5,h6,h7⟩
   ·exact .inl ⟨h1,List.length_eq_zero_iff.1 (by simpa using hlen.symm)⟩
   ·refine .inr ⟨b,cap,cur,by rw [← hlen]; exact h1,by rw [← hlen]; exact h2,h3,h4,?_,.inr (hmine b h6),fun i s hi=>?_⟩
    ·rintro (hb | ⟨k,ob,g1,g2⟩)
     ·exact h5 hb
     ·exact hob.inj k q ob _ (hD k ob g1).1 hq (hD k ob g1).2 b g2 (by rw [h1]; rfl)
    ·have hfl:=zAC hl;have hfs:=zAC hsz;have hil : i < rows.flatten.length :=(by rw [hfl,hlen,← hfs]; exact (List.getElem?_eq_some_iff.1 hi).1);obtain ⟨u,hu,hr',_⟩:=h7 i _ (List.getElem?_eq_getElem hil)
     exact ⟨u,hu,(hrd i _ s (List.getElem?_eq_getElem hil) hi).rep hc hr'⟩
  | i + 1,hi=>simp at hi
 ·match i,j,hi,hj with
  | 0,0,_,_=>exact absurd rfl hne
  | 0,j + 1,_,hj=>simp at hj
  | i + 1,_,hi,_=>simp at hi
end Go.Abs
namespace Go.Proofs.Ytffhjiplcfncdaa
open Go.Abs
theorem VAt.rd {hp : Nat → Option Ob} {e : Nat} {v : AV} {ks : List Nd} {keys : List Nat} (h : VAt hp e v ks keys) : Rd hp v (.sl 4 (Nd.encs ks)):=by
 rcases h with ⟨rfl,rfl,_⟩ | ⟨q,rows,keys',w,rfl,hq,hlen,rfl,h⟩
 ·exact .s _
 ·exact Rd.rows hq hlen fun j x hj=>(by have:=LAt.rd h j x hj; rwa [Nat.zero_add] at this)
def zLl (xs : List AV) (cs : List S) (rs : List (List S)) : Prop:=∃ (a0 : Nd) (k c : Int) (t : List UInt8) (ks : List Nd),zCs a0 = some (.mk k t c ks) ∧ xs = [.agg ((Nd.enc a0).map .s)] ∧ cs = [.int .i64 k,.str t,.int .i64 c] ∧ rs = Nd.encs ks
theorem zH1 : PSound Try.prog 25 (zCU fun xs os x os'=>∃ cs rs,os = [] ∧ x = .agg (cs.map .s ++ [.orow 0]) ∧ os' = [some (.row 24 4 rs)] ∧ zLl xs cs rs):=by
 refine PSound.giveTop zED fun xs cs rs ⟨⟨k0,t0,c0,ks0⟩,k,c,t,ks,hm,hx,hcs,hrs⟩=>?_
 subst hx; subst hcs; subst hrs
 obtain ⟨⟨hq,hne⟩,hm⟩:=zAW hm;cases hm;refine ⟨k0,c0,t0,ks0,hq,rfl,fun v hp' n' keys _ _ hv hnd _=>?_⟩
 rcases hv with ⟨rfl,_⟩ | ⟨q,rows,keys',w,rfl,hq,hlen,rfl,hl⟩
 ·exact absurd rfl hne
 refine ⟨q,rows,fun k=>if k ∈ keys' then hp' k else none,rfl,hq,by rw [Nd.encs_eq,List.length_map]; exact hlen,fun r hr=>?_,fun k ob hk=>?_,zKV fun j r s hr hs=>?_⟩
 ·rw [Nd.encs_eq] at hr;obtain ⟨x,_,rfl⟩:=List.mem_map.1 hr;cases x; rfl
 ·dsimp only at hk;split at hk
  ·rename_i hm
   exact ⟨hk,fun e=>(List.nodup_cons.1 hnd).1 (by rw [← e]; exact hm)⟩
  ·cases hk
 ·rw [Nd.encs_eq,List.getElem?_map] at hs;cases hx : ks0[j]? with
  | none=>rw [hx] at hs; cases hs
  | some x =>
   rw [hx] at hs; cases hs
   obtain ⟨keys0,rest,w0,hperm,hat,_⟩:=LAt.hole (i:=0) hl hnd hx;rw [Nat.zero_add] at hat;obtain ⟨k2,t2,c2,ks2⟩:=x;obtain ⟨v,hc,hv⟩:=hat.full;rw [zDi hq,hr] at hc;cases hc;exact RdC.node (VAt.rd (hv.frame fun k hk=>by
    show (if k ∈ keys' then hp' k else none) = hp' k;rw [if_pos (hperm.mem_iff.2 (List.mem_append_left _ hk))]))
def zHB (xs : List AV) (os : List Ob) (x : AV) (os' : List (Option Ob)) : Prop:=∃ (a0 : Nd) (y0 : Nd),zCs a0 = some y0 ∧ xs = [.agg ((Nd.enc a0).map .s)] ∧ os = [] ∧ x = .agg (match y0 with | .mk k t c _=>[.s (.int .i64 k),.s (.str t),.s (.int .i64 c),.orow 0]) ∧ os' = [some (.row 24 4 (match y0 with | .mk _ _ _ ks=>Nd.encs ks))]
def zDp : zAo:=zCU (fun xs os x os'=>zHB xs os x os')
theorem zES : PSound Try.prog 25 zDp :=
 PSound.ofOwn zH1.1 fun G w β xs vs os x os' h1 h2 h3 h4 h5 ⟨a0,⟨k,t,c,ks⟩,hm,hx,ho,hr,ho'⟩ =>
  zH1.2.2.1 _ rfl G w β xs vs os x os' h1 h2 h3 h4 h5 ⟨[.int .i64 k,.str t,.int .i64 c],Nd.encs ks,ho,hr,ho',a0,k,c,t,ks,hm,hx,rfl,rfl⟩
end Go.Proofs.Ytffhjiplcfncdaa
namespace Go.Proofs
open Go.RowKit Go.Lib
theorem Try.Grow_nil_sNode (w : World) :
  Calls Try.prog 97 #[.slice none 0 0,.int .i64 0] w fun e w'=>e = .returned (.slice none 0 0) ∧ w' = w:=by
 have h2 : wrap64 0 = 0:=by unfold wrap64; omega
 go_enter Try.func97,Try.ntmps97
 go_wp2
 go_ret
 exact ⟨rfl,rfl⟩
set_option maxHeartbeats 4000000 in
theorem Try.Grow_new_sNode (i0 : TypeInfo) (z : Value) (hi0 : Try.prog.info? 24 = some i0) (hz0 : i0.zero = some z) (hs0 : 0 < i0.size)
  (n : Nat) (w : World) (hroom : 0 < n) (hbig : n * i0.bytes ≤ 140737488355328) (h63 : n ≤ 4611686018427387904) :
  Calls Try.prog 97 #[.slice none 0 0,.int .i64 n] w fun e w' =>
   e = .returned (.slice (some ⟨w.heap.size,0,none⟩) 0 (grownCap w n 0 24)) ∧
   w' = w.drew.alloc (.cells (#[] ++ Builtin.zeroCells z.cells n ++ Builtin.zeroCells z.cells (grownCap w n 0 24 - n)) 24):=by
 have h1 : ¬ ((n : Int) < 0) :=(by omega);have h2 : wrap64 0 = 0 :=(by unfold wrap64; omega);have h3 : wrap64 (n : Int) = (n : Int) :=(by unfold wrap64; omega);have h4 : (n : Int) > 0 :=(by omega);have hold : (Builtin.firstCells i0.size 0 (.slice none 0 0)).run Try.prog w.drew = .ok ([] : List Value).toArray w.drew:=run_firstCells_none w.drew i0.size 0 0 0;have hrz : ∀ ty,(Builtin.append_ #[22,3] ty #[.slice none 0 0,.int .i64 (n : Int)]).run Try.prog w =
   .ok (.slice (some ⟨w.heap.size,0,none⟩) n (grownCap w n 0 24)) (w.drew.alloc (.cells (#[] ++ Builtin.zeroCells z.cells n ++ Builtin.zeroCells z.cells (grownCap w n 0 24 - n)) 24)):=fun ty=>by
  have h:=Lib.run_append_grow_zeros w 22 3 ty 24 i0 z .i64 .i64 Try.underlying22 Try.underlying3 hi0 hz0 none 0 0 [] hold n (by omega) hs0 (by omega) (by omega) (by omega)
   (by rw [Nat.zero_add]; exact growslice_fits hroom hbig)
  rw [Nat.zero_add] at h;exact h
 have hGn : n ≤ grownCap w n 0 24:=grownCap_ge w _ _ _;obtain ⟨G,hG⟩ : ∃ G,G = grownCap w n 0 24:=⟨_,rfl⟩
 rw [← hG] at hrz hGn ⊢;have hG63 : G ≤ 9223372036854775807:=by
  have:=grownCap_le_maxLen w n 0 24 (by unfold maxLen; omega)
  rw [← hG] at this;unfold maxLen at this
  omega
 clear hold hG
 go_enter Try.func97,Try.ntmps97
 go_wp2_with (at_builtin; refine Lib.wpList_append_run _ rfl _ _ _ _ rfl _ _ rfl rfl _ _ (hrz _) ?_)
 all_goals (go_ret; exact ⟨rfl,rfl⟩)
end Go.Proofs
namespace Go.Proofs.Ytffhjiplcfncdaa
open Go.Abs
theorem zNx (z : Array Value) (n : Nat) : (Builtin.zeroCells z n).size = n * z.size:=by simp [Builtin.zeroCells]
def zFU (xs : List AV) (r : Ret) : Prop:=∃ (a0 : Int) (y0 : List Nd),zDD a0 = some y0 ∧ xs = [.nl 4,.s (.int .i64 a0)] ∧ r = .row 24 4 (Nd.encs y0)
def zDu : zAo:=zNN fun xs r=>zFU xs r
theorem zFF : PSound Try.prog 97 zDu :=
 ⟨Try.call97,fun G w xs vs r hl hg _ hv ⟨a0,y0,hm,hx,hr⟩=>by
  subst hx; subst hr
  obtain ⟨⟨q1,q2⟩,hm⟩:=zAW hm;obtain rfl:=Option.some.inj hm;obtain ⟨n,rfl⟩:=Int.eq_ofNat_of_zero_le q1;simp only [AVals,AVal,Rep] at hv;obtain ⟨_,_,rfl,rfl,_,_,rfl,rfl,rfl⟩:=hv
  by_cases h0 : n = 0
  ·subst h0;exact (Try.Grow_nil_sNode w).mono fun e w' ⟨h1,h2⟩=>by
    subst h2;exact ⟨_,G,h1,Ext.refl hl,fun r hr=>(by cases hr),by decide,.inl ⟨rfl,rfl⟩⟩
  obtain ⟨d,info,z,b1,b2,b3,b4,b5,b6,b7,b8,b9,b10⟩:=tokW 24 _ rfl;have i1 : info.size = 4:=b4;have i2 : info.bytes = 56:=b5;have hzs : z.cells.size = 4:=zGE b7 b8 b9;refine (Try.Grow_new_sNode info z b3 b6 (by omega) n w (by omega) (by rw [i2]; omega) (by omega)).mono fun e w' ⟨h1,h2⟩=>?_
  have hge : n ≤ grownCap w n 0 24 :=(by unfold grownCap Question.cut; simp);generalize grownCap w n 0 24 = g at *;refine ⟨_,G,h1,?_,fun r hr=>(by cases hr),by decide,.inr ⟨w.heap.size,g,#[] ++ Builtin.zeroCells z.cells n ++ Builtin.zeroCells z.cells (g - n),rfl,Nat.zero_le _,?_,by rw [h2]; exact zBS w.drew _,fun h=>Nat.lt_irrefl _ (hl _ h),Nat.le_refl _,fun i s hi=>by cases hi⟩⟩
  ·rw [h2]
   exact (Ext.drew hl).trans (Ext.own (w:=w.drew) hl _)
  ·simp only [Array.size_append,Array.size_empty,zNx,hzs]
   omega,
 fun R hR=>(by cases hR),fun R hR=>(by cases hR)⟩
def zFA (xs : List AV) (r : Ret) : Prop:=∃ (a0 : List Nd) (y0 : List Nd),zC8 a0 = some y0 ∧ xs = [.s (.sl 4 (Nd.encs a0))] ∧ r = .val (.s (.sl 4 (Nd.encs y0)))
def zC7 : zAo:=zAx fun xs r=>zFA xs r
theorem zFi : PSound Try.prog 90 zC7:=by
 have gok : ∀ (f : Nat) (s : zAo),(fun _=>none : Nat → Option zAo) f = some s → PSound Try.prog f s:=fun _ _ h=>by cases h
 refine zAB tokW Try.call90 Try.func90 rfl (fun xs r h=>by obtain ⟨_,_,_,rfl,_⟩:=h; show 1 ≤ _; decide) _ rfl ?_;rintro xs r w0 G0 ⟨l,y,h,rfl,rfl⟩ _;obtain ⟨hq,h⟩:=zAW h;obtain rfl:=Option.some.inj h;have hlen : (Nd.encs l).length = l.length:=rlen Nd.encs_eq l;refine zAa ?_;refine zAb [] [] rfl ?_;show Tri ..;refine zAa ?_;refine zAa ?_;refine zAb [] [] rfl ?_;intro b hb;show Tri ..;cases b with
 | true =>
  have hl:=hb rfl;refine zAg rfl (fun _=>?_) (fun h=>by cases h)
  refine zAa ?_;refine zAb [] [] rfl ?_;show Tri ..;refine zAh ?_;unfold zAv;exact ⟨_,Le.refl _ _,congrArg (fun z=>some (AV.s (.sl 4 z))) hl.symm,rfl⟩
 | false =>
  refine zAg rfl (fun h=>by cases h) (fun _=>?_)
  refine zAi ?_;show Tri ..;refine zAa ?_;refine zAb [5,7] [] rfl ?_;refine And.intro (show (([] : List (List S)).length + (Nd.encs l).length) * 56 ≤ 140737488355328 ∧ ([] : List (List S)).length + (Nd.encs l).length ≤ 9223372036854775807 from by rw [hlen]; simp only [List.length_nil]; omega) ?_;show Tri ..;refine zAh ?_;unfold zAv;exact ⟨_,Le.giveRow 1 (e:=24) (sz:=4) (rows:=Nd.encs l) rfl,rfl,rfl⟩
def zFT (xs : List AV) (r : Ret) : Prop:=∃ (a0 : List Int) (y0 : List Int),zDC a0 = some y0 ∧ xs = [.s (.sl 1 ((List.map (irow .i64)) a0))] ∧ r = .val (.s (.sl 1 ((List.map (irow .i64)) y0)))
def zDt : zAo:=zAx fun xs r=>zFT xs r
theorem zFE : PSound Try.prog 62 zDt:=by
 have gok : ∀ (f : Nat) (s : zAo),(fun _=>none : Nat → Option zAo) f = some s → PSound Try.prog f s:=fun _ _ h=>by cases h
 refine zAB tokW Try.call62 Try.func62 rfl (fun xs r h=>by obtain ⟨_,_,_,rfl,_⟩:=h; show 1 ≤ _; decide) _ rfl ?_;rintro xs r w0 G0 ⟨l,y,h,rfl,rfl⟩ _;obtain ⟨hq,h⟩:=zAW h;obtain rfl:=Option.some.inj h;have hlen : ((List.map (irow .i64)) l).length = l.length:=rlen (fun _=>rfl) l;refine zAa ?_;refine zAb [] [] rfl ?_;show Tri ..;refine zAa ?_;refine zAa ?_;refine zAb [] [] rfl ?_;intro b hb;show Tri ..;cases b with
 | true =>
  have hl:=hb rfl;refine zAg rfl (fun _=>?_) (fun h=>by cases h)
  refine zAa ?_;refine zAb [] [] rfl ?_;show Tri ..;refine zAh ?_;unfold zAv;exact ⟨_,Le.refl _ _,congrArg (fun z=>some (AV.s (.sl 1 z))) hl.symm,rfl⟩
 | false =>
  refine zAg rfl (fun h=>by cases h) (fun _=>?_)
  refine zAi ?_;show Tri ..;refine zAa ?_;refine zAb [5,7] [] rfl ?_;refine And.intro (show (([] : List (List S)).length + ((List.map (irow .i64)) l).length) * 8 ≤ 140737488355328 ∧ ([] : List (List S)).length + ((List.map (irow .i64)) l).length ≤ 9223372036854775807 from by rw [hlen]; simp only [List.length_nil]; omega) ?_;show Tri ..;refine zAh ?_;unfold zAv;exact ⟨_,Le.giveRow 1 (e:=3) (sz:=1) (rows:=(List.map (irow .i64)) l) rfl,rfl,rfl⟩
end Go.Proofs.Ytffhjiplcfncdaa
namespace Go.Proofs.Ytffhjiplcfncdaa
open Go.Abs
def zAr (p : List Nd) : List S:=[.sl 4 (Nd.encs p)]
def zE0 (n : Nat) (xs : List AV) (r : Ret) : Prop:=∃ (a0 : List (List Nd)) (y0 : List Nd),zBP n a0 = some y0 ∧ xs = [.s (.sl 1 ((List.map zAr) a0))] ∧ r = .row 24 4 (Nd.encs y0)
def zCP : zAo:=zAx fun xs r=>∃ n,zE0 n xs r
theorem zEY : PSound Try.prog 93 zCP:=by
 have gok : ∀ f s,look? f [(97,zDu)] = some s → PSound Try.prog f s:=zAu (by
  simp only [List.forall_mem_cons]
  exact ⟨zFF,by simp⟩)
 refine zAB tokW Try.call93 Try.func93 rfl (fun xs r h=>by obtain ⟨n,_,_,_,rfl,_⟩:=h; show 1 ≤ 36; decide) 36 rfl ?_;rintro xs r w0 G0 ⟨n,slices1,y0,h,rfl,rfl⟩ _;rw [zBP] at h;refine zAa ?_;refine zAb [2] [] rfl ?_;show Tri ..;refine zAk (Le.rnm [] [(0,.s (.sl 1 ((List.map zAr) slices1)))] [] 0 ⟨rfl,trivial⟩ trivial) ?_;refine zAa ?_;refine zAb [] [] rfl ?_;show Tri ..;refine zAa ?_;refine zAa ?_;refine zAb [] [10] rfl ?_;intro n2 hn2;obtain rfl : (slices1.length : Int) = n2:=(hn2.trans (congrArg (fun m : Nat=>(m : Int)) (rlen (fun _=>rfl) slices1))).symm;show Tri ..
 obtain ⟨size5,hl,h⟩:=zAc h;refine zAw ⟨ofL [(0,.s (.sl 1 ((List.map zAr) slices1))),(3,.s (.int .i64 size5))],fun _=>none,0⟩ ?_ (fun σ' hle=>?_)
 ·refine zAs (zAX (X:=Nat × Int × Int) (fun y=>match y with | (k,x3,size4)=>⟨ofL [(0,.s (.sl 1 ((List.map zAr) slices1))),(3,.s (.int .i64 size4)),(9,.s (.sl 1 ((List.map zAr) slices1))),(10,.s (.int .i64 (slices1.length : Int))),(11,.s (.int .i64 x3))],fun _=>none,0⟩) (fun y=>zAL slices1 y.1 y.2.1 y.2.2 = some size5) (fun y=>y.1) (n,0,0) hl ?_ ?_)
  ·exact (Le.forget _ ⟨rfl,rfl,rfl,rfl,rfl,trivial⟩)
  ·rintro ⟨k,x3,size4⟩ h;cases k with
   | zero=>cases h
   | succ k =>
    replace h : zAL slices1 (k+1) x3 size4 = some size5:=h;rw [zAL] at h;refine zAa ?_;refine zAb [] [] rfl ?_;show Tri ..;refine zAa ?_;refine zAg rfl (fun hb=>?_) (fun hb=>?_)
    ·replace h:=zAm hb h;refine zAi ?_;show Tri ..;refine zAa ?_;refine zAs ?_;refine zAa ?_;refine zAb [] [13] rfl ?_;obtain ⟨e6,he6,h⟩:=zAc h;refine And.intro (zAY (fun _=>rfl) he6).1 ?_;intro r7 hr7;obtain rfl : [.sl 4 (Nd.encs e6)] = r7:=(hr7.trans (zAY (fun _=>rfl) he6).2.1).symm;show Tri ..;refine zAa ?_;refine zAb [] [17] rfl ?_;intro n8 hn8;obtain rfl : (e6.length : Int) = n8:=(hn8.trans (congrArg (fun m : Nat=>(m : Int)) (rlen Nd.encs_eq e6))).symm;show Tri ..;refine zAa ?_;refine zAb [] [] rfl ?_;show Tri ..;refine zAg rfl (fun hb=>?_) (fun hb=>?_)
     ·replace h:=zAm hb h;cases h
     ·replace h:=zAl hb h;refine zAi ?_;show Tri ..;refine zAb [] [] rfl ?_;refine ⟨(k,IntKind.i64.wrap (x3 + 1),IntKind.i64.wrap (size4 + (e6.length : Int))),h,(Le.forget _ ⟨rfl,rfl,rfl,rfl,rfl,trivial⟩),Nat.lt_succ_self k⟩
    ·replace h:=zAl hb h;refine zBn ?_;cases h;exact (Le.forget _ ⟨rfl,rfl,trivial⟩)
 ·show Tri ..;refine zAk hle ?_;refine zAa ?_;refine zAb [24] [] rfl ?_;obtain ⟨y9,hy9,h⟩:=zAc h;refine ⟨_,⟨_,_,hy9,rfl,rfl⟩,?_⟩
  show Tri ..;refine zAa ?_;refine zAa ?_;refine zAb [] [26] rfl ?_;intro n10 hn10;obtain rfl : (slices1.length : Int) = n10:=(hn10.trans (congrArg (fun m : Nat=>(m : Int)) (rlen (fun _=>rfl) slices1))).symm;show Tri ..;obtain ⟨l14,hl,h⟩:=zAc h;refine zAw ⟨ofL [(6,.orow 0)],ofH [(0,.row 24 4 (Nd.encs l14))],1⟩ ?_ (fun σ' hle=>?_)
  ·refine zAs (zAX (X:=Nat × Int × (List Nd)) (fun y=>match y with | (k,x11,l13)=>⟨ofL [(6,.orow 0),(25,.s (.sl 1 ((List.map zAr) slices1))),(26,.s (.int .i64 (slices1.length : Int))),(27,.s (.int .i64 x11))],ofH [(0,.row 24 4 (Nd.encs l13))],1⟩) (fun y=>zAM slices1 y.1 y.2.1 y.2.2 = some l14) (fun y=>y.1) (n,0,y9) hl ?_ ?_)
   ·exact (Le.rnm [(0,0)] _ _ _ ⟨rfl,rfl,rfl,rfl,trivial⟩ ⟨rfl,⟨_,rfl,rfl⟩,trivial⟩)
   ·rintro ⟨k,x11,l13⟩ h;cases k with
    | zero=>cases h
    | succ k =>
     replace h : zAM slices1 (k+1) x11 l13 = some l14:=h;rw [zAM] at h;refine zAa ?_;refine zAb [] [] rfl ?_;show Tri ..;refine zAa ?_;refine zAg rfl (fun hb=>?_) (fun hb=>?_)
     ·replace h:=zAm hb h;refine zAi ?_;show Tri ..;refine zAa ?_;refine zAs ?_;refine zAa ?_;refine zAb [] [29] rfl ?_;obtain ⟨e15,he15,h⟩:=zAc h;refine And.intro (zAY (fun _=>rfl) he15).1 ?_;intro r16 hr16;obtain rfl : [.sl 4 (Nd.encs e15)] = r16:=(hr16.trans (zAY (fun _=>rfl) he15).2.1).symm;show Tri ..;refine zAb [33] [] rfl ?_;obtain ⟨hq,h⟩:=zAW h
      refine And.intro (show ((Nd.encs l13).length + (Nd.encs e15).length) * 56 ≤ 140737488355328 ∧ (Nd.encs l13).length + (Nd.encs e15).length ≤ 9223372036854775807 from by simp only [List.length_append,List.length_cons,List.length_nil,List.length_map,rlen Nd.encs_eq] at hq ⊢; omega) ?_;show Tri ..
      refine zAk (Le.rnm [(1,0)] [(6,.orow 0),(25,.s (.sl 1 ((List.map zAr) slices1))),(26,.s (.int .i64 (slices1.length : Int))),(27,.s (.int .i64 x11))] [(0,.row 24 4 (Nd.encs (l13 ++ e15)))] 1 ⟨rfl,rfl,rfl,rfl,trivial⟩ ⟨rfl,⟨_,rfl,congrArg (Ob.row 24 4) (by simp [List.map_append,List.map_take,List.map_drop,irow,brow,zA9,List.map_cons,List.map_nil,zAT,Nd.encs_eq,Nd.enc,zAt,zAq,zAJ,zAr])⟩,trivial⟩) ?_;refine zAb [] [] rfl ?_;refine ⟨(k,IntKind.i64.wrap (x11 + 1),l13 ++ e15),h,(Le.rnm [(0,0)] _ _ _ ⟨rfl,rfl,rfl,rfl,trivial⟩ ⟨rfl,⟨_,rfl,rfl⟩,trivial⟩),Nat.lt_succ_self k⟩
     ·replace h:=zAl hb h;refine zBn ?_;cases h;exact (Le.rnm [(0,0)] _ _ _ ⟨rfl,trivial⟩ ⟨rfl,⟨_,rfl,rfl⟩,trivial⟩)
  ·show Tri ..;refine zAk hle ?_;refine zAa ?_;refine zAb [] [] rfl ?_;show Tri ..;refine zAh ?_;have hy:=Option.some.inj h;subst hy;unfold zAv;exact ⟨_,Le.refl _ _,0,rfl,rfl⟩
def zAn (p : (zO8 × List Nd)) : List S:=[.int .i64 p.1.1,.sl 1 ((List.map (irow .i64)) p.1.2.1),.int .i64 p.1.2.2.1,.int .i64 p.1.2.2.2.1,.sl 4 (Nd.encs p.1.2.2.2.2.1),.int .i64 p.1.2.2.2.2.2.1,.str p.1.2.2.2.2.2.2.1,.str p.1.2.2.2.2.2.2.2,.sl 4 (Nd.encs p.2)]
def zGe (n : Nat) (xs : List AV) (r : Ret) : Prop:=∃ (a0 : (zO8 × List Nd)) (a1 : Int) (a2 : List Nd) (y0 : List Nd),zAP n a0 a1 a2 = some y0 ∧ xs = [.agg ((zAn a0).map .s),.s (.int .i64 a1),.s (.sl 4 (Nd.encs a2))] ∧ r = .val (.s (.sl 4 (Nd.encs y0)))
def zAZ : zAo:=zAx fun xs r=>∃ n,zGe n xs r
theorem zA8 : PSound Try.prog 87 zAZ:=by
 have gok : ∀ f s,look? f [(93,zCP)] = some s → PSound Try.prog f s:=zAu (by
  simp only [List.forall_mem_cons]
  exact ⟨zEY,by simp⟩)
 refine zAB tokW Try.call87 Try.func87 rfl (fun xs r h=>by obtain ⟨n,_,_,_,_,_,rfl,_⟩:=h; show 3 ≤ 24; decide) 24 rfl ?_;rintro xs r w0 G0 ⟨n,⟨⟨c1Y,c1Aj,c1P,c1Z,c1T,c1U,c1Ag,c1Ad⟩,c1Q⟩,n2,nodes3,y0,h,rfl,rfl⟩ _;rw [zAP] at h;refine zAa ?_;refine zAb [] [] rfl ?_;show Tri ..;refine zAa ?_;refine zAH (by exact tokW) (by exact gok) (by exact mixed) [] [12,21,22] [] rfl (by decide +kernel) ?_;obtain ⟨hq,h⟩:=zAW h;refine And.intro ⟨hq.1,hq.2.1,Int.le_trans hq.2.2 (Int.ofNat_le.2 (Nat.le_of_eq (rlen Nd.encs_eq _).symm))⟩ ?_;intro r4 hr4
 obtain rfl : Nd.encs ((c1Q.take c1P.toNat).drop (0 : Int).toNat) = r4:=(hr4.trans (rcut Nd.encs_eq _ _ _)).symm;obtain ⟨hq,h⟩:=zAW h;refine And.intro ⟨hq.1,Int.le_trans hq.2.1 (Int.ofNat_le.2 (Nat.le_of_eq (rlen Nd.encs_eq _).symm)),Int.le_refl _⟩ ?_;intro r5 hr5;obtain rfl : Nd.encs ((c1Q.take (c1Q.length : Int).toNat).drop (IntKind.i64.wrap (c1P + n2)).toNat) = r5:=(hr5.trans ((congrArg (fun m : Nat=>((Nd.encs c1Q).take m).drop (IntKind.i64.wrap (c1P + n2)).toNat) (rlen Nd.encs_eq _)).trans (rcut Nd.encs_eq _ _ _))).symm;intro r6 hr6
 obtain rfl : (List.map zAr) [(c1Q.take c1P.toNat).drop (0 : Int).toNat,nodes3,(c1Q.take (c1Q.length : Int).toNat).drop (IntKind.i64.wrap (c1P + n2)).toNat] = r6:=(hr6.trans (by simp [List.map_append,List.map_take,List.map_drop,irow,brow,zA9,List.map_cons,List.map_nil,zAT,Nd.encs_eq,Nd.enc,zAt,zAq,zAJ,zAr])).symm;obtain ⟨y7,hy7,h⟩:=zAc h;refine ⟨_,⟨_,_,_,hy7,rfl,rfl⟩,?_⟩
 show Tri ..;refine zAh ?_;have hy:=Option.some.inj h;subst hy;unfold zAv;exact ⟨_,Le.refl _ _,rfl,rfl⟩
def zCj (n : Nat) (xs : List AV) (r : Ret) : Prop:=∃ (a0 : Nd) (a1 : Nd) (y0 : Bool),zBM n a0 a1 = some y0 ∧ xs = [.agg ((Nd.enc a0).map .s),.agg ((Nd.enc a1).map .s)] ∧ r = .val (.s (.bool y0))
def zAE (n : Nat) (xs : List AV) (r : Ret) : Prop:=∃ (a0 : List Nd) (a1 : List Nd) (y0 : Bool),zAN n a0 a1 = some y0 ∧ xs = [.s (.sl 4 (Nd.encs a0)),.s (.sl 4 (Nd.encs a1)),.s (.fn 89)] ∧ r = .val (.s (.bool y0))
theorem zIi (n : Nat) (ih_node_Equal : PSound Try.prog 89 (zAx (zCj n))) (ih_slices_EqualFunc_sNode : PSound Try.prog 88 (zAx (zAE n))) : PSound Try.prog 89 (zAx (zCj (n + 1))):=by
 have gok : ∀ f s,look? f [(88,zAx (zAE n))] = some s → PSound Try.prog f s:=zAu (by
  simp only [List.forall_mem_cons]
  exact ⟨ih_slices_EqualFunc_sNode,by simp⟩)
 refine zAB tokW Try.call89 Try.func89 rfl (fun xs r h=>by obtain ⟨_,_,_,_,rfl,_⟩:=h; show 2 ≤ 31; decide) 31 rfl ?_;rintro xs r w0 G0 ⟨⟨a1A,a1B,a1D,a1C⟩,⟨b2A,b2B,b2D,b2C⟩,y0,h,rfl,rfl⟩ _;rw [zBM] at h;refine zAa ?_;refine zAb [] [] rfl ?_;show Tri ..;refine zAa ?_;obtain ⟨x3,hj,h⟩:=zAc h;refine zAw ⟨ofL [(4,.s (.bool x3))],fun _=>none,0⟩ ?_ (fun σ' hle=>?_)
 ·replace h:=hj;refine zAb [] [10,17,24] rfl ?_;intro b hb;cases b with
  | true =>
   replace h:=zAm hb.symm h;intro b hb;cases b with
   | true =>
    replace h:=zAm hb.symm h;intro b hb;cases b with
    | true =>
     replace h:=zAm hb.symm h;obtain ⟨y4,hy4,h⟩:=zAc h;refine ⟨_,⟨_,_,_,hy4,rfl,rfl⟩,?_⟩
     cases h;exact (Le.forget _ ⟨rfl,trivial⟩)
    | false =>
     replace h:=zAl hb.symm h;cases h;exact (Le.forget _ ⟨rfl,trivial⟩)
   | false =>
    replace h:=zAl hb.symm h;intro b hb;subst hb;cases h;exact (Le.forget _ ⟨rfl,trivial⟩)
  | false =>
   replace h:=zAl hb.symm h;intro b hb;subst hb;intro b hb;subst hb;cases h;exact (Le.forget _ ⟨rfl,trivial⟩)
 ·show Tri ..;refine zAk hle ?_;refine zAh ?_;have hy:=Option.some.inj h;subst hy;unfold zAv;exact ⟨_,Le.refl _ _,rfl,rfl⟩
theorem zDP (n : Nat) (ih_node_Equal : PSound Try.prog 89 (zAx (zCj n))) (ih_slices_EqualFunc_sNode : PSound Try.prog 88 (zAx (zAE n))) : PSound Try.prog 88 (zAx (zAE (n + 1))):=by
 have gok : ∀ f s,look? f [(89,zAx (zCj n))] = some s → PSound Try.prog f s:=zAu (by
  simp only [List.forall_mem_cons]
  exact ⟨ih_node_Equal,by simp⟩)
 refine zAB tokW Try.call88 Try.func88 rfl (fun xs r h=>by obtain ⟨_,_,_,_,rfl,_⟩:=h; show 3 ≤ 32; decide) 32 rfl ?_;rintro xs r w0 G0 ⟨s11,s22,y0,h,rfl,rfl⟩ _;rw [zAN] at h;refine zAa ?_;refine zAb [] [] rfl ?_;show Tri ..;refine zAa ?_;refine zAa ?_;refine zAb [] [11,13] rfl ?_;intro n3 hn3;obtain rfl : (s11.length : Int) = n3:=(hn3.trans (congrArg (fun m : Nat=>(m : Int)) (rlen Nd.encs_eq s11))).symm;intro n4 hn4;obtain rfl : (s22.length : Int) = n4:=(hn4.trans (congrArg (fun m : Nat=>(m : Int)) (rlen Nd.encs_eq s22))).symm;show Tri ..;refine zAg rfl (fun hb=>?_) (fun hb=>?_)
 ·replace h:=zAm hb h;refine zAa ?_;refine zAb [] [] rfl ?_;show Tri ..;refine zAh ?_;have hy:=Option.some.inj h;subst hy;unfold zAv;exact ⟨_,Le.refl _ _,rfl,rfl⟩
 ·replace h:=zAl hb h;refine zAi ?_;show Tri ..;refine zAa ?_;refine zAa ?_;refine zAb [] [16] rfl ?_;intro n5 hn5;obtain rfl : (s11.length : Int) = n5:=(hn5.trans (congrArg (fun m : Nat=>(m : Int)) (rlen Nd.encs_eq s11))).symm;show Tri ..;obtain ⟨fl,hl,ho1⟩:=zAc h;refine zFq (fl:=fl) (fun z=>match z with | _=>⟨ofL [],fun _=>none,0⟩) ?_ (fun z σ' hz hle=>?_)
  ·refine zAs (zAX (X:=Nat × Int) (fun y=>match y with | (k,x6)=>⟨ofL [(1,.s (.sl 4 (Nd.encs s22))),(2,.s (.fn 89)),(15,.s (.sl 4 (Nd.encs s11))),(16,.s (.int .i64 (s11.length : Int))),(17,.s (.int .i64 x6))],fun _=>none,0⟩) (fun y=>zAF (zBM n) s11 s22 y.1 y.2 = some fl) (fun y=>y.1) (n,0) hl ?_ ?_)
   ·exact (Le.forget _ ⟨rfl,rfl,rfl,rfl,rfl,trivial⟩)
   ·rintro ⟨k,x6⟩ h;cases k with
    | zero=>cases h
    | succ k =>
     replace h : zAF (zBM n) s11 s22 (k+1) x6 = some fl:=h;rw [zAF] at h;refine zAa ?_;refine zAb [] [] rfl ?_;show Tri ..;refine zAa ?_;refine zAg rfl (fun hb=>?_) (fun hb=>?_)
     ·replace h:=zAm hb h;refine zAi ?_;show Tri ..;refine zAa ?_;refine zAs ?_;refine zAa ?_;refine zAb [8] [20] rfl ?_;obtain ⟨⟨e7A,e7B,e7D,e7C⟩,he7,h⟩:=zAc h;refine And.intro (zAY Nd.encs_eq he7).1 ?_;intro r8 hr8;obtain rfl : [.int .i64 e7A,.str e7B,.int .i64 e7D,.sl 4 (Nd.encs e7C)] = r8:=(hr8.trans (zAY Nd.encs_eq he7).2.1).symm;show Tri ..;refine zAk (Le.giveBox 0 [.int .i64 e7A,.str e7B,.int .i64 e7D,.sl 4 (Nd.encs e7C)] rfl rfl) ?_;refine zAa ?_;refine zAb [9] [24] rfl ?_;obtain ⟨⟨e9A,e9B,e9D,e9C⟩,he9,h⟩:=zAc h
      refine And.intro (zAY Nd.encs_eq he9).1 ?_;intro r10 hr10;obtain rfl : [.int .i64 e9A,.str e9B,.int .i64 e9D,.sl 4 (Nd.encs e9C)] = r10:=(hr10.trans (zAY Nd.encs_eq he9).2.1).symm;show Tri ..;refine zAk (Le.giveBox 1 [.int .i64 e9A,.str e9B,.int .i64 e9D,.sl 4 (Nd.encs e9C)] rfl rfl) ?_;refine zAa ?_;refine zAb [] [] rfl ?_;obtain ⟨y11,hy11,h⟩:=zAc h;refine ⟨_,⟨_,_,_,hy11,rfl,rfl⟩,?_⟩
      show Tri ..;refine zAg rfl (fun hb=>?_) (fun hb=>?_)
      ·replace h:=zAm hb h;refine zAa ?_;refine zAb [] [] rfl ?_;show Tri ..;refine zAh ?_;cases h;replace h : some _ = some _:=ho1;have hy:=Option.some.inj h;subst hy;unfold zAv;exact ⟨_,Le.refl _ _,rfl,rfl⟩
      ·replace h:=zAl hb h;refine zAi ?_;show Tri ..;refine zAb [] [] rfl ?_;refine ⟨(k,IntKind.i64.wrap (x6 + 1)),h,(Le.rnm [] _ [] 0 ⟨rfl,rfl,rfl,rfl,rfl,trivial⟩ trivial),Nat.lt_succ_self k⟩
     ·replace h:=zAl hb h;refine zBn ?_;cases h;exact ⟨_,rfl,(Le.forget _ trivial)⟩
  ·subst hz;obtain _:=z;replace h:=ho1;show Tri ..;refine zAk hle ?_;refine zAa ?_;refine zAb [] [] rfl ?_;show Tri ..;refine zAh ?_;have hy:=Option.some.inj h;subst hy;unfold zAv;exact ⟨_,Le.refl _ _,rfl,rfl⟩
theorem zE2 : ∀ n,PSound Try.prog 89 (zAx (zCj n)) ∧ PSound Try.prog 88 (zAx (zAE n)):=by
 intro n
 induction n with
 | zero =>
  refine ⟨?_,?_⟩
  ·exact zEN Try.call89 (fun xs r h=>by obtain ⟨_,_,_,h,_⟩:=h; rw [zBM] at h; cases h)
  ·exact zEN Try.call88 (fun xs r h=>by obtain ⟨_,_,_,h,_⟩:=h; rw [zAN] at h; cases h)
 | succ n ih =>
  obtain ⟨ih_node_Equal,ih_slices_EqualFunc_sNode⟩:=ih;exact ⟨zIi n ih_node_Equal ih_slices_EqualFunc_sNode,zDP n ih_node_Equal ih_slices_EqualFunc_sNode⟩
def zG1 : zAo:=zAx fun xs r=>∃ n,zCj n xs r
theorem zJt : PSound Try.prog 89 zG1:=zGT (fun n=>(zE2 n).1)
def zCl : zAo:=zAx fun xs r=>∃ n,zAE n xs r
theorem zEi : PSound Try.prog 88 zCl:=zGT (fun n=>(zE2 n).2)
def zD9 (n : Nat) (xs : List AV) (r : Ret) : Prop:=∃ (a0 : (zO8 × List Nd)) (y0 : List Nd) (y1 : Int),zBo n a0 = some (y0,y1) ∧ xs = [.agg ((zAn a0).map .s)] ∧ r = .val (.tup [.s (.sl 4 (Nd.encs y0)),.s (.int .i64 y1)])
def zEc : zAo:=zAx fun xs r=>∃ n,zD9 n xs r
theorem zDW : PSound Try.prog 80 zEc:=by
 have gok : ∀ f s,look? f [(25,zDp),(86,zD1),(89,zG1),(87,zAZ)] = some s → PSound Try.prog f s:=zAu (by
  simp only [List.forall_mem_cons]
  exact ⟨zES,zEM,zJt,zA8,by simp⟩)
 refine zAB tokW Try.call80 Try.func80 rfl (fun xs r h=>by obtain ⟨n,_,_,_,_,rfl,_⟩:=h; show 1 ≤ 54; decide) 54 rfl ?_;rintro xs r w0 G0 ⟨n,⟨⟨c1Y,c1Aj,c1P,c1Z,c1T,c1U,c1Ag,c1Ad⟩,c1Q⟩,y0,y1,h,rfl,rfl⟩ _;rw [zBo] at h;refine zAa ?_;refine zAb [] [] rfl ?_;show Tri ..;refine zAa ?_;refine zAb [4] [11] rfl ?_;obtain ⟨⟨e2A,e2B,e2D,e2C⟩,he2,h⟩:=zAc h;refine And.intro (zAY Nd.encs_eq he2).1 ?_;intro r3 hr3;obtain rfl : [.int .i64 e2A,.str e2B,.int .i64 e2D,.sl 4 (Nd.encs e2C)] = r3:=(hr3.trans (zAY Nd.encs_eq he2).2.1).symm
 obtain ⟨⟨y4A,y4B,y4D,y4C⟩,hy4,h⟩:=zAc h;refine ⟨_,_,⟨_,_,hy4,rfl,rfl,rfl,rfl⟩,?_⟩
 show Tri ..;refine zAa ?_;refine zAa ?_;refine zAH (by exact tokW) (by exact gok) (by exact mixed) [] [] [3,4] rfl (by decide +kernel) ?_;obtain ⟨y5,hy5,h⟩:=zAc h;refine ⟨_,⟨_,_,hy5,rfl,rfl⟩,?_⟩
 show Tri ..;refine zAg rfl (fun hb=>?_) (fun hb=>?_)
 ·replace h:=zAm hb h;refine zAa ?_;refine zAb [] [] rfl ?_;show Tri ..;refine zAh ?_;obtain ⟨hj1,hk1⟩:=Prod.mk.inj (Option.some.inj h)
  subst hj1;subst hk1;unfold zAv;exact ⟨_,Le.refl _ _,rfl,rfl⟩
 ·replace h:=zAl hb h;refine zAi ?_;show Tri ..;refine zAa ?_;refine zAb [] [] rfl ?_;obtain ⟨⟨e6A,e6B,e6D,e6C⟩,he6,h⟩:=zAc h;refine And.intro (zAY Nd.encs_eq he6).1 ?_;refine And.intro (zAY Nd.encs_eq he6).2.2 ?_;refine ⟨_,(zAY Nd.encs_eq he6).2.1,?_⟩
  show Tri ..;refine zAa ?_;refine zAb [] [] rfl ?_;obtain ⟨⟨e7A,e7B,e7D,e7C⟩,he7,h⟩:=zAc h;refine And.intro (zAY Nd.encs_eq he7).1 ?_;have hset8:=(rset (R:=Nd.encs) (f:=Nd.enc) Nd.encs_eq he7 (Nd.mk e7A e7B e7D []) 3 4 [.sl 4 (Nd.encs [])] rfl)
  have hat8:=at_set he7 (Nd.mk e7A e7B e7D [])
  refine And.intro (zAY Nd.encs_eq he7).2.2 ?_;show Tri ..;refine zAk (Le.rnm [(1,0),(0,1)] [(1,.s (.pt [.int .i64 c1Y,.sl 1 ((List.map (irow .i64)) c1Aj),.int .i64 c1P,.int .i64 c1Z,.sl 4 (Nd.encs c1T),.int .i64 c1U,.str c1Ag,.str c1Ad,.sl 4 (Nd.encs c1Q)])),(4,.op 0 0),(5,.s (.sl 4 (Nd.encs e6C)))] [(0,.box 24 [.s (.int .i64 y4A),.s (.str y4B),.s (.int .i64 y4D),.orow 1]),(1,.row 24 4 (Nd.encs (y4C.set c1U.toNat (Nd.mk e7A e7B e7D []))))] 2 ⟨rfl,rfl,rfl,trivial⟩ ⟨rfl,⟨_,rfl,rfl⟩,rfl,⟨_,rfl,congrArg (Ob.row 24 4) hset8⟩,trivial⟩) ?_;refine zAa ?_
  refine zAa ?_;obtain ⟨x9,hj,h⟩:=zAc h;refine zAw ⟨ofL [(1,.s (.pt [.int .i64 c1Y,.sl 1 ((List.map (irow .i64)) c1Aj),.int .i64 c1P,.int .i64 c1Z,.sl 4 (Nd.encs c1T),.int .i64 c1U,.str c1Ag,.str c1Ad,.sl 4 (Nd.encs c1Q)])),(5,.s (.sl 4 (Nd.encs e6C))),(50,.s (.bool x9))],fun _=>none,0⟩ ?_ (fun σ' hle=>?_)
  ·replace h:=hj;refine zAH (by exact tokW) (by exact gok) (by exact mixed) [] [36,41,46] [7,13] rfl (by decide +kernel) ?_;intro n10 hn10;obtain rfl : (e6C.length : Int) = n10:=(hn10.trans (congrArg (fun m : Nat=>(m : Int)) (rlen Nd.encs_eq e6C))).symm;intro b hb;cases b with
   | true =>
    replace h:=zAm hb.symm h;cases h;exact (Le.rnm [] _ [] 0 ⟨rfl,rfl,rfl,trivial⟩ trivial)
   | false =>
    replace h:=zAl hb.symm h;obtain ⟨⟨e11A,e11B,e11D,e11C⟩,he11,h⟩:=zAc h;refine And.intro (zAY Nd.encs_eq he11).1 ?_;intro r12 hr12;obtain rfl : [.int .i64 e11A,.str e11B,.int .i64 e11D,.sl 4 (Nd.encs e11C)] = r12:=(hr12.trans (zAY Nd.encs_eq he11).2.1).symm;obtain ⟨y13,hy13,h⟩:=zAc h;refine ⟨_,⟨_,_,_,_,hy13,rfl,rfl⟩,?_⟩
    cases h;exact (Le.rnm [] _ [] 0 ⟨rfl,rfl,rfl,trivial⟩ trivial)
  ·show Tri ..;refine zAk hle ?_;refine zAg rfl (fun hb=>?_) (fun hb=>?_)
   ·replace h:=zAm hb h;refine zAa ?_;refine zAb [] [] rfl ?_;show Tri ..;refine zAh ?_;obtain ⟨hj1,hk1⟩:=Prod.mk.inj (Option.some.inj h)
    subst hj1;subst hk1;unfold zAv;exact ⟨_,Le.refl _ _,rfl,rfl⟩
   ·replace h:=zAl hb h;refine zAi ?_;show Tri ..;refine zAa ?_;refine zAb [] [] rfl ?_;obtain ⟨y14,hy14,h⟩:=zAc h;refine ⟨_,⟨_,_,_,_,_,hy14,rfl,rfl⟩,?_⟩
    show Tri ..;refine zAh ?_;obtain ⟨hj1,hk1⟩:=Prod.mk.inj (Option.some.inj h)
    subst hj1;subst hk1;unfold zAv;exact ⟨_,Le.refl _ _,rfl,rfl⟩
def zEa (xs : List AV) (r : Ret) : Prop:=∃ (a0 : (zO8 × List Nd)) (y0 : List Nd) (y1 : Int),zBp a0 = some (y0,y1) ∧ xs = [.agg ((zAn a0).map .s)] ∧ r = .val (.tup [.s (.sl 4 (Nd.encs y0)),.s (.int .i64 y1)])
def zEd : zAo:=zAx fun xs r=>zEa xs r
theorem zDX : PSound Try.prog 80 zEd:=by
 have gok : ∀ f s,look? f [(25,zCf),(86,zD1)] = some s → PSound Try.prog f s:=zAu (by
  simp only [List.forall_mem_cons]
  exact ⟨zCp,zEM,by simp⟩)
 refine zAB tokW Try.call80 Try.func80 rfl (fun xs r h=>by obtain ⟨_,_,_,_,rfl,_⟩:=h; show 1 ≤ 54; decide) 54 rfl ?_;rintro xs r w0 G0 ⟨⟨⟨c1Y,c1Aj,c1P,c1Z,c1T,c1U,c1Ag,c1Ad⟩,c1Q⟩,y0,y1,h,rfl,rfl⟩ _;rw [zBp] at h;refine zAa ?_;refine zAb [] [] rfl ?_;show Tri ..;refine zAa ?_;refine zAb [4] [11] rfl ?_;obtain ⟨⟨e2A,e2B,e2D,e2C⟩,he2,h⟩:=zAc h;refine And.intro (zAY Nd.encs_eq he2).1 ?_;intro r3 hr3;obtain rfl : [.int .i64 e2A,.str e2B,.int .i64 e2D,.sl 4 (Nd.encs e2C)] = r3:=(hr3.trans (zAY Nd.encs_eq he2).2.1).symm
 obtain ⟨⟨y4A,y4B,y4D,y4C⟩,hy4,h⟩:=zAc h;refine ⟨_,⟨_,_,hy4,rfl,rfl⟩,?_⟩
 show Tri ..;refine zAa ?_;refine zAa ?_;refine zAH (by exact tokW) (by exact gok) (by exact mixed) [] [] [3] rfl (by decide +kernel) ?_;obtain ⟨y5,hy5,h⟩:=zAc h;refine ⟨_,⟨_,_,hy5,rfl,rfl⟩,?_⟩
 show Tri ..;refine zAg rfl (fun hb=>?_) (fun hb=>?_)
 ·replace h:=zAm hb h;refine zAa ?_;refine zAb [] [] rfl ?_;show Tri ..;refine zAh ?_;obtain ⟨hj1,hk1⟩:=Prod.mk.inj (Option.some.inj h)
  subst hj1;subst hk1;unfold zAv;exact ⟨_,Le.refl _ _,rfl,rfl⟩
 ·replace h:=zAl hb h;refine zAi ?_;show Tri ..;refine zAa ?_;cases h
def zGf (n : Nat) (xs : List AV) (r : Ret) : Prop:=∃ (a0 : (zO8 × List Nd)) (y0 : List Nd) (y1 : Int),zCy n a0 = some (y0,y1) ∧ xs = [.agg ((zAn a0).map .s)] ∧ r = .val (.tup [.s (.sl 4 (Nd.encs y0)),.s (.int .i64 y1)])
def zD0 : zAo:=zAx fun xs r=>∃ n,zGf n xs r
theorem zF7 : PSound Try.prog 79 zD0:=by
 have gok : ∀ f s,look? f [(25,zDp),(90,zC7),(87,zAZ)] = some s → PSound Try.prog f s:=zAu (by
  simp only [List.forall_mem_cons]
  exact ⟨zES,zFi,zA8,by simp⟩)
 refine zAB tokW Try.call79 Try.func79 rfl (fun xs r h=>by obtain ⟨n,_,_,_,_,rfl,_⟩:=h; show 1 ≤ 39; decide) 39 rfl ?_;rintro xs r w0 G0 ⟨n,⟨⟨c1Y,c1Aj,c1P,c1Z,c1T,c1U,c1Ag,c1Ad⟩,c1Q⟩,y0,y1,h,rfl,rfl⟩ _;rw [zCy] at h;refine zAa ?_;refine zAb [] [] rfl ?_;show Tri ..;refine zAa ?_;refine zAb [4] [8] rfl ?_;obtain ⟨⟨e2A,e2B,e2D,e2C⟩,he2,h⟩:=zAc h;refine And.intro (zAY Nd.encs_eq he2).1 ?_;intro r3 hr3;obtain rfl : [.int .i64 e2A,.str e2B,.int .i64 e2D,.sl 4 (Nd.encs e2C)] = r3:=(hr3.trans (zAY Nd.encs_eq he2).2.1).symm
 obtain ⟨⟨y4A,y4B,y4D,y4C⟩,hy4,h⟩:=zAc h;refine ⟨_,_,⟨_,_,hy4,rfl,rfl,rfl,rfl⟩,?_⟩
 show Tri ..;refine zAa ?_;refine zAH (by exact tokW) (by exact gok) (by exact mixed) [] [28] [1,19,21] rfl (by decide +kernel) ?_;obtain ⟨hq,h⟩:=zAW h;refine And.intro ⟨hq.1,hq.2.1,Int.le_trans hq.2.2 (Int.ofNat_le.2 (Nat.le_of_eq (rlen Nd.encs_eq _).symm))⟩ ?_;intro r5 hr5;obtain rfl : Nd.encs ((c1Q.take (IntKind.i64.wrap (c1P + c1Z)).toNat).drop c1P.toNat) = r5:=(hr5.trans (rcut Nd.encs_eq _ _ _)).symm;obtain ⟨y6,hy6,h⟩:=zAc h;refine ⟨_,⟨_,_,hy6,rfl,rfl⟩,?_⟩
 obtain ⟨⟨e7A,e7B,e7D,e7C⟩,he7,h⟩:=zAc h;refine And.intro (zAY Nd.encs_eq he7).1 ?_;have hset8:=(rset (R:=Nd.encs) (f:=Nd.enc) Nd.encs_eq he7 (Nd.mk e7A e7B e7D y6) 3 4 [.sl 4 (Nd.encs y6)] rfl)
 have hat8:=at_set he7 (Nd.mk e7A e7B e7D y6)
 refine And.intro (zAY Nd.encs_eq he7).2.2 ?_;show Tri ..
 refine zAk (Le.trans (Le.trans (Le.trans (Le.rnm [(1,0),(0,1)] [(1,.s (.pt [.int .i64 c1Y,.sl 1 ((List.map (irow .i64)) c1Aj),.int .i64 c1P,.int .i64 c1Z,.sl 4 (Nd.encs c1T),.int .i64 c1U,.str c1Ag,.str c1Ad,.sl 4 (Nd.encs c1Q)])),(4,.op 0 0)] [(0,.box 24 [.s (.int .i64 y4A),.s (.str y4B),.s (.int .i64 y4D),.orow 1]),(1,.row 24 4 (Nd.encs (y4C.set c1U.toNat (Nd.mk e7A e7B e7D y6))))] 2 ⟨rfl,rfl,trivial⟩ ⟨rfl,⟨_,rfl,rfl⟩,rfl,⟨_,rfl,congrArg (Ob.row 24 4) hset8⟩,trivial⟩) (Le.giveRow 1 rfl)) (Le.rnm [(0,0)] [(1,.s (.pt [.int .i64 c1Y,.sl 1 ((List.map (irow .i64)) c1Aj),.int .i64 c1P,.int .i64 c1Z,.sl 4 (Nd.encs c1T),.int .i64 c1U,.str c1Ag,.str c1Ad,.sl 4 (Nd.encs c1Q)])),(4,.op 0 0)] [(0,.box 24 [.s (.int .i64 y4A),.s (.str y4B),.s (.int .i64 y4D),.s (.sl 4 (Nd.encs (y4C.set c1U.toNat (Nd.mk e7A e7B e7D y6))))])] 1 ⟨rfl,rfl,trivial⟩ ⟨rfl,⟨_,rfl,rfl⟩,trivial⟩)) (Le.giveBox 0 [.int .i64 y4A,.str y4B,.int .i64 y4D,.sl 4 (Nd.encs (y4C.set c1U.toNat (Nd.mk e7A e7B e7D y6)))] rfl rfl)) ?_
 refine zAa ?_;refine zAb [] [37] rfl ?_;intro r9 hr9;obtain rfl : Nd.encs [Nd.mk y4A y4B y4D (y4C.set c1U.toNat (Nd.mk e7A e7B e7D y6))] = r9:=(hr9.trans (by simp [List.map_append,List.map_take,List.map_drop,irow,brow,zA9,List.map_cons,List.map_nil,zAT,Nd.encs_eq,Nd.enc,zAt,zAq,zAJ,zAr,zAn])).symm;obtain ⟨y10,hy10,h⟩:=zAc h;refine ⟨_,⟨_,_,_,_,_,hy10,rfl,rfl⟩,?_⟩
 show Tri ..;refine zAh ?_;obtain ⟨hj1,hk1⟩:=Prod.mk.inj (Option.some.inj h)
 subst hj1;subst hk1;unfold zAv;exact ⟨_,Le.refl _ _,rfl,rfl⟩
def zFw (n : Nat) (xs : List AV) (r : Ret) : Prop:=∃ (a0 : (zO8 × List Nd)) (y0 : List Nd) (y1 : Int),zB6 n a0 = some (y0,y1) ∧ xs = [.agg ((zAn a0).map .s)] ∧ r = .val (.tup [.s (.sl 4 (Nd.encs y0)),.s (.int .i64 y1)])
def zC3 : zAo:=zAx fun xs r=>∃ n,zFw n xs r
theorem zFe : PSound Try.prog 77 zC3:=by
 have gok : ∀ f s,look? f [(87,zAZ)] = some s → PSound Try.prog f s:=zAu (by
  simp only [List.forall_mem_cons]
  exact ⟨zA8,by simp⟩)
 refine zAB tokW Try.call77 Try.func77 rfl (fun xs r h=>by obtain ⟨n,_,_,_,_,rfl,_⟩:=h; show 1 ≤ 9; decide) 9 rfl ?_;rintro xs r w0 G0 ⟨n,⟨⟨c1Y,c1Aj,c1P,c1Z,c1T,c1U,c1Ag,c1Ad⟩,c1Q⟩,y0,y1,h,rfl,rfl⟩ _;rw [zB6] at h;refine zAa ?_;refine zAb [] [] rfl ?_;show Tri ..;refine zAa ?_;refine zAb [] [] rfl ?_;obtain ⟨y2,hy2,h⟩:=zAc h;refine ⟨_,⟨_,_,_,_,_,hy2,rfl,rfl⟩,?_⟩
 show Tri ..;refine zAh ?_;obtain ⟨hj1,hk1⟩:=Prod.mk.inj (Option.some.inj h)
 subst hj1;subst hk1;unfold zAv;exact ⟨_,Le.refl _ _,rfl,rfl⟩
def zFx (n : Nat) (xs : List AV) (r : Ret) : Prop:=∃ (a0 : (zO8 × List Nd)) (y0 : List Nd) (y1 : Int),zB7 n a0 = some (y0,y1) ∧ xs = [.agg ((zAn a0).map .s)] ∧ r = .val (.tup [.s (.sl 4 (Nd.encs y0)),.s (.int .i64 y1)])
def zC4 : zAo:=zAx fun xs r=>∃ n,zFx n xs r
theorem zFf : PSound Try.prog 78 zC4:=by
 have gok : ∀ f s,look? f [(88,zCl),(87,zAZ)] = some s → PSound Try.prog f s:=zAu (by
  simp only [List.forall_mem_cons]
  exact ⟨zEi,zA8,by simp⟩)
 refine zAB tokW Try.call78 Try.func78 rfl (fun xs r h=>by obtain ⟨n,_,_,_,_,rfl,_⟩:=h; show 1 ≤ 28; decide) 28 rfl ?_;rintro xs r w0 G0 ⟨n,⟨⟨c1Y,c1Aj,c1P,c1Z,c1T,c1U,c1Ag,c1Ad⟩,c1Q⟩,y0,y1,h,rfl,rfl⟩ _;rw [zB7] at h;refine zAa ?_;refine zAb [] [] rfl ?_;show Tri ..;refine zAa ?_;refine zAb [] [8] rfl ?_;intro n2 hn2;obtain rfl : (c1T.length : Int) = n2:=(hn2.trans (congrArg (fun m : Nat=>(m : Int)) (rlen Nd.encs_eq c1T))).symm;show Tri ..;refine zAa ?_;refine zAa ?_
 refine zAH (by exact tokW) (by exact gok) (by exact mixed) [] [19] [] rfl (by decide +kernel) ?_;obtain ⟨hq,h⟩:=zAW h;refine And.intro ⟨hq.1,hq.2.1,Int.le_trans hq.2.2 (Int.ofNat_le.2 (Nat.le_of_eq (rlen Nd.encs_eq _).symm))⟩ ?_;intro r3 hr3;obtain rfl : Nd.encs ((c1Q.take (IntKind.i64.wrap (c1P + (c1T.length : Int))).toNat).drop c1P.toNat) = r3:=(hr3.trans (rcut Nd.encs_eq _ _ _)).symm;obtain ⟨y4,hy4,h⟩:=zAc h;refine ⟨_,⟨_,_,_,_,hy4,rfl,rfl⟩,?_⟩
 show Tri ..;refine zAg rfl (fun hb=>?_) (fun hb=>?_)
 ·replace h:=zAm hb h;refine zAa ?_;refine zAb [] [] rfl ?_;show Tri ..;refine zAh ?_;obtain ⟨hj1,hk1⟩:=Prod.mk.inj (Option.some.inj h)
  subst hj1;subst hk1;unfold zAv;exact ⟨_,Le.refl _ _,rfl,rfl⟩
 ·replace h:=zAl hb h;refine zAi ?_;show Tri ..;refine zAa ?_;refine zAb [] [] rfl ?_;obtain ⟨y5,hy5,h⟩:=zAc h;refine ⟨_,⟨_,_,_,_,_,hy5,rfl,rfl⟩,?_⟩
  show Tri ..;refine zAh ?_;obtain ⟨hj1,hk1⟩:=Prod.mk.inj (Option.some.inj h)
  subst hj1;subst hk1;unfold zAv;exact ⟨_,Le.refl _ _,rfl,rfl⟩
def zGF (n : Nat) (xs : List AV) (r : Ret) : Prop:=∃ (a0 : (zO8 × List Nd)) (y0 : List Nd) (y1 : Int),zCI n a0 = some (y0,y1) ∧ xs = [.agg ((zAn a0).map .s)] ∧ r = .val (.tup [.s (.sl 4 (Nd.encs y0)),.s (.int .i64 y1)])
def zEn : zAo:=zAx fun xs r=>∃ n,zGF n xs r
theorem zGw : PSound Try.prog 81 zEn:=by
 have gok : ∀ f s,look? f [(87,zAZ)] = some s → PSound Try.prog f s:=zAu (by
  simp only [List.forall_mem_cons]
  exact ⟨zA8,by simp⟩)
 refine zAB tokW Try.call81 Try.func81 rfl (fun xs r h=>by obtain ⟨n,_,_,_,_,rfl,_⟩:=h; show 1 ≤ 34; decide) 34 rfl ?_;rintro xs r w0 G0 ⟨n,⟨⟨c1Y,c1Aj,c1P,c1Z,c1T,c1U,c1Ag,c1Ad⟩,c1Q⟩,y0,y1,h,rfl,rfl⟩ _;rw [zCI] at h;refine zAa ?_;refine zAb [] [] rfl ?_;show Tri ..;refine zAa ?_;refine zAb [4] [10] rfl ?_;obtain ⟨⟨e2A,e2B,e2D,e2C⟩,he2,h⟩:=zAc h;refine And.intro (zAY Nd.encs_eq he2).1 ?_;intro r3 hr3;obtain rfl : [.int .i64 e2A,.str e2B,.int .i64 e2D,.sl 4 (Nd.encs e2C)] = r3:=(hr3.trans (zAY Nd.encs_eq he2).2.1).symm
 show Tri ..;refine zAa ?_;refine zAa ?_;refine zAb [] [] rfl ?_;show Tri ..;obtain ⟨fl,hj,ho1⟩:=zAc h;refine zFq (fl:=fl) (fun z=>match z with | _=>⟨ofL [(1,.s (.pt [.int .i64 c1Y,.sl 1 ((List.map (irow .i64)) c1Aj),.int .i64 c1P,.int .i64 c1Z,.sl 4 (Nd.encs c1T),.int .i64 c1U,.str c1Ag,.str c1Ad,.sl 4 (Nd.encs c1Q)])),(4,.op 0 0)],ofH [(0,.box 24 [.s (.int .i64 e2A),.s (.str e2B),.s (.int .i64 e2D),.s (.sl 4 (Nd.encs e2C))])],1⟩) ?_ (fun z σ' hz hle=>?_)
 ·replace h:=hj;refine zAs ?_;refine zAa ?_;refine zAa ?_;refine zAb [] [] rfl ?_;show Tri ..;obtain ⟨x4,hj,h⟩:=zAc h;refine zAw ⟨ofL [(1,.s (.pt [.int .i64 c1Y,.sl 1 ((List.map (irow .i64)) c1Aj),.int .i64 c1P,.int .i64 c1Z,.sl 4 (Nd.encs c1T),.int .i64 c1U,.str c1Ag,.str c1Ad,.sl 4 (Nd.encs c1Q)])),(4,.op 0 0),(14,.s (.bool x4))],ofH [(0,.box 24 [.s (.int .i64 e2A),.s (.str e2B),.s (.int .i64 e2D),.s (.sl 4 (Nd.encs e2C))])],1⟩ ?_ (fun σ' hle=>?_)
  ·replace h:=hj;refine zAg rfl (fun hb=>?_) (fun hb=>?_)
   ·replace h:=zAm hb h;refine zAi ?_;cases h;exact (Le.rnm [(0,0)] _ _ _ ⟨rfl,rfl,rfl,trivial⟩ ⟨rfl,⟨_,rfl,rfl⟩,trivial⟩)
   ·replace h:=zAl hb h;refine zAa ?_;refine zAb [] [] rfl ?_;show Tri ..;refine zAg rfl (fun hb=>?_) (fun hb=>?_)
    ·replace h:=zAm hb h;refine zAi ?_;cases h;exact (Le.rnm [(0,0)] _ _ _ ⟨rfl,rfl,rfl,trivial⟩ ⟨rfl,⟨_,rfl,rfl⟩,trivial⟩)
    ·replace h:=zAl hb h;refine zAa ?_;refine zAb [] [] rfl ?_;show Tri ..;refine zAg rfl (fun hb=>?_) (fun hb=>?_)
     ·replace h:=zAm hb h;refine zAi ?_;cases h;exact (Le.rnm [(0,0)] _ _ _ ⟨rfl,rfl,rfl,trivial⟩ ⟨rfl,⟨_,rfl,rfl⟩,trivial⟩)
     ·replace h:=zAl hb h;refine zAa ?_;refine zAb [] [] rfl ?_;show Tri ..;refine zAg rfl (fun hb=>?_) (fun hb=>?_)
      ·replace h:=zAm hb h;refine zAi ?_;cases h;exact (Le.rnm [(0,0)] _ _ _ ⟨rfl,rfl,rfl,trivial⟩ ⟨rfl,⟨_,rfl,rfl⟩,trivial⟩)
      ·replace h:=zAl hb h;refine zAb [] [] rfl ?_;cases h;exact (Le.rnm [(0,0)] _ _ _ ⟨rfl,rfl,rfl,trivial⟩ ⟨rfl,⟨_,rfl,rfl⟩,trivial⟩)
  ·show Tri ..;refine zAk hle ?_;refine zAg rfl (fun hb=>?_) (fun hb=>?_)
   ·replace h:=zAm hb h;refine zAi ?_;cases h;exact ⟨_,rfl,(Le.rnm [(0,0)] _ _ _ ⟨rfl,rfl,trivial⟩ ⟨rfl,⟨_,rfl,rfl⟩,trivial⟩)⟩
   ·replace h:=zAl hb h;refine zAa ?_;refine zAb [] [] rfl ?_;show Tri ..;refine zAh ?_;cases h;replace h : some _ = some _:=ho1;obtain ⟨hj1,hk1⟩:=Prod.mk.inj (Option.some.inj h)
    subst hj1;subst hk1;unfold zAv;exact ⟨_,Le.refl _ _,rfl,rfl⟩
 ·subst hz;obtain _:=z;replace h:=ho1;show Tri ..;refine zAk hle ?_;refine zAa ?_;refine zAa ?_;refine zAb [] [] rfl ?_;show Tri ..;refine zAg rfl (fun hb=>?_) (fun hb=>?_)
  ·replace h:=zAm hb h;refine zAa ?_;refine zAb [] [] rfl ?_;show Tri ..;refine zAh ?_;obtain ⟨hj1,hk1⟩:=Prod.mk.inj (Option.some.inj h)
   subst hj1;subst hk1;unfold zAv;exact ⟨_,Le.refl _ _,rfl,rfl⟩
  ·replace h:=zAl hb h;refine zAi ?_;show Tri ..;refine zAa ?_;refine zAb [] [] rfl ?_;show Tri ..;refine zAa ?_;refine zAb [] [32] rfl ?_;intro r5 hr5;obtain rfl : Nd.encs [Nd.mk e2A c1Ad e2D e2C] = r5:=(hr5.trans (by simp [List.map_append,List.map_take,List.map_drop,irow,brow,zA9,List.map_cons,List.map_nil,zAT,Nd.encs_eq,Nd.enc,zAt,zAq,zAJ,zAr,zAn])).symm;obtain ⟨y6,hy6,h⟩:=zAc h;refine ⟨_,⟨_,_,_,_,_,hy6,rfl,rfl⟩,?_⟩
   show Tri ..;refine zAh ?_;obtain ⟨hj1,hk1⟩:=Prod.mk.inj (Option.some.inj h)
   subst hj1;subst hk1;unfold zAv;exact ⟨_,Le.refl _ _,rfl,rfl⟩
def zFv (xs : List AV) (r : Ret) : Prop:=∃ (a0 : (zO8 × List Nd)) (y0 : Int),zB5 a0 = some y0 ∧ xs = [.agg ((zAn a0).map .s)] ∧ r = .val (.s (.int .i64 y0))
def zC2 : zAo:=zAx fun xs r=>zFv xs r
theorem zFd : PSound Try.prog 76 zC2:=by
 have gok : ∀ (f : Nat) (s : zAo),(fun _=>none : Nat → Option zAo) f = some s → PSound Try.prog f s:=fun _ _ h=>by cases h
 refine zAB tokW Try.call76 Try.func76 rfl (fun xs r h=>by obtain ⟨_,_,_,rfl,_⟩:=h; show 1 ≤ 44; decide) 44 rfl ?_;rintro xs r w0 G0 ⟨⟨⟨c1Y,c1Aj,c1P,c1Z,c1T,c1U,c1Ag,c1Ad⟩,c1Q⟩,y0,h,rfl,rfl⟩ _;rw [zB5] at h;refine zAa ?_;refine zAb [] [] rfl ?_;show Tri ..;refine zAa ?_;refine zAb [] [] rfl ?_;show Tri ..;refine zAa ?_;refine zAa ?_;refine zAb [] [] rfl ?_;show Tri ..;obtain ⟨need2,hj,h⟩:=zAc h
 refine zAw ⟨ofL [(1,.s (.pt [.int .i64 c1Y,.sl 1 ((List.map (irow .i64)) c1Aj),.int .i64 c1P,.int .i64 c1Z,.sl 4 (Nd.encs c1T),.int .i64 c1U,.str c1Ag,.str c1Ad,.sl 4 (Nd.encs c1Q)])),(3,.s (.int .i64 need2))],fun _=>none,0⟩ ?_ (fun σ' hle=>?_)
 ·replace h:=hj;refine zAs ?_;refine zAa ?_;refine zAb [] [] rfl ?_;show Tri ..;refine zAg rfl (fun hb=>?_) (fun hb=>?_)
  ·replace h:=zAm hb h;refine zAb [] [] rfl ?_;cases h;exact (Le.forget _ ⟨rfl,rfl,trivial⟩)
  ·replace h:=zAl hb h;refine zAa ?_;refine zAb [] [] rfl ?_;show Tri ..;refine zAg rfl (fun hb=>?_) (fun hb=>?_)
   ·replace h:=zAm hb h;refine zAb [] [14] rfl ?_;intro n3 hn3;obtain rfl : (c1T.length : Int) = n3:=(hn3.trans (congrArg (fun m : Nat=>(m : Int)) (rlen Nd.encs_eq c1T))).symm;cases h;exact (Le.forget _ ⟨rfl,rfl,trivial⟩)
   ·replace h:=zAl hb h;refine zAa ?_;refine zAb [] [] rfl ?_;show Tri ..;refine zAg rfl (fun hb=>?_) (fun hb=>?_)
    ·replace h:=zAm hb h;refine zAb [] [] rfl ?_;cases h;exact (Le.forget _ ⟨rfl,rfl,trivial⟩)
    ·replace h:=zAl hb h;refine zAi ?_;cases h;exact (Le.forget _ ⟨rfl,rfl,trivial⟩)
 ·show Tri ..;refine zAk hle ?_;refine zAa ?_;refine zAa ?_;obtain ⟨x4,hj,h⟩:=zAc h;refine zAw ⟨ofL [(43,.s (.bool x4))],fun _=>none,0⟩ ?_ (fun σ' hle=>?_)
  ·replace h:=hj;refine zAb [] [24,30,33,37] rfl ?_;intro b hb;cases b with
   | true =>
    replace h:=zAm hb.symm h;intro b hb;subst hb;cases h;exact (Le.forget _ ⟨rfl,trivial⟩)
   | false =>
    replace h:=zAl hb.symm h;intro n5 hn5;obtain rfl : (c1Q.length : Int) = n5:=(hn5.trans (congrArg (fun m : Nat=>(m : Int)) (rlen Nd.encs_eq c1Q))).symm;intro b hb;cases b with
    | true =>
     replace h:=zAm hb.symm h;cases h;exact (Le.forget _ ⟨rfl,trivial⟩)
    | false =>
     replace h:=zAl hb.symm h;intro n6 hn6;obtain rfl : (c1Q.length : Int) = n6:=(hn6.trans (congrArg (fun m : Nat=>(m : Int)) (rlen Nd.encs_eq c1Q))).symm;cases h;exact (Le.forget _ ⟨rfl,trivial⟩)
  ·show Tri ..;refine zAk hle ?_;refine zAg rfl (fun hb=>?_) (fun hb=>?_)
   ·replace h:=zAm hb h;refine zAa ?_;refine zAb [] [] rfl ?_;show Tri ..;refine zAh ?_;have hy:=Option.some.inj h;subst hy;unfold zAv;exact ⟨_,Le.refl _ _,rfl,rfl⟩
   ·replace h:=zAl hb h;refine zAi ?_;show Tri ..;refine zAa ?_;refine zAb [] [] rfl ?_;show Tri ..;refine zAh ?_;have hy:=Option.some.inj h;subst hy;unfold zAv;exact ⟨_,Le.refl _ _,rfl,rfl⟩
def zHk (n : Nat) (xs : List AV) (r : Ret) : Prop:=∃ (a0 : List Nd) (a1 : Int) (y0 : Bool),zCZ n a0 a1 = some y0 ∧ xs = [.s (.sl 4 (Nd.encs a0)),.s (.int .i64 a1)] ∧ r = .val (.s (.bool y0))
def zER : zAo:=zAx fun xs r=>∃ n,zHk n xs r
theorem zGP : PSound Try.prog 74 zER:=by
 have gok : ∀ f s,look? f [(73,zCE),(86,zD1)] = some s → PSound Try.prog f s:=zAu (by
  simp only [List.forall_mem_cons]
  exact ⟨zD5,zEM,by simp⟩)
 refine zAB tokW Try.call74 Try.func74 rfl (fun xs r h=>by obtain ⟨n,_,_,_,_,rfl,_⟩:=h; show 2 ≤ 35; decide) 35 rfl ?_;rintro xs r w0 G0 ⟨n,l1,slot2,y0,h,rfl,rfl⟩ _;rw [zCZ] at h;refine zAa ?_;refine zAb [] [] rfl ?_;show Tri ..;refine zAa ?_;refine zAa ?_;obtain ⟨x3,hj,h⟩:=zAc h;refine zAw ⟨ofL [(0,.s (.sl 4 (Nd.encs l1))),(1,.s (.int .i64 slot2)),(24,.s (.bool x3))],fun _=>none,0⟩ ?_ (fun σ' hle=>?_)
 ·replace h:=hj;refine zAb [] [6,8,13,17,20] rfl ?_;intro n4 hn4;obtain rfl : (l1.length : Int) = n4:=(hn4.trans (congrArg (fun m : Nat=>(m : Int)) (rlen Nd.encs_eq l1))).symm;intro b hb;cases b with
  | true =>
   replace h:=zAm hb.symm h;intro b hb;subst hb;intro b hb;subst hb;cases h;exact (Le.forget _ ⟨rfl,rfl,rfl,trivial⟩)
  | false =>
   replace h:=zAl hb.symm h;obtain ⟨y5,hy5,h⟩:=zAc h;refine ⟨_,⟨_,_,_,hy5,rfl,rfl⟩,?_⟩
   intro b hb;cases b with
   | true =>
    replace h:=zAm hb.symm h;intro b hb;subst hb;cases h;exact (Le.forget _ ⟨rfl,rfl,rfl,trivial⟩)
   | false =>
    replace h:=zAl hb.symm h;intro b hb;cases b with
    | true =>
     replace h:=zAm hb.symm h;cases h;exact (Le.forget _ ⟨rfl,rfl,rfl,trivial⟩)
    | false =>
     replace h:=zAl hb.symm h;obtain ⟨⟨e6A,e6B,e6D,e6C⟩,he6,h⟩:=zAc h;refine And.intro (zAY Nd.encs_eq he6).1 ?_;intro r7 hr7;obtain rfl : [.int .i64 e6A,.str e6B,.int .i64 e6D,.sl 4 (Nd.encs e6C)] = r7:=(hr7.trans (zAY Nd.encs_eq he6).2.1).symm;obtain ⟨y8,hy8,h⟩:=zAc h;refine ⟨_,⟨_,_,hy8,rfl,rfl⟩,?_⟩
     cases h;exact (Le.forget _ ⟨rfl,rfl,rfl,trivial⟩)
 ·show Tri ..;refine zAk hle ?_;refine zAg rfl (fun hb=>?_) (fun hb=>?_)
  ·replace h:=zAm hb h;refine zAa ?_;refine zAb [] [] rfl ?_;show Tri ..;refine zAh ?_;have hy:=Option.some.inj h;subst hy;unfold zAv;exact ⟨_,Le.refl _ _,rfl,rfl⟩
  ·replace h:=zAl hb h;refine zAi ?_;show Tri ..;refine zAa ?_;refine zAb [] [26,30,33] rfl ?_;obtain ⟨⟨e9A,e9B,e9D,e9C⟩,he9,h⟩:=zAc h;refine And.intro (zAY Nd.encs_eq he9).1 ?_;intro r10 hr10;obtain rfl : [.int .i64 e9A,.str e9B,.int .i64 e9D,.sl 4 (Nd.encs e9C)] = r10:=(hr10.trans (zAY Nd.encs_eq he9).2.1).symm;obtain ⟨⟨e11A,e11B,e11D,e11C⟩,he11,h⟩:=zAc h;refine And.intro (zAY Nd.encs_eq he11).1 ?_;intro r12 hr12;obtain rfl : [.int .i64 e11A,.str e11B,.int .i64 e11D,.sl 4 (Nd.encs e11C)] = r12:=(hr12.trans (zAY Nd.encs_eq he11).2.1).symm;intro n13 hn13
   obtain rfl : (e11C.length : Int) = n13:=(hn13.trans (congrArg (fun m : Nat=>(m : Int)) (rlen Nd.encs_eq e11C))).symm;show Tri ..;refine zAh ?_;have hy:=Option.some.inj h;subst hy;unfold zAv;exact ⟨_,Le.refl _ _,rfl,rfl⟩
def zAj (p : zO8) : List S:=[.int .i64 p.1,.sl 1 ((List.map (irow .i64)) p.2.1),.int .i64 p.2.2.1,.int .i64 p.2.2.2.1,.sl 4 (Nd.encs p.2.2.2.2.1),.int .i64 p.2.2.2.2.2.1,.str p.2.2.2.2.2.2.1,.str p.2.2.2.2.2.2.2]
def zI9 (n : Nat) (xs : List AV) (r : Ret) : Prop:=∃ (a0 : zO8) (y0 : Bool),zEE n a0 = some y0 ∧ xs = [.agg ((zAj a0).map .s)] ∧ r = .val (.s (.bool y0))
def zGi : zAo:=zAx fun xs r=>∃ n,zI9 n xs r
theorem zIt : PSound Try.prog 56 zGi:=by
 have gok : ∀ f s,look? f [(73,zCE),(74,zER)] = some s → PSound Try.prog f s:=zAu (by
  simp only [List.forall_mem_cons]
  exact ⟨zD5,zGP,by simp⟩)
 refine zAB tokW Try.call56 Try.func56 rfl (fun xs r h=>by obtain ⟨n,_,_,_,rfl,_⟩:=h; show 1 ≤ 80; decide) 80 rfl ?_;rintro xs r w0 G0 ⟨n,⟨a1A,a1Ac,a1Ae,a1Aa,a1G,a1Ab,a1X,a1B⟩,y0,h,rfl,rfl⟩ _;rw [zEE] at h;refine zAa ?_;refine zAb [] [] rfl ?_;show Tri ..;refine zAa ?_;obtain ⟨x2,hj,h⟩:=zAc h;refine zAw ⟨ofL [(1,.s (.pt [.int .i64 a1A,.sl 1 ((List.map (irow .i64)) a1Ac),.int .i64 a1Ae,.int .i64 a1Aa,.sl 4 (Nd.encs a1G),.int .i64 a1Ab,.str a1X,.str a1B])),(3,.s (.bool x2))],fun _=>none,0⟩ ?_ (fun σ' hle=>?_)
 ·replace h:=hj;refine zAb [] [7] rfl ?_;intro b hb;cases b with
  | true =>
   replace h:=zAm hb.symm h;cases h;exact (Le.forget _ ⟨rfl,rfl,trivial⟩)
  | false =>
   replace h:=zAl hb.symm h;cases h;exact (Le.forget _ ⟨rfl,rfl,trivial⟩)
 ·show Tri ..;refine zAk hle ?_;refine zAa ?_;refine zAa ?_;refine zAb [] [] rfl ?_;show Tri ..;obtain ⟨fl,hj,ho1⟩:=zAc h;refine zFq (fl:=fl) (fun z=>match z with | _=>⟨ofL [],fun _=>none,0⟩) ?_ (fun z σ' hz hle=>?_)
  ·replace h:=hj;refine zAs ?_;refine zAa ?_;refine zAa ?_;refine zAb [] [] rfl ?_;show Tri ..;obtain ⟨x3,hj,h⟩:=zAc h;refine zAw ⟨ofL [(1,.s (.pt [.int .i64 a1A,.sl 1 ((List.map (irow .i64)) a1Ac),.int .i64 a1Ae,.int .i64 a1Aa,.sl 4 (Nd.encs a1G),.int .i64 a1Ab,.str a1X,.str a1B])),(3,.s (.bool x2)),(13,.s (.int .i64 a1A)),(14,.s (.bool x3))],fun _=>none,0⟩ ?_ (fun σ' hle=>?_)
   ·replace h:=hj;refine zAg rfl (fun hb=>?_) (fun hb=>?_)
    ·replace h:=zAm hb h;refine zAi ?_;cases h;exact (Le.forget _ ⟨rfl,rfl,rfl,rfl,trivial⟩)
    ·replace h:=zAl hb h;refine zAb [] [] rfl ?_;cases h;exact (Le.forget _ ⟨rfl,rfl,rfl,rfl,trivial⟩)
   ·show Tri ..;refine zAk hle ?_;refine zAg rfl (fun hb=>?_) (fun hb=>?_)
    ·replace h:=zAm hb h;refine zAa ?_;obtain ⟨x4,hj,h⟩:=zAc h;refine zAw ⟨ofL [(2,.s (.bool x4))],fun _=>none,0⟩ ?_ (fun σ' hle=>?_)
     ·replace h:=hj;refine zAb [] [20,25,29,32,35] rfl ?_;intro b hb;cases b with
      | true =>
       replace h:=zAm hb.symm h;intro b hb;cases b with
       | true =>
        replace h:=zAm hb.symm h;intro b hb;cases b with
        | true =>
         replace h:=zAm hb.symm h;intro n5 hn5;obtain rfl : (a1G.length : Int) = n5:=(hn5.trans (congrArg (fun m : Nat=>(m : Int)) (rlen Nd.encs_eq a1G))).symm;intro b hb;cases b with
         | true =>
          replace h:=zAm hb.symm h;obtain ⟨y6,hy6,h⟩:=zAc h;refine ⟨_,⟨_,_,_,hy6,rfl,rfl⟩,?_⟩
          cases h;exact (Le.forget _ ⟨rfl,trivial⟩)
         | false =>
          replace h:=zAl hb.symm h;cases h;exact (Le.forget _ ⟨rfl,trivial⟩)
        | false =>
         replace h:=zAl hb.symm h;intro b hb;subst hb;cases h;exact (Le.forget _ ⟨rfl,trivial⟩)
       | false =>
        replace h:=zAl hb.symm h;intro b hb;subst hb;intro b hb;subst hb;cases h;exact (Le.forget _ ⟨rfl,trivial⟩)
      | false =>
       replace h:=zAl hb.symm h;intro b hb;subst hb;intro b hb;subst hb;intro b hb;subst hb;cases h;exact (Le.forget _ ⟨rfl,trivial⟩)
     ·show Tri ..;refine zAk hle ?_;refine zAh ?_;cases h;replace h : some _ = some _:=ho1;have hy:=Option.some.inj h;subst hy;unfold zAv;exact ⟨_,Le.refl _ _,rfl,rfl⟩
    ·replace h:=zAl hb h;refine zAa ?_;refine zAa ?_;refine zAb [] [] rfl ?_;show Tri ..;obtain ⟨x7,hj,h⟩:=zAc h;refine zAw ⟨ofL [(1,.s (.pt [.int .i64 a1A,.sl 1 ((List.map (irow .i64)) a1Ac),.int .i64 a1Ae,.int .i64 a1Aa,.sl 4 (Nd.encs a1G),.int .i64 a1Ab,.str a1X,.str a1B])),(3,.s (.bool x2)),(13,.s (.int .i64 a1A)),(40,.s (.bool x7))],fun _=>none,0⟩ ?_ (fun σ' hle=>?_)
     ·replace h:=hj;refine zAg rfl (fun hb=>?_) (fun hb=>?_)
      ·replace h:=zAm hb h;refine zAi ?_;cases h;exact (Le.forget _ ⟨rfl,rfl,rfl,rfl,trivial⟩)
      ·replace h:=zAl hb h;refine zAb [] [] rfl ?_;cases h;exact (Le.forget _ ⟨rfl,rfl,rfl,rfl,trivial⟩)
     ·show Tri ..;refine zAk hle ?_;refine zAg rfl (fun hb=>?_) (fun hb=>?_)
      ·replace h:=zAm hb h;refine zAa ?_;obtain ⟨x8,hj,h⟩:=zAc h;refine zAw ⟨ofL [(2,.s (.bool x8))],fun _=>none,0⟩ ?_ (fun σ' hle=>?_)
       ·replace h:=hj;refine zAb [] [46,50] rfl ?_;intro b hb;cases b with
        | true =>
         replace h:=zAm hb.symm h;intro b hb;cases b with
         | true =>
          replace h:=zAm hb.symm h;obtain ⟨y9,hy9,h⟩:=zAc h;refine ⟨_,⟨_,_,_,_,hy9,rfl,rfl⟩,?_⟩
          cases h;exact (Le.forget _ ⟨rfl,trivial⟩)
         | false =>
          replace h:=zAl hb.symm h;cases h;exact (Le.forget _ ⟨rfl,trivial⟩)
        | false =>
         replace h:=zAl hb.symm h;intro b hb;subst hb;cases h;exact (Le.forget _ ⟨rfl,trivial⟩)
       ·show Tri ..;refine zAk hle ?_;refine zAh ?_;cases h;replace h : some _ = some _:=ho1;have hy:=Option.some.inj h;subst hy;unfold zAv;exact ⟨_,Le.refl _ _,rfl,rfl⟩
      ·replace h:=zAl hb h;refine zAa ?_;refine zAb [] [] rfl ?_;show Tri ..;refine zAg rfl (fun hb=>?_) (fun hb=>?_)
       ·replace h:=zAm hb h;refine zAa ?_;obtain ⟨x10,hj,h⟩:=zAc h;refine zAw ⟨ofL [(2,.s (.bool x10))],fun _=>none,0⟩ ?_ (fun σ' hle=>?_)
        ·replace h:=hj;refine zAb [] [62,67,70,73] rfl ?_;intro b hb;cases b with
         | true =>
          replace h:=zAm hb.symm h;intro b hb;cases b with
          | true =>
           replace h:=zAm hb.symm h;intro n11 hn11;obtain rfl : (a1G.length : Int) = n11:=(hn11.trans (congrArg (fun m : Nat=>(m : Int)) (rlen Nd.encs_eq a1G))).symm;intro b hb;cases b with
           | true =>
            replace h:=zAm hb.symm h;cases h;exact (Le.forget _ ⟨rfl,trivial⟩)
           | false =>
            replace h:=zAl hb.symm h;cases h;exact (Le.forget _ ⟨rfl,trivial⟩)
          | false =>
           replace h:=zAl hb.symm h;intro b hb;subst hb;cases h;exact (Le.forget _ ⟨rfl,trivial⟩)
         | false =>
          replace h:=zAl hb.symm h;intro b hb;subst hb;intro b hb;subst hb;cases h;exact (Le.forget _ ⟨rfl,trivial⟩)
        ·show Tri ..;refine zAk hle ?_;refine zAh ?_;cases h;replace h : some _ = some _:=ho1;have hy:=Option.some.inj h;subst hy;unfold zAv;exact ⟨_,Le.refl _ _,rfl,rfl⟩
       ·replace h:=zAl hb h;refine zAi ?_;cases h;exact ⟨_,rfl,(Le.forget _ trivial)⟩
  ·subst hz;obtain _:=z;replace h:=ho1;show Tri ..;refine zAk hle ?_;refine zAa ?_;refine zAb [] [] rfl ?_;show Tri ..;refine zAh ?_;have hy:=Option.some.inj h;subst hy;unfold zAv;exact ⟨_,Le.refl _ _,rfl,rfl⟩
def zKz (xs : List AV) (r : Ret) : Prop:=∃ (a0 : List Int) (y0 : List Int),zDB a0 = some y0 ∧ xs = [.s (.sl 1 ((List.map (irow .i64)) a0))] ∧ r = .val (.s (.sl 1 ((List.map (irow .i64)) y0)))
def zFX : zAo:=zAx fun xs r=>zKz xs r
theorem zHb : PSound Try.prog 42 zFX:=by
 have gok : ∀ f s,look? f [(62,zDt)] = some s → PSound Try.prog f s:=zAu (by
  simp only [List.forall_mem_cons]
  exact ⟨zFE,by simp⟩)
 refine zAB tokW Try.call42 Try.func42 rfl (fun xs r h=>by obtain ⟨_,_,_,rfl,_⟩:=h; show 1 ≤ 5; decide) 5 rfl ?_;rintro xs r w0 G0 ⟨l1,y0,h,rfl,rfl⟩ _;rw [zDB] at h;refine zAa ?_;refine zAb [] [] rfl ?_;show Tri ..;refine zAa ?_;refine zAb [] [] rfl ?_;obtain ⟨y2,hy2,h⟩:=zAc h;refine ⟨_,⟨_,_,hy2,rfl,rfl⟩,?_⟩
 show Tri ..;refine zAh ?_;have hy:=Option.some.inj h;subst hy;unfold zAv;exact ⟨_,Le.refl _ _,rfl,rfl⟩
def zJK (n : Nat) (xs : List AV) (r : Ret) : Prop:=∃ (a0 : List Nd) (y0 : List Nd),zE8 n a0 = some y0 ∧ xs = [.s (.sl 4 (Nd.encs a0))] ∧ r = .row 24 4 (Nd.encs y0)
def zGZ : zAo:=zAx fun xs r=>∃ n,zJK n xs r
theorem zJr : PSound Try.prog 82 zGZ:=by
 have gok : ∀ f s,look? f [(25,zCf)] = some s → PSound Try.prog f s:=zAu (by
  simp only [List.forall_mem_cons]
  exact ⟨zCp,by simp⟩)
 refine zAB tokW Try.call82 Try.func82 rfl (fun xs r h=>by obtain ⟨n,_,_,_,rfl,_⟩:=h; show 1 ≤ 20; decide) 20 rfl ?_;rintro xs r w0 G0 ⟨n,l1,y0,h,rfl,rfl⟩ _;rw [zE8] at h;refine zAa ?_;refine zAb [2] [] rfl ?_;show Tri ..;refine zAk (Le.rnm [] [(0,.s (.sl 4 (Nd.encs l1)))] [] 0 ⟨rfl,trivial⟩ trivial) ?_;refine zAa ?_;refine zAb [3] [] rfl ?_;show Tri ..
 refine zAk (Le.rnm [(0,0)] [(0,.s (.sl 4 (Nd.encs l1))),(3,.orow 0)] [(0,.row 24 4 (Nd.encs []))] 1 ⟨rfl,rfl,trivial⟩ ⟨rfl,⟨_,rfl,congrArg (Ob.row 24 4) (by simp [List.map_append,List.map_take,List.map_drop,irow,brow,zA9,List.map_cons,List.map_nil,zAT,Nd.encs_eq,Nd.enc,zAt,zAq,zAJ,zAr,zAn,zAj])⟩,trivial⟩) ?_;refine zAa ?_;refine zAa ?_;refine zAb [] [6] rfl ?_;intro n2 hn2;obtain rfl : (l1.length : Int) = n2:=(hn2.trans (congrArg (fun m : Nat=>(m : Int)) (rlen Nd.encs_eq l1))).symm;show Tri ..;obtain ⟨l6,hl,h⟩:=zAc h
 refine zAw ⟨ofL [(3,.orow 0)],ofH [(0,.row 24 4 (Nd.encs l6))],1⟩ ?_ (fun σ' hle=>?_)
 ·refine zAs (zAX (X:=Nat × Int × (List Nd)) (fun y=>match y with | (k,x4,l5)=>⟨ofL [(0,.s (.sl 4 (Nd.encs l1))),(3,.orow 0),(6,.s (.int .i64 (l1.length : Int))),(7,.s (.int .i64 x4))],ofH [(0,.row 24 4 (Nd.encs l5))],1⟩) (fun y=>zBL l1 y.1 y.2.1 y.2.2 = some l6) (fun y=>y.1) (n,0,[]) hl ?_ ?_)
  ·exact (Le.rnm [(0,0)] _ _ _ ⟨rfl,rfl,rfl,rfl,trivial⟩ ⟨rfl,⟨_,rfl,rfl⟩,trivial⟩)
  ·rintro ⟨k,x4,l5⟩ h;cases k with
   | zero=>cases h
   | succ k =>
    replace h : zBL l1 (k+1) x4 l5 = some l6:=h;rw [zBL] at h;refine zAa ?_;refine zAb [] [] rfl ?_;show Tri ..;refine zAa ?_;refine zAg rfl (fun hb=>?_) (fun hb=>?_)
    ·replace h:=zAm hb h;refine zAi ?_;show Tri ..;refine zAa ?_;refine zAs ?_;refine zAa ?_;refine zAb [] [] rfl ?_;show Tri ..;refine zAb [17] [13,16] rfl ?_;obtain ⟨⟨e7A,e7B,e7D,e7C⟩,he7,h⟩:=zAc h;refine And.intro (zAY Nd.encs_eq he7).1 ?_;intro r8 hr8;obtain rfl : [.int .i64 e7A,.str e7B,.int .i64 e7D,.sl 4 (Nd.encs e7C)] = r8:=(hr8.trans (zAY Nd.encs_eq he7).2.1).symm;obtain ⟨⟨y9A,y9B,y9D,y9C⟩,hy9,h⟩:=zAc h;refine ⟨_,⟨_,_,hy9,rfl,rfl⟩,?_⟩
     intro r10 hr10;obtain rfl : Nd.encs [Nd.mk y9A y9B y9D y9C] = r10:=(hr10.trans (by simp [List.map_append,List.map_take,List.map_drop,irow,brow,zA9,List.map_cons,List.map_nil,zAT,Nd.encs_eq,Nd.enc,zAt,zAq,zAJ,zAr,zAn,zAj])).symm;obtain ⟨hq,h⟩:=zAW h
     refine And.intro (show ((Nd.encs l5).length + (Nd.encs [Nd.mk y9A y9B y9D y9C]).length) * 56 ≤ 140737488355328 ∧ (Nd.encs l5).length + (Nd.encs [Nd.mk y9A y9B y9D y9C]).length ≤ 9223372036854775807 from by simp only [List.length_append,List.length_cons,List.length_nil,List.length_map,rlen Nd.encs_eq] at hq ⊢; omega) ?_;show Tri ..
     refine zAk (Le.rnm [(1,0)] [(0,.s (.sl 4 (Nd.encs l1))),(3,.orow 0),(6,.s (.int .i64 (l1.length : Int))),(7,.s (.int .i64 x4))] [(0,.row 24 4 (Nd.encs (l5 ++ [Nd.mk y9A y9B y9D y9C])))] 1 ⟨rfl,rfl,rfl,rfl,trivial⟩ ⟨rfl,⟨_,rfl,congrArg (Ob.row 24 4) (by simp [List.map_append,List.map_take,List.map_drop,irow,brow,zA9,List.map_cons,List.map_nil,zAT,Nd.encs_eq,Nd.enc,zAt,zAq,zAJ,zAr,zAn,zAj])⟩,trivial⟩) ?_;refine zAb [] [] rfl ?_
     refine ⟨(k,IntKind.i64.wrap (x4 + 1),l5 ++ [Nd.mk y9A y9B y9D y9C]),h,(Le.rnm [(0,0)] _ _ _ ⟨rfl,rfl,rfl,rfl,trivial⟩ ⟨rfl,⟨_,rfl,rfl⟩,trivial⟩),Nat.lt_succ_self k⟩
    ·replace h:=zAl hb h;refine zBn ?_;cases h;exact (Le.rnm [(0,0)] _ _ _ ⟨rfl,trivial⟩ ⟨rfl,⟨_,rfl,rfl⟩,trivial⟩)
 ·show Tri ..;refine zAk hle ?_;refine zAa ?_;refine zAb [] [] rfl ?_;show Tri ..;refine zAh ?_;have hy:=Option.some.inj h;subst hy;unfold zAv;exact ⟨_,Le.refl _ _,0,rfl,rfl⟩
def zLQ (n : Nat) (xs : List AV) (r : Ret) : Prop:=∃ (a0 : zO8) (y0 : zO8),zGv n a0 = some y0 ∧ xs = [.agg ((zAj a0).map .s)] ∧ r = .val (.agg ((zAj y0).map .s))
def zHD : zAo:=zAx fun xs r=>∃ n,zLQ n xs r
theorem zIT : PSound Try.prog 60 zHD:=by
 have gok : ∀ f s,look? f [(42,zFX),(82,zGZ)] = some s → PSound Try.prog f s:=zAu (by
  simp only [List.forall_mem_cons]
  exact ⟨zHb,zJr,by simp⟩)
 refine zAB tokW Try.call60 Try.func60 rfl (fun xs r h=>by obtain ⟨n,_,_,_,rfl,_⟩:=h; show 1 ≤ 12; decide) 12 rfl ?_;rintro xs r w0 G0 ⟨n,⟨op1A,op1Ac,op1Ae,op1Aa,op1G,op1Ab,op1X,op1B⟩,y0,h,rfl,rfl⟩ _;rw [zGv] at h;refine zAa ?_;refine zAb [1,2] [] rfl ?_;show Tri ..;refine zAa ?_;refine zAb [] [] rfl ?_;obtain ⟨y2,hy2,h⟩:=zAc h;refine ⟨_,⟨_,_,hy2,rfl,rfl⟩,?_⟩
 show Tri ..;refine zAa ?_;refine zAb [] [] rfl ?_;obtain ⟨y3,hy3,h⟩:=zAc h;refine ⟨_,⟨_,_,_,hy3,rfl,rfl⟩,?_⟩
 show Tri ..;refine zAa ?_;refine zAb [] [] rfl ?_;show Tri ..;refine zAh ?_;have hy:=Option.some.inj h;subst hy;unfold zAv;exact ⟨_,Le.refl _ _,rfl,rfl⟩
end Go.Proofs.Ytffhjiplcfncdaa
namespace Go.Proofs.Ytffhjiplcfncdaa
open Go.Abs
theorem zMc {P : Program} {f : Nat} {A B : List AV → Ret → Prop} (hA : PSound P f (zAx A)) (hB : PSound P f (zAx B)) : PSound P f (zAx fun xs r=>A xs r ∨ B xs r) :=
 ⟨hA.1,fun G w xs vs r hl hg hp hv hs=>hs.elim (hA.2.1 G w xs vs r hl hg hp hv) (hB.2.1 G w xs vs r hl hg hp hv),fun R hR=>(by cases hR),fun R hR=>(by cases hR)⟩
theorem zKU {P : Program} {f : Nat} {A B : List AV → Ret → Prop} (hA : PSound P f (zAx A)) (h : ∀ xs r,B xs r → A xs r) : PSound P f (zAx B) :=
 ⟨hA.1,fun G w xs vs r hl hg hp hv hs=>hA.2.1 G w xs vs r hl hg hp hv (h xs r hs),fun R hR=>(by cases hR),fun R hR=>(by cases hR)⟩
def zFy (n : Nat) (xs : List AV) (r : Ret) : Prop:=∃ (a0 : (zO8 × List Nd)) (y0 : List Nd) (y1 : Int),zB8 n a0 = some (y0,y1) ∧ xs = [.agg ((zAn a0).map .s)] ∧ r = .val (.tup [.s (.sl 4 (Nd.encs y0)),.s (.int .i64 y1)])
def zC5 : zAo:=zAx fun xs r=>∃ n,zFy n xs r
theorem zFg : PSound Try.prog 80 zC5 :=
 zKU (zMc zDX zDW) fun xs r ⟨n,a,y,z,hm,hx,hr⟩=>by
  unfold zB8 at hm;split at hm
  ·rename_i q hq
   obtain rfl:=Option.some.inj hm;exact .inl ⟨a,y,z,hq,hx,hr⟩
  ·exact .inr ⟨n,a,y,z,hm,hx,hr⟩
end Go.Proofs.Ytffhjiplcfncdaa
namespace Go.Proofs.Ytffhjiplcfncdaa
open Go.Abs
def zFS (n : Nat) (xs : List AV) (r : Ret) : Prop:=∃ (a0 : (zO8 × List Nd)) (y0 : List Nd) (y1 : Int),zCg n a0 = some (y0,y1) ∧ xs = [.agg ((zAn a0).map .s)] ∧ r = .val (.tup [.s (.sl 4 (Nd.encs y0)),.s (.int .i64 y1)])
def zDr : zAo:=zAx fun xs r=>∃ n,zFS n xs r
theorem zFC : PSound Try.prog 58 zDr:=by
 have gok : ∀ f s,look? f [(76,zC2),(77,zC3),(78,zC4),(79,zD0),(80,zC5),(81,zEn)] = some s → PSound Try.prog f s:=zAu (by
  simp only [List.forall_mem_cons]
  exact ⟨zFd,zFe,zFf,zF7,zFg,zGw,by simp⟩)
 refine zAB tokW Try.call58 Try.func58 rfl (fun xs r h=>by obtain ⟨n,_,_,_,_,rfl,_⟩:=h; show 1 ≤ 41; decide) 41 rfl ?_;rintro xs r w0 G0 ⟨n,⟨⟨c1Y,c1Aj,c1P,c1Z,c1T,c1U,c1Ag,c1Ad⟩,c1Q⟩,y0,y1,h,rfl,rfl⟩ _;rw [zCg] at h;refine zAa ?_;refine zAb [] [] rfl ?_;show Tri ..;refine zAa ?_;refine zAa ?_;refine zAb [] [] rfl ?_;obtain ⟨y2,hy2,h⟩:=zAc h;refine ⟨_,⟨_,_,hy2,rfl,rfl⟩,?_⟩
 show Tri ..;refine zAa ?_;refine zAb [] [] rfl ?_;show Tri ..;refine zAg rfl (fun hb=>?_) (fun hb=>?_)
 ·replace h:=zAm hb h;refine zAa ?_;refine zAb [] [] rfl ?_;show Tri ..;refine zAh ?_;obtain ⟨hj1,hk1⟩:=Prod.mk.inj (Option.some.inj h)
  subst hj1;subst hk1;unfold zAv;exact ⟨_,Le.refl _ _,rfl,rfl⟩
 ·replace h:=zAl hb h;refine zAi ?_;show Tri ..;refine zAa ?_;refine zAa ?_;refine zAb [] [] rfl ?_;show Tri ..;refine zAs ?_;refine zAa ?_;refine zAb [] [] rfl ?_;show Tri ..;refine zAg rfl (fun hb=>?_) (fun hb=>?_)
  ·replace h:=zAm hb h;refine zAa ?_;refine zAb [] [] rfl ?_;obtain ⟨⟨y3,y4⟩,hy3,h⟩:=zAc h;refine ⟨_,⟨_,_,_,_,hy3,rfl,rfl⟩,?_⟩
   show Tri ..;refine zAh ?_;obtain ⟨hj1,hk1⟩:=Prod.mk.inj (Option.some.inj h)
   subst hj1;subst hk1;unfold zAv;exact ⟨_,Le.refl _ _,rfl,rfl⟩
  ·replace h:=zAl hb h;refine zAa ?_;refine zAb [] [] rfl ?_;show Tri ..;refine zAg rfl (fun hb=>?_) (fun hb=>?_)
   ·replace h:=zAm hb h;refine zAa ?_;refine zAb [] [] rfl ?_;obtain ⟨⟨y5,y6⟩,hy5,h⟩:=zAc h;refine ⟨_,⟨_,_,_,_,hy5,rfl,rfl⟩,?_⟩
    show Tri ..;refine zAh ?_;obtain ⟨hj1,hk1⟩:=Prod.mk.inj (Option.some.inj h)
    subst hj1;subst hk1;unfold zAv;exact ⟨_,Le.refl _ _,rfl,rfl⟩
   ·replace h:=zAl hb h;refine zAa ?_;refine zAb [] [] rfl ?_;show Tri ..;refine zAg rfl (fun hb=>?_) (fun hb=>?_)
    ·replace h:=zAm hb h;refine zAa ?_;refine zAb [] [] rfl ?_;obtain ⟨⟨y7,y8⟩,hy7,h⟩:=zAc h;refine ⟨_,⟨_,_,_,_,hy7,rfl,rfl⟩,?_⟩
     show Tri ..;refine zAh ?_;obtain ⟨hj1,hk1⟩:=Prod.mk.inj (Option.some.inj h)
     subst hj1;subst hk1;unfold zAv;exact ⟨_,Le.refl _ _,rfl,rfl⟩
    ·replace h:=zAl hb h;refine zAa ?_;refine zAb [] [] rfl ?_;show Tri ..;refine zAg rfl (fun hb=>?_) (fun hb=>?_)
     ·replace h:=zAm hb h;refine zAa ?_;refine zAb [] [] rfl ?_;obtain ⟨⟨y9,y10⟩,hy9,h⟩:=zAc h;refine ⟨_,⟨_,_,_,_,hy9,rfl,rfl⟩,?_⟩
      show Tri ..;refine zAh ?_;obtain ⟨hj1,hk1⟩:=Prod.mk.inj (Option.some.inj h)
      subst hj1;subst hk1;unfold zAv;exact ⟨_,Le.refl _ _,rfl,rfl⟩
     ·replace h:=zAl hb h;refine zAi ?_;show Tri ..;refine zAa ?_;refine zAb [] [] rfl ?_;obtain ⟨⟨y11,y12⟩,hy11,h⟩:=zAc h;refine ⟨_,⟨_,_,_,_,hy11,rfl,rfl⟩,?_⟩
      show Tri ..;refine zAh ?_;obtain ⟨hj1,hk1⟩:=Prod.mk.inj (Option.some.inj h)
      subst hj1;subst hk1;unfold zAv;exact ⟨_,Le.refl _ _,rfl,rfl⟩
def zJL (n : Nat) (xs : List AV) (r : Ret) : Prop:=∃ (a0 : Nd) (a1 : zO8) (y0 : Nd) (y1 : Int),zE9 n a0 a1 = some (y0,y1) ∧ xs = [.agg ((Nd.enc a0).map .s),.agg ((zAj a1).map .s)] ∧ r = .val (.tup [.agg ((Nd.enc y0).map .s),.s (.int .i64 y1)])
def zG0 : zAo:=zAx fun xs r=>∃ n,zJL n xs r
theorem zJs : PSound Try.prog 38 zG0:=by
 have gok : ∀ f s,look? f [(24,zBJ),(56,zGi),(57,zIG),(58,zDr),(59,zHF)] = some s → PSound Try.prog f s:=zAu (by
  simp only [List.forall_mem_cons]
  exact ⟨zBV,zIt,zKP,zFC,zKh,by simp⟩)
 refine zAB tokW Try.call38 Try.func38 rfl (fun xs r h=>by obtain ⟨n,_,_,_,_,_,rfl,_⟩:=h; show 2 ≤ 53; decide) 53 rfl ?_;rintro xs r w0 G0 ⟨n,⟨n1A,n1B,n1D,n1C⟩,⟨op2A,op2Ac,op2Ae,op2Aa,op2G,op2Ab,op2X,op2B⟩,y0,y1,h,rfl,rfl⟩ _;rw [zE9] at h;refine zAa ?_;refine zAb [4] [] rfl ?_;show Tri ..;refine zAa ?_;refine zAa ?_;refine zAb [] [] rfl ?_;obtain ⟨y3,hy3,h⟩:=zAc h;refine ⟨_,⟨_,_,_,hy3,rfl,rfl⟩,?_⟩
 show Tri ..;refine zAg rfl (fun hb=>?_) (fun hb=>?_)
 ·replace h:=zAm hb h;refine zAa ?_;refine zAb [] [] rfl ?_;show Tri ..;refine zAh ?_;obtain ⟨hj1,hk1⟩:=Prod.mk.inj (Option.some.inj h)
  subst hj1;subst hk1;unfold zAv;exact ⟨_,Le.refl _ _,rfl,rfl⟩
 ·replace h:=zAl hb h;refine zAi ?_;show Tri ..;refine zAa ?_;refine zAa ?_;refine zAb [] [] rfl ?_;obtain ⟨y4,hy4,h⟩:=zAc h;refine ⟨_,⟨_,_,_,hy4,rfl,rfl⟩,?_⟩
  show Tri ..;refine zAg rfl (fun hb=>?_) (fun hb=>?_)
  ·replace h:=zAm hb h;refine zAa ?_;refine zAb [] [] rfl ?_;show Tri ..;refine zAh ?_;obtain ⟨hj1,hk1⟩:=Prod.mk.inj (Option.some.inj h)
   subst hj1;subst hk1;unfold zAv;exact ⟨_,Le.refl _ _,rfl,rfl⟩
  ·replace h:=zAl hb h;refine zAi ?_;show Tri ..;refine zAa ?_;refine zAb [6] [] rfl ?_;obtain ⟨⟨⟨y5A,y5B,y5D,y5C⟩,y6⟩,hy5,h⟩:=zAc h;refine ⟨_,⟨_,_,_,_,_,hy5,rfl,rfl⟩,?_⟩
   show Tri ..;refine zAa ?_;refine zAa ?_;refine zAb [] [] rfl ?_;show Tri ..;refine zAg rfl (fun hb=>?_) (fun hb=>?_)
   ·replace h:=zAm hb h;refine zAa ?_;refine zAb [] [] rfl ?_;show Tri ..;refine zAh ?_;obtain ⟨hj1,hk1⟩:=Prod.mk.inj (Option.some.inj h)
    subst hj1;subst hk1;unfold zAv;exact ⟨_,Le.refl _ _,rfl,rfl⟩
   ·replace h:=zAl hb h;refine zAi ?_;show Tri ..;refine zAa ?_;refine zAb [] [] rfl ?_;obtain ⟨⟨y7,y8⟩,hy7,h⟩:=zAc h;refine ⟨_,⟨_,_,_,_,hy7,rfl,rfl⟩,?_⟩
    show Tri ..;refine zAa ?_;refine zAa ?_;refine zAb [] [] rfl ?_;show Tri ..;refine zAg rfl (fun hb=>?_) (fun hb=>?_)
    ·replace h:=zAm hb h;refine zAa ?_;refine zAb [] [] rfl ?_;show Tri ..;refine zAh ?_;obtain ⟨hj1,hk1⟩:=Prod.mk.inj (Option.some.inj h)
     subst hj1;subst hk1;unfold zAv;exact ⟨_,Le.refl _ _,rfl,rfl⟩
    ·replace h:=zAl hb h;refine zAi ?_;show Tri ..;refine zAa ?_;refine zAb [8] [] rfl ?_;obtain ⟨⟨⟨y9A,y9B,y9D,y9C⟩,y10⟩,hy9,h⟩:=zAc h;refine ⟨_,⟨_,_,_,_,_,_,hy9,rfl,rfl⟩,?_⟩
     show Tri ..;refine zAk (Le.giveBox 2 [.int .i64 y9A,.str y9B,.int .i64 y9D,.sl 4 (Nd.encs y9C)] rfl rfl) ?_;refine zAa ?_;refine zAa ?_;refine zAb [] [] rfl ?_;show Tri ..;refine zAg rfl (fun hb=>?_) (fun hb=>?_)
     ·replace h:=zAm hb h;refine zAa ?_;refine zAb [] [] rfl ?_;show Tri ..;refine zAh ?_;obtain ⟨hj1,hk1⟩:=Prod.mk.inj (Option.some.inj h)
      subst hj1;subst hk1;unfold zAv;exact ⟨_,Le.refl _ _,rfl,rfl⟩
     ·replace h:=zAl hb h;refine zAi ?_;show Tri ..;refine zAa ?_;refine zAb [] [] rfl ?_;show Tri ..;refine zAh ?_;obtain ⟨hj1,hk1⟩:=Prod.mk.inj (Option.some.inj h)
      subst hj1;subst hk1;unfold zAv;exact ⟨_,Le.refl _ _,rfl,rfl⟩
def zHC (n : Nat) (xs : List AV) (r : Ret) : Prop:=∃ (a0 : Nd) (a1 : List zO8) (y0 : Nd) (y1 : Int) (y2 : Int),zCw n a0 a1 = some (y0,y1,y2) ∧ xs = [.agg ((Nd.enc a0).map .s),.s (.sl 8 ((List.map zAj) a1))] ∧ r = .val (.tup [.agg ((Nd.enc y0).map .s),.s (.int .i64 y1),.s (.int .i64 y2)])
def zDq : zAo:=zAx fun xs r=>∃ n,zHC n xs r
theorem zET : PSound Try.prog 26 zDq:=by
 have gok : ∀ f s,look? f [(24,zBJ),(25,zCf),(38,zG0)] = some s → PSound Try.prog f s:=zAu (by
  simp only [List.forall_mem_cons]
  exact ⟨zBV,zCp,zJs,by simp⟩)
 refine zAB tokW Try.call26 Try.func26 rfl (fun xs r h=>by obtain ⟨n,_,_,_,_,_,_,rfl,_⟩:=h; show 2 ≤ 39; decide) 39 rfl ?_;rintro xs r w0 G0 ⟨n,⟨n1A,n1B,n1D,n1C⟩,ops2,y0,y1,y2,h,rfl,rfl⟩ _;rw [zCw] at h;refine zAa ?_;refine zAb [4] [] rfl ?_;show Tri ..;refine zAa ?_;refine zAa ?_;refine zAb [] [] rfl ?_;obtain ⟨y3,hy3,h⟩:=zAc h;refine ⟨_,⟨_,_,_,hy3,rfl,rfl⟩,?_⟩
 show Tri ..;refine zAg rfl (fun hb=>?_) (fun hb=>?_)
 ·replace h:=zAm hb h;refine zAa ?_;refine zAb [] [] rfl ?_;show Tri ..;refine zAh ?_;obtain ⟨hj1,hk1⟩:=Prod.mk.inj (Option.some.inj h)
  subst hj1;obtain ⟨hj2,hk2⟩:=Prod.mk.inj hk1;subst hj2;subst hk2;unfold zAv;exact ⟨_,Le.refl _ _,rfl,rfl⟩
 ·replace h:=zAl hb h;refine zAi ?_;show Tri ..;refine zAa ?_;refine zAb [7] [] rfl ?_;obtain ⟨⟨y4A,y4B,y4D,y4C⟩,hy4,h⟩:=zAc h;refine ⟨_,⟨_,_,hy4,rfl,rfl⟩,?_⟩
  show Tri ..;refine zAa ?_;refine zAa ?_;refine zAb [] [19] rfl ?_;intro n5 hn5;obtain rfl : (ops2.length : Int) = n5:=(hn5.trans (congrArg (fun m : Nat=>(m : Int)) (rlen (fun _=>rfl) ops2))).symm;show Tri ..;obtain ⟨fl,hl,ho1⟩:=zAc h;refine zFq (fl:=fl) (fun z=>match z with | ⟨x12,x13,x14,x15⟩=>⟨ofL [(4,.op 0 0),(7,.op 1 0)],ofH [(0,.box 24 [.s (.int .i64 0),.s (.str []),.s (.int .i64 0),.nl 4]),(1,.box 24 [.s (.int .i64 x12),.s (.str x13),.s (.int .i64 x14),.s (.sl 4 (Nd.encs x15))])],2⟩) ?_ (fun z σ' hz hle=>?_)
  ·refine zAs (zAX (X:=Nat × Int × (List UInt8) × Int × (List Nd) × Int) (fun y=>match y with | (k,x7,x8,x9,x10,x11)=>⟨ofL [(4,.op 0 0),(7,.op 1 0),(18,.s (.sl 8 ((List.map zAj) ops2))),(19,.s (.int .i64 (ops2.length : Int))),(20,.s (.int .i64 x11))],ofH [(0,.box 24 [.s (.int .i64 0),.s (.str []),.s (.int .i64 0),.nl 4]),(1,.box 24 [.s (.int .i64 x7),.s (.str x8),.s (.int .i64 x9),.s (.sl 4 (Nd.encs x10))])],2⟩) (fun y=>zBk n ops2 y.1 y.2.1 y.2.2.1 y.2.2.2.1 y.2.2.2.2.1 y.2.2.2.2.2 = some fl) (fun y=>y.1) (n,y4A,y4B,y4D,y4C,0) hl ?_ ?_)
   ·exact (Le.rnm [(0,0),(1,1)] _ _ _ ⟨rfl,rfl,rfl,rfl,rfl,trivial⟩ ⟨rfl,⟨_,rfl,rfl⟩,rfl,⟨_,rfl,rfl⟩,trivial⟩)
   ·rintro ⟨k,x7,x8,x9,x10,x11⟩ h;cases k with
    | zero=>cases h
    | succ k =>
     replace h : zBk n ops2 (k+1) x7 x8 x9 x10 x11 = some fl:=h;rw [zBk] at h;refine zAa ?_;refine zAb [] [] rfl ?_;show Tri ..;refine zAa ?_;refine zAg rfl (fun hb=>?_) (fun hb=>?_)
     ·replace h:=zAm hb h;refine zAi ?_;show Tri ..;refine zAa ?_;refine zAs ?_;refine zAa ?_;refine zAb [9] [23] rfl ?_;obtain ⟨⟨e16A,e16Ac,e16Ae,e16Aa,e16G,e16Ab,e16X,e16B⟩,he16,h⟩:=zAc h;refine And.intro (zAY (fun _=>rfl) he16).1 ?_;intro r17 hr17;obtain rfl : [.int .i64 e16A,.sl 1 ((List.map (irow .i64)) e16Ac),.int .i64 e16Ae,.int .i64 e16Aa,.sl 4 (Nd.encs e16G),.int .i64 e16Ab,.str e16X,.str e16B] = r17:=(hr17.trans (zAY (fun _=>rfl) he16).2.1).symm;show Tri ..
      refine zAk (Le.giveBox 2 [.int .i64 e16A,.sl 1 ((List.map (irow .i64)) e16Ac),.int .i64 e16Ae,.int .i64 e16Aa,.sl 4 (Nd.encs e16G),.int .i64 e16Ab,.str e16X,.str e16B] rfl rfl) ?_;refine zAa ?_;refine zAb [10] [] rfl ?_;obtain ⟨⟨⟨y18A,y18B,y18D,y18C⟩,y19⟩,hy18,h⟩:=zAc h;refine ⟨_,⟨_,_,_,_,_,hy18,rfl,rfl⟩,?_⟩
      show Tri ..;refine zAk (Le.giveBox 3 [.int .i64 y18A,.str y18B,.int .i64 y18D,.sl 4 (Nd.encs y18C)] rfl rfl) ?_;refine zAa ?_;refine zAa ?_;refine zAb [] [] rfl ?_;show Tri ..;refine zAg rfl (fun hb=>?_) (fun hb=>?_)
      ·replace h:=zAm hb h;refine zAa ?_;refine zAb [] [] rfl ?_;show Tri ..;refine zAh ?_;cases h;replace h : some _ = some _:=ho1;obtain ⟨hj1,hk1⟩:=Prod.mk.inj (Option.some.inj h)
       subst hj1;obtain ⟨hj2,hk2⟩:=Prod.mk.inj hk1;subst hj2;subst hk2;unfold zAv;exact ⟨_,Le.refl _ _,rfl,rfl⟩
      ·replace h:=zAl hb h;refine zAi ?_;show Tri ..;refine zAb [] [] rfl ?_;show Tri ..;refine zAb [] [] rfl ?_;refine ⟨(k,y18A,y18B,y18D,y18C,IntKind.i64.wrap (x11 + 1)),h,(Le.rnm [(0,0),(1,1)] _ _ _ ⟨rfl,rfl,rfl,rfl,rfl,trivial⟩ ⟨rfl,⟨_,rfl,rfl⟩,rfl,⟨_,rfl,rfl⟩,trivial⟩),Nat.lt_succ_self k⟩
     ·replace h:=zAl hb h;refine zBn ?_;cases h;exact ⟨_,rfl,(Le.rnm [(0,0),(1,1)] _ _ _ ⟨rfl,rfl,trivial⟩ ⟨rfl,⟨_,rfl,rfl⟩,rfl,⟨_,rfl,rfl⟩,trivial⟩)⟩
  ·subst hz;obtain ⟨x12,x13,x14,x15⟩:=z;replace h:=ho1;show Tri ..;refine zAk hle ?_;refine zAa ?_;refine zAb [] [] rfl ?_;show Tri ..;refine zAh ?_;obtain ⟨hj1,hk1⟩:=Prod.mk.inj (Option.some.inj h)
   subst hj1;obtain ⟨hj2,hk2⟩:=Prod.mk.inj hk1;subst hj2;subst hk2;unfold zAv;exact ⟨_,Le.refl _ _,rfl,rfl⟩
def zJa (n : Nat) (xs : List AV) (r : Ret) : Prop:=∃ (a0 : zO8) (y0 : zO8),zCx n a0 = some y0 ∧ xs = [.agg ((zAj a0).map .s)] ∧ r = .val (.agg ((zAj y0).map .s))
def zGj : zAo:=zAx fun xs r=>∃ n,zJa n xs r
theorem zIu : PSound Try.prog 41 zGj:=by
 have gok : ∀ f s,look? f [(60,zHD)] = some s → PSound Try.prog f s:=zAu (by
  simp only [List.forall_mem_cons]
  exact ⟨zIT,by simp⟩)
 refine zAB tokW Try.call41 Try.func41 rfl (fun xs r h=>by obtain ⟨n,_,_,_,rfl,_⟩:=h; show 1 ≤ 29; decide) 29 rfl ?_;rintro xs r w0 G0 ⟨n,⟨op1A,op1Ac,op1Ae,op1Aa,op1G,op1Ab,op1X,op1B⟩,y0,h,rfl,rfl⟩ _;rw [zCx] at h;refine zAa ?_;refine zAb [2] [] rfl ?_;show Tri ..;refine zAa ?_;refine zAb [3] [] rfl ?_;obtain ⟨⟨y2A,y2Ac,y2Ae,y2Aa,y2G,y2Ab,y2X,y2B⟩,hy2,h⟩:=zAc h;refine ⟨_,⟨_,_,_,hy2,rfl,rfl⟩,?_⟩
 show Tri ..;refine zAa ?_;refine zAa ?_;refine zAb [] [] rfl ?_;show Tri ..;obtain ⟨⟨x3,x4,x5⟩,hj,h⟩:=zAc h;refine zAw ⟨ofL [(2,.op 0 0),(3,.op 1 0)],ofH [(0,.box 35 [.s (.int .i64 0),.nl 1,.s (.int .i64 0),.s (.int .i64 0),.nl 4,.s (.int .i64 0),.s (.str []),.s (.str [])]),(1,.box 35 [.s (.int .i64 x3),.s (.sl 1 ((List.map (irow .i64)) y2Ac)),.s (.int .i64 y2Ae),.s (.int .i64 y2Aa),.s (.sl 4 (Nd.encs y2G)),.s (.int .i64 y2Ab),.s (.str x4),.s (.str x5)])],2⟩ ?_ (fun σ' hle=>?_)
 ·replace h:=hj;refine zAs ?_;refine zAa ?_;refine zAb [] [] rfl ?_;show Tri ..;refine zAg rfl (fun hb=>?_) (fun hb=>?_)
  ·replace h:=zAm hb h;refine zAb [] [] rfl ?_;cases h;exact (Le.rnm [(0,0),(1,1)] _ _ _ ⟨rfl,rfl,trivial⟩ ⟨rfl,⟨_,rfl,rfl⟩,rfl,⟨_,rfl,rfl⟩,trivial⟩)
  ·replace h:=zAl hb h;refine zAa ?_;refine zAb [] [] rfl ?_;show Tri ..;refine zAg rfl (fun hb=>?_) (fun hb=>?_)
   ·replace h:=zAm hb h;refine zAb [] [] rfl ?_;cases h;exact (Le.rnm [(0,0),(1,1)] _ _ _ ⟨rfl,rfl,trivial⟩ ⟨rfl,⟨_,rfl,rfl⟩,rfl,⟨_,rfl,rfl⟩,trivial⟩)
   ·replace h:=zAl hb h;refine zAa ?_;refine zAb [] [] rfl ?_;show Tri ..;refine zAg rfl (fun hb=>?_) (fun hb=>?_)
    ·replace h:=zAm hb h;refine zAb [] [] rfl ?_;cases h;exact (Le.rnm [(0,0),(1,1)] _ _ _ ⟨rfl,rfl,trivial⟩ ⟨rfl,⟨_,rfl,rfl⟩,rfl,⟨_,rfl,rfl⟩,trivial⟩)
    ·replace h:=zAl hb h;refine zAa ?_;refine zAb [] [] rfl ?_;show Tri ..;refine zAg rfl (fun hb=>?_) (fun hb=>?_)
     ·replace h:=zAm hb h;refine zAb [] [] rfl ?_;cases h;exact (Le.rnm [(0,0),(1,1)] _ _ _ ⟨rfl,rfl,trivial⟩ ⟨rfl,⟨_,rfl,rfl⟩,rfl,⟨_,rfl,rfl⟩,trivial⟩)
     ·replace h:=zAl hb h;refine zAa ?_;refine zAb [] [] rfl ?_;show Tri ..;refine zAg rfl (fun hb=>?_) (fun hb=>?_)
      ·replace h:=zAm hb h;refine zAH (by exact tokW) (by exact gok) (by exact mixed) [] [] [5,7] rfl (by decide +kernel) ?_;cases h;exact (Le.rnm [(0,0),(1,1)] _ _ _ ⟨rfl,rfl,trivial⟩ ⟨rfl,⟨_,rfl,rfl⟩,rfl,⟨_,rfl,rfl⟩,trivial⟩)
      ·replace h:=zAl hb h;refine zAi ?_;cases h;exact (Le.rnm [(0,0),(1,1)] _ _ _ ⟨rfl,rfl,trivial⟩ ⟨rfl,⟨_,rfl,rfl⟩,rfl,⟨_,rfl,rfl⟩,trivial⟩)
 ·show Tri ..;refine zAk hle ?_;refine zAa ?_;refine zAb [] [] rfl ?_;show Tri ..;refine zAh ?_;have hy:=Option.some.inj h;subst hy;unfold zAv;exact ⟨_,Le.refl _ _,rfl,rfl⟩
end Go.Proofs.Ytffhjiplcfncdaa
namespace Go.Abs
def ownB (β : Nat → Value) (hp : Nat → Option Ob) : Nat → Prop:=fun b=>∃ k ob,hp k = some ob ∧ blk (β k) = some b
def rcx (P : Program) (N m l : Nat) (w : World) (X G : Nat → Prop) (B : Nat → Value) : Cx:={ P:=P,w0:=w,X:=X,G0:=G,N:=N,n0:=m,B0:=B,ro:=some l }
def lcx (P : Program) (N m : Nat) (w : World) (X G : Nat → Prop) (B : Nat → Value) (D : Nat) : Cx:={ P:=P,w0:=w,X:=X,G0:=G,N:=N,n0:=m,B0:=B,ds:=[{ target:=.collected D,args:=#[] }] }
theorem ObAt.turn {c1 c2 : Cx} {G : Nat → Prop} {w w2 : World} {β : Nat → Value} {v : Value} {o : Ob} (hk : Keep G G w w2) (hb : ∀ b,blk v = some b → w2.heap[b]? = w.heap[b]?) (hm : ∀ b,blk v = some b → c2.mine b) (h : ObAt c1 G w β v o) : ObAt c2 G w2 β v o:=by
 cases o with
 | box xs =>
  obtain ⟨b,e,cur,q1,q2,q3,q4,q5,q6⟩:=h;exact ⟨b,e,cur,q1,(hb b (by rw [q1]; rfl)).trans q2,q3,hm b (by rw [q1]; rfl),q5.keep hk,q6⟩
 | row e sz rows =>
  obtain ⟨q1,q2,q3⟩:=h;refine ⟨q1,q2,q3.imp id ?_⟩
  rintro ⟨b,cap,cur,g1,g2,g3,g4,g5,g6,g7⟩
  exact ⟨b,cap,cur,g1,g2,g3,(hb b (by rw [g1]; rfl)).trans g4,g5,hm b (by rw [g1]; rfl),fun i s hi=>let ⟨u,hu,hr⟩:=g7 i s hi; ⟨u,hu,hr.keep hk⟩⟩
 | arow e sz rows =>
  obtain ⟨q1,q2,q3⟩:=h;refine ⟨q1,q2,q3.imp id ?_⟩
  rintro ⟨b,cap,cur,g1,g2,g3,g4,g5,g6,g7⟩
  exact ⟨b,cap,cur,g1,g2,g3,(hb b (by rw [g1]; rfl)).trans g4,g5,hm b (by rw [g1]; rfl),fun i s hi=>let ⟨u,hu,hr,h1⟩:=g7 i s hi; ⟨u,hu,hr.keep hk,h1⟩⟩
theorem ObAt.cells {c : Cx} {G : Nat → Prop} {w : World} {β : Nat → Value} {v : Value} {o : Ob} (h : ObAt c G w β v o) : ∀ b,blk v = some b → ∃ cur e f,w.heap[b]? = some (.cells cur e f):=fun b hb=>by
 cases o with
 | box xs =>
  obtain ⟨b',e,cur,rfl,q2,_⟩:=h;cases hb; exact ⟨_,_,_,q2⟩
 | row e sz rows =>
  obtain ⟨_,_,h | ⟨b',cap,cur,rfl,_,_,q2,_⟩⟩:=h
  ·rw [h.1] at hb; cases hb
  ·cases hb; exact ⟨_,_,_,q2⟩
 | arow e sz rows =>
  obtain ⟨_,_,h | ⟨b',cap,cur,rfl,_,_,q2,_⟩⟩:=h
  ·rw [h.1] at hb; cases hb
  ·cases hb; exact ⟨_,_,_,q2⟩
section
variable {c : Cx} {G : Nat → Prop} {β : Nat → Value} {σ : St} {a : Act} {w : World}
theorem Conc.not_own (hc : Conc c G β σ a w) {l : Nat} {o : Obj} (hl : w.heap[l]? = some o) (ho : o.isCells = false) : ¬ ownB β σ.hp l:=fun ⟨k,ob,h1,h2⟩=>by
 obtain ⟨cur,e,f,h3⟩:=(hc.hp k ob h1).cells l h2;rw [hl] at h3;cases h3;cases ho
theorem Conc.re (hc : Conc c G β σ a w) {c2 : Cx} {w2 : World} {a2 : Act} {env2 : Nat → AV} (hk : ∀ b,G b → w2.heap[b]? = w.heap[b]?) (ho : ∀ b,ownB β σ.hp b → w2.heap[b]? = w.heap[b]?) (hs : w.heap.size ≤ w2.heap.size)
  (hd : a2.defers = c2.ds) (hN : a2.tmps.size = c2.N) (he : ∀ t,AVal G w β (env2 t) (a2.tmps.getD t undef)) (hel : ∀ t,(env2 t).lt σ.nx = true) (hm : ∀ b,ownB β σ.hp b → c2.mine b)
  (hsub : ∀ b,c2.G0 b → G b) (hnew : ∀ b,G b → c2.G0 b ∨ c2.mine b) (hfr : Fr c2.X c2.w0 w2) (hst : c2.n0 ≤ σ.nx ∧ ∀ k,k < c2.n0 → β k = c2.B0 k) : Conc c2 G β ⟨env2,σ.hp,σ.nx⟩ a2 w2:=by
 have hkp : Keep G G w w2:=⟨fun _ h=>h,hk⟩
 exact {
  defers:=hd
  size:=hN
  env:=fun t=>(he t).keep hkp
  envlt:=hel
  hp:=fun k ob h=>(hc.hp k ob h).turn hkp (fun b hb=>ho b ⟨k,ob,h,hb⟩) (fun b hb=>hm b ⟨k,ob,h,hb⟩)
  hplt:=hc.hplt
  inj:=hc.inj
  lt:=fun b hb=>Nat.lt_of_lt_of_le (hc.lt b hb) hs
  sub:=hsub
  new:=hnew
  fr:=hfr
  stay:=hst
  glob:=hc.glob.keep hkp }
theorem Ext.alloc0 (h : ∀ b,G b → b < w.heap.size) (o : Obj) : Ext G G w (w.alloc o) :=
 ⟨rfl,rfl,rfl,by rw [World.size_alloc]; omega,fun b hb=>zA2 w o hb,fun _ h=>h,fun _ h=>.inl h,fun b hb=>by rw [World.size_alloc]; have:=h b hb; omega⟩
end
structure Grown (A B : World) : Prop where
 os : B.os = A.os
 tape : B.tape = A.tape
 output : B.output = A.output
 size : A.heap.size ≤ B.heap.size
 old : ∀ b,b < A.heap.size → B.heap[b]? = A.heap[b]?
theorem Grown.ext {A B : World} {G : Nat → Prop} (h : Grown A B) (hl : ∀ b,G b → b < A.heap.size) : Ext G G A B:=⟨h.os,h.tape,h.output,h.size,h.old,fun _ h=>h,fun _ h=>.inl h,fun b hb=>Nat.lt_of_lt_of_le (hl b hb) h.size⟩
def zI5 (P : Program) (fid sz : Nat) : Prop :=
 ∀ (G : Nat → Prop) (w0 : World) (v : Value) (rows : List (List S)),(∀ b,G b → b < w0.heap.size) → GlobOk G w0 → Rep G w0 (.pt [.sl sz rows]) v → (∀ r ∈ rows,r.length = sz) → rows.length ≤ 4611686018427387904 →
  ∀ (l : Nat) (J : Nat → World → Prop) (W : World),w0.heap.size ≤ W.heap.size → (∀ b,G b → W.heap[b]? = w0.heap[b]?) → (∀ i A B,J i A → Grown A B → J i B) →
   (∀ i j row u W1,i + j + 1 = rows.length → rows[j]? = some row → J i W1 → w0.heap.size ≤ W1.heap.size → (∀ b,G b → W1.heap[b]? = w0.heap[b]?) → (∀ β,AVal G W1 β (.agg (row.map .s)) u) →
    YieldAt Fence.wide 0 P l #[.int .i64 (j : Int),u] W1 fun e W2=>e = .returned (.bool true) ∧ J (i + 1) W2 ∧ w0.heap.size ≤ W2.heap.size ∧ ∀ b,G b → W2.heap[b]? = w0.heap[b]?) →
   J 0 W → CallsIn Fence.wide 1 P fid #[.func (.yield l) #[] #[],v] W fun e W'=>(∃ u,e = .returned u) ∧ J rows.length W'
structure Sw (c c2 : Cx) (D : Nat) : Prop where
 fr : Fr c.X c.w0 c2.w0
 mine : ∀ b,c2.X b → c.mine b
 sub : ∀ b,c.G0 b → c2.G0 b
 new : ∀ b,c2.G0 b → c.G0 b ∨ c.mine b
 blk : c2.w0.heap[D]? = some (.deferred (some []))
 nX : ¬ c2.X D
 nG : ¬ c2.G0 D
 ge : c.w0.heap.size ≤ D
def zKW (σ : St) (p1 p2 : Nat) (j : Nat) (row : List S) (e : (Nat → Option Ob) × Nat) : St :=
 ⟨fun t=>bif Nat.beq t p2 then .agg (row.map .s) else bif Nat.beq t p1 then .s (.int .i64 (j : Int)) else σ.env t,e.1,e.2⟩
def Rl (w : World) (X : Nat → Prop) (l : Nat) : Prop:=(∃ r,w.heap[l]? = some (.loop r)) ∧ ¬ X l
theorem zHt {tm : Array Value} {p t : Nat} {v : Value} (hp : p < tm.size) : (tm.setIfInBounds p v).getD t undef = if t = p then v else tm.getD t undef:=by
 rw [Array.getD_eq_getD_getElem?,Array.getD_eq_getD_getElem?]
 by_cases h : t = p
 ·subst h;rw [if_pos rfl,Array.getElem?_setIfInBounds_self_of_lt hp]
  rfl
 ·rw [if_neg h,Array.getElem?_setIfInBounds_ne (Ne.symm h)]
theorem zip2 {α β : Type} (a b : α) (x y : β) : #[a,b].zip #[x,y] = #[(a,x),(b,y)]:=by
 apply Array.ext'
 simp [Array.toList_zip]
theorem nbeq {a b : Nat} (h : a ≠ b) : Nat.beq a b = false:=by
 cases e : Nat.beq a b with
 | false=>rfl
 | true=>exact absurd (Nat.eq_of_beq_eq_true e) h
theorem zKL {n : Nat} : ∀ (row : List S),AV.ltAll n (row.map .s) = true
 | []=>rfl
 | s :: r=>by simp only [List.map_cons,AV.ltAll,Bool.and_eq_true]; exact ⟨rfl,zKL r⟩
theorem zM7 {c : Cx} {G : Nat → Prop} {β : Nat → Value} {σ : St} {a : Act} {w : World} (hc : Conc c G β σ a w) (hro : c.ro = none) (hds : c.ds = []) {tg p1 p2 fid sz : Nat} {rows : List (List S)} {assign body : Code}
  (hit : zI5 c.P fid sz) (hcall : ∀ args w,(callFunc fid args).run c.P w = .ok (.enter fid args) w) (he : σ.env tg = .clo fid [.s (.pt [.sl sz rows])]) (hrl : ∀ r ∈ rows,r.length = sz) (hlen : rows.length ≤ 4611686018427387904)
  (E : Nat → (Nat → Option Ob) × Nat) (hE : E 0 = (σ.hp,σ.nx)) (m : Nat) (hm : ∀ t,(σ.env t).lt m = true) (hm0 : c.n0 ≤ m) (hmE : ∀ i,m ≤ (E i).2) (hp1 : p1 < c.N) (hp2 : p2 < c.N)
  (hround : ∀ i j row,i + j + 1 = rows.length → rows[j]? = some row → ∀ l w X G B,Rl w X l → Tri (rcx c.P c.N m l w X G B) assign (zKW σ p1 p2 j row (E i)) (fun e σ1=>e = .normal ∧ ∀ w X G B,Rl w X l →
   Tri (rcx c.P c.N m l w X G B) body σ1 (fun e σ2=>e = .normal ∧ ∃ σ3,Le (rcx c.P c.N m l w X G B) σ2 σ3 ∧ σ3.hp = (E (i + 1)).1 ∧ σ3.nx = (E (i + 1)).2)))
  {Φ : Exit → Act → World → Prop} (hdone : ∀ D w2 X G2 G' β' a2,Sw c (lcx c.P c.N c.n0 w2 X G2 c.B0 D) D → Conc (lcx c.P c.N c.n0 w2 X G2 c.B0 D) G' β' ⟨σ.env,(E rows.length).1,(E rows.length).2⟩ a2 w2 → Φ .normal a2 w2) :
  (Code.rangeFunc (.tmp tg) #[p1,p2] assign body).wpIn (rF none) 2 c.P Φ a w:=by
 have hg:=hc.env tg;rw [he] at hg;simp only [AVal,AVals] at hg;obtain ⟨vs,hg,v,vs',rfl,hv,rfl⟩:=hg;have hg : a.eval (.tmp tg) = .func (.func fid) #[] #[v]:=hg;have hiter:=hit G w v rows hc.lt hc.glob hv hrl hlen;refine wpIn_rangeFunc fun fn _=>?_
 obtain ⟨rec,hrec⟩ : ∃ rec : LoopState → Loop,rec = fun st=>{ state:=st,pending:=none,fn:=fn,tmps:=a.tmps,params:=#[p1,p2],assign:=assign,body:=body,defers:=w.heap.size }:=⟨_,rfl⟩
 obtain ⟨l,hl0⟩ : ∃ l,l = w.heap.size + 1:=⟨_,rfl⟩
 obtain ⟨D,hD0⟩ : ∃ D,D = w.heap.size:=⟨_,rfl⟩
 obtain ⟨W1,hW1⟩ : ∃ W1,(w.alloc (.deferred (some []))).alloc (.loop (rec .ready)) = W1:=⟨_,rfl⟩
 have hL1 : W1.heap[l]? = some (.loop (rec .ready)):=by
  have:=World.alloc_heap_new (w.alloc (.deferred (some []))) (.loop (rec .ready))
  rw [World.size_alloc] at this;rw [← hW1,hl0]; exact this
 have hDD : W1.heap[D]? = some (.deferred (some [])):=by
  have:=zA2 (w.alloc (.deferred (some []))) (.loop (rec .ready)) (b:=w.heap.size) (by rw [World.size_alloc]; omega)
  rw [← hW1,hD0,this]
  exact World.alloc_heap_new w _
 have hc1 : Conc c G β σ a W1:=by
  rw [← hW1]
  have h1:=hc.ext (Ext.alloc0 hc.lt (.deferred (some [])))
  exact h1.ext (Ext.alloc0 h1.lt (.loop (rec .ready)))
 have hlD : l ≠ D :=(by omega);have hcl : c.w0.heap.size ≤ D :=(by rw [hD0]; exact hc.fr.size);refine ⟨l,[{ target:=.collected D,args:=#[] }],W1,{ target:=.fn (.func fid) #[v],args:=#[.func (.yield l) #[] #[]] },W1,fid,#[.func (.yield l) #[] #[]] ++ #[v],W1,?_,?_,?_,?_,fun h=>(by cases h),?_⟩
 ·rw [← hW1,hrec,hl0,hD0]; exact run_enterLoop_outer _ _ _ _ _
 ·simp only [resolve,hg]
  simp [go_sem]
 ·intro f' hf'; trivial
 ·simp [invoke,go_sem,hcall]
 have key:=hiter l (fun i W=>W.heap[l]? = some (.loop (rec .ready)) ∧ W.heap[D]? = some (.deferred (some [])) ∧ ∃ G' β',Conc c G' β' ⟨σ.env,(E i).1,(E i).2⟩ a W ∧ (∀ b,G b → G' b) ∧ ¬ G' l ∧ ¬ G' D) W1 (by rw [← hW1,World.size_alloc,World.size_alloc]; omega)
  (fun b hb=>by
   have hb':=hc.lt b hb;rw [← hW1,zA2 _ _ (by rw [World.size_alloc]; omega),zA2 _ _ hb'])
  (fun i A B ⟨h1,h2,G',β',h3,h4⟩ hg=>⟨(hg.old l (Array.getElem?_eq_some_iff.1 h1).1).trans h1,(hg.old D (Array.getElem?_eq_some_iff.1 h2).1).trans h2,G',β',h3.ext (hg.ext h3.lt),h4⟩)
  ?_ ⟨hL1,hDD,G,β,by rw [hE]; exact hc1,fun _ h=>h,fun h=>by have:=hc.lt _ h; omega,fun h=>by have:=hc.lt _ h; omega⟩
 ·refine key.mono ?_;rintro e W3 ⟨⟨u,rfl⟩,h1,h2,G3,β3,hc3,hG3,hnl,hnD⟩
  have hend:=run_endLoop (P:=c.P) h1 (by rw [hrec]; simp)
  rw [hrec] at hend;refine ⟨none,_,hend,?_⟩
  dsimp only;have hnol : ¬ ownB β3 (E rows.length).1 l:=hc3.not_own h1 rfl;have hnoD : ¬ ownB β3 (E rows.length).1 D:=hc3.not_own h2 rfl;have hl3 : l < W3.heap.size:=(Array.getElem?_eq_some_iff.1 h1).1;generalize hW4 : W3.putObj l _ = W4;have hoth : ∀ b,b ≠ l → W4.heap[b]? = W3.heap[b]?:=fun b hb=>by rw [← hW4]; exact World.putObj_heap_other hb
  have hsz : W4.heap.size = W3.heap.size :=(by rw [← hW4]; exact World.putObj_size);have hfr4 : Fr c.X c.w0 W4:=⟨by rw [← hW4]; exact hc3.fr.os,by rw [← hW4]; exact hc3.fr.tape,by rw [← hW4]; exact hc3.fr.output,by rw [hsz]; exact hc3.fr.size,fun b hb hx=>(hoth b (by omega)).trans (hc3.fr.old b hb hx)⟩
  refine hdone D W4 (ownB β3 (E rows.length).1) G3 G3 β3 _ ⟨hfr4,fun b ⟨k,ob,q1,q2⟩=>(row_block (hc3.hp k ob q1) b q2).2,hc3.sub,hc3.new,(hoth D (Ne.symm hlD)).trans h2,hnoD,hnD,hcl⟩ ?_;exact hc3.re (c2:=lcx c.P c.N c.n0 W4 (ownB β3 (E rows.length).1) G3 c.B0 D) (fun b hb=>hoth b fun h=>hnl (h ▸ hb)) (fun b hb=>hoth b fun h=>hnol (h ▸ hb)) (by rw [hsz]; exact Nat.le_refl _)
   (by show _ :: a.defers = _; rw [hc.defers,hds]; rfl) hc.size hc3.env hc3.envlt (fun b hb=>.inl hb) (fun b hb=>hb) (fun b hb=>.inl hb) (Fr.refl _ _) hc3.stay
 ·rintro i j row u W hiN hrow ⟨h1,h2,G',β',hcW,hGG,hnl,hnD⟩ hszW hGk hval;have hy:=run_yield (P:=c.P) (args:=#[.int .i64 (j : Int),u]) h1 (by rw [hrec]; rfl)
  rw [hrec] at hy;have hnol : ¬ ownB β' (E i).1 l:=hcW.not_own h1 rfl;have hnoD : ¬ ownB β' (E i).1 D:=hcW.not_own h2 rfl;have hlW : l < W.heap.size:=(Array.getElem?_eq_some_iff.1 h1).1;have hDW : D < W.heap.size:=(Array.getElem?_eq_some_iff.1 h2).1;have hkW : Keep G G' w W:=⟨hGG,fun b hb=>(hGk b hb)⟩
  have htm : ((#[p1,p2].zip #[Value.int .i64 (j : Int),u]).foldl (fun tmps (x : Nat × Value)=>tmps.setIfInBounds x.1 x.2) a.tmps) = (a.tmps.setIfInBounds p1 (.int .i64 (j : Int))).setIfInBounds p2 (u) :=(by rw [zip2]; rfl);have hy : (Instr.yield l #[.int .i64 (j : Int),u]).run c.P W = .ok (.round l fn ((a.tmps.setIfInBounds p1 (.int .i64 (j : Int))).setIfInBounds p2 (u)) assign body) W :=(by rw [← htm]; exact hy);refine ⟨fn,_,assign,body,hy,roundIn_of_wpIn trivial ?_⟩
  have hs1 : p1 < a.tmps.size :=(by rw [hcW.size]; exact hp1);have hs2 : p2 < (a.tmps.setIfInBounds p1 (.int .i64 (j : Int))).size :=(by rw [Array.size_setIfInBounds,hcW.size]; exact hp2);have hA : Conc (rcx c.P c.N m l W (ownB β' (E i).1) G' β') G' β' (zKW σ p1 p2 j row (E i)) { tmps:=(a.tmps.setIfInBounds p1 (.int .i64 (j : Int))).setIfInBounds p2 (u),defers:=[] } W:=by
   refine hcW.re (c2:=rcx c.P c.N m l W (ownB β' (E i).1) G' β') (fun _ _=>rfl) (fun _ _=>rfl) (Nat.le_refl _) rfl (by show _ = c.N; rw [Array.size_setIfInBounds,Array.size_setIfInBounds]; exact hcW.size) (fun t=>?_) (fun t=>?_) (fun b hb=>.inl hb) (fun _ h=>h) (fun _ h=>.inl h) (Fr.refl _ _) ⟨hmE i,fun _ _=>rfl⟩
   ·dsimp only;rw [zHt hs2,zHt hs1]
    by_cases e2 : t = p2
    ·subst e2;rw [if_pos rfl,Nat.beq_refl,cond_true]
     exact (hval β').keep ⟨hGG,fun _ _=>rfl⟩
    ·rw [if_neg e2,nbeq e2,cond_false]
     by_cases e1 : t = p1
     ·subst e1;rw [if_pos rfl,Nat.beq_refl,cond_true]
      simp [AVal,Rep]
     ·rw [if_neg e1,nbeq e1,cond_false]
      exact hcW.env t
   ·dsimp only
    by_cases e2 : t = p2
    ·subst e2; rw [Nat.beq_refl,cond_true]; simp only [AV.lt]; exact zKL row
    ·rw [nbeq e2,cond_false]
     by_cases e1 : t = p1
     ·subst e1; rw [Nat.beq_refl,cond_true]; rfl
     ·rw [nbeq e1,cond_false]; exact hcW.envlt t
  have hTri:=hround i j row hiN hrow l W (ownB β' (E i).1) G' β' ⟨⟨_,h1⟩,hnol⟩
  unfold Tri at hTri;refine wpIn_mono (zNd (m:=0) (hTri _ _ _ _ hA)) ?_;rintro e a1 Wb ⟨e',G2,β2,σ1,rfl,⟨rfl,hbody⟩,hB⟩
  have bl : Wb.heap[l]? = W.heap[l]?:=hB.fr.old l hlW hnol;have bD : Wb.heap[D]? = W.heap[D]?:=hB.fr.old D hDW hnoD;have hlb : l < Wb.heap.size:=Nat.lt_of_lt_of_le hlW hB.fr.size;have hn2l : ¬ G2 l:=fun h=>(hB.new l h).elim hnl (fun h=>h.elim hnol (fun h=>by have : W.heap.size ≤ l:=h; omega))
  have hn2D : ¬ G2 D:=fun h=>(hB.new D h).elim hnD (fun h=>h.elim hnoD (fun h=>by have : W.heap.size ≤ D:=h; omega))
  refine ⟨_,run_beginRound (bl.trans h1) (by rw [hrec]),?_⟩
  generalize hW2 : Wb.putObj l _ = W2;have oth2 : ∀ b,b ≠ l → W2.heap[b]? = Wb.heap[b]?:=fun b hb=>by rw [← hW2]; exact World.putObj_heap_other hb
  have sz2 : W2.heap.size = Wb.heap.size :=(by rw [← hW2]; exact World.putObj_size);have l2 : W2.heap[l]? = some (.loop { rec .ready with state:=.busy }) :=(by rw [← hW2]; exact World.putObj_heap_same hlb);have hno1l : ¬ ownB β2 σ1.hp l:=hB.not_own (bl.trans h1) rfl;have hno1D : ¬ ownB β2 σ1.hp D:=hB.not_own (bD.trans h2) rfl;have hB2 : Conc (rcx c.P c.N m l W2 (ownB β2 σ1.hp) G2 β') G2 β2 σ1 a1 W2 :=
   hB.re (c2:=rcx c.P c.N m l W2 (ownB β2 σ1.hp) G2 β') (fun b hb=>oth2 b fun h=>hn2l (h ▸ hb)) (fun b hb=>oth2 b fun h=>hno1l (h ▸ hb)) (by rw [sz2]; exact Nat.le_refl _) hB.defers hB.size hB.env hB.envlt (fun b hb=>.inl hb) (fun _ h=>h) (fun _ h=>.inl h) (Fr.refl _ _) hB.stay
  have hTri2:=hbody W2 (ownB β2 σ1.hp) G2 β' ⟨⟨_,l2⟩,hno1l⟩
  unfold Tri at hTri2;refine wpIn_mono (zNd (m:=0) (hTri2 _ _ _ _ hB2)) ?_;rintro e a2 Wc ⟨e',G3,β3,σ2,rfl,⟨rfl,σ3,hle,hhp,hnx⟩,hC0⟩
  unfold Le at hle;obtain ⟨G4,β4,hC⟩:=hle _ _ _ _ hC0;have hl2 : l < W2.heap.size :=(by omega);have hD2 : D < W2.heap.size :=(by have:=hB.fr.size; simp only [rcx] at this; omega);have cl : Wc.heap[l]? = W2.heap[l]?:=hC.fr.old l hl2 hno1l;have cD : Wc.heap[D]? = W2.heap[D]?:=hC.fr.old D hD2 hno1D;have hlc : l < Wc.heap.size:=Nat.lt_of_lt_of_le hl2 hC.fr.size;have hend:=run_endRound (P:=c.P) none (cl.trans l2)
  refine ⟨_,_,hend,rfl,?_⟩
  generalize hW5 : Wc.putObj l _ = W5;have oth5 : ∀ b,b ≠ l → W5.heap[b]? = Wc.heap[b]?:=fun b hb=>by rw [← hW5]; exact World.putObj_heap_other hb
  have sz5 : W5.heap.size = Wc.heap.size :=(by rw [← hW5]; exact World.putObj_size);have l5 : W5.heap[l]? = some (.loop (rec .ready)) :=(by rw [← hW5,World.putObj_heap_same hlc,hrec]; rfl);have hnol3 : ¬ ownB β4 σ3.hp l:=hC.not_own (cl.trans l2) rfl;have hn4l : ¬ G4 l:=fun h=>(hC.new l h).elim hn2l (fun h=>h.elim hno1l (fun h=>by have : W2.heap.size ≤ l:=h; omega))
  have hn4D : ¬ G4 D:=fun h=>(hC.new D h).elim hn2D (fun h=>h.elim hno1D (fun h=>by have : W2.heap.size ≤ D:=h; omega))
  have hsub4 : ∀ b,G' b → G4 b:=fun b h=>hC.sub b (hB.sub b h)
  have hgl : ∀ b,G' b → b ≠ l:=fun b h e=>hnl (e ▸ h)
  have hkeep : ∀ b,G' b → Wc.heap[b]? = W.heap[b]?:=fun b h=>by
   have hno : ¬ ownB β' (E i).1 b:=fun ⟨k,ob,q1,q2⟩=>(row_block (hcW.hp k ob q1) b q2).1 h
   have hno2 : ¬ ownB β2 σ1.hp b:=fun ⟨k,ob,q1,q2⟩=>(row_block (hB.hp k ob q1) b q2).1 (hB.sub b h)
   have hb1:=hcW.lt b h;have hb2 : b < W2.heap.size :=(by have:=hB.lt b (hB.sub b h); omega);exact (hC.fr.old b hb2 hno2).trans ((oth2 b (hgl b h)).trans (hB.fr.old b hb1 hno))
  have hbeta : ∀ k,k < m → β4 k = β' k:=fun k hk=>hC.stay.2 k hk
  have hnxle : m ≤ σ3.nx:=hC.stay.1;have hmine1 : ∀ b,ownB β2 σ1.hp b → c.mine b:=fun b ⟨k,ob,q1,q2⟩=>by
   rcases (row_block (hB.hp k ob q1) b q2).2 with ⟨k',ob',r1,r2⟩ | h
   ·exact (row_block (hcW.hp k' ob' r1) b r2).2
   ·exact .inr (Nat.le_trans hcW.fr.size h)
  have hmine3 : ∀ b,ownB β4 σ3.hp b → c.mine b:=fun b ⟨k,ob,q1,q2⟩=>by
   rcases (row_block (hC.hp k ob q1) b q2).2 with h | h
   ·exact hmine1 b h
   ·have h : W2.heap.size ≤ b:=h;have:=hB.fr.size;simp only [rcx] at this;exact .inr (by have:=hcW.fr.size; omega)
  have hfr5 : Fr c.X c.w0 W5:=by
   refine ⟨?_,?_,?_,?_,fun b hb hx=>?_⟩
   ·rw [← hW5]; show Wc.os = _; rw [hC.fr.os]; show W2.os = _; rw [← hW2]; show Wb.os = _; rw [hB.fr.os]; exact hcW.fr.os
   ·rw [← hW5]; show Wc.tape = _; rw [hC.fr.tape]; show W2.tape = _; rw [← hW2]; show Wb.tape = _; rw [hB.fr.tape]; exact hcW.fr.tape
   ·rw [← hW5]; show Wc.output = _; rw [hC.fr.output]; show W2.output = _; rw [← hW2]; show Wb.output = _; rw [hB.fr.output]; exact hcW.fr.output
   ·have h1:=hC.fr.size;have h2:=hB.fr.size;have h3:=hcW.fr.size;simp only [rcx] at h1 h2
    omega
   ·have hno : ¬ ownB β' (E i).1 b:=fun ⟨k,ob,q1,q2⟩=>(row_block (hcW.hp k ob q1) b q2).2.elim hx (fun h=>by omega)
    have hno2 : ¬ ownB β2 σ1.hp b:=fun h=>(hmine1 b h).elim hx (fun h=>by omega)
    have hb1 : b < W.heap.size :=(by have:=hcW.fr.size; omega);have hb2 : b < W2.heap.size :=(by have:=hB.fr.size; simp only [rcx] at this; omega);have hbl : b ≠ l :=(by omega);exact (oth5 b hbl).trans ((hC.fr.old b hb2 hno2).trans ((oth2 b hbl).trans ((hB.fr.old b hb1 hno).trans (hcW.fr.old b hb hx))))
  refine ⟨⟨l5,(oth5 D (Ne.symm hlD)).trans (cD.trans ((oth2 D (Ne.symm hlD)).trans (bD.trans h2))),G4,β4,?_,fun b h=>hsub4 b (hGG b h),hn4l,hn4D⟩,by have h1:=hC.fr.size; have h2:=hB.fr.size; simp only [rcx] at h1 h2; omega,fun b hb=>(oth5 b (hgl b (hGG b hb))).trans ((hkeep b (hGG b hb)).trans (hGk b hb))⟩
  rw [← hhp,← hnx]
  refine hC.re (c2:=c) (fun b hb=>oth5 b fun h=>hn4l (h ▸ hb)) (fun b hb=>oth5 b fun h=>hnol3 (h ▸ hb)) (by rw [sz5]; exact Nat.le_refl _) hc.defers hc.size (fun t=>((hcW.env t).keep ⟨hsub4,hkeep⟩).beta hbeta (hm t)) (fun t=>AV.lt_mono hnxle (hm t)) hmine3
   (fun b hb=>hsub4 b (hcW.sub b hb)) (fun b hb=>?_) hfr5 ⟨Nat.le_trans hm0 hnxle,fun k hk=>(hbeta k (Nat.lt_of_lt_of_le hk hm0)).trans (hcW.stay.2 k hk)⟩
  rcases hC.new b hb with h | h
  ·rcases hB.new b h with h | h
   ·exact hcW.new b h
   ·rcases h with ⟨k',ob',r1,r2⟩ | h
    ·exact .inr (row_block (hcW.hp k' ob' r1) b r2).2
    ·exact .inr (.inr (Nat.le_trans hcW.fr.size h))
  ·rcases h with h | h
   ·exact .inr (hmine1 b h)
   ·have h : W2.heap.size ≤ b:=h;have h2:=hB.fr.size;have h3:=hcW.fr.size;simp only [rcx] at h2;exact .inr (.inr (by omega))
end Go.Abs
namespace Go.Abs
def TriX (c : Cx) (code : Code) (σ : St) (Φ : Exit → Act → World → Prop) : Prop:=∀ G β a w,Conc c G β σ a w → code.wpIn (rF none) 2 c.P Φ a w
section
variable {c : Cx} {σ : St} {Φ : Exit → Act → World → Prop}
theorem zM5 {x y : Code} (h : TriX c x σ (Exit.then (y.wpIn (rF none) 2 c.P Φ) Φ)) : TriX c (.seq x y) σ Φ:=fun G β a w hc=>wpIn_seq (h G β a w hc)
theorem zLL {x : Code} {id : Nat} (h : TriX c x σ (Exit.inBlock id Φ)) : TriX c (.block id x) σ Φ:=fun G β a w hc=>wpIn_block (h G β a w hc)
theorem zJG {x y : Code} (hro : c.ro = none) (h : Tri c x σ (fun e σ'=>e = .normal ∧ TriX c y σ' Φ)) : TriX c (.seq x y) σ Φ:=fun G β a w hc=>by
 unfold Tri at h;rw [hro] at h;refine wpIn_seq (wpIn_mono (h G β a w hc) ?_)
 rintro e a' w' ⟨e',G',β',σ',rfl,⟨rfl,hq⟩,hc'⟩
 exact hq G' β' a' w' hc'
theorem zLM (hro : c.ro = none) (hds : c.ds = []) {tg p1 p2 fid sz : Nat} {rows : List (List S)} {assign body : Code}
  (hit : zI5 c.P fid sz) (hcall : ∀ args w,(callFunc fid args).run c.P w = .ok (.enter fid args) w) (he : σ.env tg = .clo fid [.s (.pt [.sl sz rows])]) (hrl : ∀ r ∈ rows,r.length = sz) (hlen : rows.length ≤ 4611686018427387904)
  (E : Nat → (Nat → Option Ob) × Nat) (hE : E 0 = (σ.hp,σ.nx)) (m : Nat) (hm : ∀ t,(σ.env t).lt m = true) (hm0 : c.n0 ≤ m) (hmE : ∀ i,m ≤ (E i).2) (hp1 : p1 < c.N) (hp2 : p2 < c.N)
  (hround : ∀ i j row,i + j + 1 = rows.length → rows[j]? = some row → ∀ l w X G B,Rl w X l → Tri (rcx c.P c.N m l w X G B) assign (zKW σ p1 p2 j row (E i)) (fun e σ1=>e = .normal ∧ ∀ w X G B,Rl w X l →
   Tri (rcx c.P c.N m l w X G B) body σ1 (fun e σ2=>e = .normal ∧ ∃ σ3,Le (rcx c.P c.N m l w X G B) σ2 σ3 ∧ σ3.hp = (E (i + 1)).1 ∧ σ3.nx = (E (i + 1)).2)))
  (hdone : ∀ D w2 X G2 G' β' a2,Sw c (lcx c.P c.N c.n0 w2 X G2 c.B0 D) D → Conc (lcx c.P c.N c.n0 w2 X G2 c.B0 D) G' β' ⟨σ.env,(E rows.length).1,(E rows.length).2⟩ a2 w2 → Φ .normal a2 w2) :
  TriX c (.rangeFunc (.tmp tg) #[p1,p2] assign body) σ Φ:=fun G β a w hc=>zM7 hc hro hds hit hcall he hrl hlen E hE m hm hm0 hmE hp1 hp2 hround hdone
end
theorem zLX {c c2 : Cx} {D : Nat} {T : Nat → Option TI} (hT : TOk c2.P T) {fn : Func} {r : Ret} {code : Code} {σ : St} (hsw : Sw c c2 D) (hX : ∀ b,¬ c.X b) (hro : c2.ro = none) (hds : c2.ds = [{ target:=.collected D,args:=#[] }])
  (h : Tri c2 code σ (fun e σ'=>match e with | .exit _=>False | _=>zAv c2 T fn.results.toList r σ')) :
  TriX c2 code σ (bodyPostM (rF none) 2 c2.P fn fun e W'=>∃ v G',e = .returned v ∧ Ext c.G0 G' c.w0 W' ∧ RetAt G' c.w0 W' r v):=fun G β a w hc=>by
 unfold Tri at h;rw [hro] at h;refine wpIn_mono (h G β a w hc) ?_;rintro e a' w' ⟨e',G',β',σ',rfl,hq,hc'⟩
 have fin : zAv c2 T fn.results.toList r σ' → LeavesInM (rF none) 2 c2.P fn a'.tmps (fun e W'=>∃ v G',e = .returned v ∧ Ext c.G0 G' c.w0 W' ∧ RetAt G' c.w0 W' r v) a'.defers .returning w':=fun hq=>by
  unfold zAv at hq;obtain ⟨σ2,hle,hr⟩:=hq;unfold Le at hle;obtain ⟨G2,β2,hc2⟩:=hle G' β' a' w' hc';have hDl : D < c2.w0.heap.size:=(Array.getElem?_eq_some_iff.1 hsw.blk).1;have hD : w'.heap[D]? = some (.deferred (some [])):=(hc2.fr.old D hDl hsw.nX).trans hsw.blk;have hnG : ¬ G2 D:=fun h=>(hc2.new D h).elim hsw.nG (fun h=>h.elim hsw.nX (fun h=>by omega))
  have hnO : ¬ ownB β2 σ2.hp D:=hc2.not_own hD rfl;rw [hc'.defers,hds]
  refine ⟨by simp,.inl ⟨_,_,rfl,run_takeDeferred hD,?_⟩⟩
  generalize hW : w'.putObj D (.deferred none) = W;have oth : ∀ b,b ≠ D → W.heap[b]? = w'.heap[b]?:=fun b hb=>by rw [← hW]; exact World.putObj_heap_other hb
  have sz : W.heap.size = w'.heap.size :=(by rw [← hW]; exact World.putObj_size);have hge:=hsw.ge;have hmine : ∀ b,c2.mine b → c.w0.heap.size ≤ b:=fun b hb=>by
   rcases hb with hb | hb
   ·exact (hsw.mine b hb).elim (fun h=>absurd h (hX b)) id
   ·exact Nat.le_trans hsw.fr.size hb
  have hc3 : Conc { P:=c2.P,w0:=W,X:=fun b=>c.w0.heap.size ≤ b,G0:=G2,N:=c2.N } G2 β2 ⟨σ2.env,σ2.hp,σ2.nx⟩ { a' with defers:=[] } W :=
   hc2.re (c2:={ P:=c2.P,w0:=W,X:=fun b=>c.w0.heap.size ≤ b,G0:=G2,N:=c2.N }) (fun b hb=>oth b fun h=>hnG (h ▸ hb)) (fun b hb=>oth b fun h=>hnO (h ▸ hb)) (by rw [sz]; exact Nat.le_refl _) rfl hc2.size hc2.env hc2.envlt
    (fun b ⟨k,ob,q1,q2⟩=>.inl (hmine b (row_block (hc2.hp k ob q1) b q2).2)) (fun b h=>h) (fun b h=>.inl h) (Fr.refl _ _) ⟨Nat.zero_le _,fun k hk=>by cases hk⟩
  have hext : Ext c.G0 G2 c.w0 W:=by
   refine ⟨?_,?_,?_,?_,fun b hb=>?_,fun b hb=>hc2.sub b (hsw.sub b hb),fun b hb=>?_,fun b hb=>by rw [sz]; exact hc2.lt b hb⟩
   ·rw [← hW]; show w'.os = _; rw [hc2.fr.os]; exact hsw.fr.os
   ·rw [← hW]; show w'.tape = _; rw [hc2.fr.tape]; exact hsw.fr.tape
   ·rw [← hW]; show w'.output = _; rw [hc2.fr.output]; exact hsw.fr.output
   ·have h1:=hc2.fr.size; have h2:=hsw.fr.size; omega
   ·have h2:=hsw.fr.size;exact (oth b (by omega)).trans ((hc2.fr.old b (by omega) (fun h=>(hsw.mine b h).elim (hX b) (fun h=>by omega))).trans (hsw.fr.old b hb (hX b)))
   ·rcases hc2.new b hb with h | h
    ·exact (hsw.new b h).imp id (fun h=>h.elim (fun h=>absurd h (hX b)) id)
    ·exact .inr (hmine b h)
  unfold RetAt;split at hr
  ·rename_i x
   obtain ⟨v,h1,h2⟩:=zEw (c:={ P:=c2.P,w0:=W,X:=fun b=>c.w0.heap.size ≤ b,G0:=G2,N:=c2.N }) hT hc3 hr.1;exact ⟨v,h1,v,G2,rfl,hext,hr.2,AVal.pers hr.2 h2⟩
  ·rename_i e sz' rows
   obtain ⟨k,hk1,hk2⟩:=hr;obtain ⟨v,h1,h2⟩:=zEw (c:={ P:=c2.P,w0:=W,X:=fun b=>c.w0.heap.size ≤ b,G0:=G2,N:=c2.N }) hT hc3 hk1;refine ⟨v,h1,v,G2,rfl,hext,?_⟩
   simp only [AVal] at h2;obtain ⟨rfl,_⟩:=h2;obtain ⟨q1,q2,q3⟩:=hc3.hp k _ hk2;refine ⟨q1,q2,q3.imp id ?_⟩
   rintro ⟨b,cap,cur,g1,g2,g3,g4,g5,g6,g7⟩
   refine ⟨b,cap,cur,g1,g2,g3,g4,g5,g6.elim id (fun h=>?_),g7⟩
   have h : W.heap.size ≤ b:=h;have:=(Array.getElem?_eq_some_iff.1 g4).1
   omega
 cases e' with
 | normal=>exact fin hq
 | ret=>exact fin hq
 | exit id=>exact hq.elim
theorem zNn {P : Program} {f : Nat} {fn : Func} {code : Code} {s : zAo} (hcall : ∀ args w,(callFunc f args).run P w = .ok (.enter f args) w)
  (hf : P.funcs[f]? = some fn) (hb : fn.body = some code) (hn : ∀ xs r,s.spec xs r → xs.length ≤ fn.ntmps)
  (N : Nat) (hN : fn.ntmps = N)
  (h : ∀ xs r w0 G0,s.spec xs r → AV.persAll xs = true → TriX (zCV P w0 G0 N) code (start xs) (bodyPostM (rF none) 2 P fn fun e W'=>∃ v G',e = .returned v ∧ Ext G0 G' w0 W' ∧ RetAt G' w0 W' r v)) (hown : s.own = none:=by rfl) (hheap : s.heap = none:=by rfl) : PSound P f s:=by
 subst hN;refine ⟨hcall,fun G w xs vs r hlt hgl hp hv hpre=>?_,fun R hR=>(by rw [hown] at hR; cases hR),fun R hR=>(by rw [hheap] at hR; cases hR)⟩
 have hlen:=hv.length;have hxn:=hn xs r hpre;have hc : Conc (zCV P w G fn.ntmps) G (fun _=>.tuple #[]) (start xs) { tmps:=vs.toArray ++ Array.replicate (fn.ntmps - vs.toArray.size) undef,defers:=[] } w:={
  defers:=rfl
  size:=by simp only [Array.size_append,List.size_toArray,Array.size_replicate]; show _ = fn.ntmps; omega
  env:=fun t=>by
   simp only [start]
   by_cases ht : t < xs.length
   ·obtain ⟨v,h1,h2⟩:=hv.get (i:=t) (x:=xs[t]) (List.getElem?_eq_getElem ht)
    have e1 : xs.getD t .junk = xs[t] :=(by simp [List.getElem?_eq_getElem ht]);have e2 : (vs.toArray ++ Array.replicate (fn.ntmps - vs.toArray.size) undef).getD t undef = v:=by
     rw [Array.getD_eq_getD_getElem?,Array.getElem?_append_left (by simpa [hlen] using ht)]
     simp [h1]
    rw [e1,e2]; exact h2
   ·have : xs.getD t .junk = .junk :=(by simp [List.getElem?_eq_none (by omega : xs.length ≤ t)]);rw [this]; simp only [AVal]
  envlt:=fun t=>by
   simp only [start]
   by_cases ht : t < xs.length
   ·have e1 : xs.getD t .junk = xs[t] :=(by simp [List.getElem?_eq_getElem ht]);rw [e1]; exact zAK (AV.persAll_lt hp) (List.getElem?_eq_getElem ht)
   ·have : xs.getD t .junk = .junk :=(by simp [List.getElem?_eq_none (by omega : xs.length ≤ t)]);rw [this]; rfl
  hp:=fun k ob hk=>by simp [start] at hk
  hplt:=fun k ob hk=>by simp [start] at hk
  inj:=fun k k' ob ob' hk=>by simp [start] at hk
  lt:=hlt
  sub:=fun b hb=>hb
  new:=fun b hb=>.inl hb
  fr:=Fr.refl _ _
  stay:=⟨Nat.le_refl _,fun k hk=>by cases hk⟩
  glob:=hgl }
 exact callsIn_wide.1 (callsIn_of_wp_marks hf hb trivial (h xs r w G hpre hp G _ _ w hc))
theorem zH7 {a : Act} {d : Option Nat} {v : Value} {t : Nat} (h : d ≠ some t) : (a.put d v).tmps.getD t undef = a.tmps.getD t undef:=by
 cases d with
 | none=>rfl
 | some d =>
  have hdt : d ≠ t:=fun e=>h (by rw [e])
  simp only [Act.put,Array.getD_eq_getD_getElem?]
  rw [Array.getElem?_setIfInBounds_ne hdt]
theorem zNK {P : Program} {W : World} {G : Nat → Prop} {β : Nat → Value} {N : Nat} {a : Act} {env : Nat → AV} (hd : a.defers = []) (hs : a.tmps.size = N) (hl : ∀ b,G b → b < W.heap.size) (hg : GlobOk G W) (he : ∀ t,AVal G W β (env t) (a.tmps.getD t undef)) (hlt : ∀ t,(env t).lt 0 = true) :
  Conc (zCV P W G N) G β ⟨env,fun _=>none,0⟩ a W:={
 defers:=hd
 size:=hs
 env:=he
 envlt:=hlt
 hp:=fun k ob hk=>by cases hk
 hplt:=fun k ob hk=>by cases hk
 inj:=fun k k' ob ob' hk=>by cases hk
 lt:=hl
 sub:=fun b hb=>hb
 new:=fun b hb=>.inl hb
 fr:=Fr.refl _ _
 stay:=⟨Nat.le_refl _,fun k hk=>by cases hk⟩
 glob:=hg }
def evP (T : Nat → Option TI) (N : Nat) (ts : List Nat) : List Oper → St → (St → Prop) → Prop
 | [],σ,K=>K σ
 | o :: os,σ,K =>
  match o.dst,o.guard,zJp o && zJq o with
  | some d,none,true=>match Nat.blt d N && zKe d ts with
   | true=>match zBs T false o σ.env with
    | some (φ,x)=>andO φ (evP T N ts os (σ.put (some d) x) K)
    | none=>False
   | false=>False
  | _,_,_=>False
theorem zHS {P : Program} {W0 : World} {G0 : Nat → Prop} {T : Nat → Option TI} (hT : TOk P T) {N n : Nat} {ops rest : List Oper} {K : St → Prop} {Q : Exit → Act → World → Prop} {ts : List Nat} {v0 : Nat → Value}
  (hr : ∀ σ G β a w,K σ → Conc (zCV P W0 G0 N) G β σ a w → w.heap.size = W0.heap.size → (∀ t ∈ ts,a.tmps.getD t undef = v0 t) → wpListIn Fence.wide n P ops.toArray Q rest a w) :
  ∀ (l : List Oper) (σ : St) (G : Nat → Prop) (β : Nat → Value) (a : Act) (w : World),evP T N ts l σ K → Conc (zCV P W0 G0 N) G β σ a w → w.heap.size = W0.heap.size → (∀ t ∈ ts,a.tmps.getD t undef = v0 t) → wpListIn Fence.wide n P ops.toArray Q (l ++ rest) a w
 | [],σ,G,β,a,w,h,hc,hs,ht=>hr σ G β a w h hc hs ht
 | o :: os,σ,G,β,a,w,h,hc,hs,ht=>by
  unfold evP at h;split at h
  ·rename_i d hd hg hnn
   simp only [Bool.and_eq_true] at hnn;split at h
   ·rename_i hdN
    simp only [Bool.and_eq_true] at hdN;have hdN1 : d < N:=Nat.le_of_ble_eq_true hdN.1;have hdts:=zDG hdN.2;split at h
    ·rename_i φ x hp
     obtain ⟨hφ,h⟩:=zHs h;rw [List.cons_append]
     unfold wpListIn;rw [if_pos (by simp [Region.wanted,hg])]
     refine zMK (ro:=none) (K:=fun a' w'=>wpListIn Fence.wide n P ops.toArray Q (os ++ rest) a' w') (fun c e=>?_) (fun _ _ h=>h) ?_
     ·have:=hnn.2;unfold zJq at this;rw [e] at this;cases this
     ·refine zMb (c:=zCV P W0 G0 N) hT hc hp hφ fun G' w' v he hna hv=>?_
      have hww:=hna hnn.1;subst hww;rw [hd]
      have hput:=(hc.ext he).put (d:=some d) (fun t e=>by cases e; exact hdN1) hv (zLg hc.envlt hp)
      refine zHS hT hr os _ G' β _ _ h hput hs fun t htt=>?_
      rw [zH7 (fun e=>hdts (by cases e; exact htt))]
      exact ht t htt
    ·exact h.elim
   ·exact h.elim
  ·exact h.elim
theorem zK6 {P : Program} {W0 : World} {G0 : Nat → Prop} {T : Nat → Option TI} (hT : TOk P T) {N n : Nat} {ops l : List Oper} (m : Nat) {K : St → Prop} {Q : Exit → Act → World → Prop} (ts : List Nat) {σ : St} {G : Nat → Prop} {β : Nat → Value} {a : Act} {w : World}
  (h : evP T N ts (l.take m) σ K) (hc : Conc (zCV P W0 G0 N) G β σ a w) (hs : w.heap.size = W0.heap.size)
  (hr : ∀ σ G β a' w,K σ → Conc (zCV P W0 G0 N) G β σ a' w → w.heap.size = W0.heap.size → (∀ t ∈ ts,a'.tmps.getD t undef = a.tmps.getD t undef) → wpListIn Fence.wide n P ops.toArray Q (l.drop m) a' w) : wpListIn Fence.wide n P ops.toArray Q l a w:=by
 have:=zHS (v0:=fun t=>a.tmps.getD t undef) hT hr (l.take m) σ G β a w h hc hs (fun _ _=>rfl)
 rwa [List.take_append_drop] at this
theorem zJk {P : Program} {W0 : World} {G0 : Nat → Prop} {T : Nat → Option TI} (hT : TOk P T) {N n : Nat} {ops l : List Oper} {K : St → Prop} {Q : Exit → Act → World → Prop} (ts : List Nat) {σ : St} {G : Nat → Prop} {β : Nat → Value} {a : Act} {w : World}
  (h : evP T N ts l σ K) (hc : Conc (zCV P W0 G0 N) G β σ a w) (hs : w.heap.size = W0.heap.size)
  (hr : ∀ σ G β a' w,K σ → Conc (zCV P W0 G0 N) G β σ a' w → w.heap.size = W0.heap.size → (∀ t ∈ ts,a'.tmps.getD t undef = a.tmps.getD t undef) → Q .normal a' w) : wpListIn Fence.wide n P ops.toArray Q l a w:=by
 have:=zHS (rest:=[]) (v0:=fun t=>a.tmps.getD t undef) (ops:=ops) (n:=n) (Q:=Q) hT hr l σ G β a w h hc hs (fun _ _=>rfl)
 rwa [List.append_nil] at this
theorem zL6 {G : Nat → Prop} {w : World} {β : Nat → Value} {a : Act} : ∀ {L : List (Nat × AV)},(∀ p ∈ L,AVal G w β p.2 (a.tmps.getD p.1 undef)) → ∀ t,AVal G w β (ofL L t) (a.tmps.getD t undef)
 | [],_,t=>by simp only [ofL,AVal]
 | (s,x) :: r,h,t=>by
  simp only [ofL]
  cases e : Nat.beq t s with
  | true=>obtain rfl:=Nat.eq_of_beq_eq_true e; exact h _ List.mem_cons_self
  | false=>exact zL6 (fun p hp=>h p (List.mem_cons_of_mem _ hp)) t
theorem zLs {P : Program} {W : World} {G : Nat → Prop} {N : Nat} {a : Act} (L : List (Nat × AV)) (hd : a.defers = []) (hs : a.tmps.size = N) (hl : ∀ b,G b → b < W.heap.size) (hg : GlobOk G W) (hL : ltL 0 L = true) (he : ∀ p ∈ L,AVal G W (fun _=>.tuple #[]) p.2 (a.tmps.getD p.1 undef)) :
  Conc (zCV P W G N) G (fun _=>.tuple #[]) ⟨ofL L,fun _=>none,0⟩ a W:=zNK hd hs hl hg (zL6 he) (zHv hL)
theorem zHh {n : Nat} {P : Program} {ops : Array Oper} {Q : Exit → Act → World → Prop} {o : Oper} {rest : List Oper} {a : Act} {w : World} (hg : o.guard = none) (h : o.wpIn Fence.wide n P a w (wpListIn Fence.wide n P ops Q rest) Q) : wpListIn Fence.wide n P ops Q (o :: rest) a w:=by
 unfold wpListIn;rw [if_pos (by simp [Region.wanted,hg])]
 exact h
theorem zM8 {P : Program} {o : Oper} {f x y : Operand} {ts : Array TypeId} {l : Nat} {a : Act} {w : World} {K : Act → World → Prop} {Q : Exit → Act → World → Prop} {R : Ending → World → Prop} {u : Value} (ho : o.op = .call { callee:=.value f,args:=#[x,y],argTypes:=ts })
  (hf : a.eval f = .func (.yield l) #[] #[]) (hY : YieldAt Fence.wide 0 P l #[a.eval x,a.eval y] w R) (hR : ∀ e w',R e w' → e = .returned u ∧ K (a.put o.dst u) w') : o.wpIn Fence.wide 1 P a w K Q:=by
 obtain ⟨fn,tmps,assign,body,hy,hr⟩:=hY;refine ⟨fun _ _=>trivial,?_⟩
 rw [Oper.semAt_eq _ _ _ (by rw [ho]; intro c e; cases e)]
 have : (execOp a.eval o).run P w = .ok (.round l fn tmps assign body) w:=by
  simp [execOp,ho,resolve,hf,Deferred.ofValue,invoke,hy]
 rw [this]
 refine ⟨fun h=>(by cases h),hr.mono fun e w' he=>?_⟩
 obtain ⟨rfl,h⟩:=hR e w' he;exact h
theorem Conc.back {P : Program} {W : World} {G G' : Nat → Prop} {N : Nat} {β : Nat → Value} {σ : St} {a : Act} {w : World} (hc : Conc (zCV P W G N) G' β σ a w) (hs : w.heap.size = W.heap.size) : (∀ b,G' b → G b) ∧ ∀ b,b < W.heap.size → w.heap[b]? = W.heap[b]? :=
 ⟨fun b hb=>(hc.new b hb).elim id (fun h=>h.elim False.elim (fun h=>by have:=hc.lt b hb; have h : W.heap.size ≤ b:=h; omega)),fun b hb=>hc.fr.old b hb (fun h=>h)⟩
end Go.Abs
namespace Go.Proofs.Ytffhjiplcfncdaa
open Go.Abs
def zGc (xs : List AV) (r : Ret) : Prop:=∃ rows,xs = [.s (.sl 8 rows)] ∧ r = .val (.clo 61 [.s (.pt [.sl 8 rows])])
set_option maxHeartbeats 600000 in
theorem zIs : PSound Try.prog 40 (zAx zGc):=by
 have gok : ∀ f s,look? f [] = some s → PSound Try.prog f s:=zAu (by simp)
 refine zAB tokW Try.call40 Try.func40 rfl (fun xs r h=>by obtain ⟨_,rfl,_⟩:=h; show 1 ≤ 4; decide) 4 rfl ?_;rintro xs r w0 G0 ⟨rows,rfl,rfl⟩ _;refine zAa ?_;refine zAb [] [] rfl ?_;show Tri ..;refine zAa ?_;refine zAb [] [] rfl ?_;show Tri ..;refine zAh ?_;unfold zAv;exact ⟨_,Le.refl _ _,rfl,rfl⟩
theorem zJl (a : Act) (t : Nat) : a.eval (.tmp t) = a.tmps.getD t undef:=rfl
theorem zNM {α : Type} : ∀ {l : List α},l.length = 8 → ∃ a b c d e f g h,l = [a,b,c,d,e,f,g,h]
 | [a,b,c,d,e,f,g,h],_=>⟨a,b,c,d,e,f,g,h,rfl⟩
theorem zNf : zI5 Try.prog 61 8:=by
 intro G w0 v rows hlt hgl hv hrl hlen l J W hsz hk hJ hY h0;have hrep : ∀ w : World,(∀ b,G b → w.heap[b]? = w0.heap[b]?) → Rep G w (.pt [.sl 8 rows]) v:=fun w hw=>hv.keep ⟨fun _ h=>h,hw⟩
 have hlt' : ∀ w : World,w0.heap.size ≤ w.heap.size → ∀ b,G b → b < w.heap.size:=fun w hw b hb=>Nat.lt_of_lt_of_le (hlt b hb) hw
 have hgl' : ∀ w : World,(∀ b,G b → w.heap[b]? = w0.heap[b]?) → GlobOk G w:=fun w hw=>hgl.keep ⟨fun _ h=>h,hw⟩
 have step : ∀ {N : Nat} {G' : Nat → Prop} {β : Nat → Value} {σ : St} {a : Act} {wa wb : World} (i : Nat),Conc (zCV Try.prog wa G N) G' β σ a wb → wb.heap.size = wa.heap.size → J i wa → w0.heap.size ≤ wa.heap.size → (∀ b,G b → wa.heap[b]? = w0.heap[b]?) →
   J i wb ∧ w0.heap.size ≤ wb.heap.size ∧ (∀ b,G b → wb.heap[b]? = w0.heap[b]?):=fun {N G' β σ a wa wb} i hc hs hj h1 h2=>by
  obtain ⟨g1,g2⟩:=hc.back hs;exact ⟨hJ i wa wb hj ⟨hc.fr.os,hc.fr.tape,hc.fr.output,hc.fr.size,g2⟩,by rw [hs]; exact h1,fun b hb=>(g2 b (hlt' wa h1 b hb)).trans (h2 b hb)⟩
 let St : Nat → Act → World → Prop:=fun i a w=>a.defers = [] ∧ a.tmps.size = 19 ∧ a.tmps.getD 0 undef = .func (.yield l) #[] #[] ∧ a.tmps.getD 1 undef = v ∧ a.tmps.getD 3 undef = .int .i64 ((rows.length : Int) - 1 - i) ∧ J i w ∧ w0.heap.size ≤ w.heap.size ∧ (∀ b,G b → w.heap[b]? = w0.heap[b]?)
 refine callsIn_of_wp Try.func61 rfl trivial ?_;generalize ha : ({ tmps:=#[Value.func (.yield l) #[] #[],v] ++ Array.replicate _ undef,defers:=[] } : Act) = a;have a0 : a.tmps.getD 0 undef = .func (.yield l) #[] #[] :=(by rw [← ha]; rfl);have a1 : a.tmps.getD 1 undef = v :=(by rw [← ha]; rfl);have az : a.tmps.size = 19 :=(by rw [← ha]; rfl);have ad : a.defers = []:=by rw [← ha]
 clear ha
 refine wpIn_seq ?_;refine wpIn_region_lit ?_;refine zJk tokW (N:=19) (K:=fun σ=>σ.env 3 = .s (.int .i64 (IntKind.i64.wrap ((rows.length : Int) - 1)))) [0,1] ?_ (zLs (G:=G) [(1,.s (.pt [.sl 8 rows]))] ad az (hlt' W hsz) (hgl' W hk) rfl (fun p hp=>by
  obtain rfl:=List.mem_singleton.1 hp;dsimp only;rw [a1]
  simp only [AVal]
  exact hrep W hk)) rfl ?_
 ·show _ = _
  rfl
 intro σ1 G1 β1 b w1 hK hc hs hfr;have b0:=(hfr 0 (by simp)).trans a0;have b1:=(hfr 1 (by simp)).trans a1;have b3:=hc.env 3;rw [hK] at b3;simp only [AVal,Rep] at b3;rw [wrap64_in (n:=(rows.length : Int) - 1) (by omega) (by omega)] at b3;have hst:=step 0 hc hs h0 hsz hk;have hS : St 0 b w1:=⟨hc.defers,hc.size,b0,b1,by rw [b3]; congr 1; omega,hst⟩
 clear hst b0 b1 b3 hK hfr hc hs a0 a1 az ad
 refine wpIn_block ?_;refine wpIn_loop (fun a w=>∃ i,i ≤ rows.length ∧ St i a w) (fun a _=>match a.tmps.getD 3 undef with | .int _ z=>(z + 1).toNat | _=>0) ⟨0,Nat.zero_le _,hS⟩ ?_;rintro a w ⟨i,hi,ad,az,a0,a1,a3,hj,hw1,hw2⟩
 refine wpIn_seq ?_;refine wpIn_seq ?_;refine wpIn_region_lit ?_;refine zJk tokW (N:=19) (K:=fun σ=>σ.env 8 = .s (.bool (decide (0 ≤ (rows.length : Int) - 1 - i)))) [0,1,3] ?_ (zLs (G:=G) [(3,.s (.int .i64 ((rows.length : Int) - 1 - i)))] ad az (hlt' w hw1) (hgl' w hw2) rfl (fun p hp=>by
  obtain rfl:=List.mem_singleton.1 hp;dsimp only;rw [a3]
  simp [AVal,Rep])) rfl ?_
 ·show _ = _
  rfl
 intro σ1 G1 β1 b w1 hK hc hs hfr;have b0:=(hfr 0 (by simp)).trans a0;have b1:=(hfr 1 (by simp)).trans a1;have b3:=(hfr 3 (by simp)).trans a3;have b8:=hc.env 8;rw [hK] at b8;simp only [AVal,Rep] at b8;obtain ⟨hj1,hw3,hw4⟩:=step i hc hs hj hw1 hw2;have bd : b.defers = []:=hc.defers;have bs : b.tmps.size = 19:=hc.size
 clear hc hK hfr hs a0 a1 ad az hj hw1 hw2
 refine wpIn_cond_split (t:=decide (0 ≤ (rows.length : Int) - 1 - i)) b8 (fun hb=>?_) (fun hb=>?_)
 ·have hb:=of_decide_eq_true hb;refine wpIn_skip ?_;obtain ⟨j,hij⟩ : ∃ j,i + j + 1 = rows.length:=⟨rows.length - 1 - i,by omega⟩
  have hz : (rows.length : Int) - 1 - i = (j : Int) :=(by omega);rw [hz] at b3;have hjl : j < rows.length :=(by omega);have hrow : rows[j]? = some rows[j]:=List.getElem?_eq_getElem hjl;have hr8:=hrl _ (List.getElem_mem hjl)
  have hgd : rows.getD ((j : Int).toNat) [] = rows[j] :=(by rw [Int.toNat_natCast,List.getD_eq_getElem?_getD,hrow]; rfl);generalize rows[j] = row at hrow hr8 hgd;refine wpIn_seq ?_;refine wpIn_block ?_;refine wpIn_seq ?_;refine wpIn_region_lit ?_;refine zHh rfl ?_;refine zMK (ro:=none) (K:=fun a' w'=>a' = b.put (some 11) (.func (.yield l) #[] #[]) ∧ w' = w1) (by intro c e; cases e) ?_ (zAD (v:=.func (.yield l) #[] #[]) (w':=w1) (by simp [execOp,zJl,b0]) ⟨rfl,rfl⟩)
  rintro a' w' ⟨ha',hw'⟩
  rw [ha',hw']
  clear ha' hw' a' w'
  have c0 : (b.put (some 11) (.func (.yield l) #[] #[])).tmps.getD 0 undef = .func (.yield l) #[] #[]:=(zH7 (by decide)).trans b0;have c1 : (b.put (some 11) (.func (.yield l) #[] #[])).tmps.getD 1 undef = v:=(zH7 (by decide)).trans b1;have c3 : (b.put (some 11) (.func (.yield l) #[] #[])).tmps.getD 3 undef = .int .i64 (j : Int):=(zH7 (by decide)).trans b3;have c11 : (b.put (some 11) (.func (.yield l) #[] #[])).tmps.getD 11 undef = .func (.yield l) #[] #[]:=by
   simp only [Act.put]
   rw [zHt (by rw [bs]; decide),if_pos rfl]
  have cd : (b.put (some 11) (.func (.yield l) #[] #[])).defers = []:=(put_defers ..).trans bd;have cs : (b.put (some 11) (.func (.yield l) #[] #[])).tmps.size = 19:=(zJB ..).trans bs;generalize b.put (some 11) (.func (.yield l) #[] #[]) = c at c0 c1 c3 c11 cd cs
  clear b0 b1 b3 b8 bd bs
  refine zK6 tokW (N:=19) 4 (K:=fun σ=>σ.env 12 = .s (.int .i64 (j : Int)) ∧ σ.env 15 = .s (.pt (rows.getD ((j : Int).toNat) []))) [0,1,3,11] ?_ (zLs (G:=G) [(1,.s (.pt [.sl 8 rows])),(3,.s (.int .i64 (j : Int)))] cd cs (hlt' w1 hw3) (hgl' w1 hw4) rfl (fun p hp=>by
   rcases List.mem_cons.1 hp with rfl | hp
   ·dsimp only;rw [c1]
    simp only [AVal]
    exact hrep w1 hw4
   ·obtain rfl:=List.mem_singleton.1 hp;dsimp only;rw [c3]
    simp [AVal,Rep])) rfl ?_
  ·exact ⟨⟨by omega,by omega⟩,rfl,rfl⟩
  intro σ2 G2 β2 d w2 hK hc hs hfr;have d0:=(hfr 0 (by simp)).trans c0;have d1:=(hfr 1 (by simp)).trans c1;have d3:=(hfr 3 (by simp)).trans c3;have d11:=(hfr 11 (by simp)).trans c11;have d12:=hc.env 12;have d15:=hc.env 15;obtain ⟨hgb,_⟩:=hc.back hs;rw [hK.1] at d12;rw [hK.2,hgd] at d15;simp only [AVal,Rep] at d12;have d15:=d15.keep (⟨hgb,fun _ _=>rfl⟩ : Keep G2 G w2 w2)
  simp only [AVal] at d15;obtain ⟨hj2,hw5,hw6⟩:=step i hc hs hj1 hw3 hw4;have dd : d.defers = []:=hc.defers;have ds : d.tmps.size = 19:=hc.size
  clear hc hK hfr hs c0 c1 c3 c11 cd cs hj1 hw3 hw4 hgb
  obtain ⟨r1,r2,r3,r4,r5,r6,r7,r8,rfl⟩:=zNM hr8;refine zK6 tokW (N:=19) 1 (K:=fun σ=>σ.env 16 = .agg ([r1,r2,r3,r4,r5,r6,r7,r8].map .s)) [0,1,3,11,12] ?_ (zLs (G:=G) [(15,.s (.pt [r1,r2,r3,r4,r5,r6,r7,r8]))] dd ds (hlt' w2 hw5) (hgl' w2 hw6) rfl (fun p hp=>by
   obtain rfl:=List.mem_singleton.1 hp;dsimp only;simp only [AVal]
   exact d15)) rfl ?_
  ·show _ = _
   rfl
  intro σ3 G3 β3 e w3 hK hc hs hfr;have e0:=(hfr 0 (by simp)).trans d0;have e1:=(hfr 1 (by simp)).trans d1;have e3:=(hfr 3 (by simp)).trans d3;have e11:=(hfr 11 (by simp)).trans d11;have e12:=(hfr 12 (by simp)).trans d12;have e16:=hc.env 16;obtain ⟨hgb,_⟩:=hc.back hs;rw [hK] at e16;have e16:=e16.keep (⟨hgb,fun _ _=>rfl⟩ : Keep G3 G w3 w3)
  obtain ⟨hj3,hw7,hw8⟩:=step i hc hs hj2 hw5 hw6;have ed : e.defers = []:=hc.defers;have es : e.tmps.size = 19:=hc.size
  clear hc hK hfr hs d0 d1 d3 d11 d12 d15 dd ds hj2 hw5 hw6 hgb
  refine zHh rfl ?_;have hYY:=hY i j _ (e.tmps.getD 16 undef) w3 hij hrow hj3 hw7 hw8 (fun β=>e16.beta (n:=0) (fun k hk=>by cases hk) (zKL _))
  refine zM8 (u:=.bool true) (f:=.tmp 11) (x:=.tmp 12) (y:=.tmp 16) (l:=l) rfl e11 (by rw [zJl,zJl,e12]; exact hYY) ?_;rintro ee w4 ⟨rfl,hj4,hw9,hw10⟩
  refine ⟨rfl,?_⟩
  have f0 : (e.put (some 17) (.bool true)).tmps.getD 0 undef = .func (.yield l) #[] #[]:=(zH7 (by decide)).trans e0;have f1 : (e.put (some 17) (.bool true)).tmps.getD 1 undef = v:=(zH7 (by decide)).trans e1;have f3 : (e.put (some 17) (.bool true)).tmps.getD 3 undef = .int .i64 (j : Int):=(zH7 (by decide)).trans e3;have f17 : (e.put (some 17) (.bool true)).tmps.getD 17 undef = .bool true:=by
   simp only [Act.put]
   rw [zHt (by rw [es]; decide),if_pos rfl]
  have fd : (e.put (some 17) (.bool true)).defers = []:=(put_defers ..).trans ed;have fs : (e.put (some 17) (.bool true)).tmps.size = 19:=(zJB ..).trans es;show wpListIn _ _ _ _ _ _ (e.put (some 17) (.bool true)) _;generalize e.put (some 17) (.bool true) = f at f0 f1 f3 f17 fd fs
  clear e0 e1 e3 e11 e12 e16 ed es hj3 hw7 hw8 hYY
  refine zJk tokW (N:=19) (K:=fun σ=>σ.env 18 = .s (.bool false)) [0,1,3] ?_ (zLs (G:=G) [(17,.s (.bool true))] fd fs (hlt' w4 hw9) (hgl' w4 hw10) rfl (fun p hp=>by
   obtain rfl:=List.mem_singleton.1 hp;dsimp only;rw [f17]
   simp [AVal,Rep])) rfl ?_
  ·show _ = _
   rfl
  intro σ5 G5 β5 g w5 hK hc hs hfr;have g0:=(hfr 0 (by simp)).trans f0;have g1:=(hfr 1 (by simp)).trans f1;have g3:=(hfr 3 (by simp)).trans f3;have g18:=hc.env 18;rw [hK] at g18;simp only [AVal,Rep] at g18;obtain ⟨hj5,hw11,hw12⟩:=step (i + 1) hc hs hj4 hw9 hw10;have gd : g.defers = []:=hc.defers;have gs : g.tmps.size = 19:=hc.size
  clear hc hK hfr hs f0 f1 f3 f17 fd fs hj4 hw9 hw10
  refine wpIn_cond_false g18 ?_;refine wpIn_skip ?_;refine wpIn_region_lit ?_;refine zJk tokW (N:=19) (K:=fun σ=>σ.env 3 = .s (.int .i64 (IntKind.i64.wrap ((j : Int) - 1)))) [0,1] ?_ (zLs (G:=G) [(3,.s (.int .i64 (j : Int)))] gd gs (hlt' w5 hw11) (hgl' w5 hw12) rfl (fun p hp=>by
   obtain rfl:=List.mem_singleton.1 hp;dsimp only;rw [g3]
   simp [AVal,Rep])) rfl ?_
  ·show _ = _
   rfl
  intro σ6 G6 β6 h w6 hK hc hs hfr;have h0':=(hfr 0 (by simp)).trans g0;have h1':=(hfr 1 (by simp)).trans g1;have h3':=hc.env 3;rw [hK] at h3';simp only [AVal,Rep] at h3';rw [wrap64_in (n:=(j : Int) - 1) (by omega) (by omega)] at h3';have hst:=step (i + 1) hc hs hj5 hw11 hw12;refine ⟨⟨i + 1,by omega,hc.defers,hc.size,h0',h1',by rw [h3']; congr 1; omega,hst⟩,?_⟩
  rw [h3',a3]
  show ((j : Int) - 1 + 1).toNat < ((rows.length : Int) - 1 - i + 1).toNat
  omega
 ·have hb:=of_decide_eq_false hb;refine wpIn_exit ?_;obtain rfl : i = rows.length :=(by omega);simp only [Exit.then,Exit.inBlock,if_true]
  exact ⟨bd,_,results_none rfl _ _ _,⟨_,rfl⟩,hj1⟩
end Go.Proofs.Ytffhjiplcfncdaa
namespace Go.Proofs.Ytffhjiplcfncdaa
open Go.Abs
theorem zNt {c : Cx} {σ σ' : Go.Abs.St} {x : Code} {Φ : Exit → Act → World → Prop} (hle : Le c σ σ') (h : TriX c x σ' Φ) : TriX c x σ Φ:=fun G β a w hc=>by
 unfold Le at hle;obtain ⟨G',β',h'⟩:=hle G β a w hc;exact h G' β' a w h'
theorem zFJ {n : Nat} {ops : List zO8} : ∀ {N : Nat} {y0 : List zO8},zAO n ops N = some y0 → ∀ i,i < N →
  ∃ acc o y,zAO n ops i = some acc ∧ ops[ops.length - 1 - i]? = some o ∧ zCx n o = some y ∧ acc.length + 1 ≤ 4294967296 ∧ zAO n ops (i + 1) = some (acc ++ [y])
 | 0,_,_,i,hi=>by omega
 | N + 1,y0,h,i,hi=>by
  have h':=h;unfold zAO at h;obtain ⟨acc,h1,h⟩:=zAc h;obtain ⟨o,h2,h⟩:=zAc h;obtain ⟨y,h3,h⟩:=zAc h;obtain ⟨h4,h5⟩:=zAW h
  by_cases e : i = N
  ·subst e;exact ⟨acc,o,y,h1,h2,h3,h4,h'.trans h5.symm⟩
  ·exact zFJ h1 i (by omega)
def zHj (n : Nat) (xs : List AV) (r : Ret) : Prop:=∃ (a0 : List zO8) (y0 : List zO8),zCY n a0 = some y0 ∧ xs = [.s (.sl 8 ((List.map zAj) a0))] ∧ r = .val (.s (.sl 8 ((List.map zAj) y0)))
def zEQ : zAo:=zAx fun xs r=>∃ n,zHj n xs r
theorem zGO : PSound Try.prog 32 zEQ:=by
 have gok : ∀ f s,look? f [(40,zAx zGc),(41,zGj)] = some s → PSound Try.prog f s:=zAu (by
  simp only [List.forall_mem_cons]
  exact ⟨zIs,zIu,by simp⟩)
 refine zNn Try.call32 Try.func32 rfl (fun xs r h=>by obtain ⟨n,_,_,_,rfl,_⟩:=h; show 1 ≤ 16; decide) 16 rfl ?_;rintro xs r w0 G0 ⟨n,ops,y0,h,rfl,rfl⟩ _;rw [zCY] at h;obtain ⟨hl,h⟩:=zAW h;obtain ⟨acc,hacc⟩ : ∃ acc : Nat → List zO8,acc = fun i=>(zAO n ops i).getD []:=⟨_,rfl⟩
 have hfin : acc ops.length = y0 :=(by rw [hacc]; dsimp only; rw [h]; rfl);have h0 : acc 0 = [] :=(by rw [hacc]; rfl);have hst : ∀ i,i < ops.length → ∃ o y,ops[ops.length - 1 - i]? = some o ∧ zCx n o = some y ∧ (acc i).length + 1 ≤ 4294967296 ∧ acc (i + 1) = acc i ++ [y]:=fun i hi=>by
  obtain ⟨a,o,y,h1,h2,h3,h4,h5⟩:=zFJ h i hi;rw [hacc]
  exact ⟨o,y,h2,h3,by dsimp only; rw [h1]; exact h4,by dsimp only; rw [h1,h5]; rfl⟩
 clear hacc
 refine zJG rfl ?_;refine zAb [] [] rfl ?_;refine ⟨rfl,?_⟩
 refine zJG rfl ?_;refine zAb [3] [] rfl ?_;refine ⟨rfl,?_⟩
 refine zM5 ?_;refine zJG rfl ?_;refine zAb [] [] rfl ?_;refine ⟨_,⟨_,rfl,rfl⟩,?_⟩
 refine ⟨rfl,?_⟩
 refine zNt (Le.trans (Le.takeNil 0 0 35 rfl rfl (by decide)) (Le.rnm [(0,0),(1,1)] [(3,.op 0 0),(7,.clo 61 [.s (.pt [.sl 8 ((List.map zAj) ops)])])] [(0,.box 36 [.orow 1]),(1,.row 35 8 [])] 2 ⟨rfl,rfl,trivial⟩ ⟨rfl,⟨_,rfl,rfl⟩,rfl,⟨_,rfl,rfl⟩,trivial⟩)) ?_;refine zLL ?_;refine zLM rfl rfl (sz:=8) (rows:=(List.map zAj) ops) zNf Try.call61 rfl (fun r hr=>by obtain ⟨o,_,rfl⟩:=List.mem_map.1 hr; rfl) (by rw [List.length_map]; omega)
  (fun i=>(ofH [(0,.box 36 [.orow 1]),(1,.row 35 8 ((List.map zAj) (acc i)))],2)) (by dsimp only; rw [h0]; rfl) 1 (zHv rfl) (Nat.zero_le _) (fun _=>by show 1 ≤ 2; decide) (by show 8 < 16; decide) (by show 9 < 16; decide) ?_ ?_
 ·intro i j row hij hrow l w X G B _;rw [List.length_map] at hij;obtain ⟨o,y,h1,h2,h3,h4⟩:=hst i (by omega)
  rw [show ops.length - 1 - i = j by omega] at h1;rw [List.getElem?_map,h1] at hrow;obtain rfl:=Option.some.inj hrow;obtain ⟨op_kind,op_row,op_at,op_n,op_nodes,op_slot,op_old,op_text⟩:=o;refine zAb [5] [] rfl ?_;refine ⟨rfl,fun w X G B _=>?_⟩
  refine zAs ?_;refine zAH (by exact tokW) (by exact gok) (by exact mixed) [] [] [0,1,4,5] rfl (by decide +kernel) ?_;refine ⟨_,⟨n,_,_,h2,rfl,rfl⟩,?_⟩
  obtain ⟨z_kind,z_row,z_at,z_n,z_nodes,z_slot,z_old,z_text⟩:=y;refine And.intro (by simp only [List.length_map,List.length_cons,List.length_nil]; omega) ?_;refine ⟨rfl,_,Le.rename [(0,0),(3,1)] [] [(0,.box 36 [.orow 1]),(1,.row 35 8 ((List.map zAj) (acc (i + 1))))] 2 trivial ⟨rfl,⟨_,rfl,rfl⟩,rfl,⟨_,rfl,by rw [h4,List.map_append]; rfl⟩,trivial⟩ rfl rfl rfl rfl rfl,rfl,rfl⟩
 ·intro D w2 X G2 G' β' a2 hsw hc;rw [List.length_map,hfin] at hc;show (Code.seq _ _).wpIn _ _ _ _ a2 w2;refine zLX (c:=zCV Try.prog w0 G0 16) tokW hsw (fun _ h=>h) rfl rfl ?_ G' β' a2 w2 hc;refine zAa ?_;refine zAb [] [] rfl ?_;show Tri ..;refine zAh ?_;unfold zAv;exact ⟨_,Le.giveRow 1 (e:=35) (sz:=8) (rows:=(List.map zAj) y0) rfl,rfl,rfl⟩
end Go.Proofs.Ytffhjiplcfncdaa
namespace Go.Proofs.Ytffhjiplcfncdaa
open Go.Abs
def zBt : zRc → Option Int
| ⟨r1Af,⟨r1Ah,r1Ai⟩,⟨r1Ak,r1Al⟩⟩ =>
 some 7
def zBg : Option (zCu × Int)
:=
 some (([],[]),7)
def zBd : Option (zCu × Int)
:=
 some (([],[]),7)
def zBf : Option Nd
:=
 some (Nd.mk 0 [] 0 [])
def zA3 : Option Nd
:=
 some (Nd.mk 0 [] 0 [])
def zBc : Option Int
:=
 some 0
def zA1 : Option (List zRc)
:=
 some []
def zBe : Int → Option Int
| done1 =>
 some 7
def zCe (n : Nat) : zRc → Int → Option Bool
| ⟨r1Af,⟨r1Ah,r1Ai⟩,⟨r1Ak,r1Al⟩⟩,n2 =>
 (zBg ).bind fun ⟨⟨y3Am,y3An⟩,y4⟩ =>
 (zBd ).bind fun ⟨⟨y5Am,y5An⟩,y6⟩ =>
 (
  (zEG n ).bind fun y8 =>
  bif y8 then (
   (zBt (r1Af,(r1Ah,r1Ai),(r1Ak,r1Al))).bind fun y9 =>
   bif (y9 == 7) then (
    bif (y4 == 7) then (
     bif (y6 == 7) then (
      (zBe n2).bind fun y10 =>
      bif (y10 == 7) then (
       (zBf ).bind fun ⟨y11A,y11B,y11D,y11C⟩ =>
       (zBO n (Nd.mk y11A y11B y11D y11C) (Nd.mk 0 [] 0 [])).bind fun y12 =>
       bif y12 then (
        (zA3 ).bind fun ⟨y13A,y13B,y13D,y13C⟩ =>
        (zBO n (Nd.mk y13A y13B y13D y13C) (Nd.mk 0 [] 0 [])).bind fun y14 =>
        bif y14 then (
         (zBc ).bind fun y15 =>
         bif (y15 == 0) then (
          (zA1 ).bind fun y16 =>
          some ((y16.length : Int) == 0)
         ) else (
          some false
         )
        ) else (
         some false
        )
       ) else (
        some false
       )
      ) else (
       some false
      )
     ) else (
      some false
     )
    ) else (
     some false
    )
   ) else (
    some false
   )
  ) else (
   some false
  )
  : Option (Bool)).bind fun x7 =>
 some x7
end Go.Proofs.Ytffhjiplcfncdaa
namespace Go.Proofs.Ytffhjiplcfncdaa
open Go.Abs
def zAy (p : zCu) : List S:=[.sl 1 ((List.map (irow .i64)) p.1),.sl 1 ((List.map (irow .i64)) p.2)]
def zI7 (xs : List AV) (r : Ret) : Prop:=∃ (a0 : zCu) (y0 : zCu),zCr a0 = some y0 ∧ xs = [.agg ((zAy a0).map .s)] ∧ r = .val (.agg ((zAy y0).map .s))
def zEy : zAo:=zAx fun xs r=>zI7 xs r
theorem zFP : PSound Try.prog 33 zEy:=by
 have gok : ∀ f s,look? f [(42,zFX)] = some s → PSound Try.prog f s:=zAu (by
  simp only [List.forall_mem_cons]
  exact ⟨zHb,by simp⟩)
 refine zAB tokW Try.call33 Try.func33 rfl (fun xs r h=>by obtain ⟨_,_,_,rfl,_⟩:=h; show 1 ≤ 10; decide) 10 rfl ?_;rintro xs r w0 G0 ⟨⟨c1Am,c1An⟩,y0,h,rfl,rfl⟩ _;rw [zCr] at h;refine zAa ?_;refine zAb [2] [] rfl ?_;show Tri ..;refine zAa ?_;refine zAH (by exact tokW) (by exact gok) (by exact mixed) [] [] [7] rfl (by decide +kernel) ?_;obtain ⟨y2,hy2,h⟩:=zAc h;refine ⟨_,⟨_,_,hy2,rfl,rfl⟩,?_⟩
 obtain ⟨y3,hy3,h⟩:=zAc h;refine ⟨_,⟨_,_,hy3,rfl,rfl⟩,?_⟩
 show Tri ..;refine zAh ?_;have hy:=Option.some.inj h;subst hy;unfold zAv;exact ⟨_,Le.refl _ _,rfl,rfl⟩
def zAf (p : zRc) : List S:=[.sl 8 ((List.map zAj) p.1),.sl 1 ((List.map (irow .i64)) p.2.1.1),.sl 1 ((List.map (irow .i64)) p.2.1.2),.sl 1 ((List.map (irow .i64)) p.2.2.1),.sl 1 ((List.map (irow .i64)) p.2.2.2)]
def zEV (n : Nat) (xs : List AV) (os : List Ob) (x : AV) (os' : List (Option Ob)) : Prop:=∃ (a0H : Int) (a0I : List UInt8) (a0J : Int) (a0K : List Nd) (a0L : Int) (a0M : List UInt8) (a0N : Int) (a0O : List Nd) (a0F : List zRc) (a0E : Int) (y0 : zCu) (y1 : Int) (z0H : Int) (z0I : List UInt8) (z0J : Int) (z0K : List Nd) (z0L : Int) (z0M : List UInt8) (z0N : Int) (z0O : List Nd) (z0F : List zRc) (z0E : Int),zBE n (Nd.mk a0H a0I a0J a0K,Nd.mk a0L a0M a0N a0O,a0F,a0E) = some (y0,y1,(Nd.mk z0H z0I z0J z0K,Nd.mk z0L z0M z0N z0O,z0F,z0E)) ∧ xs = [.op 0 0] ∧ os = [.box 57 [.s (.int .i64 a0H),.s (.str a0I),.s (.int .i64 a0J),.s (.sl 4 (Nd.encs a0K)),.s (.int .i64 a0L),.s (.str a0M),.s (.int .i64 a0N),.s (.sl 4 (Nd.encs a0O)),.orow 1,.s (.int .i64 a0E)],.row 40 5 ((List.map zAf) a0F)] ∧ x = .tup [.agg ((zAy y0).map .s),.s (.int .i64 y1)] ∧ os' = [some (.box 57 [.s (.int .i64 z0H),.s (.str z0I),.s (.int .i64 z0J),.s (.sl 4 (Nd.encs z0K)),.s (.int .i64 z0L),.s (.str z0M),.s (.int .i64 z0N),.s (.sl 4 (Nd.encs z0O)),.orow 2,.s (.int .i64 z0E)]),none,some (.row 40 5 ((List.map zAf) z0F))]
def zCC : zAo:=zCU (fun xs os x os'=>∃ n,zEV n xs os x os')
theorem zEL : PSound Try.prog 16 zCC:=by
 have gok : ∀ f s,look? f [(32,zEQ),(26,zDq),(33,zEy)] = some s → PSound Try.prog f s:=zAu (by
  simp only [List.forall_mem_cons]
  exact ⟨zGO,zET,zFP,by simp⟩)
 refine PSound.withNil (zHc tokW Try.call16 Try.func16 rfl (fun xs os x os' h=>by obtain ⟨n,_,_,_,_,_,_,_,_,_,_,_,_,_,_,_,_,_,_,_,_,_,_,_,rfl,rfl,_,rfl⟩:=h; exact ⟨by show 1 ≤ 59; decide,by show 2 ≤ 3; decide⟩) 59 rfl ?_) _;rintro xs os x os' w0 G0 B0 ⟨n,o1H,o1I,o1J,o1K,o1L,o1M,o1N,o1O,o1F,o1E,y0,y1,z0H,z0I,z0J,z0K,z0L,z0M,z0N,z0O,z0F,z0E,h,rfl,rfl,rfl,rfl⟩ _;rw [zBE] at h;refine zAa ?_;refine zAb [2] [] rfl ?_
 show Tri ..;refine zAa ?_;refine zAa ?_;refine zAb [] [] rfl ?_;show Tri ..;refine zAg rfl (fun h=>by cases h) (fun _=>?_)
 refine zAi ?_;show Tri ..;refine zAa ?_;refine zAa ?_;refine zAb [] [] rfl ?_;show Tri ..;refine zAg rfl (fun hb=>?_) (fun hb=>?_)
 ·replace h:=zAm hb h;refine zAa ?_;refine zAb [] [] rfl ?_;show Tri ..;refine zAh ?_;have hj0:=Option.some.inj h;obtain ⟨hv0,hw0⟩:=Prod.mk.inj hj0;subst hv0;obtain ⟨hv1,hw1⟩:=Prod.mk.inj hw0;subst hv1;obtain ⟨he1R,hr1R⟩:=Prod.mk.inj hw1;obtain ⟨he1S,hr1S⟩:=Prod.mk.inj hr1R;obtain ⟨he1V,he1W⟩:=Prod.mk.inj hr1S;obtain ⟨he2R,he2S,he2V,he2W⟩:=Nd.mk.inj he1R;subst he2R;subst he2S;subst he2V;subst he2W;obtain ⟨he3R,he3S,he3V,he3W⟩:=Nd.mk.inj he1S;subst he3R;subst he3S;subst he3V;subst he3W;subst he1V;subst he1W;unfold zCa
  exact ⟨_,(Le.rnm [(0,0),(1,2),(2,3)] [(2,.op 3 0),(3,.s (.int .i64 8))] [(0,.box 57 [.s (.int .i64 o1H),.s (.str o1I),.s (.int .i64 o1J),.s (.sl 4 (Nd.encs o1K)),.s (.int .i64 o1L),.s (.str o1M),.s (.int .i64 o1N),.s (.sl 4 (Nd.encs o1O)),.orow 2,.s (.int .i64 o1E)]),(2,.row 40 5 ((List.map zAf) o1F)),(3,.box 38 [.nl 1,.nl 1])] 4 ⟨rfl,rfl,trivial⟩ ⟨rfl,⟨_,rfl,rfl⟩,rfl,⟨_,rfl,rfl⟩,rfl,⟨_,rfl,rfl⟩,trivial⟩),rfl,rfl,rfl,rfl,rfl,rfl,trivial⟩
 ·replace h:=zAl hb h;refine zAi ?_;show Tri ..;refine zAa ?_;refine zEx (by exact tokW) (by exact gok) (by exact mixed) [4] [] [3,7,9,10,11,12] [3,7,9,10] rfl (by decide +kernel) ?_;obtain ⟨⟨e2Af,⟨e2Ah,e2Ai⟩,⟨e2Ak,e2Al⟩⟩,he2,h⟩:=zAc h;refine And.intro (zAY (fun _=>rfl) he2).1 ?_;refine And.intro (zAY (fun _=>rfl) he2).2.2 ?_;refine ⟨_,(zAY (fun _=>rfl) he2).2.1,?_⟩
  show Tri ..;refine zAk (Le.giveBox 3 [.sl 8 ((List.map zAj) e2Af),.sl 1 ((List.map (irow .i64)) e2Ah),.sl 1 ((List.map (irow .i64)) e2Ai),.sl 1 ((List.map (irow .i64)) e2Ak),.sl 1 ((List.map (irow .i64)) e2Al)] rfl rfl) ?_;refine zAa ?_;refine zEx (by exact tokW) (by exact gok) (by exact mixed) [5] [] [3,12,13] [3] rfl (by decide +kernel) ?_;obtain ⟨y3,hy3,h⟩:=zAc h;refine ⟨_,⟨_,_,_,hy3,rfl,rfl⟩,?_⟩
  obtain ⟨⟨⟨y4A,y4B,y4D,y4C⟩,y5,y6⟩,hy4,h⟩:=zAc h;refine ⟨_,⟨_,_,_,_,_,_,hy4,rfl,rfl⟩,?_⟩
  show Tri ..;refine zAk (Le.giveBox 4 [.int .i64 y4A,.str y4B,.int .i64 y4D,.sl 4 (Nd.encs y4C)] rfl rfl) ?_;refine zAa ?_;refine zAa ?_;refine zAb [] [] rfl ?_;show Tri ..;refine zAg rfl (fun hb=>?_) (fun hb=>?_)
  ·replace h:=zAm hb h;refine zAa ?_;refine zAb [] [] rfl ?_;show Tri ..;refine zAh ?_;have hj0:=Option.some.inj h;obtain ⟨hv0,hw0⟩:=Prod.mk.inj hj0;subst hv0;obtain ⟨hv1,hw1⟩:=Prod.mk.inj hw0;subst hv1;obtain ⟨he1R,hr1R⟩:=Prod.mk.inj hw1;obtain ⟨he1S,hr1S⟩:=Prod.mk.inj hr1R;obtain ⟨he1V,he1W⟩:=Prod.mk.inj hr1S;obtain ⟨he2R,he2S,he2V,he2W⟩:=Nd.mk.inj he1R;subst he2R;subst he2S;subst he2V;subst he2W;obtain ⟨he3R,he3S,he3V,he3W⟩:=Nd.mk.inj he1S;subst he3R;subst he3S;subst he3V;subst he3W;subst he1V;subst he1W;unfold zCa
   exact ⟨_,(Le.rnm [(0,0),(1,2),(2,3)] [(2,.op 3 0),(3,.s (.int .i64 y6))] [(0,.box 57 [.s (.int .i64 o1H),.s (.str o1I),.s (.int .i64 o1J),.s (.sl 4 (Nd.encs o1K)),.s (.int .i64 o1L),.s (.str o1M),.s (.int .i64 o1N),.s (.sl 4 (Nd.encs o1O)),.orow 2,.s (.int .i64 o1E)]),(2,.row 40 5 ((List.map zAf) o1F)),(3,.box 38 [.nl 1,.nl 1])] 4 ⟨rfl,rfl,trivial⟩ ⟨rfl,⟨_,rfl,rfl⟩,rfl,⟨_,rfl,rfl⟩,rfl,⟨_,rfl,rfl⟩,trivial⟩),rfl,rfl,rfl,rfl,rfl,rfl,trivial⟩
  ·replace h:=zAl hb h;refine zAi ?_;show Tri ..;refine zAa ?_;refine zAH (by exact tokW) (by exact gok) (by exact mixed) [] [] [6,10,13] rfl (by decide +kernel) ?_;show Tri ..;refine zAa ?_;refine zAb [] [] rfl ?_;obtain ⟨⟨y7Am,y7An⟩,hy7,h⟩:=zAc h;refine ⟨_,⟨_,_,hy7,rfl,rfl⟩,?_⟩
   show Tri ..;refine zAh ?_;have hj0:=Option.some.inj h;obtain ⟨hv0,hw0⟩:=Prod.mk.inj hj0;subst hv0;obtain ⟨hv1,hw1⟩:=Prod.mk.inj hw0;subst hv1;obtain ⟨he1R,hr1R⟩:=Prod.mk.inj hw1;obtain ⟨he1S,hr1S⟩:=Prod.mk.inj hr1R;obtain ⟨he1V,he1W⟩:=Prod.mk.inj hr1S;obtain ⟨he2R,he2S,he2V,he2W⟩:=Nd.mk.inj he1R;subst he2R;subst he2S;subst he2V;subst he2W;obtain ⟨he3R,he3S,he3V,he3W⟩:=Nd.mk.inj he1S;subst he3R;subst he3S;subst he3V;subst he3W;subst he1V;subst he1W;unfold zCa
   exact ⟨_,(Le.rnm [(0,0),(1,2),(2,3)] [(2,.op 3 0),(3,.s (.int .i64 0))] [(0,.box 57 [.s (.int .i64 o1H),.s (.str o1I),.s (.int .i64 o1J),.s (.sl 4 (Nd.encs o1K)),.s (.int .i64 y4A),.s (.str y4B),.s (.int .i64 y4D),.s (.sl 4 (Nd.encs y4C)),.orow 2,.s (.int .i64 (IntKind.i64.wrap (o1E - 1)))]),(2,.row 40 5 ((List.map zAf) o1F)),(3,.box 38 [.s (.sl 1 ((List.map (irow .i64)) y7Am)),.s (.sl 1 ((List.map (irow .i64)) y7An))])] 4 ⟨rfl,rfl,trivial⟩ ⟨rfl,⟨_,rfl,rfl⟩,rfl,⟨_,rfl,rfl⟩,rfl,⟨_,rfl,rfl⟩,trivial⟩),rfl,rfl,rfl,rfl,rfl,rfl,trivial⟩
def zAz : (Nd × Nd × List zRc × Int) → List S
| ⟨⟨p_origin_kind,p_origin_text,p_origin_cols,p_origin_kids⟩,⟨p_tree_kind,p_tree_text,p_tree_cols,p_tree_kids⟩,p_records,p_done⟩=>[.int .i64 p_origin_kind,.str p_origin_text,.int .i64 p_origin_cols,.sl 4 (Nd.encs p_origin_kids),.int .i64 p_tree_kind,.str p_tree_text,.int .i64 p_tree_cols,.sl 4 (Nd.encs p_tree_kids),.sl 5 ((List.map zAf) p_records),.int .i64 p_done]
def zJb (n : Nat) (xs : List AV) (os : List Ob) (x : AV) (os' : List (Option Ob)) : Prop:=∃ (a0 : Nd) (y0 : Option (Nd × Nd × List zRc × Int)) (y1 : Int),zEF n a0 = some (y0,y1) ∧ xs = [.agg ((Nd.enc a0).map .s)] ∧ os = [] ∧ x = .tup [(match y0 with | none=>.s .np | some _=>.op 0 0),.s (.int .i64 y1)] ∧ os' = (match y0 with | none=>[] | some ⟨⟨o_origin_kind,o_origin_text,o_origin_cols,o_origin_kids⟩,⟨o_tree_kind,o_tree_text,o_tree_cols,o_tree_kids⟩,o_records,o_done⟩=>[some (.box 57 [.s (.int .i64 o_origin_kind),.s (.str o_origin_text),.s (.int .i64 o_origin_cols),.s (.sl 4 (Nd.encs o_origin_kids)),.s (.int .i64 o_tree_kind),.s (.str o_tree_text),.s (.int .i64 o_tree_cols),.s (.sl 4 (Nd.encs o_tree_kids)),.orow 1,.s (.int .i64 o_done)]),some (.row 40 5 ((List.map zAf) o_records))])
def zGk : zAo:=zCU (fun xs os x os'=>∃ n,zJb n xs os x os')
theorem zIv : PSound Try.prog 9 zGk:=by
 have gok : ∀ f s,look? f [(24,zBJ),(25,zCf)] = some s → PSound Try.prog f s:=zAu (by
  simp only [List.forall_mem_cons]
  exact ⟨zBV,zCp,by simp⟩)
 refine PSound.withNil (zHc tokW Try.call9 Try.func9 rfl (fun xs os x os' h=>by obtain ⟨n,_,_,_,_,rfl,rfl,_,rfl⟩:=h; exact ⟨by show 1 ≤ 13; decide,Nat.zero_le _⟩) 13 rfl ?_) _;rintro xs os x os' w0 G0 B0 ⟨n,⟨n1A,n1B,n1D,n1C⟩,y0,y1,h,rfl,rfl,rfl,rfl⟩ _;rw [zEF] at h;refine zAa ?_;refine zAb [] [] rfl ?_;show Tri ..;refine zAa ?_;refine zAa ?_;refine zAb [] [] rfl ?_;obtain ⟨y2,hy2,h⟩:=zAc h;refine ⟨_,⟨_,_,_,hy2,rfl,rfl⟩,?_⟩
 show Tri ..;refine zAg rfl (fun hb=>?_) (fun hb=>?_)
 ·replace h:=zAm hb h;refine zAa ?_;refine zAb [] [] rfl ?_;show Tri ..;refine zAh ?_;obtain ⟨hj1,hk1⟩:=Prod.mk.inj (Option.some.inj h)
  subst hj1;subst hk1;unfold zCa;exact ⟨_,(Le.rnm [] [(2,.s (.np)),(3,.s (.int .i64 1))] [] 0 ⟨rfl,rfl,trivial⟩ trivial),rfl,rfl,trivial⟩
 ·replace h:=zAl hb h;refine zAi ?_;show Tri ..;refine zAa ?_;refine zEx (by exact tokW) (by exact gok) (by exact mixed) [12] [] [5] [] rfl (by decide +kernel) ?_;obtain ⟨⟨y3A,y3B,y3D,y3C⟩,hy3,h⟩:=zAc h;refine ⟨_,⟨_,_,hy3,rfl,rfl⟩,?_⟩
  obtain ⟨⟨y4A,y4B,y4D,y4C⟩,hy4,h⟩:=zAc h;refine ⟨_,⟨_,_,hy4,rfl,rfl⟩,?_⟩
  show Tri ..;refine zAk (Le.trans (Le.rnm [(0,0)] [(2,.op 0 0),(3,.s (.int .i64 0))] [(0,.box 57 [.s (.int .i64 y3A),.s (.str y3B),.s (.int .i64 y3D),.s (.sl 4 (Nd.encs y3C)),.s (.int .i64 y4A),.s (.str y4B),.s (.int .i64 y4D),.s (.sl 4 (Nd.encs y4C)),.nl 5,.s (.int .i64 0)])] 1 ⟨rfl,rfl,trivial⟩ ⟨rfl,⟨_,rfl,rfl⟩,trivial⟩) (Le.takeNil 0 8 40 rfl rfl (by decide))) ?_;refine zAh ?_;obtain ⟨hj1,hk1⟩:=Prod.mk.inj (Option.some.inj h)
  subst hj1;subst hk1;unfold zCa;exact ⟨_,(Le.rnm [(0,0),(1,1)] [(2,.op 0 0),(3,.s (.int .i64 0))] [(0,.box 57 [.s (.int .i64 y3A),.s (.str y3B),.s (.int .i64 y3D),.s (.sl 4 (Nd.encs y3C)),.s (.int .i64 y4A),.s (.str y4B),.s (.int .i64 y4D),.s (.sl 4 (Nd.encs y4C)),.orow 1,.s (.int .i64 0)]),(1,.row 40 5 ((List.map zAf) []))] 2 ⟨rfl,rfl,trivial⟩ ⟨rfl,⟨_,rfl,rfl⟩,rfl,⟨_,rfl,rfl⟩,trivial⟩),rfl,rfl,rfl,rfl,rfl,rfl,trivial⟩
def zLj (n : Nat) (xs : List AV) (r : Ret) : Prop:=∃ (a0 : List zO8) (y0 : List zO8),zGM n a0 = some y0 ∧ xs = [.s (.sl 8 ((List.map zAj) a0))] ∧ r = .row 35 8 ((List.map zAj) y0)
def zIF : zAo:=zAx fun xs r=>∃ n,zLj n xs r
theorem zKO : PSound Try.prog 39 zIF:=by
 have gok : ∀ f s,look? f [(60,zHD)] = some s → PSound Try.prog f s:=zAu (by
  simp only [List.forall_mem_cons]
  exact ⟨zIT,by simp⟩)
 refine zAB tokW Try.call39 Try.func39 rfl (fun xs r h=>by obtain ⟨n,_,_,_,rfl,_⟩:=h; show 1 ≤ 19; decide) 19 rfl ?_;rintro xs r w0 G0 ⟨n,l1,y0,h,rfl,rfl⟩ _;rw [zGM] at h;refine zAa ?_;refine zAb [2] [] rfl ?_;show Tri ..;refine zAk (Le.rnm [] [(0,.s (.sl 8 ((List.map zAj) l1)))] [] 0 ⟨rfl,trivial⟩ trivial) ?_;refine zAa ?_;refine zAb [3] [] rfl ?_;show Tri ..
 refine zAk (Le.rnm [(0,0)] [(0,.s (.sl 8 ((List.map zAj) l1))),(3,.orow 0)] [(0,.row 35 8 ((List.map zAj) []))] 1 ⟨rfl,rfl,trivial⟩ ⟨rfl,⟨_,rfl,congrArg (Ob.row 35 8) (by simp [List.map_append,List.map_take,List.map_drop,irow,brow,zA9,List.map_cons,List.map_nil,zAT,Nd.encs_eq,Nd.enc,zAt,zAq,zAJ,zAr,zAn,zAj,zAy,zAf,zAz])⟩,trivial⟩) ?_;refine zAa ?_;refine zAa ?_;refine zAb [] [7] rfl ?_;intro n2 hn2;obtain rfl : (l1.length : Int) = n2:=(hn2.trans (congrArg (fun m : Nat=>(m : Int)) (rlen (fun _=>rfl) l1))).symm
 show Tri ..;obtain ⟨l6,hl,h⟩:=zAc h;refine zAw ⟨ofL [(3,.orow 0)],ofH [(0,.row 35 8 ((List.map zAj) l6))],1⟩ ?_ (fun σ' hle=>?_)
 ·refine zAs (zAX (X:=Nat × Int × (List zO8)) (fun y=>match y with | (k,x4,l5)=>⟨ofL [(3,.orow 0),(6,.s (.sl 8 ((List.map zAj) l1))),(7,.s (.int .i64 (l1.length : Int))),(8,.s (.int .i64 x4))],ofH [(0,.row 35 8 ((List.map zAj) l5))],1⟩) (fun y=>zCt n l1 y.1 y.2.1 y.2.2 = some l6) (fun y=>y.1) (n,0,[]) hl ?_ ?_)
  ·exact (Le.rnm [(0,0)] _ _ _ ⟨rfl,rfl,rfl,rfl,trivial⟩ ⟨rfl,⟨_,rfl,rfl⟩,trivial⟩)
  ·rintro ⟨k,x4,l5⟩ h;cases k with
   | zero=>cases h
   | succ k =>
    replace h : zCt n l1 (k+1) x4 l5 = some l6:=h;rw [zCt] at h;refine zAa ?_;refine zAb [] [] rfl ?_;show Tri ..;refine zAa ?_;refine zAg rfl (fun hb=>?_) (fun hb=>?_)
    ·replace h:=zAm hb h;refine zAi ?_;show Tri ..;refine zAa ?_;refine zAs ?_;refine zAa ?_;refine zAb [5] [10] rfl ?_;obtain ⟨⟨e7A,e7Ac,e7Ae,e7Aa,e7G,e7Ab,e7X,e7B⟩,he7,h⟩:=zAc h;refine And.intro (zAY (fun _=>rfl) he7).1 ?_;intro r8 hr8;obtain rfl : [.int .i64 e7A,.sl 1 ((List.map (irow .i64)) e7Ac),.int .i64 e7Ae,.int .i64 e7Aa,.sl 4 (Nd.encs e7G),.int .i64 e7Ab,.str e7X,.str e7B] = r8:=(hr8.trans (zAY (fun _=>rfl) he7).2.1).symm;show Tri ..
     refine zAk (Le.giveBox 1 [.int .i64 e7A,.sl 1 ((List.map (irow .i64)) e7Ac),.int .i64 e7Ae,.int .i64 e7Aa,.sl 4 (Nd.encs e7G),.int .i64 e7Ab,.str e7X,.str e7B] rfl rfl) ?_;refine zAb [16] [15] rfl ?_;obtain ⟨⟨y9A,y9Ac,y9Ae,y9Aa,y9G,y9Ab,y9X,y9B⟩,hy9,h⟩:=zAc h;refine ⟨_,⟨_,_,_,hy9,rfl,rfl⟩,?_⟩
     intro r10 hr10;obtain rfl : (List.map zAj) [(y9A,y9Ac,y9Ae,y9Aa,y9G,y9Ab,y9X,y9B)] = r10:=(hr10.trans (by simp [List.map_append,List.map_take,List.map_drop,irow,brow,zA9,List.map_cons,List.map_nil,zAT,Nd.encs_eq,Nd.enc,zAt,zAq,zAJ,zAr,zAn,zAj,zAy,zAf,zAz])).symm;obtain ⟨hq,h⟩:=zAW h
     refine And.intro (show (((List.map zAj) l5).length + ((List.map zAj) [(y9A,y9Ac,y9Ae,y9Aa,y9G,y9Ab,y9X,y9B)]).length) * 112 ≤ 140737488355328 ∧ ((List.map zAj) l5).length + ((List.map zAj) [(y9A,y9Ac,y9Ae,y9Aa,y9G,y9Ab,y9X,y9B)]).length ≤ 9223372036854775807 from by simp only [List.length_append,List.length_cons,List.length_nil,List.length_map,rlen (fun _=>rfl)] at hq ⊢; omega) ?_;show Tri ..
     refine zAk (Le.rnm [(2,0)] [(3,.orow 0),(6,.s (.sl 8 ((List.map zAj) l1))),(7,.s (.int .i64 (l1.length : Int))),(8,.s (.int .i64 x4))] [(0,.row 35 8 ((List.map zAj) (l5 ++ [(y9A,y9Ac,y9Ae,y9Aa,y9G,y9Ab,y9X,y9B)])))] 1 ⟨rfl,rfl,rfl,rfl,trivial⟩ ⟨rfl,⟨_,rfl,congrArg (Ob.row 35 8) (by simp [List.map_append,List.map_take,List.map_drop,irow,brow,zA9,List.map_cons,List.map_nil,zAT,Nd.encs_eq,Nd.enc,zAt,zAq,zAJ,zAr,zAn,zAj,zAy,zAf,zAz])⟩,trivial⟩) ?_;refine zAb [] [] rfl ?_
     refine ⟨(k,IntKind.i64.wrap (x4 + 1),l5 ++ [(y9A,y9Ac,y9Ae,y9Aa,y9G,y9Ab,y9X,y9B)]),h,(Le.rnm [(0,0)] _ _ _ ⟨rfl,rfl,rfl,rfl,trivial⟩ ⟨rfl,⟨_,rfl,rfl⟩,trivial⟩),Nat.lt_succ_self k⟩
    ·replace h:=zAl hb h;refine zBn ?_;cases h;exact (Le.rnm [(0,0)] _ _ _ ⟨rfl,trivial⟩ ⟨rfl,⟨_,rfl,rfl⟩,trivial⟩)
 ·show Tri ..;refine zAk hle ?_;refine zAa ?_;refine zAb [] [] rfl ?_;show Tri ..;refine zAh ?_;have hy:=Option.some.inj h;subst hy;unfold zAv;exact ⟨_,Le.refl _ _,0,rfl,rfl⟩
def zI8 (n : Nat) (xs : List AV) (r : Ret) : Prop:=∃ (a0 : zRc) (y0 : zRc),zDc n a0 = some y0 ∧ xs = [.agg ((zAf a0).map .s)] ∧ r = .val (.agg ((zAf y0).map .s))
def zEz : zAo:=zAx fun xs r=>∃ n,zI8 n xs r
theorem zFQ : PSound Try.prog 27 zEz:=by
 have gok : ∀ f s,look? f [(39,zIF),(33,zEy)] = some s → PSound Try.prog f s:=zAu (by
  simp only [List.forall_mem_cons]
  exact ⟨zKO,zFP,by simp⟩)
 refine zAB tokW Try.call27 Try.func27 rfl (fun xs r h=>by obtain ⟨n,_,_,_,rfl,_⟩:=h; show 1 ≤ 13; decide) 13 rfl ?_;rintro xs r w0 G0 ⟨n,⟨r1Af,⟨r1Ah,r1Ai⟩,⟨r1Ak,r1Al⟩⟩,y0,h,rfl,rfl⟩ _;rw [zDc] at h;refine zAa ?_;refine zAb [2] [] rfl ?_;show Tri ..;refine zAa ?_;refine zAH (by exact tokW) (by exact gok) (by exact mixed) [] [] [10] rfl (by decide +kernel) ?_;obtain ⟨y2,hy2,h⟩:=zAc h;refine ⟨_,⟨_,_,_,hy2,rfl,rfl⟩,?_⟩
 obtain ⟨⟨y3Am,y3An⟩,hy3,h⟩:=zAc h;refine ⟨_,⟨_,_,hy3,rfl,rfl⟩,?_⟩
 obtain ⟨⟨y4Am,y4An⟩,hy4,h⟩:=zAc h;refine ⟨_,⟨_,_,hy4,rfl,rfl⟩,?_⟩
 show Tri ..;refine zAh ?_;have hy:=Option.some.inj h;subst hy;unfold zAv;exact ⟨_,Le.refl _ _,rfl,rfl⟩
def zFz (n : Nat) (xs : List AV) (os : List Ob) (x : AV) (os' : List (Option Ob)) : Prop:=∃ (a0H : Int) (a0I : List UInt8) (a0J : Int) (a0K : List Nd) (a0L : Int) (a0M : List UInt8) (a0N : Int) (a0O : List Nd) (a0F : List zRc) (a0E : Int) (a1 : zRc) (y0 : Int) (z0H : Int) (z0I : List UInt8) (z0J : Int) (z0K : List Nd) (z0L : Int) (z0M : List UInt8) (z0N : Int) (z0O : List Nd) (z0F : List zRc) (z0E : Int),zB9 n (Nd.mk a0H a0I a0J a0K,Nd.mk a0L a0M a0N a0O,a0F,a0E) a1 = some (y0,(Nd.mk z0H z0I z0J z0K,Nd.mk z0L z0M z0N z0O,z0F,z0E)) ∧ xs = [.op 0 0,.agg ((zAf a1).map .s)] ∧ os = [.box 57 [.s (.int .i64 a0H),.s (.str a0I),.s (.int .i64 a0J),.s (.sl 4 (Nd.encs a0K)),.s (.int .i64 a0L),.s (.str a0M),.s (.int .i64 a0N),.s (.sl 4 (Nd.encs a0O)),.orow 1,.s (.int .i64 a0E)],.row 40 5 ((List.map zAf) a0F)] ∧ x = .s (.int .i64 y0) ∧ os' = [some (.box 57 [.s (.int .i64 z0H),.s (.str z0I),.s (.int .i64 z0J),.s (.sl 4 (Nd.encs z0K)),.s (.int .i64 z0L),.s (.str z0M),.s (.int .i64 z0N),.s (.sl 4 (Nd.encs z0O)),.orow 2,.s (.int .i64 z0E)]),none,some (.row 40 5 ((List.map zAf) z0F))]
def zC6 : zAo:=zCU (fun xs os x os'=>∃ n,zFz n xs os x os')
theorem zFh : PSound Try.prog 10 zC6:=by
 have gok : ∀ f s,look? f [(26,zDq),(27,zEz)] = some s → PSound Try.prog f s:=zAu (by
  simp only [List.forall_mem_cons]
  exact ⟨zET,zFQ,by simp⟩)
 refine PSound.withNil (zHc tokW Try.call10 Try.func10 rfl (fun xs os x os' h=>by obtain ⟨n,_,_,_,_,_,_,_,_,_,_,_,_,_,_,_,_,_,_,_,_,_,_,_,rfl,rfl,_,rfl⟩:=h; exact ⟨by show 2 ≤ 57; decide,by show 2 ≤ 3; decide⟩) 57 rfl ?_) _;rintro xs os x os' w0 G0 B0 ⟨n,o1H,o1I,o1J,o1K,o1L,o1M,o1N,o1O,o1F,o1E,⟨r2Af,⟨r2Ah,r2Ai⟩,⟨r2Ak,r2Al⟩⟩,y0,z0H,z0I,z0J,z0K,z0L,z0M,z0N,z0O,z0F,z0E,h,rfl,rfl,rfl,rfl⟩ _
 rw [zB9] at h;refine zAa ?_;refine zAb [] [] rfl ?_;show Tri ..;refine zAa ?_;refine zAa ?_;refine zAb [] [] rfl ?_;show Tri ..;refine zAg rfl (fun h=>by cases h) (fun _=>?_)
 refine zAi ?_;show Tri ..;refine zAa ?_;refine zEx (by exact tokW) (by exact gok) (by exact mixed) [5] [] [3,11,12] [3] rfl (by decide +kernel) ?_;obtain ⟨⟨⟨y3A,y3B,y3D,y3C⟩,y4,y5⟩,hy3,h⟩:=zAc h;refine ⟨_,⟨_,_,_,_,_,_,hy3,rfl,rfl⟩,?_⟩
 show Tri ..;refine zAk (Le.giveBox 2 [.int .i64 y3A,.str y3B,.int .i64 y3D,.sl 4 (Nd.encs y3C)] rfl rfl) ?_;refine zAa ?_;refine zAa ?_;refine zAb [] [] rfl ?_;show Tri ..;refine zAg rfl (fun hb=>?_) (fun hb=>?_)
 ·replace h:=zAm hb h;refine zAa ?_;refine zAb [] [] rfl ?_;show Tri ..;refine zAh ?_;have hj0:=Option.some.inj h;obtain ⟨hv0,hw0⟩:=Prod.mk.inj hj0;subst hv0;obtain ⟨he1R,hr1R⟩:=Prod.mk.inj hw0;obtain ⟨he1S,hr1S⟩:=Prod.mk.inj hr1R;obtain ⟨he1V,he1W⟩:=Prod.mk.inj hr1S;obtain ⟨he2R,he2S,he2V,he2W⟩:=Nd.mk.inj he1R;subst he2R;subst he2S;subst he2V;subst he2W;obtain ⟨he3R,he3S,he3V,he3W⟩:=Nd.mk.inj he1S;subst he3R;subst he3S;subst he3V;subst he3W;subst he1V;subst he1W;unfold zCa
  exact ⟨_,(Le.rnm [(0,0),(1,2)] [(4,.s (.int .i64 y5))] [(0,.box 57 [.s (.int .i64 o1H),.s (.str o1I),.s (.int .i64 o1J),.s (.sl 4 (Nd.encs o1K)),.s (.int .i64 o1L),.s (.str o1M),.s (.int .i64 o1N),.s (.sl 4 (Nd.encs o1O)),.orow 2,.s (.int .i64 o1E)]),(2,.row 40 5 ((List.map zAf) o1F))] 3 ⟨rfl,trivial⟩ ⟨rfl,⟨_,rfl,rfl⟩,rfl,⟨_,rfl,rfl⟩,trivial⟩),rfl,rfl,rfl,rfl,rfl,rfl,trivial⟩
 ·replace h:=zAl hb h;refine zAi ?_;show Tri ..;refine zAa ?_;refine zAa ?_;refine zAb [] [] rfl ?_;show Tri ..;refine zAg rfl (fun hb=>?_) (fun hb=>?_)
  ·replace h:=zAm hb h;refine zAa ?_;refine zAb [] [] rfl ?_;show Tri ..;refine zAh ?_;have hj0:=Option.some.inj h;obtain ⟨hv0,hw0⟩:=Prod.mk.inj hj0;subst hv0;obtain ⟨he1R,hr1R⟩:=Prod.mk.inj hw0;obtain ⟨he1S,hr1S⟩:=Prod.mk.inj hr1R;obtain ⟨he1V,he1W⟩:=Prod.mk.inj hr1S;obtain ⟨he2R,he2S,he2V,he2W⟩:=Nd.mk.inj he1R;subst he2R;subst he2S;subst he2V;subst he2W;obtain ⟨he3R,he3S,he3V,he3W⟩:=Nd.mk.inj he1S;subst he3R;subst he3S;subst he3V;subst he3W;subst he1V;subst he1W;unfold zCa
   exact ⟨_,(Le.rnm [(0,0),(1,2)] [(4,.s (.int .i64 6))] [(0,.box 57 [.s (.int .i64 o1H),.s (.str o1I),.s (.int .i64 o1J),.s (.sl 4 (Nd.encs o1K)),.s (.int .i64 o1L),.s (.str o1M),.s (.int .i64 o1N),.s (.sl 4 (Nd.encs o1O)),.orow 2,.s (.int .i64 o1E)]),(2,.row 40 5 ((List.map zAf) o1F))] 3 ⟨rfl,trivial⟩ ⟨rfl,⟨_,rfl,rfl⟩,rfl,⟨_,rfl,rfl⟩,trivial⟩),rfl,rfl,rfl,rfl,rfl,rfl,trivial⟩
  ·replace h:=zAl hb h;refine zAi ?_;show Tri ..;refine zAa ?_;refine zAH (by exact tokW) (by exact gok) (by exact mixed) [38,42] [41] [4,8,9,13,16] rfl (by decide +kernel) ?_;obtain ⟨hq,h⟩:=zAW h;refine And.intro ⟨hq.1,Int.le_trans hq.2 (Int.ofNat_le.2 (Nat.le_of_eq (rlen (fun _=>rfl) _).symm))⟩ ?_;obtain ⟨⟨y6Af,⟨y6Ah,y6Ai⟩,⟨y6Ak,y6Al⟩⟩,hy6,h⟩:=zAc h;refine ⟨_,⟨_,_,_,hy6,rfl,rfl⟩,?_⟩
   intro r7 hr7;obtain rfl : (List.map zAf) [(y6Af,(y6Ah,y6Ai),(y6Ak,y6Al))] = r7:=(hr7.trans (by simp [List.map_append,List.map_take,List.map_drop,irow,brow,zA9,List.map_cons,List.map_nil,zAT,Nd.encs_eq,Nd.enc,zAt,zAq,zAJ,zAr,zAn,zAj,zAy,zAf,zAz])).symm;obtain ⟨hq,h⟩:=zAW h
   refine And.intro (show (((((List.map zAf) o1F)).take o1E.toNat).length + ((List.map zAf) [(y6Af,(y6Ah,y6Ai),(y6Ak,y6Al))]).length) * 120 ≤ 140737488355328 ∧ ((((List.map zAf) o1F)).take o1E.toNat).length + ((List.map zAf) [(y6Af,(y6Ah,y6Ai),(y6Ak,y6Al))]).length ≤ 9223372036854775807 from by simp only [List.length_append,List.length_cons,List.length_nil,List.length_map,List.length_take,rlen (fun _=>rfl)] at hq ⊢; omega) ?_;show Tri ..
   refine zAk (Le.rnm [(0,0),(4,2)] [(0,.op 0 0),(5,.s (.pt [.int .i64 y3A,.str y3B,.int .i64 y3D,.sl 4 (Nd.encs y3C)]))] [(0,.box 57 [.s (.int .i64 o1H),.s (.str o1I),.s (.int .i64 o1J),.s (.sl 4 (Nd.encs o1K)),.s (.int .i64 o1L),.s (.str o1M),.s (.int .i64 o1N),.s (.sl 4 (Nd.encs o1O)),.orow 2,.s (.int .i64 o1E)]),(2,.row 40 5 ((List.map zAf) ((o1F.take o1E.toNat) ++ [(y6Af,(y6Ah,y6Ai),(y6Ak,y6Al))])))] 3 ⟨rfl,rfl,trivial⟩ ⟨rfl,⟨_,rfl,rfl⟩,rfl,⟨_,rfl,congrArg (Ob.row 40 5) (by simp [List.map_append,List.map_take,List.map_drop,irow,brow,zA9,List.map_cons,List.map_nil,zAT,Nd.encs_eq,Nd.enc,zAt,zAq,zAJ,zAr,zAn,zAj,zAy,zAf,zAz])⟩,trivial⟩) ?_
   refine zAa ?_;refine zAH (by exact tokW) (by exact gok) (by exact mixed) [] [] [6,10,13] rfl (by decide +kernel) ?_;show Tri ..;refine zAa ?_;refine zAb [] [] rfl ?_;show Tri ..;refine zAh ?_;have hj0:=Option.some.inj h;obtain ⟨hv0,hw0⟩:=Prod.mk.inj hj0;subst hv0;obtain ⟨he1R,hr1R⟩:=Prod.mk.inj hw0;obtain ⟨he1S,hr1S⟩:=Prod.mk.inj hr1R;obtain ⟨he1V,he1W⟩:=Prod.mk.inj hr1S;obtain ⟨he2R,he2S,he2V,he2W⟩:=Nd.mk.inj he1R;subst he2R;subst he2S;subst he2V;subst he2W;obtain ⟨he3R,he3S,he3V,he3W⟩:=Nd.mk.inj he1S;subst he3R;subst he3S;subst he3V;subst he3W;subst he1V;subst he1W;unfold zCa
   exact ⟨_,(Le.rnm [(0,0),(2,2)] [(4,.s (.int .i64 0))] [(0,.box 57 [.s (.int .i64 o1H),.s (.str o1I),.s (.int .i64 o1J),.s (.sl 4 (Nd.encs o1K)),.s (.int .i64 y3A),.s (.str y3B),.s (.int .i64 y3D),.s (.sl 4 (Nd.encs y3C)),.orow 2,.s (.int .i64 (IntKind.i64.wrap (o1E + 1)))]),(2,.row 40 5 ((List.map zAf) ((o1F.take o1E.toNat) ++ [(y6Af,(y6Ah,y6Ai),(y6Ak,y6Al))])))] 3 ⟨rfl,trivial⟩ ⟨rfl,⟨_,rfl,rfl⟩,rfl,⟨_,rfl,rfl⟩,trivial⟩),rfl,rfl,rfl,rfl,rfl,rfl,trivial⟩
def zEU (xs : List AV) (os : List Ob) (x : AV) (os' : List (Option Ob)) : Prop:=∃ (a0H : Int) (a0I : List UInt8) (a0J : Int) (a0K : List Nd) (a0L : Int) (a0M : List UInt8) (a0N : Int) (a0O : List Nd) (a0F : List zRc) (a0E : Int) (y0 : Nd) (z0H : Int) (z0I : List UInt8) (z0J : Int) (z0K : List Nd) (z0L : Int) (z0M : List UInt8) (z0N : Int) (z0O : List Nd) (z0F : List zRc) (z0E : Int),zBa (Nd.mk a0H a0I a0J a0K,Nd.mk a0L a0M a0N a0O,a0F,a0E) = some (y0,(Nd.mk z0H z0I z0J z0K,Nd.mk z0L z0M z0N z0O,z0F,z0E)) ∧ xs = [.op 0 0] ∧ os = [.box 57 [.s (.int .i64 a0H),.s (.str a0I),.s (.int .i64 a0J),.s (.sl 4 (Nd.encs a0K)),.s (.int .i64 a0L),.s (.str a0M),.s (.int .i64 a0N),.s (.sl 4 (Nd.encs a0O)),.orow 1,.s (.int .i64 a0E)],.row 40 5 ((List.map zAf) a0F)] ∧ x = .agg ((Nd.enc y0).map .s) ∧ os' = [some (.box 57 [.s (.int .i64 z0H),.s (.str z0I),.s (.int .i64 z0J),.s (.sl 4 (Nd.encs z0K)),.s (.int .i64 z0L),.s (.str z0M),.s (.int .i64 z0N),.s (.sl 4 (Nd.encs z0O)),.orow 2,.s (.int .i64 z0E)]),none,some (.row 40 5 ((List.map zAf) z0F))]
def zCB : zAo:=zCU (fun xs os x os'=>zEU xs os x os')
theorem zEK : PSound Try.prog 12 zCB:=by
 have gok : ∀ f s,look? f [(25,zCf)] = some s → PSound Try.prog f s:=zAu (by
  simp only [List.forall_mem_cons]
  exact ⟨zCp,by simp⟩)
 refine PSound.withNil (zHc tokW Try.call12 Try.func12 rfl (fun xs os x os' h=>by obtain ⟨_,_,_,_,_,_,_,_,_,_,_,_,_,_,_,_,_,_,_,_,_,_,rfl,rfl,_,rfl⟩:=h; exact ⟨by show 1 ≤ 11; decide,by show 2 ≤ 3; decide⟩) 11 rfl ?_) _;rintro xs os x os' w0 G0 B0 ⟨o1H,o1I,o1J,o1K,o1L,o1M,o1N,o1O,o1F,o1E,y0,z0H,z0I,z0J,z0K,z0L,z0M,z0N,z0O,z0F,z0E,h,rfl,rfl,rfl,rfl⟩ _;rw [zBa] at h;refine zAa ?_;refine zAb [2] [] rfl ?_;show Tri ..
 refine zAa ?_;refine zAa ?_;refine zAb [] [] rfl ?_;show Tri ..;refine zAg rfl (fun h=>by cases h) (fun _=>?_)
 refine zAi ?_;show Tri ..;refine zAa ?_;refine zAb [] [] rfl ?_;obtain ⟨⟨y2A,y2B,y2D,y2C⟩,hy2,h⟩:=zAc h;refine ⟨_,⟨_,_,hy2,rfl,rfl⟩,?_⟩
 show Tri ..;refine zAh ?_;have hj0:=Option.some.inj h;obtain ⟨hv0,hw0⟩:=Prod.mk.inj hj0;subst hv0;obtain ⟨he1R,hr1R⟩:=Prod.mk.inj hw0;obtain ⟨he1S,hr1S⟩:=Prod.mk.inj hr1R;obtain ⟨he1V,he1W⟩:=Prod.mk.inj hr1S;obtain ⟨he2R,he2S,he2V,he2W⟩:=Nd.mk.inj he1R;subst he2R;subst he2S;subst he2V;subst he2W;obtain ⟨he3R,he3S,he3V,he3W⟩:=Nd.mk.inj he1S;subst he3R;subst he3S;subst he3V;subst he3W;subst he1V;subst he1W;unfold zCa
 exact ⟨_,(Le.rnm [(0,0),(1,2),(2,3)] [(2,.op 3 0)] [(0,.box 57 [.s (.int .i64 o1H),.s (.str o1I),.s (.int .i64 o1J),.s (.sl 4 (Nd.encs o1K)),.s (.int .i64 o1L),.s (.str o1M),.s (.int .i64 o1N),.s (.sl 4 (Nd.encs o1O)),.orow 2,.s (.int .i64 o1E)]),(2,.row 40 5 ((List.map zAf) o1F)),(3,.box 24 [.s (.int .i64 y2A),.s (.str y2B),.s (.int .i64 y2D),.s (.sl 4 (Nd.encs y2C))])] 4 ⟨rfl,trivial⟩ ⟨rfl,⟨_,rfl,rfl⟩,rfl,⟨_,rfl,rfl⟩,rfl,⟨_,rfl,rfl⟩,trivial⟩),rfl,rfl,rfl,rfl,rfl,rfl,trivial⟩
def zGd (n : Nat) (xs : List AV) (os : List Ob) (x : AV) (os' : List (Option Ob)) : Prop:=∃ (a0 : List zRc) (y0 : List zRc),zCv n a0 = some y0 ∧ xs = [.orow 0] ∧ os = [.row 40 5 ((List.map zAf) a0)] ∧ x = .orow 1 ∧ os' = [some (.row 40 5 ((List.map zAf) a0)),some (.row 40 5 ((List.map zAf) y0))]
def zDZ : zAo:=zCU (fun xs os x os'=>∃ n,zGd n xs os x os')
theorem zF6 : PSound Try.prog 28 zDZ:=by
 have gok : ∀ f s,look? f [(27,zEz)] = some s → PSound Try.prog f s:=zAu (by
  simp only [List.forall_mem_cons]
  exact ⟨zFQ,by simp⟩)
 refine PSound.withNil (zHc tokW Try.call28 Try.func28 rfl (fun xs os x os' h=>by obtain ⟨n,_,_,_,rfl,rfl,_,rfl⟩:=h; exact ⟨by show 1 ≤ 19; decide,by show 1 ≤ 2; decide⟩) 19 rfl ?_) _;rintro xs os x os' w0 G0 B0 ⟨n,o1,y0,h,rfl,rfl,rfl,rfl⟩ _;rw [zCv] at h;refine zAa ?_;refine zAb [2] [] rfl ?_;show Tri ..;refine zAk (Le.rnm [(0,0)] [(0,.orow 0)] [(0,.row 40 5 ((List.map zAf) o1))] 1 ⟨rfl,trivial⟩ ⟨rfl,⟨_,rfl,rfl⟩,trivial⟩) ?_;refine zAa ?_;refine zAb [3] [] rfl ?_;show Tri ..
 refine zAk (Le.rnm [(0,0),(1,1)] [(0,.orow 0),(3,.orow 1)] [(0,.row 40 5 ((List.map zAf) o1)),(1,.row 40 5 ((List.map zAf) []))] 2 ⟨rfl,rfl,trivial⟩ ⟨rfl,⟨_,rfl,rfl⟩,rfl,⟨_,rfl,congrArg (Ob.row 40 5) (by simp [List.map_append,List.map_take,List.map_drop,irow,brow,zA9,List.map_cons,List.map_nil,zAT,Nd.encs_eq,Nd.enc,zAt,zAq,zAJ,zAr,zAn,zAj,zAy,zAf,zAz])⟩,trivial⟩) ?_;refine zAa ?_;refine zAa ?_;refine zAb [] [7] rfl ?_;intro n2 hn2
 obtain rfl : (o1.length : Int) = n2:=(hn2.trans (congrArg (fun m : Nat=>(m : Int)) (rlen (fun _=>rfl) o1))).symm;show Tri ..;obtain ⟨l6,hl,h⟩:=zAc h;refine zAw ⟨ofL [(3,.orow 1)],ofH [(0,.row 40 5 ((List.map zAf) o1)),(1,.row 40 5 ((List.map zAf) l6))],2⟩ ?_ (fun σ' hle=>?_)
 ·refine zAs (zAX (X:=Nat × Int × (List zRc)) (fun y=>match y with | (k,x4,l5)=>⟨ofL [(3,.orow 1),(6,.orow 0),(7,.s (.int .i64 (o1.length : Int))),(8,.s (.int .i64 x4))],ofH [(0,.row 40 5 ((List.map zAf) o1)),(1,.row 40 5 ((List.map zAf) l5))],2⟩) (fun y=>zAU n o1 y.1 y.2.1 y.2.2 = some l6) (fun y=>y.1) (n,0,[]) hl ?_ ?_)
  ·exact (Le.rnm [(0,0),(1,1)] _ _ _ ⟨rfl,rfl,rfl,rfl,trivial⟩ ⟨rfl,⟨_,rfl,rfl⟩,rfl,⟨_,rfl,rfl⟩,trivial⟩)
  ·rintro ⟨k,x4,l5⟩ h;cases k with
   | zero=>cases h
   | succ k =>
    replace h : zAU n o1 (k+1) x4 l5 = some l6:=h;rw [zAU] at h;refine zAa ?_;refine zAb [] [] rfl ?_;show Tri ..;refine zAa ?_;refine zAg rfl (fun hb=>?_) (fun hb=>?_)
    ·replace h:=zAm hb h;refine zAi ?_;show Tri ..;refine zAa ?_;refine zAs ?_;refine zAa ?_;refine zAb [5] [] rfl ?_;obtain ⟨⟨e7Af,⟨e7Ah,e7Ai⟩,⟨e7Ak,e7Al⟩⟩,he7,h⟩:=zAc h;refine And.intro (zAY (fun _=>rfl) he7).1 ?_;refine And.intro (zAY (fun _=>rfl) he7).2.2 ?_;refine ⟨_,(zAY (fun _=>rfl) he7).2.1,?_⟩
     show Tri ..;refine zAk (Le.giveBox 2 [.sl 8 ((List.map zAj) e7Af),.sl 1 ((List.map (irow .i64)) e7Ah),.sl 1 ((List.map (irow .i64)) e7Ai),.sl 1 ((List.map (irow .i64)) e7Ak),.sl 1 ((List.map (irow .i64)) e7Al)] rfl rfl) ?_;refine zAb [16] [15] rfl ?_;obtain ⟨⟨y8Af,⟨y8Ah,y8Ai⟩,⟨y8Ak,y8Al⟩⟩,hy8,h⟩:=zAc h;refine ⟨_,⟨_,_,_,hy8,rfl,rfl⟩,?_⟩
     intro r9 hr9;obtain rfl : (List.map zAf) [(y8Af,(y8Ah,y8Ai),(y8Ak,y8Al))] = r9:=(hr9.trans (by simp [List.map_append,List.map_take,List.map_drop,irow,brow,zA9,List.map_cons,List.map_nil,zAT,Nd.encs_eq,Nd.enc,zAt,zAq,zAJ,zAr,zAn,zAj,zAy,zAf,zAz])).symm;obtain ⟨hq,h⟩:=zAW h
     refine And.intro (show (((List.map zAf) l5).length + ((List.map zAf) [(y8Af,(y8Ah,y8Ai),(y8Ak,y8Al))]).length) * 120 ≤ 140737488355328 ∧ ((List.map zAf) l5).length + ((List.map zAf) [(y8Af,(y8Ah,y8Ai),(y8Ak,y8Al))]).length ≤ 9223372036854775807 from by simp only [List.length_append,List.length_cons,List.length_nil,List.length_map,rlen (fun _=>rfl)] at hq ⊢; omega) ?_;show Tri ..
     refine zAk (Le.rnm [(0,0),(3,1)] [(3,.orow 1),(6,.orow 0),(7,.s (.int .i64 (o1.length : Int))),(8,.s (.int .i64 x4))] [(0,.row 40 5 ((List.map zAf) o1)),(1,.row 40 5 ((List.map zAf) (l5 ++ [(y8Af,(y8Ah,y8Ai),(y8Ak,y8Al))])))] 2 ⟨rfl,rfl,rfl,rfl,trivial⟩ ⟨rfl,⟨_,rfl,rfl⟩,rfl,⟨_,rfl,congrArg (Ob.row 40 5) (by simp [List.map_append,List.map_take,List.map_drop,irow,brow,zA9,List.map_cons,List.map_nil,zAT,Nd.encs_eq,Nd.enc,zAt,zAq,zAJ,zAr,zAn,zAj,zAy,zAf,zAz])⟩,trivial⟩) ?_
     refine zAb [] [] rfl ?_;refine ⟨(k,IntKind.i64.wrap (x4 + 1),l5 ++ [(y8Af,(y8Ah,y8Ai),(y8Ak,y8Al))]),h,(Le.rnm [(0,0),(1,1)] _ _ _ ⟨rfl,rfl,rfl,rfl,trivial⟩ ⟨rfl,⟨_,rfl,rfl⟩,rfl,⟨_,rfl,rfl⟩,trivial⟩),Nat.lt_succ_self k⟩
    ·replace h:=zAl hb h;refine zBn ?_;cases h;exact (Le.rnm [(0,0),(1,1)] _ _ _ ⟨rfl,trivial⟩ ⟨rfl,⟨_,rfl,rfl⟩,rfl,⟨_,rfl,rfl⟩,trivial⟩)
 ·show Tri ..;refine zAk hle ?_;refine zAa ?_;refine zAb [] [] rfl ?_;show Tri ..;refine zAh ?_;have hy:=Option.some.inj h;subst hy;unfold zCa;exact ⟨_,(Le.rnm [(0,0),(1,1)] [(2,.orow 1)] [(0,.row 40 5 ((List.map zAf) o1)),(1,.row 40 5 ((List.map zAf) l6))] 2 ⟨rfl,trivial⟩ ⟨rfl,⟨_,rfl,rfl⟩,rfl,⟨_,rfl,rfl⟩,trivial⟩),rfl,rfl,rfl,rfl,rfl,rfl,trivial⟩
def zEb (n : Nat) (xs : List AV) (os : List Ob) (x : AV) (os' : List (Option Ob)) : Prop:=∃ (a0H : Int) (a0I : List UInt8) (a0J : Int) (a0K : List Nd) (a0L : Int) (a0M : List UInt8) (a0N : Int) (a0O : List Nd) (a0F : List zRc) (a0E : Int) (y0 : List zRc) (z0H : Int) (z0I : List UInt8) (z0J : Int) (z0K : List Nd) (z0L : Int) (z0M : List UInt8) (z0N : Int) (z0O : List Nd) (z0F : List zRc) (z0E : Int),zBq n (Nd.mk a0H a0I a0J a0K,Nd.mk a0L a0M a0N a0O,a0F,a0E) = some (y0,(Nd.mk z0H z0I z0J z0K,Nd.mk z0L z0M z0N z0O,z0F,z0E)) ∧ xs = [.op 0 0] ∧ os = [.box 57 [.s (.int .i64 a0H),.s (.str a0I),.s (.int .i64 a0J),.s (.sl 4 (Nd.encs a0K)),.s (.int .i64 a0L),.s (.str a0M),.s (.int .i64 a0N),.s (.sl 4 (Nd.encs a0O)),.orow 1,.s (.int .i64 a0E)],.row 40 5 ((List.map zAf) a0F)] ∧ x = .s (.sl 5 ((List.map zAf) y0)) ∧ os' = [some (.box 57 [.s (.int .i64 z0H),.s (.str z0I),.s (.int .i64 z0J),.s (.sl 4 (Nd.encs z0K)),.s (.int .i64 z0L),.s (.str z0M),.s (.int .i64 z0N),.s (.sl 4 (Nd.encs z0O)),.orow 2,.s (.int .i64 z0E)]),none,some (.row 40 5 ((List.map zAf) z0F))]
def zCb : zAo:=zCU (fun xs os x os'=>∃ n,zEb n xs os x os')
theorem zDY : PSound Try.prog 11 zCb:=by
 have gok : ∀ f s,look? f [(28,zDZ)] = some s → PSound Try.prog f s:=zAu (by
  simp only [List.forall_mem_cons]
  exact ⟨zF6,by simp⟩)
 refine PSound.withNil (zHc tokW Try.call11 Try.func11 rfl (fun xs os x os' h=>by obtain ⟨n,_,_,_,_,_,_,_,_,_,_,_,_,_,_,_,_,_,_,_,_,_,_,rfl,rfl,_,rfl⟩:=h; exact ⟨by show 1 ≤ 10; decide,by show 2 ≤ 3; decide⟩) 10 rfl ?_) _;rintro xs os x os' w0 G0 B0 ⟨n,o1H,o1I,o1J,o1K,o1L,o1M,o1N,o1O,o1F,o1E,y0,z0H,z0I,z0J,z0K,z0L,z0M,z0N,z0O,z0F,z0E,h,rfl,rfl,rfl,rfl⟩ _;rw [zBq] at h;refine zAa ?_;refine zAb [] [] rfl ?_;show Tri ..
 refine zAa ?_;refine zAa ?_;refine zAb [] [] rfl ?_;show Tri ..;refine zAg rfl (fun h=>by cases h) (fun _=>?_)
 refine zAi ?_;show Tri ..;refine zAa ?_;refine zAb [] [] rfl ?_;obtain ⟨y2,hy2,h⟩:=zAc h;refine ⟨_,_,⟨_,_,_,hy2,rfl,rfl,rfl,rfl⟩,?_⟩
 show Tri ..;refine zAh ?_;have hj0:=Option.some.inj h;obtain ⟨hv0,hw0⟩:=Prod.mk.inj hj0;subst hv0;obtain ⟨he1R,hr1R⟩:=Prod.mk.inj hw0;obtain ⟨he1S,hr1S⟩:=Prod.mk.inj hr1R;obtain ⟨he1V,he1W⟩:=Prod.mk.inj hr1S;obtain ⟨he2R,he2S,he2V,he2W⟩:=Nd.mk.inj he1R;subst he2R;subst he2S;subst he2V;subst he2W;obtain ⟨he3R,he3S,he3V,he3W⟩:=Nd.mk.inj he1S;subst he3R;subst he3S;subst he3V;subst he3W;subst he1V;subst he1W;unfold zCa
 exact ⟨_,(Le.trans (Le.rnm [(0,0),(1,2),(2,3)] [(2,.orow 3)] [(0,.box 57 [.s (.int .i64 o1H),.s (.str o1I),.s (.int .i64 o1J),.s (.sl 4 (Nd.encs o1K)),.s (.int .i64 o1L),.s (.str o1M),.s (.int .i64 o1N),.s (.sl 4 (Nd.encs o1O)),.orow 2,.s (.int .i64 o1E)]),(2,.row 40 5 ((List.map zAf) o1F)),(3,.row 40 5 ((List.map zAf) y2))] 4 ⟨rfl,trivial⟩ ⟨rfl,⟨_,rfl,rfl⟩,rfl,⟨_,rfl,rfl⟩,rfl,⟨_,rfl,rfl⟩,trivial⟩) (Le.giveRow 3 rfl)),rfl,rfl,rfl,rfl,rfl,rfl,trivial⟩
def zKB (n : Nat) (xs : List AV) (r : Ret) : Prop:=∃ (y0 : Bool),zEG n = some y0 ∧ xs = [] ∧ r = .val (.s (.bool y0))
def zHE : zAo:=zAx fun xs r=>∃ n,zKB n xs r
theorem zKg : PSound Try.prog 5 zHE:=by
 have gok : ∀ f s,look? f [(9,zGk),(10,zC6),(12,zCB),(16,zCC),(11,zCb)] = some s → PSound Try.prog f s:=zAu (by
  simp only [List.forall_mem_cons]
  exact ⟨zIv,zFh,zEK,zEL,zDY,by simp⟩)
 refine zAB tokW Try.call5 Try.func5 rfl (fun xs r h=>by obtain ⟨n,_,_,rfl,_⟩:=h; show 0 ≤ 57; decide) 57 rfl ?_;rintro xs r w0 G0 ⟨n,y0,h,rfl,rfl⟩ _;rw [zEG] at h;refine zAa ?_;refine zAb [] [] rfl ?_;show Tri ..;refine zAa ?_;refine zAb [] [] rfl ?_;obtain ⟨⟨y1,y2⟩,hy1,h⟩:=zAc h;cases y1 with
 | none =>
  obtain ⟨hq,h⟩:=zAW h;subst hq;refine ⟨_,_,⟨_,_,_,_,hy1,rfl,rfl,rfl,rfl⟩,?_⟩
  show Tri ..;refine zAk (Le.rnm [] [(1,.s (.np)),(2,.s (.int .i64 1))] [] 0 ⟨rfl,rfl,trivial⟩ trivial) ?_;refine zAa ?_;refine zAa ?_;refine zAb [] [] rfl ?_;show Tri ..;refine zAg rfl (fun _=>?_) (fun h=>by cases h)
  refine zAa ?_;refine zAb [] [] rfl ?_;show Tri ..;refine zAh ?_;have hy:=Option.some.inj h;subst hy;unfold zAv;exact ⟨_,Le.refl _ _,rfl,rfl⟩
 | some w3 =>
  obtain ⟨⟨w3H,w3I,w3J,w3K⟩,⟨w3L,w3M,w3N,w3O⟩,w3F,w3E⟩:=w3;obtain ⟨hq,h⟩:=zAW h;subst hq;refine ⟨_,_,⟨_,_,_,_,hy1,rfl,rfl,rfl,rfl⟩,?_⟩
  show Tri ..;refine zAk (Le.rnm [(0,0),(1,1)] [(1,.op 0 0),(2,.s (.int .i64 0))] [(0,.box 57 [.s (.int .i64 w3H),.s (.str w3I),.s (.int .i64 w3J),.s (.sl 4 (Nd.encs w3K)),.s (.int .i64 w3L),.s (.str w3M),.s (.int .i64 w3N),.s (.sl 4 (Nd.encs w3O)),.orow 1,.s (.int .i64 w3E)]),(1,.row 40 5 ((List.map zAf) w3F))] 2 ⟨rfl,rfl,trivial⟩ ⟨rfl,⟨_,rfl,rfl⟩,rfl,⟨_,rfl,rfl⟩,trivial⟩) ?_;refine zAa ?_;refine zAa ?_;refine zAb [] [] rfl ?_;show Tri ..;refine zAg rfl (fun h=>by cases h) (fun _=>?_)
  refine zAi ?_;show Tri ..;refine zAa ?_;refine zAb [] [20,22] rfl ?_;intro r4 hr4;obtain rfl : Nd.encs [Nd.mk 2 [120] 0 []] = r4:=(hr4.trans (by simp [List.map_append,List.map_take,List.map_drop,irow,brow,zA9,List.map_cons,List.map_nil,zAT,Nd.encs_eq,Nd.enc,zAt,zAq,zAJ,zAr,zAn,zAj,zAy,zAf,zAz])).symm;intro r5 hr5
  obtain rfl : (List.map zAj) [(1,[],0,0,[Nd.mk 2 [120] 0 []],0,[],[])] = r5:=(hr5.trans (by simp [List.map_append,List.map_take,List.map_drop,irow,brow,zA9,List.map_cons,List.map_nil,zAT,Nd.encs_eq,Nd.enc,zAt,zAq,zAJ,zAr,zAn,zAj,zAy,zAf,zAz])).symm;obtain ⟨⟨y6,⟨⟨w7H,w7I,w7J,w7K⟩,⟨w7L,w7M,w7N,w7O⟩,w7F,w7E⟩⟩,hy6,h⟩:=zAc h;refine ⟨_,_,⟨_,_,_,_,_,_,_,_,_,_,_,_,_,_,_,_,_,_,_,_,_,_,_,hy6,rfl,rfl,rfl,rfl⟩,?_⟩
  show Tri ..;refine zAk (Le.rnm [(0,0),(2,1)] [(1,.op 0 0),(3,.s (.int .i64 y6))] [(0,.box 57 [.s (.int .i64 w7H),.s (.str w7I),.s (.int .i64 w7J),.s (.sl 4 (Nd.encs w7K)),.s (.int .i64 w7L),.s (.str w7M),.s (.int .i64 w7N),.s (.sl 4 (Nd.encs w7O)),.orow 1,.s (.int .i64 w7E)]),(1,.row 40 5 ((List.map zAf) w7F))] 2 ⟨rfl,rfl,trivial⟩ ⟨rfl,⟨_,rfl,rfl⟩,rfl,⟨_,rfl,rfl⟩,trivial⟩) ?_;refine zAa ?_;refine zAb [] [28] rfl ?_
  obtain ⟨⟨⟨y8A,y8B,y8D,y8C⟩,⟨⟨w9H,w9I,w9J,w9K⟩,⟨w9L,w9M,w9N,w9O⟩,w9F,w9E⟩⟩,hy8,h⟩:=zAc h;refine ⟨_,_,⟨_,_,_,_,_,_,_,_,_,_,_,_,_,_,_,_,_,_,_,_,_,hy8,rfl,rfl,rfl,rfl⟩,?_⟩
  intro n10 hn10;obtain rfl : (y8C.length : Int) = n10:=(hn10.trans (congrArg (fun m : Nat=>(m : Int)) (rlen Nd.encs_eq y8C))).symm;show Tri ..
  refine zAk (Le.rnm [(0,0),(2,1)] [(1,.op 0 0),(3,.s (.int .i64 y6)),(4,.s (.int .i64 (y8C.length : Int)))] [(0,.box 57 [.s (.int .i64 w9H),.s (.str w9I),.s (.int .i64 w9J),.s (.sl 4 (Nd.encs w9K)),.s (.int .i64 w9L),.s (.str w9M),.s (.int .i64 w9N),.s (.sl 4 (Nd.encs w9O)),.orow 1,.s (.int .i64 w9E)]),(1,.row 40 5 ((List.map zAf) w9F))] 2 ⟨rfl,rfl,rfl,trivial⟩ ⟨rfl,⟨_,rfl,rfl⟩,rfl,⟨_,rfl,rfl⟩,trivial⟩) ?_;refine zAa ?_;refine zAb [5] [] rfl ?_
  obtain ⟨⟨⟨y11Am,y11An⟩,y12,⟨⟨w13H,w13I,w13J,w13K⟩,⟨w13L,w13M,w13N,w13O⟩,w13F,w13E⟩⟩,hy11,h⟩:=zAc h;refine ⟨_,_,⟨_,_,_,_,_,_,_,_,_,_,_,_,_,_,_,_,_,_,_,_,_,_,_,hy11,rfl,rfl,rfl,rfl⟩,?_⟩
  show Tri ..;refine zAk (Le.giveBox 3 [.sl 1 ((List.map (irow .i64)) y11Am),.sl 1 ((List.map (irow .i64)) y11An)] rfl rfl) ?_;refine zAa ?_;obtain ⟨x14,hj,h⟩:=zAc h;refine zAw ⟨ofL [(0,.s (.bool x14))],fun _=>none,0⟩ ?_ (fun σ' hle=>?_)
  ·replace h:=hj;refine zAb [] [36,40,44,48,51,54] rfl ?_;intro b hb;cases b with
   | true =>
    replace h:=zAm hb.symm h;intro b hb;cases b with
    | true =>
     replace h:=zAm hb.symm h;intro b hb;cases b with
     | true =>
      replace h:=zAm hb.symm h;obtain ⟨⟨⟨y15A,y15B,y15D,y15C⟩,⟨⟨w16H,w16I,w16J,w16K⟩,⟨w16L,w16M,w16N,w16O⟩,w16F,w16E⟩⟩,hy15,h⟩:=zAc h;refine ⟨_,_,⟨_,_,_,_,_,_,_,_,_,_,_,_,_,_,_,_,_,_,_,_,_,hy15,rfl,rfl,rfl,rfl⟩,?_⟩
      intro n17 hn17;obtain rfl : (y15C.length : Int) = n17:=(hn17.trans (congrArg (fun m : Nat=>(m : Int)) (rlen Nd.encs_eq y15C))).symm;intro b hb;cases b with
      | true =>
       replace h:=zAm hb.symm h;obtain ⟨⟨y18,⟨⟨w19H,w19I,w19J,w19K⟩,⟨w19L,w19M,w19N,w19O⟩,w19F,w19E⟩⟩,hy18,h⟩:=zAc h;refine ⟨_,_,⟨_,_,_,_,_,_,_,_,_,_,_,_,_,_,_,_,_,_,_,_,_,_,hy18,rfl,rfl,rfl,rfl⟩,?_⟩
       intro n20 hn20;obtain rfl : (y18.length : Int) = n20:=(hn20.trans (congrArg (fun m : Nat=>(m : Int)) (rlen (fun _=>rfl) y18))).symm;cases h;exact (Le.trans (Le.rnm [] [(0,.s (.bool ((y18.length : Int) == 1)))] [] 0 ⟨rfl,trivial⟩ trivial) (Le.forget _ ⟨rfl,trivial⟩))
      | false =>
       replace h:=zAl hb.symm h;cases h;exact (Le.trans (Le.rnm [] [(0,.s (.bool false))] [] 0 ⟨rfl,trivial⟩ trivial) (Le.forget _ ⟨rfl,trivial⟩))
     | false =>
      replace h:=zAl hb.symm h;intro b hb;subst hb;cases h;exact (Le.trans (Le.rnm [] [(0,.s (.bool false))] [] 0 ⟨rfl,trivial⟩ trivial) (Le.forget _ ⟨rfl,trivial⟩))
    | false =>
     replace h:=zAl hb.symm h;intro b hb;subst hb;intro b hb;subst hb;cases h;exact (Le.trans (Le.rnm [] [(0,.s (.bool false))] [] 0 ⟨rfl,trivial⟩ trivial) (Le.forget _ ⟨rfl,trivial⟩))
   | false =>
    replace h:=zAl hb.symm h;intro b hb;subst hb;intro b hb;subst hb;intro b hb;subst hb;cases h;exact (Le.trans (Le.rnm [] [(0,.s (.bool false))] [] 0 ⟨rfl,trivial⟩ trivial) (Le.forget _ ⟨rfl,trivial⟩))
  ·show Tri ..;refine zAk hle ?_;refine zAh ?_;have hy:=Option.some.inj h;subst hy;unfold zAv;exact ⟨_,Le.refl _ _,rfl,rfl⟩
def zEm (xs : List AV) (r : Ret) : Prop:=∃ (a0 : zRc) (y0 : Int),zBt a0 = some y0 ∧ xs = [.s (.np),.agg ((zAf a0).map .s)] ∧ r = .val (.s (.int .i64 y0))
def zCk : zAo:=zAx fun xs r=>zEm xs r
theorem zEh : PSound Try.prog 10 zCk:=by
 have gok : ∀ (f : Nat) (s : zAo),(fun _=>none : Nat → Option zAo) f = some s → PSound Try.prog f s:=fun _ _ h=>by cases h
 refine zAB tokW Try.call10 Try.func10 rfl (fun xs r h=>by obtain ⟨_,_,_,rfl,_⟩:=h; show 2 ≤ 57; decide) 57 rfl ?_;rintro xs r w0 G0 ⟨⟨r1Af,⟨r1Ah,r1Ai⟩,⟨r1Ak,r1Al⟩⟩,y0,h,rfl,rfl⟩ _;rw [zBt] at h;refine zAa ?_;refine zAb [] [] rfl ?_;show Tri ..;refine zAa ?_;refine zAa ?_;refine zAb [] [] rfl ?_;show Tri ..;refine zAg rfl (fun _=>?_) (fun h=>by cases h)
 refine zAa ?_;refine zAb [] [] rfl ?_;show Tri ..;refine zAh ?_;have hy:=Option.some.inj h;subst hy;unfold zAv;exact ⟨_,Le.refl _ _,rfl,rfl⟩
def zDU (xs : List AV) (r : Ret) : Prop:=∃ (y0 : zCu) (y1 : Int),zBg = some (y0,y1) ∧ xs = [.s (.np)] ∧ r = .val (.tup [.agg ((zAy y0).map .s),.s (.int .i64 y1)])
def zB3 : zAo:=zAx fun xs r=>zDU xs r
theorem zDL : PSound Try.prog 16 zB3:=by
 have gok : ∀ (f : Nat) (s : zAo),(fun _=>none : Nat → Option zAo) f = some s → PSound Try.prog f s:=fun _ _ h=>by cases h
 refine zAB tokW Try.call16 Try.func16 rfl (fun xs r h=>by obtain ⟨_,_,_,rfl,_⟩:=h; show 1 ≤ 59; decide) 59 rfl ?_;rintro xs r w0 G0 ⟨y0,y1,h,rfl,rfl⟩ _;rw [zBg] at h;refine zAa ?_;refine zAb [2] [] rfl ?_;show Tri ..;refine zAa ?_;refine zAa ?_;refine zAb [] [] rfl ?_;show Tri ..;refine zAg rfl (fun _=>?_) (fun h=>by cases h)
 refine zAa ?_;refine zAb [] [] rfl ?_;show Tri ..;refine zAh ?_;obtain ⟨hj1,hk1⟩:=Prod.mk.inj (Option.some.inj h)
 subst hj1;subst hk1;unfold zAv;exact ⟨_,Le.refl _ _,rfl,rfl⟩
def zDR (xs : List AV) (r : Ret) : Prop:=∃ (y0 : zCu) (y1 : Int),zBd = some (y0,y1) ∧ xs = [.s (.np)] ∧ r = .val (.tup [.agg ((zAy y0).map .s),.s (.int .i64 y1)])
def zB0 : zAo:=zAx fun xs r=>zDR xs r
theorem zDI : PSound Try.prog 17 zB0:=by
 have gok : ∀ (f : Nat) (s : zAo),(fun _=>none : Nat → Option zAo) f = some s → PSound Try.prog f s:=fun _ _ h=>by cases h
 refine zAB tokW Try.call17 Try.func17 rfl (fun xs r h=>by obtain ⟨_,_,_,rfl,_⟩:=h; show 1 ≤ 62; decide) 62 rfl ?_;rintro xs r w0 G0 ⟨y0,y1,h,rfl,rfl⟩ _;rw [zBd] at h;refine zAa ?_;refine zAb [2] [] rfl ?_;show Tri ..;refine zAa ?_;refine zAa ?_;refine zAb [] [] rfl ?_;show Tri ..;refine zAg rfl (fun _=>?_) (fun h=>by cases h)
 refine zAa ?_;refine zAb [] [] rfl ?_;show Tri ..;refine zAh ?_;obtain ⟨hj1,hk1⟩:=Prod.mk.inj (Option.some.inj h)
 subst hj1;subst hk1;unfold zAv;exact ⟨_,Le.refl _ _,rfl,rfl⟩
def zDT (xs : List AV) (r : Ret) : Prop:=∃ (y0 : Nd),zBf = some y0 ∧ xs = [.s (.np)] ∧ r = .val (.agg ((Nd.enc y0).map .s))
def zB2 : zAo:=zAx fun xs r=>zDT xs r
theorem zDK : PSound Try.prog 12 zB2:=by
 have gok : ∀ (f : Nat) (s : zAo),(fun _=>none : Nat → Option zAo) f = some s → PSound Try.prog f s:=fun _ _ h=>by cases h
 refine zAB tokW Try.call12 Try.func12 rfl (fun xs r h=>by obtain ⟨_,_,rfl,_⟩:=h; show 1 ≤ 11; decide) 11 rfl ?_;rintro xs r w0 G0 ⟨y0,h,rfl,rfl⟩ _;rw [zBf] at h;refine zAa ?_;refine zAb [2] [] rfl ?_;show Tri ..;refine zAa ?_;refine zAa ?_;refine zAb [] [] rfl ?_;show Tri ..;refine zAg rfl (fun _=>?_) (fun h=>by cases h)
 refine zAa ?_;refine zAb [] [] rfl ?_;show Tri ..;refine zAh ?_;have hy:=Option.some.inj h;subst hy;unfold zAv;exact ⟨_,Le.refl _ _,rfl,rfl⟩
def zC9 (xs : List AV) (r : Ret) : Prop:=∃ (y0 : Nd),zA3 = some y0 ∧ xs = [.s (.np)] ∧ r = .val (.agg ((Nd.enc y0).map .s))
def zBG : zAo:=zAx fun xs r=>zC9 xs r
theorem zC0 : PSound Try.prog 15 zBG:=by
 have gok : ∀ (f : Nat) (s : zAo),(fun _=>none : Nat → Option zAo) f = some s → PSound Try.prog f s:=fun _ _ h=>by cases h
 refine zAB tokW Try.call15 Try.func15 rfl (fun xs r h=>by obtain ⟨_,_,rfl,_⟩:=h; show 1 ≤ 11; decide) 11 rfl ?_;rintro xs r w0 G0 ⟨y0,h,rfl,rfl⟩ _;rw [zA3] at h;refine zAa ?_;refine zAb [2] [] rfl ?_;show Tri ..;refine zAa ?_;refine zAa ?_;refine zAb [] [] rfl ?_;show Tri ..;refine zAg rfl (fun _=>?_) (fun h=>by cases h)
 refine zAa ?_;refine zAb [] [] rfl ?_;show Tri ..;refine zAh ?_;have hy:=Option.some.inj h;subst hy;unfold zAv;exact ⟨_,Le.refl _ _,rfl,rfl⟩
def zDQ (xs : List AV) (r : Ret) : Prop:=∃ (y0 : Int),zBc = some y0 ∧ xs = [.s (.np)] ∧ r = .val (.s (.int .i64 y0))
def zBZ : zAo:=zAx fun xs r=>zDQ xs r
theorem zDH : PSound Try.prog 19 zBZ:=by
 have gok : ∀ (f : Nat) (s : zAo),(fun _=>none : Nat → Option zAo) f = some s → PSound Try.prog f s:=fun _ _ h=>by cases h
 refine zAB tokW Try.call19 Try.func19 rfl (fun xs r h=>by obtain ⟨_,_,rfl,_⟩:=h; show 1 ≤ 9; decide) 9 rfl ?_;rintro xs r w0 G0 ⟨y0,h,rfl,rfl⟩ _;rw [zBc] at h;refine zAa ?_;refine zAb [] [] rfl ?_;show Tri ..;refine zAa ?_;refine zAa ?_;refine zAb [] [] rfl ?_;show Tri ..;refine zAg rfl (fun _=>?_) (fun h=>by cases h)
 refine zAa ?_;refine zAb [] [] rfl ?_;show Tri ..;refine zAh ?_;have hy:=Option.some.inj h;subst hy;unfold zAv;exact ⟨_,Le.refl _ _,rfl,rfl⟩
def zCX (xs : List AV) (r : Ret) : Prop:=∃ (y0 : List zRc),zA1 = some y0 ∧ xs = [.s (.np)] ∧ r = .val (.s (.sl 5 ((List.map zAf) y0)))
def zBy : zAo:=zAx fun xs r=>zCX xs r
theorem zCT : PSound Try.prog 11 zBy:=by
 have gok : ∀ (f : Nat) (s : zAo),(fun _=>none : Nat → Option zAo) f = some s → PSound Try.prog f s:=fun _ _ h=>by cases h
 refine zAB tokW Try.call11 Try.func11 rfl (fun xs r h=>by obtain ⟨_,_,rfl,_⟩:=h; show 1 ≤ 10; decide) 10 rfl ?_;rintro xs r w0 G0 ⟨y0,h,rfl,rfl⟩ _;rw [zA1] at h;refine zAa ?_;refine zAb [] [] rfl ?_;show Tri ..;refine zAa ?_;refine zAa ?_;refine zAb [] [] rfl ?_;show Tri ..;refine zAg rfl (fun _=>?_) (fun h=>by cases h)
 refine zAa ?_;refine zAb [] [] rfl ?_;show Tri ..;refine zAh ?_;have hy:=Option.some.inj h;subst hy;unfold zAv;exact ⟨_,Le.refl _ _,rfl,rfl⟩
def zDS (xs : List AV) (r : Ret) : Prop:=∃ (a0 : Int) (y0 : Int),zBe a0 = some y0 ∧ xs = [.s (.np),.s (.int .i64 a0)] ∧ r = .val (.s (.int .i64 y0))
def zB1 : zAo:=zAx fun xs r=>zDS xs r
theorem zDJ : PSound Try.prog 18 zB1:=by
 have gok : ∀ (f : Nat) (s : zAo),(fun _=>none : Nat → Option zAo) f = some s → PSound Try.prog f s:=fun _ _ h=>by cases h
 refine zAB tokW Try.call18 Try.func18 rfl (fun xs r h=>by obtain ⟨_,_,_,rfl,_⟩:=h; show 2 ≤ 50; decide) 50 rfl ?_;rintro xs r w0 G0 ⟨done1,y0,h,rfl,rfl⟩ _;rw [zBe] at h;refine zAa ?_;refine zAb [] [] rfl ?_;show Tri ..;refine zAa ?_;refine zAa ?_;refine zAb [] [] rfl ?_;show Tri ..;refine zAg rfl (fun _=>?_) (fun h=>by cases h)
 refine zAa ?_;refine zAb [] [] rfl ?_;show Tri ..;refine zAh ?_;have hy:=Option.some.inj h;subst hy;unfold zAv;exact ⟨_,Le.refl _ _,rfl,rfl⟩
def zHl (n : Nat) (xs : List AV) (r : Ret) : Prop:=∃ (a0 : zRc) (a1 : Int) (y0 : Bool),zCe n a0 a1 = some y0 ∧ xs = [.agg ((zAf a0).map .s),.s (.int .i64 a1)] ∧ r = .val (.s (.bool y0))
def zHm : zAo:=zAx fun xs r=>∃ n,zHl n xs r
theorem zGQ : PSound Try.prog 4 zHm:=by
 have gok : ∀ f s,look? f [(16,zB3),(17,zB0),(5,zHE),(10,zCk),(18,zB1),(12,zB2),(14,zHH),(15,zBG),(19,zBZ),(11,zBy)] = some s → PSound Try.prog f s:=zAu (by
  simp only [List.forall_mem_cons]
  exact ⟨zDL,zDI,zKg,zEh,zDJ,zDK,zKj,zC0,zDH,zCT,by simp⟩)
 refine zAB tokW Try.call4 Try.func4 rfl (fun xs r h=>by obtain ⟨n,_,_,_,_,rfl,_⟩:=h; show 2 ≤ 64; decide) 64 rfl ?_;rintro xs r w0 G0 ⟨n,⟨r1Af,⟨r1Ah,r1Ai⟩,⟨r1Ak,r1Al⟩⟩,n2,y0,h,rfl,rfl⟩ _;rw [zCe] at h;refine zAa ?_;refine zAb [] [] rfl ?_;show Tri ..;refine zAa ?_;refine zAb [] [] rfl ?_;show Tri ..;refine zAa ?_;refine zAb [6] [] rfl ?_;obtain ⟨⟨⟨y3Am,y3An⟩,y4⟩,hy3,h⟩:=zAc h;refine ⟨_,⟨_,_,hy3,rfl,rfl⟩,?_⟩
 show Tri ..;refine zAk (Le.giveBox 0 [.sl 1 ((List.map (irow .i64)) y3Am),.sl 1 ((List.map (irow .i64)) y3An)] rfl rfl) ?_;refine zAa ?_;refine zAb [8] [] rfl ?_;obtain ⟨⟨⟨y5Am,y5An⟩,y6⟩,hy5,h⟩:=zAc h;refine ⟨_,⟨_,_,hy5,rfl,rfl⟩,?_⟩
 show Tri ..;refine zAk (Le.giveBox 1 [.sl 1 ((List.map (irow .i64)) y5Am),.sl 1 ((List.map (irow .i64)) y5An)] rfl rfl) ?_;refine zAa ?_;obtain ⟨x7,hj,h⟩:=zAc h;refine zAw ⟨ofL [(4,.s (.bool x7))],fun _=>none,0⟩ ?_ (fun σ' hle=>?_)
 ·replace h:=hj;refine zAb [] [21,27,31,35,41,47,53,58,61] rfl ?_;obtain ⟨y8,hy8,h⟩:=zAc h;refine ⟨_,⟨_,_,hy8,rfl,rfl⟩,?_⟩
  intro b hb;cases b with
  | true =>
   replace h:=zAm hb.symm h;obtain ⟨y9,hy9,h⟩:=zAc h;refine ⟨_,⟨_,_,hy9,rfl,rfl⟩,?_⟩
   intro b hb;cases b with
   | true =>
    replace h:=zAm hb.symm h;intro b hb;cases b with
    | true =>
     replace h:=zAm hb.symm h;intro b hb;cases b with
     | true =>
      replace h:=zAm hb.symm h;obtain ⟨y10,hy10,h⟩:=zAc h;refine ⟨_,⟨_,_,hy10,rfl,rfl⟩,?_⟩
      intro b hb;cases b with
      | true =>
       replace h:=zAm hb.symm h;obtain ⟨⟨y11A,y11B,y11D,y11C⟩,hy11,h⟩:=zAc h;refine ⟨_,⟨_,hy11,rfl,rfl⟩,?_⟩
       obtain ⟨y12,hy12,h⟩:=zAc h;refine ⟨_,⟨_,_,_,_,hy12,rfl,rfl⟩,?_⟩
       intro b hb;cases b with
       | true =>
        replace h:=zAm hb.symm h;obtain ⟨⟨y13A,y13B,y13D,y13C⟩,hy13,h⟩:=zAc h;refine ⟨_,⟨_,hy13,rfl,rfl⟩,?_⟩
        obtain ⟨y14,hy14,h⟩:=zAc h;refine ⟨_,⟨_,_,_,_,hy14,rfl,rfl⟩,?_⟩
        intro b hb;cases b with
        | true =>
         replace h:=zAm hb.symm h;obtain ⟨y15,hy15,h⟩:=zAc h;refine ⟨_,⟨_,hy15,rfl,rfl⟩,?_⟩
         intro b hb;cases b with
         | true =>
          replace h:=zAm hb.symm h;obtain ⟨y16,hy16,h⟩:=zAc h;refine ⟨_,⟨_,hy16,rfl,rfl⟩,?_⟩
          intro n17 hn17;obtain rfl : (y16.length : Int) = n17:=(hn17.trans (congrArg (fun m : Nat=>(m : Int)) (rlen (fun _=>rfl) y16))).symm;cases h;exact (Le.trans (Le.rnm [] [(4,.s (.bool ((y16.length : Int) == 0)))] [] 0 ⟨rfl,trivial⟩ trivial) (Le.forget _ ⟨rfl,trivial⟩))
         | false =>
          replace h:=zAl hb.symm h;cases h;exact (Le.trans (Le.rnm [] [(4,.s (.bool false))] [] 0 ⟨rfl,trivial⟩ trivial) (Le.forget _ ⟨rfl,trivial⟩))
        | false =>
         replace h:=zAl hb.symm h;intro b hb;subst hb;cases h;exact (Le.trans (Le.rnm [] [(4,.s (.bool false))] [] 0 ⟨rfl,trivial⟩ trivial) (Le.forget _ ⟨rfl,trivial⟩))
       | false =>
        replace h:=zAl hb.symm h;intro b hb;subst hb;intro b hb;subst hb;cases h;exact (Le.trans (Le.rnm [] [(4,.s (.bool false))] [] 0 ⟨rfl,trivial⟩ trivial) (Le.forget _ ⟨rfl,trivial⟩))
      | false =>
       replace h:=zAl hb.symm h;intro b hb;subst hb;intro b hb;subst hb;intro b hb;subst hb;cases h;exact (Le.trans (Le.rnm [] [(4,.s (.bool false))] [] 0 ⟨rfl,trivial⟩ trivial) (Le.forget _ ⟨rfl,trivial⟩))
     | false =>
      replace h:=zAl hb.symm h;intro b hb;subst hb;intro b hb;subst hb;intro b hb;subst hb;intro b hb;subst hb;cases h;exact (Le.trans (Le.rnm [] [(4,.s (.bool false))] [] 0 ⟨rfl,trivial⟩ trivial) (Le.forget _ ⟨rfl,trivial⟩))
    | false =>
     replace h:=zAl hb.symm h;intro b hb;subst hb;intro b hb;subst hb;intro b hb;subst hb;intro b hb;subst hb;intro b hb;subst hb;cases h;exact (Le.trans (Le.rnm [] [(4,.s (.bool false))] [] 0 ⟨rfl,trivial⟩ trivial) (Le.forget _ ⟨rfl,trivial⟩))
   | false =>
    replace h:=zAl hb.symm h;intro b hb;subst hb;intro b hb;subst hb;intro b hb;subst hb;intro b hb;subst hb;intro b hb;subst hb;intro b hb;subst hb;cases h;exact (Le.trans (Le.rnm [] [(4,.s (.bool false))] [] 0 ⟨rfl,trivial⟩ trivial) (Le.forget _ ⟨rfl,trivial⟩))
  | false =>
   replace h:=zAl hb.symm h;intro b hb;subst hb;intro b hb;subst hb;intro b hb;subst hb;intro b hb;subst hb;intro b hb;subst hb;intro b hb;subst hb;intro b hb;subst hb;cases h;exact (Le.trans (Le.rnm [] [(4,.s (.bool false))] [] 0 ⟨rfl,trivial⟩ trivial) (Le.forget _ ⟨rfl,trivial⟩))
 ·show Tri ..;refine zAk hle ?_;refine zAh ?_;have hy:=Option.some.inj h;subst hy;unfold zAv;exact ⟨_,Le.refl _ _,rfl,rfl⟩
end Go.Proofs.Ytffhjiplcfncdaa
namespace Go.Proofs.Ytffhjiplcfncdaa
open Go.Abs
theorem zK3 {n t : Nat} {ss : List S} (h : Typed T n 22 ss) : ∃ l : List Nd,ss = [.sl 4 (Nd.encs l)] ∧ Nd.rngs l:=by
 obtain ⟨m,rows,rfl,rfl,_,hr⟩:=zEP (T:=T) (e:=24) rfl rfl h;obtain ⟨ks,rfl,hks⟩:=zHJ (f:=Nd.enc) (q:=Nd.rng) (l:=rows) fun r hr'=>zLN (T:=T) (e:=24) (s:=22) (ki:=3) (st:=9) rfl rfl rfl rfl rfl rfl rfl rfl rfl m (hr r hr')
 exact ⟨ks,by rw [Nd.encs_eq]; rfl,Nd.rngAll hks⟩
theorem zM6 {n : Nat} {ss : List S} (h : Typed T n 35 ss) : ∃ o : zO8,ss = zAj o ∧ True:=by
 obtain ⟨m,rfl,a0,q0,rfl,u0,a1,q1,rfl,u1,a2,q2,rfl,u2,a3,q3,rfl,u3,a4,q4,rfl,u4,a5,q5,rfl,u5,a6,q6,rfl,u6,a7,q7,rfl,u7,rfl⟩:=zD8 (T:=T) (t:=35) rfl rfl h;obtain ⟨x0,rfl,_⟩:=zCW (T:=T) (k:=.i64) rfl rfl u0;obtain ⟨x1,rfl,_⟩:=zI2 (T:=T) (k:=.i64) (e:=3) rfl rfl rfl rfl u1;obtain ⟨x2,rfl,_⟩:=zCW (T:=T) (k:=.i64) rfl rfl u2;obtain ⟨x3,rfl,_⟩:=zCW (T:=T) (k:=.i64) rfl rfl u3;obtain ⟨x4,rfl,_⟩:=zK3 (t:=0) u4;obtain ⟨x5,rfl,_⟩:=zCW (T:=T) (k:=.i64) rfl rfl u5;obtain ⟨x6,rfl,_⟩:=zIk (T:=T) rfl rfl u6;obtain ⟨x7,rfl,_⟩:=zIk (T:=T) rfl rfl u7
 exact ⟨(x0,x1,x2,x3,x4,x5,x6,x7),rfl,trivial⟩
theorem zMu {n : Nat} {ss : List S} (h : Typed T n 36 ss) : ∃ l : List zO8,ss = [.sl 8 (l.map zAj)]:=by
 obtain ⟨m,rows,rfl,rfl,_,hr⟩:=zEP (T:=T) (e:=35) rfl rfl h;obtain ⟨ks,rfl,hks⟩:=zHJ (f:=zAj) (q:=fun _=>True) (l:=rows) fun r hr'=>zM6 (hr r hr')
 exact ⟨ks,rfl⟩
theorem zI3 {n : Nat} {ss : List S} (h : Typed T n 33 ss) : ∃ l : List Int,ss = [.sl 1 (l.map fun z=>[.int .i64 z])] ∧ True:=by
 obtain ⟨x,rfl,_⟩:=zI2 (T:=T) (k:=.i64) (e:=3) rfl rfl rfl rfl h;exact ⟨x,rfl,trivial⟩
end Go.Proofs.Ytffhjiplcfncdaa
namespace Go.Proofs.Ytffhjiplcfncdaa
open Go.Abs
theorem zHg {n : Nat} {ss : List S} (h : Typed T n 38 ss) : ∃ c : List Int × List Int,ss = [.sl 1 (c.1.map (irow .i64)),.sl 1 (c.2.map (irow .i64))]:=by
 obtain ⟨m,rfl,a0,q0,rfl,u0,a1,q1,rfl,u1,rfl⟩:=zD8 (T:=T) (t:=38) rfl rfl h;obtain ⟨x0,rfl,_⟩:=zI3 u0;obtain ⟨x1,rfl,_⟩:=zI3 u1;exact ⟨(x0,x1),rfl⟩
theorem zKv {n : Nat} {ss : List S} (h : Typed T n 40 ss) : ∃ r : List zO8 × zCu × zCu,ss = zAf r:=by
 obtain ⟨m,rfl,a0,q0,rfl,u0,a1,q1,rfl,u1,a2,q2,rfl,u2,rfl⟩:=zD8 (T:=T) (t:=40) rfl rfl h;obtain ⟨x0,rfl⟩:=zMu u0;obtain ⟨x1,rfl⟩:=zHg u1;obtain ⟨x2,rfl⟩:=zHg u2;exact ⟨(x0,x1,x2),rfl⟩
end Go.Proofs.Ytffhjiplcfncdaa
namespace Go.Proofs.Ytffhjiplcfncdaa
open Go.Abs
theorem zLo (k : Nat) : zEG (k + 60) = some true:=by
 with_unfolding_all rfl
end Go.Proofs.Ytffhjiplcfncdaa
namespace Go.Proofs.Ytffhjiplcfncdaa
open Go.Abs
theorem zI6 (r : List zO8 × zCu × zCu) (x : Int) : zCe (0 + 60) r x = some true:=by
 have h:=zLo 0;obtain ⟨a,⟨b1,b2⟩,⟨c1,c2⟩⟩:=r;unfold zCe;rw [h]
 rfl
end Go.Proofs.Ytffhjiplcfncdaa
