/-
  HistoryNil: for all arguments whose readings are of bulk at most 1048576, the law returns true and its arguments read as before.
-/
import Derived.Test.YtffhjiplcfncdaaZd
set_option linter.unusedVariables false
namespace Go.Proofs.Ytffhjiplcfncdaa.historyNil
open Go.Abs Go.ChangeShapes Go.WideShapes Go.RowKit
theorem own : ownKnob Try.prog.godebug = none:=by kernel_rfl
set_option maxRecDepth 100000 in
theorem lifted (os : Os) (started : os.Started) (H : Type) (enc : TypeId × Value → H) (F : Stop.Interp) :
  ReturnsInHanded {} Try.checked os 4 .any ((Rows.OpenSpec.upto Rows.historyNilSpec).pre6 enc Try.prog Try.f4 Rows.historyNilUptoRow.domain false) (((Rows.OpenSpec.upto Rows.historyNilSpec).at F).post enc Try.prog Try.f4 false true false false):=by
 refine returnsInHanded_of_cond (C:=Try.checked) (s:=Rows.OpenSpec.upto Rows.historyNilSpec) (k:=Rows.uptoSmall) rfl own started (by kernel_rfl) Try.func4
  (OpenSpec.witness (enc:=enc) (C:=Try.checked) (s:=Rows.OpenSpec.upto Rows.historyNilSpec) (k:=Rows.uptoSmall) rfl false ⟨#[],#[.agg #[.slice none 0 0,.slice none 0 0,.slice none 0 0,.slice none 0 0,.slice none 0 0],.int .i64 0],[]⟩ 8 (by kernel_rfl) (by kernel_rfl) (by kernel_rfl)
   (x:=([.agg [.nil,.agg [.nil,.nil],.agg [.nil,.nil]],.lit (.int .i64 0)],[],[])) (by kernel_rfl) rfl (by kernel_rfl)) ?_
 intro W base args' ds gs before hval hW _ hk _;refine zJ6 (s:=Rows.historyNilSpec) (fn:=Try.f4) tok tcl (by kernel_rfl) zGQ rfl ?_ rfl Try.underlying4 ?_ ?_ W base args' ds gs before hval hW hk (F:=F)
 ·intro t ht;have : t = 40 ∨ t = 3 :=(by simpa [Try.params4] using ht);rcases this with rfl | rfl
  ·exact ⟨rfl,by kernel_rfl,of_decide_eq_true (by kernel_rfl)⟩
  ·exact ⟨rfl,by kernel_rfl,of_decide_eq_true (by kernel_rfl)⟩
 ·intro ds hds
  match ds,hds with
  | [d0,d1],_=>rfl
 ·intro sss hs hbk;obtain ⟨s1,r1,rfl,⟨n1,t1⟩,s2,r2,rfl,⟨n2,t2⟩,rfl⟩:=(hs : zMx T [40,3] sss)
  obtain ⟨r,rfl⟩:=zKv t1;obtain ⟨x,rfl,_⟩:=zCW (T:=T) (k:=.i64) rfl rfl t2;exact ⟨_,r,x,true,zI6 r x,rfl,rfl⟩
theorem over : Rows.historyNilUptoRow.holds Try.pinned (Rows.OpenSpec.upto Rows.historyNilSpec) :=
 OpenClaim.holds_of_cond 4 Try.f4 rfl rfl rfl rfl rfl rfl rfl ⟨rfl,rfl,rfl,rfl,rfl⟩ rfl rfl rfl rfl rfl (by kernel_rfl) Try.func4 (by kernel_rfl)
  (of_decide_eq_true (by kernel_rfl)) (by unfold Func.isWrapper; first | (rw [if_pos (by decide +kernel)]; kernel_rfl) | (rw [if_neg (by decide +kernel)]; exact ⟨rfl,rfl⟩))
  (fun os started H enc _ F=>lifted os started H enc F)
theorem proved : Rows.HistoryNilUptoSaid :=
 over
end Go.Proofs.Ytffhjiplcfncdaa.historyNil
