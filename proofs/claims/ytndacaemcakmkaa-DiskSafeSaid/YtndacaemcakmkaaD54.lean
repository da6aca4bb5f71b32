/- Contracts of functions of the program,and the laws that stand on them: what each function answers,whatever its arguments. -/
import Derived.Test.YtndacaemcakmkaaD51
import Derived.Test.YtndacaemcakmkaaRows
set_option linter.unusedSectionVars false
set_option linter.unnecessarySimpa false
set_option linter.unusedSimpArgs false
set_option linter.unusedVariables false
set_option maxRecDepth 100000
set_option maxHeartbeats 8000000
namespace Go.Proofs.Ytndacaemcakmkaa
open Go Go.VA Go.RowKit Go.ChangeShapes Go.WideShapes Go.ChangeAt
theorem own:ownKnob Try.prog.godebug=none:=by kernel_rfl
theorem laidOut:laidOutB Try.prog=true:=by kernel_rfl
theorem diskSafe_lifted (os:Os) (started:os.Started) (H:Type) (enc:TypeId×Value→H) :
  ReturnsInHanded {} Try.checked os 3 .any (Rows.diskSafeSpec.pre6 enc Try.prog Try.f3 Rows.diskSafeRow.domain false) (Rows.diskSafeSpec.post enc Try.prog Try.f3 false true false false):=by
 refine law_liftedS os started own (by kernel_rfl) Try.func3 laidOut (by kernel_rfl) rfl rfl rfl (tb:=4) (by kernel_rfl) (fun ds h=> ?_)
  (ChangeSpec.witness6 (enc:=enc) (C:=Try.checked) false ⟨#[],#[.slice none 0 0,.slice none 0 0,.slice none 0 0,.int .i64 0],[]⟩ 8 (by kernel_rfl) (by kernel_rfl) (by kernel_rfl) (by kernel_rfl)) ?_
 ·match ds,h with|[_,_,_,_],_=>rfl
 ·intro W base args ds ps hval hA0 hs
  have hA:DataW.TrodAll enc Try.prog W 0 (fun _=>true) true [22,23,23,3] args.toList ds ps:=hA0
  obtain ⟨v0,v1,v2,v3,d0,d1,d2,d3,p0,p1,p2,p3,rfl,rfl,rfl,h0,h1,h2,h3⟩:=trodAll_four hA
  obtain ⟨n,A,f,hf,hn,e0⟩:=open_acts (hval 0 22 v0 rfl rfl) h0 (hs 0 22 d0 rfl rfl)
  obtain ⟨s1,e1⟩:=open_bytes htb (t:=23) (e:=5) rfl rfl rfl rfl (hval 1 23 v1 rfl rfl) h1 (hs 1 23 d1 rfl rfl)
  obtain ⟨s2,e2⟩:=open_bytes htb (t:=23) (e:=5) rfl rfl rfl rfl (hval 2 23 v2 rfl rfl) h2 (hs 2 23 d2 rfl rfl)
  obtain ⟨x3,rfl,_⟩:=open_int (k:= .i64) (by kernel_rfl) (hval 3 3 v3 rfl rfl) h3
  exact acall_true (aSafe false n A f hf hn s1 s2 x3) W _ (glOk_nil _) ⟨_,_,rfl,e0,_,_,rfl,e1,_,_,rfl,e2,_,_,rfl,repV_i (S:=S0 W),rfl⟩
theorem diskSafe_holds:Rows.DiskSafeSaid :=
 OpenClaim.holds_of_wide 3 Try.f3 rfl rfl rfl rfl rfl rfl rfl ⟨rfl,rfl,rfl,rfl,rfl⟩ rfl rfl rfl rfl rfl (by kernel_rfl) Try.func3 (by kernel_rfl)
  (of_decide_eq_true (by kernel_rfl)) (by unfold Func.isWrapper; rw [if_neg (by decide +kernel)]; exact ⟨rfl,rfl⟩)
  (fun os started H enc _=>diskSafe_lifted os started H enc)
#print axioms diskSafe_holds
end Go.Proofs.Ytndacaemcakmkaa
