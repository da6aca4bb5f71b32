/- Contracts of functions of the program, and the laws that stand on them: what each function answers, whatever its arguments. -/
import Derived.Test.YtdjoopegddnpkaaC17
import Derived.Test.YtdjoopegddnpkaaVD
import Derived.ChangeMaps5
import Derived.Carry
import Derived.Test.YtdjoopegddnpkaaRows
set_option linter.unusedSectionVars false
set_option linter.unnecessarySimpa false
namespace Go.Proofs.Ytdjoopegddnpkaa
set_option linter.unusedSimpArgs false
set_option linter.unusedVariables false
set_option maxRecDepth 100000
open Go Go.VA Go.RowKit Go.ChangeShapes Go.WideShapes Go.ChangeAt
theorem own : ownKnob Try.prog.godebug = none := by kernel_rfl
theorem laidOut : laidOutB Try.prog = true := by kernel_rfl
theorem codeGets_lifted (os : Os) (started : os.Started) (H : Type) (enc : TypeId × Value → H) :
    ReturnsInHanded {} Try.checked os 3 .any (Rows.codeGetsSpec.pre6 enc Try.prog Try.f3 Rows.codeGetsRow.domain false) (Rows.codeGetsSpec.post enc Try.prog Try.f3 false true false false) := by
  refine law_liftedS os started own (by kernel_rfl) Try.func3 laidOut (by kernel_rfl) rfl rfl rfl (tb := 4) (by kernel_rfl) (fun ds h => ?_)
    (ChangeSpec.witness6 (enc := enc) (C := Try.checked) false ⟨#[], #[.slice none 0 0], []⟩ 8 (by kernel_rfl) (by kernel_rfl) (by kernel_rfl) (by kernel_rfl)) ?_
  · match ds, h with | [_], _ => rfl
  · intro W base args ds ps hval hA0 hs
    have hA : DataW.TrodAll enc Try.prog W 0 (fun _ => true) true [22] args.toList ds ps := hA0
    obtain ⟨v0, d0, rfl, rfl, h0⟩ := trodAll_one hA
    obtain ⟨s, e0⟩ := open_bytes htb (t := 22) (e := 5) rfl rfl rfl rfl (hval 0 22 v0 rfl rfl) h0 (hs 0 22 d0 rfl rfl)
    exact acall_true (aGets false s) W _ (glOk_nil _) ⟨_, _, rfl, e0, rfl⟩
theorem codeGets_holds : Rows.CodeGetsSaid :=
  OpenClaim.holds_of_wide 3 Try.f3 rfl rfl rfl rfl rfl rfl rfl ⟨rfl, rfl, rfl, rfl, rfl⟩ rfl rfl rfl rfl rfl (by kernel_rfl) Try.func3 (by kernel_rfl)
    (of_decide_eq_true (by kernel_rfl)) (by unfold Func.isWrapper; rw [if_neg (by decide +kernel)]; exact ⟨rfl, rfl⟩)
    (fun os started H enc _ => codeGets_lifted os started H enc)
#print axioms codeGets_holds
end Go.Proofs.Ytdjoopegddnpkaa
