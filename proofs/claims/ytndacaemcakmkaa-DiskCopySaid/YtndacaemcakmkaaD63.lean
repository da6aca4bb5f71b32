/- Contracts of functions of the program, and the laws that stand on them: what each function answers, whatever its arguments. -/
import Derived.Test.YtndacaemcakmkaaD61
import Derived.Test.YtndacaemcakmkaaD51
import Derived.Test.YtndacaemcakmkaaRows
set_option linter.unusedSectionVars false
set_option linter.unnecessarySimpa false
namespace Go.Proofs.Ytndacaemcakmkaa
set_option linter.unusedSimpArgs false
set_option linter.unusedVariables false
set_option maxRecDepth 100000
set_option maxHeartbeats 8000000
open Go Go.VA Go.RowKit Go.ChangeShapes Go.WideShapes Go.ChangeAt
/-! ### the row of DiskCopy -/
theorem own : ownKnob Try.prog.godebug = none := by kernel_rfl
theorem laidOut : laidOutB Try.prog = true := by kernel_rfl
theorem diskCopy_lifted (os : Os) (started : os.Started) (H : Type) (enc : TypeId × Value → H) :
  ReturnsInHanded {} Try.checked os 5 .any (Rows.diskCopySpec.pre6 enc Try.prog Try.f5 Rows.diskCopyRow.domain false) (Rows.diskCopySpec.post enc Try.prog Try.f5 false true false false) := by
 refine law_liftedS os started own (by kernel_rfl) Try.func5 laidOut (by kernel_rfl) rfl rfl rfl (tb := 4) (by kernel_rfl) (fun ds h => ?_)
  (ChangeSpec.witness6 (enc := enc) (C := Try.checked) false ⟨#[], #[.slice none 0 0, .slice none 0 0], []⟩ 8 (by kernel_rfl) (by kernel_rfl) (by kernel_rfl) (by kernel_rfl)) ?_
 ·match ds, h with | [_, _], _ => rfl
 ·intro W base args ds ps hval hA0 hs
  have hA : DataW.TrodAll enc Try.prog W 0 (fun _ => true) true [22, 22] args.toList ds ps := hA0
  obtain ⟨v0, v1, d0, d1, p0, p1, rfl, rfl, rfl, h0, h1⟩ := trodAll_two hA
  obtain ⟨n, A, f, hf, hn, e0⟩ := open_acts (hval 0 22 v0 rfl rfl) h0 (hs 0 22 d0 rfl rfl)
  obtain ⟨n2, A2, f2, hf2, hn2, e1⟩ := open_acts (hval 1 22 v1 rfl rfl) h1 (hs 1 22 d1 rfl rfl)
  exact acall_true (aCopyL false false n n2 A A2 f f2 hf hn hf2 hn2) W _ (glOk_nil _) ⟨_, _, rfl, e0, _, _, rfl, e1, rfl⟩
theorem diskCopy_holds : Rows.DiskCopySaid :=
 OpenClaim.holds_of_wide 5 Try.f5 rfl rfl rfl rfl rfl rfl rfl ⟨rfl, rfl, rfl, rfl, rfl⟩ rfl rfl rfl rfl rfl (by kernel_rfl) Try.func5 (by kernel_rfl)
  (of_decide_eq_true (by kernel_rfl)) (by unfold Func.isWrapper; rw [if_neg (by decide +kernel)]; exact ⟨rfl, rfl⟩)
  (fun os started H enc _ => diskCopy_lifted os started H enc)
#print axioms diskCopy_holds
end Go.Proofs.Ytndacaemcakmkaa
