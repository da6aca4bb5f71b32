/- Contracts of functions of the program, and the laws that stand on them: what each function answers, whatever its arguments. -/
import Derived.Test.YtgocbnndhkpkdaaD15
import Derived.Test.YtgocbnndhkpkdaaVD
import Derived.ChangeMaps5
import Derived.Carry
import Derived.Test.YtgocbnndhkpkdaaRows
set_option linter.unusedSectionVars false
set_option linter.unnecessarySimpa false
namespace Go.Proofs.Ytgocbnndhkpkdaa
set_option linter.unusedSimpArgs false
set_option linter.unusedVariables false
set_option maxRecDepth 100000
set_option maxHeartbeats 8000000
open Go Go.VA Go.RowKit Go.ChangeShapes Go.WideShapes Go.ChangeAt
theorem own : ownKnob Try.prog.godebug = none := by kernel_rfl
theorem laidOut : laidOutB Try.prog = true := by kernel_rfl
theorem diskSwap_lifted (os : Os) (started : os.Started) (H : Type) (enc : TypeId × Value → H) :
    ReturnsInHanded {} Try.checked os 3 .any (Rows.diskSwapSpec.pre6 enc Try.prog Try.f3 Rows.diskSwapRow.domain false) (Rows.diskSwapSpec.post enc Try.prog Try.f3 false true false false) := by
  refine law_liftedS os started own (by kernel_rfl) Try.func3 laidOut (by kernel_rfl) rfl rfl rfl (tb := 4) (by kernel_rfl) (fun ds h => ?_)
    (ChangeSpec.witness6 (enc := enc) (C := Try.checked) false ⟨#[], #[.slice none 0 0, .slice none 0 0, .int .u8 0, .int .i64 0], []⟩ 8 (by kernel_rfl) (by kernel_rfl) (by kernel_rfl) (by kernel_rfl)) ?_
  · match ds, h with | [_, _, _, _], _ => rfl
  · intro W base args ds ps hval hA0 hs
    have hA : DataW.TrodAll enc Try.prog W 0 (fun _ => true) true [22, 22, 5, 3] args.toList ds ps := hA0
    obtain ⟨v0, v1, v2, v3, d0, d1, d2, d3, p0, p1, p2, p3, rfl, rfl, rfl, h0, h1, h2, h3⟩ := trodAll_four hA
    obtain ⟨s0, e0⟩ := open_bytes htb (t := 22) (e := 5) rfl rfl rfl rfl (hval 0 22 v0 rfl rfl) h0 (hs 0 22 d0 rfl rfl)
    obtain ⟨s1, e1⟩ := open_bytes htb (t := 22) (e := 5) rfl rfl rfl rfl (hval 1 22 v1 rfl rfl) h1 (hs 1 22 d1 rfl rfl)
    obtain ⟨x2, rfl, _, _, g2⟩ := open_int (k := .u8) (by kernel_rfl) (hval 2 5 v2 rfl rfl) h2
    obtain ⟨x3, rfl, _⟩ := open_int (k := .i64) (by kernel_rfl) (hval 3 3 v3 rfl rfl) h3
    have g3 : IntKind.u8.min ≤ x2 ∧ x2 ≤ IntKind.u8.max := by simpa only [Lit.wf, Bool.and_eq_true, decide_eq_true_eq] using g2
    exact acall_true (aSwap s0 s1 false x2 x3 g3.1 g3.2) W _ (glOk_nil _) ⟨_, _, rfl, e0, _, _, rfl, e1, _, _, rfl, repV_i (S := S0 W), _, _, rfl, repV_i (S := S0 W), rfl⟩
theorem diskSwap_holds : Rows.DiskSwapSaid :=
  OpenClaim.holds_of_wide 3 Try.f3 rfl rfl rfl rfl rfl rfl rfl ⟨rfl, rfl, rfl, rfl, rfl⟩ rfl rfl rfl rfl rfl (by kernel_rfl) Try.func3 (by kernel_rfl)
    (of_decide_eq_true (by kernel_rfl)) (by unfold Func.isWrapper; rw [if_neg (by decide +kernel)]; exact ⟨rfl, rfl⟩)
    (fun os started H enc _ => diskSwap_lifted os started H enc)
#print axioms diskSwap_holds
end Go.Proofs.Ytgocbnndhkpkdaa
