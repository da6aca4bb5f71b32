/- Contracts of functions of the program, and the laws that stand on them: what each function answers, whatever its arguments. -/
import Derived.Test.YtdjoopegddnpkaaC20
import Derived.Test.YtdjoopegddnpkaaVo2
import Derived.ChangeMaps5
import Derived.Carry
import Derived.Test.YtdjoopegddnpkaaRows
set_option linter.unusedSectionVars false
set_option linter.unnecessarySimpa false
namespace Go.Proofs.Ytdjoopegddnpkaa
set_option linter.unusedSimpArgs false
set_option linter.unusedVariables false
set_option maxRecDepth 100000
open Go Go.VA Go.RowKit Go.ChangeShapes Go.WideShapes Go.ChangeAt
theorem own : ownKnob Try.prog.godebug = none := by kernel_rfl
theorem laidOut : laidOutB Try.prog = true := by kernel_rfl
/-- a value that is none -/
abbrev zV : Value := .agg #[.int .i64 0, .int .i64 0, .string ByteArray.empty, .slice none 0 0, .slice none 0 0, .int .i64 0, .int .i64 0, .bool false]
theorem codeBack_lifted (os : Os) (started : os.Started) (H : Type) (enc : TypeId × Value → H) :
    ReturnsInHanded {} Try.checked os 4 .any (Rows.codeBackSpec.pre6 enc Try.prog Try.f4 Rows.codeBackRow.domain false) (Rows.codeBackSpec.post enc Try.prog Try.f4 false true false false) := by
  refine law_liftedS os started own (by kernel_rfl) Try.func4 laidOut (by kernel_rfl) rfl rfl rfl (tb := 4) (by kernel_rfl) (fun ds h => ?_)
    (ChangeSpec.witness6 (enc := enc) (C := Try.checked) false ⟨#[], #[zV, zV, .slice none 0 0], []⟩ 8 (by kernel_rfl) (by kernel_rfl) (by kernel_rfl) (by kernel_rfl)) ?_
  · match ds, h with | [_, _, _], _ => rfl
  · intro W base args ds ps hval hA0 hs
    have hA : DataW.TrodAll enc Try.prog W 0 (fun _ => true) true [30, 30, 22] args.toList ds ps := hA0
    obtain ⟨v0, v1, v2, d0, d1, d2, p0, p1, p2, rfl, rfl, rfl, h0, h1, h2⟩ := trodAll_three hA
    obtain ⟨x0, e0, g0⟩ := open_value (hval 0 30 v0 rfl rfl) h0 (hs 0 30 d0 rfl rfl)
    obtain ⟨x1, e1, g1⟩ := open_value (hval 1 30 v1 rfl rfl) h1 (hs 1 30 d1 rfl rfl)
    obtain ⟨s, e2⟩ := open_bytes htb (t := 22) (e := 5) rfl rfl rfl rfl (hval 2 22 v2 rfl rfl) h2 (hs 2 22 d2 rfl rfl)
    exact acall_true (aBack false x0 x1 s g0 g1) W _ (glOk_nil _) ⟨_, _, rfl, e0, _, _, rfl, e1, _, _, rfl, e2, rfl⟩
theorem codeBack_holds : Rows.CodeBackSaid :=
  OpenClaim.holds_of_wide 4 Try.f4 rfl rfl rfl rfl rfl rfl rfl ⟨rfl, rfl, rfl, rfl, rfl⟩ rfl rfl rfl rfl rfl (by kernel_rfl) Try.func4 (by kernel_rfl)
    (of_decide_eq_true (by kernel_rfl)) (by unfold Func.isWrapper; rw [if_neg (by decide +kernel)]; exact ⟨rfl, rfl⟩)
    (fun os started H enc _ => codeBack_lifted os started H enc)
#print axioms codeBack_holds
end Go.Proofs.Ytdjoopegddnpkaa
