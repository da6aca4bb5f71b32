/- Contracts of functions of the program, and the laws that stand on them: what each function answers, whatever its arguments. -/
import Derived.Test.YtkcbgdbfnajdaaaVo
import Derived.Test.YtkcbgdbfnajdaaaVl
import Derived.ChangeMaps5
import Derived.Carry
namespace Go.Proofs.Ytkcbgdbfnajdaaa
set_option linter.unusedSimpArgs false
set_option linter.unusedVariables false
set_option maxRecDepth 100000
open Go Go.VA Go.RowKit Go.ChangeShapes Go.WideShapes Go.ChangeAt
theorem own : ownKnob Try.prog.godebug = none := by kernel_rfl
theorem laidOut : laidOutB Try.prog = true := by kernel_rfl
/-- a value that is none -/
abbrev zV : Value := .agg #[.int .i64 0, .int .i64 0, .string ByteArray.empty, .slice none 0 0, .slice none 0 0, .int .i64 0, .int .i64 0, .bool false]
theorem valueRefines_lifted (os : Os) (started : os.Started) (H : Type) (enc : TypeId × Value → H) :
    ReturnsInHanded {} Try.checked os 3 .any (Rows.valueRefinesSpec.pre6 enc Try.prog Try.f3 Rows.valueRefinesRow.domain false) (Rows.valueRefinesSpec.post enc Try.prog Try.f3 false true false false) := by
  refine law_liftedS os started own (by kernel_rfl) Try.func3 laidOut (by kernel_rfl) rfl rfl rfl (tb := 4) (by kernel_rfl) (fun ds h => ?_)
    (ChangeSpec.witness6 (enc := enc) (C := Try.checked) false ⟨#[], #[zV, zV], []⟩ 8 (by kernel_rfl) (by kernel_rfl) (by kernel_rfl) (by kernel_rfl)) ?_
  · match ds, h with | [_, _], _ => rfl
  · intro W base args ds ps hval hA0 hs
    have hA : DataW.TrodAll enc Try.prog W 0 (fun _ => true) true [27, 27] args.toList ds ps := hA0
    obtain ⟨v0, v1, d0, d1, p0, p1, rfl, rfl, rfl, h0, h1⟩ := trodAll_two hA
    obtain ⟨x0, e0⟩ := open_value (hval 0 27 v0 rfl rfl) h0 (hs 0 27 d0 rfl rfl)
    obtain ⟨x1, e1⟩ := open_value (hval 1 27 v1 rfl rfl) h1 (hs 1 27 d1 rfl rfl)
    exact acall_true (a3 x0 x1) W _ (glOk_nil _) ⟨_, _, rfl, e0, _, _, rfl, e1, rfl⟩
theorem valueRefines_holds : Rows.ValueRefinesSaid :=
  OpenClaim.holds_of_wide 3 Try.f3 rfl rfl rfl rfl rfl rfl rfl ⟨rfl, rfl, rfl, rfl, rfl⟩ rfl rfl rfl rfl rfl (by kernel_rfl) Try.func3 (by kernel_rfl)
    (of_decide_eq_true (by kernel_rfl)) (by unfold Func.isWrapper; rw [if_neg (by decide +kernel)]; exact ⟨rfl, rfl⟩)
    (fun os started H enc _ => valueRefines_lifted os started H enc)
theorem valueChecks_lifted (os : Os) (started : os.Started) (H : Type) (enc : TypeId × Value → H) :
    ReturnsInHanded {} Try.checked os 4 .any (Rows.valueChecksSpec.pre6 enc Try.prog Try.f4 Rows.valueChecksRow.domain false) (Rows.valueChecksSpec.post enc Try.prog Try.f4 false true false false) := by
  refine law_liftedS os started own (by kernel_rfl) Try.func4 laidOut (by kernel_rfl) rfl rfl rfl (tb := 4) (by kernel_rfl) (fun ds h => ?_)
    (ChangeSpec.witness6 (enc := enc) (C := Try.checked) false ⟨#[], #[zV], []⟩ 8 (by kernel_rfl) (by kernel_rfl) (by kernel_rfl) (by kernel_rfl)) ?_
  · match ds, h with | [_], _ => rfl
  · intro W base args ds ps hval hA0 hs
    have hA : DataW.TrodAll enc Try.prog W 0 (fun _ => true) true [27] args.toList ds ps := hA0
    obtain ⟨v0, d0, rfl, rfl, h0⟩ := trodAll_one hA
    obtain ⟨x0, e0⟩ := open_value (hval 0 27 v0 rfl rfl) h0 (hs 0 27 d0 rfl rfl)
    exact acall_true (a4 x0) W _ (glOk_nil _) ⟨_, _, rfl, e0, rfl⟩
theorem valueChecks_holds : Rows.ValueChecksSaid :=
  OpenClaim.holds_of_wide 4 Try.f4 rfl rfl rfl rfl rfl rfl rfl ⟨rfl, rfl, rfl, rfl, rfl⟩ rfl rfl rfl rfl rfl (by kernel_rfl) Try.func4 (by kernel_rfl)
    (of_decide_eq_true (by kernel_rfl)) (by unfold Func.isWrapper; rw [if_neg (by decide +kernel)]; exact ⟨rfl, rfl⟩)
    (fun os started H enc _ => valueChecks_lifted os started H enc)
theorem valueOrder_lifted (os : Os) (started : os.Started) (H : Type) (enc : TypeId × Value → H) :
    ReturnsInHanded {} Try.checked os 5 .any (Rows.valueOrderSpec.pre6 enc Try.prog Try.f5 Rows.valueOrderRow.domain false) (Rows.valueOrderSpec.post enc Try.prog Try.f5 false true false false) := by
  refine law_liftedS os started own (by kernel_rfl) Try.func5 laidOut (by kernel_rfl) rfl rfl rfl (tb := 4) (by kernel_rfl) (fun ds h => ?_)
    (ChangeSpec.witness6 (enc := enc) (C := Try.checked) false ⟨#[], #[zV, zV, zV], []⟩ 8 (by kernel_rfl) (by kernel_rfl) (by kernel_rfl) (by kernel_rfl)) ?_
  · match ds, h with | [_, _, _], _ => rfl
  · intro W base args ds ps hval hA0 hs
    have hA : DataW.TrodAll enc Try.prog W 0 (fun _ => true) true [27, 27, 27] args.toList ds ps := hA0
    obtain ⟨v0, v1, v2, d0, d1, d2, p0, p1, p2, rfl, rfl, rfl, h0, h1, h2⟩ := trodAll_three hA
    obtain ⟨x0, e0⟩ := open_value (hval 0 27 v0 rfl rfl) h0 (hs 0 27 d0 rfl rfl)
    obtain ⟨x1, e1⟩ := open_value (hval 1 27 v1 rfl rfl) h1 (hs 1 27 d1 rfl rfl)
    obtain ⟨x2, e2⟩ := open_value (hval 2 27 v2 rfl rfl) h2 (hs 2 27 d2 rfl rfl)
    exact acall_true (a5 x0 x1 x2) W _ (glOk_nil _) ⟨_, _, rfl, e0, _, _, rfl, e1, _, _, rfl, e2, rfl⟩
theorem valueOrder_holds : Rows.ValueOrderSaid :=
  OpenClaim.holds_of_wide 5 Try.f5 rfl rfl rfl rfl rfl rfl rfl ⟨rfl, rfl, rfl, rfl, rfl⟩ rfl rfl rfl rfl rfl (by kernel_rfl) Try.func5 (by kernel_rfl)
    (of_decide_eq_true (by kernel_rfl)) (by unfold Func.isWrapper; rw [if_neg (by decide +kernel)]; exact ⟨rfl, rfl⟩)
    (fun os started H enc _ => valueOrder_lifted os started H enc)
theorem valueBuilds_lifted (os : Os) (started : os.Started) (H : Type) (enc : TypeId × Value → H) :
    ReturnsInHanded {} Try.checked os 6 .any (Rows.valueBuildsSpec.pre6 enc Try.prog Try.f6 Rows.valueBuildsRow.domain false) (Rows.valueBuildsSpec.post enc Try.prog Try.f6 false true false false) := by
  refine law_liftedS os started own (by kernel_rfl) Try.func6 laidOut (by kernel_rfl) rfl rfl rfl (tb := 4) (by kernel_rfl) (fun ds h => ?_)
    (ChangeSpec.witness6 (enc := enc) (C := Try.checked) false ⟨#[], #[.bool false, .int .i64 0, .string ByteArray.empty, .agg #[.int .i64 0, .int .i64 0]], []⟩ 8 (by kernel_rfl) (by kernel_rfl) (by kernel_rfl) (by kernel_rfl)) ?_
  · match ds, h with | [_, _, _, _], _ => rfl
  · intro W base args ds ps hval hA0 hs
    have hA : DataW.TrodAll enc Try.prog W 0 (fun _ => true) true [4, 2, 9, 25] args.toList ds ps := hA0
    obtain ⟨v0, v1, v2, v3, d0, d1, d2, d3, p0, p1, p2, p3, rfl, rfl, rfl, h0, h1, h2, h3⟩ := trodAll_four hA
    obtain ⟨b, rfl, _⟩ := open_bool (by kernel_rfl) (hval 0 4 v0 rfl rfl) h0
    obtain ⟨n, rfl, _⟩ := open_int (k := .i64) (by kernel_rfl) (hval 1 2 v1 rfl rfl) h1
    obtain ⟨s, rfl, _⟩ := Go.ChangeMaps.open_string (by kernel_rfl) (hval 2 9 v2 rfl rfl) h2
    obtain ⟨k, o, e3⟩ := open_type (hval 3 25 v3 rfl rfl) h3
    exact acall_true (a6 b n s k o) W _ (glOk_nil _) ⟨_, _, rfl, by simp [boolA, RelV, RepC, Value.oneCell'], _, _, rfl, by simp [intA, RelV, RepC, Value.oneCell'], _, _, rfl, by simp [RelV, RepC, Value.oneCell'], _, _, rfl, e3 _, rfl⟩
theorem valueBuilds_holds : Rows.ValueBuildsSaid :=
  OpenClaim.holds_of_wide 6 Try.f6 rfl rfl rfl rfl rfl rfl rfl ⟨rfl, rfl, rfl, rfl, rfl⟩ rfl rfl rfl rfl rfl (by kernel_rfl) Try.func6 (by kernel_rfl)
    (of_decide_eq_true (by kernel_rfl)) (by unfold Func.isWrapper; rw [if_neg (by decide +kernel)]; exact ⟨rfl, rfl⟩)
    (fun os started H enc _ => valueBuilds_lifted os started H enc)
theorem valueLess_lifted (os : Os) (started : os.Started) (H : Type) (enc : TypeId × Value → H) :
    ReturnsInHanded {} Try.checked os 7 .any (Rows.valueLessSpec.pre6 enc Try.prog Try.f7 Rows.valueLessRow.domain false) (Rows.valueLessSpec.post enc Try.prog Try.f7 false true false false) := by
  refine law_liftedS os started own (by kernel_rfl) Try.func7 laidOut (by kernel_rfl) rfl rfl rfl (tb := 4) (by kernel_rfl) (fun ds h => ?_)
    (ChangeSpec.witness6 (enc := enc) (C := Try.checked) false ⟨#[], #[zV, zV], []⟩ 8 (by kernel_rfl) (by kernel_rfl) (by kernel_rfl) (by kernel_rfl)) ?_
  · match ds, h with | [_, _], _ => rfl
  · intro W base args ds ps hval hA0 hs
    have hA : DataW.TrodAll enc Try.prog W 0 (fun _ => true) true [27, 27] args.toList ds ps := hA0
    obtain ⟨v0, v1, d0, d1, p0, p1, rfl, rfl, rfl, h0, h1⟩ := trodAll_two hA
    obtain ⟨x0, e0⟩ := open_value (hval 0 27 v0 rfl rfl) h0 (hs 0 27 d0 rfl rfl)
    obtain ⟨x1, e1⟩ := open_value (hval 1 27 v1 rfl rfl) h1 (hs 1 27 d1 rfl rfl)
    exact acall_true (a7 x0 x1) W _ (glOk_nil _) ⟨_, _, rfl, e0, _, _, rfl, e1, rfl⟩
theorem valueLess_holds : Rows.ValueLessSaid :=
  OpenClaim.holds_of_wide 7 Try.f7 rfl rfl rfl rfl rfl rfl rfl ⟨rfl, rfl, rfl, rfl, rfl⟩ rfl rfl rfl rfl rfl (by kernel_rfl) Try.func7 (by kernel_rfl)
    (of_decide_eq_true (by kernel_rfl)) (by unfold Func.isWrapper; rw [if_neg (by decide +kernel)]; exact ⟨rfl, rfl⟩)
    (fun os started H enc _ => valueLess_lifted os started H enc)
end Go.Proofs.Ytkcbgdbfnajdaaa
