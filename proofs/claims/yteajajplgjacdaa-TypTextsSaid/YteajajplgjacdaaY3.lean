/- Contracts of functions of the program, and the laws that stand on them: what each function answers, whatever its arguments. -/
import Derived.Test.YteajajplgjacdaaY2
import Derived.Test.YteajajplgjacdaaVC
import Derived.ChangeMaps5
import Derived.Test.YteajajplgjacdaaRows
namespace Go.Proofs.Yteajajplgjacdaa
set_option linter.unusedSimpArgs false
set_option linter.unusedVariables false
set_option maxRecDepth 100000
open Go Go.VA Go.RowKit Go.ChangeShapes Go.WideShapes Go.ChangeAt
theorem own : ownKnob Try.prog.godebug = none := by kernel_rfl
theorem laidOut : laidOutB Try.prog = true := by kernel_rfl
theorem u3 : Try.prog.underlying 3 = some (.int .i64) := by kernel_rfl
section
variable {H : Type} {enc : TypeId × Value → H} {W : World} {base : Nat} {sp : Nat → Bool} {held : Bool}
theorem open_ty {v : Value} {d : DataW H} {ps : List MemPlace} {r : Reach} {b0 : Nat} (hval : Value.okWide Try.prog W r b0 23 v) (hd : DataW.Trod enc Try.prog W base sp held 23 v d ps) :
    ∃ k o : Int, ∀ S, RelV [] S (.ag [.v (.int .i64 k), .v (.int .i64 o)]) v := by
  obtain ⟨arr, rfl, hc⟩ := arg_agg htb (t := 23) rfl hval
  obtain ⟨fuel, hf⟩ := hd
  rw [hc] at hf
  obtain ⟨hl, m, rfl, hx⟩ := tr_struct htb (t := 23) rfl hf
  obtain ⟨y0, h0⟩ := hx 0 0 3 rfl rfl
  obtain ⟨y1, h1⟩ := hx 1 1 3 rfl rfl
  obtain ⟨k, e0, _⟩ := tr_int htb (t := 3) (k := .i64) rfl h0
  obtain ⟨o, e1, _⟩ := tr_int htb (t := 3) (k := .i64) rfl h1
  refine ⟨k, o, fun S => relV_agg rfl ?_⟩
  generalize arr.toList = l at *
  match l, hl, e0, e1 with
  | [a, b], _, e0, e1 =>
    simp [tb, tbl, VA.look] at e0 e1
    subst e0; subst e1
    simp [RepVs, RepC, Value.oneCell']
end
theorem typTexts_lifted (os : Os) (started : os.Started) (H : Type) (enc : TypeId × Value → H) :
    ReturnsInHanded {} Try.checked os 6 .any (Rows.typTextsSpec.pre6 enc Try.prog Try.f6 Rows.typTextsRow.domain false) (Rows.typTextsSpec.post enc Try.prog Try.f6 false true false false) := by
  refine law_lifted os started own (by kernel_rfl) Try.func6 laidOut (by kernel_rfl) rfl rfl (tb := 4) (by kernel_rfl) (fun ds h => ?_)
    (ChangeSpec.witness6 (enc := enc) (C := Try.checked) false ⟨#[], #[.agg #[.int .i64 0, .int .i64 0], .string ByteArray.empty], []⟩ 8 (by kernel_rfl) (by kernel_rfl) (by kernel_rfl) (by kernel_rfl)) ?_
  · match ds, h with | [_, _], _ => rfl
  · intro W base args ds ps hval hA0
    have hA : DataW.TrodAll enc Try.prog W 0 (fun _ => true) true [23, 9] args.toList ds ps := hA0
    obtain ⟨v0, v1, d0, d1, p0, p1, rfl, rfl, rfl, h0, h1⟩ := trodAll_two hA
    obtain ⟨k0, o0, e0⟩ := open_ty (hval 0 23 v0 rfl rfl) h0
    obtain ⟨s, rfl, _⟩ := Go.ChangeMaps.open_string (by kernel_rfl) (hval 1 9 v1 rfl rfl) h1
    exact acall_true (a6 k0 o0 s) W _ (glOk_nil _) ⟨_, _, rfl, e0 _, _, _, rfl, by simp [RelV, RepC, Value.oneCell'], rfl⟩
theorem typTexts_holds : Rows.TypTextsSaid :=
  OpenClaim.holds_of_wide 6 Try.f6 rfl rfl rfl rfl rfl rfl rfl ⟨rfl, rfl, rfl, rfl, rfl⟩ rfl rfl rfl rfl rfl (by kernel_rfl) Try.func6 (by kernel_rfl)
    (of_decide_eq_true (by kernel_rfl)) (by unfold Func.isWrapper; rw [if_neg (by decide +kernel)]; exact ⟨rfl, rfl⟩)
    (fun os started H enc _ => typTexts_lifted os started H enc)
end Go.Proofs.Yteajajplgjacdaa
