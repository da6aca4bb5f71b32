/- Contracts of functions of the program, and the laws that stand on them: what each function answers, whatever its arguments. -/
import Derived.Test.YtnciaeadkbnppaaDoorXk
import Derived.Test.YtnciaeadkbnppaaDoorX10
set_option linter.unusedSectionVars false
set_option linter.unnecessarySimpa false
namespace Go.Proofs.YtnciaeadkbnppaaDoor
set_option linter.unusedSimpArgs false
set_option linter.unusedVariables false
set_option maxRecDepth 100000
set_option maxHeartbeats 8000000
open Go Go.VA Go.RowKit Go.ChangeShapes Go.WideShapes Go.ChangeAt
set_option maxRecDepth 100000 in
theorem schemaObjects_lifted (os : Os) (started : os.Started) (H : Type) (enc : TypeId × Value → H) :
    ReturnsInHanded {} Tryd.checked os 4 .any (fun w args => (Rows.schemaObjectsSpec.pre enc Tryd.prog Tryd.f4 Rows.schemaObjectsRow.domain false w args ∧ laidMetH Tryd.prog Rows.schemaTellsRow.laid w) ∧ sizedMet enc Tryd.prog Tryd.f4 (OpenSpec.ofChange Rows.schemaObjectsSpec) false w args) (Rows.schemaObjectsSpec.post enc Tryd.prog Tryd.f4 false true false false) := by
  refine law_liftedL Rows.schemaTellsRow.laid os started own (by kernel_rfl) Tryd.func4 laidOut (by kernel_rfl) rfl rfl rfl (tb := 4) (by kernel_rfl) (fun ds h => ?_)
    (ChangeSpec.witness_shaped (enc := enc) (C := Tryd.checked) (os := os) (X := fun w _ => laidMetH Tryd.prog Rows.schemaTellsRow.laid w) false (World.doorLaid Tryd.prog 39 os) #[.string ByteArray.empty, zVV] 8 rfl (World.shaped_of_RefB (by kernel_rfl) (by kernel_rfl)) (by kernel_rfl) (by kernel_rfl) (by kernel_rfl) (door_met os _)) ?_
  · match ds, h with | [_, _], _ => rfl
  · intro W base args ds ps hval hA0 hs hL
    have hA : DataW.TrodAll enc Tryd.prog W 0 (fun _ => true) true [9, 42] args.toList ds ps := hA0
    obtain ⟨v0, v1, d0, d1, p0, p1, rfl, rfl, rfl, h0, h1⟩ := trodAll_two hA
    obtain ⟨s0, rfl, _⟩ := Go.ChangeMaps.open_string (by kernel_rfl) (hval 0 9 v0 rfl rfl) h0
    obtain ⟨x1, e1, _⟩ := open_value (hval 1 42 v1 rfl rfl) h1 (hs 1 42 d1 rfl rfl)
    exact acall_true (aObjects s0 x1) W _ (glOk_laid hL) ⟨_, _, rfl, by simp [RelV, RepC, Value.oneCell'], _, _, rfl, e1, rfl⟩
theorem schemaObjects_holds : Rows.SchemaObjectsSaid :=
  OpenClaim.holds_of_wide 4 Tryd.f4 rfl rfl rfl rfl rfl rfl rfl ⟨rfl, rfl, rfl, rfl, rfl⟩ rfl rfl rfl rfl rfl (by kernel_rfl) Tryd.func4 (by kernel_rfl)
    (of_decide_eq_true (by kernel_rfl)) (by unfold Func.isWrapper; rw [if_neg (by decide +kernel)]; exact ⟨rfl, rfl⟩)
    (fun os started H enc _ => schemaObjects_lifted os started H enc)
theorem schemaObjectsCard_holds : Rows.SchemaObjectsCardSaid :=
  Claim7.holds_tied_plain_at .later [] [.data, .data, .data, .data, .data, .data] true (true, "319af41d5494f9daf13a0856ffb060c8a0c2d47429176386eec43e91063d4a49") false
    schemaObjects_holds (fun _ h => by cases h) (by kernel_rfl) (fun _ h => by cases h) schemaObjects_row_tie rfl ⟨rfl, rfl⟩ (by kernel_rfl) rfl
    (fun f fn hf hfn => by
      obtain rfl : f = 4 := Option.some.inj ((show Tryd.prog.funcNamed Rows.schemaObjectsRow.func = some 4 by kernel_rfl).symm.trans hf) |>.symm
      obtain rfl : fn = Tryd.f4 := (Option.some.inj (Tryd.func4.symm.trans hfn)).symm
      exact ⟨by kernel_rfl, fun j t ht => by
        have ht' : (#[9, 42] : Array TypeId)[j]? = some t := ht
        have hm : t ∈ [9, 42] := by simpa using Array.mem_of_getElem? ht'
        have hall : ([9, 42].all fun u => !Tryd.prog.wantsStandIn u) = true := by kernel_rfl
        exact (show Tryd.prog.wantsStandIn t = false by simpa using List.all_eq_true.1 hall t hm)⟩)
    (by kernel_rfl)
#print axioms schemaObjectsCard_holds
end Go.Proofs.YtnciaeadkbnppaaDoor
