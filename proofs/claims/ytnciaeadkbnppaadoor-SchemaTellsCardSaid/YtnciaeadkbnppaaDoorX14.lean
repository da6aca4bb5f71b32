/- Contracts of functions of the program, and the laws that stand on them: what each function answers, whatever its arguments. -/
import Derived.Test.YtnciaeadkbnppaaDoorXk
import Derived.Test.YtnciaeadkbnppaaDoorX10
set_option linter.unusedSectionVars false
set_option linter.unnecessarySimpa false
namespace Go.Proofs.YtnciaeadkbnppaaDoor
set_option linter.unusedSimpArgs false
set_option linter.unusedVariables false
set_option maxRecDepth 100000
set_option maxHeartbeats 8000000
open Go Go.VA Go.RowKit Go.ChangeShapes Go.WideShapes Go.ChangeAt
set_option maxRecDepth 100000 in
theorem schemaTells_lifted (os : Os) (started : os.Started) (H : Type) (enc : TypeId × Value → H) :
    ReturnsInHanded {} Tryd.checked os 3 .any (fun w args => (Rows.schemaTellsSpec.pre enc Tryd.prog Tryd.f3 Rows.schemaTellsRow.domain false w args ∧ laidMetH Tryd.prog Rows.schemaTellsRow.laid w) ∧ sizedMet enc Tryd.prog Tryd.f3 (OpenSpec.ofChange Rows.schemaTellsSpec) false w args) (Rows.schemaTellsSpec.post enc Tryd.prog Tryd.f3 false true false false) := by
  refine law_liftedL Rows.schemaTellsRow.laid os started own (by kernel_rfl) Tryd.func3 laidOut (by kernel_rfl) rfl rfl rfl (tb := 4) (by kernel_rfl) (fun ds h => ?_)
    (ChangeSpec.witness_shaped (enc := enc) (C := Tryd.checked) (os := os) (X := fun w _ => laidMetH Tryd.prog Rows.schemaTellsRow.laid w) false (World.doorLaid Tryd.prog 39 os) #[.string ByteArray.empty, .string ByteArray.empty] 8 rfl (World.shaped_of_RefB (by kernel_rfl) (by kernel_rfl)) (by kernel_rfl) (by kernel_rfl) (by kernel_rfl) (door_met os _)) ?_
  · match ds, h with | [_, _], _ => rfl
  · intro W base args ds ps hval hA0 hs hL
    have hA : DataW.TrodAll enc Tryd.prog W 0 (fun _ => true) true [9, 9] args.toList ds ps := hA0
    obtain ⟨v0, v1, d0, d1, p0, p1, rfl, rfl, rfl, h0, h1⟩ := trodAll_two hA
    obtain ⟨s0, rfl, _⟩ := Go.ChangeMaps.open_string (by kernel_rfl) (hval 0 9 v0 rfl rfl) h0
    obtain ⟨s1, rfl, _⟩ := Go.ChangeMaps.open_string (by kernel_rfl) (hval 1 9 v1 rfl rfl) h1
    exact acall_true (aTells s0 s1) W _ (glOk_laid hL) ⟨_, _, rfl, by simp [RelV, RepC, Value.oneCell'], _, _, rfl, by simp [RelV, RepC, Value.oneCell'], rfl⟩
theorem schemaTells_holds : Rows.SchemaTellsSaid :=
  OpenClaim.holds_of_wide 3 Tryd.f3 rfl rfl rfl rfl rfl rfl rfl ⟨rfl, rfl, rfl, rfl, rfl⟩ rfl rfl rfl rfl rfl (by kernel_rfl) Tryd.func3 (by kernel_rfl)
    (of_decide_eq_true (by kernel_rfl)) (by unfold Func.isWrapper; rw [if_neg (by decide +kernel)]; exact ⟨rfl, rfl⟩)
    (fun os started H enc _ => schemaTells_lifted os started H enc)
theorem schemaTellsCard_holds : Rows.SchemaTellsCardSaid :=
  Claim7.holds_tied_plain_at .later [] [.data, .data, .data, .data, .data, .data] true (true, "319af41d5494f9daf13a0856ffb060c8a0c2d47429176386eec43e91063d4a49") false
    schemaTells_holds (fun _ h => by cases h) (by kernel_rfl) (fun _ h => by cases h) schemaTells_row_tie rfl ⟨rfl, rfl⟩ (by kernel_rfl) rfl
    (fun f fn hf hfn => by
      obtain rfl : f = 3 := Option.some.inj ((show Tryd.prog.funcNamed Rows.schemaTellsRow.func = some 3 by kernel_rfl).symm.trans hf) |>.symm
      obtain rfl : fn = Tryd.f3 := (Option.some.inj (Tryd.func3.symm.trans hfn)).symm
      exact ⟨by kernel_rfl, fun j t ht => by
        have ht' : (#[9, 9] : Array TypeId)[j]? = some t := ht
        have hm : t ∈ [9, 9] := by simpa using Array.mem_of_getElem? ht'
        have hall : ([9, 9].all fun u => !Tryd.prog.wantsStandIn u) = true := by kernel_rfl
        exact (show Tryd.prog.wantsStandIn t = false by simpa using List.all_eq_true.1 hall t hm)⟩)
    (by kernel_rfl)
#print axioms schemaTellsCard_holds
end Go.Proofs.YtnciaeadkbnppaaDoor
