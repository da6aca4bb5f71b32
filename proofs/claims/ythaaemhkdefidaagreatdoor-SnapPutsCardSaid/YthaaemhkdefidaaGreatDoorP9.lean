/- Contracts of functions of the program, and the laws that stand on them: what each function answers, whatever its arguments. -/
import Derived.Test.YthaaemhkdefidaaGreatDoorPk
import Derived.Test.YthaaemhkdefidaaGreatDoorP8
set_option linter.unusedSectionVars false
set_option linter.unnecessarySimpa false
namespace Go.Proofs.YthaaemhkdefidaaGreatDoor
set_option linter.unusedSimpArgs false
set_option linter.unusedVariables false
set_option maxRecDepth 100000
set_option maxHeartbeats 8000000
open Go Go.VA Go.RowKit Go.ChangeShapes Go.WideShapes Go.ChangeAt
set_option maxRecDepth 100000 in
theorem snapPuts_lifted (os : Os) (started : os.Started) (H : Type) (enc : TypeId × Value → H) :
  ReturnsInHanded {} Tryz.checked os 3 .any (fun w args => (Rows.snapPutsSpec.pre enc Tryz.prog Tryz.f3 Rows.snapPutsRow.domain false w args ∧ laidMetH Tryz.prog Rows.snapPutsRow.laid w) ∧ sizedMet enc Tryz.prog Tryz.f3 (OpenSpec.ofChange Rows.snapPutsSpec) false w args) (Rows.snapPutsSpec.post enc Tryz.prog Tryz.f3 false true false false) := by
 refine law_liftedL Rows.snapPutsRow.laid os started own (by kernel_rfl) Tryz.func3 laidOut (by kernel_rfl) rfl rfl rfl (tb := 4) (by kernel_rfl) (fun ds h => ?_)
  (ChangeSpec.witness_shaped (enc := enc) (C := Tryz.checked) (os := os) (X := fun w _ => laidMetH Tryz.prog Rows.snapPutsRow.laid w) false (World.doorLaid Tryz.prog 49 os) #[zStV] 8 rfl (World.shaped_of_RefB (by kernel_rfl) (by kernel_rfl)) (by kernel_rfl) (by kernel_rfl) (by kernel_rfl) (door_met os _)) ?_
 ·match ds, h with | [_], _ => rfl
 ·intro W base args ds ps hval hA0 hs hL
  have hA : DataW.TrodAll enc Tryz.prog W 0 (fun _ => true) true [25] args.toList ds ps := hA0
  obtain ⟨v0, d0, rfl, rfl, h0⟩ := trodAll_one hA
  obtain ⟨x0, e0, r0⟩ := open_state (hval 0 25 v0 rfl rfl) h0 (hs 0 25 d0 rfl rfl)
  exact acall_true (aSnapPuts x0 r0) W _ (glOk_laid hL) ⟨_, _, rfl, e0, rfl⟩
theorem snapPuts_holds : Rows.SnapPutsSaid :=
 OpenClaim.holds_of_wide 3 Tryz.f3 rfl rfl rfl rfl rfl rfl rfl ⟨rfl, rfl, rfl, rfl, rfl⟩ rfl rfl rfl rfl rfl (by kernel_rfl) Tryz.func3 (by kernel_rfl)
  (of_decide_eq_true (by kernel_rfl)) (by unfold Func.isWrapper; rw [if_neg (by decide +kernel)]; exact ⟨rfl, rfl⟩)
  (fun os started H enc _ => snapPuts_lifted os started H enc)
theorem snapPutsCard_holds : Rows.SnapPutsCardSaid :=
 Claim7.holds_tied_plain_at .later [] [.data, .data, .data, .data, .data, .data, .data, .data] true (true, "9b22a9a7e03dc8dd27bd4fa8da657fb6cb021db116b035105ec992cfee2614cd") false
  snapPuts_holds (fun _ h => by cases h) (by kernel_rfl) (fun _ h => by cases h) snapPuts_row_tie rfl ⟨rfl, rfl⟩ (by kernel_rfl) rfl
  (fun f fn hf hfn => by
   obtain rfl : f = 3 := Option.some.inj ((show Tryz.prog.funcNamed Rows.snapPutsRow.func = some 3 by kernel_rfl).symm.trans hf) |>.symm
   obtain rfl : fn = Tryz.f3 := (Option.some.inj (Tryz.func3.symm.trans hfn)).symm
   exact ⟨by kernel_rfl, fun j t ht => by
    have ht' : (#[25] : Array TypeId)[j]? = some t := ht
    have hm : t ∈ [25] := by simpa using Array.mem_of_getElem? ht'
    have hall : ([25].all fun u => !Tryz.prog.wantsStandIn u) = true := by kernel_rfl
    exact (show Tryz.prog.wantsStandIn t = false by simpa using List.all_eq_true.1 hall t hm)⟩)
  (by kernel_rfl)
#print axioms snapPutsCard_holds
end Go.Proofs.YthaaemhkdefidaaGreatDoor
