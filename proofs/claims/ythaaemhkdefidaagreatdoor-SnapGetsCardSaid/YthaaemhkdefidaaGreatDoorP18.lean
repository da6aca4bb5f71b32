/- Contracts of functions of the program, and the laws that stand on them: what each function answers, whatever its arguments. -/
import Derived.Test.YthaaemhkdefidaaGreatDoorPk
import Derived.Test.YthaaemhkdefidaaGreatDoorP17
set_option linter.unusedSectionVars false
set_option linter.unnecessarySimpa false
namespace Go.Proofs.YthaaemhkdefidaaGreatDoor
set_option linter.unusedSimpArgs false
set_option linter.unusedVariables false
set_option maxRecDepth 100000
set_option maxHeartbeats 8000000
open Go Go.VA Go.RowKit Go.ChangeShapes Go.WideShapes Go.ChangeAt
set_option maxRecDepth 100000 in
theorem snapGets_lifted (os : Os) (started : os.Started) (H : Type) (enc : TypeId × Value → H) :
  ReturnsInHanded {} Tryz.checked os 6 .any (fun w args => (Rows.snapGetsSpec.pre enc Tryz.prog Tryz.f6 Rows.snapGetsRow.domain false w args ∧ laidMetH Tryz.prog Rows.snapPutsRow.laid w) ∧ sizedMet enc Tryz.prog Tryz.f6 (OpenSpec.ofChange Rows.snapGetsSpec) false w args) (Rows.snapGetsSpec.post enc Tryz.prog Tryz.f6 false true false false) := by
 refine law_liftedL Rows.snapPutsRow.laid os started own (by kernel_rfl) Tryz.func6 laidOut (by kernel_rfl) rfl rfl rfl (tb := 4) (by kernel_rfl) (fun ds h => ?_)
  (ChangeSpec.witness_shaped (enc := enc) (C := Tryz.checked) (os := os) (X := fun w _ => laidMetH Tryz.prog Rows.snapPutsRow.laid w) false (World.doorLaid Tryz.prog 49 os) #[.slice none 0 0] 8 rfl (World.shaped_of_RefB (by kernel_rfl) (by kernel_rfl)) (by kernel_rfl) (by kernel_rfl) (by kernel_rfl) (door_met os _)) ?_
 ·match ds, h with | [_], _ => rfl
 ·intro W base args ds ps hval hA0 hs hL
  have hA : DataW.TrodAll enc Tryz.prog W 0 (fun _ => true) true [31] args.toList ds ps := hA0
  obtain ⟨v0, d0, rfl, rfl, h0⟩ := trodAll_one hA
  obtain ⟨x0, e0⟩ := open_bytes htb (t := 31) (e := 5) rfl rfl rfl rfl (hval 0 31 v0 rfl rfl) h0 (hs 0 31 d0 rfl rfl)
  exact acall_true (aSnapGets false x0) W _ (glOk_laid hL) ⟨_, _, rfl, e0, rfl⟩
theorem snapGets_holds : Rows.SnapGetsSaid :=
 OpenClaim.holds_of_wide 6 Tryz.f6 rfl rfl rfl rfl rfl rfl rfl ⟨rfl, rfl, rfl, rfl, rfl⟩ rfl rfl rfl rfl rfl (by kernel_rfl) Tryz.func6 (by kernel_rfl)
  (of_decide_eq_true (by kernel_rfl)) (by unfold Func.isWrapper; rw [if_neg (by decide +kernel)]; exact ⟨rfl, rfl⟩)
  (fun os started H enc _ => snapGets_lifted os started H enc)
theorem snapGetsCard_holds : Rows.SnapGetsCardSaid :=
 Claim7.holds_tied_plain_at .later [] [.data, .data, .data, .data, .data, .data, .data, .data] true (true, "9b22a9a7e03dc8dd27bd4fa8da657fb6cb021db116b035105ec992cfee2614cd") false
  snapGets_holds (fun _ h => by cases h) (by kernel_rfl) (fun _ h => by cases h) snapGets_row_tie rfl ⟨rfl, rfl⟩ (by kernel_rfl) rfl
  (fun f fn hf hfn => by
   obtain rfl : f = 6 := Option.some.inj ((show Tryz.prog.funcNamed Rows.snapGetsRow.func = some 6 by kernel_rfl).symm.trans hf) |>.symm
   obtain rfl : fn = Tryz.f6 := (Option.some.inj (Tryz.func6.symm.trans hfn)).symm
   exact ⟨by kernel_rfl, fun j t ht => by
    have ht' : (#[31] : Array TypeId)[j]? = some t := ht
    have hm : t ∈ [31] := by simpa using Array.mem_of_getElem? ht'
    have hall : ([31].all fun u => !Tryz.prog.wantsStandIn u) = true := by kernel_rfl
    exact (show Tryz.prog.wantsStandIn t = false by simpa using List.all_eq_true.1 hall t hm)⟩)
  (by kernel_rfl)
#print axioms snapGetsCard_holds
end Go.Proofs.YthaaemhkdefidaaGreatDoor
