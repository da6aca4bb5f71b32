/- Contracts of functions of the program, and the laws that stand on them: what each function answers, whatever its arguments. -/
import Derived.Test.YthaaemhkdefidaaGreatDoorPk
import Derived.Test.YthaaemhkdefidaaGreatDoorP19
set_option linter.unusedSectionVars false
set_option linter.unnecessarySimpa false
namespace Go.Proofs.YthaaemhkdefidaaGreatDoor
set_option linter.unusedSimpArgs false
set_option linter.unusedVariables false
set_option maxRecDepth 100000
set_option maxHeartbeats 8000000
open Go Go.VA Go.RowKit Go.ChangeShapes Go.WideShapes Go.ChangeAt
set_option maxRecDepth 100000 in
theorem snapTorn_lifted (os : Os) (started : os.Started) (H : Type) (enc : TypeId × Value → H) :
  ReturnsInHanded {} Tryz.checked os 8 .any (fun w args => (Rows.snapTornSpec.pre enc Tryz.prog Tryz.f8 Rows.snapTornRow.domain false w args ∧ laidMetH Tryz.prog Rows.snapPutsRow.laid w) ∧ sizedMet enc Tryz.prog Tryz.f8 (OpenSpec.ofChange Rows.snapTornSpec) false w args) (Rows.snapTornSpec.post enc Tryz.prog Tryz.f8 false true false false) := by
 refine law_liftedL Rows.snapPutsRow.laid os started own (by kernel_rfl) Tryz.func8 laidOut (by kernel_rfl) rfl rfl rfl (tb := 4) (by kernel_rfl) (fun ds h => ?_)
  (ChangeSpec.witness_shaped (enc := enc) (C := Tryz.checked) (os := os) (X := fun w _ => laidMetH Tryz.prog Rows.snapPutsRow.laid w) false (World.doorLaid Tryz.prog 49 os) #[zStV, .int .i64 0, .slice none 0 0] 8 rfl (World.shaped_of_RefB (by kernel_rfl) (by kernel_rfl)) (by kernel_rfl) (by kernel_rfl) (by kernel_rfl) (door_met os _)) ?_
 ·match ds, h with | [_, _, _], _ => rfl
 ·intro W base args ds ps hval hA0 hs hL
  have hA : DataW.TrodAll enc Tryz.prog W 0 (fun _ => true) true [25, 3, 31] args.toList ds ps := hA0
  obtain ⟨v0, v1, v2, d0, d1, d2, p0, p1, p2, rfl, rfl, rfl, h0, h1, h2⟩ := trodAll_three hA
  obtain ⟨x0, e0, r0⟩ := open_state (hval 0 25 v0 rfl rfl) h0 (hs 0 25 d0 rfl rfl)
  obtain ⟨x1, rfl, _⟩ := open_int (k := .i64) (by kernel_rfl) (hval 1 3 v1 rfl rfl) h1
  obtain ⟨x2, e2⟩ := open_bytes htb (t := 31) (e := 5) rfl rfl rfl rfl (hval 2 31 v2 rfl rfl) h2 (hs 2 31 d2 rfl rfl)
  exact acall_true (aSnapTorn x0 x1 false x2 r0) W _ (glOk_laid hL) ⟨_, _, rfl, e0, _, _, rfl, by show RelV _ _ (.c (.v (.int .i64 x1))) _; simp [RelV, RepC, Value.oneCell'], _, _, rfl, e2, rfl⟩
theorem snapTorn_holds : Rows.SnapTornSaid :=
 OpenClaim.holds_of_wide 8 Tryz.f8 rfl rfl rfl rfl rfl rfl rfl ⟨rfl, rfl, rfl, rfl, rfl⟩ rfl rfl rfl rfl rfl (by kernel_rfl) Tryz.func8 (by kernel_rfl)
  (of_decide_eq_true (by kernel_rfl)) (by unfold Func.isWrapper; rw [if_neg (by decide +kernel)]; exact ⟨rfl, rfl⟩)
  (fun os started H enc _ => snapTorn_lifted os started H enc)
theorem snapTornCard_holds : Rows.SnapTornCardSaid :=
 Claim7.holds_tied_plain_at .later [] [.data, .data, .data, .data, .data, .data, .data, .data] true (true, "9b22a9a7e03dc8dd27bd4fa8da657fb6cb021db116b035105ec992cfee2614cd") false
  snapTorn_holds (fun _ h => by cases h) (by kernel_rfl) (fun _ h => by cases h) snapTorn_row_tie rfl ⟨rfl, rfl⟩ (by kernel_rfl) rfl
  (fun f fn hf hfn => by
   obtain rfl : f = 8 := Option.some.inj ((show Tryz.prog.funcNamed Rows.snapTornRow.func = some 8 by kernel_rfl).symm.trans hf) |>.symm
   obtain rfl : fn = Tryz.f8 := (Option.some.inj (Tryz.func8.symm.trans hfn)).symm
   exact ⟨by kernel_rfl, fun j t ht => by
    have ht' : (#[25, 3, 31] : Array TypeId)[j]? = some t := ht
    have hm : t ∈ [25, 3, 31] := by simpa using Array.mem_of_getElem? ht'
    have hall : ([25, 3, 31].all fun u => !Tryz.prog.wantsStandIn u) = true := by kernel_rfl
    exact (show Tryz.prog.wantsStandIn t = false by simpa using List.all_eq_true.1 hall t hm)⟩)
  (by kernel_rfl)
#print axioms snapTornCard_holds
end Go.Proofs.YthaaemhkdefidaaGreatDoor
