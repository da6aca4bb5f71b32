/- Contracts of functions of the program, and the laws that stand on them: what each function answers, whatever its arguments. -/
import Derived.Test.YtcgcamfhollnlaaGreatDoorEkz
import Derived.Test.YtcgcamfhollnlaaGreatDoorE19
set_option linter.unusedSectionVars false
set_option linter.unnecessarySimpa false
namespace Go.Proofs.YtcgcamfhollnlaaGreatDoor
set_option linter.unusedSimpArgs false
set_option linter.unusedVariables false
set_option maxRecDepth 100000
set_option maxHeartbeats 8000000
open Go Go.VA Go.RowKit Go.ChangeShapes Go.WideShapes Go.ChangeAt
set_option maxRecDepth 100000 in
theorem wireReqs_lifted (os : Os) (started : os.Started) (H : Type) (enc : TypeId × Value → H) :
    ReturnsInHanded {} Tryz.checked os 3 .any (fun w args => (Rows.wireReqsSpec.pre enc Tryz.prog Tryz.f3 Rows.wireReqsRow.domain false w args ∧ laidMetH Tryz.prog Rows.wireReqsRow.laid w) ∧ sizedMet enc Tryz.prog Tryz.f3 (OpenSpec.ofChange Rows.wireReqsSpec) false w args) (Rows.wireReqsSpec.post enc Tryz.prog Tryz.f3 false true false false) := by
  refine law_liftedL Rows.wireReqsRow.laid os started own (by kernel_rfl) Tryz.func3 laidOut (by kernel_rfl) rfl rfl rfl (tb := 4) (by kernel_rfl) (fun ds h => ?_)
    (ChangeSpec.witness_shaped (enc := enc) (C := Tryz.checked) (os := os) (X := fun w _ => laidMetH Tryz.prog Rows.wireReqsRow.laid w) false (World.doorLaid Tryz.prog 24 os) #[.slice none 0 0, zRqV] 8 rfl (World.shaped_of_RefB (by kernel_rfl) (by kernel_rfl)) (by kernel_rfl) (by kernel_rfl) (by kernel_rfl) (door_met os _)) ?_
  · match ds, h with | [_, _], _ => rfl
  · intro W base args ds ps hval hA0 hs hL
    have hA : DataW.TrodAll enc Tryz.prog W 0 (fun _ => true) true [22, 35] args.toList ds ps := hA0
    obtain ⟨v0, v1, d0, d1, p0, p1, rfl, rfl, rfl, h0, h1⟩ := trodAll_two hA
    obtain ⟨s0, e0⟩ := open_bytes htb (t := 22) (e := 5) rfl rfl rfl rfl (hval 0 22 v0 rfl rfl) h0 (hs 0 22 d0 rfl rfl)
    obtain ⟨x1, e1, g1⟩ := open_req (hval 1 35 v1 rfl rfl) h1 (hs 1 35 d1 rfl rfl)
    exact acall_true (aWireReqs false s0 x1 g1) W _ (glOk_laid hL) ⟨_, _, rfl, e0, _, _, rfl, e1, rfl⟩
theorem wireReqs_holds : Rows.WireReqsSaid :=
  OpenClaim.holds_of_wide 3 Tryz.f3 rfl rfl rfl rfl rfl rfl rfl ⟨rfl, rfl, rfl, rfl, rfl⟩ rfl rfl rfl rfl rfl (by kernel_rfl) Tryz.func3 (by kernel_rfl)
    (of_decide_eq_true (by kernel_rfl)) (by unfold Func.isWrapper; rw [if_neg (by decide +kernel)]; exact ⟨rfl, rfl⟩)
    (fun os started H enc _ => wireReqs_lifted os started H enc)
theorem wireReqsCard_holds : Rows.WireReqsCardSaid :=
  Claim7.holds_tied_plain_at .later [] [.data, .data, .data] true (true, "7fe25528c63359d9fff8c92f24400e405ebcff2c09a1193f39fc6a1f3be9f8be") false
    wireReqs_holds (fun _ h => by cases h) (by kernel_rfl) (fun _ h => by cases h) wireReqs_row_tie rfl ⟨rfl, rfl⟩ (by kernel_rfl) rfl
    (fun f fn hf hfn => by
      obtain rfl : f = 3 := Option.some.inj ((show Tryz.prog.funcNamed Rows.wireReqsRow.func = some 3 by kernel_rfl).symm.trans hf) |>.symm
      obtain rfl : fn = Tryz.f3 := (Option.some.inj (Tryz.func3.symm.trans hfn)).symm
      exact ⟨by kernel_rfl, fun j t ht => by
        have ht' : (#[22, 35] : Array TypeId)[j]? = some t := ht
        have hm : t ∈ [22, 35] := by simpa using Array.mem_of_getElem? ht'
        have hall : ([22, 35].all fun u => !Tryz.prog.wantsStandIn u) = true := by kernel_rfl
        exact (show Tryz.prog.wantsStandIn t = false by simpa using List.all_eq_true.1 hall t hm)⟩)
    (by kernel_rfl)
#print axioms wireReqsCard_holds
end Go.Proofs.YtcgcamfhollnlaaGreatDoor
