/- Contracts of functions of the program, and the laws that stand on them: what each function answers, whatever its arguments. -/
import Derived.Test.YtcgcamfhollnlaaDoorEk
import Derived.Test.YtcgcamfhollnlaaDoorE12
set_option linter.unusedSectionVars false
set_option linter.unnecessarySimpa false
namespace Go.Proofs.YtcgcamfhollnlaaDoor
set_option linter.unusedSimpArgs false
set_option linter.unusedVariables false
set_option maxRecDepth 100000
set_option maxHeartbeats 8000000
open Go Go.VA Go.RowKit Go.ChangeShapes Go.WideShapes Go.ChangeAt
set_option maxRecDepth 100000 in
theorem wireResps_lifted (os : Os) (started : os.Started) (H : Type) (enc : TypeId × Value → H) :
    ReturnsInHanded {} Tryd.checked os 5 .any (fun w args => (Rows.wireRespsSpec.pre enc Tryd.prog Tryd.f5 Rows.wireRespsRow.domain false w args ∧ laidMetH Tryd.prog Rows.wireRespsRow.laid w) ∧ sizedMet enc Tryd.prog Tryd.f5 (OpenSpec.ofChange Rows.wireRespsSpec) false w args) (Rows.wireRespsSpec.post enc Tryd.prog Tryd.f5 false true false false) := by
  refine law_liftedL Rows.wireRespsRow.laid os started own (by kernel_rfl) Tryd.func5 laidOut (by kernel_rfl) rfl rfl rfl (tb := 4) (by kernel_rfl) (fun ds h => ?_)
    (ChangeSpec.witness_shaped (enc := enc) (C := Tryd.checked) (os := os) (X := fun w _ => laidMetH Tryd.prog Rows.wireRespsRow.laid w) false (World.doorLaid Tryd.prog 24 os) #[.slice none 0 0, zRpV] 8 rfl (World.shaped_of_RefB (by kernel_rfl) (by kernel_rfl)) (by kernel_rfl) (by kernel_rfl) (by kernel_rfl) (door_met os _)) ?_
  · match ds, h with | [_, _], _ => rfl
  · intro W base args ds ps hval hA0 hs hL
    have hA : DataW.TrodAll enc Tryd.prog W 0 (fun _ => true) true [47, 37] args.toList ds ps := hA0
    obtain ⟨v0, v1, d0, d1, p0, p1, rfl, rfl, rfl, h0, h1⟩ := trodAll_two hA
    obtain ⟨s0, e0⟩ := open_bytes htb (t := 47) (e := 5) rfl rfl rfl rfl (hval 0 47 v0 rfl rfl) h0 (hs 0 47 d0 rfl rfl)
    obtain ⟨x1, e1, g1⟩ := open_resp (hval 1 37 v1 rfl rfl) h1 (hs 1 37 d1 rfl rfl)
    exact acall_true (aWireResps false s0 x1 g1) W _ (glOk_laid hL) ⟨_, _, rfl, e0, _, _, rfl, e1, rfl⟩
theorem wireResps_holds : Rows.WireRespsSaid :=
  OpenClaim.holds_of_wide 5 Tryd.f5 rfl rfl rfl rfl rfl rfl rfl ⟨rfl, rfl, rfl, rfl, rfl⟩ rfl rfl rfl rfl rfl (by kernel_rfl) Tryd.func5 (by kernel_rfl)
    (of_decide_eq_true (by kernel_rfl)) (by unfold Func.isWrapper; rw [if_neg (by decide +kernel)]; exact ⟨rfl, rfl⟩)
    (fun os started H enc _ => wireResps_lifted os started H enc)
theorem wireRespsCard_holds : Rows.WireRespsCardSaid :=
  Claim7.holds_tied_plain_at .later [] [.data, .data, .data] true (true, "26a299ef14c26bcdf6065e80fac8c6dc78fbec8a507c30e359647f29d4058b26") false
    wireResps_holds (fun _ h => by cases h) (by kernel_rfl) (fun _ h => by cases h) wireResps_row_tie rfl ⟨rfl, rfl⟩ (by kernel_rfl) rfl
    (fun f fn hf hfn => by
      obtain rfl : f = 5 := Option.some.inj ((show Tryd.prog.funcNamed Rows.wireRespsRow.func = some 5 by kernel_rfl).symm.trans hf) |>.symm
      obtain rfl : fn = Tryd.f5 := (Option.some.inj (Tryd.func5.symm.trans hfn)).symm
      exact ⟨by kernel_rfl, fun j t ht => by
        have ht' : (#[47, 37] : Array TypeId)[j]? = some t := ht
        have hm : t ∈ [47, 37] := by simpa using Array.mem_of_getElem? ht'
        have hall : ([47, 37].all fun u => !Tryd.prog.wantsStandIn u) = true := by kernel_rfl
        exact (show Tryd.prog.wantsStandIn t = false by simpa using List.all_eq_true.1 hall t hm)⟩)
    (by kernel_rfl)
#print axioms wireRespsCard_holds
end Go.Proofs.YtcgcamfhollnlaaDoor
