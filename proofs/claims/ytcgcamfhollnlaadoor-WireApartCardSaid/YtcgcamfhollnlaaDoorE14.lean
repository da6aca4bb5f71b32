/- Contracts of functions of the program, and the laws that stand on them: what each function answers, whatever its arguments. -/
import Derived.Test.YtcgcamfhollnlaaDoorEk
import Derived.Test.YtcgcamfhollnlaaDoorE11
set_option linter.unusedSectionVars false
set_option linter.unnecessarySimpa false
namespace Go.Proofs.YtcgcamfhollnlaaDoor
set_option linter.unusedSimpArgs false
set_option linter.unusedVariables false
set_option maxRecDepth 100000
set_option maxHeartbeats 8000000
open Go Go.VA Go.RowKit Go.ChangeShapes Go.WideShapes Go.ChangeAt
set_option maxRecDepth 100000 in
theorem wireApart_lifted (os : Os) (started : os.Started) (H : Type) (enc : TypeId × Value → H) :
    ReturnsInHanded {} Tryd.checked os 4 .any (fun w args => (Rows.wireApartSpec.pre enc Tryd.prog Tryd.f4 Rows.wireApartRow.domain false w args ∧ laidMetH Tryd.prog Rows.wireRespsRow.laid w) ∧ sizedMet enc Tryd.prog Tryd.f4 (OpenSpec.ofChange Rows.wireApartSpec) false w args) (Rows.wireApartSpec.post enc Tryd.prog Tryd.f4 false true false false) := by
  refine law_liftedL Rows.wireRespsRow.laid os started own (by kernel_rfl) Tryd.func4 laidOut (by kernel_rfl) rfl rfl rfl (tb := 4) (by kernel_rfl) (fun ds h => ?_)
    (ChangeSpec.witness_shaped (enc := enc) (C := Tryd.checked) (os := os) (X := fun w _ => laidMetH Tryd.prog Rows.wireRespsRow.laid w) false (World.doorLaid Tryd.prog 24 os) #[zRqV, zRqV, zRpV, zRpV] 8 rfl (World.shaped_of_RefB (by kernel_rfl) (by kernel_rfl)) (by kernel_rfl) (by kernel_rfl) (by kernel_rfl) (door_met os _)) ?_
  · match ds, h with | [_, _, _, _], _ => rfl
  · intro W base args ds ps hval hA0 hs hL
    have hA : DataW.TrodAll enc Tryd.prog W 0 (fun _ => true) true [34, 34, 37, 37] args.toList ds ps := hA0
    obtain ⟨v0, v1, v2, v3, d0, d1, d2, d3, p0, p1, p2, p3, rfl, rfl, rfl, h0, h1, h2, h3⟩ := trodAll_four hA
    obtain ⟨x0, e0, g0⟩ := open_req (hval 0 34 v0 rfl rfl) h0 (hs 0 34 d0 rfl rfl)
    obtain ⟨x1, e1, g1⟩ := open_req (hval 1 34 v1 rfl rfl) h1 (hs 1 34 d1 rfl rfl)
    obtain ⟨x2, e2, g2⟩ := open_resp (hval 2 37 v2 rfl rfl) h2 (hs 2 37 d2 rfl rfl)
    obtain ⟨x3, e3, g3⟩ := open_resp (hval 3 37 v3 rfl rfl) h3 (hs 3 37 d3 rfl rfl)
    exact acall_true (aWireApart x0 x1 x2 x3 g0 g1 g2 g3) W _ (glOk_laid hL) ⟨_, _, rfl, e0, _, _, rfl, e1, _, _, rfl, e2, _, _, rfl, e3, rfl⟩
theorem wireApart_holds : Rows.WireApartSaid :=
  OpenClaim.holds_of_wide 4 Tryd.f4 rfl rfl rfl rfl rfl rfl rfl ⟨rfl, rfl, rfl, rfl, rfl⟩ rfl rfl rfl rfl rfl (by kernel_rfl) Tryd.func4 (by kernel_rfl)
    (of_decide_eq_true (by kernel_rfl)) (by unfold Func.isWrapper; rw [if_neg (by decide +kernel)]; exact ⟨rfl, rfl⟩)
    (fun os started H enc _ => wireApart_lifted os started H enc)
theorem wireApartCard_holds : Rows.WireApartCardSaid :=
  Claim7.holds_tied_plain_at .later [] [.data, .data, .data] true (true, "26a299ef14c26bcdf6065e80fac8c6dc78fbec8a507c30e359647f29d4058b26") false
    wireApart_holds (fun _ h => by cases h) (by kernel_rfl) (fun _ h => by cases h) wireApart_row_tie rfl ⟨rfl, rfl⟩ (by kernel_rfl) rfl
    (fun f fn hf hfn => by
      obtain rfl : f = 4 := Option.some.inj ((show Tryd.prog.funcNamed Rows.wireApartRow.func = some 4 by kernel_rfl).symm.trans hf) |>.symm
      obtain rfl : fn = Tryd.f4 := (Option.some.inj (Tryd.func4.symm.trans hfn)).symm
      exact ⟨by kernel_rfl, fun j t ht => by
        have ht' : (#[34, 34, 37, 37] : Array TypeId)[j]? = some t := ht
        have hm : t ∈ [34, 34, 37, 37] := by simpa using Array.mem_of_getElem? ht'
        have hall : ([34, 34, 37, 37].all fun u => !Tryd.prog.wantsStandIn u) = true := by kernel_rfl
        exact (show Tryd.prog.wantsStandIn t = false by simpa using List.all_eq_true.1 hall t hm)⟩)
    (by kernel_rfl)
#print axioms wireApartCard_holds
end Go.Proofs.YtcgcamfhollnlaaDoor
