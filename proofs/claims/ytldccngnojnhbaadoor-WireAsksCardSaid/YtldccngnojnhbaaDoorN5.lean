/- Contracts of functions of the program, and the laws that stand on them: what each function answers, whatever its arguments. -/
import Derived.Test.YtldccngnojnhbaaDoorNk
import Derived.Test.YtldccngnojnhbaaDoorN4
set_option linter.unusedSectionVars false
set_option linter.unnecessarySimpa false
namespace Go.Proofs.YtldccngnojnhbaaDoor
set_option linter.unusedSimpArgs false
set_option linter.unusedVariables false
set_option maxRecDepth 100000
set_option maxHeartbeats 8000000
open Go Go.VA Go.RowKit Go.ChangeShapes Go.WideShapes Go.ChangeAt
set_option maxRecDepth 100000 in
theorem wireAsks_lifted (os : Os) (started : os.Started) (H : Type) (enc : TypeId × Value → H) :
    ReturnsInHanded {} Tryd.checked os 3 .any (fun w args => (Rows.wireAsksSpec.pre enc Tryd.prog Tryd.f3 Rows.wireAsksRow.domain false w args ∧ laidMetH Tryd.prog Rows.wireAsksRow.laid w) ∧ sizedMet enc Tryd.prog Tryd.f3 (OpenSpec.ofChange Rows.wireAsksSpec) false w args) (Rows.wireAsksSpec.post enc Tryd.prog Tryd.f3 false true false false) := by
  refine law_liftedL Rows.wireAsksRow.laid os started own (by kernel_rfl) Tryd.func3 laidOut (by kernel_rfl) rfl rfl rfl (tb := 4) (by kernel_rfl) (fun ds h => ?_)
    (ChangeSpec.witness_shaped (enc := enc) (C := Tryd.checked) (os := os) (X := fun w _ => laidMetH Tryd.prog Rows.wireAsksRow.laid w) false (World.doorLaid Tryd.prog 24 os) #[zRqV, zRqV, zRpV, zRpV] 8 rfl (World.shaped_of_RefB (by kernel_rfl) (by kernel_rfl)) (by kernel_rfl) (by kernel_rfl) (by kernel_rfl) (door_met os _)) ?_
  · match ds, h with | [_, _, _, _], _ => rfl
  · intro W base args ds ps hval hA0 hs hL
    have hA : DataW.TrodAll enc Tryd.prog W 0 (fun _ => true) true [34, 34, 37, 37] args.toList ds ps := hA0
    obtain ⟨v0, v1, v2, v3, d0, d1, d2, d3, p0, p1, p2, p3, rfl, rfl, rfl, h0, h1, h2, h3⟩ := trodAll_four hA
    obtain ⟨x0, e0, g0⟩ := open_req (hval 0 34 v0 rfl rfl) h0 (hs 0 34 d0 rfl rfl)
    obtain ⟨x1, e1, g1⟩ := open_req (hval 1 34 v1 rfl rfl) h1 (hs 1 34 d1 rfl rfl)
    obtain ⟨x2, e2, g2⟩ := open_resp (hval 2 37 v2 rfl rfl) h2 (hs 2 37 d2 rfl rfl)
    obtain ⟨x3, e3, g3⟩ := open_resp (hval 3 37 v3 rfl rfl) h3 (hs 3 37 d3 rfl rfl)
    exact acall_true (aAsks x0 x1 x2 x3 g0) W _ (glOk_laid hL) ⟨_, _, rfl, e0, _, _, rfl, e1, _, _, rfl, e2, _, _, rfl, e3, rfl⟩
theorem wireAsks_holds : Rows.WireAsksSaid :=
  OpenClaim.holds_of_wide 3 Tryd.f3 rfl rfl rfl rfl rfl rfl rfl ⟨rfl, rfl, rfl, rfl, rfl⟩ rfl rfl rfl rfl rfl (by kernel_rfl) Tryd.func3 (by kernel_rfl)
    (of_decide_eq_true (by kernel_rfl)) (by unfold Func.isWrapper; rw [if_neg (by decide +kernel)]; exact ⟨rfl, rfl⟩)
    (fun os started H enc _ => wireAsks_lifted os started H enc)
theorem wireAsksCard_holds : Rows.WireAsksCardSaid :=
  Claim7.holds_tied_plain_at .later [] [.data, .data, .data] true (true, "7d6f014eb3390ef528562a126fa413e1134bc1f2c7d9ce050ed43e3f1b1cc3d7") false
    wireAsks_holds (fun _ h => by cases h) (by kernel_rfl) (fun _ h => by cases h) wireAsks_row_tie rfl ⟨rfl, rfl⟩ (by kernel_rfl) rfl
    (fun f fn hf hfn => by
      obtain rfl : f = 3 := Option.some.inj ((show Tryd.prog.funcNamed Rows.wireAsksRow.func = some 3 by kernel_rfl).symm.trans hf) |>.symm
      obtain rfl : fn = Tryd.f3 := (Option.some.inj (Tryd.func3.symm.trans hfn)).symm
      exact ⟨by kernel_rfl, fun j t ht => by
        have ht' : (#[34, 34, 37, 37] : Array TypeId)[j]? = some t := ht
        have hm : t ∈ [34, 34, 37, 37] := by simpa using Array.mem_of_getElem? ht'
        have hall : ([34, 34, 37, 37].all fun u => !Tryd.prog.wantsStandIn u) = true := by kernel_rfl
        exact (show Tryd.prog.wantsStandIn t = false by simpa using List.all_eq_true.1 hall t hm)⟩)
    (by kernel_rfl)
#print axioms wireAsksCard_holds
end Go.Proofs.YtldccngnojnhbaaDoor
