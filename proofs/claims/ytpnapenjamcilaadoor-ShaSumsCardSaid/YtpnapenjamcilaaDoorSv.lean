/- Contracts of functions of the program, and the laws that stand on them: what each function answers, whatever its arguments. -/
import Derived.Test.YtpnapenjamcilaaDoorSu
import Derived.Test.YtpnapenjamcilaaDoorSk
set_option linter.unusedSectionVars false
set_option linter.unnecessarySimpa false
namespace Go.Proofs.YtpnapenjamcilaaDoor
set_option linter.unusedSimpArgs false
set_option linter.unusedVariables false
set_option maxRecDepth 100000
set_option maxHeartbeats 8000000
open Go Go.VA Go.RowKit Go.ChangeShapes Go.WideShapes Go.ChangeAt
set_option maxRecDepth 100000 in
theorem shaSums_lifted (os : Os) (started : os.Started) (H : Type) (enc : TypeId × Value → H) :
    ReturnsInHanded {} Tryd.checked os 3 .any (fun w args => (Rows.shaSumsSpec.pre enc Tryd.prog Tryd.f3 Rows.shaSumsRow.domain false w args ∧ laidMetH Tryd.prog Rows.shaNilRow.laid w) ∧ sizedMet enc Tryd.prog Tryd.f3 (OpenSpec.ofChange Rows.shaSumsSpec) false w args) (Rows.shaSumsSpec.post enc Tryd.prog Tryd.f3 false true false false) := by
  refine law_liftedL Rows.shaNilRow.laid os started own (by kernel_rfl) Tryd.func3 laidOut (by kernel_rfl) rfl rfl rfl (tb := 4) (by kernel_rfl) (fun ds h => ?_)
    (ChangeSpec.witness_shaped (enc := enc) (C := Tryd.checked) (os := os) (X := fun w _ => laidMetH Tryd.prog Rows.shaNilRow.laid w) false (World.doorLaid Tryd.prog 19 os) #[.slice none 0 0, .int .i64 0] 8 rfl (World.shaped_of_RefB (by kernel_rfl) (by kernel_rfl)) (by kernel_rfl) (by kernel_rfl) (by kernel_rfl) (door_met os _)) ?_
  · match ds, h with | [_, _], _ => rfl
  · intro W base args ds ps hval hA0 hs hL
    have hA : DataW.TrodAll enc Tryd.prog W 0 (fun _ => true) true [22, 3] args.toList ds ps := hA0
    obtain ⟨v0, v1, d0, d1, p0, p1, rfl, rfl, rfl, h0, h1⟩ := trodAll_two hA
    obtain ⟨s0, e0⟩ := open_bytes htb (t := 22) (e := 5) rfl rfl rfl rfl (hval 0 22 v0 rfl rfl) h0 (hs 0 22 d0 rfl rfl)
    obtain ⟨n, rfl, _⟩ := open_int (k := .i64) (by kernel_rfl) (hval 1 3 v1 rfl rfl) h1
    exact acall_true (aSums false s0 n) W _ (glOk_laid hL) ⟨_, _, rfl, e0, _, _, rfl, by show RelV _ _ (.c (.v (.int .i64 n))) _; simp [RelV, RepC, Value.oneCell'], rfl⟩
theorem shaSums_holds : Rows.ShaSumsSaid :=
  OpenClaim.holds_of_wide 3 Tryd.f3 rfl rfl rfl rfl rfl rfl rfl ⟨rfl, rfl, rfl, rfl, rfl⟩ rfl rfl rfl rfl rfl (by kernel_rfl) Tryd.func3 (by kernel_rfl)
    (of_decide_eq_true (by kernel_rfl)) (by unfold Func.isWrapper; rw [if_neg (by decide +kernel)]; exact ⟨rfl, rfl⟩)
    (fun os started H enc _ => shaSums_lifted os started H enc)
theorem shaSumsCard_holds : Rows.ShaSumsCardSaid :=
  Claim7.holds_tied_plain_at .later [] [.data, .data] true (true, "4ca3d889da210cb43c6a61a2d049359a7945a6de1e862ab237ab2b0cbaf27429") false
    shaSums_holds (fun _ h => by cases h) (by kernel_rfl) (fun _ h => by cases h) shaSums_row_tie rfl ⟨rfl, rfl⟩ (by kernel_rfl) rfl
    (fun f fn hf hfn => by
      obtain rfl : f = 3 := Option.some.inj ((show Tryd.prog.funcNamed Rows.shaSumsRow.func = some 3 by kernel_rfl).symm.trans hf) |>.symm
      obtain rfl : fn = Tryd.f3 := (Option.some.inj (Tryd.func3.symm.trans hfn)).symm
      exact ⟨by kernel_rfl, fun j t ht => by
        have ht' : (#[22, 3] : Array TypeId)[j]? = some t := ht
        have hm : t ∈ [22, 3] := by simpa using Array.mem_of_getElem? ht'
        have hall : ([22, 3].all fun u => !Tryd.prog.wantsStandIn u) = true := by kernel_rfl
        exact (show Tryd.prog.wantsStandIn t = false by simpa using List.all_eq_true.1 hall t hm)⟩)
    (by kernel_rfl)
#print axioms shaSumsCard_holds
end Go.Proofs.YtpnapenjamcilaaDoor
