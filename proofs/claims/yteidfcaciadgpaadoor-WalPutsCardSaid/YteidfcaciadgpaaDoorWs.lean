/- Contracts of functions of the program, and the laws that stand on them: what each function answers, whatever its arguments. -/
import Derived.Test.YteidfcaciadgpaaDoorWo
import Derived.Test.YteidfcaciadgpaaDoorWX
set_option linter.unusedSectionVars false
set_option linter.unnecessarySimpa false
namespace Go.Proofs.YteidfcaciadgpaaDoor
set_option linter.unusedSimpArgs false
set_option linter.unusedVariables false
set_option maxRecDepth 100000
set_option maxHeartbeats 8000000
open Go Go.VA Go.RowKit Go.ChangeShapes Go.WideShapes Go.ChangeAt
abbrev zIp : Value := .agg #[.int .u64 0, .int .i64 0, .string ByteArray.empty, .string ByteArray.empty, .int .i64 0, .int .i64 0, .string ByteArray.empty, .int .u32 0]
set_option maxRecDepth 100000 in
theorem walPuts_lifted (os : Os) (started : os.Started) (H : Type) (enc : TypeId × Value → H) :
    ReturnsInHanded {} Tryd.checked os 3 .any (fun w args => (Rows.walPutsSpec.pre enc Tryd.prog Tryd.f3 Rows.walPutsRow.domain false w args ∧ laidMetH Tryd.prog Rows.walAllRow.laid w) ∧ sizedMet enc Tryd.prog Tryd.f3 (OpenSpec.ofChange Rows.walPutsSpec) false w args) (Rows.walPutsSpec.post enc Tryd.prog Tryd.f3 false true false false) := by
  refine law_liftedL Rows.walAllRow.laid os started own (by kernel_rfl) Tryd.func3 laidOut (by kernel_rfl) rfl rfl rfl (tb := 4) (by kernel_rfl) (fun ds h => ?_)
    (ChangeSpec.witness_shaped (enc := enc) (C := Tryd.checked) (os := os) (X := fun w _ => laidMetH Tryd.prog Rows.walAllRow.laid w) false (World.doorLaid Tryd.prog 19 os) #[.slice none 0 0, zIp] 8 rfl (World.shaped_of_RefB (by kernel_rfl) (by kernel_rfl)) (by kernel_rfl) (by kernel_rfl) (by kernel_rfl) (door_met os _)) ?_
  · match ds, h with | [_, _], _ => rfl
  · intro W base args ds ps hval hA0 hs hL
    have hA : DataW.TrodAll enc Tryd.prog W 0 (fun _ => true) true [22, 30] args.toList ds ps := hA0
    obtain ⟨v0, v1, d0, d1, p0, p1, rfl, rfl, rfl, h0, h1⟩ := trodAll_two hA
    obtain ⟨s, e0⟩ := open_bytes htb (t := 22) (e := 5) rfl rfl rfl rfl (hval 0 22 v0 rfl rfl) h0 (hs 0 22 d0 rfl rfl)
    obtain ⟨i, ei, ri⟩ := open_intent (hval 1 30 v1 rfl rfl) h1
    exact acall_true (aWalPuts false s i ri) W _ (glOk_laid hL) ⟨_, _, rfl, e0, _, _, rfl, ei _, rfl⟩
theorem walPuts_holds : Rows.WalPutsSaid :=
  OpenClaim.holds_of_wide 3 Tryd.f3 rfl rfl rfl rfl rfl rfl rfl ⟨rfl, rfl, rfl, rfl, rfl⟩ rfl rfl rfl rfl rfl (by kernel_rfl) Tryd.func3 (by kernel_rfl)
    (of_decide_eq_true (by kernel_rfl)) (by unfold Func.isWrapper; rw [if_neg (by decide +kernel)]; exact ⟨rfl, rfl⟩)
    (fun os started H enc _ => walPuts_lifted os started H enc)
theorem walPutsCard_holds : Rows.WalPutsCardSaid :=
  Claim7.holds_tied_plain_at .later [] [.data, .data] true (true, "8ca4f6e626e6513e7028ee3e6511272e0a995affafc5503e227c4fcf64079fd9") false
    walPuts_holds (fun _ h => by cases h) (by kernel_rfl) (fun _ h => by cases h) walPuts_row_tie rfl ⟨rfl, rfl⟩ (by kernel_rfl) rfl
    (fun f fn hf hfn => by
      obtain rfl : f = 3 := Option.some.inj ((show Tryd.prog.funcNamed Rows.walPutsRow.func = some 3 by kernel_rfl).symm.trans hf) |>.symm
      obtain rfl : fn = Tryd.f3 := (Option.some.inj (Tryd.func3.symm.trans hfn)).symm
      exact ⟨by kernel_rfl, fun j t ht => by
        have ht' : (#[22, 30] : Array TypeId)[j]? = some t := ht
        have hm : t ∈ [22, 30] := by simpa using Array.mem_of_getElem? ht'
        have hall : ([22, 30].all fun u => !Tryd.prog.wantsStandIn u) = true := by kernel_rfl
        exact (show Tryd.prog.wantsStandIn t = false by simpa using List.all_eq_true.1 hall t hm)⟩)
    (by kernel_rfl)
#print axioms walPutsCard_holds
end Go.Proofs.YteidfcaciadgpaaDoor
