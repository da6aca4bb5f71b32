/- Contracts of functions of the program, and the laws that stand on them: what each function answers, whatever its arguments. -/
import Derived.Test.YteidfcaciadgpaaDoorWo
set_option linter.unusedSectionVars false
set_option linter.unnecessarySimpa false
namespace Go.Proofs.YteidfcaciadgpaaDoor
set_option linter.unusedSimpArgs false
set_option linter.unusedVariables false
set_option maxRecDepth 100000
set_option maxHeartbeats 8000000
open Go Go.VA Go.RowKit Go.ChangeShapes Go.WideShapes Go.ChangeAt
abbrev zI : Value := .agg #[.int .u64 0, .int .i64 0, .string ByteArray.empty, .string ByteArray.empty, .int .i64 0, .int .i64 0, .string ByteArray.empty, .int .u32 0]
set_option maxRecDepth 100000 in
theorem walApart_lifted (os : Os) (started : os.Started) (H : Type) (enc : TypeId × Value → H) :
    ReturnsInHanded {} Tryd.checked os 5 .any (fun w args => (Rows.walApartSpec.pre enc Tryd.prog Tryd.f5 Rows.walApartRow.domain false w args ∧ laidMetH Tryd.prog Rows.walAllRow.laid w) ∧ sizedMet enc Tryd.prog Tryd.f5 (OpenSpec.ofChange Rows.walApartSpec) false w args) (Rows.walApartSpec.post enc Tryd.prog Tryd.f5 false true false false) := by
  refine law_liftedL Rows.walAllRow.laid os started own (by kernel_rfl) Tryd.func5 laidOut (by kernel_rfl) rfl rfl rfl (tb := 4) (by kernel_rfl) (fun ds h => ?_)
    (ChangeSpec.witness_shaped (enc := enc) (C := Tryd.checked) (os := os) (X := fun w _ => laidMetH Tryd.prog Rows.walAllRow.laid w) false (World.doorLaid Tryd.prog 19 os) #[zI, zI, .slice none 0 0] 8 rfl (World.shaped_of_RefB (by kernel_rfl) (by kernel_rfl)) (by kernel_rfl) (by kernel_rfl) (by kernel_rfl) (door_met os _)) ?_
  · match ds, h with | [_, _, _], _ => rfl
  · intro W base args ds ps hval hA0 hs hL
    have hA : DataW.TrodAll enc Tryd.prog W 0 (fun _ => true) true [30, 30, 22] args.toList ds ps := hA0
    obtain ⟨v0, v1, v2, d0, d1, d2, p0, p1, p2, rfl, rfl, rfl, h0, h1, h2⟩ := trodAll_three hA
    obtain ⟨a, ea, ra⟩ := open_intent (hval 0 30 v0 rfl rfl) h0
    obtain ⟨b, eb, rb⟩ := open_intent (hval 1 30 v1 rfl rfl) h1
    obtain ⟨s, e2⟩ := open_bytes htb (t := 22) (e := 5) rfl rfl rfl rfl (hval 2 22 v2 rfl rfl) h2 (hs 2 22 d2 rfl rfl)
    exact acall_true (aWalApart false a b s ra rb) W _ (glOk_laid hL) ⟨_, _, rfl, ea _, _, _, rfl, eb _, _, _, rfl, e2, rfl⟩
theorem walApart_holds : Rows.WalApartSaid :=
  OpenClaim.holds_of_wide 5 Tryd.f5 rfl rfl rfl rfl rfl rfl rfl ⟨rfl, rfl, rfl, rfl, rfl⟩ rfl rfl rfl rfl rfl (by kernel_rfl) Tryd.func5 (by kernel_rfl)
    (of_decide_eq_true (by kernel_rfl)) (by unfold Func.isWrapper; rw [if_neg (by decide +kernel)]; exact ⟨rfl, rfl⟩)
    (fun os started H enc _ => walApart_lifted os started H enc)
theorem walApartCard_holds : Rows.WalApartCardSaid :=
  Claim7.holds_tied_plain_at .later [] [.data, .data] true (true, "8ca4f6e626e6513e7028ee3e6511272e0a995affafc5503e227c4fcf64079fd9") false
    walApart_holds (fun _ h => by cases h) (by kernel_rfl) (fun _ h => by cases h) walApart_row_tie rfl ⟨rfl, rfl⟩ (by kernel_rfl) rfl
    (fun f fn hf hfn => by
      obtain rfl : f = 5 := Option.some.inj ((show Tryd.prog.funcNamed Rows.walApartRow.func = some 5 by kernel_rfl).symm.trans hf) |>.symm
      obtain rfl : fn = Tryd.f5 := (Option.some.inj (Tryd.func5.symm.trans hfn)).symm
      exact ⟨by kernel_rfl, fun j t ht => by
        have ht' : (#[30, 30, 22] : Array TypeId)[j]? = some t := ht
        have hm : t ∈ [30, 30, 22] := by simpa using Array.mem_of_getElem? ht'
        have hall : ([30, 30, 22].all fun u => !Tryd.prog.wantsStandIn u) = true := by kernel_rfl
        exact (show Tryd.prog.wantsStandIn t = false by simpa using List.all_eq_true.1 hall t hm)⟩)
    (by kernel_rfl)
#print axioms walApartCard_holds
end Go.Proofs.YteidfcaciadgpaaDoor
