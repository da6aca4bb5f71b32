/- Contracts of functions of the program, and the laws that stand on them: what each function answers, whatever its arguments. -/
import Derived.Test.YtpnapenjamcilaaDoorSj
import Derived.Test.YtpnapenjamcilaaDoorVD
import Derived.ChangeMaps5
import Derived.Carry
import Derived.Test.YtpnapenjamcilaaDoorTie
import Derived.Test.YtpnapenjamcilaaDoorCards
set_option linter.unusedSectionVars false
set_option linter.unnecessarySimpa false
namespace Go.Proofs.YtpnapenjamcilaaDoor
set_option linter.unusedSimpArgs false
set_option linter.unusedVariables false
set_option maxRecDepth 100000
set_option maxHeartbeats 8000000
open Go Go.VA Go.RowKit Go.ChangeShapes Go.WideShapes Go.ChangeAt
theorem own : ownKnob Tryd.prog.godebug = none := by kernel_rfl
theorem laidOut : laidOutB Tryd.prog = true := by kernel_rfl
def kI : List Int := kN.map Int.ofNat
def bI : List Int := bN.map Int.ofNat
abbrev nmR : String := Rows.shaNilRow.named.getD 1 ""
abbrev nmB : String := Rows.shaNilRow.named.getD 0 ""
abbrev laid2 : List (String × DataW Unit) := [(nmR, .agg (kI.map fun i => .lit (.int .u32 i))), (nmB, .agg (bI.map fun i => .lit (.int .u32 i)))]
theorem laid_eq : Rows.shaNilRow.laid = laid2 := rfl
theorem kN_len : kN.length = 64 := by decide
theorem bN_len : bN.length = 8 := by decide
theorem kN_lt : ∀ i, i < 64 → kN.getD i 0 < 4294967296 := by decide
theorem bN_lt : ∀ i, i < 8 → bN.getD i 0 < 4294967296 := by decide
theorem cells_k : rndC = kI.map fun i => .v (.int .u32 i) := by
  refine List.ext_getElem? fun i => ?_
  by_cases h : i < 64
  · rw [arrC_get, if_pos h, List.getElem?_map, show kI = kN.map Int.ofNat from rfl, List.getElem?_map, List.getElem?_eq_getElem (by rw [kN_len]; exact h)]
    simp only [Option.map_some, cw, wI_def, kT, BitVec.toNat_ofNat]
    rw [Nat.mod_eq_of_lt (kN_lt i h), List.getD_eq_getElem?_getD, List.getElem?_eq_getElem (by rw [kN_len]; exact h)]
    rfl
  · rw [List.getElem?_eq_none (by rw [arrC_length]; omega), List.getElem?_eq_none (by simp [kI, kN_len]; omega)]
theorem cells_b : cW8 bT = bI.map fun i => .v (.int .u32 i) := by
  have H : ∀ i, i < 8 → wI (bT i) = (bN.getD i 0 : Nat) := fun i hi => by
    rw [wI_def, bT, BitVec.toNat_ofNat, Nat.mod_eq_of_lt (bN_lt i hi)]
  simp only [cW8, cw, H 0 (by decide), H 1 (by decide), H 2 (by decide), H 3 (by decide), H 4 (by decide), H 5 (by decide), H 6 (by decide), H 7 (by decide)]
  rfl
theorem glOk_laid {W : World} (h : laidMetH Tryd.prog Rows.shaNilRow.laid W) : GlOk gl (S0 W) := by
  rw [laid_eq, MakeChecks.laidMetH_plain _ _ _ (by kernel_rfl)] at h
  obtain ⟨ps, hl, _⟩ := h
  obtain ⟨h1, q, hl2⟩ := laid_ints htb (k := .u32) (n := 64) (e := 51) (t := 73) (g := 1) rfl rfl rfl (by kernel_rfl) (by kernel_rfl) hl
  obtain ⟨h0, _⟩ := laid_ints htb (k := .u32) (n := 8) (e := 51) (t := 55) (g := 0) rfl rfl rfl (by kernel_rfl) (by kernel_rfl) hl2
  intro g
  match g with
  | 0 => exact (congrArg (RepCs _ _ 0) cells_b).mpr h0
  | 1 => exact (congrArg (RepCs _ _ 0) cells_k).mpr h1
  | _ + 2 => simp [gl, RepCs]
theorem door_met (os : Os) (args : Array Value) : laidMetH Tryd.prog Rows.shaNilRow.laid ((World.doorLaid Tryd.prog 19 os).forCall (fun _ _ => 0) ⟨#[], args, []⟩).memory :=
  laidMetH_of_parts3 (fuel := 8) (laidMet_of_run' 8 (by kernel_rfl) (by kernel_rfl)) (by kernel_rfl) (by kernel_rfl)
set_option maxRecDepth 100000 in
theorem shaNil_lifted (os : Os) (started : os.Started) (H : Type) (enc : TypeId × Value → H) :
    ReturnsInHanded {} Tryd.checked os 5 .any (fun w args => (Rows.shaNilSpec.pre enc Tryd.prog Tryd.f5 Rows.shaNilRow.domain false w args ∧ laidMetH Tryd.prog Rows.shaNilRow.laid w) ∧ sizedMet enc Tryd.prog Tryd.f5 (OpenSpec.ofChange Rows.shaNilSpec) false w args) (Rows.shaNilSpec.post enc Tryd.prog Tryd.f5 false true false false) := by
  refine law_liftedL Rows.shaNilRow.laid os started own (by kernel_rfl) Tryd.func5 laidOut (by kernel_rfl) rfl rfl rfl (tb := 4) (by kernel_rfl) (fun ds h => ?_)
    (ChangeSpec.witness_shaped (enc := enc) (C := Tryd.checked) (os := os) (X := fun w _ => laidMetH Tryd.prog Rows.shaNilRow.laid w) false (World.doorLaid Tryd.prog 19 os) #[.slice none 0 0] 8 rfl (World.shaped_of_RefB (by kernel_rfl) (by kernel_rfl)) (by kernel_rfl) (by kernel_rfl) (by kernel_rfl) (door_met os _)) ?_
  · match ds, h with | [_], _ => rfl
  · intro W base args ds ps hval hA0 hs hL
    have hA : DataW.TrodAll enc Tryd.prog W 0 (fun _ => true) true [22] args.toList ds ps := hA0
    obtain ⟨v0, d0, rfl, rfl, h0⟩ := trodAll_one hA
    obtain ⟨s, e0⟩ := open_bytes htb (t := 22) (e := 5) rfl rfl rfl rfl (hval 0 22 v0 rfl rfl) h0 (hs 0 22 d0 rfl rfl)
    exact acall_true (aNil false _ _) W _ (glOk_laid hL) ⟨_, _, rfl, e0, rfl⟩
theorem shaNil_holds : Rows.ShaNilSaid :=
  OpenClaim.holds_of_wide 5 Tryd.f5 rfl rfl rfl rfl rfl rfl rfl ⟨rfl, rfl, rfl, rfl, rfl⟩ rfl rfl rfl rfl rfl (by kernel_rfl) Tryd.func5 (by kernel_rfl)
    (of_decide_eq_true (by kernel_rfl)) (by unfold Func.isWrapper; rw [if_neg (by decide +kernel)]; exact ⟨rfl, rfl⟩)
    (fun os started H enc _ => shaNil_lifted os started H enc)
theorem shaNilCard_holds : Rows.ShaNilCardSaid :=
  Claim7.holds_tied_plain_at .later [] [.data, .data] true (true, "4ca3d889da210cb43c6a61a2d049359a7945a6de1e862ab237ab2b0cbaf27429") false
    shaNil_holds (fun _ h => by cases h) (by kernel_rfl) (fun _ h => by cases h) shaNil_row_tie rfl ⟨rfl, rfl⟩ (by kernel_rfl) rfl
    (fun f fn hf hfn => by
      obtain rfl : f = 5 := Option.some.inj ((show Tryd.prog.funcNamed Rows.shaNilRow.func = some 5 by kernel_rfl).symm.trans hf) |>.symm
      obtain rfl : fn = Tryd.f5 := (Option.some.inj (Tryd.func5.symm.trans hfn)).symm
      exact ⟨by kernel_rfl, fun j t ht => by
        have ht' : (#[22] : Array TypeId)[j]? = some t := ht
        have hm : t ∈ [22] := by simpa using Array.mem_of_getElem? ht'
        have hall : ([22].all fun u => !Tryd.prog.wantsStandIn u) = true := by kernel_rfl
        exact (show Tryd.prog.wantsStandIn t = false by simpa using List.all_eq_true.1 hall t hm)⟩)
    (by kernel_rfl)
#print axioms shaNilCard_holds
end Go.Proofs.YtpnapenjamcilaaDoor
