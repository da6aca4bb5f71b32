/- Contracts of functions of the program, and the laws that stand on them: what each function answers, whatever its arguments. -/
import Derived.Test.YtpnapenjamcilaaDoorSj
import Derived.Test.YtpnapenjamcilaaDoorVD
import Derived.ChangeMaps5
import Derived.Carry
import Derived.Test.YtpnapenjamcilaaDoorTie
import Derived.Test.YtpnapenjamcilaaDoorCards
set_option linter.unusedSectionVars false
set_option linter.unnecessarySimpa false
namespace Go.Proofs.YtpnapenjamcilaaDoor
set_option linter.unusedSimpArgs false
set_option linter.unusedVariables false
set_option maxRecDepth 100000
set_option maxHeartbeats 8000000
open Go Go.VA Go.RowKit Go.ChangeShapes Go.WideShapes Go.ChangeAt
theorem own : ownKnob Tryd.prog.godebug = none := by kernel_rfl
theorem laidOut : laidOutB Tryd.prog = true := by kernel_rfl
def kI : List Int := kN.map Int.ofNat
def bI : List Int := bN.map Int.ofNat
abbrev nmR : String := Rows.shaNilRow.named.getD 1 ""
abbrev nmB : String := Rows.shaNilRow.named.getD 0 ""
abbrev laid2 : List (String × DataW Unit) := [(nmR, .agg (kI.map fun i => .lit (.int .u32 i))), (nmB, .agg (bI.map fun i => .lit (.int .u32 i)))]
theorem laid_eq : Rows.shaNilRow.laid = laid2 := rfl
theorem kN_len : kN.length = 64 := by decide
theorem kN_lt : ∀ i, i < 64 → kN.getD i 0 < 4294967296 := by decide
theorem bN_lt : ∀ i, i < 8 → bN.getD i 0 < 4294967296 := by decide
theorem cells_k : rndC = kI.map fun i => .v (.int .u32 i) := by
  refine List.ext_getElem? fun i => ?_
  by_cases h : i < 64
  · rw [arrC_get, if_pos h, List.getElem?_map, show kI = kN.map Int.ofNat from rfl, List.getElem?_map, List.getElem?_eq_getElem (by rw [kN_len]; exact h)]
    simp only [Option.map_some, cw, wI_def, kT, BitVec.toNat_ofNat]
    rw [Nat.mod_eq_of_lt (kN_lt i h), List.getD_eq_getElem?_getD, List.getElem?_eq_getElem (by rw [kN_len]; exact h)]
    rfl
  · rw [List.getElem?_eq_none (by rw [arrC_length]; omega), List.getElem?_eq_none (by simp [kI, kN_len]; omega)]
theorem cells_b : cW8 bT = bI.map fun i => .v (.int .u32 i) := by
  have H : ∀ i, i < 8 → wI (bT i) = (bN.getD i 0 : Nat) := fun i hi => by
    rw [wI_def, bT, BitVec.toNat_ofNat, Nat.mod_eq_of_lt (bN_lt i hi)]
  simp only [cW8, cw, H 0 (by decide), H 1 (by decide), H 2 (by decide), H 3 (by decide), H 4 (by decide), H 5 (by decide), H 6 (by decide), H 7 (by decide)]
  rfl
theorem glOk_laid {W : World} (h : laidMetH Tryd.prog Rows.shaNilRow.laid W) : GlOk gl (S0 W) := by
  rw [laid_eq, MakeChecks.laidMetH_plain _ _ _ (by kernel_rfl)] at h
  obtain ⟨ps, hl, _⟩ := h
  obtain ⟨h1, q, hl2⟩ := laid_ints htb (k := .u32) (n := 64) (e := 51) (t := 73) (g := 1) rfl rfl rfl (by kernel_rfl) (by kernel_rfl) hl
  obtain ⟨h0, _⟩ := laid_ints htb (k := .u32) (n := 8) (e := 51) (t := 55) (g := 0) rfl rfl rfl (by kernel_rfl) (by kernel_rfl) hl2
  intro g
  match g with
  | 0 => exact (congrArg (RepCs _ _ 0) cells_b).mpr h0
  | 1 => exact (congrArg (RepCs _ _ 0) cells_k).mpr h1
  | _ + 2 => simp [gl, RepCs]
theorem door_met (os : Os) (args : Array Value) : laidMetH Tryd.prog Rows.shaNilRow.laid ((World.doorLaid Tryd.prog 19 os).forCall (fun _ _ => 0) ⟨#[], args, []⟩).memory :=
  laidMetH_of_parts3 (fuel := 8) (laidMet_of_run' 8 (by kernel_rfl) (by kernel_rfl)) (by kernel_rfl) (by kernel_rfl)
end Go.Proofs.YtpnapenjamcilaaDoor
