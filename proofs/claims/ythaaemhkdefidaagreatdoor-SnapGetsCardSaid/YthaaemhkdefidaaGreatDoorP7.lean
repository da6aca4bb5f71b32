/- Contracts of functions of the program, and the laws that stand on them: what each function answers, whatever its arguments. -/
import Derived.Test.YthaaemhkdefidaaGreatDoorP5
set_option linter.unusedSectionVars false
set_option linter.unnecessarySimpa false
namespace Go.Proofs.YthaaemhkdefidaaGreatDoor
set_option linter.unusedSimpArgs false
set_option linter.unusedVariables false
set_option maxRecDepth 100000
set_option maxHeartbeats 8000000
open Go Go.VA
/-! ### the document's example; what is too great -/
def st0 : St := ⟨1, 2, []⟩
theorem aPutEx : ACall Tryz.prog gl 14 [.ag [.v (.int .u64 1), .v (.int .u64 2), .v (.slice none 0 0)]] [] (.c (.sl false 1 43 (rB (fmS st0)))) := by
 have e0 : inH st0 0 = [1, 2, 0] := by decide +kernel
 have h := ACall.of_gcall (gStPutG st0 (by decide +kernel) ⟨by decide, by decide, by decide, by decide, fun e he => by simp [st0] at he⟩ ⟨by decide, by decide⟩ (fun c hc => by
  obtain rfl : c = 0 := by
   have : c ≤ 0 := hc
   omega
  rw [e0]; decide) (by
  show Bys (inH st0 0)
  rw [e0]
  intro x hx; revert x; decide) (fun c n F hc => absurd hc (Nat.not_lt_zero _)))
 have e : (fun j => rB (fmS st0) (0 + j)) = rB (fmS st0) := by funext j; rw [Nat.zero_add]
 rw [e] at h
 rw [show (fmS st0).length = 43 from by rw [fmS_len]; decide +kernel] at h
 exact h.le ⟨leAg ⟨LeC.refl _, LeC.refl _, LeC.nil rfl, trivial⟩, trivial⟩
def exL (d : Nat → UInt8) : List Int := bytesL mgS ++ be4L 3 ++ sumL d ++ [1, 2, 0]
theorem exL_eq : ∃ d, fmS st0 = exL d := ⟨shaA (baL (inS st0)), by
 have e : inS st0 = [1, 2, 0] := by decide +kernel
 unfold fmS wrapL exL
 rw [show (inS st0).length = 3 from by rw [e]; rfl, e]⟩
theorem exL_m (d : Nat → UInt8) : bytesOf (Int.toNat 4 - 0) (fun i => rB (exL d) (0 + i)) = { data := #[115, 115, 116, 49] } := by kernel_rfl
theorem exL_7 (d : Nat → UInt8) : (exL d).getD (Int.toNat 7) 0 = 3 := by kernel_rfl
theorem exL_40 (d : Nat → UInt8) : (exL d).getD (Int.toNat 40) 0 = 1 := by kernel_rfl
theorem exL_41 (d : Nat → UInt8) : (exL d).getD (Int.toNat 41) 0 = 2 := by kernel_rfl
theorem exL_42 (d : Nat → UInt8) : (exL d).getD (Int.toNat 42) 0 = 0 := by kernel_rfl
theorem isRB {L : List Int} (hb : Bys L) (n : Nat) (g : Nat → Nat) (hg : ∀ i, i < n → g i < L.length) : isBytes n (fun i => rB L (g i)) := fun i hi => by
 have := isB n (baL L) g i hi
 show ∃ x, rB L (g i) = _
 rw [rB_strO hb (hg i hi)]
 exact this
theorem aAwakeS : ACall Tryz.prog gl 10 [] [] (boolA true) := by
 have P := aPutEx
 have hf : (fmS st0).length = 43 := by rw [fmS_len]; decide +kernel
 have ok0 : okSt st0 = true := by decide +kernel
 have r0 : RgSt st0 := ⟨by decide, by decide, by decide, by decide, fun e he => by simp [st0] at he⟩
 have hbys : Bys (fmS st0) := bys_wrap (by intro x hx; revert x; decide +kernel) (by
  show Bys (inH st0 0)
  rw [show inH st0 0 = [1, 2, 0] from by decide +kernel]
  intro x hx; revert x; decide)
 have hI : isBytes (Int.toNat 4 - 0) (fun i => rB (fmS st0) (0 + i)) := isRB hbys _ (fun i => 0 + i) (fun i hi => by rw [hf]; have : i < 4 := hi; omega)
 refine acall_of_vc htb hmix (f := 10) rfl rfl rfl (by kernel_rfl) rfl rfl ?_; conv => whnf
 repeat' (first | (refine Exists.intro _ (And.intro (P) ?_); conv => whnf) | (refine And.intro ?_ ?_; (focus (first | (first | exact chainI hI | fail) | (refine chainI ?_; (first | decide | fail)) | fail)); conv => whnf) | ((with_reducible refine xc_pure ?_); conv => whnf))
 obtain ⟨d, hd⟩ := exL_eq
 refine leB ?_
 rw [hd, exL_m, exL_7, exL_40, exL_41, exL_42, beq_self_eq_true]
 rfl
end Go.Proofs.YthaaemhkdefidaaGreatDoor
