/- Contracts of functions of the program, and the laws that stand on them: what each function answers, whatever its arguments. -/
import Derived.Test.YteidfcaciadgpaaDoorW6
set_option linter.unusedSectionVars false
set_option linter.unnecessarySimpa false
namespace Go.Proofs.YteidfcaciadgpaaDoor
set_option linter.unusedSimpArgs false
set_option linter.unusedVariables false
set_option maxRecDepth 100000
set_option maxHeartbeats 8000000
open Go Go.VA
theorem sub_byte (s : ByteArray) (a n i : Nat) (hi : i < n) : byteN (subS s a n) i = byteN s (a + i) := by
  unfold byteN
  rw [sub_get s a n i hi]
theorem rW_eq {s : ByteArray} (hs : s.size ≤ 140737488355328) : rW s = wGet s := by
  obtain ⟨eE, eL⟩ := be4_n s
  have hl := be4_lt s
  have hxs : (wX s).size = be4 s := sub_size s 40 _
  unfold rW wGet
  by_cases h1 : decide ((s.size : Int) < 40) = true
  · rw [ifT h1, ifT h1]
  have h1 : decide ((s.size : Int) < 40) = false := by simpa using h1
  rw [ifF h1, ifF h1]
  have h40 := of_decide_eq_false h1
  by_cases h2 : (!preB s) = true
  · rw [ifT h2, ifT h2]
  have h2 : (!preB s) = false := by simpa using h2
  rw [ifF h2, ifF h2]
  have w1 : IntKind.i64.wrap ((s.size : Int) - 40) = ((s.size - (40 : Int).toNat : Nat) : Int) := by rw [wrap64 (by omega) (by omega)]; omega
  rw [w1]
  by_cases h3 : decide (IntKind.u64.wrap ((s.size - (40 : Int).toNat : Nat) : Int) < (be4 s : Int)) = true
  · rw [ifT h3, ifT h3]
  have h3 : decide (IntKind.u64.wrap ((s.size - (40 : Int).toNat : Nat) : Int) < (be4 s : Int)) = false := by simpa using h3
  rw [ifF h3, ifF h3]
  have hfit : 40 + (be4 s : Int) ≤ s.size := by
    rw [wrapU (by omega) (by omega)] at h3
    have := of_decide_eq_false h3
    omega
  by_cases h4 : (!sumB s (wX s)) = true
  · rw [ifT h4, ifT h4]
  have h4 : (!sumB s (wX s)) = false := by simpa using h4
  rw [ifF h4, ifF h4]
  have hcond : ((wN (wX s)).2.2 != 0 || decide ((wN (wX s)).2.1 ≥ (dL s : Int))) = ((wN (wX s)).2.2 != 0 || (wN (wX s)).2.1 == ((wX s).size : Int)) := by
    by_cases he : ((wN (wX s)).2.2 != 0) = true
    · rw [he]; rfl
    · have he : ((wN (wX s)).2.2 != 0) = false := by simpa using he
      rw [he, Bool.false_or, Bool.false_or, eL, hxs]
      have o := gS_ok (wX s) 0 (wX s).size 0 0 (Int.le_refl 0) (z0 he)
      change ((0 : Nat) : Int) < (wN (wX s)).2.1 ∧ (wN (wX s)).2.1 ≤ ((0 : Nat) : Int) + (((wX s).size : Nat) : Int) ∧ _ at o
      rw [Bool.eq_iff_iff, decide_eq_true_eq, beq_iff_eq]
      omega
  rw [hcond]
  by_cases h5 : ((wN (wX s)).2.2 != 0 || (wN (wX s)).2.1 == ((wX s).size : Int)) = true
  · rw [ifT h5]
    have e : wIn (wX s) = (it0, false) := by unfold wIn; rw [ifT h5]
    rw [e]; rfl
  have h5 : ((wN (wX s)).2.2 != 0 || (wN (wX s)).2.1 == ((wX s).size : Int)) = false := by simpa using h5
  rw [ifF h5]
  have R := wN_rg (x := wX s) (by omega) h5
  have ey : wY (wX s) = dY (wX s) := ky_eq (by rw [sub_size]; omega)
  have ei : wI (wX s) = dI s := by
    unfold wI dI
    rw [ey, show byteN (wX s) (wN (wX s)).2.1.toNat = byteN s ((40 : Int).toNat + (wN (wX s)).2.1.toNat) from sub_byte s 40 _ _ (by omega)]
  have e : wIn (wX s) = (dI s, (dY (wX s)).2.2 == 0 && IntKind.i64.wrap (wO (wX s) + (dY (wX s)).2.1) == (dL s : Int) && okIt (dI s)) := by unfold wIn; rw [ifF h5, ey, ei, eL, hxs]
  rw [e]
  by_cases h6 : ((dY (wX s)).2.2 != 0 || IntKind.i64.wrap (wO (wX s) + (dY (wX s)).2.1) != (dL s : Int) || !okIt (dI s)) = true
  · rw [ifT h6]
    rw [ifT]
    cases q1 : ((dY (wX s)).2.2 == 0) <;> cases q2 : (IntKind.i64.wrap (wO (wX s) + (dY (wX s)).2.1) == (dL s : Int)) <;> cases q3 : okIt (dI s) <;> first | rfl | (simp only [bne, q1, q2, q3] at h6; exact absurd h6 (by decide))
  have h6 : ((dY (wX s)).2.2 != 0 || IntKind.i64.wrap (wO (wX s) + (dY (wX s)).2.1) != (dL s : Int) || !okIt (dI s)) = false := by simpa using h6
  rw [ifF h6, ifF, eE]
  simp only [bne, Bool.or_eq_false_iff, Bool.not_eq_false'] at h6
  simp [h6.1.1, h6.1.2, h6.2]
end Go.Proofs.YteidfcaciadgpaaDoor
