/- Contracts of functions of the program, and the laws that stand on them: what each function answers, whatever its arguments. -/
import Derived.Test.YtcgcamfhollnlaaGreatDoorE17
import Derived.Test.YtcgcamfhollnlaaGreatDoorE11
import Derived.Test.YtcgcamfhollnlaaGreatDoorE18
set_option linter.unusedSectionVars false
set_option linter.unnecessarySimpa false
namespace Go.Proofs.YtcgcamfhollnlaaGreatDoor
set_option linter.unusedSimpArgs false
set_option linter.unusedVariables false
set_option maxRecDepth 100000
set_option maxHeartbeats 8000000
open Go Go.VA
theorem aReqsNo (t : Bool) (s : ByteArray) (r : Rq) (rg : RgRq r) (ho : okRq r = false) : ACall Tryz.prog gl 3 [.c (.sl t 1 s.size (strCells s)), .ag (cRq r)] [] (boolA true) := by
  have GR := aGreatRq r
  by_cases hs : ((s.size : Int) > 2000 ∨ greatRq r = true)
  · refine acall_of_vc htb hmix (f := 3) rfl rfl rfl (by kernel_rfl) rfl rfl ?_; conv => whnf
    repeat' (first | ((with_reducible refine GOr.l ?_); (conv => whnf); refine Exists.intro _ (And.intro (chainI (GR)) ?_); conv => whnf) | (refine Exists.intro _ (And.intro (aAwakeE) ?_); conv => whnf) | (refine And.intro (fun h => ?_) (fun h => ?_) <;> (first | skip) <;> (first | (conv => whnf))) | ((with_reducible refine xc_pure ?_); conv => whnf))
    · exact leB rfl
    · exfalso
      simp only [Bool.or_eq_false_iff, decide_eq_false_iff_not] at h
      rcases hs with hs | hs
      · exact h.1 hs
      · rw [h.2] at hs; exact absurd hs (by decide)
  · have h1 : s.size ≤ 2000 := by omega
    have h2 : greatRq r = false := by
      cases h : greatRq r
      · rfl
      · exact absurd (.inr h) hs
    rw [h2] at GR
    have K := gKept t s (by omega)
    have L := gLent t s (by omega)
    have KR := aCheckRqR r rg.y0
    have CK := aCheckRq r
    have el : ∀ j, j < s.size → lentF s (0 + j) = strCells s j := fun j hj => by unfold lentF; rw [if_pos (by omega), Nat.zero_add]
    have ntL : ∀ i, i < s.size → NtCs (lentF s (0 + i)) := fun j hj => by
      unfold lentF
      rw [if_pos (by omega)]
      exact ⟨trivial, trivial⟩
    have G1 : ACall Tryz.prog gl 10 [.c (.sl true 1 s.size (fun j => lentF s (0 + j)))] [] (.tup [.ag (cRq (gRq s).1), intA .i64 (gRq s).2.1, intA .i64 (gRq s).2.2]) := (aGetRq true s).le ⟨leSl rfl el, trivial⟩
    have G2 := aGetRqR t s
    have SM := aSameRqR (gRq s).1 (gRq s).1
    rw [sameRq_self] at SM
    have ntG := NoTag.rq (gRq s).1 (gRq s).2.1 (gRq s).2.2
    · rw [ho] at KR CK
      have P := ACall.of_gcall (gPutRqNo true s.size (fun j => lentF s (0 + j)) r ntL (by omega) ho)
      have SR := aSameRqR (gRq s).1 r
      have ntP : NoTag (.c (.sl false 1 s.size (fun j => lentF s (0 + (0 + j))))) := NoTag.cc ⟨rfl, fun j hj => by
        show NtCs (lentF s (0 + (0 + j)))
        unfold lentF
        rw [if_pos (by omega)]
        exact ⟨trivial, trivial⟩⟩
      have S0 := aSameX false true s.size (0 + s.size) (fun j => lentF s (0 + (0 + j))) (fun j => catF 0 0 (nthC []) (strCells s) (0 + j)) (byteN s) (byteN s) (fun j hj => by
          show lentF s (0 + (0 + j)) = _
          rw [Nat.zero_add]; exact el j hj) (fun j hj => by
          show catF 0 0 (nthC []) (strCells s) (0 + j) = _
          unfold catF
          rw [if_neg (Nat.not_lt_zero _), Nat.zero_add, Nat.sub_zero]; rfl)
      have es : sameF s.size (0 + s.size) (byteN s) (byteN s) = true := by
        unfold sameF; rw [decide_eq_true_eq]; exact ⟨by omega, fun _ _ => rfl⟩
      rw [es] at S0
      have B1 : (0 + s.size) * (tb 5).bytes ≤ 140737488355328 := by show _ * 1 ≤ _; omega
      have B3 : (0 + (0 + s.size - ((s.size : Int)).toNat)) * (tb 5).bytes ≤ 140737488355328 := by show _ * 1 ≤ _; omega
      have B4 : (0 + (0 + s.size - ((s.size : Int)).toNat) + s.size) * (tb 5).bytes ≤ 140737488355328 := by show _ * 1 ≤ _; omega
      have hg1 : ((gRq s).2.1 != (gRq s).2.1) = false := by simp
      have hg2 : ((gRq s).2.2 != (gRq s).2.2) = false := by simp
      have G3 := aGetWantQNo s
      refine acall_of_vc htb hmix (f := 3) rfl rfl rfl (by kernel_rfl) rfl rfl ?_; conv => whnf
      repeat' (first | ((with_reducible refine GOr.l ?_); (conv => whnf); refine Exists.intro _ (And.intro (chainI (GR)) ?_); conv => whnf) | (refine Exists.intro _ (And.intro (KR) ?_); conv => whnf) | (refine Exists.intro _ (And.intro (CK) ?_); conv => whnf) | (refine Exists.intro _ (And.intro (G1) ?_); conv => whnf) | (refine Exists.intro _ (And.intro (G3) ?_); conv => whnf) | (refine Exists.intro _ (And.intro (G2) ?_); conv => whnf) | (refine Exists.intro _ (And.intro (P) ?_); conv => whnf) | (refine Exists.intro _ (And.intro (S0) ?_); conv => whnf) | (refine Exists.intro _ (And.intro (SM) ?_); conv => whnf) | ((with_reducible refine GOr.l ?_); (conv => whnf); refine Exists.intro _ (And.intro (chainI (SR)) ?_); conv => whnf) | (refine Exists.intro _ (And.intro (aAwakeE) ?_); conv => whnf) | ((with_reducible refine GOr.l ?_); (conv => whnf); refine Exists.intro _ (And.intro (chainI (aAwakeE)) ?_); conv => whnf) | (refine And.intro (fun h => ?_) (fun h => ?_) <;> (first | skip) <;> (first | exact absurd h (by decide) | (conv => whnf))) | ((with_reducible refine Both.mk ?_ ?_) <;> conv => whnf) | ((with_reducible refine DOg.r ?_); (conv => whnf)) | ((with_reducible refine OwnOr.r (A := OwnOr (frzPs _ _ _ (fun _ _ => opBuildSlice _ _ 0 _ _)) _) ?_); (conv => whnf)) | ((with_reducible apply Drawn.one); conv => whnf) | ((with_reducible refine Then.mk' ?_); conv => whnf) | (first | exact RefS.self rfl | fail) | (refine And.intro ?_ ?_; (focus (first | (first | exact B1 | exact B3 | exact B4 | exact ntP | exact ntG | fail) | (refine chainI ?_; (first | omega | fail)) | fail)); conv => whnf) | (refine And.intro ?_ ?_; (focus (first | exact NoTag.bool | fail)); conv => whnf) | ((with_reducible refine xc_guard ?_); (first | (refine xc_g (L) false (by first | (((conv => whnf); repeat' (first | exact trivial | exact rfl | exact LeC.refl _ | ((with_reducible refine And.intro ?_ ?_) <;> conv => whnf))); done) | fail) trivial ?_) | fail); conv => whnf) | ((with_reducible refine xc_guard ?_); (first | (refine xc_g (K) false (by first | (((conv => whnf); repeat' (first | exact trivial | exact rfl | exact LeC.refl _ | exact (fun i hi => LeCs.refl _) | ((with_reducible refine And.intro ?_ ?_) <;> conv => whnf))); done) | fail) trivial ?_) | fail); conv => whnf) | ((with_reducible refine xc_pure ?_); conv => whnf) | (rw [hg1]; conv => whnf) | (rw [hg2]; conv => whnf))
      · exact absurd h (by rw [Bool.or_false]; simp; omega)
      exact leB rfl
end Go.Proofs.YtcgcamfhollnlaaGreatDoor

namespace Go.Proofs.YtcgcamfhollnlaaGreatDoor
set_option linter.unusedSimpArgs false
set_option linter.unusedVariables false
set_option maxRecDepth 100000
set_option maxHeartbeats 8000000
open Go Go.VA
theorem aWireReqs (t : Bool) (s : ByteArray) (r : Rq) (rg : RgRq r) : ACall Tryz.prog gl 3 [.c (.sl t 1 s.size (strCells s)), .ag (cRq r)] [] (boolA true) := by
  cases ho : okRq r
  · exact aReqsNo t s r rg ho
  · exact aReqsOk t s r rg ho
end Go.Proofs.YtcgcamfhollnlaaGreatDoor
