/- Contracts of functions of the program, and the laws that stand on them: what each function answers, whatever its arguments. -/
import Derived.Test.YtcgcamfhollnlaaGreatDoorE17
import Derived.Test.YtcgcamfhollnlaaGreatDoorE11
set_option linter.unusedSectionVars false
set_option linter.unnecessarySimpa false
namespace Go.Proofs.YtcgcamfhollnlaaGreatDoor
set_option linter.unusedSimpArgs false
set_option linter.unusedVariables false
set_option maxRecDepth 100000
set_option maxHeartbeats 8000000
open Go Go.VA
theorem aReqsOk (t : Bool) (s : ByteArray) (r : Rq) (rg : RgRq r) (ho : okRq r = true) : ACall Tryz.prog gl 3 [.c (.sl t 1 s.size (strCells s)), .ag (cRq r)] [] (boolA true) := by
  have GR := aGreatRq r
  by_cases hs : ((s.size : Int) > 2000 ∨ greatRq r = true)
  · refine acall_of_vc htb hmix (f := 3) rfl rfl rfl (by kernel_rfl) rfl rfl ?_; conv => whnf
    repeat' (first | ((with_reducible refine GOr.l ?_); (conv => whnf); refine Exists.intro _ (And.intro (chainI (GR)) ?_); conv => whnf) | (refine Exists.intro _ (And.intro (aAwakeE) ?_); conv => whnf) | (refine And.intro (fun h => ?_) (fun h => ?_) <;> (first | skip) <;> (first | (conv => whnf))) | ((with_reducible refine xc_pure ?_); conv => whnf))
    · exact leB rfl
    · exfalso
      simp only [Bool.or_eq_false_iff, decide_eq_false_iff_not] at h
      rcases hs with hs | hs
      · exact h.1 hs
      · rw [h.2] at hs; exact absurd hs (by decide)
  · have h1 : s.size ≤ 2000 := by omega
    have h2 : greatRq r = false := by
      cases h : greatRq r
      · rfl
      · exact absurd (.inr h) hs
    rw [h2] at GR
    have K := gKept t s (by omega)
    have L := gLent t s (by omega)
    have KR := aCheckRqR r rg.y0
    have CK := aCheckRq r
    have el : ∀ j, j < s.size → lentF s (0 + j) = strCells s j := fun j hj => by unfold lentF; rw [if_pos (by omega), Nat.zero_add]
    have ntL : ∀ i, i < s.size → NtCs (lentF s (0 + i)) := fun j hj => by
      unfold lentF
      rw [if_pos (by omega)]
      exact ⟨trivial, trivial⟩
    have G1 : ACall Tryz.prog gl 10 [.c (.sl true 1 s.size (fun j => lentF s (0 + j)))] [] (.tup [.ag (cRq (gRq s).1), intA .i64 (gRq s).2.1, intA .i64 (gRq s).2.2]) := (aGetRq true s).le ⟨leSl rfl el, trivial⟩
    have G2 := aGetRqR t s
    have SM := aSameRqR (gRq s).1 (gRq s).1
    rw [sameRq_self] at SM
    have ntG := NoTag.rq (gRq s).1 (gRq s).2.1 (gRq s).2.2
    · obtain ⟨k1, k2, hk, c1, c2⟩ := okRq_parts ho
      have b1 := check_big c1
      have b2 := check_big c2
      have hky := kyL_len hk
      have l1 := layL_big r.p
      have l2 := layL_big r.w
      have hf : (fmRq r).length = (kyL r.y).length + (layL r.p).length + (layL r.w).length + 1 := by simp only [fmRq, List.length_append, List.length_cons]; omega
      rw [ho] at KR CK
      have F := aFormRq r ho rg
      have P := ACall.of_gcall (gPutRq true s.size (fun j => lentF s (0 + j)) r ntL (by omega) ho)
      have SR := aSameRqR r r
      rw [sameRq_self] at SR
      have ntP : NoTag (.c (.sl false 1 (s.size + (fmRq r).length) fun i => catF 0 s.size (fun j => lentF s (0 + j)) (rB (fmRq r)) (0 + i))) := NoTag.cc ⟨rfl, fun j hj => by
        show NtCs (catF 0 s.size (fun j => lentF s (0 + j)) (rB (fmRq r)) (0 + j))
        unfold catF lentF
        by_cases h1 : 0 + j < s.size
        · rw [if_pos h1]
          show NtCs (if _ then _ else _)
          rw [if_pos (by omega)]
          exact ⟨trivial, trivial⟩
        · rw [if_neg h1]; exact ⟨trivial, trivial⟩⟩
      have S0 := aSameX false true (s.size + (fmRq r).length) (0 + s.size + (fmRq r).length) (fun j => catF 0 s.size (fun j => lentF s (0 + j)) (rB (fmRq r)) (0 + j)) (fun j => catF 0 (0 + s.size) (catF 0 0 (nthC []) (strCells s)) (rB (fmRq r)) (0 + j))
        (fun j => if j < s.size then byteN s j else (fmRq r).getD (j - s.size) 0) (fun j => if j < s.size then byteN s j else (fmRq r).getD (j - s.size) 0) (fun j hj => by
          show catF 0 s.size (fun j => lentF s (0 + j)) (rB (fmRq r)) (0 + j) = _
          unfold catF
          rw [Nat.zero_add]
          by_cases h : j < s.size
          · rw [if_pos h, if_pos h]; show lentF s (0 + (0 + j)) = _; rw [Nat.zero_add j]; exact el j h
          · rw [if_neg h, if_neg h]; rfl) (fun j hj => by
          show catF 0 (0 + s.size) (catF 0 0 (nthC []) (strCells s)) (rB (fmRq r)) (0 + j) = _
          unfold catF
          rw [Nat.zero_add, Nat.zero_add]
          by_cases h : j < s.size
          · rw [if_pos h, if_pos h, if_neg (Nat.not_lt_zero _), Nat.zero_add, Nat.sub_zero]; rfl
          · rw [if_neg h, if_neg h]; rfl)
      have es : sameF (s.size + (fmRq r).length) (0 + s.size + (fmRq r).length) (fun j => if j < s.size then byteN s j else (fmRq r).getD (j - s.size) 0) (fun j => if j < s.size then byteN s j else (fmRq r).getD (j - s.size) 0) = true := by
        unfold sameF; rw [decide_eq_true_eq]; exact ⟨by omega, fun _ _ => rfl⟩
      rw [es] at S0
      have B1 : (0 + s.size) * (tb 5).bytes ≤ 140737488355328 := by show _ * 1 ≤ _; omega
      have B2 : (0 + s.size + (fmRq r).length) * (tb 5).bytes ≤ 140737488355328 := by show _ * 1 ≤ _; omega
      refine acall_of_vc htb hmix (f := 3) rfl rfl rfl (by kernel_rfl) rfl rfl ?_; conv => whnf
      have hg1 : ((gRq s).2.1 != (gRq s).2.1) = false := by simp
      have hg2 : ((gRq s).2.2 != (gRq s).2.2) = false := by simp
      have B3 : (0 + (0 + s.size + (fmRq r).length - ((s.size : Int)).toNat)) * (tb 5).bytes ≤ 140737488355328 := by show _ * 1 ≤ _; omega
      have B4 : (0 + (0 + s.size + (fmRq r).length - ((s.size : Int)).toNat) + s.size) * (tb 5).bytes ≤ 140737488355328 := by show _ * 1 ≤ _; omega
      have G3 := aGetWantQ s r ho rg
      have ntR := NoTag.rq r ((fmRq r).length : Int) 0
      repeat' (first | ((with_reducible refine GOr.l ?_); (conv => whnf); refine Exists.intro _ (And.intro (chainI (GR)) ?_); conv => whnf) | (refine Exists.intro _ (And.intro (KR) ?_); conv => whnf) | (refine Exists.intro _ (And.intro (CK) ?_); conv => whnf) | (refine Exists.intro _ (And.intro (F) ?_); conv => whnf) | (refine Exists.intro _ (And.intro (G1) ?_); conv => whnf) | (refine Exists.intro _ (And.intro (G3) ?_); conv => whnf) | (refine Exists.intro _ (And.intro (G2) ?_); conv => whnf) | (refine Exists.intro _ (And.intro (P) ?_); conv => whnf) | (refine Exists.intro _ (And.intro (S0) ?_); conv => whnf) | (refine Exists.intro _ (And.intro (SM) ?_); conv => whnf) | ((with_reducible refine GOr.l ?_); (conv => whnf); refine Exists.intro _ (And.intro (chainI (SR)) ?_); conv => whnf) | (refine Exists.intro _ (And.intro (aAwakeE) ?_); conv => whnf) | ((with_reducible refine GOr.l ?_); (conv => whnf); refine Exists.intro _ (And.intro (chainI (aAwakeE)) ?_); conv => whnf) | (refine And.intro (fun h => ?_) (fun h => ?_) <;> (first | skip) <;> (first | exact absurd h (by decide) | (conv => whnf))) | ((with_reducible refine Both.mk ?_ ?_) <;> conv => whnf) | ((with_reducible refine DOg.r ?_); (conv => whnf)) | ((with_reducible refine OwnOr.r (A := OwnOr (frzPs _ _ _ (fun _ _ => opBuildSlice _ _ 0 _ _)) _) ?_); (conv => whnf)) | ((with_reducible apply Drawn.one); conv => whnf) | ((with_reducible refine Then.mk' ?_); conv => whnf) | (first | exact RefS.self rfl | fail) | (refine And.intro ?_ ?_; (focus (first | (first | exact B1 | exact B2 | exact B3 | exact B4 | exact ntP | exact ntG | exact ntR | fail) | (refine chainI ?_; (first | omega | fail)) | fail)); conv => whnf) | (refine And.intro ?_ ?_; (focus (first | exact NoTag.bool | fail)); conv => whnf) | ((with_reducible refine xc_guard ?_); (first | (refine xc_g (L) false (by first | (((conv => whnf); repeat' (first | exact trivial | exact rfl | exact LeC.refl _ | ((with_reducible refine And.intro ?_ ?_) <;> conv => whnf))); done) | fail) trivial ?_) | fail); conv => whnf) | ((with_reducible refine xc_guard ?_); (first | (refine xc_g (K) false (by first | (((conv => whnf); repeat' (first | exact trivial | exact rfl | exact LeC.refl _ | exact (fun i hi => LeCs.refl _) | ((with_reducible refine And.intro ?_ ?_) <;> conv => whnf))); done) | fail) trivial ?_) | fail); conv => whnf) | ((with_reducible refine xc_pure ?_); conv => whnf) | (rw [hg1]; conv => whnf) | (rw [hg2]; conv => whnf))
      · exact absurd h (by rw [Bool.or_false]; simp; omega)
      refine leB ?_
      have eW : IntKind.i64.wrap (((0 + s.size + (fmRq r).length : Nat) : Int) - (s.size : Int)) = ((fmRq r).length : Int) := by rw [wrap64 (by omega) (by omega)]; omega
      rw [eW]
      simp
end Go.Proofs.YtcgcamfhollnlaaGreatDoor
