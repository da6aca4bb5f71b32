/- Contracts of functions of the program, and the laws that stand on them: what each function answers, whatever its arguments. -/
import Derived.Test.YthaaemhkdefidaaGreatDoorP7
set_option linter.unusedSectionVars false
set_option linter.unnecessarySimpa false
namespace Go.Proofs.YthaaemhkdefidaaGreatDoor
set_option linter.unusedSimpArgs false
set_option linter.unusedVariables false
set_option maxRecDepth 100000
set_option maxHeartbeats 8000000
open Go Go.VA
/-! ### law SnapPuts -/
theorem aSnapPuts (s : St) (r : RgSt s) : ACall Tryz.prog gl 3 [.ag (cSt s)] [] (boolA true) := by
 have G := aGreatS s
 have C := aCheckS s
 have D := aCheckSR s (fun e he => (r.l e he).y0)
 have A := aAwakeS
 cases ho : okSt s
 ·rw [ho] at C D
  have P := aStPutNo s ho
  have F := aFormSNo s ho (fun e he => (r.l e he).y0)
  have S : ACall Tryz.prog gl 13 [.c (.v (.slice none 0 0)), .c (.v (.slice none 0 0))] [] (boolA true) := by
   have h := aSameX false false 0 0 (fun _ => []) (fun _ => []) (fun _ => 0) (fun _ => 0) (fun i hi => absurd hi (Nat.not_lt_zero _)) (fun i hi => absurd hi (Nat.not_lt_zero _))
   have e : sameF 0 0 (fun _ => 0) (fun _ => 0) = true := by unfold sameF; simp
   rw [e] at h
   refine h.leA fun B S us hu => ?_
   simp only [RelVs] at hu ⊢
   obtain ⟨u, r, e1, h1, u2, r2, e2, h2, e3⟩ := hu
   refine ⟨u, r, e1, ?_, u2, r2, e2, ?_, e3⟩
   ·simp only [RelV, RepC] at h1 ⊢
    exact ⟨none, 0, h1.1, ⟨Nat.le_refl _, by decide⟩, .inl trivial⟩
   ·simp only [RelV, RepC] at h2 ⊢
    exact ⟨none, 0, h2.1, ⟨Nat.le_refl _, by decide⟩, .inl trivial⟩
  refine acall_of_vc htb hmix (f := 3) rfl rfl rfl (by kernel_rfl) rfl rfl ?_; conv => whnf
  repeat' (first | (refine Exists.intro _ (And.intro (G) ?_); conv => whnf) | (refine Exists.intro _ (And.intro (C) ?_); conv => whnf) | (refine Exists.intro _ (And.intro (chainI (D)) ?_); conv => whnf) | (refine Exists.intro _ (And.intro (chainI (P)) ?_); conv => whnf) | (refine Exists.intro _ (And.intro (chainI (F)) ?_); conv => whnf) | (refine Exists.intro _ (And.intro (chainI (S)) ?_); conv => whnf) | (refine Exists.intro _ (And.intro (chainI (A)) ?_); conv => whnf) | (refine Exists.intro _ (And.intro (A) ?_); conv => whnf) | (refine And.intro (fun h => ?_) (fun h => ?_) <;> (first | skip) <;> (first | (conv => whnf))) | ((with_reducible refine DOg.l ?_); (conv => whnf)) | ((with_reducible refine xc_pure ?_); conv => whnf))
  ·exact Le.refl _
  ·exact Le.refl _
 ·rw [ho] at C D
  have P := aStPut s ho r
  have F := aFormS s ho r
  have S := aSameX false false (fmS s).length (fmS s).length (rB (fmS s)) (rB (fmS s)) (fun i => (fmS s).getD i 0) (fun i => (fmS s).getD i 0) (fun _ _ => rfl) (fun _ _ => rfl)
  have e : sameF (fmS s).length (fmS s).length (fun i => (fmS s).getD i 0) (fun i => (fmS s).getD i 0) = true := by unfold sameF; simp
  rw [e] at S
  refine acall_of_vc htb hmix (f := 3) rfl rfl rfl (by kernel_rfl) rfl rfl ?_; conv => whnf
  repeat' (first | (refine Exists.intro _ (And.intro (G) ?_); conv => whnf) | (refine Exists.intro _ (And.intro (C) ?_); conv => whnf) | (refine Exists.intro _ (And.intro (chainI (D)) ?_); conv => whnf) | (refine Exists.intro _ (And.intro (chainI (P)) ?_); conv => whnf) | (refine Exists.intro _ (And.intro (chainI (F)) ?_); conv => whnf) | (refine Exists.intro _ (And.intro (chainI (S)) ?_); conv => whnf) | (refine Exists.intro _ (And.intro (chainI (A)) ?_); conv => whnf) | (refine Exists.intro _ (And.intro (A) ?_); conv => whnf) | (refine And.intro (fun h => ?_) (fun h => ?_) <;> (first | skip) <;> (first | (conv => whnf))) | ((with_reducible refine DOg.l ?_); (conv => whnf)) | ((with_reducible refine xc_pure ?_); conv => whnf))
  ·exact Le.refl _
  ·exact Le.refl _
end Go.Proofs.YthaaemhkdefidaaGreatDoor
