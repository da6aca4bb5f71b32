/- Contracts of functions of the program, and the laws that stand on them: what each function answers, whatever its arguments. -/
import Derived.Test.YtcgcamfhollnlaaDoorE5
set_option linter.unusedSectionVars false
set_option linter.unnecessarySimpa false
namespace Go.Proofs.YtcgcamfhollnlaaDoor
set_option linter.unusedSimpArgs false
set_option linter.unusedVariables false
set_option maxRecDepth 100000
set_option maxHeartbeats 8000000
open Go Go.VA
theorem aRespsOk (t : Bool) (s : ByteArray) (r : Rp) (rg : rgV r.v = true) (ho : okRp r = true) : ACall Tryd.prog gl 5 [.c (.sl t 1 s.size (strCells s)), .ag (cRp r)] [] (boolA true) := by
  have GR := aGreat false false r.v
  by_cases hs : ((s.size : Int) > 2000 ∨ decide (greatV r.v 10 > 600) = true)
  · refine acall_of_vc htb hmix (f := 5) rfl rfl rfl (by kernel_rfl) rfl rfl ?_; conv => whnf
    repeat' (first | (refine Exists.intro _ (And.intro (chainI (GR)) ?_); conv => whnf) | (refine Exists.intro _ (And.intro (GR) ?_); conv => whnf) | ((with_reducible refine GOr.l ?_); (conv => whnf); refine Exists.intro _ (And.intro (chainI (GR)) ?_); conv => whnf) | (refine Exists.intro _ (And.intro (chainI (aAwakeE)) ?_); conv => whnf) | (refine Exists.intro _ (And.intro (aAwakeE) ?_); conv => whnf) | ((with_reducible refine GOr.l ?_); (conv => whnf); refine Exists.intro _ (And.intro (chainI (aAwakeE)) ?_); conv => whnf) | (refine And.intro (fun h => ?_) (fun h => ?_) <;> (first | (with_reducible have hd : _ < _ := of_decide_eq_true h) | (with_reducible have hd : _ ≤ _ := of_decide_eq_true h) | (with_reducible have hd : ¬ (_ < _) := of_decide_eq_false h) | (with_reducible have hd : ¬ (_ ≤ _) := of_decide_eq_false h) | skip) <;> (first | exact absurd h (by decide) | omega | (conv => whnf))) | ((with_reducible refine Both.mk ?_ ?_) <;> conv => whnf) | ((with_reducible refine DOg.l ?_); (conv => whnf)) | ((with_reducible refine DOr.l ?_); (conv => whnf)) | ((with_reducible refine OwnOr.l ?_); (conv => whnf)) | ((with_reducible apply Drawn.one); conv => whnf) | ((with_reducible refine Then.mk' ?_); conv => whnf) | (first | exact RefS.self rfl | ((with_reducible refine RefS.mk ?_ ?_); (focus (refine And.intro ?_ (And.intro ?_ (And.intro ?_ rfl)) <;> (conv => whnf) <;> repeat' (first | exact trivial | exact LeE.of (Le.refl _) | exact LeE.nil rfl | (with_reducible refine LeE.of ?_) | (first | fail | exact Le.refl _ | exact rfl | exact leI (by first | rfl | omega | (rw [wrap64 (by omega) (by omega)]; omega) | (rw [wrap64 (by omega) (by omega)]; done)) | exact LeCs.refl _ | exact fun i hi => LeCs.refl _ | exact leOwn (by first | rfl | omega)) | ((with_reducible refine And.intro ?_ ?_) <;> conv => whnf)))); exact rfl)) | (refine And.intro ?_ ?_; (focus (first | exact trivial | exact rfl | (first | exact seI | exact B1 | exact B2 | exact B3 | exact B4 | exact ntP | exact ntG | exact ntR | exact seT | exact u64nn _ | assumption) | (refine chainI ?_; (first | (first | exact seI | exact B1 | exact B2 | exact B3 | exact B4 | exact ntP | exact ntG | exact ntR | exact seT | exact u64nn _ | assumption) | decide | omega | (refine And.intro ?_ ?_ <;> first | omega | (simp; omega)) | (simp only [IntKind.wrap_i64]; first | omega | (refine And.intro ?_ ?_ <;> omega)))) | (intro _; (first | (first | exact seI | exact B1 | exact B2 | exact B3 | exact B4 | exact ntP | exact ntG | exact ntR | exact seT | exact u64nn _ | assumption) | decide | omega | (refine And.intro ?_ ?_ <;> first | omega | (simp; omega)) | (simp only [IntKind.wrap_i64]; first | omega | (refine And.intro ?_ ?_ <;> omega)))) | (intro _ _; (first | (first | exact seI | exact B1 | exact B2 | exact B3 | exact B4 | exact ntP | exact ntG | exact ntR | exact seT | exact u64nn _ | assumption) | decide | omega | (refine And.intro ?_ ?_ <;> first | omega | (simp; omega)) | (simp only [IntKind.wrap_i64]; first | omega | (refine And.intro ?_ ?_ <;> omega)))) | (first | decide | omega | (refine And.intro ?_ ?_ <;> first | omega | (simp; omega)) | (simp only [IntKind.wrap_i64]; first | omega | (refine And.intro ?_ ?_ <;> omega))) | ((conv => whnf); intros; (try simp only [decide_eq_true_eq, decide_eq_false_iff_not, Bool.and_eq_true, Bool.or_eq_true, Bool.and_eq_false_imp, Bool.or_eq_false_iff, Bool.not_eq_true', Bool.not_eq_false', beq_iff_eq, bne_iff_ne, ne_eq] at *); (first | (first | exact seI | exact B1 | exact B2 | exact B3 | exact B4 | exact ntP | exact ntG | exact ntR | exact seT | exact u64nn _ | assumption) | decide | omega | (refine And.intro ?_ ?_ <;> first | omega | (simp; omega)) | (simp only [IntKind.wrap_i64]; first | omega | (refine And.intro ?_ ?_ <;> omega)))))); conv => whnf) | (refine And.intro ?_ ?_; (focus (first | exact NoTag.int | exact NoTag.bool | exact NoTag.str | (refine NoTag.of_scalar ?_; rfl))); conv => whnf) | ((with_reducible refine xc_pure ?_); conv => whnf))
    · exact leB rfl
    · exfalso
      simp only [Bool.or_eq_false_iff, decide_eq_false_iff_not] at h
      rcases hs with hs | hs
      · exact h.1 hs
      · exact h.2 (of_decide_eq_true hs)
  · have h1 : s.size ≤ 2000 := by omega
    have h2 : decide (greatV r.v 10 > 600) = false := by
      cases h : decide (greatV r.v 10 > 600)
      · rfl
      · exact absurd (.inr h) hs
    rw [h2] at GR
    have K := gKept t s (by omega)
    have L := gLent t s (by omega)
    have KR := aCheckRpR r
    have CK := aCheckRp r
    have el : ∀ j, j < s.size → lentF s (0 + j) = strCells s j := fun j hj => by unfold lentF; rw [if_pos (by omega), Nat.zero_add]
    have ntL : ∀ i, i < s.size → NtCs (lentF s (0 + i)) := fun j hj => by
      unfold lentF
      rw [if_pos (by omega)]
      exact ⟨trivial, trivial⟩
    have G1 : ACall Tryd.prog gl 23 [.c (.sl true 1 s.size (fun j => lentF s (0 + j)))] [] (.tup [.ag (cRp (gRp s).1), intA .i64 (gRp s).2.1, intA .i64 (gRp s).2.2]) := (aGetRp true s).le ⟨leSl rfl el, trivial⟩
    have G2 := aRGetRp t s
    have SM := aSameRpR (gRp s).1 (gRp s).1
    rw [sameRp_self] at SM
    have ntG := NoTag.rp (gRp s).1 (gRp s).2.1 (gRp s).2.2
    · have hc := (okRp_parts ho).2.2
      have hb := check_big hc
      have hl := layL_big r.v
      have hf : (fmRp r).length = (layL r.v).length + 1 := rfl
      rw [ho] at KR CK
      have F := aFormRp r ho rg
      have P := ACall.of_gcall (gPutRp true s.size (fun j => lentF s (0 + j)) r ntL (by omega) ho)
      have SR := aSameRpR r r
      rw [sameRp_self] at SR
      have ntP : NoTag (.c (.sl false 1 (s.size + (fmRp r).length) fun i => catF 0 s.size (fun j => lentF s (0 + j)) (rB (fmRp r)) (0 + i))) := NoTag.cc ⟨rfl, fun j hj => by
        show NtCs (catF 0 s.size (fun j => lentF s (0 + j)) (rB (fmRp r)) (0 + j))
        unfold catF lentF
        by_cases h1 : 0 + j < s.size
        · rw [if_pos h1]
          show NtCs (if _ then _ else _)
          rw [if_pos (by omega)]
          exact ⟨trivial, trivial⟩
        · rw [if_neg h1]; exact ⟨trivial, trivial⟩⟩
      have S0 := aSameX false true (s.size + (fmRp r).length) (0 + s.size + (fmRp r).length) (fun j => catF 0 s.size (fun j => lentF s (0 + j)) (rB (fmRp r)) (0 + j)) (fun j => catF 0 (0 + s.size) (catF 0 0 (nthC []) (strCells s)) (rB (fmRp r)) (0 + j))
        (fun j => if j < s.size then byteN s j else (fmRp r).getD (j - s.size) 0) (fun j => if j < s.size then byteN s j else (fmRp r).getD (j - s.size) 0) (fun j hj => by
          show catF 0 s.size (fun j => lentF s (0 + j)) (rB (fmRp r)) (0 + j) = _
          unfold catF
          rw [Nat.zero_add]
          by_cases h : j < s.size
          · rw [if_pos h, if_pos h]; show lentF s (0 + (0 + j)) = _; rw [Nat.zero_add j]; exact el j h
          · rw [if_neg h, if_neg h]; rfl) (fun j hj => by
          show catF 0 (0 + s.size) (catF 0 0 (nthC []) (strCells s)) (rB (fmRp r)) (0 + j) = _
          unfold catF
          rw [Nat.zero_add, Nat.zero_add]
          by_cases h : j < s.size
          · rw [if_pos h, if_pos h, if_neg (Nat.not_lt_zero _), Nat.zero_add, Nat.sub_zero]; rfl
          · rw [if_neg h, if_neg h]; rfl)
      have es : sameF (s.size + (fmRp r).length) (0 + s.size + (fmRp r).length) (fun j => if j < s.size then byteN s j else (fmRp r).getD (j - s.size) 0) (fun j => if j < s.size then byteN s j else (fmRp r).getD (j - s.size) 0) = true := by
        unfold sameF; rw [decide_eq_true_eq]; exact ⟨by omega, fun _ _ => rfl⟩
      rw [es] at S0
      have B1 : (0 + s.size) * (tb 5).bytes ≤ 140737488355328 := by show _ * 1 ≤ _; omega
      have B2 : (0 + s.size + (fmRp r).length) * (tb 5).bytes ≤ 140737488355328 := by show _ * 1 ≤ _; omega
      refine acall_of_vc htb hmix (f := 5) rfl rfl rfl (by kernel_rfl) rfl rfl ?_; conv => whnf
      have hg1 : ((gRp s).2.1 != (gRp s).2.1) = false := by simp
      have hg2 : ((gRp s).2.2 != (gRp s).2.2) = false := by simp
      have B3 : (0 + (0 + s.size + (fmRp r).length - ((s.size : Int)).toNat)) * (tb 5).bytes ≤ 140737488355328 := by show _ * 1 ≤ _; omega
      have B4 : (0 + (0 + s.size + (fmRp r).length - ((s.size : Int)).toNat) + s.size) * (tb 5).bytes ≤ 140737488355328 := by show _ * 1 ≤ _; omega
      have G3 := aGetWant s r ho rg
      have ntR := NoTag.rp r ((fmRp r).length : Int) 0
      repeat' (first | (refine Exists.intro _ (And.intro (chainI (GR)) ?_); conv => whnf) | (refine Exists.intro _ (And.intro (GR) ?_); conv => whnf) | ((with_reducible refine GOr.l ?_); (conv => whnf); refine Exists.intro _ (And.intro (chainI (GR)) ?_); conv => whnf) | (refine Exists.intro _ (And.intro (chainI (KR)) ?_); conv => whnf) | (refine Exists.intro _ (And.intro (KR) ?_); conv => whnf) | ((with_reducible refine GOr.l ?_); (conv => whnf); refine Exists.intro _ (And.intro (chainI (KR)) ?_); conv => whnf) | (refine Exists.intro _ (And.intro (chainI (CK)) ?_); conv => whnf) | (refine Exists.intro _ (And.intro (CK) ?_); conv => whnf) | ((with_reducible refine GOr.l ?_); (conv => whnf); refine Exists.intro _ (And.intro (chainI (CK)) ?_); conv => whnf) | (refine Exists.intro _ (And.intro (chainI (F)) ?_); conv => whnf) | (refine Exists.intro _ (And.intro (F) ?_); conv => whnf) | ((with_reducible refine GOr.l ?_); (conv => whnf); refine Exists.intro _ (And.intro (chainI (F)) ?_); conv => whnf) | (refine Exists.intro _ (And.intro (chainI (G1)) ?_); conv => whnf) | (refine Exists.intro _ (And.intro (G1) ?_); conv => whnf) | ((with_reducible refine GOr.l ?_); (conv => whnf); refine Exists.intro _ (And.intro (chainI (G1)) ?_); conv => whnf) | (refine Exists.intro _ (And.intro (chainI (G3)) ?_); conv => whnf) | (refine Exists.intro _ (And.intro (G3) ?_); conv => whnf) | ((with_reducible refine GOr.l ?_); (conv => whnf); refine Exists.intro _ (And.intro (chainI (G3)) ?_); conv => whnf) | (refine Exists.intro _ (And.intro (chainI (G2)) ?_); conv => whnf) | (refine Exists.intro _ (And.intro (G2) ?_); conv => whnf) | ((with_reducible refine GOr.l ?_); (conv => whnf); refine Exists.intro _ (And.intro (chainI (G2)) ?_); conv => whnf) | (refine Exists.intro _ (And.intro (chainI (P)) ?_); conv => whnf) | (refine Exists.intro _ (And.intro (P) ?_); conv => whnf) | ((with_reducible refine GOr.l ?_); (conv => whnf); refine Exists.intro _ (And.intro (chainI (P)) ?_); conv => whnf) | (refine Exists.intro _ (And.intro (chainI (S0)) ?_); conv => whnf) | (refine Exists.intro _ (And.intro (S0) ?_); conv => whnf) | ((with_reducible refine GOr.l ?_); (conv => whnf); refine Exists.intro _ (And.intro (chainI (S0)) ?_); conv => whnf) | (refine Exists.intro _ (And.intro (chainI (SM)) ?_); conv => whnf) | (refine Exists.intro _ (And.intro (SM) ?_); conv => whnf) | ((with_reducible refine GOr.l ?_); (conv => whnf); refine Exists.intro _ (And.intro (chainI (SM)) ?_); conv => whnf) | (refine Exists.intro _ (And.intro (chainI (SR)) ?_); conv => whnf) | (refine Exists.intro _ (And.intro (SR) ?_); conv => whnf) | ((with_reducible refine GOr.l ?_); (conv => whnf); refine Exists.intro _ (And.intro (chainI (SR)) ?_); conv => whnf) | (refine Exists.intro _ (And.intro (chainI (aAwakeE)) ?_); conv => whnf) | (refine Exists.intro _ (And.intro (aAwakeE) ?_); conv => whnf) | ((with_reducible refine GOr.l ?_); (conv => whnf); refine Exists.intro _ (And.intro (chainI (aAwakeE)) ?_); conv => whnf) | (refine And.intro (fun h => ?_) (fun h => ?_) <;> (first | (with_reducible have hd : _ < _ := of_decide_eq_true h) | (with_reducible have hd : _ ≤ _ := of_decide_eq_true h) | (with_reducible have hd : ¬ (_ < _) := of_decide_eq_false h) | (with_reducible have hd : ¬ (_ ≤ _) := of_decide_eq_false h) | skip) <;> (first | exact absurd h (by decide) | omega | (conv => whnf))) | ((with_reducible refine Both.mk ?_ ?_) <;> conv => whnf) | ((with_reducible refine DOg.r ?_); (conv => whnf)) | ((with_reducible refine DOr.l ?_); (conv => whnf)) | ((with_reducible refine OwnOr.r (A := frzPs _ _ _ (fun _ _ => opBuildSlice _ _ 0 _ _)) ?_); (conv => whnf)) | ((with_reducible refine OwnOr.l ?_); (conv => whnf)) | ((with_reducible apply Drawn.one); conv => whnf) | ((with_reducible refine Then.mk' ?_); conv => whnf) | (first | exact RefS.self rfl | ((with_reducible refine RefS.mk ?_ ?_); (focus (refine And.intro ?_ (And.intro ?_ (And.intro ?_ rfl)) <;> (conv => whnf) <;> repeat' (first | exact trivial | exact LeE.of (Le.refl _) | exact LeE.nil rfl | (with_reducible refine LeE.of ?_) | (first | fail | exact Le.refl _ | exact rfl | exact leI (by first | rfl | omega | (rw [wrap64 (by omega) (by omega)]; omega) | (rw [wrap64 (by omega) (by omega)]; done)) | exact LeCs.refl _ | exact fun i hi => LeCs.refl _ | exact leOwn (by first | rfl | omega)) | ((with_reducible refine And.intro ?_ ?_) <;> conv => whnf)))); exact rfl)) | (refine And.intro ?_ ?_; (focus (first | exact trivial | exact rfl | (first | exact seI | exact B1 | exact B2 | exact B3 | exact B4 | exact ntP | exact ntG | exact ntR | exact seT | exact u64nn _ | assumption) | (refine chainI ?_; (first | (first | exact seI | exact B1 | exact B2 | exact B3 | exact B4 | exact ntP | exact ntG | exact ntR | exact seT | exact u64nn _ | assumption) | decide | omega | (refine And.intro ?_ ?_ <;> first | omega | (simp; omega)) | (simp only [IntKind.wrap_i64]; first | omega | (refine And.intro ?_ ?_ <;> omega)))) | (intro _; (first | (first | exact seI | exact B1 | exact B2 | exact B3 | exact B4 | exact ntP | exact ntG | exact ntR | exact seT | exact u64nn _ | assumption) | decide | omega | (refine And.intro ?_ ?_ <;> first | omega | (simp; omega)) | (simp only [IntKind.wrap_i64]; first | omega | (refine And.intro ?_ ?_ <;> omega)))) | (intro _ _; (first | (first | exact seI | exact B1 | exact B2 | exact B3 | exact B4 | exact ntP | exact ntG | exact ntR | exact seT | exact u64nn _ | assumption) | decide | omega | (refine And.intro ?_ ?_ <;> first | omega | (simp; omega)) | (simp only [IntKind.wrap_i64]; first | omega | (refine And.intro ?_ ?_ <;> omega)))) | (first | decide | omega | (refine And.intro ?_ ?_ <;> first | omega | (simp; omega)) | (simp only [IntKind.wrap_i64]; first | omega | (refine And.intro ?_ ?_ <;> omega))) | ((conv => whnf); intros; (try simp only [decide_eq_true_eq, decide_eq_false_iff_not, Bool.and_eq_true, Bool.or_eq_true, Bool.and_eq_false_imp, Bool.or_eq_false_iff, Bool.not_eq_true', Bool.not_eq_false', beq_iff_eq, bne_iff_ne, ne_eq] at *); (first | (first | exact seI | exact B1 | exact B2 | exact B3 | exact B4 | exact ntP | exact ntG | exact ntR | exact seT | exact u64nn _ | assumption) | decide | omega | (refine And.intro ?_ ?_ <;> first | omega | (simp; omega)) | (simp only [IntKind.wrap_i64]; first | omega | (refine And.intro ?_ ?_ <;> omega)))))); conv => whnf) | (refine And.intro ?_ ?_; (focus (first | exact NoTag.int | exact NoTag.bool | exact NoTag.str | (refine NoTag.of_scalar ?_; rfl))); conv => whnf) | ((with_reducible refine xc_guard ?_); (first | (refine xc_g (L) false (by first | (((conv => whnf); repeat' (first | exact trivial | exact rfl | exact LeC.refl _ | exact LeC.nil rfl | exact LeC.emp rfl | exact LeCs.refl _ | exact (fun i hi => LeCs.refl _) | fail | ((with_reducible refine And.intro ?_ ?_) <;> conv => whnf))); done) | fail) trivial ?_) | (refine xc_g (L) true (by first | (((conv => whnf); repeat' (first | exact trivial | exact rfl | exact LeC.refl _ | exact LeC.nil rfl | exact LeC.emp rfl | exact LeCs.refl _ | exact (fun i hi => LeCs.refl _) | fail | ((with_reducible refine And.intro ?_ ?_) <;> conv => whnf))); done) | fail) (by first | (((conv => whnf); repeat' (first | exact trivial | exact rfl | (first | exact ntL | exact ntShift ntL) | (intro i hi; exact ⟨trivial, trivial⟩) | ((with_reducible refine And.intro ?_ ?_) <;> conv => whnf))); done) | fail) ?_)); conv => whnf) | ((with_reducible refine xc_guard ?_); (first | (refine xc_g (K) false (by first | (((conv => whnf); repeat' (first | exact trivial | exact rfl | exact LeC.refl _ | exact LeC.nil rfl | exact LeC.emp rfl | exact LeCs.refl _ | exact (fun i hi => LeCs.refl _) | fail | ((with_reducible refine And.intro ?_ ?_) <;> conv => whnf))); done) | fail) trivial ?_) | (refine xc_g (K) true (by first | (((conv => whnf); repeat' (first | exact trivial | exact rfl | exact LeC.refl _ | exact LeC.nil rfl | exact LeC.emp rfl | exact LeCs.refl _ | exact (fun i hi => LeCs.refl _) | fail | ((with_reducible refine And.intro ?_ ?_) <;> conv => whnf))); done) | fail) (by first | (((conv => whnf); repeat' (first | exact trivial | exact rfl | (first | exact ntL | exact ntShift ntL) | (intro i hi; exact ⟨trivial, trivial⟩) | ((with_reducible refine And.intro ?_ ?_) <;> conv => whnf))); done) | fail) ?_)); conv => whnf) | ((with_reducible refine GOr.r ?_); conv => whnf) | ((with_reducible refine xc_pure ?_); conv => whnf) | (rw [hg1]; conv => whnf) | (rw [hg2]; conv => whnf))
      · exact absurd h (by rw [Bool.or_false]; simp; omega)
      refine leB ?_
      have eW : IntKind.i64.wrap (((0 + s.size + (fmRp r).length : Nat) : Int) - (s.size : Int)) = ((fmRp r).length : Int) := by rw [wrap64 (by omega) (by omega)]; omega
      rw [eW]
      simp
end Go.Proofs.YtcgcamfhollnlaaDoor
