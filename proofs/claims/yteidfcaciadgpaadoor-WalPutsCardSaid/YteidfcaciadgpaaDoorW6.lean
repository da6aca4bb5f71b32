/- Contracts of functions of the program, and the laws that stand on them: what each function answers, whatever its arguments. -/
import Derived.Test.YteidfcaciadgpaaDoorW4
set_option linter.unusedSectionVars false
set_option linter.unnecessarySimpa false
namespace Go.Proofs.YteidfcaciadgpaaDoor
set_option linter.unusedSimpArgs false
set_option linter.unusedVariables false
set_option maxRecDepth 100000
set_option maxHeartbeats 8000000
open Go Go.VA
def dE (s : ByteArray) : Int := IntKind.i64.wrap (40 + IntKind.i64.wrap (be4 s : Int))
def dL (s : ByteArray) : Nat := (dE s).toNat - (40 : Int).toNat
def dY (x : ByteArray) : Ky × Int × Int := dKy (subS x (wO x).toNat (x.size - (wO x).toNat))
def dI (s : ByteArray) : It := ⟨(wN (wX s)).1, IntKind.i64.wrap (byteN s ((40 : Int).toNat + (wN (wX s)).2.1.toNat)), (dY (wX s)).1⟩
def rW (s : ByteArray) : It × Int × Int :=
  if decide ((s.size : Int) < 40) then (it0, 0, 2) else if !preB s then (it0, 0, 4)
  else if decide (IntKind.u64.wrap (IntKind.i64.wrap ((s.size : Int) - 40)) < (be4 s : Int)) then (it0, 0, 2)
  else if !sumB s (wX s) then (it0, 0, 5)
  else if (wN (wX s)).2.2 != 0 || decide ((wN (wX s)).2.1 ≥ (dL s : Int)) then (it0, 0, 4)
  else if (dY (wX s)).2.2 != 0 || IntKind.i64.wrap (wO (wX s) + (dY (wX s)).2.1) != (dL s : Int) || !okIt (dI s) then (it0, 0, 4)
  else (dI s, dE s, 0)
theorem dKy_n (x : ByteArray) : 0 ≤ (dKy x).1.n := by
  have h : ∀ k i y a, 0 ≤ (dFin x k i y a).1.n := by
    intro k i y a
    unfold dFin
    repeat' split
    all_goals first
      | exact Int.le_refl 0
      | exact Int.emod_nonneg _ (by decide)
  unfold dKy
  repeat' split
  all_goals first
    | exact Int.le_refl 0
    | exact h _ _ _ _
theorem be4_n (s : ByteArray) : dE s = 40 + (be4 s : Int) ∧ dL s = be4 s := by
  have hl := be4_lt s
  have : dE s = 40 + (be4 s : Int) := by
    unfold dE
    rw [wrap64 (n := (be4 s : Int)) (by omega) (by omega), wrap64 (by omega) (by omega)]
  exact ⟨this, by unfold dL; rw [this]; omega⟩
theorem aRGet19 (t : Bool) (s : ByteArray) : ACall Tryd.prog gl 13 [.c (.sl t 1 s.size (strCells s))] [] (.tup [.ag (cIt (rW s).1), intA .i64 (rW s).2.1, intA .i64 (rW s).2.2]) := by
  by_cases hA : (s.size : Int) < 40
  · have e : rW s = (it0, 0, 2) := by unfold rW; rw [if_pos (by simpa using hA)]
    rw [e]
    refine acall_of_vc htb hmix (f := 13) rfl rfl rfl (by kernel_rfl) rfl rfl ?_; conv => whnf
    repeat' (first | (refine And.intro (fun h => ?_) (fun h => ?_) <;> (first | (with_reducible have hd : _ < _ := of_decide_eq_true h) | (with_reducible have hd : _ ≤ _ := of_decide_eq_true h) | (with_reducible have hd : ¬ (_ < _) := of_decide_eq_false h) | (with_reducible have hd : ¬ (_ ≤ _) := of_decide_eq_false h) | skip) <;> (first | exact absurd h (by decide) | (conv => whnf))) | (refine And.intro ?_ ?_; (focus (first | exact trivial | exact rfl | (first | exact seT | exact u64nn _ | exact hB | exact hC | exact isB _ _ _ | exact chainI (isB _ _ _) | exact hD (by assumption) | exact hE (by assumption) | exact hF (by assumption) (by assumption) | exact hG (by assumption) (by assumption) | assumption) | (refine chainI ?_; (first | (first | exact seT | exact u64nn _ | exact hB | exact hC | exact isB _ _ _ | exact chainI (isB _ _ _) | exact hD (by assumption) | exact hE (by assumption) | exact hF (by assumption) (by assumption) | exact hG (by assumption) (by assumption) | assumption) | decide | omega | (refine And.intro ?_ ?_ <;> first | omega | (simp; omega)) | (simp only [IntKind.wrap_i64]; first | omega | (refine And.intro ?_ ?_ <;> omega)))) | (intro _; (first | (first | exact seT | exact u64nn _ | exact hB | exact hC | exact isB _ _ _ | exact chainI (isB _ _ _) | exact hD (by assumption) | exact hE (by assumption) | exact hF (by assumption) (by assumption) | exact hG (by assumption) (by assumption) | assumption) | decide | omega | (refine And.intro ?_ ?_ <;> first | omega | (simp; omega)) | (simp only [IntKind.wrap_i64]; first | omega | (refine And.intro ?_ ?_ <;> omega)))) | (intro _ _; (first | (first | exact seT | exact u64nn _ | exact hB | exact hC | exact isB _ _ _ | exact chainI (isB _ _ _) | exact hD (by assumption) | exact hE (by assumption) | exact hF (by assumption) (by assumption) | exact hG (by assumption) (by assumption) | assumption) | decide | omega | (refine And.intro ?_ ?_ <;> first | omega | (simp; omega)) | (simp only [IntKind.wrap_i64]; first | omega | (refine And.intro ?_ ?_ <;> omega)))) | (first | decide | omega | (refine And.intro ?_ ?_ <;> first | omega | (simp; omega)) | (simp only [IntKind.wrap_i64]; first | omega | (refine And.intro ?_ ?_ <;> omega))) | ((conv => whnf); intros; (try simp only [decide_eq_true_eq, decide_eq_false_iff_not, Bool.and_eq_true, Bool.or_eq_true, Bool.and_eq_false_imp, Bool.or_eq_false_iff, Bool.not_eq_true', Bool.not_eq_false', beq_iff_eq, bne_iff_ne, ne_eq] at *); (first | (first | exact seT | exact u64nn _ | exact hB | exact hC | exact isB _ _ _ | exact chainI (isB _ _ _) | exact hD (by assumption) | exact hE (by assumption) | exact hF (by assumption) (by assumption) | exact hG (by assumption) (by assumption) | assumption) | decide | omega | (refine And.intro ?_ ?_ <;> first | omega | (simp; omega)) | (simp only [IntKind.wrap_i64]; first | omega | (refine And.intro ?_ ?_ <;> omega)))))); conv => whnf))
    · exact Le.refl _
    all_goals (exfalso; omega)
  · have hq : decide ((s.size : Int) < 40) = false := by simpa using hA
    have hl := be4_lt s
    have N4 := aNum4 t s
    obtain ⟨eE, eL⟩ := be4_n s
    have hxs : (wX s).size = be4 s := sub_size s 40 _
    have hxc : ∀ i, i < be4 s → strCells (wX s) i = strCells s (40 + i) := sub_cells s 40 _
    have SR : ACall Tryd.prog gl 31 [.c (.sl t 1 (dL s) (fun i => strCells s ((40 : Int).toNat + i)))] [] (.ag (sumC (shaA (wX s)))) := by rw [eL]; exact aShaRS t s 40 (be4 s) (by omega)
    have GS : ACall Tryd.prog gl 32 [.c (.sl t 1 (dL s) (fun i => strCells s ((40 : Int).toNat + i)))] [] (gT (wN (wX s))) := by
      rw [eL]
      exact (aShortR t (wX s).size (wX s) 0).le ⟨leSl hxs.symm (fun i hi => by rw [Nat.zero_add]; exact (hxc i (by omega)).symm), trivial⟩
    refine acall_of_vcb htb hmix (f := 13) rfl rfl rfl (by kernel_rfl) rfl rfl fun hb => ?_; simp only [bndAll, AV.bnd, bnds, C.bnd, cVt, cS, true_and, and_true] at hb; conv => whnf
    have hn : s.size ≤ 140737488355328 := hb.1
    have w1 : IntKind.i64.wrap ((s.size : Int) - 40) = ((s.size - 40 : Nat) : Int) := by rw [wrap64 (by omega) (by omega)]; omega
    have fit : decide (IntKind.u64.wrap (IntKind.i64.wrap ((s.size : Int) - 40)) < (be4 s : Int)) = false → 40 + (be4 s : Int) ≤ s.size := fun h => by
      rw [w1, wrapU (by omega) (by omega)] at h
      have := of_decide_eq_false h
      omega
    have hD : decide (IntKind.u64.wrap (IntKind.i64.wrap ((s.size : Int) - 40)) < (be4 s : Int)) = false → 0 ≤ dE s ∧ dE s ≤ s.size := fun h => by have := fit h; omega
    have hE : decide (IntKind.u64.wrap (IntKind.i64.wrap ((s.size : Int) - 40)) < (be4 s : Int)) = false → (0 : Int) ≤ 40 ∧ (40 : Int) ≤ ((dE s).toNat : Int) := fun h => by omega
    have R : decide (IntKind.u64.wrap (IntKind.i64.wrap ((s.size : Int) - 40)) < (be4 s : Int)) = false → ((wN (wX s)).2.2 != 0 || decide ((wN (wX s)).2.1 ≥ (dL s : Int))) = false → wO (wX s) = (wN (wX s)).2.1 + 1 ∧ 0 ≤ (wN (wX s)).2.1 ∧ (wN (wX s)).2.1 < (wX s).size ∧ 0 ≤ wO (wX s) ∧ wO (wX s) ≤ (wX s).size := fun h h2 => by
      refine wN_rg (by have := fit h; omega) ?_
      simp only [Bool.or_eq_false_iff, decide_eq_false_iff_not] at h2 ⊢
      exact ⟨h2.1, beq_eq_false_iff_ne.2 (by rw [hxs]; omega)⟩
    have hF : decide (IntKind.u64.wrap (IntKind.i64.wrap ((s.size : Int) - 40)) < (be4 s : Int)) = false → ((wN (wX s)).2.2 != 0 || decide ((wN (wX s)).2.1 ≥ (dL s : Int))) = false → 0 ≤ wO (wX s) ∧ wO (wX s) ≤ (dL s : Int) := fun h h2 => by have := R h h2; omega
    have hG : decide (IntKind.u64.wrap (IntKind.i64.wrap ((s.size : Int) - 40)) < (be4 s : Int)) = false → ((wN (wX s)).2.2 != 0 || decide ((wN (wX s)).2.1 ≥ (dL s : Int))) = false → 0 ≤ (wN (wX s)).2.1 ∧ (wN (wX s)).2.1 < (dL s : Int) := fun h h2 => by have := R h h2; omega
    have KR : ACall Tryd.prog gl 33 [.c (.sl t 1 (dL s - (wO (wX s)).toNat) (fun i => strCells s ((40 : Int).toNat + ((wO (wX s)).toNat + i))))] [] (.tup [.ag (cKy (dY (wX s)).1), intA .i64 (dY (wX s)).2.1, intA .i64 (dY (wX s)).2.2]) := by
      have h := aGetKyRS t (wX s) (wO (wX s)).toNat ((wX s).size - (wO (wX s)).toNat)
      refine h.le ⟨leSl (by rw [eL, hxs]) (fun i hi => (hxc _ (by rw [hxs] at hi; omega)).symm), trivial⟩
    have CR := aCheckIR (dI s) (dKy_n _)
    repeat' (first | (refine Exists.intro _ (And.intro (N4) ?_); conv => whnf) | (refine Exists.intro _ (And.intro (SR) ?_); conv => whnf) | (refine Exists.intro _ (And.intro (chainI (aSumSame _ _ s (wX s))) ?_); conv => whnf) | (refine Exists.intro _ (And.intro (GS) ?_); conv => whnf) | (refine Exists.intro _ (And.intro (KR) ?_); conv => whnf) | ((with_reducible refine GOr.l ?_); (conv => whnf); refine Exists.intro _ (And.intro (chainI (CR)) ?_); conv => whnf) | (refine And.intro (fun h => ?_) (fun h => ?_) <;> (first | (with_reducible have hd : _ < _ := of_decide_eq_true h) | (with_reducible have hd : _ ≤ _ := of_decide_eq_true h) | (with_reducible have hd : ¬ (_ < _) := of_decide_eq_false h) | (with_reducible have hd : ¬ (_ ≤ _) := of_decide_eq_false h) | skip) <;> (first | exact absurd h (by decide) | (conv => whnf))) | ((with_reducible refine Both.mk ?_ ?_) <;> conv => whnf) | ((with_reducible refine DOr.l ?_); (conv => whnf)) | ((with_reducible apply Drawn.one); conv => whnf) | ((with_reducible refine Then.mk' ?_); conv => whnf) | (first | exact RefS.self rfl | ((with_reducible refine RefS.mk ?_ ?_); (focus (refine And.intro ?_ (And.intro ?_ (And.intro ?_ rfl)) <;> (conv => whnf) <;> repeat' (first | exact trivial | exact LeE.of (Le.refl _) | exact LeE.nil rfl | (with_reducible refine LeE.of ?_) | (first | fail | exact Le.refl _ | exact rfl | exact leI (by first | rfl | omega | (rw [wrap64 (by omega) (by omega)]; omega) | (rw [wrap64 (by omega) (by omega)]; done)) | exact LeCs.refl _ | exact fun i hi => LeCs.refl _ | exact leOwn (by first | rfl | omega)) | ((with_reducible refine And.intro ?_ ?_) <;> conv => whnf)))); exact rfl)) | (refine And.intro ?_ ?_; (focus (first | exact trivial | exact rfl | (first | exact seT | exact u64nn _ | exact hB | exact hC | exact isB _ _ _ | exact chainI (isB _ _ _) | exact hD (by assumption) | exact hE (by assumption) | exact hF (by assumption) (by assumption) | exact hG (by assumption) (by assumption) | assumption) | (refine chainI ?_; (first | (first | exact seT | exact u64nn _ | exact hB | exact hC | exact isB _ _ _ | exact chainI (isB _ _ _) | exact hD (by assumption) | exact hE (by assumption) | exact hF (by assumption) (by assumption) | exact hG (by assumption) (by assumption) | assumption) | decide | omega | (refine And.intro ?_ ?_ <;> first | omega | (simp; omega)) | (simp only [IntKind.wrap_i64]; first | omega | (refine And.intro ?_ ?_ <;> omega)))) | (intro _; (first | (first | exact seT | exact u64nn _ | exact hB | exact hC | exact isB _ _ _ | exact chainI (isB _ _ _) | exact hD (by assumption) | exact hE (by assumption) | exact hF (by assumption) (by assumption) | exact hG (by assumption) (by assumption) | assumption) | decide | omega | (refine And.intro ?_ ?_ <;> first | omega | (simp; omega)) | (simp only [IntKind.wrap_i64]; first | omega | (refine And.intro ?_ ?_ <;> omega)))) | (intro _ _; (first | (first | exact seT | exact u64nn _ | exact hB | exact hC | exact isB _ _ _ | exact chainI (isB _ _ _) | exact hD (by assumption) | exact hE (by assumption) | exact hF (by assumption) (by assumption) | exact hG (by assumption) (by assumption) | assumption) | decide | omega | (refine And.intro ?_ ?_ <;> first | omega | (simp; omega)) | (simp only [IntKind.wrap_i64]; first | omega | (refine And.intro ?_ ?_ <;> omega)))) | (first | decide | omega | (refine And.intro ?_ ?_ <;> first | omega | (simp; omega)) | (simp only [IntKind.wrap_i64]; first | omega | (refine And.intro ?_ ?_ <;> omega))) | ((conv => whnf); intros; (try simp only [decide_eq_true_eq, decide_eq_false_iff_not, Bool.and_eq_true, Bool.or_eq_true, Bool.and_eq_false_imp, Bool.or_eq_false_iff, Bool.not_eq_true', Bool.not_eq_false', beq_iff_eq, bne_iff_ne, ne_eq] at *); (first | (first | exact seT | exact u64nn _ | exact hB | exact hC | exact isB _ _ _ | exact chainI (isB _ _ _) | exact hD (by assumption) | exact hE (by assumption) | exact hF (by assumption) (by assumption) | exact hG (by assumption) (by assumption) | assumption) | decide | omega | (refine And.intro ?_ ?_ <;> first | omega | (simp; omega)) | (simp only [IntKind.wrap_i64]; first | omega | (refine And.intro ?_ ?_ <;> omega)))))); conv => whnf) | (refine And.intro ?_ ?_; (focus (first | exact NoTag.int | exact NoTag.bool | exact NoTag.str | (refine NoTag.of_scalar ?_; rfl))); conv => whnf) | ((with_reducible refine xc_pure ?_); conv => whnf))
    all_goals unfold rW
    all_goals repeat (first | (rw [ifT]; rotate_left; (focus assumption)) | (rw [ifF]; rotate_left; (focus assumption)))
    all_goals exact Le.refl _
end Go.Proofs.YteidfcaciadgpaaDoor
