/- Contracts of functions of the program, and the laws that stand on them: what each function answers, whatever its arguments. -/
import Derived.Test.YteidfcaciadgpaaDoorS7
set_option linter.unusedSectionVars false
set_option linter.unnecessarySimpa false
namespace Go.Proofs.YteidfcaciadgpaaDoor
set_option linter.unusedSimpArgs false
set_option linter.unusedVariables false
set_option maxRecDepth 100000
set_option maxHeartbeats 8000000
open Go Go.VA
theorem layA_full {ys : List AV} {l : List C} (h : ys.length = l.length) : layA ys 0 (List.map AV.c l) = some (List.map AV.c l) := by
  refine layA_eq (by rw [List.length_map]; exact h.symm) (by rw [List.length_map]; omega) fun i => ?_
  rw [List.length_map]
  by_cases hi : i < l.length
  · rw [if_pos (by omega), Nat.sub_zero]
  · rw [if_neg (by omega), List.getElem?_eq_none (by rw [List.length_map]; omega), List.getElem?_eq_none (by omega)]
def accN (ps : Nat → Nat × (Nat → UInt8)) : Nat → Nat
  | 0 => 0
  | i + 1 => accN ps i + (ps i).1
def accB (ps : Nat → Nat × (Nat → UInt8)) : Nat → Nat → UInt8
  | 0 => fun _ => 0
  | i + 1 => catB (accN ps i) (accB ps i) (ps i).2
theorem accN_mono (ps : Nat → Nat × (Nat → UInt8)) : ∀ i j, i ≤ j → accN ps i ≤ accN ps j
  | i, 0, h => by obtain rfl : i = 0 := by omega
                  exact Nat.le_refl _
  | i, j + 1, h => by
    by_cases hi : i = j + 1
    · subst hi; exact Nat.le_refl _
    · have := accN_mono ps i j (by omega)
      simp only [accN]; omega
theorem aSum (t : Bool) (N : Nat) (tg : Nat → Bool) (ps : Nat → Nat × (Nat → UInt8)) (hN : accN ps N ≤ 140737488355328) :
    ACall Tryd.prog gl 27 [.c (.sl t 1 N (fun i => [.sl (tg i) 1 (ps i).1 (byF (ps i).2)]))] [] (.ag (sumC (shaB (accB ps N) (accN ps N)))) := by
  refine acall_of_vcb htb hmix (f := 27) rfl rfl rfl (by kernel_rfl) rfl rfl fun hb => ?_; simp only [bndAll, AV.bnd, bnds, C.bnd, cVt, cS, true_and, and_true] at hb; conv => whnf
  have hNb : N ≤ 140737488355328 := hb.1
  repeat' (first | ((with_reducible refine xc_guard ?_); (first | (refine xc_g (gNew) false (by first | (((conv => whnf); repeat' (first | exact trivial | exact rfl | exact LeC.refl _ | exact LeC.nil rfl | exact LeC.emp rfl | exact LeCs.refl _ | exact (fun i hi => LeCs.refl _) | fail | ((with_reducible refine And.intro ?_ ?_) <;> conv => whnf))); done) | fail) trivial ?_) | (refine xc_g (gNew) true (by first | (((conv => whnf); repeat' (first | exact trivial | exact rfl | exact LeC.refl _ | exact LeC.nil rfl | exact LeC.emp rfl | exact LeCs.refl _ | exact (fun i hi => LeCs.refl _) | fail | ((with_reducible refine And.intro ?_ ?_) <;> conv => whnf))); done) | fail) (by first | (((conv => whnf); repeat' (first | exact trivial | exact rfl | fail | (intro i hi; exact ⟨trivial, trivial⟩) | ((with_reducible refine And.intro ?_ ?_) <;> conv => whnf))); done) | fail) ?_)); conv => whnf))
  refine loopI Nat (fun i => i ≤ N) (fun i => [(9, intA .i64 i)]) (fun i => [.box (List.map AV.c (arrC (fun _ => cb 0) 32)), wrM (accB ps i) (accN ps i) (.own 2 1 0 (accN ps i % 64)), rwM (accB ps i) (accN ps i)]) (fun i => N - i) 0 (Nat.zero_le _) ?_ (fun _ => rfl) fun i hi => ?_
  · have e0 : ∀ q, thrs bT (accB ps 0) (accN ps 0 / 64) q = bT q := fun q => by
      rw [show accN ps 0 / 64 = 0 from Nat.zero_div 64]; rfl
    rw [z32]
    (refine And.intro ?_ (And.intro ?_ (And.intro ?_ rfl)) <;> (conv => whnf) <;> repeat' (first | exact trivial | exact LeE.of (Le.refl _) | exact LeE.nil rfl | (with_reducible refine LeE.of ?_) | (first | first | exact LeAs_c _ _ _ | exact LeAs_pc | exact leI e | exact eo | exact LeE.nil rfl | exact Le.of_eq (congrArg (fun z => AV.c (cw z)) (e0 _).symm) | exact Le.refl _ | exact rfl | exact leI (by first | rfl | omega | (rw [wrap64 (by omega) (by omega)]; omega) | (rw [wrap64 (by omega) (by omega)]; done)) | exact LeCs.refl _ | exact fun i hi => LeCs.refl _ | exact leOwn (by first | rfl | omega)) | ((with_reducible refine And.intro ?_ ?_) <;> conv => whnf)))
  · change i ≤ N at hi
    have hi1 : accN ps i ≤ 140737488355328 := Nat.le_trans (accN_mono ps i N hi) hN
    have hi2 : i < N → accN ps i + (ps i).1 ≤ 140737488355328 := fun h => Nat.le_trans (accN_mono ps (i + 1) N h) hN
    have PS := fun b hb => aWSum (accB ps i) b (accN ps i) hb hi1
    conv => whnf
    repeat' (first | (refine Exists.intro _ (And.intro (PS _ (fun q _ => congrArg (accB ps i) (congrArg (64 * (accN ps i / 64) + ·) (Nat.zero_add q)))) ?_); conv => whnf) | (refine And.intro (fun h => ?_) (fun h => ?_) <;> (first | (with_reducible have hd : _ < _ := of_decide_eq_true h) | (with_reducible have hd : _ ≤ _ := of_decide_eq_true h) | (with_reducible have hd : ¬ (_ < _) := of_decide_eq_false h) | (with_reducible have hd : ¬ (_ ≤ _) := of_decide_eq_false h) | skip) <;> conv => whnf) | (refine And.intro ?_ ?_; (focus (first | exact trivial | exact rfl | (first | exact seT | exact u64nnS _ | exact chainI (u64nnS _) | assumption) | (refine chainI ?_; (first | (first | exact seT | exact u64nnS _ | exact chainI (u64nnS _) | assumption) | decide | omega | (refine And.intro ?_ ?_ <;> first | omega | (simp; omega)) | (simp only [IntKind.wrap_i64]; first | omega | (refine And.intro ?_ ?_ <;> omega)))) | (intro _; (first | (first | exact seT | exact u64nnS _ | exact chainI (u64nnS _) | assumption) | decide | omega | (refine And.intro ?_ ?_ <;> first | omega | (simp; omega)) | (simp only [IntKind.wrap_i64]; first | omega | (refine And.intro ?_ ?_ <;> omega)))) | (intro _ _; (first | (first | exact seT | exact u64nnS _ | exact chainI (u64nnS _) | assumption) | decide | omega | (refine And.intro ?_ ?_ <;> first | omega | (simp; omega)) | (simp only [IntKind.wrap_i64]; first | omega | (refine And.intro ?_ ?_ <;> omega)))) | (first | decide | omega | (refine And.intro ?_ ?_ <;> first | omega | (simp; omega)) | (simp only [IntKind.wrap_i64]; first | omega | (refine And.intro ?_ ?_ <;> omega))) | ((conv => whnf); intros; (try simp only [decide_eq_true_eq, decide_eq_false_iff_not, Bool.and_eq_true, Bool.or_eq_true, Bool.and_eq_false_imp, Bool.or_eq_false_iff, Bool.not_eq_true', Bool.not_eq_false', beq_iff_eq, bne_iff_ne, ne_eq] at *); (first | (first | exact seT | exact u64nnS _ | exact chainI (u64nnS _) | assumption) | decide | omega | (refine And.intro ?_ ?_ <;> first | omega | (simp; omega)) | (simp only [IntKind.wrap_i64]; first | omega | (refine And.intro ?_ ?_ <;> omega)))))); conv => whnf) | (refine And.intro ?_ ?_; (focus (first | exact NoTag.int | exact NoTag.bool | exact NoTag.str | (refine NoTag.of_scalar ?_; rfl))); conv => whnf) | ((with_reducible refine xc_guard ?_); (first | (refine xc_g (gWrite _ (accB ps i) (ps i).2 (accN ps i) (ps i).1 (hi2 (Nat.lt_of_not_le (fun hq => absurd (Int.ofNat_lt.1 hd) (Nat.not_lt.2 hq))))) false (by first | (((conv => whnf); repeat' (first | exact trivial | exact rfl | exact LeC.refl _ | exact LeC.nil rfl | exact LeC.emp rfl | exact LeCs.refl _ | exact (fun i hi => LeCs.refl _) | fail | ((with_reducible refine And.intro ?_ ?_) <;> conv => whnf))); done) | fail) trivial ?_) | (refine xc_g (gWrite _ (accB ps i) (ps i).2 (accN ps i) (ps i).1 (hi2 (Nat.lt_of_not_le (fun hq => absurd (Int.ofNat_lt.1 hd) (Nat.not_lt.2 hq))))) true (by first | (((conv => whnf); repeat' (first | exact trivial | exact rfl | exact LeC.refl _ | exact LeC.nil rfl | exact LeC.emp rfl | exact LeCs.refl _ | exact (fun i hi => LeCs.refl _) | fail | ((with_reducible refine And.intro ?_ ?_) <;> conv => whnf))); done) | fail) (by first | (((conv => whnf); repeat' (first | exact trivial | exact rfl | fail | (intro i hi; exact ⟨trivial, trivial⟩) | ((with_reducible refine And.intro ?_ ?_) <;> conv => whnf))); done) | fail) ?_)); conv => whnf) | ((with_reducible refine xc_pure ?_); conv => whnf) | ((rw [layA_full]; rotate_left; exact (arrA_len _ _)); conv => whnf))
    · have hi' : i < N := by omega
      refine ⟨i + 1, hi', ?_, by show N - (i + 1) < N - i; omega⟩
      rw [show accN ps (i + 1) = accN ps i + (ps i).1 from rfl, show accB ps (i + 1) = catB (accN ps i) (accB ps i) (ps i).2 from rfl]
      (refine And.intro ?_ (And.intro ?_ (And.intro ?_ rfl)) <;> (conv => whnf) <;> repeat' (first | exact trivial | exact LeE.of (Le.refl _) | exact LeE.nil rfl | (with_reducible refine LeE.of ?_) | (first | first | exact LeAs_c _ _ _ | exact LeAs_pc | exact leI e | exact eo | exact LeE.nil rfl | exact Le.of_eq (congrArg (fun z => AV.c (cw z)) (e0 _).symm) | exact Le.refl _ | exact rfl | exact leI (by first | rfl | omega | (rw [wrap64 (by omega) (by omega)]; omega) | (rw [wrap64 (by omega) (by omega)]; done)) | exact LeCs.refl _ | exact fun i hi => LeCs.refl _ | exact leOwn (by first | rfl | omega)) | ((with_reducible refine And.intro ?_ ?_) <;> conv => whnf)))
    · obtain rfl : i = N := by
        have : ¬ ((i : Int) < N) := hd
        omega
      exact Le.refl _
end Go.Proofs.YteidfcaciadgpaaDoor
