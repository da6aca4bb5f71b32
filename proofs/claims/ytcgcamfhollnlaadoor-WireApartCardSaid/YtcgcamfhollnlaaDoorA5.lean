/- Contracts of functions of the program, and the laws that stand on them: what each function answers, whatever its arguments. -/
import Derived.Test.YtcgcamfhollnlaaDoorA4
import Derived.Test.YtcgcamfhollnlaaDoorC8
import Derived.Test.YtcgcamfhollnlaaDoorC17
set_option linter.unusedSectionVars false
set_option linter.unnecessarySimpa false
namespace Go.Proofs.YtcgcamfhollnlaaDoor
set_option linter.unusedSimpArgs false
set_option linter.unusedVariables false
set_option maxRecDepth 100000
set_option maxHeartbeats 8000000
open Go Go.VA
theorem aSmallR (c : Int) : ACall Tryd.prog gl 95 [intA .u8 c] [] (boolA (smZ c)) := by
  refine acall_of_vc htb hmix (f := 95) rfl rfl rfl (by kernel_rfl) rfl rfl ?_; conv => whnf
  repeat' (first | (refine And.intro (fun h => ?_) (fun h => ?_) <;> (first | (with_reducible have hd : _ < _ := of_decide_eq_true h) | (with_reducible have hd : _ ≤ _ := of_decide_eq_true h) | (with_reducible have hd : ¬ (_ < _) := of_decide_eq_false h) | (with_reducible have hd : ¬ (_ ≤ _) := of_decide_eq_false h) | skip) <;> (first | exact absurd h (by decide) | (conv => whnf))) | ((with_reducible refine Both.mk ?_ ?_) <;> conv => whnf) | ((with_reducible refine DOg.l ?_); (conv => whnf)) | ((with_reducible refine DOr.l ?_); (conv => whnf)) | ((with_reducible refine OwnOr.l ?_); (conv => whnf)) | (refine And.intro ?_ ?_; (focus (first | exact trivial | exact rfl | (first | exact seT | exact u64nn _ | exact hB | exact chainI hB | assumption) | (refine chainI ?_; (first | (first | exact seT | exact u64nn _ | exact hB | exact chainI hB | assumption) | decide | omega | (refine And.intro ?_ ?_ <;> first | omega | (simp; omega)) | (simp only [IntKind.wrap_i64]; first | omega | (refine And.intro ?_ ?_ <;> omega)))) | (intro _; (first | (first | exact seT | exact u64nn _ | exact hB | exact chainI hB | assumption) | decide | omega | (refine And.intro ?_ ?_ <;> first | omega | (simp; omega)) | (simp only [IntKind.wrap_i64]; first | omega | (refine And.intro ?_ ?_ <;> omega)))) | (intro _ _; (first | (first | exact seT | exact u64nn _ | exact hB | exact chainI hB | assumption) | decide | omega | (refine And.intro ?_ ?_ <;> first | omega | (simp; omega)) | (simp only [IntKind.wrap_i64]; first | omega | (refine And.intro ?_ ?_ <;> omega)))) | (first | decide | omega | (refine And.intro ?_ ?_ <;> first | omega | (simp; omega)) | (simp only [IntKind.wrap_i64]; first | omega | (refine And.intro ?_ ?_ <;> omega))) | ((conv => whnf); intros; (try simp only [decide_eq_true_eq, decide_eq_false_iff_not, Bool.and_eq_true, Bool.or_eq_true, Bool.and_eq_false_imp, Bool.or_eq_false_iff, Bool.not_eq_true', Bool.not_eq_false', beq_iff_eq, bne_iff_ne, ne_eq] at *); (first | (first | exact seT | exact u64nn _ | exact hB | exact chainI hB | assumption) | decide | omega | (refine And.intro ?_ ?_ <;> first | omega | (simp; omega)) | (simp only [IntKind.wrap_i64]; first | omega | (refine And.intro ?_ ?_ <;> omega)))))); conv => whnf) | (refine And.intro ?_ ?_; (focus (first | exact NoTag.int | exact NoTag.bool | exact NoTag.str | (refine NoTag.of_scalar ?_; rfl))); conv => whnf))
  exact leB rfl
theorem spell_split {p : Int → Bool} {s : ByteArray} (h1 : ¬ (s.size : Int) < 1) (h2 : ¬ (s.size : Int) > 24) : spell p s = allB p s := by
  unfold spell
  have a : (s.size == 0) = false := beq_eq_false_iff_ne.2 (by omega)
  have b : s.size ≤ 24 := by omega
  simp [a, b]
theorem allB_t {p : Int → Bool} {s : ByteArray} (h : ∀ j, j < s.size → p (byteN s j) = true) : allB p s = true := by
  unfold allB
  rw [List.all_eq_true]
  intro j hj
  exact h j (by simpa using hj)
theorem allB_f {p : Int → Bool} {s : ByteArray} {c : Nat} (hc : c < s.size) (h : p (byteN s c) = false) : allB p s = false := by
  unfold allB
  rw [List.all_eq_false]
  exact ⟨c, by simpa using hc, by rw [h]; decide⟩
theorem nm_ref (c : Int) : (!smZ c && !(decide (c ≥ 48) && decide (c ≤ 57)) && c != 95) = !nmZ c := by
  unfold nmZ dgZ
  cases smZ c <;> cases (decide (c ≥ 48) && decide (c ≤ 57)) <;> simp [bne]
theorem wd_ref (c : Nat) (h : c < 256) : (!smZ (c : Int) && !(decide ((c : Int) ≥ 65) && decide ((c : Int) ≤ 90)) && !(decide ((c : Int) ≥ 48) && decide ((c : Int) ≤ 57)) && (c : Int) != 95 && (c : Int) != 45 && (c : Int) != 46) = !wdZ (c : Int) := by
  have : ∀ c : Fin 256, (!smZ (c.val : Int) && !(decide ((c.val : Int) ≥ 65) && decide ((c.val : Int) ≤ 90)) && !(decide ((c.val : Int) ≥ 48) && decide ((c.val : Int) ≤ 57)) && (c.val : Int) != 95 && (c.val : Int) != 45 && (c.val : Int) != 46) = !wdZ (c.val : Int) := by decide +kernel
  exact this ⟨c, h⟩
theorem wd_refB (s : ByteArray) (c : Nat) : (!smZ (byteN s c) && !(decide (byteN s c ≥ 65) && decide (byteN s c ≤ 90)) && !(decide (byteN s c ≥ 48) && decide (byteN s c ≤ 57)) && byteN s c != 95 && byteN s c != 45 && byteN s c != 46) = !wdZ (byteN s c) := by
  have e : ((byteN s c).toNat : Int) = byteN s c := by have := byteN_lt s c; omega
  have := wd_ref (byteN s c).toNat (by have := byteN_lt s c; omega)
  rwa [e] at this
theorem aNameR (s : ByteArray) : ACall Tryd.prog gl 71 [.c (.v (.string s))] [] (boolA (nameB s)) := by
  by_cases hA : (s.size : Int) < 1
  · have hn : nameB s = false := by unfold nameB spell; have : s.size = 0 := by omega
                                    simp [this]
    rw [hn]
    have hq : decide ((s.size : Int) < 1) = true := by simpa using hA
    have hB : (decide ((s.size : Int) < 1) || decide ((s.size : Int) > 24)) = false → (0 : Int) ≤ 0 ∧ (0 : Int) < s.size := fun h => by rw [hq] at h; simp at h
    refine acall_of_vc htb hmix (f := 71) rfl rfl rfl (by kernel_rfl) rfl rfl ?_; conv => whnf
    repeat' (first | (refine Exists.intro _ (And.intro (chainI (aSmallR _)) ?_); conv => whnf) | (refine Exists.intro _ (And.intro (aSmallR _) ?_); conv => whnf) | ((with_reducible refine GOr.l ?_); (conv => whnf); refine Exists.intro _ (And.intro (chainI (aSmallR _)) ?_); conv => whnf) | (refine And.intro (fun h => ?_) (fun h => ?_) <;> (first | (with_reducible have hd : _ < _ := of_decide_eq_true h) | (with_reducible have hd : _ ≤ _ := of_decide_eq_true h) | (with_reducible have hd : ¬ (_ < _) := of_decide_eq_false h) | (with_reducible have hd : ¬ (_ ≤ _) := of_decide_eq_false h) | skip) <;> (first | exact absurd h (by decide) | (conv => whnf))) | ((with_reducible refine Both.mk ?_ ?_) <;> conv => whnf) | ((with_reducible refine DOg.l ?_); (conv => whnf)) | ((with_reducible refine DOr.l ?_); (conv => whnf)) | ((with_reducible refine OwnOr.l ?_); (conv => whnf)) | (refine And.intro ?_ ?_; (focus (first | exact trivial | exact rfl | (first | exact seT | exact u64nn _ | exact hB | exact chainI hB | assumption) | (refine chainI ?_; (first | (first | exact seT | exact u64nn _ | exact hB | exact chainI hB | assumption) | decide | omega | (refine And.intro ?_ ?_ <;> first | omega | (simp; omega)) | (simp only [IntKind.wrap_i64]; first | omega | (refine And.intro ?_ ?_ <;> omega)))) | (intro _; (first | (first | exact seT | exact u64nn _ | exact hB | exact chainI hB | assumption) | decide | omega | (refine And.intro ?_ ?_ <;> first | omega | (simp; omega)) | (simp only [IntKind.wrap_i64]; first | omega | (refine And.intro ?_ ?_ <;> omega)))) | (intro _ _; (first | (first | exact seT | exact u64nn _ | exact hB | exact chainI hB | assumption) | decide | omega | (refine And.intro ?_ ?_ <;> first | omega | (simp; omega)) | (simp only [IntKind.wrap_i64]; first | omega | (refine And.intro ?_ ?_ <;> omega)))) | (first | decide | omega | (refine And.intro ?_ ?_ <;> first | omega | (simp; omega)) | (simp only [IntKind.wrap_i64]; first | omega | (refine And.intro ?_ ?_ <;> omega))) | ((conv => whnf); intros; (try simp only [decide_eq_true_eq, decide_eq_false_iff_not, Bool.and_eq_true, Bool.or_eq_true, Bool.and_eq_false_imp, Bool.or_eq_false_iff, Bool.not_eq_true', Bool.not_eq_false', beq_iff_eq, bne_iff_ne, ne_eq] at *); (first | (first | exact seT | exact u64nn _ | exact hB | exact chainI hB | assumption) | decide | omega | (refine And.intro ?_ ?_ <;> first | omega | (simp; omega)) | (simp only [IntKind.wrap_i64]; first | omega | (refine And.intro ?_ ?_ <;> omega)))))); conv => whnf) | (refine And.intro ?_ ?_; (focus (first | exact NoTag.int | exact NoTag.bool | exact NoTag.str | (refine NoTag.of_scalar ?_; rfl))); conv => whnf) | ((with_reducible refine xc_pure ?_); conv => whnf))
    · exact leB rfl
    · rw [hq] at h; simp at h
  · by_cases hC : (s.size : Int) > 24
    · have hn : nameB s = false := by unfold nameB spell; have : ¬ s.size ≤ 24 := by omega
                                      simp [this]
      rw [hn]
      have hq : decide ((s.size : Int) > 24) = true := by simpa using hC
      have hB : (decide ((s.size : Int) < 1) || decide ((s.size : Int) > 24)) = false → (0 : Int) ≤ 0 ∧ (0 : Int) < s.size := fun h => by rw [hq] at h; simp at h
      refine acall_of_vc htb hmix (f := 71) rfl rfl rfl (by kernel_rfl) rfl rfl ?_; conv => whnf
      repeat' (first | (refine Exists.intro _ (And.intro (chainI (aSmallR _)) ?_); conv => whnf) | (refine Exists.intro _ (And.intro (aSmallR _) ?_); conv => whnf) | ((with_reducible refine GOr.l ?_); (conv => whnf); refine Exists.intro _ (And.intro (chainI (aSmallR _)) ?_); conv => whnf) | (refine And.intro (fun h => ?_) (fun h => ?_) <;> (first | (with_reducible have hd : _ < _ := of_decide_eq_true h) | (with_reducible have hd : _ ≤ _ := of_decide_eq_true h) | (with_reducible have hd : ¬ (_ < _) := of_decide_eq_false h) | (with_reducible have hd : ¬ (_ ≤ _) := of_decide_eq_false h) | skip) <;> (first | exact absurd h (by decide) | (conv => whnf))) | ((with_reducible refine Both.mk ?_ ?_) <;> conv => whnf) | ((with_reducible refine DOg.l ?_); (conv => whnf)) | ((with_reducible refine DOr.l ?_); (conv => whnf)) | ((with_reducible refine OwnOr.l ?_); (conv => whnf)) | (refine And.intro ?_ ?_; (focus (first | exact trivial | exact rfl | (first | exact seT | exact u64nn _ | exact hB | exact chainI hB | assumption) | (refine chainI ?_; (first | (first | exact seT | exact u64nn _ | exact hB | exact chainI hB | assumption) | decide | omega | (refine And.intro ?_ ?_ <;> first | omega | (simp; omega)) | (simp only [IntKind.wrap_i64]; first | omega | (refine And.intro ?_ ?_ <;> omega)))) | (intro _; (first | (first | exact seT | exact u64nn _ | exact hB | exact chainI hB | assumption) | decide | omega | (refine And.intro ?_ ?_ <;> first | omega | (simp; omega)) | (simp only [IntKind.wrap_i64]; first | omega | (refine And.intro ?_ ?_ <;> omega)))) | (intro _ _; (first | (first | exact seT | exact u64nn _ | exact hB | exact chainI hB | assumption) | decide | omega | (refine And.intro ?_ ?_ <;> first | omega | (simp; omega)) | (simp only [IntKind.wrap_i64]; first | omega | (refine And.intro ?_ ?_ <;> omega)))) | (first | decide | omega | (refine And.intro ?_ ?_ <;> first | omega | (simp; omega)) | (simp only [IntKind.wrap_i64]; first | omega | (refine And.intro ?_ ?_ <;> omega))) | ((conv => whnf); intros; (try simp only [decide_eq_true_eq, decide_eq_false_iff_not, Bool.and_eq_true, Bool.or_eq_true, Bool.and_eq_false_imp, Bool.or_eq_false_iff, Bool.not_eq_true', Bool.not_eq_false', beq_iff_eq, bne_iff_ne, ne_eq] at *); (first | (first | exact seT | exact u64nn _ | exact hB | exact chainI hB | assumption) | decide | omega | (refine And.intro ?_ ?_ <;> first | omega | (simp; omega)) | (simp only [IntKind.wrap_i64]; first | omega | (refine And.intro ?_ ?_ <;> omega)))))); conv => whnf) | (refine And.intro ?_ ?_; (focus (first | exact NoTag.int | exact NoTag.bool | exact NoTag.str | (refine NoTag.of_scalar ?_; rfl))); conv => whnf) | ((with_reducible refine xc_pure ?_); conv => whnf))
      · exact leB rfl
      · rw [hq] at h; simp at h
    · have hn : nameB s = (allB nmZ s && smZ (byteN s 0)) := by unfold nameB; rw [spell_split hA hC]
      have hB : (decide ((s.size : Int) < 1) || decide ((s.size : Int) > 24)) = false → (0 : Int) ≤ 0 ∧ (0 : Int) < s.size := fun h => by omega
      rw [hn]
      refine acall_of_vc htb hmix (f := 71) rfl rfl rfl (by kernel_rfl) rfl rfl ?_; conv => whnf
      repeat' (first | (refine Exists.intro _ (And.intro (chainI (aSmallR _)) ?_); conv => whnf) | (refine Exists.intro _ (And.intro (aSmallR _) ?_); conv => whnf) | ((with_reducible refine GOr.l ?_); (conv => whnf); refine Exists.intro _ (And.intro (chainI (aSmallR _)) ?_); conv => whnf) | (refine And.intro (fun h => ?_) (fun h => ?_) <;> (first | (with_reducible have hd : _ < _ := of_decide_eq_true h) | (with_reducible have hd : _ ≤ _ := of_decide_eq_true h) | (with_reducible have hd : ¬ (_ < _) := of_decide_eq_false h) | (with_reducible have hd : ¬ (_ ≤ _) := of_decide_eq_false h) | skip) <;> (first | exact absurd h (by decide) | (conv => whnf))) | ((with_reducible refine Both.mk ?_ ?_) <;> conv => whnf) | ((with_reducible refine DOg.l ?_); (conv => whnf)) | ((with_reducible refine DOr.l ?_); (conv => whnf)) | ((with_reducible refine OwnOr.l ?_); (conv => whnf)) | (refine And.intro ?_ ?_; (focus (first | exact trivial | exact rfl | (first | exact seT | exact u64nn _ | exact hB | exact chainI hB | assumption) | (refine chainI ?_; (first | (first | exact seT | exact u64nn _ | exact hB | exact chainI hB | assumption) | decide | omega | (refine And.intro ?_ ?_ <;> first | omega | (simp; omega)) | (simp only [IntKind.wrap_i64]; first | omega | (refine And.intro ?_ ?_ <;> omega)))) | (intro _; (first | (first | exact seT | exact u64nn _ | exact hB | exact chainI hB | assumption) | decide | omega | (refine And.intro ?_ ?_ <;> first | omega | (simp; omega)) | (simp only [IntKind.wrap_i64]; first | omega | (refine And.intro ?_ ?_ <;> omega)))) | (intro _ _; (first | (first | exact seT | exact u64nn _ | exact hB | exact chainI hB | assumption) | decide | omega | (refine And.intro ?_ ?_ <;> first | omega | (simp; omega)) | (simp only [IntKind.wrap_i64]; first | omega | (refine And.intro ?_ ?_ <;> omega)))) | (first | decide | omega | (refine And.intro ?_ ?_ <;> first | omega | (simp; omega)) | (simp only [IntKind.wrap_i64]; first | omega | (refine And.intro ?_ ?_ <;> omega))) | ((conv => whnf); intros; (try simp only [decide_eq_true_eq, decide_eq_false_iff_not, Bool.and_eq_true, Bool.or_eq_true, Bool.and_eq_false_imp, Bool.or_eq_false_iff, Bool.not_eq_true', Bool.not_eq_false', beq_iff_eq, bne_iff_ne, ne_eq] at *); (first | (first | exact seT | exact u64nn _ | exact hB | exact chainI hB | assumption) | decide | omega | (refine And.intro ?_ ?_ <;> first | omega | (simp; omega)) | (simp only [IntKind.wrap_i64]; first | omega | (refine And.intro ?_ ?_ <;> omega)))))); conv => whnf) | (refine And.intro ?_ ?_; (focus (first | exact NoTag.int | exact NoTag.bool | exact NoTag.str | (refine NoTag.of_scalar ?_; rfl))); conv => whnf) | ((with_reducible refine xc_pure ?_); conv => whnf))
      · have q1 : decide ((s.size : Int) < 1) = false := by simpa using hA
        have q2 : decide ((s.size : Int) > 24) = false := by simpa using hC
        rw [q1, q2] at h
        have h : (!smZ (byteN s 0)) = true := h
        refine leB ?_
        have : smZ (byteN s 0) = false := by simpa using h
        rw [this]; simp
      · have q1 : decide ((s.size : Int) < 1) = false := by simpa using hA
        have q2 : decide ((s.size : Int) > 24) = false := by simpa using hC
        rw [q1, q2] at h
        have h : (!smZ (byteN s 0)) = false := h
        have h0 : smZ (byteN s 0) = true := by simpa using h
        refine loopI Nat (fun c => c ≤ s.size ∧ ∀ j, j < c → nmZ (byteN s j) = true) (fun c => [(3, intA .i64 c)]) (fun _ => []) (fun c => s.size - c) 0 ⟨Nat.zero_le _, fun j hj => absurd hj (Nat.not_lt_zero _)⟩ ?_ (fun _ => rfl) fun c ⟨hc, hp⟩ => ?_
        · (refine And.intro ?_ (And.intro ?_ (And.intro ?_ rfl)) <;> (conv => whnf) <;> repeat' (first | exact trivial | exact LeE.of (Le.refl _) | exact LeE.nil rfl | (with_reducible refine LeE.of ?_) | (first | fail | exact Le.refl _ | exact rfl | exact leI (by first | rfl | omega | (rw [wrap64 (by omega) (by omega)]; omega) | (rw [wrap64 (by omega) (by omega)]; done)) | exact LeCs.refl _ | exact fun i hi => LeCs.refl _ | exact leOwn (by first | rfl | omega)) | ((with_reducible refine And.intro ?_ ?_) <;> conv => whnf)))
        · conv => whnf
          repeat' (first | (refine Exists.intro _ (And.intro (chainI (aSmallR _)) ?_); conv => whnf) | (refine Exists.intro _ (And.intro (aSmallR _) ?_); conv => whnf) | ((with_reducible refine GOr.l ?_); (conv => whnf); refine Exists.intro _ (And.intro (chainI (aSmallR _)) ?_); conv => whnf) | (refine And.intro (fun h => ?_) (fun h => ?_) <;> (first | (with_reducible have hd : _ < _ := of_decide_eq_true h) | (with_reducible have hd : _ ≤ _ := of_decide_eq_true h) | (with_reducible have hd : ¬ (_ < _) := of_decide_eq_false h) | (with_reducible have hd : ¬ (_ ≤ _) := of_decide_eq_false h) | skip) <;> (first | exact absurd h (by decide) | (conv => whnf))) | ((with_reducible refine Both.mk ?_ ?_) <;> conv => whnf) | ((with_reducible refine DOg.l ?_); (conv => whnf)) | ((with_reducible refine DOr.l ?_); (conv => whnf)) | ((with_reducible refine OwnOr.l ?_); (conv => whnf)) | (refine And.intro ?_ ?_; (focus (first | exact trivial | exact rfl | (first | exact seT | exact u64nn _ | exact hB | exact chainI hB | assumption) | (refine chainI ?_; (first | (first | exact seT | exact u64nn _ | exact hB | exact chainI hB | assumption) | decide | omega | (refine And.intro ?_ ?_ <;> first | omega | (simp; omega)) | (simp only [IntKind.wrap_i64]; first | omega | (refine And.intro ?_ ?_ <;> omega)))) | (intro _; (first | (first | exact seT | exact u64nn _ | exact hB | exact chainI hB | assumption) | decide | omega | (refine And.intro ?_ ?_ <;> first | omega | (simp; omega)) | (simp only [IntKind.wrap_i64]; first | omega | (refine And.intro ?_ ?_ <;> omega)))) | (intro _ _; (first | (first | exact seT | exact u64nn _ | exact hB | exact chainI hB | assumption) | decide | omega | (refine And.intro ?_ ?_ <;> first | omega | (simp; omega)) | (simp only [IntKind.wrap_i64]; first | omega | (refine And.intro ?_ ?_ <;> omega)))) | (first | decide | omega | (refine And.intro ?_ ?_ <;> first | omega | (simp; omega)) | (simp only [IntKind.wrap_i64]; first | omega | (refine And.intro ?_ ?_ <;> omega))) | ((conv => whnf); intros; (try simp only [decide_eq_true_eq, decide_eq_false_iff_not, Bool.and_eq_true, Bool.or_eq_true, Bool.and_eq_false_imp, Bool.or_eq_false_iff, Bool.not_eq_true', Bool.not_eq_false', beq_iff_eq, bne_iff_ne, ne_eq] at *); (first | (first | exact seT | exact u64nn _ | exact hB | exact chainI hB | assumption) | decide | omega | (refine And.intro ?_ ?_ <;> first | omega | (simp; omega)) | (simp only [IntKind.wrap_i64]; first | omega | (refine And.intro ?_ ?_ <;> omega)))))); conv => whnf) | (refine And.intro ?_ ?_; (focus (first | exact NoTag.int | exact NoTag.bool | exact NoTag.str | (refine NoTag.of_scalar ?_; rfl))); conv => whnf) | ((with_reducible refine xc_pure ?_); conv => whnf))
          · have hcs : c < s.size := by omega
            have hq : (!smZ (byteN s c) && !(decide (byteN s c ≥ 48) && decide (byteN s c ≤ 57)) && byteN s c != 95) = true := h
            rw [nm_ref] at hq
            refine leB ?_
            rw [allB_f hcs (by simpa using hq)]; rfl
          · have hcs : c < s.size := by omega
            have hq : (!smZ (byteN s c) && !(decide (byteN s c ≥ 48) && decide (byteN s c ≤ 57)) && byteN s c != 95) = false := h
            rw [nm_ref] at hq
            refine ⟨c + 1, ⟨hcs, fun j hj => ?_⟩, ?_, by show s.size - (c + 1) < s.size - c; omega⟩
            · rcases Nat.lt_or_ge j c with h2 | h2
              · exact hp j h2
              · obtain rfl : j = c := by omega
                simpa using hq
            · (refine And.intro ?_ (And.intro ?_ (And.intro ?_ rfl)) <;> (conv => whnf) <;> repeat' (first | exact trivial | exact LeE.of (Le.refl _) | exact LeE.nil rfl | (with_reducible refine LeE.of ?_) | (first | fail | exact Le.refl _ | exact rfl | exact leI (by first | rfl | omega | (rw [wrap64 (by omega) (by omega)]; omega) | (rw [wrap64 (by omega) (by omega)]; done)) | exact LeCs.refl _ | exact fun i hi => LeCs.refl _ | exact leOwn (by first | rfl | omega)) | ((with_reducible refine And.intro ?_ ?_) <;> conv => whnf)))
          · obtain rfl : c = s.size := by omega
            refine leB ?_
            rw [allB_t hp, h0]; rfl
theorem aWordR (s : ByteArray) : ACall Tryd.prog gl 72 [.c (.v (.string s))] [] (boolA (wordB s)) := by
  refine acall_of_vc htb hmix (f := 72) rfl rfl rfl (by kernel_rfl) rfl rfl ?_; conv => whnf
  repeat' (first | (refine And.intro (fun h => ?_) (fun h => ?_) <;> (first | (with_reducible have hd : _ < _ := of_decide_eq_true h) | (with_reducible have hd : _ ≤ _ := of_decide_eq_true h) | (with_reducible have hd : ¬ (_ < _) := of_decide_eq_false h) | (with_reducible have hd : ¬ (_ ≤ _) := of_decide_eq_false h) | skip) <;> (first | exact absurd h (by decide) | (conv => whnf))) | ((with_reducible refine Both.mk ?_ ?_) <;> conv => whnf) | ((with_reducible refine DOg.l ?_); (conv => whnf)) | ((with_reducible refine DOr.l ?_); (conv => whnf)) | ((with_reducible refine OwnOr.l ?_); (conv => whnf)) | (refine And.intro ?_ ?_; (focus (first | exact trivial | exact rfl | (first | exact seT | exact u64nn _ | exact hB | exact chainI hB | assumption) | (refine chainI ?_; (first | (first | exact seT | exact u64nn _ | exact hB | exact chainI hB | assumption) | decide | omega | (refine And.intro ?_ ?_ <;> first | omega | (simp; omega)) | (simp only [IntKind.wrap_i64]; first | omega | (refine And.intro ?_ ?_ <;> omega)))) | (intro _; (first | (first | exact seT | exact u64nn _ | exact hB | exact chainI hB | assumption) | decide | omega | (refine And.intro ?_ ?_ <;> first | omega | (simp; omega)) | (simp only [IntKind.wrap_i64]; first | omega | (refine And.intro ?_ ?_ <;> omega)))) | (intro _ _; (first | (first | exact seT | exact u64nn _ | exact hB | exact chainI hB | assumption) | decide | omega | (refine And.intro ?_ ?_ <;> first | omega | (simp; omega)) | (simp only [IntKind.wrap_i64]; first | omega | (refine And.intro ?_ ?_ <;> omega)))) | (first | decide | omega | (refine And.intro ?_ ?_ <;> first | omega | (simp; omega)) | (simp only [IntKind.wrap_i64]; first | omega | (refine And.intro ?_ ?_ <;> omega))) | ((conv => whnf); intros; (try simp only [decide_eq_true_eq, decide_eq_false_iff_not, Bool.and_eq_true, Bool.or_eq_true, Bool.and_eq_false_imp, Bool.or_eq_false_iff, Bool.not_eq_true', Bool.not_eq_false', beq_iff_eq, bne_iff_ne, ne_eq] at *); (first | (first | exact seT | exact u64nn _ | exact hB | exact chainI hB | assumption) | decide | omega | (refine And.intro ?_ ?_ <;> first | omega | (simp; omega)) | (simp only [IntKind.wrap_i64]; first | omega | (refine And.intro ?_ ?_ <;> omega)))))); conv => whnf) | (refine And.intro ?_ ?_; (focus (first | exact NoTag.int | exact NoTag.bool | exact NoTag.str | (refine NoTag.of_scalar ?_; rfl))); conv => whnf))
  · refine leB ?_
    unfold wordB spell
    simp only [Bool.or_eq_true, decide_eq_true_eq] at h
    rcases h with h | h
    · have : s.size = 0 := by omega
      simp [this]
    · have : ¬ s.size ≤ 24 := by omega
      simp [this]
  · simp only [Bool.or_eq_false_iff, decide_eq_false_iff_not] at h
    have hw : wordB s = allB wdZ s := spell_split h.1 h.2
    rw [hw]
    refine loopI Nat (fun c => c ≤ s.size ∧ ∀ j, j < c → wdZ (byteN s j) = true) (fun c => [(3, intA .i64 c)]) (fun _ => []) (fun c => s.size - c) 0 ⟨Nat.zero_le _, fun j hj => absurd hj (Nat.not_lt_zero _)⟩ ?_ (fun _ => rfl) fun c ⟨hc, hp⟩ => ?_
    · (refine And.intro ?_ (And.intro ?_ (And.intro ?_ rfl)) <;> (conv => whnf) <;> repeat' (first | exact trivial | exact LeE.of (Le.refl _) | exact LeE.nil rfl | (with_reducible refine LeE.of ?_) | (first | fail | exact Le.refl _ | exact rfl | exact leI (by first | rfl | omega | (rw [wrap64 (by omega) (by omega)]; omega) | (rw [wrap64 (by omega) (by omega)]; done)) | exact LeCs.refl _ | exact fun i hi => LeCs.refl _ | exact leOwn (by first | rfl | omega)) | ((with_reducible refine And.intro ?_ ?_) <;> conv => whnf)))
    · conv => whnf
      repeat' (first | (refine Exists.intro _ (And.intro (chainI (aSmallR _)) ?_); conv => whnf) | (refine Exists.intro _ (And.intro (aSmallR _) ?_); conv => whnf) | ((with_reducible refine GOr.l ?_); (conv => whnf); refine Exists.intro _ (And.intro (chainI (aSmallR _)) ?_); conv => whnf) | (refine And.intro (fun h => ?_) (fun h => ?_) <;> (first | (with_reducible have hd : _ < _ := of_decide_eq_true h) | (with_reducible have hd : _ ≤ _ := of_decide_eq_true h) | (with_reducible have hd : ¬ (_ < _) := of_decide_eq_false h) | (with_reducible have hd : ¬ (_ ≤ _) := of_decide_eq_false h) | skip) <;> (first | exact absurd h (by decide) | (conv => whnf))) | ((with_reducible refine Both.mk ?_ ?_) <;> conv => whnf) | ((with_reducible refine DOg.l ?_); (conv => whnf)) | ((with_reducible refine DOr.l ?_); (conv => whnf)) | ((with_reducible refine OwnOr.l ?_); (conv => whnf)) | (refine And.intro ?_ ?_; (focus (first | exact trivial | exact rfl | (first | exact seT | exact u64nn _ | exact hB | exact chainI hB | assumption) | (refine chainI ?_; (first | (first | exact seT | exact u64nn _ | exact hB | exact chainI hB | assumption) | decide | omega | (refine And.intro ?_ ?_ <;> first | omega | (simp; omega)) | (simp only [IntKind.wrap_i64]; first | omega | (refine And.intro ?_ ?_ <;> omega)))) | (intro _; (first | (first | exact seT | exact u64nn _ | exact hB | exact chainI hB | assumption) | decide | omega | (refine And.intro ?_ ?_ <;> first | omega | (simp; omega)) | (simp only [IntKind.wrap_i64]; first | omega | (refine And.intro ?_ ?_ <;> omega)))) | (intro _ _; (first | (first | exact seT | exact u64nn _ | exact hB | exact chainI hB | assumption) | decide | omega | (refine And.intro ?_ ?_ <;> first | omega | (simp; omega)) | (simp only [IntKind.wrap_i64]; first | omega | (refine And.intro ?_ ?_ <;> omega)))) | (first | decide | omega | (refine And.intro ?_ ?_ <;> first | omega | (simp; omega)) | (simp only [IntKind.wrap_i64]; first | omega | (refine And.intro ?_ ?_ <;> omega))) | ((conv => whnf); intros; (try simp only [decide_eq_true_eq, decide_eq_false_iff_not, Bool.and_eq_true, Bool.or_eq_true, Bool.and_eq_false_imp, Bool.or_eq_false_iff, Bool.not_eq_true', Bool.not_eq_false', beq_iff_eq, bne_iff_ne, ne_eq] at *); (first | (first | exact seT | exact u64nn _ | exact hB | exact chainI hB | assumption) | decide | omega | (refine And.intro ?_ ?_ <;> first | omega | (simp; omega)) | (simp only [IntKind.wrap_i64]; first | omega | (refine And.intro ?_ ?_ <;> omega)))))); conv => whnf) | (refine And.intro ?_ ?_; (focus (first | exact NoTag.int | exact NoTag.bool | exact NoTag.str | (refine NoTag.of_scalar ?_; rfl))); conv => whnf) | ((with_reducible refine xc_pure ?_); conv => whnf))
      · have hcs : c < s.size := by omega
        have hq : (!smZ (byteN s c) && !(decide (byteN s c ≥ 65) && decide (byteN s c ≤ 90)) && !(decide (byteN s c ≥ 48) && decide (byteN s c ≤ 57)) && byteN s c != 95 && byteN s c != 45 && byteN s c != 46) = true := h
        rw [wd_refB] at hq
        refine leB ?_
        rw [allB_f hcs (by simpa using hq)]
      · have hcs : c < s.size := by omega
        have hq : (!smZ (byteN s c) && !(decide (byteN s c ≥ 65) && decide (byteN s c ≤ 90)) && !(decide (byteN s c ≥ 48) && decide (byteN s c ≤ 57)) && byteN s c != 95 && byteN s c != 45 && byteN s c != 46) = false := h
        rw [wd_refB] at hq
        refine ⟨c + 1, ⟨hcs, fun j hj => ?_⟩, ?_, by show s.size - (c + 1) < s.size - c; omega⟩
        · rcases Nat.lt_or_ge j c with h2 | h2
          · exact hp j h2
          · obtain rfl : j = c := by omega
            simpa using hq
        · (refine And.intro ?_ (And.intro ?_ (And.intro ?_ rfl)) <;> (conv => whnf) <;> repeat' (first | exact trivial | exact LeE.of (Le.refl _) | exact LeE.nil rfl | (with_reducible refine LeE.of ?_) | (first | fail | exact Le.refl _ | exact rfl | exact leI (by first | rfl | omega | (rw [wrap64 (by omega) (by omega)]; omega) | (rw [wrap64 (by omega) (by omega)]; done)) | exact LeCs.refl _ | exact fun i hi => LeCs.refl _ | exact leOwn (by first | rfl | omega)) | ((with_reducible refine And.intro ?_ ?_) <;> conv => whnf)))
      · obtain rfl : c = s.size := by omega
        refine leB ?_
        rw [allB_t hp]
theorem aCheckAR (a : Ad) : ACall Tryd.prog gl 49 [.ag (cAd a)] [] (boolA (okAd a)) := by
  refine acall_of_vc htb hmix (f := 49) rfl rfl rfl (by kernel_rfl) rfl rfl ?_; conv => whnf
  repeat' (first | (refine Exists.intro _ (And.intro (chainI (aNameR _)) ?_); conv => whnf) | (refine Exists.intro _ (And.intro (aNameR _) ?_); conv => whnf) | ((with_reducible refine GOr.l ?_); (conv => whnf); refine Exists.intro _ (And.intro (chainI (aNameR _)) ?_); conv => whnf) | (refine Exists.intro _ (And.intro (chainI (aWordR _)) ?_); conv => whnf) | (refine Exists.intro _ (And.intro (aWordR _) ?_); conv => whnf) | ((with_reducible refine GOr.l ?_); (conv => whnf); refine Exists.intro _ (And.intro (chainI (aWordR _)) ?_); conv => whnf) | (refine And.intro (fun h => ?_) (fun h => ?_) <;> (first | (with_reducible have hd : _ < _ := of_decide_eq_true h) | (with_reducible have hd : _ ≤ _ := of_decide_eq_true h) | (with_reducible have hd : ¬ (_ < _) := of_decide_eq_false h) | (with_reducible have hd : ¬ (_ ≤ _) := of_decide_eq_false h) | skip) <;> (first | exact absurd h (by decide) | (conv => whnf))) | ((with_reducible refine Both.mk ?_ ?_) <;> conv => whnf) | ((with_reducible refine DOg.l ?_); (conv => whnf)) | ((with_reducible refine DOr.l ?_); (conv => whnf)) | ((with_reducible refine OwnOr.l ?_); (conv => whnf)) | (refine And.intro ?_ ?_; (focus (first | exact trivial | exact rfl | (first | exact seT | exact u64nn _ | exact hB | exact chainI hB | assumption) | (refine chainI ?_; (first | (first | exact seT | exact u64nn _ | exact hB | exact chainI hB | assumption) | decide | omega | (refine And.intro ?_ ?_ <;> first | omega | (simp; omega)) | (simp only [IntKind.wrap_i64]; first | omega | (refine And.intro ?_ ?_ <;> omega)))) | (intro _; (first | (first | exact seT | exact u64nn _ | exact hB | exact chainI hB | assumption) | decide | omega | (refine And.intro ?_ ?_ <;> first | omega | (simp; omega)) | (simp only [IntKind.wrap_i64]; first | omega | (refine And.intro ?_ ?_ <;> omega)))) | (intro _ _; (first | (first | exact seT | exact u64nn _ | exact hB | exact chainI hB | assumption) | decide | omega | (refine And.intro ?_ ?_ <;> first | omega | (simp; omega)) | (simp only [IntKind.wrap_i64]; first | omega | (refine And.intro ?_ ?_ <;> omega)))) | (first | decide | omega | (refine And.intro ?_ ?_ <;> first | omega | (simp; omega)) | (simp only [IntKind.wrap_i64]; first | omega | (refine And.intro ?_ ?_ <;> omega))) | ((conv => whnf); intros; (try simp only [decide_eq_true_eq, decide_eq_false_iff_not, Bool.and_eq_true, Bool.or_eq_true, Bool.and_eq_false_imp, Bool.or_eq_false_iff, Bool.not_eq_true', Bool.not_eq_false', beq_iff_eq, bne_iff_ne, ne_eq] at *); (first | (first | exact seT | exact u64nn _ | exact hB | exact chainI hB | assumption) | decide | omega | (refine And.intro ?_ ?_ <;> first | omega | (simp; omega)) | (simp only [IntKind.wrap_i64]; first | omega | (refine And.intro ?_ ?_ <;> omega)))))); conv => whnf) | (refine And.intro ?_ ?_; (focus (first | exact NoTag.int | exact NoTag.bool | exact NoTag.str | (refine NoTag.of_scalar ?_; rfl))); conv => whnf) | ((with_reducible refine xc_pure ?_); conv => whnf))
  all_goals
    refine leB ?_
    try simp only [str_empty]
    unfold okAd
    generalize (a.s.size == 0) = z at *
    simp_all
  all_goals grind
theorem aCheckKR (k : Ky) (hn : 0 ≤ k.n) : ACall Tryd.prog gl 33 [.ag (cKy k)] [] (boolA (okKy k)) := by
  refine acall_of_vc htb hmix (f := 33) rfl rfl rfl (by kernel_rfl) rfl rfl ?_; conv => whnf
  repeat' (first | (refine Exists.intro _ (And.intro (chainI (aCheckAR k.a)) ?_); conv => whnf) | (refine Exists.intro _ (And.intro (aCheckAR k.a) ?_); conv => whnf) | ((with_reducible refine GOr.l ?_); (conv => whnf); refine Exists.intro _ (And.intro (chainI (aCheckAR k.a)) ?_); conv => whnf) | (refine And.intro (fun h => ?_) (fun h => ?_) <;> (first | (with_reducible have hd : _ < _ := of_decide_eq_true h) | (with_reducible have hd : _ ≤ _ := of_decide_eq_true h) | (with_reducible have hd : ¬ (_ < _) := of_decide_eq_false h) | (with_reducible have hd : ¬ (_ ≤ _) := of_decide_eq_false h) | skip) <;> (first | exact absurd h (by decide) | (conv => whnf))) | ((with_reducible refine Both.mk ?_ ?_) <;> conv => whnf) | ((with_reducible refine DOg.l ?_); (conv => whnf)) | ((with_reducible refine DOr.l ?_); (conv => whnf)) | ((with_reducible refine OwnOr.l ?_); (conv => whnf)) | (refine And.intro ?_ ?_; (focus (first | exact trivial | exact rfl | (first | exact seT | exact u64nn _ | exact hB | exact chainI hB | assumption) | (refine chainI ?_; (first | (first | exact seT | exact u64nn _ | exact hB | exact chainI hB | assumption) | decide | omega | (refine And.intro ?_ ?_ <;> first | omega | (simp; omega)) | (simp only [IntKind.wrap_i64]; first | omega | (refine And.intro ?_ ?_ <;> omega)))) | (intro _; (first | (first | exact seT | exact u64nn _ | exact hB | exact chainI hB | assumption) | decide | omega | (refine And.intro ?_ ?_ <;> first | omega | (simp; omega)) | (simp only [IntKind.wrap_i64]; first | omega | (refine And.intro ?_ ?_ <;> omega)))) | (intro _ _; (first | (first | exact seT | exact u64nn _ | exact hB | exact chainI hB | assumption) | decide | omega | (refine And.intro ?_ ?_ <;> first | omega | (simp; omega)) | (simp only [IntKind.wrap_i64]; first | omega | (refine And.intro ?_ ?_ <;> omega)))) | (first | decide | omega | (refine And.intro ?_ ?_ <;> first | omega | (simp; omega)) | (simp only [IntKind.wrap_i64]; first | omega | (refine And.intro ?_ ?_ <;> omega))) | ((conv => whnf); intros; (try simp only [decide_eq_true_eq, decide_eq_false_iff_not, Bool.and_eq_true, Bool.or_eq_true, Bool.and_eq_false_imp, Bool.or_eq_false_iff, Bool.not_eq_true', Bool.not_eq_false', beq_iff_eq, bne_iff_ne, ne_eq] at *); (first | (first | exact seT | exact u64nn _ | exact hB | exact chainI hB | assumption) | decide | omega | (refine And.intro ?_ ?_ <;> first | omega | (simp; omega)) | (simp only [IntKind.wrap_i64]; first | omega | (refine And.intro ?_ ?_ <;> omega)))))); conv => whnf) | (refine And.intro ?_ ?_; (focus (first | exact NoTag.int | exact NoTag.bool | exact NoTag.str | (refine NoTag.of_scalar ?_; rfl))); conv => whnf) | ((with_reducible refine xc_pure ?_); conv => whnf))
  refine leB ?_
  have e : decide (k.n > 0) = !(k.n == 0) := by
    by_cases h : k.n = 0
    · rw [h]; rfl
    · have : k.n > 0 := by omega
      simp [h, this]
  rw [e]
  unfold okKy
  cases okAd k.a <;> cases (k.n == 0) <;> rfl
end Go.Proofs.YtcgcamfhollnlaaDoor

namespace Go.Proofs.YtcgcamfhollnlaaDoor
set_option linter.unusedSimpArgs false
set_option linter.unusedVariables false
set_option maxRecDepth 100000
set_option maxHeartbeats 8000000
open Go Go.VA
section
variable (s : ByteArray)
end
end Go.Proofs.YtcgcamfhollnlaaDoor

namespace Go.Proofs.YtcgcamfhollnlaaDoor
set_option linter.unusedSimpArgs false
set_option linter.unusedVariables false
set_option maxRecDepth 100000
set_option maxHeartbeats 8000000
open Go Go.VA
theorem and_max (i : Int) (h0 : 0 ≤ i) (h : i ≤ 9223372036854775807) : bitsI .and .u64 i 9223372036854775807 = i := by
  obtain ⟨n, rfl⟩ := Int.eq_ofNat_of_zero_le h0
  unfold bitsI
  show IntKind.u64.wrap (((BitVec.ofInt 64 (n : Int) &&& BitVec.ofInt 64 9223372036854775807).toNat : Nat) : Int) = _
  rw [BitVec.toNat_and, ofNat64 _ (by omega), show (BitVec.ofInt 64 9223372036854775807).toNat = 2 ^ 63 - 1 from by decide, Nat.and_two_pow_sub_one_eq_mod, Nat.mod_eq_of_lt (by omega)]
  exact wrapU (by omega) (by omega)
end Go.Proofs.YtcgcamfhollnlaaDoor

namespace Go.Proofs.YtcgcamfhollnlaaDoor
set_option linter.unusedSimpArgs false
set_option linter.unusedVariables false
set_option maxRecDepth 100000
set_option maxHeartbeats 8000000
open Go Go.VA
theorem rTx_back (s t : ByteArray) (a : Nat) (ht : t.size ≤ 24) (h : AtL s a (strL t)) : rTx s (a : Int) 0 = (t, ((a + (strL t).length : Nat) : Int), 0) := by
  have h1 : AtL s a (shortL t.size) := h.left
  have h2 : AtL s (a + (shortL t.size).length) (bytesL t) := h.right
  have hg := gSx_back s a t.size (by omega) h1
  have hl := h2.1
  rw [bytesL_len] at hl
  unfold gSx at hg
  rw [Int.toNat_natCast] at hg
  unfold rTx gStr
  rw [Int.toNat_natCast, hg]
  have w : IntKind.u64.wrap (if (0 : Int) > 24 then 0 else 24) = 24 := rfl
  rw [if_neg (by decide), if_neg (by simp), w, if_neg (by simp; omega), if_neg (by simp; omega)]
  simp only [Int.toNat_natCast]
  rw [subS_back s t _ h2]
  have : (strL t).length = (shortL t.size).length + t.size := by rw [strL, List.length_append, bytesL_len]
  rw [this]
  push_cast
  rfl
theorem rSh_back (s : ByteArray) (a n : Nat) (hn : n < 2 ^ 64) (h : AtL s a (shortL n)) : rShort s (a : Int) 0 = ((n : Int), ((a + (shortL n).length : Nat) : Int), 0) := by
  have hg := gSx_back s a n hn h
  unfold gSx at hg
  unfold rShort
  rw [if_neg (by decide), hg]
  push_cast
  rfl
theorem rKd_back (s : ByteArray) (a : Nat) (x : Int) (h0 : 0 ≤ x) (h2 : x ≤ 2) (h : AtL s a [IntKind.u8.wrap x]) : rKd s (a : Int) 0 = (x, ((a + 1 : Nat) : Int), 0) := by
  have w : IntKind.u8.wrap x = x := by show x % 256 = x; omega
  rw [w] at h
  have hb := h.head
  unfold rKd byteAt
  rw [Int.toNat_natCast, hb.1, if_neg (by decide), if_neg (by simp; omega), if_neg (by simp; omega)]
  rfl
theorem ba_empty {s : ByteArray} (h : s.size = 0) : s = ByteArray.empty := ba_ext h fun i hi => by omega
theorem okAd_0 {a : Ad} (h : okAd a = true) (h0 : a.k = 0) : a.i = 0 ∧ a.s = ByteArray.empty := by
  unfold okAd at h
  simp [h0] at h
  exact ⟨h.1.2, ba_empty (by simpa using h.2)⟩
theorem okAd_1 {a : Ad} (h : okAd a = true) (h0 : a.k = 1) : a.s = ByteArray.empty := by
  unfold okAd at h
  simp [h0] at h
  exact ba_empty (by simpa using h.2)
theorem okAd_2 {a : Ad} (h : okAd a = true) (h0 : a.k = 2) : a.i = 0 := by
  unfold okAd at h
  simp [h0] at h
  exact h.1.2
theorem ky_back (s : ByteArray) (k : Ky) (ho : okKy k = true) (h0 : 0 ≤ k.n) (h1 : k.n ≤ 4294967295) (h : AtL s 0 (kyL k)) : gKyA s = (k, ((kyL k).length : Int), 0) := by
  obtain ⟨⟨z1, z2, z3, z4, z5, z6, z7⟩, z8⟩ := okKy_le ho
  have hoa : okAd k.a = true := by
    unfold okKy at ho
    simp only [Bool.and_eq_true] at ho
    exact ho.2
  have wn : (IntKind.u64.wrap k.n).toNat = k.n.toNat := by rw [wrapU h0 (by omega)]
  have wi : (IntKind.u64.wrap k.a.i).toNat = k.a.i.toNat := by rw [wrapU z6 (by omega)]
  have w32 : IntKind.u32.wrap k.n = k.n := by show k.n % 4294967296 = k.n; omega
  unfold kyL at h
  rw [wn, wi] at h
  have hA := h.left.left.left.left
  have hB := h.left.left.left.right
  have hC := h.left.left.right
  have hD := h.left.right
  have hE := h.right
  have e1 : gK1 s = (k.a.t, ((0 + (strL k.a.t).length : Nat) : Int), 0) := rTx_back s k.a.t 0 z1 hA
  have e2 : gK2 s = (k.a.n, ((0 + (strL k.a.t).length + (strL k.a.n).length : Nat) : Int), 0) := by
    unfold gK2; rw [e1]; exact rTx_back s k.a.n _ z2 hB
  have e3 : gK3 s = (k.a.k, ((0 + (strL k.a.t ++ strL k.a.n).length + 1 : Nat) : Int), 0) := by
    unfold gK3; rw [e2]
    have := rKd_back s _ k.a.k z4 z5 hC
    rw [List.length_append] at this ⊢
    rw [← Nat.add_assoc] at this ⊢
    exact this
  have el : 0 + (strL k.a.t ++ strL k.a.n).length + 1 = 0 + (strL k.a.t ++ strL k.a.n ++ [IntKind.u8.wrap k.a.k]).length := by simp; omega
  have fin : kyFin k (if k.a.k = 1 then k.a.i else 0) k.n ((kyL k).length : Int) 0 = (k, ((kyL k).length : Int), 0) := by
    unfold kyFin
    rw [if_neg (by decide), if_neg]
    have q1 : decide ((if k.a.k = 1 then k.a.i else 0) > 9223372036854775807) = false := by
      split <;> simp <;> omega
    have q2 : decide (k.n > 4294967295) = false := by simp; omega
    rw [q1, q2, ho]; decide
  have elen : ((kyL k).length : Int) = ((0 + (strL k.a.t ++ strL k.a.n ++ [IntKind.u8.wrap k.a.k] ++ (if k.a.k == 1 then shortL k.a.i.toNat else if k.a.k == 2 then strL k.a.s else [])).length + (shortL k.n.toNat).length : Nat) : Int) := by
    unfold kyL
    rw [wn, wi, List.length_append, Nat.zero_add]
  have hk : k.a.k = 0 ∨ k.a.k = 1 ∨ k.a.k = 2 := by omega
  rw [el] at e3
  rw [elen]
  rw [elen] at fin
  have g1 : (gK1 s).1 = k.a.t := by rw [e1]
  have g2 : (gK2 s).1 = k.a.n := by rw [e2]
  have g3 : (gK3 s).1 = k.a.k := by rw [e3]
  have wm : (k.n.toNat : Int) = k.n := Int.toNat_of_nonneg h0
  rcases hk with hk | hk | hk
  · obtain ⟨i0, s0⟩ := okAd_0 hoa hk
    have b1 : (k.a.k == 1) = false := by rw [hk]; rfl
    have b2 : (k.a.k == 2) = false := by rw [hk]; rfl
    simp only [b1, b2, Bool.false_eq_true, if_false, List.append_nil] at hE fin ⊢
    have r4 := rSh_back s _ k.n.toNat (by omega) hE
    have e4 : gK4 s = _ := Eq.trans (by unfold gK4; rw [e3]) r4
    unfold gKyA
    rw [g1, g2, g3, b1, b2, e4, if_neg (by decide), if_neg (by decide)]
    rw [if_neg (by omega)] at fin
    have ek : (⟨⟨k.a.t, k.a.n, k.a.k, 0, ByteArray.empty⟩, IntKind.u32.wrap (k.n.toNat : Int)⟩ : Ky) = k := by
      rw [wm, w32]
      conv => rhs; rw [show k = ⟨⟨k.a.t, k.a.n, k.a.k, k.a.i, k.a.s⟩, k.n⟩ from rfl, i0, s0]
    show kyFin ⟨⟨k.a.t, k.a.n, k.a.k, 0, ByteArray.empty⟩, IntKind.u32.wrap (k.n.toNat : Int)⟩ 0 (k.n.toNat : Int) _ 0 = _
    rw [ek, wm]
    exact fin
  · have s0 := okAd_1 hoa hk
    have b1 : (k.a.k == 1) = true := by rw [hk]; rfl
    simp only [b1, if_true] at hD hE fin ⊢
    have r4 := rSh_back s _ k.a.i.toNat (by omega) hD
    have e4 : gK4 s = _ := Eq.trans (by unfold gK4; rw [e3]) r4
    have a4 : ∀ (A B : List Int), 0 + (A ++ B).length = 0 + A.length + B.length := fun A B => by rw [List.length_append]; omega
    rw [a4] at hE
    have r5 := rSh_back s _ k.n.toNat (by omega) hE
    have e5 : rShort s (gK4 s).2.1 (gK4 s).2.2 = _ := Eq.trans (by rw [e4]) r5
    unfold gKyA
    rw [g1, g2, g3, b1, if_pos rfl, e5, e4]
    rw [if_pos hk] at fin
    have wj : (k.a.i.toNat : Int) = k.a.i := Int.toNat_of_nonneg z6
    have wb : IntKind.i64.wrap (bitsI .and .u64 (k.a.i.toNat : Int) 9223372036854775807) = k.a.i := by rw [wj]; rw [and_max _ z6 (by omega), wrap64 (by omega) (by omega)]
    have ek : (⟨⟨k.a.t, k.a.n, k.a.k, IntKind.i64.wrap (bitsI .and .u64 (k.a.i.toNat : Int) 9223372036854775807), ByteArray.empty⟩, IntKind.u32.wrap (k.n.toNat : Int)⟩ : Ky) = k := by
      rw [wb, wm, w32]
      conv => rhs; rw [show k = ⟨⟨k.a.t, k.a.n, k.a.k, k.a.i, k.a.s⟩, k.n⟩ from rfl, s0]
    show kyFin ⟨⟨k.a.t, k.a.n, k.a.k, IntKind.i64.wrap (bitsI .and .u64 (k.a.i.toNat : Int) 9223372036854775807), ByteArray.empty⟩, IntKind.u32.wrap (k.n.toNat : Int)⟩ (k.a.i.toNat : Int) (k.n.toNat : Int) _ 0 = _
    rw [ek, wm, wj, ← a4 _ (shortL k.a.i.toNat)]
    exact fin
  · have i0 := okAd_2 hoa hk
    have b1 : (k.a.k == 1) = false := by rw [hk]; rfl
    have b2 : (k.a.k == 2) = true := by rw [hk]; rfl
    simp only [b1, b2, Bool.false_eq_true, if_false, if_true] at hD hE fin ⊢
    have r4 := rTx_back s k.a.s _ z3 hD
    have e4 : gK5 s = _ := Eq.trans (by unfold gK5; rw [e3]) r4
    have a4 : ∀ (A B : List Int), 0 + (A ++ B).length = 0 + A.length + B.length := fun A B => by rw [List.length_append]; omega
    rw [a4] at hE
    have r5 := rSh_back s _ k.n.toNat (by omega) hE
    have e5 : rShort s (gK5 s).2.1 (gK5 s).2.2 = _ := Eq.trans (by rw [e4]) r5
    unfold gKyA
    rw [g1, g2, g3, b1, b2, if_neg (by decide), if_pos rfl, e5, e4]
    rw [if_neg (by omega)] at fin
    have ek : (⟨⟨k.a.t, k.a.n, k.a.k, 0, k.a.s⟩, IntKind.u32.wrap (k.n.toNat : Int)⟩ : Ky) = k := by
      rw [wm, w32]
      conv => rhs; rw [show k = ⟨⟨k.a.t, k.a.n, k.a.k, k.a.i, k.a.s⟩, k.n⟩ from rfl, i0]
    show kyFin ⟨⟨k.a.t, k.a.n, k.a.k, 0, k.a.s⟩, IntKind.u32.wrap (k.n.toNat : Int)⟩ 0 (k.n.toNat : Int) _ 0 = _
    rw [ek, wm, ← a4 _ (strL k.a.s)]
    exact fin
end Go.Proofs.YtcgcamfhollnlaaDoor
