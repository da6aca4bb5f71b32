/- Contracts of functions of the program, and the laws that stand on them: what each function answers, whatever its arguments. -/
import Derived.Test.YteidfcaciadgpaaDoorC13
set_option linter.unusedSectionVars false
set_option linter.unnecessarySimpa false
namespace Go.Proofs.YteidfcaciadgpaaDoor
set_option linter.unusedSimpArgs false
set_option linter.unusedVariables false
set_option maxRecDepth 100000
set_option maxHeartbeats 8000000
open Go Go.VA
abbrev byF (g : Nat → Int) (i : Nat) : List C := cBy (g i)
def sameF (n m : Nat) (g h : Nat → Int) : Bool := decide (n = m ∧ ∀ i, i < n → g i = h i)
theorem aSame01 (t u : Bool) (n m : Nat) (g q : Nat → Int) : ACall Tryd.prog gl 15 [.c (.sl t 1 n (byF g)), .c (.sl u 1 m (byF q))] [] (boolA (sameF n m g q)) := by
  refine acall_of_vcb htb hmix (f := 15) rfl rfl rfl (by kernel_rfl) rfl rfl fun hb => ?_; simp only [bndAll, AV.bnd, bnds, C.bnd, cVt, cS, true_and, and_true] at hb; conv => whnf
  repeat' (first | (refine And.intro (fun h => ?_) (fun h => ?_) <;> (first | (with_reducible have hd : _ < _ := of_decide_eq_true h) | (with_reducible have hd : _ ≤ _ := of_decide_eq_true h) | (with_reducible have hd : ¬ (_ < _) := of_decide_eq_false h) | (with_reducible have hd : ¬ (_ ≤ _) := of_decide_eq_false h) | skip) <;> conv => whnf))
  · have h0 : n ≠ m := fun e => by subst e; simp_all
    exact leB (by unfold sameF; simp [h0])
  · have h0 : n = m := by
      have : (n : Int) = m := by simpa using h
      omega
    subst h0
    refine loopN (fun c => c ≤ n ∧ ∀ i, i < c → g i = q i) (fun c => [(5, intA .i64 c)]) (fun c => []) n (fun c h => h.1) 0 ⟨Nat.zero_le _, fun i hi => absurd hi (Nat.not_lt_zero _)⟩ ?_ (fun _ => rfl) fun c ⟨hc, hR⟩ => ?_
    · (refine And.intro ?_ (And.intro ?_ (And.intro ?_ rfl)) <;> (conv => whnf) <;> repeat' (first | exact trivial | exact LeE.of (Le.refl _) | exact LeE.nil rfl | (with_reducible refine LeE.of ?_) | (first | fail | exact Le.refl _ | exact rfl | exact leI (by first | rfl | omega | (rw [wrap64 (by omega) (by omega)]; omega) | (rw [wrap64 (by omega) (by omega)]; done)) | exact LeCs.refl _ | exact fun i hi => LeCs.refl _ | exact leOwn (by first | rfl | omega)) | ((with_reducible refine And.intro ?_ ?_) <;> conv => whnf)))
    · conv => whnf
      repeat' (first | (refine And.intro (fun h => ?_) (fun h => ?_) <;> (first | (with_reducible have hd : _ < _ := of_decide_eq_true h) | (with_reducible have hd : _ ≤ _ := of_decide_eq_true h) | (with_reducible have hd : ¬ (_ < _) := of_decide_eq_false h) | (with_reducible have hd : ¬ (_ ≤ _) := of_decide_eq_false h) | skip) <;> conv => whnf) | (refine And.intro ?_ ?_; (focus (first | exact trivial | exact rfl | (first | exact seT | exact u64nn _ | assumption) | (refine chainI ?_; (first | (first | exact seT | exact u64nn _ | assumption) | decide | omega | (refine And.intro ?_ ?_ <;> first | omega | (simp; omega)) | (simp only [IntKind.wrap_i64]; first | omega | (refine And.intro ?_ ?_ <;> omega)))) | (intro _; (first | (first | exact seT | exact u64nn _ | assumption) | decide | omega | (refine And.intro ?_ ?_ <;> first | omega | (simp; omega)) | (simp only [IntKind.wrap_i64]; first | omega | (refine And.intro ?_ ?_ <;> omega)))) | (intro _ _; (first | (first | exact seT | exact u64nn _ | assumption) | decide | omega | (refine And.intro ?_ ?_ <;> first | omega | (simp; omega)) | (simp only [IntKind.wrap_i64]; first | omega | (refine And.intro ?_ ?_ <;> omega)))) | (first | decide | omega | (refine And.intro ?_ ?_ <;> first | omega | (simp; omega)) | (simp only [IntKind.wrap_i64]; first | omega | (refine And.intro ?_ ?_ <;> omega))) | ((conv => whnf); intros; (try simp only [decide_eq_true_eq, decide_eq_false_iff_not, Bool.and_eq_true, Bool.or_eq_true, Bool.and_eq_false_imp, Bool.or_eq_false_iff, Bool.not_eq_true', Bool.not_eq_false', beq_iff_eq, bne_iff_ne, ne_eq] at *); (first | (first | exact seT | exact u64nn _ | assumption) | decide | omega | (refine And.intro ?_ ?_ <;> first | omega | (simp; omega)) | (simp only [IntKind.wrap_i64]; first | omega | (refine And.intro ?_ ?_ <;> omega)))))); conv => whnf))
      · refine leB ?_
        have hne : g c ≠ q c := fun e => by
          have h' : (g c != q c) = true := h
          rw [e] at h'; simp at h'
        unfold sameF
        rw [decide_eq_false_iff_not.2 (fun hh => hne (hh.2 c (by omega)))]
      · have he : g c = q c := by
          have h' : (g c != q c) = false := h
          simpa using h'
        refine ⟨c + 1, ⟨⟨by omega, fun i hi => ?_⟩, by omega⟩, ?_⟩
        · rcases Nat.lt_or_ge i c with h1 | h1
          · exact hR i h1
          · obtain rfl : i = c := by omega
            exact he
        · (refine And.intro ?_ (And.intro ?_ (And.intro ?_ rfl)) <;> (conv => whnf) <;> repeat' (first | exact trivial | exact LeE.of (Le.refl _) | exact LeE.nil rfl | (with_reducible refine LeE.of ?_) | (first | fail | exact Le.refl _ | exact rfl | exact leI (by first | rfl | omega | (rw [wrap64 (by omega) (by omega)]; omega) | (rw [wrap64 (by omega) (by omega)]; done)) | exact LeCs.refl _ | exact fun i hi => LeCs.refl _ | exact leOwn (by first | rfl | omega)) | ((with_reducible refine And.intro ?_ ?_) <;> conv => whnf)))
      · obtain rfl : c = n := by omega
        refine leB ?_
        unfold sameF
        rw [decide_eq_true_iff.2 ⟨rfl, hR⟩]
theorem aSameX (t u : Bool) (n m : Nat) (F G : Nat → List C) (g q : Nat → Int) (hF : ∀ i, i < n → F i = cBy (g i)) (hG : ∀ i, i < m → G i = cBy (q i)) : ACall Tryd.prog gl 15 [.c (.sl t 1 n F), .c (.sl u 1 m G)] [] (boolA (sameF n m g q)) :=
  (aSame01 t u n m g q).le ⟨leSl rfl hF, leSl rfl hG, trivial⟩
end Go.Proofs.YteidfcaciadgpaaDoor
