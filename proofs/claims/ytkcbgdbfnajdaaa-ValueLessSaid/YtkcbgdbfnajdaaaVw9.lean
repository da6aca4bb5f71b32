/- Contracts of functions of the program, and the laws that stand on them: what each function answers, whatever its arguments. -/
import Derived.Test.YtkcbgdbfnajdaaaVw7
import Derived.Test.YtkcbgdbfnajdaaaVw8
namespace Go.Proofs.Ytkcbgdbfnajdaaa
set_option linter.unusedSimpArgs false
set_option linter.unusedVariables false
set_option maxRecDepth 100000
open Go Go.VA
theorem aList2 (x y : V) (hx : x.sm = true) (hy : y.sm = true) : ACall Try.prog gl 31 [.c (.sl false 8 2 (nthC [cV x, cV y]))] [] (.ag (cV (.mk 4 0 ByteArray.empty [x, y] [] 0 0 false))) := by
  refine (aList false [x, y] (by show 2 ≤ 4294967296; decide) (fun z hz => ?_)).le ⟨leSl rfl fun i hi => ?_, trivial⟩
  · simp at hz; rcases hz with rfl | rfl <;> assumption
  · match i, hi with
    | 0, _ => exact (cV0_eq x).symm
    | 1, _ => exact (cV0_eq y).symm
def vI (n : Int) : V := .mk 2 n ByteArray.empty [] [] 0 0 false
def vS (s : ByteArray) : V := .mk 3 0 s [] [] 0 0 false
def vU (k o : Int) : V := .mk 6 0 ByteArray.empty [] [] k o false
def vL (l : List V) : V := .mk 4 0 ByteArray.empty l [] 0 0 false
theorem smI (n : Int) : (vI n).sm = true := rfl
theorem smS (s : ByteArray) : (vS s).sm = true := rfl
theorem smU (k o : Int) : (vU k o).sm = true := rfl
theorem aAwake : ACall Try.prog gl 12 [] [] (boolA true) := by
  refine acall_of_vc htb hmix (f := 12) rfl rfl rfl (by kernel_rfl) rfl rfl ?_; conv => whnf
  repeat' (first | (refine Exists.intro _ (And.intro (chainI (aInt _)) ?_); conv => whnf) | (refine Exists.intro _ (And.intro (aInt _) ?_); conv => whnf) | (refine Exists.intro _ (And.intro (chainI (aUnknown _ _)) ?_); conv => whnf) | (refine Exists.intro _ (And.intro (aUnknown _ _) ?_); conv => whnf) | (refine Exists.intro _ (And.intro (chainI (aStr _)) ?_); conv => whnf) | (refine Exists.intro _ (And.intro (aStr _) ?_); conv => whnf) | (refine Exists.intro _ (And.intro (chainI (aList2 (vI 1) (vI 2) (smI _) (smI _))) ?_); conv => whnf) | (refine Exists.intro _ (And.intro (aList2 (vI 1) (vI 2) (smI _) (smI _)) ?_); conv => whnf) | (refine Exists.intro _ (And.intro (chainI (aList2 (vU 2 0) (vI 2) (smU _ _) (smI _))) ?_); conv => whnf) | (refine Exists.intro _ (And.intro (aList2 (vU 2 0) (vI 2) (smU _ _) (smI _)) ?_); conv => whnf) | (refine Exists.intro _ (And.intro (chainI (aList2 (vI 1) (vS { data := #[97] }) (smI _) (smS _))) ?_); conv => whnf) | (refine Exists.intro _ (And.intro (aList2 (vI 1) (vS { data := #[97] }) (smI _) (smS _)) ?_); conv => whnf) | (refine Exists.intro _ (And.intro (chainI (aRefines _ _ _ _ _ _)) ?_); conv => whnf) | (refine Exists.intro _ (And.intro (aRefines _ _ _ _ _ _) ?_); conv => whnf) | (refine Exists.intro _ (And.intro (chainI (aTypeOf _ _ _)) ?_); conv => whnf) | (refine Exists.intro _ (And.intro (aTypeOf _ _ _) ?_); conv => whnf) | (refine Exists.intro _ (And.intro (chainI (aCheck _ _ _)) ?_); conv => whnf) | (refine Exists.intro _ (And.intro (aCheck _ _ _) ?_); conv => whnf) | (refine And.intro (fun h => ?_) (fun h => ?_) <;> (first | (with_reducible have hd : _ < _ := of_decide_eq_true h) | (with_reducible have hd : _ ≤ _ := of_decide_eq_true h) | (with_reducible have hd : ¬ (_ < _) := of_decide_eq_false h) | (with_reducible have hd : ¬ (_ ≤ _) := of_decide_eq_false h) | skip) <;> conv => whnf) | (refine And.intro ?_ ?_; (focus (first | exact trivial | exact rfl | (first | exact seT | assumption) | (refine chainI ?_; (first | (first | exact seT | assumption) | decide | omega | (refine And.intro ?_ ?_ <;> first | omega | (simp; omega)) | (simp only [IntKind.wrap_i64]; first | omega | (refine And.intro ?_ ?_ <;> omega)))) | (intro _; (first | (first | exact seT | assumption) | decide | omega | (refine And.intro ?_ ?_ <;> first | omega | (simp; omega)) | (simp only [IntKind.wrap_i64]; first | omega | (refine And.intro ?_ ?_ <;> omega)))) | (intro _ _; (first | (first | exact seT | assumption) | decide | omega | (refine And.intro ?_ ?_ <;> first | omega | (simp; omega)) | (simp only [IntKind.wrap_i64]; first | omega | (refine And.intro ?_ ?_ <;> omega)))) | (first | (first | exact seT | assumption) | decide | omega | (refine And.intro ?_ ?_ <;> first | omega | (simp; omega)) | (simp only [IntKind.wrap_i64]; first | omega | (refine And.intro ?_ ?_ <;> omega))) | ((conv => whnf); intros; (try simp only [decide_eq_true_eq, decide_eq_false_iff_not, Bool.and_eq_true, Bool.or_eq_true, Bool.and_eq_false_imp, Bool.or_eq_false_iff, Bool.not_eq_true', Bool.not_eq_false', beq_iff_eq, bne_iff_ne, ne_eq] at *); (first | (first | exact seT | assumption) | decide | omega | (refine And.intro ?_ ?_ <;> first | omega | (simp; omega)) | (simp only [IntKind.wrap_i64]; first | omega | (refine And.intro ?_ ?_ <;> omega)))))); conv => whnf) | (refine And.intro ?_ ?_; (focus (first | exact NoTag.int | exact NoTag.bool | exact NoTag.str | (refine NoTag.of_scalar ?_; rfl))); conv => whnf) | ((with_reducible refine xc_pure ?_); conv => whnf))
  exact leB (by decide +kernel)
end Go.Proofs.Ytkcbgdbfnajdaaa
