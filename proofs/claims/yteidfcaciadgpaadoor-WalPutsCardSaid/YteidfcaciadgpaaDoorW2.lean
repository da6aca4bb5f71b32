/- Contracts of functions of the program, and the laws that stand on them: what each function answers, whatever its arguments. -/
import Derived.Test.YteidfcaciadgpaaDoorA6
import Derived.Test.YteidfcaciadgpaaDoorW1
import Derived.Test.YteidfcaciadgpaaDoorS10
import Derived.Test.YteidfcaciadgpaaDoorS9
set_option linter.unusedSectionVars false
set_option linter.unnecessarySimpa false
namespace Go.Proofs.YteidfcaciadgpaaDoor
set_option linter.unusedSimpArgs false
set_option linter.unusedVariables false
set_option maxRecDepth 100000
set_option maxHeartbeats 8000000
open Go Go.VA
structure It where
  n : Int
  k : Int
  y : Ky
def cIt (i : It) : List C := [.v (.int .u64 i.n), .v (.int .i64 i.k), .v (.string i.y.a.t), .v (.string i.y.a.n), .v (.int .i64 i.y.a.k), .v (.int .i64 i.y.a.i), .v (.string i.y.a.s), .v (.int .u32 i.y.n)]
def okIt (i : It) : Bool := !(decide (i.n > 4611686018427387904) || decide (i.k < 3) || decide (i.k > 5)) && okKy i.y
theorem aCheckI (i : It) : ACall Tryd.prog gl 14 [.ag (cIt i)] [] (intA .i64 (if okIt i then 0 else 1)) := by
  refine acall_of_vc htb hmix (f := 14) rfl rfl rfl (by kernel_rfl) rfl rfl ?_; conv => whnf
  repeat' (first | (refine Exists.intro _ (And.intro (aCheckK i.y) ?_); conv => whnf) | (refine And.intro (fun h => ?_) (fun h => ?_) <;> (first | (with_reducible have hd : _ < _ := of_decide_eq_true h) | (with_reducible have hd : _ ≤ _ := of_decide_eq_true h) | (with_reducible have hd : ¬ (_ < _) := of_decide_eq_false h) | (with_reducible have hd : ¬ (_ ≤ _) := of_decide_eq_false h) | skip) <;> (first | exact absurd h (by decide) | (conv => whnf))) | ((with_reducible refine xc_pure ?_); conv => whnf))
  · refine leI ?_
    unfold okIt
    rw [h]; rfl
  · refine leI ?_
    unfold okIt
    rw [h]; rfl
theorem aCheckIR (i : It) (hn : 0 ≤ i.y.n) : ACall Tryd.prog gl 10 [.ag (cIt i)] [] (boolA (okIt i)) := by
  refine acall_of_vc htb hmix (f := 10) rfl rfl rfl (by kernel_rfl) rfl rfl ?_; conv => whnf
  repeat' (first | ((with_reducible refine GOr.l ?_); (conv => whnf); refine Exists.intro _ (And.intro (chainI (aCheckKR i.y hn)) ?_); conv => whnf))
  refine leB ?_
  unfold okIt
  have e1 : decide (i.n ≤ 4611686018427387904) = !decide (i.n > 4611686018427387904) := by rw [← decide_not]; exact decide_eq_decide.2 (by omega)
  have e2 : decide (i.k ≥ 3) = !decide (i.k < 3) := by rw [← decide_not]; exact decide_eq_decide.2 (by omega)
  have e3 : decide (i.k ≤ 5) = !decide (i.k > 5) := by rw [← decide_not]; exact decide_eq_decide.2 (by omega)
  rw [e1, e2, e3]
  cases decide (i.n > 4611686018427387904) <;> cases decide (i.k < 3) <;> cases decide (i.k > 5) <;> rfl
def greatI (i : It) : Bool := decide ((i.y.a.t.size : Int) > 200) || decide ((i.y.a.n.size : Int) > 200) || decide ((i.y.a.s.size : Int) > 200)
theorem aGreatI (i : It) : ACall Tryd.prog gl 7 [.ag (cIt i)] [] (boolA (greatI i)) := by
  refine acall_of_vc htb hmix (f := 7) rfl rfl rfl (by kernel_rfl) rfl rfl ?_; conv => whnf
  repeat' (first | fail)
  exact leB rfl
def inL (i : It) : List Int := shortL i.n.toNat ++ [IntKind.u8.wrap i.k] ++ kyL i.y
theorem aEqual (t u : Bool) (n m : Nat) (f g : Nat → List C) (hf : isBytes n f) (hg : isBytes m g) : ACall Tryd.prog gl 28 [.c (.sl t 1 n f), .c (.sl u 1 m g)] [] (boolA ((bytesOf n f).toList == (bytesOf m g).toList)) := by
  refine acall_of_vc htb hmix (f := 28) rfl rfl rfl (by kernel_rfl) rfl rfl ?_; conv => whnf
  repeat' (first | (refine And.intro ?_ ?_; (focus (first | exact trivial | exact rfl | (first | exact seT | exact u64nn _ | exact hB | assumption) | (refine chainI ?_; (first | (first | exact seT | exact u64nn _ | exact hB | assumption) | decide | omega | (refine And.intro ?_ ?_ <;> first | omega | (simp; omega)) | (simp only [IntKind.wrap_i64]; first | omega | (refine And.intro ?_ ?_ <;> omega)))) | (intro _; (first | (first | exact seT | exact u64nn _ | exact hB | assumption) | decide | omega | (refine And.intro ?_ ?_ <;> first | omega | (simp; omega)) | (simp only [IntKind.wrap_i64]; first | omega | (refine And.intro ?_ ?_ <;> omega)))) | (intro _ _; (first | (first | exact seT | exact u64nn _ | exact hB | assumption) | decide | omega | (refine And.intro ?_ ?_ <;> first | omega | (simp; omega)) | (simp only [IntKind.wrap_i64]; first | omega | (refine And.intro ?_ ?_ <;> omega)))) | (first | decide | omega | (refine And.intro ?_ ?_ <;> first | omega | (simp; omega)) | (simp only [IntKind.wrap_i64]; first | omega | (refine And.intro ?_ ?_ <;> omega))) | ((conv => whnf); intros; (try simp only [decide_eq_true_eq, decide_eq_false_iff_not, Bool.and_eq_true, Bool.or_eq_true, Bool.and_eq_false_imp, Bool.or_eq_false_iff, Bool.not_eq_true', Bool.not_eq_false', beq_iff_eq, bne_iff_ne, ne_eq] at *); (first | (first | exact seT | exact u64nn _ | exact hB | assumption) | decide | omega | (refine And.intro ?_ ?_ <;> first | omega | (simp; omega)) | (simp only [IntKind.wrap_i64]; first | omega | (refine And.intro ?_ ?_ <;> omega)))))); conv => whnf))
  exact leB rfl
end Go.Proofs.YteidfcaciadgpaaDoor
