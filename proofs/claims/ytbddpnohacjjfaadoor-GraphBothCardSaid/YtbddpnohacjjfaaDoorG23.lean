/- Contracts of functions of the program, and the laws that stand on them: what each function answers, whatever its arguments. -/
import Derived.Test.YtbddpnohacjjfaaDoorG22
import Derived.Test.YtbddpnohacjjfaaDoorG7
set_option linter.unusedSectionVars false
set_option linter.unnecessarySimpa false
namespace Go.Proofs.YtbddpnohacjjfaaDoor
set_option linter.unusedSimpArgs false
set_option linter.unusedVariables false
set_option maxRecDepth 100000
set_option maxHeartbeats 8000000
open Go Go.VA
theorem slZ {z n : Nat} {f : Nat → List C} (hz : z = 2) : ∀ (S : Rd) (u : Value), RepC S (.sl false z n fun i => f (0 + i)) u → RepC S (.sl false 2 n f) u := fun S u h => by
  subst hz; simpa only [Nat.zero_add] using h
theorem gTurnedD (t u v : Bool) (N : Nat) (A B : Nat → Nat → Bool) (hN : N ≤ 128) :
    GCall Tryd.prog gl 16 [] [grD t u v N A B] [.box [.c (.sl false 2 N (rSet B)), .c (.sl false 2 N (rSet A))]] [.ptr 0 0] := by
  refine gcall_of_vcb htb hmix (f := 16) rfl rfl rfl (by kernel_rfl) rfl rfl rfl fun hb hb2 => ?_; simp only [bndOs, bndO, gbnds, AV.gbnd, bnds, C.bnd, true_and, and_true] at hb hb2; conv => whnf
  have hB : N * (tb 52).bytes ≤ 140737488355328 := by show N * 16 ≤ _; omega
  repeat' (first | ((with_reducible refine Drawn.all ?_); conv => whnf) | (refine And.intro (fun h => ?_) (fun h => ?_) <;> (first | (with_reducible have hd : _ < _ := of_decide_eq_true h) | (with_reducible have hd : _ ≤ _ := of_decide_eq_true h) | (with_reducible have hd : ¬ (_ < _) := of_decide_eq_false h) | (with_reducible have hd : ¬ (_ ≤ _) := of_decide_eq_false h) | skip) <;> (first | exact absurd h (by decide) | first | exact Bool.noConfusion (h.symm.trans hne) | exact absurd hd hB1 | exact absurd hd hB2 | exact absurd hB1.2 hd | exact absurd hB2.2 hd | exact absurd hB2 hd | (conv => whnf))) | ((with_reducible refine Both.mk ?_ ?_) <;> conv => whnf) | ((with_reducible refine DOr.l ?_); (conv => whnf)) | ((with_reducible refine OwnOr.l ?_); (conv => whnf)) | ((with_reducible apply Drawn.one); conv => whnf) | ((with_reducible refine Then.mk' ?_); conv => whnf) | (first | exact RefS.self rfl | ((with_reducible refine RefS.mk ?_ ?_); (focus (refine And.intro ?_ (And.intro ?_ (And.intro ?_ rfl)) <;> (conv => whnf) <;> repeat' (first | exact trivial | exact LeE.of (Le.refl _) | exact LeE.nil rfl | (with_reducible refine LeE.of ?_) | (first | first | exact LeAs_c _ _ _ | exact LeAs_pc | exact leI e | exact eo | exact LeE.nil rfl | exact Le.refl _ | exact rfl | exact leI (by first | rfl | omega | (rw [wrap64 (by omega) (by omega)]; omega) | (rw [wrap64 (by omega) (by omega)]; done)) | exact LeCs.refl _ | exact fun i hi => LeCs.refl _ | exact leOwn (by first | rfl | omega)) | ((with_reducible refine And.intro ?_ ?_) <;> conv => whnf)))); exact rfl)) | (refine And.intro ?_ ?_; (focus (first | exact trivial | exact rfl | (first | exact hB | exact hB1 | exact hB2 | exact hB3 | exact hC | exact chainI hB | exact chainI hB3 | assumption) | (refine chainI ?_; (first | (first | exact hB | exact hB1 | exact hB2 | exact hB3 | exact hC | exact chainI hB | exact chainI hB3 | assumption) | decide | omega | (refine And.intro ?_ ?_ <;> first | omega | (simp; omega)) | (simp only [IntKind.wrap_i64]; first | omega | (refine And.intro ?_ ?_ <;> omega)))) | (intro _; (first | (first | exact hB | exact hB1 | exact hB2 | exact hB3 | exact hC | exact chainI hB | exact chainI hB3 | assumption) | decide | omega | (refine And.intro ?_ ?_ <;> first | omega | (simp; omega)) | (simp only [IntKind.wrap_i64]; first | omega | (refine And.intro ?_ ?_ <;> omega)))) | (intro _ _; (first | (first | exact hB | exact hB1 | exact hB2 | exact hB3 | exact hC | exact chainI hB | exact chainI hB3 | assumption) | decide | omega | (refine And.intro ?_ ?_ <;> first | omega | (simp; omega)) | (simp only [IntKind.wrap_i64]; first | omega | (refine And.intro ?_ ?_ <;> omega)))) | (first | decide | omega | (refine And.intro ?_ ?_ <;> first | omega | (simp; omega)) | (simp only [IntKind.wrap_i64]; first | omega | (refine And.intro ?_ ?_ <;> omega))) | ((conv => whnf); intros; (try simp only [decide_eq_true_eq, decide_eq_false_iff_not, Bool.and_eq_true, Bool.or_eq_true, Bool.and_eq_false_imp, Bool.or_eq_false_iff, Bool.not_eq_true', Bool.not_eq_false', beq_iff_eq, bne_iff_ne, ne_eq] at *); (first | (first | exact hB | exact hB1 | exact hB2 | exact hB3 | exact hC | exact chainI hB | exact chainI hB3 | assumption) | decide | omega | (refine And.intro ?_ ?_ <;> first | omega | (simp; omega)) | (simp only [IntKind.wrap_i64]; first | omega | (refine And.intro ?_ ?_ <;> omega)))))); conv => whnf) | (refine And.intro ?_ ?_; (focus (first | exact NoTag.int | exact NoTag.bool | exact NoTag.str | (refine NoTag.of_scalar ?_; rfl))); conv => whnf) | ((rw [arrC_cutY]; rotate_left; exact rfl; exact rfl; (focus (first | omega | (simp only [IntKind.wrap_i64]; omega)))); conv => whnf) | ((rw [arrA_cutZ]; rotate_left; exact rfl; exact rfl; (focus (first | omega | (simp only [IntKind.wrap_i64]; omega)))); conv => whnf) | ((rw [arrA_layX]; rotate_left; exact rfl; exact rfl; (focus (first | omega | (simp only [IntKind.wrap_i64]; omega)))); conv => whnf) | ((rw [arrC_cutZ]; rotate_left; exact rfl; exact rfl; (focus (first | omega | (simp only [IntKind.wrap_i64]; omega)))); conv => whnf) | ((rw [arrA_cutN]; rotate_left; exact rfl); conv => whnf) | ((rw [arrC_cutN]; rotate_left; exact rfl); conv => whnf) | (rw [arrA_len]; conv => whnf) | ((rw [layA_allN]; rotate_left; (focus (first | exact rfl | exact arrA_len _ _))); conv => whnf) | (rw [toCs_arr]; conv => whnf) | ((rw [mkA_arr]; rotate_left; exact rfl); conv => whnf) | ((rw [mkC_arr]; rotate_left; exact rfl); conv => whnf))
  all_goals (((conv => whnf); repeat' (first | exact trivial | exact rfl | exact LeC.refl _ | exact LeC.nil rfl | exact LeC.emp rfl | exact LeCs.refl _ | exact (fun i hi => LeCs.refl _) | ((with_reducible refine And.intro ?_ ?_) <;> conv => whnf))))
  all_goals exact slZ rfl
theorem aTurned (t u v : Bool) (N : Nat) (A B : Nat → Nat → Bool) (hN : N ≤ 128) : ACall Tryd.prog gl 16 [grD t u v N A B] [] (grD false false false N B A) :=
  ACall.of_gcall_box (cs := [.sl false 2 N (rSet B), .sl false 2 N (rSet A)]) (gTurnedD t u v N A B hN)
end Go.Proofs.YtbddpnohacjjfaaDoor

namespace Go.Proofs.YtbddpnohacjjfaaDoor
set_option linter.unusedSimpArgs false
set_option linter.unusedVariables false
set_option maxRecDepth 100000
set_option maxHeartbeats 8000000
open Go Go.VA
abbrev trA (A : Nat → Nat → Bool) (i k : Nat) : Bool := A k i
def castL (l : List Nat) : List Int := l.map fun k : Nat => (k : Int)
theorem grOk_tr {N : Nat} {A : Nat → Nat → Bool} (hA : GrOk N A) : GrOk N (trA A) := fun i k h => ⟨(hA k i h).2, (hA k i h).1⟩
end Go.Proofs.YtbddpnohacjjfaaDoor
