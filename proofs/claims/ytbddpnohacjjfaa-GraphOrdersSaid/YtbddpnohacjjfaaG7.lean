/- Contracts of functions of the program, and the laws that stand on them: what each function answers, whatever its arguments. -/
import Derived.Test.YtbddpnohacjjfaaG6
import Derived.Test.YtbddpnohacjjfaaVD
import Derived.ChangeMaps5
import Derived.Carry
import Derived.Test.YtbddpnohacjjfaaRows
set_option linter.unusedSectionVars false
set_option linter.unnecessarySimpa false
namespace Go.Proofs.Ytbddpnohacjjfaa
set_option linter.unusedSimpArgs false
set_option linter.unusedVariables false
set_option maxRecDepth 100000
set_option maxHeartbeats 8000000
open Go Go.VA
theorem leC_slL {t : Bool} {e n : Nat} {f g : Nat → List C} (h : ∀ i, i < n → LeCs (f i) (g i)) : LeC (.sl t e n f) (.sl t e n g) := fun S u hu => by
  simp only [RepC] at hu ⊢
  obtain ⟨a, cap, rfl, h1, h2⟩ := hu
  refine ⟨a, cap, rfl, h1, ?_⟩
  rcases h2 with h2 | ⟨b, o, rfl, h2⟩
  · exact .inl h2
  · exact .inr ⟨b, o, rfl, fun i hi => ⟨(h i hi).1.trans (h2 i hi).1, (h i hi).2 _ _ _ (h2 i hi).2⟩⟩
theorem leCs_one {x y : C} (h : LeC x y) : LeCs [x] [y] := ⟨rfl, fun S R o hh => by
  simp only [RepCs] at hh ⊢
  obtain ⟨⟨u, h1, h2⟩, _⟩ := hh
  exact ⟨⟨u, h1, h S u h2⟩, trivial⟩⟩
theorem aSame (s t : Bool) (l : List Nat) : ACall Try.prog gl 10 [.c (.sl s 1 l.length (rN l)), .c (.sl t 1 l.length (rN l))] [] (boolA true) := by
  refine acall_of_vcb htb hmix (f := 10) rfl rfl rfl (by kernel_rfl) rfl rfl fun hb => ?_; simp only [bndAll, AV.bnd, bnds, C.bnd, cVt, cS, true_and, and_true] at hb; conv => whnf
  have hn : l.length ≤ 140737488355328 := hb.1.1
  repeat' (first | (refine And.intro (fun h => ?_) (fun h => ?_) <;> (first | (with_reducible have hd : _ < _ := of_decide_eq_true h) | (with_reducible have hd : _ ≤ _ := of_decide_eq_true h) | (with_reducible have hd : ¬ (_ < _) := of_decide_eq_false h) | (with_reducible have hd : ¬ (_ ≤ _) := of_decide_eq_false h) | skip) <;> (first | exact absurd h (by decide) | first | exact absurd hd hB1 | exact absurd hd hB2 | exact absurd hB1.2 hd | exact absurd hB2.2 hd | (conv => whnf))) | ((with_reducible refine Both.mk ?_ ?_) <;> conv => whnf) | ((with_reducible refine DOr.l ?_); (conv => whnf)) | ((with_reducible refine OwnOr.l ?_); (conv => whnf)) | ((with_reducible apply Drawn.one); conv => whnf) | ((with_reducible refine Then.mk' ?_); conv => whnf) | (first | exact RefS.self rfl | ((with_reducible refine RefS.mk ?_ ?_); (focus (refine And.intro ?_ (And.intro ?_ (And.intro ?_ rfl)) <;> (conv => whnf) <;> repeat' (first | exact trivial | exact LeE.of (Le.refl _) | exact LeE.nil rfl | (with_reducible refine LeE.of ?_) | (first | first | exact leI e | exact eo | exact Le.refl _ | exact rfl | exact leI (by first | rfl | omega | (rw [wrap64 (by omega) (by omega)]; omega) | (rw [wrap64 (by omega) (by omega)]; done)) | exact LeCs.refl _ | exact fun i hi => LeCs.refl _ | exact leOwn (by first | rfl | omega)) | ((with_reducible refine And.intro ?_ ?_) <;> conv => whnf)))); exact rfl)) | (refine And.intro ?_ ?_; (focus (first | exact trivial | exact rfl | (first | exact hB | exact hB1 | exact hB2 | exact hC | exact chainI hB | assumption) | (refine chainI ?_; (first | (first | exact hB | exact hB1 | exact hB2 | exact hC | exact chainI hB | assumption) | decide | omega | (refine And.intro ?_ ?_ <;> first | omega | (simp; omega)) | (simp only [IntKind.wrap_i64]; first | omega | (refine And.intro ?_ ?_ <;> omega)))) | (intro _; (first | (first | exact hB | exact hB1 | exact hB2 | exact hC | exact chainI hB | assumption) | decide | omega | (refine And.intro ?_ ?_ <;> first | omega | (simp; omega)) | (simp only [IntKind.wrap_i64]; first | omega | (refine And.intro ?_ ?_ <;> omega)))) | (intro _ _; (first | (first | exact hB | exact hB1 | exact hB2 | exact hC | exact chainI hB | assumption) | decide | omega | (refine And.intro ?_ ?_ <;> first | omega | (simp; omega)) | (simp only [IntKind.wrap_i64]; first | omega | (refine And.intro ?_ ?_ <;> omega)))) | (first | decide | omega | (refine And.intro ?_ ?_ <;> first | omega | (simp; omega)) | (simp only [IntKind.wrap_i64]; first | omega | (refine And.intro ?_ ?_ <;> omega))) | ((conv => whnf); intros; (try simp only [decide_eq_true_eq, decide_eq_false_iff_not, Bool.and_eq_true, Bool.or_eq_true, Bool.and_eq_false_imp, Bool.or_eq_false_iff, Bool.not_eq_true', Bool.not_eq_false', beq_iff_eq, bne_iff_ne, ne_eq] at *); (first | (first | exact hB | exact hB1 | exact hB2 | exact hC | exact chainI hB | assumption) | decide | omega | (refine And.intro ?_ ?_ <;> first | omega | (simp; omega)) | (simp only [IntKind.wrap_i64]; first | omega | (refine And.intro ?_ ?_ <;> omega)))))); conv => whnf) | (refine And.intro ?_ ?_; (focus (first | exact NoTag.int | exact NoTag.bool | exact NoTag.str | (refine NoTag.of_scalar ?_; rfl))); conv => whnf))
  · exact absurd h (by simp)
  · refine loopI Nat (fun c => c ≤ l.length) (fun c => [(5, intA .i64 c)]) (fun _ => []) (fun c => l.length - c) 0 (Nat.zero_le _) ?_ (fun _ => rfl) fun c hc => ?_
    · (refine And.intro ?_ (And.intro ?_ (And.intro ?_ rfl)) <;> (conv => whnf) <;> repeat' (first | exact trivial | exact LeE.of (Le.refl _) | exact LeE.nil rfl | (with_reducible refine LeE.of ?_) | (first | first | exact leI e | exact eo | exact Le.refl _ | exact rfl | exact leI (by first | rfl | omega | (rw [wrap64 (by omega) (by omega)]; omega) | (rw [wrap64 (by omega) (by omega)]; done)) | exact LeCs.refl _ | exact fun i hi => LeCs.refl _ | exact leOwn (by first | rfl | omega)) | ((with_reducible refine And.intro ?_ ?_) <;> conv => whnf)))
    · have hc : c ≤ l.length := hc
      rcases Nat.lt_or_ge c l.length with hcl | hcl
      · have hB1 : (0 : Int) ≤ (c : Int) ∧ (c : Int) < (l.length : Int) := by omega
        conv => whnf
        repeat' (first | (refine And.intro (fun h => ?_) (fun h => ?_) <;> (first | (with_reducible have hd : _ < _ := of_decide_eq_true h) | (with_reducible have hd : _ ≤ _ := of_decide_eq_true h) | (with_reducible have hd : ¬ (_ < _) := of_decide_eq_false h) | (with_reducible have hd : ¬ (_ ≤ _) := of_decide_eq_false h) | skip) <;> (first | exact absurd h (by decide) | first | exact absurd hd hB1 | exact absurd hd hB2 | exact absurd hB1.2 hd | exact absurd hB2.2 hd | (conv => whnf))) | ((with_reducible refine Both.mk ?_ ?_) <;> conv => whnf) | ((with_reducible refine DOr.l ?_); (conv => whnf)) | ((with_reducible refine OwnOr.l ?_); (conv => whnf)) | ((with_reducible apply Drawn.one); conv => whnf) | ((with_reducible refine Then.mk' ?_); conv => whnf) | (first | exact RefS.self rfl | ((with_reducible refine RefS.mk ?_ ?_); (focus (refine And.intro ?_ (And.intro ?_ (And.intro ?_ rfl)) <;> (conv => whnf) <;> repeat' (first | exact trivial | exact LeE.of (Le.refl _) | exact LeE.nil rfl | (with_reducible refine LeE.of ?_) | (first | first | exact leI e | exact eo | exact Le.refl _ | exact rfl | exact leI (by first | rfl | omega | (rw [wrap64 (by omega) (by omega)]; omega) | (rw [wrap64 (by omega) (by omega)]; done)) | exact LeCs.refl _ | exact fun i hi => LeCs.refl _ | exact leOwn (by first | rfl | omega)) | ((with_reducible refine And.intro ?_ ?_) <;> conv => whnf)))); exact rfl)) | (refine And.intro ?_ ?_; (focus (first | exact trivial | exact rfl | (first | exact hB | exact hB1 | exact hB2 | exact hC | exact chainI hB | assumption) | (refine chainI ?_; (first | (first | exact hB | exact hB1 | exact hB2 | exact hC | exact chainI hB | assumption) | decide | omega | (refine And.intro ?_ ?_ <;> first | omega | (simp; omega)) | (simp only [IntKind.wrap_i64]; first | omega | (refine And.intro ?_ ?_ <;> omega)))) | (intro _; (first | (first | exact hB | exact hB1 | exact hB2 | exact hC | exact chainI hB | assumption) | decide | omega | (refine And.intro ?_ ?_ <;> first | omega | (simp; omega)) | (simp only [IntKind.wrap_i64]; first | omega | (refine And.intro ?_ ?_ <;> omega)))) | (intro _ _; (first | (first | exact hB | exact hB1 | exact hB2 | exact hC | exact chainI hB | assumption) | decide | omega | (refine And.intro ?_ ?_ <;> first | omega | (simp; omega)) | (simp only [IntKind.wrap_i64]; first | omega | (refine And.intro ?_ ?_ <;> omega)))) | (first | decide | omega | (refine And.intro ?_ ?_ <;> first | omega | (simp; omega)) | (simp only [IntKind.wrap_i64]; first | omega | (refine And.intro ?_ ?_ <;> omega))) | ((conv => whnf); intros; (try simp only [decide_eq_true_eq, decide_eq_false_iff_not, Bool.and_eq_true, Bool.or_eq_true, Bool.and_eq_false_imp, Bool.or_eq_false_iff, Bool.not_eq_true', Bool.not_eq_false', beq_iff_eq, bne_iff_ne, ne_eq] at *); (first | (first | exact hB | exact hB1 | exact hB2 | exact hC | exact chainI hB | assumption) | decide | omega | (refine And.intro ?_ ?_ <;> first | omega | (simp; omega)) | (simp only [IntKind.wrap_i64]; first | omega | (refine And.intro ?_ ?_ <;> omega)))))); conv => whnf) | (refine And.intro ?_ ?_; (focus (first | exact NoTag.int | exact NoTag.bool | exact NoTag.str | (refine NoTag.of_scalar ?_; rfl))); conv => whnf))
        · exact absurd h (by simp)
        · refine ⟨c + 1, hcl, ?_, by show l.length - (c + 1) < l.length - c; omega⟩
          (refine And.intro ?_ (And.intro ?_ (And.intro ?_ rfl)) <;> (conv => whnf) <;> repeat' (first | exact trivial | exact LeE.of (Le.refl _) | exact LeE.nil rfl | (with_reducible refine LeE.of ?_) | (first | first | exact leI e | exact eo | exact Le.refl _ | exact rfl | exact leI (by first | rfl | omega | (rw [wrap64 (by omega) (by omega)]; omega) | (rw [wrap64 (by omega) (by omega)]; done)) | exact LeCs.refl _ | exact fun i hi => LeCs.refl _ | exact leOwn (by first | rfl | omega)) | ((with_reducible refine And.intro ?_ ?_) <;> conv => whnf)))
      · have hB1 : ¬ ((c : Int) < (l.length : Int)) := by omega
        conv => whnf
        repeat' (first | (refine And.intro (fun h => ?_) (fun h => ?_) <;> (first | (with_reducible have hd : _ < _ := of_decide_eq_true h) | (with_reducible have hd : _ ≤ _ := of_decide_eq_true h) | (with_reducible have hd : ¬ (_ < _) := of_decide_eq_false h) | (with_reducible have hd : ¬ (_ ≤ _) := of_decide_eq_false h) | skip) <;> (first | exact absurd h (by decide) | first | exact absurd hd hB1 | exact absurd hd hB2 | exact absurd hB1.2 hd | exact absurd hB2.2 hd | (conv => whnf))) | ((with_reducible refine Both.mk ?_ ?_) <;> conv => whnf) | ((with_reducible refine DOr.l ?_); (conv => whnf)) | ((with_reducible refine OwnOr.l ?_); (conv => whnf)) | ((with_reducible apply Drawn.one); conv => whnf) | ((with_reducible refine Then.mk' ?_); conv => whnf) | (first | exact RefS.self rfl | ((with_reducible refine RefS.mk ?_ ?_); (focus (refine And.intro ?_ (And.intro ?_ (And.intro ?_ rfl)) <;> (conv => whnf) <;> repeat' (first | exact trivial | exact LeE.of (Le.refl _) | exact LeE.nil rfl | (with_reducible refine LeE.of ?_) | (first | first | exact leI e | exact eo | exact Le.refl _ | exact rfl | exact leI (by first | rfl | omega | (rw [wrap64 (by omega) (by omega)]; omega) | (rw [wrap64 (by omega) (by omega)]; done)) | exact LeCs.refl _ | exact fun i hi => LeCs.refl _ | exact leOwn (by first | rfl | omega)) | ((with_reducible refine And.intro ?_ ?_) <;> conv => whnf)))); exact rfl)) | (refine And.intro ?_ ?_; (focus (first | exact trivial | exact rfl | (first | exact hB | exact hB1 | exact hB2 | exact hC | exact chainI hB | assumption) | (refine chainI ?_; (first | (first | exact hB | exact hB1 | exact hB2 | exact hC | exact chainI hB | assumption) | decide | omega | (refine And.intro ?_ ?_ <;> first | omega | (simp; omega)) | (simp only [IntKind.wrap_i64]; first | omega | (refine And.intro ?_ ?_ <;> omega)))) | (intro _; (first | (first | exact hB | exact hB1 | exact hB2 | exact hC | exact chainI hB | assumption) | decide | omega | (refine And.intro ?_ ?_ <;> first | omega | (simp; omega)) | (simp only [IntKind.wrap_i64]; first | omega | (refine And.intro ?_ ?_ <;> omega)))) | (intro _ _; (first | (first | exact hB | exact hB1 | exact hB2 | exact hC | exact chainI hB | assumption) | decide | omega | (refine And.intro ?_ ?_ <;> first | omega | (simp; omega)) | (simp only [IntKind.wrap_i64]; first | omega | (refine And.intro ?_ ?_ <;> omega)))) | (first | decide | omega | (refine And.intro ?_ ?_ <;> first | omega | (simp; omega)) | (simp only [IntKind.wrap_i64]; first | omega | (refine And.intro ?_ ?_ <;> omega))) | ((conv => whnf); intros; (try simp only [decide_eq_true_eq, decide_eq_false_iff_not, Bool.and_eq_true, Bool.or_eq_true, Bool.and_eq_false_imp, Bool.or_eq_false_iff, Bool.not_eq_true', Bool.not_eq_false', beq_iff_eq, bne_iff_ne, ne_eq] at *); (first | (first | exact hB | exact hB1 | exact hB2 | exact hC | exact chainI hB | assumption) | decide | omega | (refine And.intro ?_ ?_ <;> first | omega | (simp; omega)) | (simp only [IntKind.wrap_i64]; first | omega | (refine And.intro ?_ ?_ <;> omega)))))); conv => whnf) | (refine And.intro ?_ ?_; (focus (first | exact NoTag.int | exact NoTag.bool | exact NoTag.str | (refine NoTag.of_scalar ?_; rfl))); conv => whnf))
        exact Le.refl _
def grB (n : Int) (rows : List (List Int)) : Bool := rows.any (fun l => decide ((l.length : Int) > 40)) || (decide (n > 200) || decide ((rows.length : Int) > 200))
def rL (tg : Nat → Bool) (rows : List (List Int)) (i : Nat) : List C := [.sl (tg i) 1 (rows.getD i []).length (rX (rows.getD i []))]
theorem aGreat (t : Bool) (n : Int) (rows : List (List Int)) (tg : Nat → Bool) : ACall Try.prog gl 4 [intA .i64 n, .c (.sl t 1 rows.length (rL tg rows))] [] (boolA (grB n rows)) := by
  refine acall_of_vcb htb hmix (f := 4) rfl rfl rfl (by kernel_rfl) rfl rfl fun hb => ?_; simp only [bndAll, AV.bnd, bnds, C.bnd, cVt, cS, true_and, and_true] at hb; conv => whnf
  have hn : rows.length ≤ 140737488355328 := hb.2.1
  repeat' (first | (refine And.intro (fun h => ?_) (fun h => ?_) <;> (first | (with_reducible have hd : _ < _ := of_decide_eq_true h) | (with_reducible have hd : _ ≤ _ := of_decide_eq_true h) | (with_reducible have hd : ¬ (_ < _) := of_decide_eq_false h) | (with_reducible have hd : ¬ (_ ≤ _) := of_decide_eq_false h) | skip) <;> (first | exact absurd h (by decide) | first | exact absurd hd hB1 | exact absurd hd hB2 | exact absurd hB1.2 hd | exact absurd hB2.2 hd | (conv => whnf))) | ((with_reducible refine Both.mk ?_ ?_) <;> conv => whnf) | ((with_reducible refine DOr.l ?_); (conv => whnf)) | ((with_reducible refine OwnOr.l ?_); (conv => whnf)) | (refine And.intro ?_ ?_; (focus (first | exact trivial | exact rfl | (first | exact hB | exact hB1 | exact hB2 | exact hC | exact chainI hB | assumption) | (refine chainI ?_; (first | (first | exact hB | exact hB1 | exact hB2 | exact hC | exact chainI hB | assumption) | decide | omega | (refine And.intro ?_ ?_ <;> first | omega | (simp; omega)) | (simp only [IntKind.wrap_i64]; first | omega | (refine And.intro ?_ ?_ <;> omega)))) | (intro _; (first | (first | exact hB | exact hB1 | exact hB2 | exact hC | exact chainI hB | assumption) | decide | omega | (refine And.intro ?_ ?_ <;> first | omega | (simp; omega)) | (simp only [IntKind.wrap_i64]; first | omega | (refine And.intro ?_ ?_ <;> omega)))) | (intro _ _; (first | (first | exact hB | exact hB1 | exact hB2 | exact hC | exact chainI hB | assumption) | decide | omega | (refine And.intro ?_ ?_ <;> first | omega | (simp; omega)) | (simp only [IntKind.wrap_i64]; first | omega | (refine And.intro ?_ ?_ <;> omega)))) | (first | decide | omega | (refine And.intro ?_ ?_ <;> first | omega | (simp; omega)) | (simp only [IntKind.wrap_i64]; first | omega | (refine And.intro ?_ ?_ <;> omega))) | ((conv => whnf); intros; (try simp only [decide_eq_true_eq, decide_eq_false_iff_not, Bool.and_eq_true, Bool.or_eq_true, Bool.and_eq_false_imp, Bool.or_eq_false_iff, Bool.not_eq_true', Bool.not_eq_false', beq_iff_eq, bne_iff_ne, ne_eq] at *); (first | (first | exact hB | exact hB1 | exact hB2 | exact hC | exact chainI hB | assumption) | decide | omega | (refine And.intro ?_ ?_ <;> first | omega | (simp; omega)) | (simp only [IntKind.wrap_i64]; first | omega | (refine And.intro ?_ ?_ <;> omega)))))); conv => whnf) | (refine And.intro ?_ ?_; (focus (first | exact NoTag.int | exact NoTag.bool | exact NoTag.str | (refine NoTag.of_scalar ?_; rfl))); conv => whnf))
  refine loopI Nat (fun c => c ≤ rows.length ∧ ∀ j, j < c → ¬ ((((rows.getD j []).length : Nat) : Int) > 40)) (fun c => [(5, intA .i64 c)]) (fun _ => []) (fun c => rows.length - c) 0 ⟨Nat.zero_le _, fun j hj => absurd hj (Nat.not_lt_zero _)⟩ ?_ (fun _ => rfl) fun c ⟨hc, hp⟩ => ?_
  · (refine And.intro ?_ (And.intro ?_ (And.intro ?_ rfl)) <;> (conv => whnf) <;> repeat' (first | exact trivial | exact LeE.of (Le.refl _) | exact LeE.nil rfl | (with_reducible refine LeE.of ?_) | (first | first | exact leI e | exact eo | exact Le.refl _ | exact rfl | exact leI (by first | rfl | omega | (rw [wrap64 (by omega) (by omega)]; omega) | (rw [wrap64 (by omega) (by omega)]; done)) | exact LeCs.refl _ | exact fun i hi => LeCs.refl _ | exact leOwn (by first | rfl | omega)) | ((with_reducible refine And.intro ?_ ?_) <;> conv => whnf)))
  · rcases Nat.lt_or_ge c rows.length with hcl | hcl
    · have hB1 : (0 : Int) ≤ (c : Int) ∧ (c : Int) < (rows.length : Int) := by omega
      have ef : rL tg rows (c : Int).toNat = [.sl (tg c) 1 (rows.getD c []).length (rX (rows.getD c []))] := rfl
      conv => whnf
      repeat' (first | (rw [ef]; conv => whnf) | (refine And.intro (fun h => ?_) (fun h => ?_) <;> (first | (with_reducible have hd : _ < _ := of_decide_eq_true h) | (with_reducible have hd : _ ≤ _ := of_decide_eq_true h) | (with_reducible have hd : ¬ (_ < _) := of_decide_eq_false h) | (with_reducible have hd : ¬ (_ ≤ _) := of_decide_eq_false h) | skip) <;> (first | exact absurd h (by decide) | first | exact absurd hd hB1 | exact absurd hd hB2 | exact absurd hB1.2 hd | exact absurd hB2.2 hd | (conv => whnf))) | ((with_reducible refine Both.mk ?_ ?_) <;> conv => whnf) | ((with_reducible refine DOr.l ?_); (conv => whnf)) | ((with_reducible refine OwnOr.l ?_); (conv => whnf)) | (refine And.intro ?_ ?_; (focus (first | exact trivial | exact rfl | (first | exact hB | exact hB1 | exact hB2 | exact hC | exact chainI hB | assumption) | (refine chainI ?_; (first | (first | exact hB | exact hB1 | exact hB2 | exact hC | exact chainI hB | assumption) | decide | omega | (refine And.intro ?_ ?_ <;> first | omega | (simp; omega)) | (simp only [IntKind.wrap_i64]; first | omega | (refine And.intro ?_ ?_ <;> omega)))) | (intro _; (first | (first | exact hB | exact hB1 | exact hB2 | exact hC | exact chainI hB | assumption) | decide | omega | (refine And.intro ?_ ?_ <;> first | omega | (simp; omega)) | (simp only [IntKind.wrap_i64]; first | omega | (refine And.intro ?_ ?_ <;> omega)))) | (intro _ _; (first | (first | exact hB | exact hB1 | exact hB2 | exact hC | exact chainI hB | assumption) | decide | omega | (refine And.intro ?_ ?_ <;> first | omega | (simp; omega)) | (simp only [IntKind.wrap_i64]; first | omega | (refine And.intro ?_ ?_ <;> omega)))) | (first | decide | omega | (refine And.intro ?_ ?_ <;> first | omega | (simp; omega)) | (simp only [IntKind.wrap_i64]; first | omega | (refine And.intro ?_ ?_ <;> omega))) | ((conv => whnf); intros; (try simp only [decide_eq_true_eq, decide_eq_false_iff_not, Bool.and_eq_true, Bool.or_eq_true, Bool.and_eq_false_imp, Bool.or_eq_false_iff, Bool.not_eq_true', Bool.not_eq_false', beq_iff_eq, bne_iff_ne, ne_eq] at *); (first | (first | exact hB | exact hB1 | exact hB2 | exact hC | exact chainI hB | assumption) | decide | omega | (refine And.intro ?_ ?_ <;> first | omega | (simp; omega)) | (simp only [IntKind.wrap_i64]; first | omega | (refine And.intro ?_ ?_ <;> omega)))))); conv => whnf) | (refine And.intro ?_ ?_; (focus (first | exact NoTag.int | exact NoTag.bool | exact NoTag.str | (refine NoTag.of_scalar ?_; rfl))); conv => whnf))
      · refine leB ?_
        have hm : rows.getD c [] ∈ rows := by
          rw [List.getD_eq_getElem?_getD, List.getElem?_eq_getElem hcl]
          exact List.getElem_mem hcl
        have : rows.any (fun l => decide ((l.length : Int) > 40)) = true := List.any_eq_true.2 ⟨_, hm, h⟩
        unfold grB
        rw [this]; rfl
      · refine ⟨c + 1, ⟨hcl, fun j hj => ?_⟩, ?_, by show rows.length - (c + 1) < rows.length - c; omega⟩
        · by_cases hjc : j = c
          · rw [hjc]; exact hd
          · exact hp j (by omega)
        · (refine And.intro ?_ (And.intro ?_ (And.intro ?_ rfl)) <;> (conv => whnf) <;> repeat' (first | exact trivial | exact LeE.of (Le.refl _) | exact LeE.nil rfl | (with_reducible refine LeE.of ?_) | (first | first | exact leI e | exact eo | exact Le.refl _ | exact rfl | exact leI (by first | rfl | omega | (rw [wrap64 (by omega) (by omega)]; omega) | (rw [wrap64 (by omega) (by omega)]; done)) | exact LeCs.refl _ | exact fun i hi => LeCs.refl _ | exact leOwn (by first | rfl | omega)) | ((with_reducible refine And.intro ?_ ?_) <;> conv => whnf)))
    · have hB1 : ¬ ((c : Int) < (rows.length : Int)) := by omega
      conv => whnf
      repeat' (first | (refine And.intro (fun h => ?_) (fun h => ?_) <;> (first | (with_reducible have hd : _ < _ := of_decide_eq_true h) | (with_reducible have hd : _ ≤ _ := of_decide_eq_true h) | (with_reducible have hd : ¬ (_ < _) := of_decide_eq_false h) | (with_reducible have hd : ¬ (_ ≤ _) := of_decide_eq_false h) | skip) <;> (first | exact absurd h (by decide) | first | exact absurd hd hB1 | exact absurd hd hB2 | exact absurd hB1.2 hd | exact absurd hB2.2 hd | (conv => whnf))) | ((with_reducible refine Both.mk ?_ ?_) <;> conv => whnf) | ((with_reducible refine DOr.l ?_); (conv => whnf)) | ((with_reducible refine OwnOr.l ?_); (conv => whnf)) | (refine And.intro ?_ ?_; (focus (first | exact trivial | exact rfl | (first | exact hB | exact hB1 | exact hB2 | exact hC | exact chainI hB | assumption) | (refine chainI ?_; (first | (first | exact hB | exact hB1 | exact hB2 | exact hC | exact chainI hB | assumption) | decide | omega | (refine And.intro ?_ ?_ <;> first | omega | (simp; omega)) | (simp only [IntKind.wrap_i64]; first | omega | (refine And.intro ?_ ?_ <;> omega)))) | (intro _; (first | (first | exact hB | exact hB1 | exact hB2 | exact hC | exact chainI hB | assumption) | decide | omega | (refine And.intro ?_ ?_ <;> first | omega | (simp; omega)) | (simp only [IntKind.wrap_i64]; first | omega | (refine And.intro ?_ ?_ <;> omega)))) | (intro _ _; (first | (first | exact hB | exact hB1 | exact hB2 | exact hC | exact chainI hB | assumption) | decide | omega | (refine And.intro ?_ ?_ <;> first | omega | (simp; omega)) | (simp only [IntKind.wrap_i64]; first | omega | (refine And.intro ?_ ?_ <;> omega)))) | (first | decide | omega | (refine And.intro ?_ ?_ <;> first | omega | (simp; omega)) | (simp only [IntKind.wrap_i64]; first | omega | (refine And.intro ?_ ?_ <;> omega))) | ((conv => whnf); intros; (try simp only [decide_eq_true_eq, decide_eq_false_iff_not, Bool.and_eq_true, Bool.or_eq_true, Bool.and_eq_false_imp, Bool.or_eq_false_iff, Bool.not_eq_true', Bool.not_eq_false', beq_iff_eq, bne_iff_ne, ne_eq] at *); (first | (first | exact hB | exact hB1 | exact hB2 | exact hC | exact chainI hB | assumption) | decide | omega | (refine And.intro ?_ ?_ <;> first | omega | (simp; omega)) | (simp only [IntKind.wrap_i64]; first | omega | (refine And.intro ?_ ?_ <;> omega)))))); conv => whnf) | (refine And.intro ?_ ?_; (focus (first | exact NoTag.int | exact NoTag.bool | exact NoTag.str | (refine NoTag.of_scalar ?_; rfl))); conv => whnf))
      refine leB ?_
      have : rows.any (fun l => decide ((l.length : Int) > 40)) = false := List.any_eq_false.2 fun l hl => by
        obtain ⟨j, hj, rfl⟩ := List.mem_iff_getElem.1 hl
        have := hp j (by omega)
        rw [List.getD_eq_getElem?_getD, List.getElem?_eq_getElem hj] at this
        simpa using this
      unfold grB
      rw [this]; rfl
abbrev litI (l : List Int) : C := .sl false 1 l.length (nthC (l.map cX))
abbrev litR (rows : List (List Int)) : C := .sl false 1 rows.length (nthC (rows.map fun l => [litI l]))
theorem nth_rX (l : List Int) (i : Nat) (hi : i < l.length) : nthC (l.map cX) i = rX l i := by
  unfold nthC rX rowE
  rw [List.getD_eq_getElem?_getD, List.getD_eq_getElem?_getD, List.getElem?_map, List.getElem?_eq_getElem hi]
  rfl
theorem leC_litI (l : List Int) : LeC (litI l) (.sl false 1 l.length (rX l)) := LeC.sl rfl fun i hi => nth_rX l i hi
theorem leC_litR (rows : List (List Int)) : LeC (litR rows) (.sl false 1 rows.length (rL (fun _ => false) rows)) := leC_slL fun i hi => by
  have e : nthC (rows.map fun l => [litI l]) i = [litI (rows.getD i [])] := by
    unfold nthC
    rw [List.getD_eq_getElem?_getD, List.getD_eq_getElem?_getD, List.getElem?_map, List.getElem?_eq_getElem hi]
    rfl
  rw [e]
  exact leCs_one (leC_litI _)
theorem aNewLit (n : Int) (rows : List (List Int)) : ACall Try.prog gl 6 [intA .i64 n, .c (litR rows)] [] (.sp false [.sl false 2 (clN n) (rSet (grA (clN n) rows)), .sl false 2 (clN n) (rSet (fun i k => grA (clN n) rows k i))] 0) :=
  (aNewG false n rows (fun _ => false) (rL (fun _ => false) rows) fun i _ => rfl).le ⟨Le.refl _, Le.toC (leC_litR rows), trivial⟩
theorem rN_rX (l : List Nat) (i : Nat) (hi : i < l.length) : rX (l.map fun k : Nat => (k : Int)) i = rN l i := by
  unfold rX rN rowE
  rw [List.getD_eq_getElem?_getD, List.getD_eq_getElem?_getD, List.getElem?_map, List.getElem?_eq_getElem hi]
  rfl
theorem aSameLit (s : Bool) (l : List Nat) : ACall Try.prog gl 10 [.c (.sl s 1 l.length (rN l)), .c (litI (l.map fun k : Nat => (k : Int)))] [] (boolA true) :=
  (aSame s false l).le ⟨Le.refl _, Le.toC (LeC.sl (List.length_map _) fun i hi => (nth_rX _ i (by rw [List.length_map]; exact hi)).trans (rN_rX l i hi)), trivial⟩
theorem aAwake : ACall Try.prog gl 5 [] [] (boolA true) := by
  have hA : ∀ n rows, GrOk (clN n) (grA (clN n) rows) := fun n rows => grA_ok _ _
  have N1 := aNewLit 3 [[1, 2]]
  have N2 := aNewLit 3 [[1], [0], [1]]
  have O1 := aOrder false false false (clN 3) (grA (clN 3) [[1, 2]]) _ (rSet (fun i k => grA (clN 3) [[1, 2]] k i)) (clN_le 3) (fun _ _ => rfl) (hA 3 _)
  have O2 := aOrder false false false (clN 3) (grA (clN 3) [[1], [0], [1]]) _ (rSet (fun i k => grA (clN 3) [[1], [0], [1]] k i)) (clN_le 3) (fun _ _ => rfl) (hA 3 _)
  have e1 : gOrd (clN 3) (grA (clN 3) [[1, 2]]) (clN 3) = [1, 2, 0] := by decide
  have e2 : gOrd (clN 3) (grA (clN 3) [[1], [0], [1]]) (clN 3) = [] := by decide
  have e3 : gStk (clN 3) [1, 2, 0] = [] := by decide
  have e4 : gStk (clN 3) [] = [0, 1, 2] := by decide
  rw [e1, e3] at O1
  rw [e2, e4] at O2
  have S1 := aSameLit false [1, 2, 0]
  have S2 := aSameLit false [0, 1, 2]
  refine acall_of_vc htb hmix (f := 5) rfl rfl rfl (by kernel_rfl) rfl rfl ?_; conv => whnf
  repeat' (first | (refine Exists.intro _ (And.intro (chainI (N1)) ?_); conv => whnf) | (refine Exists.intro _ (And.intro (N1) ?_); conv => whnf) | ((with_reducible refine GOr.l ?_); (conv => whnf); refine Exists.intro _ (And.intro (chainI (N1)) ?_); conv => whnf) | (refine Exists.intro _ (And.intro (chainI (N2)) ?_); conv => whnf) | (refine Exists.intro _ (And.intro (N2) ?_); conv => whnf) | ((with_reducible refine GOr.l ?_); (conv => whnf); refine Exists.intro _ (And.intro (chainI (N2)) ?_); conv => whnf) | (refine Exists.intro _ (And.intro (chainI (O1)) ?_); conv => whnf) | (refine Exists.intro _ (And.intro (O1) ?_); conv => whnf) | ((with_reducible refine GOr.l ?_); (conv => whnf); refine Exists.intro _ (And.intro (chainI (O1)) ?_); conv => whnf) | (refine Exists.intro _ (And.intro (chainI (O2)) ?_); conv => whnf) | (refine Exists.intro _ (And.intro (O2) ?_); conv => whnf) | ((with_reducible refine GOr.l ?_); (conv => whnf); refine Exists.intro _ (And.intro (chainI (O2)) ?_); conv => whnf) | (refine Exists.intro _ (And.intro (chainI (S1)) ?_); conv => whnf) | (refine Exists.intro _ (And.intro (S1) ?_); conv => whnf) | ((with_reducible refine GOr.l ?_); (conv => whnf); refine Exists.intro _ (And.intro (chainI (S1)) ?_); conv => whnf) | (refine Exists.intro _ (And.intro (chainI (S2)) ?_); conv => whnf) | (refine Exists.intro _ (And.intro (S2) ?_); conv => whnf) | ((with_reducible refine GOr.l ?_); (conv => whnf); refine Exists.intro _ (And.intro (chainI (S2)) ?_); conv => whnf) | (refine And.intro (fun h => ?_) (fun h => ?_) <;> (first | (with_reducible have hd : _ < _ := of_decide_eq_true h) | (with_reducible have hd : _ ≤ _ := of_decide_eq_true h) | (with_reducible have hd : ¬ (_ < _) := of_decide_eq_false h) | (with_reducible have hd : ¬ (_ ≤ _) := of_decide_eq_false h) | skip) <;> (first | exact absurd h (by decide) | first | exact absurd hd hB1 | exact absurd hd hB2 | exact absurd hB1.2 hd | exact absurd hB2.2 hd | (conv => whnf))) | ((with_reducible refine Both.mk ?_ ?_) <;> conv => whnf) | ((with_reducible refine DOr.l ?_); (conv => whnf)) | ((with_reducible refine OwnOr.l ?_); (conv => whnf)) | (refine And.intro ?_ ?_; (focus (first | exact trivial | exact rfl | (first | exact hB | exact hB1 | exact hB2 | exact hC | exact chainI hB | assumption) | (refine chainI ?_; (first | (first | exact hB | exact hB1 | exact hB2 | exact hC | exact chainI hB | assumption) | decide | omega | (refine And.intro ?_ ?_ <;> first | omega | (simp; omega)) | (simp only [IntKind.wrap_i64]; first | omega | (refine And.intro ?_ ?_ <;> omega)))) | (intro _; (first | (first | exact hB | exact hB1 | exact hB2 | exact hC | exact chainI hB | assumption) | decide | omega | (refine And.intro ?_ ?_ <;> first | omega | (simp; omega)) | (simp only [IntKind.wrap_i64]; first | omega | (refine And.intro ?_ ?_ <;> omega)))) | (intro _ _; (first | (first | exact hB | exact hB1 | exact hB2 | exact hC | exact chainI hB | assumption) | decide | omega | (refine And.intro ?_ ?_ <;> first | omega | (simp; omega)) | (simp only [IntKind.wrap_i64]; first | omega | (refine And.intro ?_ ?_ <;> omega)))) | (first | decide | omega | (refine And.intro ?_ ?_ <;> first | omega | (simp; omega)) | (simp only [IntKind.wrap_i64]; first | omega | (refine And.intro ?_ ?_ <;> omega))) | ((conv => whnf); intros; (try simp only [decide_eq_true_eq, decide_eq_false_iff_not, Bool.and_eq_true, Bool.or_eq_true, Bool.and_eq_false_imp, Bool.or_eq_false_iff, Bool.not_eq_true', Bool.not_eq_false', beq_iff_eq, bne_iff_ne, ne_eq] at *); (first | (first | exact hB | exact hB1 | exact hB2 | exact hC | exact chainI hB | assumption) | decide | omega | (refine And.intro ?_ ?_ <;> first | omega | (simp; omega)) | (simp only [IntKind.wrap_i64]; first | omega | (refine And.intro ?_ ?_ <;> omega)))))); conv => whnf) | (refine And.intro ?_ ?_; (focus (first | exact NoTag.int | exact NoTag.bool | exact NoTag.str | (refine NoTag.of_scalar ?_; rfl))); conv => whnf) | ((with_reducible refine xc_pure ?_); conv => whnf))
  exact leB rfl
theorem aOrders (t : Bool) (n : Int) (rows : List (List Int)) (tg : Nat → Bool) : ACall Try.prog gl 3 [intA .i64 n, .c (.sl t 1 rows.length (rL tg rows))] [] (boolA true) := by
  have G := aGreat t n rows tg
  have N1 := aNewG t n rows tg (rL tg rows) fun i _ => rfl
  have N2 := aRNew t n rows tg (rL tg rows) fun i => rfl
  have O1 := aOrder false false false (clN n) (grA (clN n) rows) _ (rSet (fun i k => grA (clN n) rows k i)) (clN_le n) (fun _ _ => rfl) (grA_ok _ _)
  have O2 := aROrder false (clN n) (grA (clN n) rows) (clN_le n)
  have S1 := aSame false false (gOrd (clN n) (grA (clN n) rows) (clN n))
  have S2 := aSame false false (gStk (clN n) (gOrd (clN n) (grA (clN n) rows) (clN n)))
  refine acall_of_vc htb hmix (f := 3) rfl rfl rfl (by kernel_rfl) rfl rfl ?_; conv => whnf
  repeat' (first | (refine Exists.intro _ (And.intro (chainI (aAwake)) ?_); conv => whnf) | (refine Exists.intro _ (And.intro (aAwake) ?_); conv => whnf) | ((with_reducible refine GOr.l ?_); (conv => whnf); refine Exists.intro _ (And.intro (chainI (aAwake)) ?_); conv => whnf) | (refine Exists.intro _ (And.intro (chainI (G)) ?_); conv => whnf) | (refine Exists.intro _ (And.intro (G) ?_); conv => whnf) | ((with_reducible refine GOr.l ?_); (conv => whnf); refine Exists.intro _ (And.intro (chainI (G)) ?_); conv => whnf) | (refine Exists.intro _ (And.intro (chainI (N1)) ?_); conv => whnf) | (refine Exists.intro _ (And.intro (N1) ?_); conv => whnf) | ((with_reducible refine GOr.l ?_); (conv => whnf); refine Exists.intro _ (And.intro (chainI (N1)) ?_); conv => whnf) | (refine Exists.intro _ (And.intro (chainI (N2)) ?_); conv => whnf) | (refine Exists.intro _ (And.intro (N2) ?_); conv => whnf) | ((with_reducible refine GOr.l ?_); (conv => whnf); refine Exists.intro _ (And.intro (chainI (N2)) ?_); conv => whnf) | (refine Exists.intro _ (And.intro (chainI (O1)) ?_); conv => whnf) | (refine Exists.intro _ (And.intro (O1) ?_); conv => whnf) | ((with_reducible refine GOr.l ?_); (conv => whnf); refine Exists.intro _ (And.intro (chainI (O1)) ?_); conv => whnf) | (refine Exists.intro _ (And.intro (chainI (O2)) ?_); conv => whnf) | (refine Exists.intro _ (And.intro (O2) ?_); conv => whnf) | ((with_reducible refine GOr.l ?_); (conv => whnf); refine Exists.intro _ (And.intro (chainI (O2)) ?_); conv => whnf) | (refine Exists.intro _ (And.intro (chainI (S1)) ?_); conv => whnf) | (refine Exists.intro _ (And.intro (S1) ?_); conv => whnf) | ((with_reducible refine GOr.l ?_); (conv => whnf); refine Exists.intro _ (And.intro (chainI (S1)) ?_); conv => whnf) | (refine Exists.intro _ (And.intro (chainI (S2)) ?_); conv => whnf) | (refine Exists.intro _ (And.intro (S2) ?_); conv => whnf) | ((with_reducible refine GOr.l ?_); (conv => whnf); refine Exists.intro _ (And.intro (chainI (S2)) ?_); conv => whnf) | (refine And.intro (fun h => ?_) (fun h => ?_) <;> (first | (with_reducible have hd : _ < _ := of_decide_eq_true h) | (with_reducible have hd : _ ≤ _ := of_decide_eq_true h) | (with_reducible have hd : ¬ (_ < _) := of_decide_eq_false h) | (with_reducible have hd : ¬ (_ ≤ _) := of_decide_eq_false h) | skip) <;> (first | exact absurd h (by decide) | first | exact absurd hd hB1 | exact absurd hd hB2 | exact absurd hB1.2 hd | exact absurd hB2.2 hd | (conv => whnf))) | ((with_reducible refine Both.mk ?_ ?_) <;> conv => whnf) | ((with_reducible refine DOr.l ?_); (conv => whnf)) | ((with_reducible refine OwnOr.l ?_); (conv => whnf)) | (refine And.intro ?_ ?_; (focus (first | exact trivial | exact rfl | (first | exact hB | exact hB1 | exact hB2 | exact hC | exact chainI hB | assumption) | (refine chainI ?_; (first | (first | exact hB | exact hB1 | exact hB2 | exact hC | exact chainI hB | assumption) | decide | omega | (refine And.intro ?_ ?_ <;> first | omega | (simp; omega)) | (simp only [IntKind.wrap_i64]; first | omega | (refine And.intro ?_ ?_ <;> omega)))) | (intro _; (first | (first | exact hB | exact hB1 | exact hB2 | exact hC | exact chainI hB | assumption) | decide | omega | (refine And.intro ?_ ?_ <;> first | omega | (simp; omega)) | (simp only [IntKind.wrap_i64]; first | omega | (refine And.intro ?_ ?_ <;> omega)))) | (intro _ _; (first | (first | exact hB | exact hB1 | exact hB2 | exact hC | exact chainI hB | assumption) | decide | omega | (refine And.intro ?_ ?_ <;> first | omega | (simp; omega)) | (simp only [IntKind.wrap_i64]; first | omega | (refine And.intro ?_ ?_ <;> omega)))) | (first | decide | omega | (refine And.intro ?_ ?_ <;> first | omega | (simp; omega)) | (simp only [IntKind.wrap_i64]; first | omega | (refine And.intro ?_ ?_ <;> omega))) | ((conv => whnf); intros; (try simp only [decide_eq_true_eq, decide_eq_false_iff_not, Bool.and_eq_true, Bool.or_eq_true, Bool.and_eq_false_imp, Bool.or_eq_false_iff, Bool.not_eq_true', Bool.not_eq_false', beq_iff_eq, bne_iff_ne, ne_eq] at *); (first | (first | exact hB | exact hB1 | exact hB2 | exact hC | exact chainI hB | assumption) | decide | omega | (refine And.intro ?_ ?_ <;> first | omega | (simp; omega)) | (simp only [IntKind.wrap_i64]; first | omega | (refine And.intro ?_ ?_ <;> omega)))))); conv => whnf) | (refine And.intro ?_ ?_; (focus (first | exact NoTag.int | exact NoTag.bool | exact NoTag.str | (refine NoTag.of_scalar ?_; rfl))); conv => whnf) | ((with_reducible refine xc_pure ?_); conv => whnf))
  all_goals exact leB rfl
end Go.Proofs.Ytbddpnohacjjfaa

namespace Go.Proofs.Ytbddpnohacjjfaa
set_option linter.unusedSimpArgs false
set_option linter.unusedVariables false
set_option maxRecDepth 100000
set_option maxHeartbeats 8000000
open Go Go.VA Go.RowKit Go.ChangeShapes Go.WideShapes Go.ChangeAt
theorem own : ownKnob Try.prog.godebug = none := by kernel_rfl
theorem laidOut : laidOutB Try.prog = true := by kernel_rfl
section
variable {H : Type} {enc : TypeId × Value → H} {W : World} {base : Nat} {sp : Nat → Bool} {held : Bool}
theorem open_ints {fuel : Nat} {cs : List Value} {x : DataW H × List MemPlace} (h : DataW.trod enc Try.prog W base sp held fuel 25 cs = some x) (hs : SzW Try.prog 25 x.1) : ∃ l : List Int, ∃ u, cs = [u] ∧ RepC (S0 W) (.sl false 1 l.length (rX l)) u := by
  obtain ⟨a, len, cap, m3, e3, hm3, hlc, hcap0, hrows⟩ := tr_sliceS htb (t := 25) (e := 3) rfl rfl (by decide) h hs
  have hcap : len * 8 ≤ 140737488351232 := hcap0
  subst e3
  rcases hrows with h0 | ⟨b, o, rfl, hr⟩
  · subst h0
    exact ⟨[], _, rfl, repC_rows ⟨hlc, by simp⟩ (.inl rfl)⟩
  · have hex : ∀ i : Fin len, ∃ v : Int, W.cell? ⟨b, o + i * 1, none⟩ = some (.int .i64 v) := by
      intro ⟨i, hi⟩
      obtain ⟨ce, y, hl, hc, ht, hsy⟩ := hr i hi
      obtain ⟨k, e0, _⟩ := tr_int htb (t := 3) (k := .i64) rfl ht
      refine ⟨k, ?_⟩
      have := hc 0 (by decide)
      rw [e0] at this
      exact this
    have hf := fun i => Classical.choose_spec (hex i)
    refine ⟨List.ofFn fun i => Classical.choose (hex i), _, rfl, ?_⟩
    rw [List.length_ofFn]
    refine repC_rows ⟨hlc, by omega⟩ (.inr ⟨b, o, rfl, fun i hi => ?_⟩)
    have g := hf ⟨i, hi⟩
    have hrow : rX (List.ofFn fun i => Classical.choose (hex i)) i = [.v (.int .i64 (Classical.choose (hex ⟨i, hi⟩)))] := by
      unfold rX rowE
      rw [List.getD_eq_getElem?_getD, List.getElem?_eq_getElem (by simpa using hi)]
      simp [cX]
    rw [hrow]
    refine ⟨[.int .i64 (Classical.choose (hex ⟨i, hi⟩))], rfl, fun j hj u hu => ?_, rfl, ?_⟩
    · obtain rfl : j = 0 := by simpa using hj
      have e : u = .int .i64 (Classical.choose (hex ⟨i, hi⟩)) := by simpa using hu.symm
      rw [e]; exact g
    · exact ⟨_, [], rfl, by simp [RepC, Value.oneCell'], rfl⟩
theorem open_rowsI {fuel : Nat} {cs : List Value} {x : DataW H × List MemPlace} (h : DataW.trod enc Try.prog W base sp held fuel 22 cs = some x) (hs : SzW Try.prog 22 x.1) : ∃ l : List (List Int), ∃ u, cs = [u] ∧ RepC (S0 W) (.sl false 1 l.length (rL (fun _ => false) l)) u := by
  obtain ⟨a, len, cap, m3, e3, hm3, hlc, hcap0, hrows⟩ := tr_sliceS htb (t := 22) (e := 25) rfl rfl (by decide) h hs
  have hcap : len * 24 ≤ 140737488351232 := hcap0
  subst e3
  rcases hrows with h0 | ⟨b, o, rfl, hr⟩
  · subst h0
    exact ⟨[], _, rfl, repC_rows ⟨hlc, by simp⟩ (.inl rfl)⟩
  · have hex : ∀ i : Fin len, ∃ v : List Int, ∃ u, W.cell? ⟨b, o + i * 1, none⟩ = some u ∧ RepC (S0 W) (.sl false 1 v.length (rX v)) u := by
      intro ⟨i, hi⟩
      obtain ⟨ce, y, hl, hc, ht, hsy⟩ := hr i hi
      obtain ⟨l, u, e0, hu⟩ := open_ints ht hsy
      refine ⟨l, u, ?_, hu⟩
      have := hc 0 (by decide)
      rw [e0] at this
      exact this
    have hf := fun i => Classical.choose_spec (hex i)
    refine ⟨List.ofFn fun i => Classical.choose (hex i), _, rfl, ?_⟩
    rw [List.length_ofFn]
    refine repC_rows ⟨hlc, by omega⟩ (.inr ⟨b, o, rfl, fun i hi => ?_⟩)
    obtain ⟨u, g1, g2⟩ := hf ⟨i, hi⟩
    have hrow : rL (fun _ => false) (List.ofFn fun i => Classical.choose (hex i)) i = [.sl false 1 (Classical.choose (hex ⟨i, hi⟩)).length (rX (Classical.choose (hex ⟨i, hi⟩)))] := by
      unfold rL
      rw [List.getD_eq_getElem?_getD, List.getElem?_eq_getElem (by simpa using hi)]
      simp
    rw [hrow]
    refine ⟨[u], rfl, fun j hj u' hu => ?_, rfl, ?_⟩
    · obtain rfl : j = 0 := by simpa using hj
      have e : u' = u := by simpa using hu.symm
      rw [e]; exact g1
    · exact ⟨_, [], rfl, g2, rfl⟩
theorem open_rows0 {v : Value} {d : DataW H} {ps : List MemPlace} {r : Reach} {b0 : Nat} (hval : Value.okWide Try.prog W r b0 22 v) (hd : DataW.Trod enc Try.prog W base sp held 22 v d ps) (hs : SzW Try.prog 22 d) :
    ∃ l : List (List Int), RelV [] (S0 W) (.c (.sl false 1 l.length (rL (fun _ => false) l))) v := by
  have hc := arg_slice htb (t := 22) (e := 25) rfl hval
  obtain ⟨fuel, hf⟩ := hd
  rw [hc] at hf
  obtain ⟨l, u, e, h⟩ := open_rowsI hf hs
  obtain rfl : v = u := by simpa using e
  exact ⟨l, by simpa [RelV] using h⟩
end
end Go.Proofs.Ytbddpnohacjjfaa

namespace Go.Proofs.Ytbddpnohacjjfaa
set_option linter.unusedSimpArgs false
set_option linter.unusedVariables false
set_option maxRecDepth 100000
set_option maxHeartbeats 8000000
open Go Go.VA Go.RowKit Go.ChangeShapes Go.WideShapes Go.ChangeAt
theorem graphOrders_lifted (os : Os) (started : os.Started) (H : Type) (enc : TypeId × Value → H) :
    ReturnsInHanded {} Try.checked os 3 .any (Rows.graphOrdersSpec.pre6 enc Try.prog Try.f3 Rows.graphOrdersRow.domain false) (Rows.graphOrdersSpec.post enc Try.prog Try.f3 false true false false) := by
  refine law_liftedS os started own (by kernel_rfl) Try.func3 laidOut (by kernel_rfl) rfl rfl rfl (tb := 4) (by kernel_rfl) (fun ds h => ?_)
    (ChangeSpec.witness6 (enc := enc) (C := Try.checked) false ⟨#[], #[.int .i64 0, .slice none 0 0], []⟩ 8 (by kernel_rfl) (by kernel_rfl) (by kernel_rfl) (by kernel_rfl)) ?_
  · match ds, h with | [_, _], _ => rfl
  · intro W base args ds ps hval hA0 hs
    have hA : DataW.TrodAll enc Try.prog W 0 (fun _ => true) true [3, 22] args.toList ds ps := hA0
    obtain ⟨v0, v1, d0, d1, p0, p1, rfl, rfl, rfl, h0, h1⟩ := trodAll_two hA
    obtain ⟨n, rfl, _⟩ := open_int (k := .i64) (by kernel_rfl) (hval 0 3 v0 rfl rfl) h0
    obtain ⟨l, e1⟩ := open_rows0 (hval 1 22 v1 rfl rfl) h1 (hs 1 22 d1 rfl rfl)
    exact acall_true (aOrders false n l fun _ => false) W _ (glOk_nil _) ⟨_, _, rfl, by show RelV _ _ (.c (.v (.int .i64 n))) _; simp [RelV, RepC, Value.oneCell'], _, _, rfl, e1, rfl⟩
theorem graphOrders_holds : Rows.GraphOrdersSaid :=
  OpenClaim.holds_of_wide 3 Try.f3 rfl rfl rfl rfl rfl rfl rfl ⟨rfl, rfl, rfl, rfl, rfl⟩ rfl rfl rfl rfl rfl (by kernel_rfl) Try.func3 (by kernel_rfl)
    (of_decide_eq_true (by kernel_rfl)) (by unfold Func.isWrapper; rw [if_neg (by decide +kernel)]; exact ⟨rfl, rfl⟩)
    (fun os started H enc _ => graphOrders_lifted os started H enc)
#print axioms graphOrders_holds
end Go.Proofs.Ytbddpnohacjjfaa
