/- Contracts of functions of the program, and the laws that stand on them: what each function answers, whatever its arguments. -/
import Derived.Test.YtbddpnohacjjfaaDoorG4
set_option linter.unusedSectionVars false
set_option linter.unnecessarySimpa false
namespace Go.Proofs.YtbddpnohacjjfaaDoor
set_option linter.unusedSimpArgs false
set_option linter.unusedVariables false
set_option maxRecDepth 100000
set_option maxHeartbeats 8000000
open Go Go.VA
def rB (S : Nat → Bool) (k : Nat) : List C := [.v (.bool (S k))]
def rBB (N : Nat) (A : Nat → Nat → Bool) (i : Nat) : List C := [.sl false 1 N (rB (A i))]
def rP (N : Nat) (l : List Int) (k : Nat) : Bool := decide (k < N) && l.contains (k : Int)
theorem rP_no {N : Nat} {l : List Int} {x : Int} (h : ¬ (0 ≤ x ∧ x < N)) : rP N (l ++ [x]) = rP N l := by
  funext k
  unfold rP
  by_cases hk : k < N
  · have hne : ¬ ((k : Int) = x) := fun e => h ⟨by omega, by omega⟩
    simp [hk, hne]
  · simp [hk]
theorem rP_yes {N : Nat} {l : List Int} {x : Nat} (h : x < N) (i : Nat) : updF (rB (rP N l)) x [.v (.bool true)] i = rB (rP N (l ++ [(x : Int)])) i := by
  unfold updF rB rP
  split
  · rename_i e; subst e; simp [h]
  · rename_i e
    have hne : ¬ ((i : Int) = (x : Int)) := by omega
    simp [hne]
theorem rP_all {N : Nat} {rows : List (List Int)} {i : Nat} (h : i < N) : rP N (rows.getD i []) = grA N rows i := by
  funext k
  unfold rP grA
  simp [h]
theorem rBB_snoc {N i q : Nat} {A : Nat → Nat → Bool} (hq : q < i + 1) : catF 0 i (rBB N A) (nthC [[.sl false 1 N (rB (A i))]]) q = rBB N A q := by
  unfold catF
  split
  · rw [Nat.zero_add]
  · obtain rfl : q = i := by omega
    rw [Nat.sub_self]; rfl
theorem gRNew (t : Bool) (n : Int) (rows : List (List Int)) (tg : Nat → Bool) (f : Nat → List C) (hf : ∀ i, f i = [.sl (tg i) 1 (rows.getD i []).length (rX (rows.getD i []))]) :
    GCall Tryd.prog gl 17 [] [intA .i64 n, .c (.sl t 1 rows.length f)] [.box [.c (.v (.int .i64 (clN n))), .c (.sl false 1 (clN n) (rBB (clN n) (grA (clN n) rows)))]] [.ptr 0 0] := by
  refine gcall_of_vcb htb hmix (f := 17) rfl rfl rfl (by kernel_rfl) rfl rfl rfl fun hb hb2 => ?_; simp only [bndOs, bndO, gbnds, AV.gbnd, bnds, C.bnd, true_and, and_true] at hb hb2; conv => whnf
  have ez := clN_eq n
  have hN := clN_le n
  generalize clN n = N at *
  repeat' (first | (rw [ez]; conv => whnf) | (refine And.intro (fun h => ?_) (fun h => ?_) <;> (first | (with_reducible have hd : _ < _ := of_decide_eq_true h) | (with_reducible have hd : _ ≤ _ := of_decide_eq_true h) | (with_reducible have hd : ¬ (_ < _) := of_decide_eq_false h) | (with_reducible have hd : ¬ (_ ≤ _) := of_decide_eq_false h) | skip) <;> (first | exact absurd h (by decide) | first | exact absurd hd hB1 | exact absurd hB2.2 hd | exact absurd hd hB2 | exact absurd hB.2 hd | exact absurd hB1.2 hd | (conv => whnf))) | ((with_reducible refine Both.mk ?_ ?_) <;> conv => whnf) | ((with_reducible refine DOr.l ?_); (conv => whnf)) | ((with_reducible refine OwnOr.l ?_); (conv => whnf)) | (refine And.intro ?_ ?_; (focus (first | exact trivial | exact rfl | (first | exact hB | exact hB1 | exact hB2 | exact hB3 | exact hC | exact chainI hB | assumption) | (refine chainI ?_; (first | (first | exact hB | exact hB1 | exact hB2 | exact hB3 | exact hC | exact chainI hB | assumption) | decide | omega | (refine And.intro ?_ ?_ <;> first | omega | (simp; omega)) | (simp only [IntKind.wrap_i64]; first | omega | (refine And.intro ?_ ?_ <;> omega)))) | (intro _; (first | (first | exact hB | exact hB1 | exact hB2 | exact hB3 | exact hC | exact chainI hB | assumption) | decide | omega | (refine And.intro ?_ ?_ <;> first | omega | (simp; omega)) | (simp only [IntKind.wrap_i64]; first | omega | (refine And.intro ?_ ?_ <;> omega)))) | (intro _ _; (first | (first | exact hB | exact hB1 | exact hB2 | exact hB3 | exact hC | exact chainI hB | assumption) | decide | omega | (refine And.intro ?_ ?_ <;> first | omega | (simp; omega)) | (simp only [IntKind.wrap_i64]; first | omega | (refine And.intro ?_ ?_ <;> omega)))) | (first | decide | omega | (refine And.intro ?_ ?_ <;> first | omega | (simp; omega)) | (simp only [IntKind.wrap_i64]; first | omega | (refine And.intro ?_ ?_ <;> omega))) | ((conv => whnf); intros; (try simp only [decide_eq_true_eq, decide_eq_false_iff_not, Bool.and_eq_true, Bool.or_eq_true, Bool.and_eq_false_imp, Bool.or_eq_false_iff, Bool.not_eq_true', Bool.not_eq_false', beq_iff_eq, bne_iff_ne, ne_eq] at *); (first | (first | exact hB | exact hB1 | exact hB2 | exact hB3 | exact hC | exact chainI hB | assumption) | decide | omega | (refine And.intro ?_ ?_ <;> first | omega | (simp; omega)) | (simp only [IntKind.wrap_i64]; first | omega | (refine And.intro ?_ ?_ <;> omega)))))); conv => whnf) | (refine And.intro ?_ ?_; (focus (first | exact NoTag.int | exact NoTag.bool | exact NoTag.str | (refine NoTag.of_scalar ?_; rfl))); conv => whnf))
  refine loopI Nat (fun i => i ≤ N) (fun i => [(6, intA .i64 i)]) (fun i => [.box [.c (.v (.int .i64 N)), .own 1 1 0 i], .row 1 i (rBB N (grA N rows))]) (fun i => N - i) 0 (Nat.zero_le _) ?_ (fun _ => rfl) fun i hi => ?_
  · (refine And.intro ?_ (And.intro ?_ (And.intro ?_ rfl)) <;> (conv => whnf) <;> repeat' (first | exact trivial | exact LeE.of (Le.refl _) | exact LeE.nil rfl | (with_reducible refine LeE.of ?_) | (first | first | exact LeAs_c _ _ _ | exact leI e | exact eo | exact LeE.nil rfl | exact Le.refl _ | exact rfl | exact leI (by first | rfl | omega | (rw [wrap64 (by omega) (by omega)]; omega) | (rw [wrap64 (by omega) (by omega)]; done)) | exact LeCs.refl _ | exact fun i hi => LeCs.refl _ | exact leOwn (by first | rfl | omega)) | ((with_reducible refine And.intro ?_ ?_) <;> conv => whnf)))
  · have hi : i ≤ N := hi
    rcases Nat.lt_or_ge i N with hil | hil
    · have hB1 : (0 : Int) ≤ (i : Int) ∧ (i : Int) < (N : Int) := by omega
      have hB : (0 : Int) ≤ (N : Int) ∧ (N : Int) ≤ (N : Int) ∧ (N : Int) ≤ 140737488355328 ∧ (N : Int) * ((tb 4).bytes : Int) ≤ 140737488355328 := ⟨by omega, by omega, by omega, by show (N : Int) * 1 ≤ _; omega⟩
      conv => whnf
      repeat' (first | (refine And.intro (fun h => ?_) (fun h => ?_) <;> (first | (with_reducible have hd : _ < _ := of_decide_eq_true h) | (with_reducible have hd : _ ≤ _ := of_decide_eq_true h) | (with_reducible have hd : ¬ (_ < _) := of_decide_eq_false h) | (with_reducible have hd : ¬ (_ ≤ _) := of_decide_eq_false h) | skip) <;> (first | exact absurd h (by decide) | first | exact absurd hd hB1 | exact absurd hB2.2 hd | exact absurd hd hB2 | exact absurd hB.2 hd | exact absurd hB1.2 hd | (conv => whnf))) | ((with_reducible refine Both.mk ?_ ?_) <;> conv => whnf) | ((with_reducible refine DOr.l ?_); (conv => whnf)) | ((with_reducible refine OwnOr.l ?_); (conv => whnf)) | (refine And.intro ?_ ?_; (focus (first | exact trivial | exact rfl | (first | exact hB | exact hB1 | exact hB2 | exact hB3 | exact hC | exact chainI hB | assumption) | (refine chainI ?_; (first | (first | exact hB | exact hB1 | exact hB2 | exact hB3 | exact hC | exact chainI hB | assumption) | decide | omega | (refine And.intro ?_ ?_ <;> first | omega | (simp; omega)) | (simp only [IntKind.wrap_i64]; first | omega | (refine And.intro ?_ ?_ <;> omega)))) | (intro _; (first | (first | exact hB | exact hB1 | exact hB2 | exact hB3 | exact hC | exact chainI hB | assumption) | decide | omega | (refine And.intro ?_ ?_ <;> first | omega | (simp; omega)) | (simp only [IntKind.wrap_i64]; first | omega | (refine And.intro ?_ ?_ <;> omega)))) | (intro _ _; (first | (first | exact hB | exact hB1 | exact hB2 | exact hB3 | exact hC | exact chainI hB | assumption) | decide | omega | (refine And.intro ?_ ?_ <;> first | omega | (simp; omega)) | (simp only [IntKind.wrap_i64]; first | omega | (refine And.intro ?_ ?_ <;> omega)))) | (first | decide | omega | (refine And.intro ?_ ?_ <;> first | omega | (simp; omega)) | (simp only [IntKind.wrap_i64]; first | omega | (refine And.intro ?_ ?_ <;> omega))) | ((conv => whnf); intros; (try simp only [decide_eq_true_eq, decide_eq_false_iff_not, Bool.and_eq_true, Bool.or_eq_true, Bool.and_eq_false_imp, Bool.or_eq_false_iff, Bool.not_eq_true', Bool.not_eq_false', beq_iff_eq, bne_iff_ne, ne_eq] at *); (first | (first | exact hB | exact hB1 | exact hB2 | exact hB3 | exact hC | exact chainI hB | assumption) | decide | omega | (refine And.intro ?_ ?_ <;> first | omega | (simp; omega)) | (simp only [IntKind.wrap_i64]; first | omega | (refine And.intro ?_ ?_ <;> omega)))))); conv => whnf) | (refine And.intro ?_ ?_; (focus (first | exact NoTag.int | exact NoTag.bool | exact NoTag.str | (refine NoTag.of_scalar ?_; rfl))); conv => whnf))
      refine loopI Nat (fun j => j ≤ (rows.getD i []).length) (fun j => [(8, intA .i64 j)]) (fun j => [.box [.c (.v (.int .i64 N)), .own 1 1 0 i], .row 1 i (rBB N (grA N rows)), .row 1 N (rB (rP N ((rows.getD i []).take j)))]) (fun j => (rows.getD i []).length - j) 0 (Nat.zero_le _) ?_ (fun _ => rfl) fun j hj => ?_
      · (refine And.intro ?_ (And.intro ?_ (And.intro ?_ rfl)) <;> (conv => whnf) <;> repeat' (first | exact trivial | exact LeE.of (Le.refl _) | exact LeE.nil rfl | (with_reducible refine LeE.of ?_) | (first | first | exact LeAs_c _ _ _ | exact leI e | exact eo | exact LeE.nil rfl | exact Le.refl _ | exact rfl | exact leI (by first | rfl | omega | (rw [wrap64 (by omega) (by omega)]; omega) | (rw [wrap64 (by omega) (by omega)]; done)) | exact LeCs.refl _ | exact fun i hi => LeCs.refl _ | exact leOwn (by first | rfl | omega)) | ((with_reducible refine And.intro ?_ ?_) <;> conv => whnf)))
        exact fun q hq => LeCs.of_eq (by show [C.v (.bool false)] = rB (rP N []) q; unfold rB rP; simp)
      · have hj : j ≤ (rows.getD i []).length := hj
        rcases Nat.lt_or_ge j (rows.getD i []).length with hjl | hjl
        · have hil2 : i < rows.length := by
            rcases Nat.lt_or_ge i rows.length with h | h
            · exact h
            · rw [List.getD_eq_getElem?_getD, List.getElem?_eq_none h] at hjl
              exact absurd hjl (Nat.not_lt_zero _)
          have hlen : (rows.getD i []).length ≤ 140737488355328 := by
            have := hb2.2.2 i hil2
            rw [hf i] at this
            exact this.1.1
          have hB2 : (0 : Int) ≤ (j : Int) ∧ (j : Int) < ((rows.getD i []).length : Int) := by omega
          have hC : (0 : Int) ≤ (i : Int) ∧ (i : Int) < (rows.length : Int) := by omega
          have ef : f (i : Int).toNat = [.sl (tg i) 1 (rows.getD i []).length (rX (rows.getD i []))] := hf i
          have et := take_snocD 0 (rows.getD i []) j hjl
          have hg : (decide ((i : Int) < (rows.length : Int))) = true := by simp; omega
          conv => whnf
          repeat' (first | (rw [ef]; conv => whnf) | (refine And.intro (fun h => ?_) (fun h => ?_) <;> (first | (with_reducible have hd : _ < _ := of_decide_eq_true h) | (with_reducible have hd : _ ≤ _ := of_decide_eq_true h) | (with_reducible have hd : ¬ (_ < _) := of_decide_eq_false h) | (with_reducible have hd : ¬ (_ ≤ _) := of_decide_eq_false h) | skip) <;> (first | exact absurd h (by decide) | first | exact absurd hd hB1 | exact absurd hB2.2 hd | exact absurd hd hB2 | exact absurd hB.2 hd | exact absurd hB1.2 hd | (conv => whnf))) | ((with_reducible refine Both.mk ?_ ?_) <;> conv => whnf) | ((with_reducible refine DOr.l ?_); (conv => whnf)) | ((with_reducible refine OwnOr.l ?_); (conv => whnf)) | (refine And.intro ?_ ?_; (focus (first | exact trivial | exact rfl | (first | exact hB | exact hB1 | exact hB2 | exact hB3 | exact hC | exact chainI hB | assumption) | (refine chainI ?_; (first | (first | exact hB | exact hB1 | exact hB2 | exact hB3 | exact hC | exact chainI hB | assumption) | decide | omega | (refine And.intro ?_ ?_ <;> first | omega | (simp; omega)) | (simp only [IntKind.wrap_i64]; first | omega | (refine And.intro ?_ ?_ <;> omega)))) | (intro _; (first | (first | exact hB | exact hB1 | exact hB2 | exact hB3 | exact hC | exact chainI hB | assumption) | decide | omega | (refine And.intro ?_ ?_ <;> first | omega | (simp; omega)) | (simp only [IntKind.wrap_i64]; first | omega | (refine And.intro ?_ ?_ <;> omega)))) | (intro _ _; (first | (first | exact hB | exact hB1 | exact hB2 | exact hB3 | exact hC | exact chainI hB | assumption) | decide | omega | (refine And.intro ?_ ?_ <;> first | omega | (simp; omega)) | (simp only [IntKind.wrap_i64]; first | omega | (refine And.intro ?_ ?_ <;> omega)))) | (first | decide | omega | (refine And.intro ?_ ?_ <;> first | omega | (simp; omega)) | (simp only [IntKind.wrap_i64]; first | omega | (refine And.intro ?_ ?_ <;> omega))) | ((conv => whnf); intros; (try simp only [decide_eq_true_eq, decide_eq_false_iff_not, Bool.and_eq_true, Bool.or_eq_true, Bool.and_eq_false_imp, Bool.or_eq_false_iff, Bool.not_eq_true', Bool.not_eq_false', beq_iff_eq, bne_iff_ne, ne_eq] at *); (first | (first | exact hB | exact hB1 | exact hB2 | exact hB3 | exact hC | exact chainI hB | assumption) | decide | omega | (refine And.intro ?_ ?_ <;> first | omega | (simp; omega)) | (simp only [IntKind.wrap_i64]; first | omega | (refine And.intro ?_ ?_ <;> omega)))))); conv => whnf) | (refine And.intro ?_ ?_; (focus (first | exact NoTag.int | exact NoTag.bool | exact NoTag.str | (refine NoTag.of_scalar ?_; rfl))); conv => whnf))
          · have hx : 0 ≤ (rows.getD i []).getD j 0 ∧ (rows.getD i []).getD j 0 < (N : Int) := by
              replace h : (decide ((rows.getD i []).getD j 0 ≥ 0) && decide ((rows.getD i []).getD j 0 < (N : Int))) = true := h
              simpa only [Bool.and_eq_true, decide_eq_true_eq] using h
            obtain ⟨k, hk⟩ : ∃ k : Nat, (rows.getD i []).getD j 0 = (k : Int) := ⟨_, (Int.toNat_of_nonneg hx.1).symm⟩
            have hkN : k < N := by omega
            have ek : 0 + ((rows.getD i []).getD (j : Int).toNat 0).toNat = k := by
              rw [show (rows.getD i []).getD (j : Int).toNat 0 = (k : Int) from hk]; omega
            rw [hk] at et
            refine ⟨j + 1, hjl, ?_, by show (rows.getD i []).length - (j + 1) < (rows.getD i []).length - j; omega⟩
            rw [ek, et]
            (refine And.intro ?_ (And.intro ?_ (And.intro ?_ rfl)) <;> (conv => whnf) <;> repeat' (first | exact trivial | exact LeE.of (Le.refl _) | exact LeE.nil rfl | (with_reducible refine LeE.of ?_) | (first | first | exact LeAs_c _ _ _ | exact leI e | exact eo | exact LeE.nil rfl | exact Le.refl _ | exact rfl | exact leI (by first | rfl | omega | (rw [wrap64 (by omega) (by omega)]; omega) | (rw [wrap64 (by omega) (by omega)]; done)) | exact LeCs.refl _ | exact fun i hi => LeCs.refl _ | exact leOwn (by first | rfl | omega)) | ((with_reducible refine And.intro ?_ ?_) <;> conv => whnf)))
            exact fun q hq => LeCs.of_eq (rP_yes hkN q)
          · have hx : ¬ (0 ≤ (rows.getD i []).getD j 0 ∧ (rows.getD i []).getD j 0 < (N : Int)) := fun hh => by
              have h2 : (decide ((rows.getD i []).getD j 0 ≥ 0) && decide ((rows.getD i []).getD j 0 < (N : Int))) = true := by
                simpa only [Bool.and_eq_true, decide_eq_true_eq] using hh
              exact absurd (h.symm.trans h2) Bool.false_ne_true
            refine ⟨j + 1, hjl, ?_, by show (rows.getD i []).length - (j + 1) < (rows.getD i []).length - j; omega⟩
            rw [et, rP_no hx]
            (refine And.intro ?_ (And.intro ?_ (And.intro ?_ rfl)) <;> (conv => whnf) <;> repeat' (first | exact trivial | exact LeE.of (Le.refl _) | exact LeE.nil rfl | (with_reducible refine LeE.of ?_) | (first | first | exact LeAs_c _ _ _ | exact leI e | exact eo | exact LeE.nil rfl | exact Le.refl _ | exact rfl | exact leI (by first | rfl | omega | (rw [wrap64 (by omega) (by omega)]; omega) | (rw [wrap64 (by omega) (by omega)]; done)) | exact LeCs.refl _ | exact fun i hi => LeCs.refl _ | exact leOwn (by first | rfl | omega)) | ((with_reducible refine And.intro ?_ ?_) <;> conv => whnf)))
          · have h2 : (decide ((i : Int) < (rows.length : Int)) && decide ((j : Int) < ((rows.getD i []).length : Int))) = true := by simp only [Bool.and_eq_true, decide_eq_true_eq]; omega
            exact absurd (h.symm.trans h2) Bool.false_ne_true
        · have hjl : j = (rows.getD i []).length := by omega
          have ef : f (i : Int).toNat = [.sl (tg i) 1 (rows.getD i []).length (rX (rows.getD i []))] := hf i
          have hq : rP N ((rows.getD i []).take j) = grA N rows i := by rw [hjl, List.take_length, rP_all hil]
          have hC : (i + 1) * (tb 57).bytes ≤ 140737488355328 := by show (i + 1) * 24 ≤ _; omega
          have hnj : ¬ ((decide ((i : Int) < (rows.length : Int)) && decide ((j : Int) < ((rows.getD i []).length : Int))) = true) := by simp only [Bool.and_eq_true, decide_eq_true_eq]; omega
          rw [hq]
          conv => whnf
          repeat' (first | (rw [ef]; conv => whnf) | (refine And.intro (fun h => ?_) (fun h => ?_) <;> (first | (with_reducible have hd : _ < _ := of_decide_eq_true h) | (with_reducible have hd : _ ≤ _ := of_decide_eq_true h) | (with_reducible have hd : ¬ (_ < _) := of_decide_eq_false h) | (with_reducible have hd : ¬ (_ ≤ _) := of_decide_eq_false h) | skip) <;> (first | exact absurd h (by decide) | first | exact absurd hd hB1 | exact absurd hB2.2 hd | exact absurd hd hB2 | exact absurd hB.2 hd | exact absurd hB1.2 hd | (conv => whnf))) | ((with_reducible refine Both.mk ?_ ?_) <;> conv => whnf) | ((with_reducible refine DOr.l ?_); (conv => whnf)) | ((with_reducible refine OwnOr.l ?_); (conv => whnf)) | (refine And.intro ?_ ?_; (focus (first | exact trivial | exact rfl | (first | exact hB | exact hB1 | exact hB2 | exact hB3 | exact hC | exact chainI hB | assumption) | (refine chainI ?_; (first | (first | exact hB | exact hB1 | exact hB2 | exact hB3 | exact hC | exact chainI hB | assumption) | decide | omega | (refine And.intro ?_ ?_ <;> first | omega | (simp; omega)) | (simp only [IntKind.wrap_i64]; first | omega | (refine And.intro ?_ ?_ <;> omega)))) | (intro _; (first | (first | exact hB | exact hB1 | exact hB2 | exact hB3 | exact hC | exact chainI hB | assumption) | decide | omega | (refine And.intro ?_ ?_ <;> first | omega | (simp; omega)) | (simp only [IntKind.wrap_i64]; first | omega | (refine And.intro ?_ ?_ <;> omega)))) | (intro _ _; (first | (first | exact hB | exact hB1 | exact hB2 | exact hB3 | exact hC | exact chainI hB | assumption) | decide | omega | (refine And.intro ?_ ?_ <;> first | omega | (simp; omega)) | (simp only [IntKind.wrap_i64]; first | omega | (refine And.intro ?_ ?_ <;> omega)))) | (first | decide | omega | (refine And.intro ?_ ?_ <;> first | omega | (simp; omega)) | (simp only [IntKind.wrap_i64]; first | omega | (refine And.intro ?_ ?_ <;> omega))) | ((conv => whnf); intros; (try simp only [decide_eq_true_eq, decide_eq_false_iff_not, Bool.and_eq_true, Bool.or_eq_true, Bool.and_eq_false_imp, Bool.or_eq_false_iff, Bool.not_eq_true', Bool.not_eq_false', beq_iff_eq, bne_iff_ne, ne_eq] at *); (first | (first | exact hB | exact hB1 | exact hB2 | exact hB3 | exact hC | exact chainI hB | assumption) | decide | omega | (refine And.intro ?_ ?_ <;> first | omega | (simp; omega)) | (simp only [IntKind.wrap_i64]; first | omega | (refine And.intro ?_ ?_ <;> omega)))))); conv => whnf) | (refine And.intro ?_ ?_; (focus (first | exact NoTag.int | exact NoTag.bool | exact NoTag.str | (refine NoTag.of_scalar ?_; rfl))); conv => whnf))
          · exact (hnj (by assumption)).elim
          · exact (hnj (by assumption)).elim
          · refine ⟨i + 1, hil, ?_, by show N - (i + 1) < N - i; omega⟩
            have e2 : (fun q => rB (grA N rows i) (0 + q)) = rB (grA N rows i) := funext fun q => by rw [Nat.zero_add]
            rw [e2]
            (refine And.intro ?_ (And.intro ?_ (And.intro ?_ rfl)) <;> (conv => whnf) <;> repeat' (first | exact trivial | exact LeE.of (Le.refl _) | exact LeE.nil rfl | (with_reducible refine LeE.of ?_) | (first | first | exact LeAs_c _ _ _ | exact leI e | exact eo | exact LeE.nil rfl | exact Le.refl _ | exact rfl | exact leI (by first | rfl | omega | (rw [wrap64 (by omega) (by omega)]; omega) | (rw [wrap64 (by omega) (by omega)]; done)) | exact LeCs.refl _ | exact fun i hi => LeCs.refl _ | exact leOwn (by first | rfl | omega)) | ((with_reducible refine And.intro ?_ ?_) <;> conv => whnf)))
            exact fun q hq => LeCs.of_eq (rBB_snoc hq)
    · have hiN : i = N := by omega
      have hB1 : ¬ ((i : Int) < (N : Int)) := by omega
      rw [show AO.row 1 i (rBB N (grA N rows)) = .row 1 N (rBB N (grA N rows)) by rw [hiN], show AV.own 1 1 0 i = .own 1 1 0 N by rw [hiN]]
      conv => whnf
      repeat' (first | (refine And.intro (fun h => ?_) (fun h => ?_) <;> (first | (with_reducible have hd : _ < _ := of_decide_eq_true h) | (with_reducible have hd : _ ≤ _ := of_decide_eq_true h) | (with_reducible have hd : ¬ (_ < _) := of_decide_eq_false h) | (with_reducible have hd : ¬ (_ ≤ _) := of_decide_eq_false h) | skip) <;> (first | exact absurd h (by decide) | first | exact absurd hd hB1 | exact absurd hB2.2 hd | exact absurd hd hB2 | exact absurd hB.2 hd | exact absurd hB1.2 hd | (conv => whnf))) | ((with_reducible refine Both.mk ?_ ?_) <;> conv => whnf) | ((with_reducible refine DOr.l ?_); (conv => whnf)) | ((with_reducible refine OwnOr.l ?_); (conv => whnf)) | (refine And.intro ?_ ?_; (focus (first | exact trivial | exact rfl | (first | exact hB | exact hB1 | exact hB2 | exact hB3 | exact hC | exact chainI hB | assumption) | (refine chainI ?_; (first | (first | exact hB | exact hB1 | exact hB2 | exact hB3 | exact hC | exact chainI hB | assumption) | decide | omega | (refine And.intro ?_ ?_ <;> first | omega | (simp; omega)) | (simp only [IntKind.wrap_i64]; first | omega | (refine And.intro ?_ ?_ <;> omega)))) | (intro _; (first | (first | exact hB | exact hB1 | exact hB2 | exact hB3 | exact hC | exact chainI hB | assumption) | decide | omega | (refine And.intro ?_ ?_ <;> first | omega | (simp; omega)) | (simp only [IntKind.wrap_i64]; first | omega | (refine And.intro ?_ ?_ <;> omega)))) | (intro _ _; (first | (first | exact hB | exact hB1 | exact hB2 | exact hB3 | exact hC | exact chainI hB | assumption) | decide | omega | (refine And.intro ?_ ?_ <;> first | omega | (simp; omega)) | (simp only [IntKind.wrap_i64]; first | omega | (refine And.intro ?_ ?_ <;> omega)))) | (first | decide | omega | (refine And.intro ?_ ?_ <;> first | omega | (simp; omega)) | (simp only [IntKind.wrap_i64]; first | omega | (refine And.intro ?_ ?_ <;> omega))) | ((conv => whnf); intros; (try simp only [decide_eq_true_eq, decide_eq_false_iff_not, Bool.and_eq_true, Bool.or_eq_true, Bool.and_eq_false_imp, Bool.or_eq_false_iff, Bool.not_eq_true', Bool.not_eq_false', beq_iff_eq, bne_iff_ne, ne_eq] at *); (first | (first | exact hB | exact hB1 | exact hB2 | exact hB3 | exact hC | exact chainI hB | assumption) | decide | omega | (refine And.intro ?_ ?_ <;> first | omega | (simp; omega)) | (simp only [IntKind.wrap_i64]; first | omega | (refine And.intro ?_ ?_ <;> omega)))))); conv => whnf) | (refine And.intro ?_ ?_; (focus (first | exact NoTag.int | exact NoTag.bool | exact NoTag.str | (refine NoTag.of_scalar ?_; rfl))); conv => whnf))
      ((conv => whnf); repeat' (first | exact trivial | exact rfl | exact LeC.refl _ | exact LeC.nil rfl | exact LeC.emp rfl | exact LeCs.refl _ | exact (fun i hi => LeCs.refl _) | ((with_reducible refine And.intro ?_ ?_) <;> conv => whnf)))
      all_goals (intro S u h; simpa only [Nat.zero_add] using h)
theorem aRNew (t : Bool) (n : Int) (rows : List (List Int)) (tg : Nat → Bool) (f : Nat → List C) (hf : ∀ i, f i = [.sl (tg i) 1 (rows.getD i []).length (rX (rows.getD i []))]) :
    ACall Tryd.prog gl 17 [intA .i64 n, .c (.sl t 1 rows.length f)] [] (.sp false [.v (.int .i64 (clN n)), .sl false 1 (clN n) (rBB (clN n) (grA (clN n) rows))] 0) :=
  ACall.of_gcall_box (cs := [.v (.int .i64 (clN n)), .sl false 1 (clN n) (rBB (clN n) (grA (clN n) rows))]) (gRNew t n rows tg f hf)
end Go.Proofs.YtbddpnohacjjfaaDoor
