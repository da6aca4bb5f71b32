/- Contracts of functions of the program, and the laws that stand on them: what each function answers, whatever its arguments. -/
import Derived.Test.YteidfcaciadgpaaDoorW8
set_option linter.unusedSectionVars false
set_option linter.unnecessarySimpa false
namespace Go.Proofs.YteidfcaciadgpaaDoor
set_option linter.unusedSimpArgs false
set_option linter.unusedVariables false
set_option maxRecDepth 100000
set_option maxHeartbeats 8000000
open Go Go.VA
theorem wG_used {s : ByteArray} (hs : s.size ≤ 140737488355328) (h : (wGet s).2.2 = 0) : 40 ≤ (wGet s).2.1 ∧ (wGet s).2.1 ≤ s.size := by
  have hl := be4_lt s
  by_cases h1 : decide ((s.size : Int) < 40) = true
  · unfold wGet at h; rw [if_pos h1] at h; exact absurd h (by decide)
  by_cases h2 : (!preB s) = true
  · unfold wGet at h; rw [if_neg h1, if_pos h2] at h; exact absurd h (by decide)
  by_cases h3 : decide (IntKind.u64.wrap ((s.size - (40 : Int).toNat : Nat) : Int) < (be4 s : Int)) = true
  · unfold wGet at h; rw [if_neg h1, if_neg h2, if_pos h3] at h; exact absurd h (by decide)
  by_cases h4 : (!sumB s (wX s)) = true
  · unfold wGet at h; rw [if_neg h1, if_neg h2, if_neg h3, if_pos h4] at h; exact absurd h (by decide)
  by_cases h5 : (!(wIn (wX s)).2) = true
  · unfold wGet at h; rw [if_neg h1, if_neg h2, if_neg h3, if_neg h4, if_pos h5] at h; exact absurd h (by decide)
  have e : wGet s = ((wIn (wX s)).1, 40 + (be4 s : Int), 0) := by unfold wGet; rw [if_neg h1, if_neg h2, if_neg h3, if_neg h4, if_neg h5]
  rw [e]
  have : (40 : Int).toNat = 40 := rfl
  simp only [decide_eq_true_eq] at h1 h3
  rw [this, wrapU (by omega) (by omega)] at h3
  show 40 ≤ 40 + (be4 s : Int) ∧ 40 + (be4 s : Int) ≤ s.size
  omega
def tlS (s : ByteArray) (a : Nat) : ByteArray := subS s a (s.size - a)
def allG (s : ByteArray) : Nat → Nat → List It × Nat
  | 0, a => ([], a)
  | m + 1, a => if (wGet (tlS s a)).2.2 != 0 then ([], a) else ((wGet (tlS s a)).1 :: (allG s m (a + (wGet (tlS s a)).2.1.toNat)).1, (allG s m (a + (wGet (tlS s a)).2.1.toNat)).2)
def allS (s : ByteArray) : List It × Nat := allG s (s.size + 1) 0
def rI (l : List It) : Nat → List C := rowE cIt it0 l
theorem aWGetS (t : Bool) (s : ByteArray) (a : Nat) : ACall Tryd.prog gl 12 [.c (.sl t 1 (s.size - a) (fun i => strCells s (a + i)))] [] (.tup [.ag (cIt (wGet (tlS s a)).1), intA .i64 (wGet (tlS s a)).2.1, intA .i64 (wGet (tlS s a)).2.2]) :=
  (aWGet t (tlS s a)).le ⟨leSl (sub_size s a _).symm (fun i hi => (sub_cells s a _ i (by rwa [tlS, sub_size] at hi)).symm), trivial⟩
theorem aAll (t : Bool) (s : ByteArray) (hs : s.size ≤ 1099511627776) : ACall Tryd.prog gl 19 [.c (.sl t 1 s.size (strCells s))] [] (.tup [.c (.sl false 8 (allS s).1.length (rI (allS s).1)), intA .i64 (allS s).2]) := by
  refine acall_of_vc htb hmix (f := 19) rfl rfl rfl (by kernel_rfl) rfl rfl ?_; conv => whnf
  repeat' (first | fail)
  refine loopI (List It × Nat × Nat) (fun p => s.size < p.2.1 + p.2.2 ∧ p.2.1 ≤ s.size ∧ 40 * p.1.length ≤ p.2.1 ∧ p.1 ++ (allG s p.2.2 p.2.1).1 = (allS s).1 ∧ (allG s p.2.2 p.2.1).2 = (allS s).2) (fun p => [(2, .own 0 8 0 p.1.length), (3, intA .i64 p.2.1)]) (fun p => [.row 8 p.1.length (rI p.1)]) (fun p => p.2.2) ([], 0, s.size + 1) ⟨by show s.size < 0 + (s.size + 1); omega, Nat.zero_le _, by simp, rfl, rfl⟩ ?_ (fun _ => rfl) fun ⟨pre, a, m⟩ ⟨h1, h2, h3, h4, h5⟩ => ?_
  · (refine And.intro ?_ (And.intro ?_ (And.intro ?_ rfl)) <;> (conv => whnf) <;> repeat' (first | exact trivial | exact LeE.of (Le.refl _) | exact LeE.nil rfl | (with_reducible refine LeE.of ?_) | (first | first | exact leI hW | exact leOwn hL | exact Le.refl _ | exact rfl | exact leI (by first | rfl | omega | (rw [wrap64 (by omega) (by omega)]; omega) | (rw [wrap64 (by omega) (by omega)]; done)) | exact LeCs.refl _ | exact fun i hi => LeCs.refl _ | exact leOwn (by first | rfl | omega)) | ((with_reducible refine And.intro ?_ ?_) <;> conv => whnf)))
    exact fun i hi => absurd hi (Nat.not_lt_zero _)
  · have h1 : s.size < a + m := h1
    have h2 : a ≤ s.size := h2
    have h3 : 40 * pre.length ≤ a := h3
    have h4 : pre ++ (allG s m a).1 = (allS s).1 := h4
    have h5 : (allG s m a).2 = (allS s).2 := h5
    obtain ⟨m, rfl⟩ : ∃ k, m = k + 1 := ⟨m - 1, by omega⟩
    have hB : (0 : Int) ≤ (a : Int) ∧ (a : Int) ≤ s.size := by omega
    have hC : (pre.length + 1) * (tb 30).bytes ≤ 140737488355328 := by show (pre.length + 1) * 88 ≤ _; omega
    have G := aWGetS t s a
    conv => whnf
    repeat' (first | (refine Exists.intro _ (And.intro (G) ?_); conv => whnf) | (refine And.intro (fun h => ?_) (fun h => ?_) <;> (first | (with_reducible have hd : _ < _ := of_decide_eq_true h) | (with_reducible have hd : _ ≤ _ := of_decide_eq_true h) | (with_reducible have hd : ¬ (_ < _) := of_decide_eq_false h) | (with_reducible have hd : ¬ (_ ≤ _) := of_decide_eq_false h) | skip) <;> (first | exact absurd h (by decide) | (conv => whnf))) | ((with_reducible refine OwnOr.l ?_); (conv => whnf)) | (refine And.intro ?_ ?_; (focus (first | exact trivial | exact rfl | (first | exact seT | exact u64nn _ | exact hB | exact hC | assumption) | (refine chainI ?_; (first | (first | exact seT | exact u64nn _ | exact hB | exact hC | assumption) | decide | omega | (refine And.intro ?_ ?_ <;> first | omega | (simp; omega)) | (simp only [IntKind.wrap_i64]; first | omega | (refine And.intro ?_ ?_ <;> omega)))) | (intro _; (first | (first | exact seT | exact u64nn _ | exact hB | exact hC | assumption) | decide | omega | (refine And.intro ?_ ?_ <;> first | omega | (simp; omega)) | (simp only [IntKind.wrap_i64]; first | omega | (refine And.intro ?_ ?_ <;> omega)))) | (intro _ _; (first | (first | exact seT | exact u64nn _ | exact hB | exact hC | assumption) | decide | omega | (refine And.intro ?_ ?_ <;> first | omega | (simp; omega)) | (simp only [IntKind.wrap_i64]; first | omega | (refine And.intro ?_ ?_ <;> omega)))) | (first | decide | omega | (refine And.intro ?_ ?_ <;> first | omega | (simp; omega)) | (simp only [IntKind.wrap_i64]; first | omega | (refine And.intro ?_ ?_ <;> omega))) | ((conv => whnf); intros; (try simp only [decide_eq_true_eq, decide_eq_false_iff_not, Bool.and_eq_true, Bool.or_eq_true, Bool.and_eq_false_imp, Bool.or_eq_false_iff, Bool.not_eq_true', Bool.not_eq_false', beq_iff_eq, bne_iff_ne, ne_eq] at *); (first | (first | exact seT | exact u64nn _ | exact hB | exact hC | assumption) | decide | omega | (refine And.intro ?_ ?_ <;> first | omega | (simp; omega)) | (simp only [IntKind.wrap_i64]; first | omega | (refine And.intro ?_ ?_ <;> omega)))))); conv => whnf) | ((with_reducible refine xc_pure ?_); conv => whnf))
    · have e : allG s (m + 1) a = ([], a) := by simp only [allG]; rw [if_pos h]
      rw [e] at h4 h5
      simp only [List.append_nil] at h4
      rw [← h4, ← h5]
      refine leTup2 (leSl rfl (fun i hi => by rw [Nat.zero_add])) (Le.refl _)
    · have hz : (wGet (tlS s a)).2.2 = 0 := by simpa using h
      have hsz : (tlS s a).size = s.size - a := sub_size s a _
      have hu := wG_used (by rw [hsz]; omega) hz
      rw [hsz] at hu
      have e : allG s (m + 1) a = ((wGet (tlS s a)).1 :: (allG s m (a + (wGet (tlS s a)).2.1.toNat)).1, (allG s m (a + (wGet (tlS s a)).2.1.toNat)).2) := by simp only [allG]; rw [h, if_neg (by decide)]
      rw [e] at h4 h5
      have hL : pre.length + 1 = (pre ++ [(wGet (tlS s a)).1]).length := by simp
      have hW : IntKind.i64.wrap ((a : Int) + (wGet (tlS s a)).2.1) = ((a + (wGet (tlS s a)).2.1.toNat : Nat) : Int) := by rw [wrap64 (by omega) (by omega)]; omega
      refine ⟨(pre ++ [(wGet (tlS s a)).1], a + (wGet (tlS s a)).2.1.toNat, m), ⟨by show s.size < _ + _ + m; omega, by show _ + _ ≤ s.size; omega, by simp; omega, by simpa using h4, h5⟩, ?_, by show m < m + 1; omega⟩
      (refine And.intro ?_ (And.intro ?_ (And.intro ?_ rfl)) <;> (conv => whnf) <;> repeat' (first | exact trivial | exact LeE.of (Le.refl _) | exact LeE.nil rfl | (with_reducible refine LeE.of ?_) | (first | first | exact leI hW | exact leOwn hL | exact Le.refl _ | exact rfl | exact leI (by first | rfl | omega | (rw [wrap64 (by omega) (by omega)]; omega) | (rw [wrap64 (by omega) (by omega)]; done)) | exact LeCs.refl _ | exact fun i hi => LeCs.refl _ | exact leOwn (by first | rfl | omega)) | ((with_reducible refine And.intro ?_ ?_) <;> conv => whnf)))
      all_goals first
        | exact hL
        | exact fun i hi => LeCs.of_eq (rowE_snoc (enc := cIt) (d := it0) pre (wGet (tlS s a)).1 pre.length rfl i (by simpa using hi))
end Go.Proofs.YteidfcaciadgpaaDoor
