/- Contracts of functions of the program, and the laws that stand on them: what each function answers, whatever its arguments. -/
import Derived.Test.YtdjoopegddnpkaaC3
set_option linter.unusedSectionVars false
set_option linter.unnecessarySimpa false
namespace Go.Proofs.Ytdjoopegddnpkaa
set_option linter.unusedSimpArgs false
set_option linter.unusedVariables false
set_option maxRecDepth 100000
open Go Go.VA
/-- the document's: the same by sums -/
def gR (s : ByteArray) (k : Nat) : Nat → Nat → Int → Int → Int × Int × Int
  | 0, _, _, _ => (0, 0, 2)
  | m + 1, i, acc, u =>
    if ((i : Int) == 9 && decide (byteN s (k + i) > 1)) then (0, 0, 4)
    else if decide (byteN s (k + i) < 128) then (if (byteN s (k + i) == 0 && decide ((i : Int) > 0)) then (0, 0, 4) else (IntKind.u64.wrap (acc + IntKind.u64.wrap (IntKind.u64.wrap ((byteN s (k + i)).tmod 128) * u)), (i : Int) + 1, 0))
    else gR s k m (i + 1) (IntKind.u64.wrap (acc + IntKind.u64.wrap (IntKind.u64.wrap ((byteN s (k + i)).tmod 128) * u))) (IntKind.u64.wrap (u * 128))
theorem aGetShortR (t : Bool) (n : Nat) (s : ByteArray) (k : Nat) : ACall Try.prog gl 32 [.c (.sl t 1 n (fun i => strCells s (k + i)))] [] (gT (gR s k (min n 10) 0 0 1)) := by
  refine acall_of_vcb htb hmix (f := 32) rfl rfl rfl (by kernel_rfl) rfl rfl fun hb => ?_; simp only [bndAll, AV.bnd, bnds, C.bnd, cVt, cS, true_and, and_true] at hb; conv => whnf
  have hn : n ≤ 140737488355328 := hb.1
  repeat' (first | (refine And.intro (fun h => ?_) (fun h => ?_) <;> (first | (with_reducible have hd : _ < _ := of_decide_eq_true h) | (with_reducible have hd : _ ≤ _ := of_decide_eq_true h) | (with_reducible have hd : ¬ (_ < _) := of_decide_eq_false h) | (with_reducible have hd : ¬ (_ ≤ _) := of_decide_eq_false h) | skip) <;> conv => whnf) | ((with_reducible refine Both.mk ?_ ?_) <;> conv => whnf) | ((with_reducible refine DOr.l ?_); (conv => whnf)) | ((with_reducible apply Drawn.one); conv => whnf) | ((with_reducible refine Then.mk' ?_); conv => whnf) | (first | exact RefS.self rfl | ((with_reducible refine RefS.mk ?_ ?_); (focus (refine And.intro ?_ (And.intro ?_ (And.intro ?_ rfl)) <;> (conv => whnf) <;> repeat' (first | exact trivial | exact LeE.of (Le.refl _) | exact LeE.nil rfl | (with_reducible refine LeE.of ?_) | (first | exact Le.refl _ | exact rfl | exact leI (by first | rfl | omega | (rw [wrap64 (by omega) (by omega)]; omega) | (rw [wrap64 (by omega) (by omega)]; done)) | exact LeCs.refl _ | exact fun i hi => LeCs.refl _ | exact leOwn (by first | rfl | omega)) | ((with_reducible refine And.intro ?_ ?_) <;> conv => whnf)))); exact rfl)) | (refine And.intro ?_ ?_; (focus (first | exact trivial | exact rfl | (first | exact seT | exact u64nn _ | assumption) | (refine chainI ?_; (first | (first | exact seT | exact u64nn _ | assumption) | decide | omega | (refine And.intro ?_ ?_ <;> first | omega | (simp; omega)) | (simp only [IntKind.wrap_i64]; first | omega | (refine And.intro ?_ ?_ <;> omega)))) | (intro _; (first | (first | exact seT | exact u64nn _ | assumption) | decide | omega | (refine And.intro ?_ ?_ <;> first | omega | (simp; omega)) | (simp only [IntKind.wrap_i64]; first | omega | (refine And.intro ?_ ?_ <;> omega)))) | (intro _ _; (first | (first | exact seT | exact u64nn _ | assumption) | decide | omega | (refine And.intro ?_ ?_ <;> first | omega | (simp; omega)) | (simp only [IntKind.wrap_i64]; first | omega | (refine And.intro ?_ ?_ <;> omega)))) | (first | (first | exact seT | exact u64nn _ | assumption) | decide | omega | (refine And.intro ?_ ?_ <;> first | omega | (simp; omega)) | (simp only [IntKind.wrap_i64]; first | omega | (refine And.intro ?_ ?_ <;> omega))) | ((conv => whnf); intros; (try simp only [decide_eq_true_eq, decide_eq_false_iff_not, Bool.and_eq_true, Bool.or_eq_true, Bool.and_eq_false_imp, Bool.or_eq_false_iff, Bool.not_eq_true', Bool.not_eq_false', beq_iff_eq, bne_iff_ne, ne_eq] at *); (first | (first | exact seT | exact u64nn _ | assumption) | decide | omega | (refine And.intro ?_ ?_ <;> first | omega | (simp; omega)) | (simp only [IntKind.wrap_i64]; first | omega | (refine And.intro ?_ ?_ <;> omega)))))); conv => whnf) | (refine And.intro ?_ ?_; (focus (first | exact NoTag.int | exact NoTag.bool | exact NoTag.str | (refine NoTag.of_scalar ?_; rfl))); conv => whnf))
  refine loopI (Nat × Int × Int) (fun p => p.1 ≤ min n 10 ∧ gR s k (min n 10 - p.1) p.1 p.2.1 p.2.2 = gR s k (min n 10) 0 0 1) (fun p => [(7, intA .i64 p.1), (5, intA .u64 p.2.1), (6, intA .u64 p.2.2), (2, intA .u64 0), (3, intA .i64 0), (4, intA .i64 0)]) (fun _ => []) (fun p => min n 10 - p.1) (0, 0, 1) ⟨Nat.zero_le _, rfl⟩ ?_ (fun _ => rfl) fun ⟨i, acc, u⟩ ⟨hi, hR⟩ => ?_
  · (refine And.intro ?_ (And.intro ?_ (And.intro ?_ rfl)) <;> (conv => whnf) <;> repeat' (first | exact trivial | exact LeE.of (Le.refl _) | exact LeE.nil rfl | (with_reducible refine LeE.of ?_) | (first | exact Le.refl _ | exact rfl | exact leI (by first | rfl | omega | (rw [wrap64 (by omega) (by omega)]; omega) | (rw [wrap64 (by omega) (by omega)]; done)) | exact LeCs.refl _ | exact fun i hi => LeCs.refl _ | exact leOwn (by first | rfl | omega)) | ((with_reducible refine And.intro ?_ ?_) <;> conv => whnf)))
  · change i ≤ min n 10 at hi
    change gR s k (min n 10 - i) i acc u = _ at hR
    conv => whnf
    repeat' (first | (refine And.intro (fun h => ?_) (fun h => ?_) <;> (first | (with_reducible have hd : _ < _ := of_decide_eq_true h) | (with_reducible have hd : _ ≤ _ := of_decide_eq_true h) | (with_reducible have hd : ¬ (_ < _) := of_decide_eq_false h) | (with_reducible have hd : ¬ (_ ≤ _) := of_decide_eq_false h) | skip) <;> conv => whnf) | ((with_reducible refine Both.mk ?_ ?_) <;> conv => whnf) | ((with_reducible refine DOr.l ?_); (conv => whnf)) | ((with_reducible apply Drawn.one); conv => whnf) | ((with_reducible refine Then.mk' ?_); conv => whnf) | (first | exact RefS.self rfl | ((with_reducible refine RefS.mk ?_ ?_); (focus (refine And.intro ?_ (And.intro ?_ (And.intro ?_ rfl)) <;> (conv => whnf) <;> repeat' (first | exact trivial | exact LeE.of (Le.refl _) | exact LeE.nil rfl | (with_reducible refine LeE.of ?_) | (first | exact Le.refl _ | exact rfl | exact leI (by first | rfl | omega | (rw [wrap64 (by omega) (by omega)]; omega) | (rw [wrap64 (by omega) (by omega)]; done)) | exact LeCs.refl _ | exact fun i hi => LeCs.refl _ | exact leOwn (by first | rfl | omega)) | ((with_reducible refine And.intro ?_ ?_) <;> conv => whnf)))); exact rfl)) | (refine And.intro ?_ ?_; (focus (first | exact trivial | exact rfl | (first | exact seT | exact u64nn _ | assumption) | (refine chainI ?_; (first | (first | exact seT | exact u64nn _ | assumption) | decide | omega | (refine And.intro ?_ ?_ <;> first | omega | (simp; omega)) | (simp only [IntKind.wrap_i64]; first | omega | (refine And.intro ?_ ?_ <;> omega)))) | (intro _; (first | (first | exact seT | exact u64nn _ | assumption) | decide | omega | (refine And.intro ?_ ?_ <;> first | omega | (simp; omega)) | (simp only [IntKind.wrap_i64]; first | omega | (refine And.intro ?_ ?_ <;> omega)))) | (intro _ _; (first | (first | exact seT | exact u64nn _ | assumption) | decide | omega | (refine And.intro ?_ ?_ <;> first | omega | (simp; omega)) | (simp only [IntKind.wrap_i64]; first | omega | (refine And.intro ?_ ?_ <;> omega)))) | (first | (first | exact seT | exact u64nn _ | assumption) | decide | omega | (refine And.intro ?_ ?_ <;> first | omega | (simp; omega)) | (simp only [IntKind.wrap_i64]; first | omega | (refine And.intro ?_ ?_ <;> omega))) | ((conv => whnf); intros; (try simp only [decide_eq_true_eq, decide_eq_false_iff_not, Bool.and_eq_true, Bool.or_eq_true, Bool.and_eq_false_imp, Bool.or_eq_false_iff, Bool.not_eq_true', Bool.not_eq_false', beq_iff_eq, bne_iff_ne, ne_eq] at *); (first | (first | exact seT | exact u64nn _ | assumption) | decide | omega | (refine And.intro ?_ ?_ <;> first | omega | (simp; omega)) | (simp only [IntKind.wrap_i64]; first | omega | (refine And.intro ?_ ?_ <;> omega)))))); conv => whnf) | (refine And.intro ?_ ?_; (focus (first | exact NoTag.int | exact NoTag.bool | exact NoTag.str | (refine NoTag.of_scalar ?_; rfl))); conv => whnf))
    · rename_i h0
      have hl : (decide ((i : Int) < n) && decide ((i : Int) < 10)) = true := h0
      have hi' : i < min n 10 := by simp at hl; omega
      have h : ((i : Int) == 9 && decide (byteN s (k + i) > 1)) = true := h
      have e : gR s k (min n 10) 0 0 1 = (0, 0, 4) := by rw [← hR, show min n 10 - i = (min n 10 - (i + 1)) + 1 from by omega]; simp only [gR]; rw [if_pos h]
      rw [e]; exact Le.refl _
    · rename_i h0 h1 h2
      have hl : (decide ((i : Int) < n) && decide ((i : Int) < 10)) = true := h0
      have hi' : i < min n 10 := by simp at hl; omega
      have h1 : ((i : Int) == 9 && decide (byteN s (k + i) > 1)) = false := h1
      have h2 : decide (byteN s (k + i) < 128) = true := h2
      have h : (byteN s (k + i) == 0 && decide ((i : Int) > 0)) = true := h
      have e : gR s k (min n 10) 0 0 1 = (0, 0, 4) := by rw [← hR, show min n 10 - i = (min n 10 - (i + 1)) + 1 from by omega]; simp only [gR]; rw [if_neg (by rw [h1]; simp), if_pos h2, if_pos h]
      rw [e]; exact Le.refl _
    · rename_i h0 h1 h2
      have hl : (decide ((i : Int) < n) && decide ((i : Int) < 10)) = true := h0
      have hi' : i < min n 10 := by simp at hl; omega
      have h1 : ((i : Int) == 9 && decide (byteN s (k + i) > 1)) = false := h1
      have h2 : decide (byteN s (k + i) < 128) = true := h2
      have h : (byteN s (k + i) == 0 && decide ((i : Int) > 0)) = false := h
      have e : gR s k (min n 10) 0 0 1 = (IntKind.u64.wrap (acc + IntKind.u64.wrap (IntKind.u64.wrap ((byteN s (k + i)).tmod 128) * u)), (i : Int) + 1, 0) := by rw [← hR, show min n 10 - i = (min n 10 - (i + 1)) + 1 from by omega]; simp only [gR]; rw [if_neg (by rw [h1]; simp), if_pos h2, if_neg (by rw [h]; simp)]
      rw [e]
      exact leTup3 (Le.refl _) (leI (wrap64 (by omega) (by omega))) (Le.refl _)
    · rename_i h0 h1
      have hl : (decide ((i : Int) < n) && decide ((i : Int) < 10)) = true := h0
      have hi' : i < min n 10 := by simp at hl; omega
      have h1 : ((i : Int) == 9 && decide (byteN s (k + i) > 1)) = false := h1
      have h : decide (byteN s (k + i) < 128) = false := h
      refine ⟨(i + 1, IntKind.u64.wrap (acc + IntKind.u64.wrap (IntKind.u64.wrap ((byteN s (k + i)).tmod 128) * u)), IntKind.u64.wrap (u * 128)), ⟨hi', ?_⟩, ?_, by show min n 10 - (i + 1) < min n 10 - i; omega⟩
      · rw [← hR, show min n 10 - i = (min n 10 - (i + 1)) + 1 from by omega]
        simp only [gR]; rw [if_neg (by rw [h1]; simp), if_neg (by rw [h]; simp)]
      · (refine And.intro ?_ (And.intro ?_ (And.intro ?_ rfl)) <;> (conv => whnf) <;> repeat' (first | exact trivial | exact LeE.of (Le.refl _) | exact LeE.nil rfl | (with_reducible refine LeE.of ?_) | (first | exact Le.refl _ | exact rfl | exact leI (by first | rfl | omega | (rw [wrap64 (by omega) (by omega)]; omega) | (rw [wrap64 (by omega) (by omega)]; done)) | exact LeCs.refl _ | exact fun i hi => LeCs.refl _ | exact leOwn (by first | rfl | omega)) | ((with_reducible refine And.intro ?_ ?_) <;> conv => whnf)))
    · have hl : (decide ((i : Int) < n) && decide ((i : Int) < 10)) = false := h
      obtain rfl : i = min n 10 := by
        simp at hl; omega
      have e : gR s k (min n 10) 0 0 1 = (0, 0, 2) := by rw [← hR, Nat.sub_self]; rfl
      rw [e]; exact Le.refl _
end Go.Proofs.Ytdjoopegddnpkaa
