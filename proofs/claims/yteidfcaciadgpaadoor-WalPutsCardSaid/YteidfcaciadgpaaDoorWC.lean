/- Contracts of functions of the program, and the laws that stand on them: what each function answers, whatever its arguments. -/
import Derived.Test.YteidfcaciadgpaaDoorW9
import Derived.Test.YteidfcaciadgpaaDoorC16
set_option linter.unusedSectionVars false
set_option linter.unnecessarySimpa false
namespace Go.Proofs.YteidfcaciadgpaaDoor
set_option linter.unusedSimpArgs false
set_option linter.unusedVariables false
set_option maxRecDepth 100000
set_option maxHeartbeats 8000000
open Go Go.VA
end Go.Proofs.YteidfcaciadgpaaDoor

namespace Go.Proofs.YteidfcaciadgpaaDoor
set_option linter.unusedSimpArgs false
set_option linter.unusedVariables false
set_option maxRecDepth 100000
set_option maxHeartbeats 8000000
open Go Go.VA
theorem NoTag.cc {x : C} (h : NtC x) : NoTag (.c x) := ⟨fun B S S' u hF hu => by
  simp only [RelV] at hu ⊢
  exact NtC.rep hF x u h hu⟩
theorem NoTag.tup2 {a b : AV} (ha : NoTag a) (hb : NoTag b) : NoTag (.tup [a, b]) := ⟨fun B S S' u hF hu => by
  simp only [RelV, RelVs] at hu ⊢
  obtain ⟨vs, e, u1, r1, e1, h1, u2, r2, e2, h2, e3⟩ := hu
  exact ⟨vs, e, u1, r1, e1, ha.h _ _ _ _ hF h1, u2, r2, e2, hb.h _ _ _ _ hF h2, e3⟩⟩
theorem AtL.tl {s : ByteArray} {a : Nat} {L : List Int} (h : AtL s a L) : AtL (tlS s a) 0 L := h.sub (by have := h.1; omega)
theorem CutL.tl {s : ByteArray} {a : Nat} {L : List Int} (h : CutL s a L) : CutL (tlS s a) 0 L := by
  obtain ⟨h1, h2, h3⟩ := h
  have hsz : (tlS s a).size = s.size - a := sub_size s a _
  refine ⟨Nat.zero_le _, by omega, fun j hj => ?_⟩
  rw [hsz] at hj
  rw [Nat.zero_add, tlS, sub_byte s a _ j (by omega)]
  exact h3 j (by omega)
def fmsI : List It → List Int
  | [] => []
  | i :: l => fmI i ++ fmsI l
theorem allG_forms (s : ByteArray) (hs : s.size ≤ 1099511627776) (z : It) (hz : okIt z = true) : ∀ (l : List It) (a m : Nat), (∀ i ∈ l, okIt i = true ∧ RgIt i) → AtL s a (fmsI l) → CutL s (a + (fmsI l).length) (fmI z) → l.length < m → allG s m a = (l, a + (fmsI l).length)
  | [], a, m, _, _, hc, hm => by
    obtain ⟨m, rfl⟩ : ∃ k, m = k + 1 := ⟨m - 1, by omega⟩
    have hsz : (tlS s a).size = s.size - a := sub_size s a _
    have e := wG_cut (s := tlS s a) (by omega) hz (CutL.tl (by simpa [fmsI] using hc))
    simp only [allG]
    rw [e, if_pos (by decide)]
    simp [fmsI]
  | i :: l, a, m, h, hA, hc, hm => by
    obtain ⟨m, rfl⟩ : ∃ k, m = k + 1 := ⟨m - 1, by omega⟩
    have hsz : (tlS s a).size = s.size - a := sub_size s a _
    have hi := h i (by simp)
    have hA1 : AtL s a (fmI i) := AtL.left (B := fmsI l) hA
    have hA2 : AtL s (a + (fmI i).length) (fmsI l) := AtL.right hA
    have e := wG_back (s := tlS s a) (by omega) hi.1 hi.2 hA1.tl
    have el : (fmsI (i :: l)).length = (fmI i).length + (fmsI l).length := by simp [fmsI]
    have eu : a + (40 + ((inL i).length : Int)).toNat = a + (fmI i).length := by rw [fmI_len]; omega
    rw [el, ← Nat.add_assoc] at hc
    have ih := allG_forms s hs z hz l (a + (fmI i).length) m (fun x hx => h x (by simp [hx])) hA2 hc (by simp at hm; omega)
    simp only [allG]
    rw [e, if_neg (by simp)]
    show (i :: (allG s m (a + (40 + ((inL i).length : Int)).toNat)).1, (allG s m (a + (40 + ((inL i).length : Int)).toNat)).2) = _
    rw [eu, ih, el, Nat.add_assoc]
def i0 : It := ⟨3, 3, ⟨⟨{ data := #[100, 105, 115, 107] }, { data := #[97] }, 0, 0, ByteArray.empty⟩, 1⟩⟩
theorem i0_ok : okIt i0 = true := by decide +kernel
theorem i0_rg : RgIt i0 := ⟨by decide, by decide, by decide⟩
theorem i0_len : (fmI i0).length = 51 := by rw [fmI_len]; decide +kernel
theorem seI : StructEq Tryd.prog 30 [7, 3, 8, 8, 3, 3, 8, 6] := structEq_of (d := 5) (by kernel_rfl)
def sEx : ByteArray := baL ((fmI i0 ++ fmI i0).take 76)
theorem bys_ex : Bys ((fmI i0 ++ fmI i0).take 76) := fun x hx => bys_app (bys_fm i0_ok) (bys_fm i0_ok) x (List.mem_of_mem_take hx)
theorem ex_len : ((fmI i0 ++ fmI i0).take 76).length = 76 := by rw [List.length_take, List.length_append, i0_len]; rfl
theorem ex_at (j : Nat) (hj : j < 76) : byteN sEx j = (fmI i0 ++ fmI i0).getD j 0 := by
  have := baL_byte bys_ex j (by rw [ex_len]; exact hj)
  rw [List.getD_eq_getElem?_getD, List.getElem?_take_of_lt hj] at this
  rw [List.getD_eq_getElem?_getD]
  exact this
theorem ex_size : sEx.size = 76 := by unfold sEx; rw [baL_size, ex_len]
theorem all_ex : allS sEx = ([i0], 51) := by
  have h := allG_forms sEx (by rw [ex_size]; decide) i0 i0_ok [i0] 0 (sEx.size + 1) (fun x hx => by simp at hx; subst hx; exact ⟨i0_ok, i0_rg⟩) ?_ ?_ (by rw [ex_size]; decide)
  · unfold allS
    rw [h]
    simp [fmsI, i0_len]
  · refine ⟨by rw [ex_size]; simp [fmsI, i0_len], fun j hj => ?_⟩
    simp only [fmsI, List.append_nil] at hj ⊢
    rw [i0_len] at hj
    rw [Nat.zero_add, ex_at j (by omega), List.getD_eq_getElem?_getD, List.getElem?_append_left (by rw [i0_len]; exact hj), ← List.getD_eq_getElem?_getD]
  · have e : 0 + (fmsI [i0]).length = 51 := by simp [fmsI, i0_len]
    rw [e]
    refine ⟨by rw [ex_size]; decide, by rw [ex_size, i0_len]; decide, fun j hj => ?_⟩
    rw [ex_size] at hj
    rw [ex_at _ hj, List.getD_eq_getElem?_getD, List.getElem?_append_right (by rw [i0_len]; omega), ← List.getD_eq_getElem?_getD, i0_len, Nat.add_sub_cancel_left]
theorem aAllEx : ACall Tryd.prog gl 19 [.c (.sl true 1 76 (fun i => catF 0 51 (fun j => catF 0 0 nF (rB (fmI i0)) (0 + j)) (rB (fmI i0)) (0 + 0 + i)))] [] (.tup [.c (.sl false 8 1 (rI [i0])), intA .i64 51]) := by
  have h := aAll true sEx (by rw [ex_size]; decide)
  rw [all_ex] at h
  refine h.le ⟨leSl ex_size.symm fun i hi => ?_, trivial⟩
  rw [ex_size] at hi
  show _ = [C.v (.int .u8 (byteN sEx i))]
  rw [ex_at i hi]
  unfold catF
  simp only [Nat.zero_add, Nat.not_lt_zero, if_false, Nat.sub_zero]
  by_cases h : i < 51
  · rw [if_pos h, List.getD_eq_getElem?_getD, List.getElem?_append_left (by rw [i0_len]; exact h), ← List.getD_eq_getElem?_getD]; rfl
  · rw [if_neg h, List.getD_eq_getElem?_getD, List.getElem?_append_right (by rw [i0_len]; omega), ← List.getD_eq_getElem?_getD, i0_len]; rfl
theorem aAwakeW : ACall Tryd.prog gl 8 [] [] (boolA true) := by
  have hl := i0_len
  have P1 := gWPut true 0 nF i0 (by decide) i0_ok (by decide)
  have P2 := gWPut true 51 (fun j => catF 0 0 nF (rB (fmI i0)) (0 + j)) i0 (by decide) i0_ok (by decide)
  rw [hl] at P1 P2
  have nt1 := ntCatG (n := 0) (f := nF) (m := 51) (fun i hi => absurd hi (Nat.not_lt_zero _)) (ntB (fmI i0) _)
  have nt2 := ntCatG (n := 51) (m := 51) (ntShift nt1) (ntB (fmI i0) _)
  have ntR : NoTag (.tup [.c (.sl false 8 1 (rI [i0])), intA .i64 51]) := NoTag.tup2 (NoTag.cc ⟨rfl, fun i hi => by
    obtain rfl : i = 0 := by omega
    exact ⟨trivial, trivial, trivial, trivial, trivial, trivial, trivial, trivial, trivial⟩⟩) NoTag.int
  refine acall_of_vc htb hmix (f := 8) rfl rfl rfl (by kernel_rfl) rfl rfl ?_; conv => whnf
  repeat' (first | (refine Exists.intro _ (And.intro (aAllEx) ?_); conv => whnf) | (refine And.intro (fun h => ?_) (fun h => ?_) <;> (first | (with_reducible have hd : _ < _ := of_decide_eq_true h) | (with_reducible have hd : _ ≤ _ := of_decide_eq_true h) | (with_reducible have hd : ¬ (_ < _) := of_decide_eq_false h) | (with_reducible have hd : ¬ (_ ≤ _) := of_decide_eq_false h) | skip) <;> (first | exact absurd h (by decide) | (conv => whnf))) | (refine And.intro ?_ ?_; (focus (first | exact trivial | exact rfl | (first | exact seI | exact ntR | exact seT | exact u64nn _ | assumption) | (refine chainI ?_; (first | (first | exact seI | exact ntR | exact seT | exact u64nn _ | assumption) | decide | omega | (refine And.intro ?_ ?_ <;> first | omega | (simp; omega)) | (simp only [IntKind.wrap_i64]; first | omega | (refine And.intro ?_ ?_ <;> omega)))) | (intro _; (first | (first | exact seI | exact ntR | exact seT | exact u64nn _ | assumption) | decide | omega | (refine And.intro ?_ ?_ <;> first | omega | (simp; omega)) | (simp only [IntKind.wrap_i64]; first | omega | (refine And.intro ?_ ?_ <;> omega)))) | (intro _ _; (first | (first | exact seI | exact ntR | exact seT | exact u64nn _ | assumption) | decide | omega | (refine And.intro ?_ ?_ <;> first | omega | (simp; omega)) | (simp only [IntKind.wrap_i64]; first | omega | (refine And.intro ?_ ?_ <;> omega)))) | (first | decide | omega | (refine And.intro ?_ ?_ <;> first | omega | (simp; omega)) | (simp only [IntKind.wrap_i64]; first | omega | (refine And.intro ?_ ?_ <;> omega))) | ((conv => whnf); intros; (try simp only [decide_eq_true_eq, decide_eq_false_iff_not, Bool.and_eq_true, Bool.or_eq_true, Bool.and_eq_false_imp, Bool.or_eq_false_iff, Bool.not_eq_true', Bool.not_eq_false', beq_iff_eq, bne_iff_ne, ne_eq] at *); (first | (first | exact seI | exact ntR | exact seT | exact u64nn _ | assumption) | decide | omega | (refine And.intro ?_ ?_ <;> first | omega | (simp; omega)) | (simp only [IntKind.wrap_i64]; first | omega | (refine And.intro ?_ ?_ <;> omega)))))); conv => whnf) | ((with_reducible refine xc_guard ?_); (first | (refine xc_g (P1) false (by first | (((conv => whnf); repeat' (first | exact trivial | exact rfl | exact LeC.refl _ | exact LeC.nil rfl | exact LeC.emp rfl | exact LeCs.refl _ | exact (fun i hi => LeCs.refl _) | fail | ((with_reducible refine And.intro ?_ ?_) <;> conv => whnf))); done) | fail) trivial ?_) | (refine xc_g (P1) true (by first | (((conv => whnf); repeat' (first | exact trivial | exact rfl | exact LeC.refl _ | exact LeC.nil rfl | exact LeC.emp rfl | exact LeCs.refl _ | exact (fun i hi => LeCs.refl _) | fail | ((with_reducible refine And.intro ?_ ?_) <;> conv => whnf))); done) | fail) (by first | (((conv => whnf); repeat' (first | exact trivial | exact rfl | (first | exact nt1 | exact ntShift nt1 | exact nt2 | exact ntShift nt2) | (intro i hi; exact ⟨trivial, trivial⟩) | ((with_reducible refine And.intro ?_ ?_) <;> conv => whnf))); done) | fail) ?_)); conv => whnf) | ((with_reducible refine xc_guard ?_); (first | (refine xc_g (P2) false (by first | (((conv => whnf); repeat' (first | exact trivial | exact rfl | exact LeC.refl _ | exact LeC.nil rfl | exact LeC.emp rfl | exact LeCs.refl _ | exact (fun i hi => LeCs.refl _) | fail | ((with_reducible refine And.intro ?_ ?_) <;> conv => whnf))); done) | fail) trivial ?_) | (refine xc_g (P2) true (by first | (((conv => whnf); repeat' (first | exact trivial | exact rfl | exact LeC.refl _ | exact LeC.nil rfl | exact LeC.emp rfl | exact LeCs.refl _ | exact (fun i hi => LeCs.refl _) | fail | ((with_reducible refine And.intro ?_ ?_) <;> conv => whnf))); done) | fail) (by first | (((conv => whnf); repeat' (first | exact trivial | exact rfl | (first | exact nt1 | exact ntShift nt1 | exact nt2 | exact ntShift nt2) | (intro i hi; exact ⟨trivial, trivial⟩) | ((with_reducible refine And.intro ?_ ?_) <;> conv => whnf))); done) | fail) ?_)); conv => whnf) | ((with_reducible refine xc_pure ?_); conv => whnf))
  exact leB (by decide +kernel)
end Go.Proofs.YteidfcaciadgpaaDoor
