/- Contracts of functions of the program, and the laws that stand on them: what each function answers, whatever its arguments. -/
import Derived.Test.YtndacaemcakmkaaD44
set_option linter.unusedSectionVars false
set_option linter.unnecessarySimpa false
namespace Go.Proofs.Ytndacaemcakmkaa
set_option linter.unusedSimpArgs false
set_option linter.unusedVariables false
set_option maxRecDepth 100000
set_option maxHeartbeats 8000000
open Go Go.VA Go.RowKit
/-! ### the document's disk: Append -/
theorem cat_eq (x b : ByteArray) : oC (x ++ b) = .sl false 1 (x.size + b.size) (fun i => catF 0 x.size (strCells x) (strCells b) (0 + i)) := by
 unfold oC
 have e : (fun i => catF 0 x.size (strCells x) (strCells b) (0 + i)) = strCells (x ++ b) := by
  funext i
  rw [Nat.zero_add, cat_str]
 rw [e, cat_size]
theorem doAZ (l : List Ft) (hl : l.length ≤ 1000000) (fuse ops : Int) (s t b : ByteArray) (p : ByteArray × ByteArray) (hf : lkF s l = some p) (hq : (!wordB s || (1 : Int) == 3 && !wordB t) = false) (hn : (p.1 ++ b).size ≤ 262144) (hq6 : decide (fuse > 0) = false) :
  GCall Try.prog gl 25 [xB l.length fuse false ops, xR0 l] [.ptr 0 0, intA .i64 1, .c (.v (.string s)), .c (.v (.string t)), .c (oC b)] [xB (insL (s, p.1 ++ b, p.2) l).length fuse false (IntKind.i64.wrap (ops + 1)), xR0 (insL (s, p.1 ++ b, p.2) l)] [intA .i64 0] := by
 obtain ⟨k, hk, hf, F⟩ := fnd_w hf fuse ops false
 have hq3 : decide ((k : Int) < 0) = false := by simp
 have hq4 : decide ((k : Int) ≥ 0) = true := by simp
 have eK : fE l (0 + ((k : Nat) : Int).toNat) = (s, p.1, p.2) := by rw [zc]; exact hf
 have hK : 0 ≤ (k : Int) ∧ (k : Int) < (l.length : Int) := by omega
 have hn2 : p.1.size + b.size ≤ 262144 := by rw [← cat_size]; exact hn
 have hB : ∀ k, k ≤ 262144 → k * (tb 5).bytes ≤ 140737488355328 := fun k hk => by
  show k * 1 ≤ _; omega
 have hq5 : decide (((p.1.size + b.size : Nat) : Int) > 262144) = false := by simp; omega
 have G0 := gPutR l fuse (IntKind.i64.wrap (ops + 1)) false (s, p.1 ++ b, p.2) hl
 have eC : cF (s, p.1 ++ b, p.2) = [.v (.string s), .sl false 1 (p.1.size + b.size) (fun i => catF 0 p.1.size (strCells p.1) (strCells b) (0 + i)), oC p.2] := by
  unfold cF
  rw [cat_eq]
 rw [eC] at G0
 refine gcall_of_vcb htb hmix (f := 25) rfl rfl rfl (by kernel_rfl) rfl rfl rfl fun hb hb2 => ?_; simp only [bndOs, bndO, gbnds, AV.gbnd, bnds, C.bnd, true_and, and_true] at hb hb2; conv => whnf
 repeat' (first | (rw [eK]; conv => whnf) | ((with_reducible refine xc_guard ?_); refine xc_frzA ?_; (conv => whnf); refine xc_g (G0) false (by first | (((conv => whnf); repeat' (first | exact trivial | exact rfl | exact LeC.refl _ | exact (fun i hi => LeCs.refl _) | ((with_reducible refine And.intro ?_ ?_) <;> conv => whnf))); done) | fail) trivial ?_; conv => whnf) | (refine Exists.intro _ (And.intro (aWordR _) ?_); conv => whnf) | ((with_reducible refine GOr.l ?_); (conv => whnf); refine Exists.intro _ (And.intro (chainI (aWordR _)) ?_); conv => whnf) | (refine And.intro (fun h => ?_) (fun h => ?_) <;> (first | (with_reducible have hd : _ < _ := of_decide_eq_true h) | (with_reducible have hd : _ ≤ _ := of_decide_eq_true h) | (with_reducible have hd : ¬ (_ < _) := of_decide_eq_false h) | (with_reducible have hd : ¬ (_ ≤ _) := of_decide_eq_false h) | skip) <;> (first | exact absurd h (by decide) | (first | exact Bool.noConfusion (hq.symm.trans h) | exact Bool.noConfusion (hq3.symm.trans (andL h)) | exact Bool.noConfusion (hq4.symm.trans h) | exact Bool.noConfusion (hq5.symm.trans (andR h)) | exact Bool.noConfusion (hq6.symm.trans h) | fail) | (conv => whnf))) | ((with_reducible refine OwnOr.l ?_); (conv => whnf)) | (refine And.intro ?_ ?_; (focus (first | exact rfl | (first | exact hB _ (by omega) | assumption) | ((conv => whnf); intros; (try simp only [decide_eq_true_eq, decide_eq_false_iff_not, Bool.and_eq_true, Bool.or_eq_true, Bool.and_eq_false_imp, Bool.or_eq_false_iff, Bool.not_eq_true', Bool.not_eq_false', beq_iff_eq, bne_iff_ne, ne_eq] at *); (first | (first | exact hB _ (by omega) | fail) | fail)))); conv => whnf) | ((with_reducible refine xc_guard ?_); (first | (refine xc_g (F) false (by first | (((conv => whnf); repeat' (first | exact trivial | exact rfl | exact LeC.refl _ | exact (fun i hi => LeCs.refl _) | ((with_reducible refine And.intro ?_ ?_) <;> conv => whnf))); done) | fail) trivial ?_) | fail); conv => whnf) | ((with_reducible refine xc_pure ?_); conv => whnf))
 all_goals try (exfalso; revert h; decide)
 ((conv => whnf); repeat' (first | exact trivial | exact rfl | exact LeC.refl _ | exact (fun i hi => LeCs.refl _) | ((with_reducible refine And.intro ?_ ?_) <;> conv => whnf)))
theorem doEZ (l : List Ft) (hl : l.length ≤ 1000000) (fuse ops : Int) (s t b : ByteArray) (hf : lkF s l = none) (hq : (!wordB s || (1 : Int) == 3 && !wordB t) = false) (hn : (mtB ++ b).size ≤ 262144) (hq6 : decide (fuse > 0) = false) :
  GCall Try.prog gl 25 [xB l.length fuse false ops, xR0 l] [.ptr 0 0, intA .i64 1, .c (.v (.string s)), .c (.v (.string t)), .c (oC b)] [xB (insL (s, mtB ++ b, mtB) l).length fuse false (IntKind.i64.wrap (ops + 1)), xR0 (insL (s, mtB ++ b, mtB) l)] [intA .i64 0] := by
 have F := gFindNo l fuse ops false s (fnd_no hf)
 have hn2 : mtB.size + b.size ≤ 262144 := by rw [← cat_size]; exact hn
 have hB : ∀ k, k ≤ 262144 → k * (tb 5).bytes ≤ 140737488355328 := fun k hk => by
  show k * 1 ≤ _; omega
 have hq5 : decide (((mtB.size + b.size : Nat) : Int) > 262144) = false := by simp; omega
 have G0 := gPutR l fuse (IntKind.i64.wrap (ops + 1)) false (s, mtB ++ b, mtB) hl
 have eC : cF (s, mtB ++ b, mtB) = [.v (.string s), .sl false 1 (mtB.size + b.size) (fun i => catF 0 mtB.size (strCells mtB) (strCells b) (0 + i)), oC mtB] := by
  unfold cF
  rw [cat_eq]
 rw [eC] at G0
 refine gcall_of_vcb htb hmix (f := 25) rfl rfl rfl (by kernel_rfl) rfl rfl rfl fun hb hb2 => ?_; simp only [bndOs, bndO, gbnds, AV.gbnd, bnds, C.bnd, true_and, and_true] at hb hb2; conv => whnf
 repeat' (first | ((with_reducible refine xc_guard ?_); refine xc_frzA ?_; (conv => whnf); refine xc_g (G0) false (by first | (((conv => whnf); repeat' (first | exact trivial | exact rfl | exact LeC.refl _ | exact LeC.nil rfl | exact (fun i hi => LeCs.refl _) | ((with_reducible refine And.intro ?_ ?_) <;> conv => whnf))); done) | fail) trivial ?_; conv => whnf) | (refine Exists.intro _ (And.intro (aWordR _) ?_); conv => whnf) | ((with_reducible refine GOr.l ?_); (conv => whnf); refine Exists.intro _ (And.intro (chainI (aWordR _)) ?_); conv => whnf) | (refine And.intro (fun h => ?_) (fun h => ?_) <;> (first | (with_reducible have hd : _ < _ := of_decide_eq_true h) | (with_reducible have hd : _ ≤ _ := of_decide_eq_true h) | (with_reducible have hd : ¬ (_ < _) := of_decide_eq_false h) | (with_reducible have hd : ¬ (_ ≤ _) := of_decide_eq_false h) | skip) <;> (first | exact absurd h (by decide) | (first | exact Bool.noConfusion (hq.symm.trans h) | exact Bool.noConfusion (hq5.symm.trans (andR h)) | exact Bool.noConfusion (hq6.symm.trans h) | fail) | (conv => whnf))) | ((with_reducible refine OwnOr.l ?_); (conv => whnf)) | (refine And.intro ?_ ?_; (focus (first | exact rfl | (first | exact hB _ (by omega) | fail) | fail)); conv => whnf) | ((with_reducible refine xc_guard ?_); (first | (refine xc_g (F) false (by first | (((conv => whnf); repeat' (first | exact trivial | exact rfl | exact LeC.refl _ | exact (fun i hi => LeCs.refl _) | ((with_reducible refine And.intro ?_ ?_) <;> conv => whnf))); done) | fail) trivial ?_) | fail); conv => whnf) | ((with_reducible refine xc_pure ?_); conv => whnf))
 all_goals try (exfalso; revert h; decide)
 ((conv => whnf); repeat' (first | exact trivial | exact rfl | exact LeC.refl _ | exact (fun i hi => LeCs.refl _) | ((with_reducible refine And.intro ?_ ?_) <;> conv => whnf)))
theorem doAN (l : List Ft) (hl : l.length ≤ 1000000) (fuse ops : Int) (s t b : ByteArray) (p : ByteArray × ByteArray) (hf : lkF s l = some p) (hq : (!wordB s || (1 : Int) == 3 && !wordB t) = false) (hn : (p.1 ++ b).size ≤ 262144) (hq6 : decide (fuse > 0) = true) (hq7 : (IntKind.i64.wrap (fuse - 1) == 0) = false) :
  GCall Try.prog gl 25 [xB l.length fuse false ops, xR0 l] [.ptr 0 0, intA .i64 1, .c (.v (.string s)), .c (.v (.string t)), .c (oC b)] [xB (insL (s, p.1 ++ b, p.2) l).length (IntKind.i64.wrap (fuse - 1)) (IntKind.i64.wrap (fuse - 1) == 0) (IntKind.i64.wrap (ops + 1)), xR0 (insL (s, p.1 ++ b, p.2) l)] [intA .i64 0] := by
 obtain ⟨k, hk, hf, F⟩ := fnd_w hf fuse ops false
 have hq3 : decide ((k : Int) < 0) = false := by simp
 have hq4 : decide ((k : Int) ≥ 0) = true := by simp
 have eK : fE l (0 + ((k : Nat) : Int).toNat) = (s, p.1, p.2) := by rw [zc]; exact hf
 have hK : 0 ≤ (k : Int) ∧ (k : Int) < (l.length : Int) := by omega
 have hn2 : p.1.size + b.size ≤ 262144 := by rw [← cat_size]; exact hn
 have hB : ∀ k, k ≤ 262144 → k * (tb 5).bytes ≤ 140737488355328 := fun k hk => by
  show k * 1 ≤ _; omega
 have hq5 : decide (((p.1.size + b.size : Nat) : Int) > 262144) = false := by simp; omega
 have G0 := gPutR l (IntKind.i64.wrap (fuse - 1)) (IntKind.i64.wrap (ops + 1)) (IntKind.i64.wrap (fuse - 1) == 0) (s, p.1 ++ b, p.2) hl
 have eC : cF (s, p.1 ++ b, p.2) = [.v (.string s), .sl false 1 (p.1.size + b.size) (fun i => catF 0 p.1.size (strCells p.1) (strCells b) (0 + i)), oC p.2] := by
  unfold cF
  rw [cat_eq]
 rw [eC] at G0
 refine gcall_of_vcb htb hmix (f := 25) rfl rfl rfl (by kernel_rfl) rfl rfl rfl fun hb hb2 => ?_; simp only [bndOs, bndO, gbnds, AV.gbnd, bnds, C.bnd, true_and, and_true] at hb hb2; conv => whnf
 repeat' (first | (rw [eK]; conv => whnf) | ((with_reducible refine xc_guard ?_); refine xc_frzA ?_; (conv => whnf); refine xc_g (G0) false (by first | (((conv => whnf); repeat' (first | exact trivial | exact rfl | exact LeC.refl _ | exact (fun i hi => LeCs.refl _) | ((with_reducible refine And.intro ?_ ?_) <;> conv => whnf))); done) | fail) trivial ?_; conv => whnf) | (refine Exists.intro _ (And.intro (aWordR _) ?_); conv => whnf) | ((with_reducible refine GOr.l ?_); (conv => whnf); refine Exists.intro _ (And.intro (chainI (aWordR _)) ?_); conv => whnf) | (refine And.intro (fun h => ?_) (fun h => ?_) <;> (first | (with_reducible have hd : _ < _ := of_decide_eq_true h) | (with_reducible have hd : _ ≤ _ := of_decide_eq_true h) | (with_reducible have hd : ¬ (_ < _) := of_decide_eq_false h) | (with_reducible have hd : ¬ (_ ≤ _) := of_decide_eq_false h) | skip) <;> (first | exact absurd h (by decide) | (first | exact Bool.noConfusion (hq.symm.trans h) | exact Bool.noConfusion (hq3.symm.trans (andL h)) | exact Bool.noConfusion (hq4.symm.trans h) | exact Bool.noConfusion (hq5.symm.trans (andR h)) | exact Bool.noConfusion (hq6.symm.trans h) | exact Bool.noConfusion (hq7.symm.trans h)) | (conv => whnf))) | ((with_reducible refine OwnOr.l ?_); (conv => whnf)) | (refine And.intro ?_ ?_; (focus (first | exact rfl | (first | exact hB _ (by omega) | assumption) | ((conv => whnf); intros; (try simp only [decide_eq_true_eq, decide_eq_false_iff_not, Bool.and_eq_true, Bool.or_eq_true, Bool.and_eq_false_imp, Bool.or_eq_false_iff, Bool.not_eq_true', Bool.not_eq_false', beq_iff_eq, bne_iff_ne, ne_eq] at *); (first | (first | exact hB _ (by omega) | fail) | fail)))); conv => whnf) | ((with_reducible refine xc_guard ?_); (first | (refine xc_g (F) false (by first | (((conv => whnf); repeat' (first | exact trivial | exact rfl | exact LeC.refl _ | exact (fun i hi => LeCs.refl _) | ((with_reducible refine And.intro ?_ ?_) <;> conv => whnf))); done) | fail) trivial ?_) | fail); conv => whnf) | ((with_reducible refine xc_pure ?_); conv => whnf))
 all_goals try (exfalso; revert h; decide)
 ((conv => whnf); repeat' (first | exact trivial | exact rfl | exact LeC.refl _ | exact (fun i hi => LeCs.refl _) | ((with_reducible refine And.intro ?_ ?_) <;> conv => whnf)))
theorem doEN (l : List Ft) (hl : l.length ≤ 1000000) (fuse ops : Int) (s t b : ByteArray) (hf : lkF s l = none) (hq : (!wordB s || (1 : Int) == 3 && !wordB t) = false) (hn : (mtB ++ b).size ≤ 262144) (hq6 : decide (fuse > 0) = true) (hq7 : (IntKind.i64.wrap (fuse - 1) == 0) = false) :
  GCall Try.prog gl 25 [xB l.length fuse false ops, xR0 l] [.ptr 0 0, intA .i64 1, .c (.v (.string s)), .c (.v (.string t)), .c (oC b)] [xB (insL (s, mtB ++ b, mtB) l).length (IntKind.i64.wrap (fuse - 1)) (IntKind.i64.wrap (fuse - 1) == 0) (IntKind.i64.wrap (ops + 1)), xR0 (insL (s, mtB ++ b, mtB) l)] [intA .i64 0] := by
 have F := gFindNo l fuse ops false s (fnd_no hf)
 have hn2 : mtB.size + b.size ≤ 262144 := by rw [← cat_size]; exact hn
 have hB : ∀ k, k ≤ 262144 → k * (tb 5).bytes ≤ 140737488355328 := fun k hk => by
  show k * 1 ≤ _; omega
 have hq5 : decide (((mtB.size + b.size : Nat) : Int) > 262144) = false := by simp; omega
 have G0 := gPutR l (IntKind.i64.wrap (fuse - 1)) (IntKind.i64.wrap (ops + 1)) (IntKind.i64.wrap (fuse - 1) == 0) (s, mtB ++ b, mtB) hl
 have eC : cF (s, mtB ++ b, mtB) = [.v (.string s), .sl false 1 (mtB.size + b.size) (fun i => catF 0 mtB.size (strCells mtB) (strCells b) (0 + i)), oC mtB] := by
  unfold cF
  rw [cat_eq]
 rw [eC] at G0
 refine gcall_of_vcb htb hmix (f := 25) rfl rfl rfl (by kernel_rfl) rfl rfl rfl fun hb hb2 => ?_; simp only [bndOs, bndO, gbnds, AV.gbnd, bnds, C.bnd, true_and, and_true] at hb hb2; conv => whnf
 repeat' (first | ((with_reducible refine xc_guard ?_); refine xc_frzA ?_; (conv => whnf); refine xc_g (G0) false (by first | (((conv => whnf); repeat' (first | exact trivial | exact rfl | exact LeC.refl _ | exact LeC.nil rfl | exact (fun i hi => LeCs.refl _) | ((with_reducible refine And.intro ?_ ?_) <;> conv => whnf))); done) | fail) trivial ?_; conv => whnf) | (refine Exists.intro _ (And.intro (aWordR _) ?_); conv => whnf) | ((with_reducible refine GOr.l ?_); (conv => whnf); refine Exists.intro _ (And.intro (chainI (aWordR _)) ?_); conv => whnf) | (refine And.intro (fun h => ?_) (fun h => ?_) <;> (first | (with_reducible have hd : _ < _ := of_decide_eq_true h) | (with_reducible have hd : _ ≤ _ := of_decide_eq_true h) | (with_reducible have hd : ¬ (_ < _) := of_decide_eq_false h) | (with_reducible have hd : ¬ (_ ≤ _) := of_decide_eq_false h) | skip) <;> (first | exact absurd h (by decide) | (first | exact Bool.noConfusion (hq.symm.trans h) | exact Bool.noConfusion (hq5.symm.trans (andR h)) | exact Bool.noConfusion (hq6.symm.trans h) | exact Bool.noConfusion (hq7.symm.trans h)) | (conv => whnf))) | ((with_reducible refine OwnOr.l ?_); (conv => whnf)) | (refine And.intro ?_ ?_; (focus (first | exact rfl | (first | exact hB _ (by omega) | fail) | fail)); conv => whnf) | ((with_reducible refine xc_guard ?_); (first | (refine xc_g (F) false (by first | (((conv => whnf); repeat' (first | exact trivial | exact rfl | exact LeC.refl _ | exact (fun i hi => LeCs.refl _) | ((with_reducible refine And.intro ?_ ?_) <;> conv => whnf))); done) | fail) trivial ?_) | fail); conv => whnf) | ((with_reducible refine xc_pure ?_); conv => whnf))
 all_goals try (exfalso; revert h; decide)
 ((conv => whnf); repeat' (first | exact trivial | exact rfl | exact LeC.refl _ | exact (fun i hi => LeCs.refl _) | ((with_reducible refine And.intro ?_ ?_) <;> conv => whnf)))
theorem doAB (l : List Ft) (hl : l.length ≤ 1000000) (fuse ops : Int) (s t b : ByteArray) (p : ByteArray × ByteArray) (hf : lkF s l = some p) (hq : (!wordB s || (1 : Int) == 3 && !wordB t) = false) (hn : (p.1 ++ b).size ≤ 262144) (hq6 : decide (fuse > 0) = true) (hq7 : (IntKind.i64.wrap (fuse - 1) == 0) = true) :
  GCall Try.prog gl 25 [xB l.length fuse false ops, xR0 l] [.ptr 0 0, intA .i64 1, .c (.v (.string s)), .c (.v (.string t)), .c (oC b)] [xB (insL (s, p.1 ++ b, p.2) l).length (IntKind.i64.wrap (fuse - 1)) (IntKind.i64.wrap (fuse - 1) == 0) (IntKind.i64.wrap (ops + 1)), xR0 (insL (s, p.1 ++ b, p.2) l)] [intA .i64 21] := by
 obtain ⟨k, hk, hf, F⟩ := fnd_w hf fuse ops false
 have hq3 : decide ((k : Int) < 0) = false := by simp
 have hq4 : decide ((k : Int) ≥ 0) = true := by simp
 have eK : fE l (0 + ((k : Nat) : Int).toNat) = (s, p.1, p.2) := by rw [zc]; exact hf
 have hK : 0 ≤ (k : Int) ∧ (k : Int) < (l.length : Int) := by omega
 have hn2 : p.1.size + b.size ≤ 262144 := by rw [← cat_size]; exact hn
 have hB : ∀ k, k ≤ 262144 → k * (tb 5).bytes ≤ 140737488355328 := fun k hk => by
  show k * 1 ≤ _; omega
 have hq5 : decide (((p.1.size + b.size : Nat) : Int) > 262144) = false := by simp; omega
 have G0 := gPutR l (IntKind.i64.wrap (fuse - 1)) (IntKind.i64.wrap (ops + 1)) (IntKind.i64.wrap (fuse - 1) == 0) (s, p.1 ++ b, p.2) hl
 have eC : cF (s, p.1 ++ b, p.2) = [.v (.string s), .sl false 1 (p.1.size + b.size) (fun i => catF 0 p.1.size (strCells p.1) (strCells b) (0 + i)), oC p.2] := by
  unfold cF
  rw [cat_eq]
 rw [eC] at G0
 refine gcall_of_vcb htb hmix (f := 25) rfl rfl rfl (by kernel_rfl) rfl rfl rfl fun hb hb2 => ?_; simp only [bndOs, bndO, gbnds, AV.gbnd, bnds, C.bnd, true_and, and_true] at hb hb2; conv => whnf
 repeat' (first | (rw [eK]; conv => whnf) | ((with_reducible refine xc_guard ?_); refine xc_frzA ?_; (conv => whnf); refine xc_g (G0) false (by first | (((conv => whnf); repeat' (first | exact trivial | exact rfl | exact LeC.refl _ | exact (fun i hi => LeCs.refl _) | ((with_reducible refine And.intro ?_ ?_) <;> conv => whnf))); done) | fail) trivial ?_; conv => whnf) | (refine Exists.intro _ (And.intro (aWordR _) ?_); conv => whnf) | ((with_reducible refine GOr.l ?_); (conv => whnf); refine Exists.intro _ (And.intro (chainI (aWordR _)) ?_); conv => whnf) | (refine And.intro (fun h => ?_) (fun h => ?_) <;> (first | (with_reducible have hd : _ < _ := of_decide_eq_true h) | (with_reducible have hd : _ ≤ _ := of_decide_eq_true h) | (with_reducible have hd : ¬ (_ < _) := of_decide_eq_false h) | (with_reducible have hd : ¬ (_ ≤ _) := of_decide_eq_false h) | skip) <;> (first | exact absurd h (by decide) | (first | exact Bool.noConfusion (hq.symm.trans h) | exact Bool.noConfusion (hq3.symm.trans (andL h)) | exact Bool.noConfusion (hq4.symm.trans h) | exact Bool.noConfusion (hq5.symm.trans (andR h)) | exact Bool.noConfusion (hq6.symm.trans h) | exact Bool.noConfusion (hq7.symm.trans h)) | (conv => whnf))) | ((with_reducible refine OwnOr.l ?_); (conv => whnf)) | (refine And.intro ?_ ?_; (focus (first | exact rfl | (first | exact hB _ (by omega) | assumption) | ((conv => whnf); intros; (try simp only [decide_eq_true_eq, decide_eq_false_iff_not, Bool.and_eq_true, Bool.or_eq_true, Bool.and_eq_false_imp, Bool.or_eq_false_iff, Bool.not_eq_true', Bool.not_eq_false', beq_iff_eq, bne_iff_ne, ne_eq] at *); (first | (first | exact hB _ (by omega) | fail) | fail)))); conv => whnf) | ((with_reducible refine xc_guard ?_); (first | (refine xc_g (F) false (by first | (((conv => whnf); repeat' (first | exact trivial | exact rfl | exact LeC.refl _ | exact (fun i hi => LeCs.refl _) | ((with_reducible refine And.intro ?_ ?_) <;> conv => whnf))); done) | fail) trivial ?_) | fail); conv => whnf) | ((with_reducible refine xc_pure ?_); conv => whnf))
 all_goals try (exfalso; revert h; decide)
 ((conv => whnf); repeat' (first | exact trivial | exact rfl | exact LeC.refl _ | exact (fun i hi => LeCs.refl _) | ((with_reducible refine And.intro ?_ ?_) <;> conv => whnf)))
theorem doEB (l : List Ft) (hl : l.length ≤ 1000000) (fuse ops : Int) (s t b : ByteArray) (hf : lkF s l = none) (hq : (!wordB s || (1 : Int) == 3 && !wordB t) = false) (hn : (mtB ++ b).size ≤ 262144) (hq6 : decide (fuse > 0) = true) (hq7 : (IntKind.i64.wrap (fuse - 1) == 0) = true) :
  GCall Try.prog gl 25 [xB l.length fuse false ops, xR0 l] [.ptr 0 0, intA .i64 1, .c (.v (.string s)), .c (.v (.string t)), .c (oC b)] [xB (insL (s, mtB ++ b, mtB) l).length (IntKind.i64.wrap (fuse - 1)) (IntKind.i64.wrap (fuse - 1) == 0) (IntKind.i64.wrap (ops + 1)), xR0 (insL (s, mtB ++ b, mtB) l)] [intA .i64 21] := by
 have F := gFindNo l fuse ops false s (fnd_no hf)
 have hn2 : mtB.size + b.size ≤ 262144 := by rw [← cat_size]; exact hn
 have hB : ∀ k, k ≤ 262144 → k * (tb 5).bytes ≤ 140737488355328 := fun k hk => by
  show k * 1 ≤ _; omega
 have hq5 : decide (((mtB.size + b.size : Nat) : Int) > 262144) = false := by simp; omega
 have G0 := gPutR l (IntKind.i64.wrap (fuse - 1)) (IntKind.i64.wrap (ops + 1)) (IntKind.i64.wrap (fuse - 1) == 0) (s, mtB ++ b, mtB) hl
 have eC : cF (s, mtB ++ b, mtB) = [.v (.string s), .sl false 1 (mtB.size + b.size) (fun i => catF 0 mtB.size (strCells mtB) (strCells b) (0 + i)), oC mtB] := by
  unfold cF
  rw [cat_eq]
 rw [eC] at G0
 refine gcall_of_vcb htb hmix (f := 25) rfl rfl rfl (by kernel_rfl) rfl rfl rfl fun hb hb2 => ?_; simp only [bndOs, bndO, gbnds, AV.gbnd, bnds, C.bnd, true_and, and_true] at hb hb2; conv => whnf
 repeat' (first | ((with_reducible refine xc_guard ?_); refine xc_frzA ?_; (conv => whnf); refine xc_g (G0) false (by first | (((conv => whnf); repeat' (first | exact trivial | exact rfl | exact LeC.refl _ | exact LeC.nil rfl | exact (fun i hi => LeCs.refl _) | ((with_reducible refine And.intro ?_ ?_) <;> conv => whnf))); done) | fail) trivial ?_; conv => whnf) | (refine Exists.intro _ (And.intro (aWordR _) ?_); conv => whnf) | ((with_reducible refine GOr.l ?_); (conv => whnf); refine Exists.intro _ (And.intro (chainI (aWordR _)) ?_); conv => whnf) | (refine And.intro (fun h => ?_) (fun h => ?_) <;> (first | (with_reducible have hd : _ < _ := of_decide_eq_true h) | (with_reducible have hd : _ ≤ _ := of_decide_eq_true h) | (with_reducible have hd : ¬ (_ < _) := of_decide_eq_false h) | (with_reducible have hd : ¬ (_ ≤ _) := of_decide_eq_false h) | skip) <;> (first | exact absurd h (by decide) | (first | exact Bool.noConfusion (hq.symm.trans h) | exact Bool.noConfusion (hq5.symm.trans (andR h)) | exact Bool.noConfusion (hq6.symm.trans h) | exact Bool.noConfusion (hq7.symm.trans h)) | (conv => whnf))) | ((with_reducible refine OwnOr.l ?_); (conv => whnf)) | (refine And.intro ?_ ?_; (focus (first | exact rfl | (first | exact hB _ (by omega) | fail) | fail)); conv => whnf) | ((with_reducible refine xc_guard ?_); (first | (refine xc_g (F) false (by first | (((conv => whnf); repeat' (first | exact trivial | exact rfl | exact LeC.refl _ | exact (fun i hi => LeCs.refl _) | ((with_reducible refine And.intro ?_ ?_) <;> conv => whnf))); done) | fail) trivial ?_) | fail); conv => whnf) | ((with_reducible refine xc_pure ?_); conv => whnf))
 all_goals try (exfalso; revert h; decide)
 ((conv => whnf); repeat' (first | exact trivial | exact rfl | exact LeC.refl _ | exact (fun i hi => LeCs.refl _) | ((with_reducible refine And.intro ?_ ?_) <;> conv => whnf)))
end Go.Proofs.Ytndacaemcakmkaa

namespace Go.Proofs.Ytndacaemcakmkaa
set_option linter.unusedSimpArgs false
set_option linter.unusedVariables false
set_option maxRecDepth 100000
set_option maxHeartbeats 8000000
open Go Go.VA Go.RowKit
/-! ### the document's disk: any change -/
theorem doLong (l : List Ft) (fuse ops : Int) (s t b : ByteArray) (p : ByteArray × ByteArray) (hf : lkF s l = some p) (hq : (!wordB s || (1 : Int) == 3 && !wordB t) = false) (hx : p.1.size ≤ 262144) (hb0 : b.size ≤ 262144) (hn : (p.1 ++ b).size > 262144) :
  GCall Try.prog gl 25 [xB l.length fuse false ops, xR0 l] [.ptr 0 0, intA .i64 1, .c (.v (.string s)), .c (.v (.string t)), .c (oC b)] [xB l.length fuse false ops, xR0 l] [intA .i64 3] := by
 obtain ⟨k, hk, hf, F⟩ := fnd_w hf fuse ops false
 have hq3 : decide ((k : Int) < 0) = false := by simp
 have hq4 : decide ((k : Int) ≥ 0) = true := by simp
 have eK : fE l (0 + ((k : Nat) : Int).toNat) = (s, p.1, p.2) := by rw [zc]; exact hf
 have hK : 0 ≤ (k : Int) ∧ (k : Int) < (l.length : Int) := by omega
 have hn2 : p.1.size + b.size > 262144 := by rw [← cat_size]; exact hn
 have hB : ∀ k, k ≤ 1000000 → k * (tb 5).bytes ≤ 140737488355328 := fun k hk => by
  show k * 1 ≤ _; omega
 have hq5 : (decide ((1 : Int) < 2) && decide (((p.1.size + b.size : Nat) : Int) > 262144)) = true := by simp; omega
 refine gcall_of_vcb htb hmix (f := 25) rfl rfl rfl (by kernel_rfl) rfl rfl rfl fun hb hb2 => ?_; simp only [bndOs, bndO, gbnds, AV.gbnd, bnds, C.bnd, true_and, and_true] at hb hb2; conv => whnf
 repeat' (first | (rw [eK]; conv => whnf) | (refine Exists.intro _ (And.intro (aWordR _) ?_); conv => whnf) | ((with_reducible refine GOr.l ?_); (conv => whnf); refine Exists.intro _ (And.intro (chainI (aWordR _)) ?_); conv => whnf) | (refine And.intro (fun h => ?_) (fun h => ?_) <;> (first | (with_reducible have hd : _ ≤ _ := of_decide_eq_true h) | (with_reducible have hd : ¬ (_ ≤ _) := of_decide_eq_false h) | skip) <;> (first | exact absurd h (by decide) | (first | exact Bool.noConfusion (hq.symm.trans h) | exact Bool.noConfusion (hq3.symm.trans (andL h)) | exact Bool.noConfusion (hq4.symm.trans h) | exact Bool.noConfusion (hq5.symm.trans h)) | (conv => whnf))) | ((with_reducible refine OwnOr.l ?_); (conv => whnf)) | (refine And.intro ?_ ?_; (focus (first | exact rfl | (first | assumption) | ((conv => whnf); intros; (try simp only [decide_eq_true_eq, decide_eq_false_iff_not, Bool.and_eq_true, Bool.or_eq_true, Bool.and_eq_false_imp, Bool.or_eq_false_iff, Bool.not_eq_true', Bool.not_eq_false', beq_iff_eq, bne_iff_ne, ne_eq] at *); (first | (first | exact hB _ (by omega) | fail) | fail)))); conv => whnf) | ((with_reducible refine xc_guard ?_); (first | (refine xc_g (F) false (by first | (((conv => whnf); repeat' (first | exact trivial | exact rfl | exact LeC.refl _ | exact (fun i hi => LeCs.refl _) | ((with_reducible refine And.intro ?_ ?_) <;> conv => whnf))); done) | fail) trivial ?_) | fail); conv => whnf) | ((with_reducible refine xc_pure ?_); conv => whnf))
 all_goals try (exfalso; revert h; decide)
 ((conv => whnf); repeat' (first | exact trivial | exact rfl | exact LeC.refl _ | exact (fun i hi => LeCs.refl _) | ((with_reducible refine And.intro ?_ ?_) <;> conv => whnf)))
theorem chgR {k : Int} {args : List AV} (l l' : List Ft) (fuse ops : Int) (h0 : 0 ≤ fuse) (late : Bool)
  (Z : decide (fuse > 0) = false → GCall Try.prog gl 25 [xB l.length fuse false ops, xR0 l] args [xB l'.length fuse false (IntKind.i64.wrap (ops + 1)), xR0 l'] [intA .i64 0])
  (N : decide (fuse > 0) = true → (IntKind.i64.wrap (fuse - 1) == 0) = false → GCall Try.prog gl 25 [xB l.length fuse false ops, xR0 l] args [xB l'.length (IntKind.i64.wrap (fuse - 1)) (IntKind.i64.wrap (fuse - 1) == 0) (IntKind.i64.wrap (ops + 1)), xR0 l'] [intA .i64 0])
  (B : decide (fuse > 0) = true → (IntKind.i64.wrap (fuse - 1) == 0) = true → GCall Try.prog gl 25 [xB l.length fuse false ops, xR0 l] args [xB (if late = false then l else l').length (IntKind.i64.wrap (fuse - 1)) (IntKind.i64.wrap (fuse - 1) == 0) (IntKind.i64.wrap (ops + 1)), xR0 (if late = false then l else l')] [intA .i64 21]) :
  GCall Try.prog gl 25 [xB l.length fuse false ops, xR0 l] args [((Dk.mk l fuse false ops).chg l' late).1.xb, ((Dk.mk l fuse false ops).chg l' late).1.xr] [intA .i64 ((Dk.mk l fuse false ops).chg l' late).2] := by
 unfold Dk.chg Dk.xb Dk.xr fzN bnt
 dsimp only
 by_cases hz : fuse = 0
 ·subst hz
  have := Z (by decide)
  simpa using this
 ·rw [if_neg hz, if_neg hz]
  have h6 : decide (fuse > 0) = true := by simp; omega
  cases h7 : (IntKind.i64.wrap (fuse - 1) == 0) with
  | false =>
   have := N h6 h7
   rw [h7] at this
   simpa using this
  | true =>
   have := B h6 h7
   rw [h7] at this
   simpa using this
theorem hqW {s t : ByteArray} {k : Int} (hs : wordB s = true) (hk : (k == 3) = false) : (!wordB s || k == 3 && !wordB t) = false := by rw [hs, hk]; rfl
section
variable (d : Dk) {n : Nat} (ok : d.Ok n) (hn : n ≤ 1000000)
include ok hn
theorem uWrite (s t b : ByteArray) (hb : b.size ≤ 262144) : GCall Try.prog gl 25 [d.xb, d.xr] [.ptr 0 0, intA .i64 0, .c (.v (.string s)), .c (.v (.string t)), .c (oC b)] [(d.wrtR s b).1.xb, (d.wrtR s b).1.xr] [intA .i64 (d.wrtR s b).2] := by
 have hl := Nat.le_trans ok.len hn
 obtain ⟨l, fuse, dead, ops⟩ := d
 unfold Dk.wrtR
 cases dead with
 | true => exact doDead l fuse ops 0 s t _
 | false =>
  rw [if_neg (by simp)]
  by_cases hs : wordB s = false
  ·rw [if_pos hs]
   exact doBad l fuse ops 0 s t _ (by rw [hs]; rfl)
  ·rw [if_neg hs]
   have hs : wordB s = true := by simpa using hs
   rw [if_neg (by omega)]
   have hq := hqW (t := t) (k := 0) hs rfl
   dsimp only
   unfold getF
   cases hf : lkF s l with
   | none => exact chgR (k := 0) l _ fuse ops ok.fz.1 true (doVZ l hl fuse ops s t b hf hq hb) (doVN l hl fuse ops s t b hf hq hb) (doVB l hl fuse ops s t b hf hq hb)
   | some p => exact chgR (k := 0) l _ fuse ops ok.fz.1 true (doWZ l hl fuse ops s t b p hf hq hb) (doWN l hl fuse ops s t b p hf hq hb) (doWB l hl fuse ops s t b p hf hq hb)
theorem uAppend (s t b : ByteArray) (hb : b.size ≤ 200000) : GCall Try.prog gl 25 [d.xb, d.xr] [.ptr 0 0, intA .i64 1, .c (.v (.string s)), .c (.v (.string t)), .c (oC b)] [(d.appR s b).1.xb, (d.appR s b).1.xr] [intA .i64 (d.appR s b).2] := by
 have hl := Nat.le_trans ok.len hn
 have hsz := getF_size ok s
 obtain ⟨l, fuse, dead, ops⟩ := d
 unfold Dk.appR Dk.wrtR
 cases dead with
 | true => exact doDead l fuse ops 1 s t _
 | false =>
  rw [if_neg (by simp)]
  by_cases hs : wordB s = false
  ·rw [if_pos hs]
   exact doBad l fuse ops 1 s t _ (by rw [hs]; rfl)
  ·rw [if_neg hs]
   have hs : wordB s = true := by simpa using hs
   have hq := hqW (t := t) (k := 1) hs rfl
   dsimp only at hsz ⊢
   unfold getF at hsz ⊢
   cases hf : lkF s l with
   | none =>
    have hz : (mtB ++ b).size ≤ 262144 := by
     rw [cat_size]
     have : mtB.size = 0 := rfl
     omega
    rw [if_neg (by show ¬ ((mtB ++ b).size > 262144); omega)]
    exact chgR (k := 1) l _ fuse ops ok.fz.1 true (doEZ l hl fuse ops s t b hf hq hz) (doEN l hl fuse ops s t b hf hq hz) (doEB l hl fuse ops s t b hf hq hz)
   | some p =>
    rw [hf] at hsz
    have hsz : p.1.size ≤ 262144 ∧ p.2.size ≤ 262144 := hsz
    simp only [Option.getD_some]
    by_cases hz : (p.1 ++ b).size > 262144
    ·rw [if_pos hz]
     exact doLong l fuse ops s t b p hf hq hsz.1 (by omega) hz
    ·rw [if_neg hz]
     have hz : (p.1 ++ b).size ≤ 262144 := by omega
     exact chgR (k := 1) l _ fuse ops ok.fz.1 true (doAZ l hl fuse ops s t b p hf hq hz) (doAN l hl fuse ops s t b p hf hq hz) (doAB l hl fuse ops s t b p hf hq hz)
theorem uSync (s t : ByteArray) : GCall Try.prog gl 25 [d.xb, d.xr] [.ptr 0 0, intA .i64 2, .c (.v (.string s)), .c (.v (.string t)), .c (.v (.slice none 0 0))] [(d.synR s).1.xb, (d.synR s).1.xr] [intA .i64 (d.synR s).2] := by
 have hl := Nat.le_trans ok.len hn
 obtain ⟨l, fuse, dead, ops⟩ := d
 unfold Dk.synR
 cases dead with
 | true => exact doDead l fuse ops 2 s t _
 | false =>
  rw [if_neg (by simp)]
  by_cases hs : wordB s = false
  ·rw [if_pos hs]
   exact doBad l fuse ops 2 s t _ (by rw [hs]; rfl)
  ·rw [if_neg hs]
   have hs : wordB s = true := by simpa using hs
   have hq := hqW (t := t) (k := 2) hs rfl
   dsimp only
   cases hf : lkF s l with
   | none => exact doNone2 l fuse ops s t _ hq hf
   | some p => exact chgR (k := 2) l _ fuse ops ok.fz.1 false (doSZ l hl fuse ops s t p hf hq) (doSN l hl fuse ops s t p hf hq) (doSB l hl fuse ops s t p hf hq)
theorem uRemove (s t : ByteArray) : GCall Try.prog gl 25 [d.xb, d.xr] [.ptr 0 0, intA .i64 4, .c (.v (.string s)), .c (.v (.string t)), .c (.v (.slice none 0 0))] [(d.remR s).1.xb, (d.remR s).1.xr] [intA .i64 (d.remR s).2] := by
 have hl := Nat.le_trans ok.len hn
 obtain ⟨l, fuse, dead, ops⟩ := d
 unfold Dk.remR
 cases dead with
 | true => exact doDead l fuse ops 4 s t _
 | false =>
  rw [if_neg (by simp)]
  by_cases hs : wordB s = false
  ·rw [if_pos hs]
   exact doBad l fuse ops 4 s t _ (by rw [hs]; rfl)
  ·rw [if_neg hs]
   have hs : wordB s = true := by simpa using hs
   have hq := hqW (t := t) (k := 4) hs rfl
   dsimp only
   cases hf : lkF s l with
   | none => exact doNone4 l fuse ops s t _ hq hf
   | some p => exact chgR (k := 4) l _ fuse ops ok.fz.1 false (doMZ l hl fuse ops s t p hf hq) (doMN l hl fuse ops s t p hf hq) (doMB l hl fuse ops s t p hf hq)
theorem uRename (s t : ByteArray) : GCall Try.prog gl 25 [d.xb, d.xr] [.ptr 0 0, intA .i64 3, .c (.v (.string s)), .c (.v (.string t)), .c (.v (.slice none 0 0))] [(d.renR s t).1.xb, (d.renR s t).1.xr] [intA .i64 (d.renR s t).2] := by
 have hl := Nat.le_trans ok.len hn
 obtain ⟨l, fuse, dead, ops⟩ := d
 unfold Dk.renR
 cases dead with
 | true => exact doDead l fuse ops 3 s t _
 | false =>
  rw [if_neg (by simp)]
  by_cases hs : wordB s = false ∨ wordB t = false
  ·rw [if_pos hs]
   exact doBad l fuse ops 3 s t _ (by rcases hs with h | h <;> simp [h])
  ·rw [if_neg hs]
   have hs' : wordB s = true := by
    cases h : wordB s with
    | true => rfl
    | false => exact absurd (.inl h) hs
   have ht' : wordB t = true := by
    cases h : wordB t with
    | true => rfl
    | false => exact absurd (.inr h) hs
   have hq : (!wordB s || (3 : Int) == 3 && !wordB t) = false := by rw [hs', ht']; rfl
   dsimp only
   cases hf : lkF s l with
   | none => exact doNone3 l fuse ops s t _ hq hf
   | some p => exact chgR (k := 3) l _ fuse ops ok.fz.1 false (doRZ l hl fuse ops s t p hf hq) (doRN l hl fuse ops s t p hf hq) (doRB l hl fuse ops s t p hf hq)
end
end Go.Proofs.Ytndacaemcakmkaa
