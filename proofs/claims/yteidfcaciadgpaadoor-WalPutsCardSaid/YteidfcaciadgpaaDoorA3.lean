/- Contracts of functions of the program, and the laws that stand on them: what each function answers, whatever its arguments. -/
import Derived.Test.YteidfcaciadgpaaDoorA1
import Derived.Test.YteidfcaciadgpaaDoorS1
set_option linter.unusedSectionVars false
set_option linter.unnecessarySimpa false
namespace Go.Proofs.YteidfcaciadgpaaDoor
set_option linter.unusedSimpArgs false
set_option linter.unusedVariables false
set_option maxRecDepth 100000
set_option maxHeartbeats 8000000
open Go Go.VA
theorem mStep (t : Bool) (s : ByteArray) (a b n e : Int) : MCall Tryd.prog gl 69 [cR t s a b] [.ptr 0 0, intA .i64 n, intA .i64 e] [cR t s (IntKind.i64.wrap (a + n)) e] (.tup []) := by
  refine mcall_of_vcb htb hmix (f := 69) rfl rfl rfl (by kernel_rfl) rfl rfl rfl fun hb hb2 => ?_; simp only [bndPre, bndAll, AV.bnd, bnds, C.bnd, true_and, and_true] at hb hb2; conv => whnf
  repeat' (first | fail)
  exact ⟨Le.refl _, ⟨LeC.refl _, LeC.refl _, LeC.refl _, trivial⟩, trivial⟩
def RgOk (s : ByteArray) (a e : Int) : Prop := e = 0 → 0 ≤ a ∧ a ≤ s.size
def rTx (s : ByteArray) (a b : Int) : ByteArray × Int × Int := if b != 0 then (ByteArray.empty, a, b) else ((gStr s a.toNat (s.size - a.toNat) 24).1, a + (gStr s a.toNat (s.size - a.toNat) 24).2.1, (gStr s a.toNat (s.size - a.toNat) 24).2.2)
def rKd (s : ByteArray) (a b : Int) : Int × Int × Int := if b != 0 then (0, a, b) else if decide (a ≥ s.size) then (0, a + 1, 2) else (byteAt s a, a + 1, if decide (byteAt s a > 2) then 4 else 0)
theorem nB_one (s : ByteArray) (k : Nat) : (nB (fun i => (s.data.toList[k + i]?).getD 0) 0 1 : Int) = byteN s k := by
  simp [nB, byteN]
theorem wT {a n : Int} {s : ByteArray} (hs : s.size ≤ 140737488355328) (h : 0 ≤ a + n ∧ a + n ≤ s.size) : IntKind.i64.wrap (a + n) = a + n := wrap64 (by omega) (by omega)
theorem mTextA (t : Bool) (s : ByteArray) (a b : Int) (h : RgOk s a b) : MCall Tryd.prog gl 60 [cR t s a b] [.ptr 0 0] [cR t s (rTx s a b).2.1 (rTx s a b).2.2] (.c (.v (.string (rTx s a b).1))) := by
  by_cases hb0 : b = 0
  · obtain ⟨h0, h1⟩ := h hb0
    have hM : (0 : Int) ≤ a ∧ a ≤ s.size := ⟨h0, h1⟩
    subst hb0
    have ok := gStr_ok s a.toNat (s.size - a.toNat) 24
    have e : rTx s a 0 = ((gStr s a.toNat (s.size - a.toNat) 24).1, a + (gStr s a.toNat (s.size - a.toNat) 24).2.1, (gStr s a.toNat (s.size - a.toNat) 24).2.2) := by unfold rTx; rw [if_neg (by decide)]
    rw [e]
    refine mcall_of_vcb htb hmix (f := 60) rfl rfl rfl (by kernel_rfl) rfl rfl rfl fun hb hb2 => ?_; simp only [bndPre, bndAll, AV.bnd, bnds, C.bnd, true_and, and_true] at hb hb2; conv => whnf
    have hn := hb.1
    repeat' (first | (refine Exists.intro _ (And.intro (chainI (aGetStr _ _ _ _ _)) ?_); conv => whnf) | (refine And.intro (fun h => ?_) (fun h => ?_) <;> (first | (with_reducible have hd : _ < _ := of_decide_eq_true h) | (with_reducible have hd : _ ≤ _ := of_decide_eq_true h) | (with_reducible have hd : ¬ (_ < _) := of_decide_eq_false h) | (with_reducible have hd : ¬ (_ ≤ _) := of_decide_eq_false h) | skip) <;> (first | exact absurd h (by decide) | (conv => whnf))) | ((with_reducible refine DOr.l ?_); (conv => whnf)) | (refine And.intro ?_ ?_; (focus (first | exact trivial | exact rfl | (first | exact seT | exact u64nn _ | exact hB | exact chainI hB | assumption) | (refine chainI ?_; (first | (first | exact seT | exact u64nn _ | exact hB | exact chainI hB | assumption) | decide | omega | (refine And.intro ?_ ?_ <;> first | omega | (simp; omega)) | (simp only [IntKind.wrap_i64]; first | omega | (refine And.intro ?_ ?_ <;> omega)))) | (intro _; (first | (first | exact seT | exact u64nn _ | exact hB | exact chainI hB | assumption) | decide | omega | (refine And.intro ?_ ?_ <;> first | omega | (simp; omega)) | (simp only [IntKind.wrap_i64]; first | omega | (refine And.intro ?_ ?_ <;> omega)))) | (intro _ _; (first | (first | exact seT | exact u64nn _ | exact hB | exact chainI hB | assumption) | decide | omega | (refine And.intro ?_ ?_ <;> first | omega | (simp; omega)) | (simp only [IntKind.wrap_i64]; first | omega | (refine And.intro ?_ ?_ <;> omega)))) | (first | decide | omega | (refine And.intro ?_ ?_ <;> first | omega | (simp; omega)) | (simp only [IntKind.wrap_i64]; first | omega | (refine And.intro ?_ ?_ <;> omega))) | ((conv => whnf); intros; (try simp only [decide_eq_true_eq, decide_eq_false_iff_not, Bool.and_eq_true, Bool.or_eq_true, Bool.and_eq_false_imp, Bool.or_eq_false_iff, Bool.not_eq_true', Bool.not_eq_false', beq_iff_eq, bne_iff_ne, ne_eq] at *); (first | (first | exact seT | exact u64nn _ | exact hB | exact chainI hB | assumption) | decide | omega | (refine And.intro ?_ ?_ <;> first | omega | (simp; omega)) | (simp only [IntKind.wrap_i64]; first | omega | (refine And.intro ?_ ?_ <;> omega)))))); conv => whnf) | ((with_reducible refine xc_guard ?_); refine xc_mb (by (conv => whnf); repeat' (first | exact trivial | exact rfl | exact LeC.refl _ | exact LeC.nil rfl | ((with_reducible refine And.intro ?_ ?_) <;> conv => whnf))) (mStep _ _ _ _ _ _) rfl rfl rfl rfl ?_; conv => whnf))
    refine ⟨Le.refl _, ⟨LeC.refl _, LeC.of_eq (C.eqI ?_), LeC.refl _, trivial⟩, trivial⟩
    by_cases hz : (gStr s a.toNat (s.size - a.toNat) 24).2.2 = 0
    · have := ok.1 hz
      exact wrap64 (by omega) (by omega)
    · have := (ok.2 hz).2
      exact wrap64 (by omega) (by omega)
  · have e : rTx s a b = (ByteArray.empty, a, b) := by unfold rTx; rw [if_pos (by simpa using hb0)]
    rw [e]
    have hq : (b != 0) = true := by simpa using hb0
    refine mcall_of_vcb htb hmix (f := 60) rfl rfl rfl (by kernel_rfl) rfl rfl rfl fun hb hb2 => ?_; simp only [bndPre, bndAll, AV.bnd, bnds, C.bnd, true_and, and_true] at hb hb2; conv => whnf
    repeat' (first | (refine And.intro (fun h => ?_) (fun h => ?_) <;> (first | (with_reducible have hd : _ < _ := of_decide_eq_true h) | (with_reducible have hd : _ ≤ _ := of_decide_eq_true h) | (with_reducible have hd : ¬ (_ < _) := of_decide_eq_false h) | (with_reducible have hd : ¬ (_ ≤ _) := of_decide_eq_false h) | skip) <;> (first | exact absurd h (by decide) | (conv => whnf))) | ((with_reducible refine DOr.l ?_); (conv => whnf)))
    · exact ⟨Le.refl _, ⟨LeC.refl _, LeC.refl _, LeC.refl _, trivial⟩, trivial⟩
    · exact absurd (h.symm.trans hq) (by decide)
theorem mNumA (t : Bool) (s : ByteArray) (a b : Int) (h : RgOk s a b) : MCall Tryd.prog gl 62 [cR t s a b] [.ptr 0 0] [cR t s (rShort s a b).2.1 (rShort s a b).2.2] (intA .u64 (rShort s a b).1) := by
  by_cases hb0 : b = 0
  · obtain ⟨h0, h1⟩ := h hb0
    have hM : (0 : Int) ≤ a ∧ a ≤ s.size := ⟨h0, h1⟩
    subst hb0
    have ok := gS_ok s a.toNat (s.size - a.toNat) 0 0 (Int.le_refl 0)
    have bad := gS_bad s a.toNat (s.size - a.toNat) 0 0
    have e : rShort s a 0 = ((gS s a.toNat (s.size - a.toNat) 0 0).1, a + (gS s a.toNat (s.size - a.toNat) 0 0).2.1, (gS s a.toNat (s.size - a.toNat) 0 0).2.2) := by unfold rShort; rw [if_neg (by decide)]
    rw [e]
    refine mcall_of_vcb htb hmix (f := 62) rfl rfl rfl (by kernel_rfl) rfl rfl rfl fun hb hb2 => ?_; simp only [bndPre, bndAll, AV.bnd, bnds, C.bnd, true_and, and_true] at hb hb2; conv => whnf
    have hn := hb.1
    repeat' (first | (refine Exists.intro _ (And.intro (chainI (aGetShort _ _ _ _)) ?_); conv => whnf) | (refine And.intro (fun h => ?_) (fun h => ?_) <;> (first | (with_reducible have hd : _ < _ := of_decide_eq_true h) | (with_reducible have hd : _ ≤ _ := of_decide_eq_true h) | (with_reducible have hd : ¬ (_ < _) := of_decide_eq_false h) | (with_reducible have hd : ¬ (_ ≤ _) := of_decide_eq_false h) | skip) <;> (first | exact absurd h (by decide) | (conv => whnf))) | ((with_reducible refine DOr.l ?_); (conv => whnf)) | (refine And.intro ?_ ?_; (focus (first | exact trivial | exact rfl | (first | exact seT | exact u64nn _ | exact hB | exact chainI hB | assumption) | (refine chainI ?_; (first | (first | exact seT | exact u64nn _ | exact hB | exact chainI hB | assumption) | decide | omega | (refine And.intro ?_ ?_ <;> first | omega | (simp; omega)) | (simp only [IntKind.wrap_i64]; first | omega | (refine And.intro ?_ ?_ <;> omega)))) | (intro _; (first | (first | exact seT | exact u64nn _ | exact hB | exact chainI hB | assumption) | decide | omega | (refine And.intro ?_ ?_ <;> first | omega | (simp; omega)) | (simp only [IntKind.wrap_i64]; first | omega | (refine And.intro ?_ ?_ <;> omega)))) | (intro _ _; (first | (first | exact seT | exact u64nn _ | exact hB | exact chainI hB | assumption) | decide | omega | (refine And.intro ?_ ?_ <;> first | omega | (simp; omega)) | (simp only [IntKind.wrap_i64]; first | omega | (refine And.intro ?_ ?_ <;> omega)))) | (first | decide | omega | (refine And.intro ?_ ?_ <;> first | omega | (simp; omega)) | (simp only [IntKind.wrap_i64]; first | omega | (refine And.intro ?_ ?_ <;> omega))) | ((conv => whnf); intros; (try simp only [decide_eq_true_eq, decide_eq_false_iff_not, Bool.and_eq_true, Bool.or_eq_true, Bool.and_eq_false_imp, Bool.or_eq_false_iff, Bool.not_eq_true', Bool.not_eq_false', beq_iff_eq, bne_iff_ne, ne_eq] at *); (first | (first | exact seT | exact u64nn _ | exact hB | exact chainI hB | assumption) | decide | omega | (refine And.intro ?_ ?_ <;> first | omega | (simp; omega)) | (simp only [IntKind.wrap_i64]; first | omega | (refine And.intro ?_ ?_ <;> omega)))))); conv => whnf) | ((with_reducible refine xc_guard ?_); refine xc_mb (by (conv => whnf); repeat' (first | exact trivial | exact rfl | exact LeC.refl _ | exact LeC.nil rfl | ((with_reducible refine And.intro ?_ ?_) <;> conv => whnf))) (mStep _ _ _ _ _ _) rfl rfl rfl rfl ?_; conv => whnf))
    refine ⟨Le.refl _, ⟨LeC.refl _, LeC.of_eq (C.eqI ?_), LeC.refl _, trivial⟩, trivial⟩
    by_cases hz : (gS s a.toNat (s.size - a.toNat) 0 0).2.2 = 0
    · have := ok hz
      exact wrap64 (by omega) (by omega)
    · have := (bad hz).2
      exact wrap64 (by omega) (by omega)
  · have e : rShort s a b = (0, a, b) := by unfold rShort; rw [if_pos (by simpa using hb0)]
    rw [e]
    have hq : (b != 0) = true := by simpa using hb0
    refine mcall_of_vcb htb hmix (f := 62) rfl rfl rfl (by kernel_rfl) rfl rfl rfl fun hb hb2 => ?_; simp only [bndPre, bndAll, AV.bnd, bnds, C.bnd, true_and, and_true] at hb hb2; conv => whnf
    repeat' (first | (refine And.intro (fun h => ?_) (fun h => ?_) <;> (first | (with_reducible have hd : _ < _ := of_decide_eq_true h) | (with_reducible have hd : _ ≤ _ := of_decide_eq_true h) | (with_reducible have hd : ¬ (_ < _) := of_decide_eq_false h) | (with_reducible have hd : ¬ (_ ≤ _) := of_decide_eq_false h) | skip) <;> (first | exact absurd h (by decide) | (conv => whnf))) | ((with_reducible refine DOr.l ?_); (conv => whnf)))
    · exact ⟨Le.refl _, ⟨LeC.refl _, LeC.refl _, LeC.refl _, trivial⟩, trivial⟩
    · exact absurd (h.symm.trans hq) (by decide)
theorem mKindA (t : Bool) (s : ByteArray) (a b : Int) (h : RgOk s a b) : MCall Tryd.prog gl 61 [cR t s a b] [.ptr 0 0] [cR t s (rKd s a b).2.1 (rKd s a b).2.2] (intA .i64 (rKd s a b).1) := by
  by_cases hb0 : b = 0
  · obtain ⟨h0, h1⟩ := h hb0
    have hM : (0 : Int) ≤ a ∧ a ≤ s.size := ⟨h0, h1⟩
    subst hb0
    have hlt := byteN_lt s a.toNat
    have G : ACall Tryd.prog gl 26 [.c (.sl t 1 (s.size - a.toNat) (fun i => strCells s (a.toNat + i))), intA .i64 1] [] (.tup [intA .u64 (if s.size - a.toNat < 1 then 0 else byteN s a.toNat), intA .i64 (if s.size - a.toNat < 1 then 2 else 0)]) := by
      have := aNumGet t (s.size - a.toNat) (fun i => (s.data.toList[a.toNat + i]?).getD 0) 1 (by decide) (by decide)
      rw [nB_one] at this
      exact this
    by_cases hsz : s.size - a.toNat < 1
    · rw [if_pos hsz, if_pos hsz] at G
      have e : rKd s a 0 = (0, a + 1, 2) := by unfold rKd; rw [if_neg (by decide), if_pos (by simp; omega)]
      rw [e]
      refine mcall_of_vcb htb hmix (f := 61) rfl rfl rfl (by kernel_rfl) rfl rfl rfl fun hb hb2 => ?_; simp only [bndPre, bndAll, AV.bnd, bnds, C.bnd, true_and, and_true] at hb hb2; conv => whnf
      have hn := hb.1
      repeat' (first | (refine Exists.intro _ (And.intro (chainI (G)) ?_); conv => whnf) | (refine And.intro (fun h => ?_) (fun h => ?_) <;> (first | (with_reducible have hd : _ < _ := of_decide_eq_true h) | (with_reducible have hd : _ ≤ _ := of_decide_eq_true h) | (with_reducible have hd : ¬ (_ < _) := of_decide_eq_false h) | (with_reducible have hd : ¬ (_ ≤ _) := of_decide_eq_false h) | skip) <;> (first | exact absurd h (by decide) | (conv => whnf))) | ((with_reducible refine DOr.l ?_); (conv => whnf)) | (refine And.intro ?_ ?_; (focus (first | exact trivial | exact rfl | (first | exact seT | exact u64nn _ | exact hB | exact chainI hB | assumption) | (refine chainI ?_; (first | (first | exact seT | exact u64nn _ | exact hB | exact chainI hB | assumption) | decide | omega | (refine And.intro ?_ ?_ <;> first | omega | (simp; omega)) | (simp only [IntKind.wrap_i64]; first | omega | (refine And.intro ?_ ?_ <;> omega)))) | (intro _; (first | (first | exact seT | exact u64nn _ | exact hB | exact chainI hB | assumption) | decide | omega | (refine And.intro ?_ ?_ <;> first | omega | (simp; omega)) | (simp only [IntKind.wrap_i64]; first | omega | (refine And.intro ?_ ?_ <;> omega)))) | (intro _ _; (first | (first | exact seT | exact u64nn _ | exact hB | exact chainI hB | assumption) | decide | omega | (refine And.intro ?_ ?_ <;> first | omega | (simp; omega)) | (simp only [IntKind.wrap_i64]; first | omega | (refine And.intro ?_ ?_ <;> omega)))) | (first | decide | omega | (refine And.intro ?_ ?_ <;> first | omega | (simp; omega)) | (simp only [IntKind.wrap_i64]; first | omega | (refine And.intro ?_ ?_ <;> omega))) | ((conv => whnf); intros; (try simp only [decide_eq_true_eq, decide_eq_false_iff_not, Bool.and_eq_true, Bool.or_eq_true, Bool.and_eq_false_imp, Bool.or_eq_false_iff, Bool.not_eq_true', Bool.not_eq_false', beq_iff_eq, bne_iff_ne, ne_eq] at *); (first | (first | exact seT | exact u64nn _ | exact hB | exact chainI hB | assumption) | decide | omega | (refine And.intro ?_ ?_ <;> first | omega | (simp; omega)) | (simp only [IntKind.wrap_i64]; first | omega | (refine And.intro ?_ ?_ <;> omega)))))); conv => whnf) | ((with_reducible refine xc_guard ?_); refine xc_mb (by (conv => whnf); repeat' (first | exact trivial | exact rfl | exact LeC.refl _ | exact LeC.nil rfl | ((with_reducible refine And.intro ?_ ?_) <;> conv => whnf))) (mStep _ _ _ _ _ _) rfl rfl rfl rfl ?_; conv => whnf))
      exact ⟨Le.refl _, ⟨LeC.refl _, LeC.of_eq (C.eqI (wrap64 (by omega) (by omega))), LeC.refl _, trivial⟩, trivial⟩
    · rw [if_neg hsz, if_neg hsz] at G
      have e : rKd s a 0 = (byteN s a.toNat, a + 1, if decide (byteN s a.toNat > 2) then 4 else 0) := by unfold rKd; rw [if_neg (by decide), if_neg (by simp; omega)]
      rw [e]
      have wb : IntKind.i64.wrap (byteN s a.toNat) = byteN s a.toNat := wrap64 (by omega) (by omega)
      refine mcall_of_vcb htb hmix (f := 61) rfl rfl rfl (by kernel_rfl) rfl rfl rfl fun hb hb2 => ?_; simp only [bndPre, bndAll, AV.bnd, bnds, C.bnd, true_and, and_true] at hb hb2; conv => whnf
      have hn := hb.1
      repeat' (first | (refine Exists.intro _ (And.intro (chainI (G)) ?_); conv => whnf) | (refine And.intro (fun h => ?_) (fun h => ?_) <;> (first | (with_reducible have hd : _ < _ := of_decide_eq_true h) | (with_reducible have hd : _ ≤ _ := of_decide_eq_true h) | (with_reducible have hd : ¬ (_ < _) := of_decide_eq_false h) | (with_reducible have hd : ¬ (_ ≤ _) := of_decide_eq_false h) | skip) <;> (first | exact absurd h (by decide) | (conv => whnf))) | ((with_reducible refine DOr.l ?_); (conv => whnf)) | (refine And.intro ?_ ?_; (focus (first | exact trivial | exact rfl | (first | exact seT | exact u64nn _ | exact hB | exact chainI hB | assumption) | (refine chainI ?_; (first | (first | exact seT | exact u64nn _ | exact hB | exact chainI hB | assumption) | decide | omega | (refine And.intro ?_ ?_ <;> first | omega | (simp; omega)) | (simp only [IntKind.wrap_i64]; first | omega | (refine And.intro ?_ ?_ <;> omega)))) | (intro _; (first | (first | exact seT | exact u64nn _ | exact hB | exact chainI hB | assumption) | decide | omega | (refine And.intro ?_ ?_ <;> first | omega | (simp; omega)) | (simp only [IntKind.wrap_i64]; first | omega | (refine And.intro ?_ ?_ <;> omega)))) | (intro _ _; (first | (first | exact seT | exact u64nn _ | exact hB | exact chainI hB | assumption) | decide | omega | (refine And.intro ?_ ?_ <;> first | omega | (simp; omega)) | (simp only [IntKind.wrap_i64]; first | omega | (refine And.intro ?_ ?_ <;> omega)))) | (first | decide | omega | (refine And.intro ?_ ?_ <;> first | omega | (simp; omega)) | (simp only [IntKind.wrap_i64]; first | omega | (refine And.intro ?_ ?_ <;> omega))) | ((conv => whnf); intros; (try simp only [decide_eq_true_eq, decide_eq_false_iff_not, Bool.and_eq_true, Bool.or_eq_true, Bool.and_eq_false_imp, Bool.or_eq_false_iff, Bool.not_eq_true', Bool.not_eq_false', beq_iff_eq, bne_iff_ne, ne_eq] at *); (first | (first | exact seT | exact u64nn _ | exact hB | exact chainI hB | assumption) | decide | omega | (refine And.intro ?_ ?_ <;> first | omega | (simp; omega)) | (simp only [IntKind.wrap_i64]; first | omega | (refine And.intro ?_ ?_ <;> omega)))))); conv => whnf) | ((with_reducible refine xc_guard ?_); refine xc_mb (by (conv => whnf); repeat' (first | exact trivial | exact rfl | exact LeC.refl _ | exact LeC.nil rfl | ((with_reducible refine And.intro ?_ ?_) <;> conv => whnf))) (mStep _ _ _ _ _ _) rfl rfl rfl rfl ?_; conv => whnf))
      · rw [if_pos (by simpa using h)]
        exact ⟨leI wb, ⟨LeC.refl _, LeC.of_eq (C.eqI (wrap64 (by omega) (by omega))), LeC.refl _, trivial⟩, trivial⟩
      · rw [if_neg (by simpa using h)]
        exact ⟨leI wb, ⟨LeC.refl _, LeC.of_eq (C.eqI (wrap64 (by omega) (by omega))), LeC.refl _, trivial⟩, trivial⟩
  · have e : rKd s a b = (0, a, b) := by unfold rKd; rw [if_pos (by simpa using hb0)]
    rw [e]
    have hq : (b != 0) = true := by simpa using hb0
    refine mcall_of_vcb htb hmix (f := 61) rfl rfl rfl (by kernel_rfl) rfl rfl rfl fun hb hb2 => ?_; simp only [bndPre, bndAll, AV.bnd, bnds, C.bnd, true_and, and_true] at hb hb2; conv => whnf
    repeat' (first | (refine And.intro (fun h => ?_) (fun h => ?_) <;> (first | (with_reducible have hd : _ < _ := of_decide_eq_true h) | (with_reducible have hd : _ ≤ _ := of_decide_eq_true h) | (with_reducible have hd : ¬ (_ < _) := of_decide_eq_false h) | (with_reducible have hd : ¬ (_ ≤ _) := of_decide_eq_false h) | skip) <;> (first | exact absurd h (by decide) | (conv => whnf))) | ((with_reducible refine DOr.l ?_); (conv => whnf)))
    · exact ⟨Le.refl _, ⟨LeC.refl _, LeC.refl _, LeC.refl _, trivial⟩, trivial⟩
    · exact absurd (h.symm.trans hq) (by decide)
end Go.Proofs.YteidfcaciadgpaaDoor

namespace Go.Proofs.YteidfcaciadgpaaDoor
set_option linter.unusedSimpArgs false
set_option linter.unusedVariables false
set_option maxRecDepth 100000
set_option maxHeartbeats 8000000
open Go Go.VA
def ky0 : Ky := ⟨⟨ByteArray.empty, ByteArray.empty, 0, 0, ByteArray.empty⟩, 0⟩
def kyFin (k : Ky) (i n a e : Int) : Ky × Int × Int :=
  if e != 0 then (ky0, 0, e) else if decide (i > 9223372036854775807) || decide (n > 4294967295) || !okKy k then (ky0, 0, 4) else (k, a, 0)
def gK1 (s : ByteArray) : ByteArray × Int × Int := rTx s 0 0
def gK2 (s : ByteArray) : ByteArray × Int × Int := rTx s (gK1 s).2.1 (gK1 s).2.2
def gK3 (s : ByteArray) : Int × Int × Int := rKd s (gK2 s).2.1 (gK2 s).2.2
def gK4 (s : ByteArray) : Int × Int × Int := rShort s (gK3 s).2.1 (gK3 s).2.2
def gK5 (s : ByteArray) : ByteArray × Int × Int := rTx s (gK3 s).2.1 (gK3 s).2.2
def gKyA (s : ByteArray) : Ky × Int × Int :=
  if (gK3 s).1 == 1 then
    let r := rShort s (gK4 s).2.1 (gK4 s).2.2
    kyFin ⟨⟨(gK1 s).1, (gK2 s).1, (gK3 s).1, IntKind.i64.wrap (bitsI .and .u64 (gK4 s).1 9223372036854775807), ByteArray.empty⟩, IntKind.u32.wrap r.1⟩ (gK4 s).1 r.1 r.2.1 r.2.2
  else if (gK3 s).1 == 2 then
    let r := rShort s (gK5 s).2.1 (gK5 s).2.2
    kyFin ⟨⟨(gK1 s).1, (gK2 s).1, (gK3 s).1, 0, (gK5 s).1⟩, IntKind.u32.wrap r.1⟩ 0 r.1 r.2.1 r.2.2
  else kyFin ⟨⟨(gK1 s).1, (gK2 s).1, (gK3 s).1, 0, ByteArray.empty⟩, IntKind.u32.wrap (gK4 s).1⟩ 0 (gK4 s).1 (gK4 s).2.1 (gK4 s).2.2
theorem rTx_rg {s : ByteArray} {a b : Int} (h : RgOk s a b) : RgOk s (rTx s a b).2.1 (rTx s a b).2.2 := by
  unfold RgOk rTx
  split
  · rename_i hb
    intro h0
    have h0 : b = 0 := h0
    rw [h0] at hb
    exact absurd hb (by decide)
  · rename_i hb
    intro h0
    have hb : b = 0 := by simpa using hb
    have := (gStr_ok s a.toNat (s.size - a.toNat) 24).1 h0
    have := h hb
    show 0 ≤ a + (gStr s a.toNat (s.size - a.toNat) 24).2.1 ∧ a + (gStr s a.toNat (s.size - a.toNat) 24).2.1 ≤ s.size
    omega
theorem rSh_rg {s : ByteArray} {a b : Int} (h : RgOk s a b) : RgOk s (rShort s a b).2.1 (rShort s a b).2.2 := by
  unfold RgOk rShort
  split
  · rename_i hb
    intro h0
    have h0 : b = 0 := h0
    rw [h0] at hb
    exact absurd hb (by decide)
  · rename_i hb
    intro h0
    have hb : b = 0 := by simpa using hb
    have := gS_ok s a.toNat (s.size - a.toNat) 0 0 (Int.le_refl 0) h0
    have := h hb
    show 0 ≤ a + (gS s a.toNat (s.size - a.toNat) 0 0).2.1 ∧ a + (gS s a.toNat (s.size - a.toNat) 0 0).2.1 ≤ s.size
    omega
theorem rKd_rg {s : ByteArray} {a b : Int} (h : RgOk s a b) : RgOk s (rKd s a b).2.1 (rKd s a b).2.2 := by
  unfold RgOk rKd
  split
  · rename_i hb
    intro h0
    have h0 : b = 0 := h0
    rw [h0] at hb
    exact absurd hb (by decide)
  · rename_i hb
    have hb : b = 0 := by simpa using hb
    have := h hb
    split
    · intro h0; exact absurd (show (2 : Int) = 0 from h0) (by decide)
    · rename_i h2
      intro _
      simp only [ge_iff_le, decide_eq_true_eq] at h2
      show 0 ≤ a + 1 ∧ a + 1 ≤ s.size
      omega
theorem rg0 (s : ByteArray) : RgOk s 0 0 := fun _ => ⟨Int.le_refl _, by omega⟩
theorem ckn (b : Bool) : ((if b = true then (0 : Int) else 1) != 0) = !b := by cases b <;> rfl
theorem kyFin_e {k : Ky} {i n a e : Int} (h : (e != 0) = true) : kyFin k i n a e = (ky0, 0, e) := by unfold kyFin; rw [if_pos h]
theorem kyFin_b {k : Ky} {i n a e : Int} (h : (e != 0) = false) (h2 : (decide (i > 9223372036854775807) || decide (n > 4294967295) || !okKy k) = true) : kyFin k i n a e = (ky0, 0, 4) := by unfold kyFin; rw [h, if_neg (by decide), if_pos h2]
theorem kyFin_ok {k : Ky} {i n a e : Int} (h : (e != 0) = false) (h2 : (decide (i > 9223372036854775807) || decide (n > 4294967295) || !okKy k) = false) : kyFin k i n a e = (k, a, 0) := by unfold kyFin; rw [h, if_neg (by decide), h2, if_neg (by decide)]
theorem gKyA_1 {s : ByteArray} (h : ((gK3 s).1 == 1) = true) : gKyA s = kyFin ⟨⟨(gK1 s).1, (gK2 s).1, (gK3 s).1, IntKind.i64.wrap (bitsI .and .u64 (gK4 s).1 9223372036854775807), ByteArray.empty⟩, IntKind.u32.wrap (rShort s (gK4 s).2.1 (gK4 s).2.2).1⟩ (gK4 s).1 (rShort s (gK4 s).2.1 (gK4 s).2.2).1 (rShort s (gK4 s).2.1 (gK4 s).2.2).2.1 (rShort s (gK4 s).2.1 (gK4 s).2.2).2.2 := by unfold gKyA; rw [if_pos h]
theorem gKyA_2 {s : ByteArray} (h1 : ((gK3 s).1 == 1) = false) (h : ((gK3 s).1 == 2) = true) : gKyA s = kyFin ⟨⟨(gK1 s).1, (gK2 s).1, (gK3 s).1, 0, (gK5 s).1⟩, IntKind.u32.wrap (rShort s (gK5 s).2.1 (gK5 s).2.2).1⟩ 0 (rShort s (gK5 s).2.1 (gK5 s).2.2).1 (rShort s (gK5 s).2.1 (gK5 s).2.2).2.1 (rShort s (gK5 s).2.1 (gK5 s).2.2).2.2 := by unfold gKyA; rw [h1, if_neg (by decide), if_pos h]
theorem gKyA_0 {s : ByteArray} (h1 : ((gK3 s).1 == 1) = false) (h : ((gK3 s).1 == 2) = false) : gKyA s = kyFin ⟨⟨(gK1 s).1, (gK2 s).1, (gK3 s).1, 0, ByteArray.empty⟩, IntKind.u32.wrap (gK4 s).1⟩ 0 (gK4 s).1 (gK4 s).2.1 (gK4 s).2.2 := by unfold gKyA; rw [h1, if_neg (by decide), h, if_neg (by decide)]
theorem aGetKy (t : Bool) (s : ByteArray) : ACall Tryd.prog gl 48 [.c (.sl t 1 s.size (strCells s))] [] (.tup [.ag (cKy (gKyA s).1), intA .i64 (gKyA s).2.1, intA .i64 (gKyA s).2.2]) := by
  have r1 : RgOk s (gK1 s).2.1 (gK1 s).2.2 := rTx_rg (rg0 s)
  have r2 : RgOk s (gK2 s).2.1 (gK2 s).2.2 := rTx_rg r1
  have r3 : RgOk s (gK3 s).2.1 (gK3 s).2.2 := rKd_rg r2
  have r4 : RgOk s (gK4 s).2.1 (gK4 s).2.2 := rSh_rg r3
  have r5 : RgOk s (gK5 s).2.1 (gK5 s).2.2 := rTx_rg r3
  have r0 := rg0 s
  refine acall_of_vc htb hmix (f := 48) rfl rfl rfl (by kernel_rfl) rfl rfl ?_; conv => whnf
  repeat' (first | ((with_reducible refine GOr.l ?_); (conv => whnf); refine Exists.intro _ (And.intro (chainI (aCheckK ⟨⟨_, _, _, _, _⟩, _⟩)) ?_); conv => whnf) | (refine And.intro (fun h => ?_) (fun h => ?_) <;> (first | (with_reducible have hd : _ < _ := of_decide_eq_true h) | (with_reducible have hd : _ ≤ _ := of_decide_eq_true h) | (with_reducible have hd : ¬ (_ < _) := of_decide_eq_false h) | (with_reducible have hd : ¬ (_ ≤ _) := of_decide_eq_false h) | skip) <;> (first | exact absurd h (by decide) | (conv => whnf))) | ((with_reducible apply Drawn.one); conv => whnf) | ((with_reducible refine Then.mk' ?_); conv => whnf) | (first | exact RefS.self rfl | ((with_reducible refine RefS.mk ?_ ?_); (focus (refine And.intro ?_ (And.intro ?_ (And.intro ?_ rfl)) <;> (conv => whnf) <;> repeat' (first | exact trivial | exact LeE.of (Le.refl _) | exact LeE.nil rfl | (with_reducible refine LeE.of ?_) | (first | fail | exact Le.refl _ | exact rfl | exact leI (by first | rfl | omega | (rw [wrap64 (by omega) (by omega)]; omega) | (rw [wrap64 (by omega) (by omega)]; done)) | exact LeCs.refl _ | exact fun i hi => LeCs.refl _ | exact leOwn (by first | rfl | omega)) | ((with_reducible refine And.intro ?_ ?_) <;> conv => whnf)))); exact rfl)) | (refine And.intro ?_ ?_; (focus (first | exact trivial | exact rfl | (first | exact seT | exact u64nn _ | exact hB | exact chainI hB | assumption) | (refine chainI ?_; (first | (first | exact seT | exact u64nn _ | exact hB | exact chainI hB | assumption) | decide | omega | (refine And.intro ?_ ?_ <;> first | omega | (simp; omega)) | (simp only [IntKind.wrap_i64]; first | omega | (refine And.intro ?_ ?_ <;> omega)))) | (intro _; (first | (first | exact seT | exact u64nn _ | exact hB | exact chainI hB | assumption) | decide | omega | (refine And.intro ?_ ?_ <;> first | omega | (simp; omega)) | (simp only [IntKind.wrap_i64]; first | omega | (refine And.intro ?_ ?_ <;> omega)))) | (intro _ _; (first | (first | exact seT | exact u64nn _ | exact hB | exact chainI hB | assumption) | decide | omega | (refine And.intro ?_ ?_ <;> first | omega | (simp; omega)) | (simp only [IntKind.wrap_i64]; first | omega | (refine And.intro ?_ ?_ <;> omega)))) | (first | decide | omega | (refine And.intro ?_ ?_ <;> first | omega | (simp; omega)) | (simp only [IntKind.wrap_i64]; first | omega | (refine And.intro ?_ ?_ <;> omega))) | ((conv => whnf); intros; (try simp only [decide_eq_true_eq, decide_eq_false_iff_not, Bool.and_eq_true, Bool.or_eq_true, Bool.and_eq_false_imp, Bool.or_eq_false_iff, Bool.not_eq_true', Bool.not_eq_false', beq_iff_eq, bne_iff_ne, ne_eq] at *); (first | (first | exact seT | exact u64nn _ | exact hB | exact chainI hB | assumption) | decide | omega | (refine And.intro ?_ ?_ <;> first | omega | (simp; omega)) | (simp only [IntKind.wrap_i64]; first | omega | (refine And.intro ?_ ?_ <;> omega)))))); conv => whnf) | ((with_reducible refine xc_guard ?_); refine xc_mb (by (conv => whnf); repeat' (first | exact trivial | exact rfl | exact LeC.refl _ | exact LeC.nil rfl | ((with_reducible refine And.intro ?_ ?_) <;> conv => whnf))) (mTextA _ _ _ _ ?_) rfl rfl rfl rfl ?_; (focus assumption); conv => whnf) | ((with_reducible refine xc_guard ?_); refine xc_mb (by (conv => whnf); repeat' (first | exact trivial | exact rfl | exact LeC.refl _ | exact LeC.nil rfl | ((with_reducible refine And.intro ?_ ?_) <;> conv => whnf))) (mKindA _ _ _ _ ?_) rfl rfl rfl rfl ?_; (focus assumption); conv => whnf) | ((with_reducible refine xc_guard ?_); refine xc_mb (by (conv => whnf); repeat' (first | exact trivial | exact rfl | exact LeC.refl _ | exact LeC.nil rfl | ((with_reducible refine And.intro ?_ ?_) <;> conv => whnf))) (mNumA _ _ _ _ ?_) rfl rfl rfl rfl ?_; (focus assumption); conv => whnf))
  all_goals try simp only [ckn] at h
  all_goals first
    | rw [gKyA_1 (s := s) (by assumption)]
    | rw [gKyA_2 (s := s) (by assumption) (by assumption)]
    | rw [gKyA_0 (s := s) (by assumption) (by assumption)]
  all_goals first
    | (rw [kyFin_e (by assumption)]; exact Le.refl _)
    | (rw [kyFin_b (by assumption) (by assumption)]; exact Le.refl _)
    | (rw [kyFin_ok (by assumption) (by assumption)]; exact Le.refl _)
end Go.Proofs.YteidfcaciadgpaaDoor
