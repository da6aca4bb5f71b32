/- Contracts of functions of the program, and the laws that stand on them: what each function answers, whatever its arguments. -/
import Derived.Test.YtcgcamfhollnlaaGreatDoorA2
import Derived.Test.YtcgcamfhollnlaaGreatDoorS1
set_option linter.unusedSectionVars false
set_option linter.unnecessarySimpa false
namespace Go.Proofs.YtcgcamfhollnlaaGreatDoor
set_option linter.unusedSimpArgs false
set_option linter.unusedVariables false
set_option maxRecDepth 100000
set_option maxHeartbeats 8000000
open Go Go.VA
theorem mStep (t : Bool) (s : ByteArray) (a b n e : Int) : MCall Tryz.prog gl 70 [cR t s a b] [.ptr 0 0, intA .i64 n, intA .i64 e] [cR t s (IntKind.i64.wrap (a + n)) e] (.tup []) := by
  refine mcall_of_vcb htb hmix (f := 70) rfl rfl rfl (by kernel_rfl) rfl rfl rfl fun hb hb2 => ?_; simp only [bndPre, bndAll, AV.bnd, bnds, C.bnd, true_and, and_true] at hb hb2; conv => whnf
  repeat' (fail)
  exact ⟨Le.refl _, ⟨LeC.refl _, LeC.refl _, LeC.refl _, trivial⟩, trivial⟩
def RgOk (s : ByteArray) (a e : Int) : Prop := e = 0 → 0 ≤ a ∧ a ≤ s.size
def rTx (s : ByteArray) (a b : Int) : ByteArray × Int × Int := if b != 0 then (ByteArray.empty, a, b) else ((gStr s a.toNat (s.size - a.toNat) 24).1, a + (gStr s a.toNat (s.size - a.toNat) 24).2.1, (gStr s a.toNat (s.size - a.toNat) 24).2.2)
def rKd (s : ByteArray) (a b : Int) : Int × Int × Int := if b != 0 then (0, a, b) else if decide (a ≥ s.size) then (0, a + 1, 2) else (byteAt s a, a + 1, if decide (byteAt s a > 2) then 4 else 0)
theorem nB_one (s : ByteArray) (k : Nat) : (nB (fun i => (s.data.toList[k + i]?).getD 0) 0 1 : Int) = byteN s k := by
  simp [nB, byteN]
theorem mTextA (t : Bool) (s : ByteArray) (a b : Int) (h : RgOk s a b) : MCall Tryz.prog gl 48 [cR t s a b] [.ptr 0 0] [cR t s (rTx s a b).2.1 (rTx s a b).2.2] (.c (.v (.string (rTx s a b).1))) := by
  by_cases hb0 : b = 0
  · obtain ⟨h0, h1⟩ := h hb0
    have hM : (0 : Int) ≤ a ∧ a ≤ s.size := ⟨h0, h1⟩
    subst hb0
    have ok := gStr_ok s a.toNat (s.size - a.toNat) 24
    have e : rTx s a 0 = ((gStr s a.toNat (s.size - a.toNat) 24).1, a + (gStr s a.toNat (s.size - a.toNat) 24).2.1, (gStr s a.toNat (s.size - a.toNat) 24).2.2) := by unfold rTx; rw [if_neg (by decide)]
    rw [e]
    refine mcall_of_vcb htb hmix (f := 48) rfl rfl rfl (by kernel_rfl) rfl rfl rfl fun hb hb2 => ?_; simp only [bndPre, bndAll, AV.bnd, bnds, C.bnd, true_and, and_true] at hb hb2; conv => whnf
    have hn := hb.1
    repeat' (first | (refine Exists.intro _ (And.intro (chainI (aGetStr _ _ _ _ _)) ?_); conv => whnf) | (refine And.intro (fun h => ?_) (fun h => ?_) <;> (first | skip) <;> (first | exact absurd h (by decide) | (conv => whnf))) | ((with_reducible refine DOr.l ?_); (conv => whnf)) | (refine And.intro ?_ ?_; (focus (first | (first | assumption) | fail)); conv => whnf) | ((with_reducible refine xc_guard ?_); refine xc_mb (by (conv => whnf); repeat' (first | exact trivial | exact rfl | exact LeC.refl _ | ((with_reducible refine And.intro ?_ ?_) <;> conv => whnf))) (mStep _ _ _ _ _ _) rfl rfl rfl rfl ?_; conv => whnf) | fail)
    refine ⟨Le.refl _, ⟨LeC.refl _, LeC.of_eq (C.eqI ?_), LeC.refl _, trivial⟩, trivial⟩
    by_cases hz : (gStr s a.toNat (s.size - a.toNat) 24).2.2 = 0
    · have := ok.1 hz
      exact wrap64 (by omega) (by omega)
    · have := (ok.2 hz).2
      exact wrap64 (by omega) (by omega)
  · have e : rTx s a b = (ByteArray.empty, a, b) := by unfold rTx; rw [if_pos (by simpa using hb0)]
    rw [e]
    have hq : (b != 0) = true := by simpa using hb0
    refine mcall_of_vcb htb hmix (f := 48) rfl rfl rfl (by kernel_rfl) rfl rfl rfl fun hb hb2 => ?_; simp only [bndPre, bndAll, AV.bnd, bnds, C.bnd, true_and, and_true] at hb hb2; conv => whnf
    repeat' (first | (refine And.intro (fun h => ?_) (fun h => ?_) <;> (first | skip) <;> (first | (conv => whnf))) | ((with_reducible refine DOr.l ?_); (conv => whnf)) | fail)
    · exact ⟨Le.refl _, ⟨LeC.refl _, LeC.refl _, LeC.refl _, trivial⟩, trivial⟩
    · exact absurd (h.symm.trans hq) (by decide)
theorem mNumA (t : Bool) (s : ByteArray) (a b : Int) (h : RgOk s a b) : MCall Tryz.prog gl 50 [cR t s a b] [.ptr 0 0] [cR t s (rShort s a b).2.1 (rShort s a b).2.2] (intA .u64 (rShort s a b).1) := by
  by_cases hb0 : b = 0
  · obtain ⟨h0, h1⟩ := h hb0
    have hM : (0 : Int) ≤ a ∧ a ≤ s.size := ⟨h0, h1⟩
    subst hb0
    have ok := gS_ok s a.toNat (s.size - a.toNat) 0 0 (Int.le_refl 0)
    have bad := gS_bad s a.toNat (s.size - a.toNat) 0 0
    have e : rShort s a 0 = ((gS s a.toNat (s.size - a.toNat) 0 0).1, a + (gS s a.toNat (s.size - a.toNat) 0 0).2.1, (gS s a.toNat (s.size - a.toNat) 0 0).2.2) := by unfold rShort; rw [if_neg (by decide)]
    rw [e]
    refine mcall_of_vcb htb hmix (f := 50) rfl rfl rfl (by kernel_rfl) rfl rfl rfl fun hb hb2 => ?_; simp only [bndPre, bndAll, AV.bnd, bnds, C.bnd, true_and, and_true] at hb hb2; conv => whnf
    have hn := hb.1
    repeat' (first | (refine Exists.intro _ (And.intro (chainI (aGetShort _ _ _ _)) ?_); conv => whnf) | (refine And.intro (fun h => ?_) (fun h => ?_) <;> (first | skip) <;> (first | exact absurd h (by decide) | (conv => whnf))) | ((with_reducible refine DOr.l ?_); (conv => whnf)) | (refine And.intro ?_ ?_; (focus (first | (first | assumption) | fail)); conv => whnf) | ((with_reducible refine xc_guard ?_); refine xc_mb (by (conv => whnf); repeat' (first | exact trivial | exact rfl | exact LeC.refl _ | ((with_reducible refine And.intro ?_ ?_) <;> conv => whnf))) (mStep _ _ _ _ _ _) rfl rfl rfl rfl ?_; conv => whnf) | fail)
    refine ⟨Le.refl _, ⟨LeC.refl _, LeC.of_eq (C.eqI ?_), LeC.refl _, trivial⟩, trivial⟩
    by_cases hz : (gS s a.toNat (s.size - a.toNat) 0 0).2.2 = 0
    · have := ok hz
      exact wrap64 (by omega) (by omega)
    · have := (bad hz).2
      exact wrap64 (by omega) (by omega)
  · have e : rShort s a b = (0, a, b) := by unfold rShort; rw [if_pos (by simpa using hb0)]
    rw [e]
    have hq : (b != 0) = true := by simpa using hb0
    refine mcall_of_vcb htb hmix (f := 50) rfl rfl rfl (by kernel_rfl) rfl rfl rfl fun hb hb2 => ?_; simp only [bndPre, bndAll, AV.bnd, bnds, C.bnd, true_and, and_true] at hb hb2; conv => whnf
    repeat' (first | (refine And.intro (fun h => ?_) (fun h => ?_) <;> (first | skip) <;> (first | (conv => whnf))) | ((with_reducible refine DOr.l ?_); (conv => whnf)) | fail)
    · exact ⟨Le.refl _, ⟨LeC.refl _, LeC.refl _, LeC.refl _, trivial⟩, trivial⟩
    · exact absurd (h.symm.trans hq) (by decide)
theorem mKindA (t : Bool) (s : ByteArray) (a b : Int) (h : RgOk s a b) : MCall Tryz.prog gl 49 [cR t s a b] [.ptr 0 0] [cR t s (rKd s a b).2.1 (rKd s a b).2.2] (intA .i64 (rKd s a b).1) := by
  by_cases hb0 : b = 0
  · obtain ⟨h0, h1⟩ := h hb0
    have hM : (0 : Int) ≤ a ∧ a ≤ s.size := ⟨h0, h1⟩
    subst hb0
    have hlt := byteN_lt s a.toNat
    have G : ACall Tryz.prog gl 71 [.c (.sl t 1 (s.size - a.toNat) (fun i => strCells s (a.toNat + i))), intA .i64 1] [] (.tup [intA .u64 (if s.size - a.toNat < 1 then 0 else byteN s a.toNat), intA .i64 (if s.size - a.toNat < 1 then 2 else 0)]) := by
      have := aNumGet t (s.size - a.toNat) (fun i => (s.data.toList[a.toNat + i]?).getD 0) 1 (by decide) (by decide)
      rw [nB_one] at this
      exact this
    by_cases hsz : s.size - a.toNat < 1
    · rw [if_pos hsz, if_pos hsz] at G
      have e : rKd s a 0 = (0, a + 1, 2) := by unfold rKd; rw [if_neg (by decide), if_pos (by simp; omega)]
      rw [e]
      refine mcall_of_vcb htb hmix (f := 49) rfl rfl rfl (by kernel_rfl) rfl rfl rfl fun hb hb2 => ?_; simp only [bndPre, bndAll, AV.bnd, bnds, C.bnd, true_and, and_true] at hb hb2; conv => whnf
      have hn := hb.1
      repeat' (first | (refine Exists.intro _ (And.intro (chainI (G)) ?_); conv => whnf) | (refine And.intro (fun h => ?_) (fun h => ?_) <;> (first | skip) <;> (first | exact absurd h (by decide) | (conv => whnf))) | ((with_reducible refine DOr.l ?_); (conv => whnf)) | (refine And.intro ?_ ?_; (focus (first | (first | assumption) | fail)); conv => whnf) | ((with_reducible refine xc_guard ?_); refine xc_mb (by (conv => whnf); repeat' (first | exact trivial | exact rfl | exact LeC.refl _ | ((with_reducible refine And.intro ?_ ?_) <;> conv => whnf))) (mStep _ _ _ _ _ _) rfl rfl rfl rfl ?_; conv => whnf) | fail)
      exact ⟨Le.refl _, ⟨LeC.refl _, LeC.of_eq (C.eqI (wrap64 (by omega) (by omega))), LeC.refl _, trivial⟩, trivial⟩
    · rw [if_neg hsz, if_neg hsz] at G
      have e : rKd s a 0 = (byteN s a.toNat, a + 1, if decide (byteN s a.toNat > 2) then 4 else 0) := by unfold rKd; rw [if_neg (by decide), if_neg (by simp; omega)]
      rw [e]
      have wb : IntKind.i64.wrap (byteN s a.toNat) = byteN s a.toNat := wrap64 (by omega) (by omega)
      refine mcall_of_vcb htb hmix (f := 49) rfl rfl rfl (by kernel_rfl) rfl rfl rfl fun hb hb2 => ?_; simp only [bndPre, bndAll, AV.bnd, bnds, C.bnd, true_and, and_true] at hb hb2; conv => whnf
      have hn := hb.1
      repeat' (first | (refine Exists.intro _ (And.intro (chainI (G)) ?_); conv => whnf) | (refine And.intro (fun h => ?_) (fun h => ?_) <;> (first | skip) <;> (first | exact absurd h (by decide) | (conv => whnf))) | ((with_reducible refine DOr.l ?_); (conv => whnf)) | (refine And.intro ?_ ?_; (focus (first | (first | assumption) | fail)); conv => whnf) | ((with_reducible refine xc_guard ?_); refine xc_mb (by (conv => whnf); repeat' (first | exact trivial | exact rfl | exact LeC.refl _ | ((with_reducible refine And.intro ?_ ?_) <;> conv => whnf))) (mStep _ _ _ _ _ _) rfl rfl rfl rfl ?_; conv => whnf) | fail)
      · rw [if_pos (by simpa using h)]
        exact ⟨leI wb, ⟨LeC.refl _, LeC.of_eq (C.eqI (wrap64 (by omega) (by omega))), LeC.refl _, trivial⟩, trivial⟩
      · rw [if_neg (by simpa using h)]
        exact ⟨leI wb, ⟨LeC.refl _, LeC.of_eq (C.eqI (wrap64 (by omega) (by omega))), LeC.refl _, trivial⟩, trivial⟩
  · have e : rKd s a b = (0, a, b) := by unfold rKd; rw [if_pos (by simpa using hb0)]
    rw [e]
    have hq : (b != 0) = true := by simpa using hb0
    refine mcall_of_vcb htb hmix (f := 49) rfl rfl rfl (by kernel_rfl) rfl rfl rfl fun hb hb2 => ?_; simp only [bndPre, bndAll, AV.bnd, bnds, C.bnd, true_and, and_true] at hb hb2; conv => whnf
    repeat' (first | (refine And.intro (fun h => ?_) (fun h => ?_) <;> (first | skip) <;> (first | (conv => whnf))) | ((with_reducible refine DOr.l ?_); (conv => whnf)) | fail)
    · exact ⟨Le.refl _, ⟨LeC.refl _, LeC.refl _, LeC.refl _, trivial⟩, trivial⟩
    · exact absurd (h.symm.trans hq) (by decide)
end Go.Proofs.YtcgcamfhollnlaaGreatDoor
