/- Contracts of functions of the program, and the laws that stand on them: what each function answers, whatever its arguments. -/
import Derived.Test.YtcgcamfhollnlaaGreatDoorC1
set_option linter.unusedSectionVars false
set_option linter.unnecessarySimpa false
namespace Go.Proofs.YtcgcamfhollnlaaGreatDoor
set_option linter.unusedSimpArgs false
set_option linter.unusedVariables false
set_option maxRecDepth 100000
set_option maxHeartbeats 8000000
open Go Go.VA
theorem isB (n : Nat) (s : ByteArray) (f : Nat → Nat) : isBytes n (fun i => strCells s (f i)) := fun i _ => ⟨_, rfl⟩
theorem gSt_nn (acc : Int) (i : Nat) (c : Int) : 0 ≤ gSt acc i c := u64nn _
theorem gS_ok (s : ByteArray) (k : Nat) : ∀ (m i : Nat) (acc : Int), 0 ≤ acc → (gS s k m i acc).2.2 = 0 → (i : Int) < (gS s k m i acc).2.1 ∧ (gS s k m i acc).2.1 ≤ i + m ∧ 0 ≤ (gS s k m i acc).1
  | 0, i, acc, _, h => by simp [gS] at h
  | m + 1, i, acc, ha, h => by
    simp only [gS] at h ⊢
    split at h
    · simp at h
    · rename_i h1
      rw [if_neg h1]
      split at h
      · rename_i h2
        rw [if_pos h2]
        split at h
        · simp at h
        · rename_i h3
          rw [if_neg h3]
          exact ⟨by show (i : Int) < i + 1; omega, by show (i : Int) + 1 ≤ i + (m + 1 : Nat); omega, gSt_nn _ _ _⟩
      · rename_i h2
        rw [if_neg h2]
        have := gS_ok s k m (i + 1) _ (gSt_nn acc i _) h
        refine ⟨by have := this.1; omega, by have := this.2.1; omega, this.2.2⟩
theorem wrapU {n : Int} (h0 : 0 ≤ n) (h : n ≤ 9223372036854775807) : IntKind.u64.wrap n = n := by
  show n % 18446744073709551616 = n
  exact Int.emod_eq_of_lt h0 (by omega)
def subS (s : ByteArray) (a m : Nat) : ByteArray := bytesOf m (fun i => strCells s (a + i))
def gStr (s : ByteArray) (k n : Nat) (most : Int) : ByteArray × Int × Int :=
  if (gS s k n 0 0).2.2 != 0 then (ByteArray.empty, 0, (gS s k n 0 0).2.2)
  else if decide ((gS s k n 0 0).1 > IntKind.u64.wrap (if 0 > most then 0 else most)) then (ByteArray.empty, 0, 3)
  else if decide ((gS s k n 0 0).1 > (n : Int) - (gS s k n 0 0).2.1) then (ByteArray.empty, 0, 2)
  else (subS s (k + (gS s k n 0 0).2.1.toNat) (gS s k n 0 0).1.toNat, (gS s k n 0 0).2.1 + (gS s k n 0 0).1, 0)
theorem aGetStr (t : Bool) (n : Nat) (s : ByteArray) (k : Nat) (most : Int) : ACall Tryz.prog gl 69 [.c (.sl t 1 n (fun i => strCells s (k + i))), intA .i64 most] [] (.tup [.c (.v (.string (gStr s k n most).1)), intA .i64 (gStr s k n most).2.1, intA .i64 (gStr s k n most).2.2]) := by
  refine acall_of_vcb htb hmix (f := 69) rfl rfl rfl (by kernel_rfl) rfl rfl fun hb => ?_; simp only [bndAll, AV.bnd, bnds, C.bnd, cVt, cS, true_and, and_true] at hb; conv => whnf
  have hn : n ≤ 140737488355328 := hb.1.1
  have ok := gS_ok s k n 0 0 (Int.le_refl 0)
  repeat' (first | (refine Exists.intro _ (And.intro (aGetShort _ _ _ _) ?_); conv => whnf) | (refine And.intro (fun h => ?_) (fun h => ?_) <;> (first | (with_reducible have hd : _ < _ := of_decide_eq_true h) | (with_reducible have hd : ¬ (_ < _) := of_decide_eq_false h) | skip) <;> conv => whnf) | ((with_reducible refine xc_pure ?_); conv => whnf))
  · have e : gStr s k n most = (ByteArray.empty, 0, (gS s k n 0 0).2.2) := by unfold gStr; rw [if_pos h]
    rw [e]; exact Le.refl _
  · rename_i h1
    have e : gStr s k n most = (ByteArray.empty, 0, 3) := by unfold gStr; rw [if_neg (by rw [h1]; simp), if_pos h]
    rw [e]; exact Le.refl _
  · rename_i h1 h2 _
    have o := ok (by simpa using h1)
    rw [wrap64 (by omega) (by omega), wrapU (by omega) (by omega)] at h
    have e : gStr s k n most = (ByteArray.empty, 0, 2) := by unfold gStr; rw [if_neg (by rw [h1]; simp), if_neg (by rw [h2]; simp), if_pos h]
    rw [e]; exact Le.refl _
  · rename_i h1 h2 _
    have o := ok (by simpa using h1)
    have w1 : IntKind.u64.wrap (IntKind.i64.wrap ((n : Int) - (gS s k n 0 0).2.1)) = (n : Int) - (gS s k n 0 0).2.1 := by rw [wrap64 (by omega) (by omega), wrapU (by omega) (by omega)]
    rw [w1] at h hd
    have e : gStr s k n most = (subS s (k + (gS s k n 0 0).2.1.toNat) (gS s k n 0 0).1.toNat, (gS s k n 0 0).2.1 + (gS s k n 0 0).1, 0) := by unfold gStr; rw [if_neg (by rw [h1]; simp), if_neg (by rw [h2]; simp), if_neg (by rw [h]; simp)]
    have w2 : IntKind.i64.wrap (gS s k n 0 0).1 = (gS s k n 0 0).1 := wrap64 (by omega) (by omega)
    have w3 : IntKind.i64.wrap ((gS s k n 0 0).2.1 + IntKind.i64.wrap (gS s k n 0 0).1) = (gS s k n 0 0).2.1 + (gS s k n 0 0).1 := by rw [w2, wrap64 (by omega) (by omega)]
    rw [e]
    have B1 : 0 ≤ IntKind.i64.wrap ((gS s k n 0 0).2.1 + IntKind.i64.wrap (gS s k n 0 0).1) ∧ IntKind.i64.wrap ((gS s k n 0 0).2.1 + IntKind.i64.wrap (gS s k n 0 0).1) ≤ n := by rw [w3]; omega
    repeat' (first | (refine And.intro ?_ ?_; (focus (first | (first | exact chainI (isB _ _ _) | assumption) | (refine chainI ?_; (first | omega | fail)) | fail)); conv => whnf) | fail)
    refine leTup3 (Le.of_eq ?_) (leI w3) (Le.refl _)
    show AV.c (.v (.string (bytesOf _ _))) = .c (.v (.string (bytesOf _ _)))
    rw [w3, show ((gS s k n 0 0).2.1 + (gS s k n 0 0).1).toNat - (gS s k n 0 0).2.1.toNat = (gS s k n 0 0).1.toNat from by omega]
    simp only [Nat.add_assoc]
theorem gS_bad (s : ByteArray) (k : Nat) : ∀ (m i : Nat) (acc : Int), (gS s k m i acc).2.2 ≠ 0 → (gS s k m i acc).1 = 0 ∧ (gS s k m i acc).2.1 = 0
  | 0, i, acc, h => ⟨rfl, rfl⟩
  | m + 1, i, acc, h => by
    simp only [gS] at h ⊢
    split at h
    · rename_i h1; rw [if_pos h1]; exact ⟨rfl, rfl⟩
    · rename_i h1
      rw [if_neg h1]
      split at h
      · rename_i h2
        rw [if_pos h2]
        split at h
        · rename_i h3; rw [if_pos h3]; exact ⟨rfl, rfl⟩
        · simp at h
      · rename_i h2
        rw [if_neg h2]
        exact gS_bad s k m (i + 1) _ h
def rShort (s : ByteArray) (a b : Int) : Int × Int × Int := if b != 0 then (0, a, b) else ((gS s a.toNat (s.size - a.toNat) 0 0).1, a + (gS s a.toNat (s.size - a.toNat) 0 0).2.1, (gS s a.toNat (s.size - a.toNat) 0 0).2.2)
theorem mShort (t : Bool) (s : ByteArray) (a b : Int) (h0 : 0 ≤ a) (h1 : a ≤ s.size) : MCall Tryz.prog gl 75 [cR t s a b] [.ptr 0 0] [cR t s (rShort s a b).2.1 (rShort s a b).2.2] (intA .u64 (rShort s a b).1) := by
  refine mcall_of_vcb htb hmix (f := 75) rfl rfl rfl (by kernel_rfl) rfl rfl rfl fun hb hb2 => ?_; simp only [bndPre, bndAll, AV.bnd, bnds, C.bnd, true_and, and_true] at hb hb2; conv => whnf
  have ok := gS_ok s a.toNat (s.size - a.toNat) 0 0 (Int.le_refl 0)
  have bad := gS_bad s a.toNat (s.size - a.toNat) 0 0
  have hn := hb.1
  repeat' (first | (refine Exists.intro _ (And.intro (chainI (aGetShort _ _ _ _)) ?_); conv => whnf) | (refine And.intro (fun h => ?_) (fun h => ?_) <;> (first | skip) <;> conv => whnf) | ((with_reducible refine DOr.l ?_); (conv => whnf)) | (refine And.intro ?_ ?_; (focus (first | (refine chainI ?_; (first | omega | fail)) | fail)); conv => whnf) | ((with_reducible refine xc_guard ?_); refine xc_mb (by (conv => whnf); repeat' (first | exact trivial | exact rfl | exact LeC.refl _ | ((with_reducible refine And.intro ?_ ?_) <;> conv => whnf))) (mFail _ _ _ _ _) rfl rfl rfl rfl ?_; conv => whnf) | fail)
  · have e : rShort s a b = (0, a, b) := by unfold rShort; rw [if_pos h]
    rw [e]; exact ⟨Le.refl _, ⟨LeC.refl _, LeC.refl _, LeC.refl _, trivial⟩, trivial⟩
  · rename_i hb0
    have b0 : b = 0 := by simpa using hb0
    have o := bad (by simpa using h)
    have e : rShort s a b = (0, a, (gS s a.toNat (s.size - a.toNat) 0 0).2.2) := by unfold rShort; rw [if_neg (by rw [hb0]; simp), o.1, o.2, Int.add_zero]
    rw [e]
    exact ⟨leI o.1, ⟨LeC.refl _, LeC.of_eq (C.eqI (show IntKind.i64.wrap (a + (gS s a.toNat (s.size - a.toNat) 0 0).2.1) = a by rw [o.2, Int.add_zero]; exact wrap64 (by omega) (by omega))), LeC.of_eq (C.eqI (by rw [b0]; rfl)), trivial⟩, trivial⟩
  · rename_i hb0
    have b0 : b = 0 := by simpa using hb0
    have e0 : (gS s a.toNat (s.size - a.toNat) 0 0).2.2 = 0 := by simpa using h
    have o := ok e0
    have e : rShort s a b = ((gS s a.toNat (s.size - a.toNat) 0 0).1, a + (gS s a.toNat (s.size - a.toNat) 0 0).2.1, 0) := by unfold rShort; rw [if_neg (by rw [hb0]; simp), e0]
    rw [e]
    exact ⟨Le.refl _, ⟨LeC.refl _, LeC.of_eq (C.eqI (wrap64 (by omega) (by omega))), LeC.of_eq (C.eqI b0), trivial⟩, trivial⟩
end Go.Proofs.YtcgcamfhollnlaaGreatDoor
