/- Contracts of functions of the program, and the laws that stand on them: what each function answers, whatever its arguments. -/
import Derived.Test.YtcgcamfhollnlaaGreatDoorVw5
set_option linter.unusedSectionVars false
set_option linter.unnecessarySimpa false
namespace Go.Proofs.YtcgcamfhollnlaaGreatDoor
set_option linter.unusedSimpArgs false
set_option linter.unusedVariables false
set_option maxRecDepth 100000
set_option maxHeartbeats 8000000
open Go Go.VA
theorem u64nn (n : Int) : 0 ≤ IntKind.u64.wrap n := by
  show 0 ≤ n % _
  exact Int.emod_nonneg _ (by decide)
abbrev cR (t : Bool) (s : ByteArray) (at' bad : Int) : List C := [.sl t 1 s.size (strCells s), .v (.int .i64 at'), .v (.int .i64 bad)]
def failB (b e : Int) : Int := if b == 0 then e else b
theorem mFail (t : Bool) (s : ByteArray) (a b e : Int) : MCall Tryz.prog gl 53 [cR t s a b] [.ptr 0 0, intA .i64 e] [cR t s a (failB b e)] (.tup []) := by
  refine mcall_of_vcb htb hmix (f := 53) rfl rfl rfl (by kernel_rfl) rfl rfl rfl fun hb hb2 => ?_; simp only [bndPre, bndAll, AV.bnd, bnds, C.bnd, true_and, and_true] at hb hb2; conv => whnf
  repeat' (first | (refine And.intro (fun h => ?_) (fun h => ?_) <;> (first | skip) <;> conv => whnf) | fail)
  all_goals exact ⟨Le.refl _, ⟨LeC.refl _, LeC.refl _, LeC.of_eq (by simp [failB, h]; done), trivial⟩, trivial⟩
def byteN (s : ByteArray) (i : Nat) : Int := ((s.data.toList[i]?).getD 0).toNat
abbrev byteAt (s : ByteArray) (i : Int) : Int := byteN s i.toNat
def rByte (s : ByteArray) (a b : Int) : Int × Int × Int := if b != 0 then (0, a, b) else if decide (a ≥ s.size) then (0, a, 2) else (byteAt s a, a + 1, 0)
theorem mByte (t : Bool) (s : ByteArray) (a b : Int) (h0 : 0 ≤ a) (h1 : a ≤ s.size) : MCall Tryz.prog gl 73 [cR t s a b] [.ptr 0 0] [cR t s (rByte s a b).2.1 (rByte s a b).2.2] (intA .u8 (rByte s a b).1) := by
  refine mcall_of_vcb htb hmix (f := 73) rfl rfl rfl (by kernel_rfl) rfl rfl rfl fun hb hb2 => ?_; simp only [bndPre, bndAll, AV.bnd, bnds, C.bnd, true_and, and_true] at hb hb2; conv => whnf
  repeat' (first | (refine And.intro (fun h => ?_) (fun h => ?_) <;> (first | (with_reducible have hd : _ ≤ _ := of_decide_eq_true h) | (with_reducible have hd : ¬ (_ ≤ _) := of_decide_eq_false h) | skip) <;> conv => whnf) | (refine And.intro ?_ ?_; (focus (first | (refine chainI ?_; (first | (simp only [IntKind.wrap_i64]; first | omega | (refine And.intro ?_ ?_ <;> omega)))) | fail)); conv => whnf) | ((with_reducible refine xc_guard ?_); refine xc_mb (by (conv => whnf); repeat' (first | exact trivial | exact rfl | exact LeC.refl _ | ((with_reducible refine And.intro ?_ ?_) <;> conv => whnf))) (mFail _ _ _ _ _) rfl rfl rfl rfl ?_; conv => whnf) | fail)
  · have e : rByte s a b = (0, a, b) := by unfold rByte; rw [if_pos h]
    rw [e]
    exact ⟨Le.refl _, ⟨LeC.refl _, LeC.refl _, LeC.refl _, trivial⟩, trivial⟩
  · rename_i hb0
    have e : rByte s a b = (0, a, 2) := by unfold rByte; rw [if_neg (by rw [hb0]; simp), if_pos h]
    have e2 : failB b 2 = 2 := by simp at hb0; simp [failB, hb0]
    rw [e, e2]
    exact ⟨Le.refl _, ⟨LeC.refl _, LeC.refl _, LeC.refl _, trivial⟩, trivial⟩
  · rename_i hb0
    have e : rByte s a b = (byteAt s a, a + 1, 0) := by unfold rByte; rw [if_neg (by rw [hb0]; simp), if_neg (by rw [h]; simp)]
    have w1 : IntKind.i64.wrap (a + 1) = a + 1 := wrap64 (by omega) (by omega)
    have w2 : IntKind.i64.wrap (IntKind.i64.wrap (a + 1) - 1) = a := by rw [w1, wrap64 (by omega) (by omega)]; omega
    have b0 : b = 0 := by simpa using hb0
    rw [e]
    exact ⟨leI (by rw [w2]; rfl), ⟨LeC.refl _, LeC.of_eq (C.eqI w1), LeC.of_eq (by rw [b0]), trivial⟩, trivial⟩
def zag (n : Int) : Int := bitsI .xor .i64 (IntKind.i64.wrap (shrI .u64 n 1)) (IntKind.i64.wrap (0 - (IntKind.i64.wrap (bitsI .and .u64 n 1))))
theorem aZag (n : Int) : ACall Tryz.prog gl 74 [intA .u64 n] [] (intA .i64 (zag n)) := by
  refine acall_of_vc htb hmix (f := 74) rfl rfl rfl (by kernel_rfl) rfl rfl ?_; conv => whnf
  repeat' (first | (refine And.intro ?_ ?_; (focus (first | (refine chainI ?_; (first | decide | fail)) | fail)); conv => whnf) | fail)
  exact Le.refl _
def gSt (acc : Int) (i : Nat) (c : Int) : Int := bitsI .or .u64 acc (shlI .u64 (IntKind.u64.wrap (bitsI .and .u8 c 127)) (IntKind.u64.wrap (7 * IntKind.u64.wrap i)))
def gS (s : ByteArray) (k : Nat) : Nat → Nat → Int → Int × Int × Int
  | 0, _, _ => (0, 0, 2)
  | m + 1, i, acc =>
    if ((i : Int) == 9 && decide (byteN s (k + i) > 1)) then (0, 0, 4)
    else if decide (byteN s (k + i) < 128) then (if (byteN s (k + i) == 0 && decide ((i : Int) > 0)) then (0, 0, 4) else (gSt acc i (byteN s (k + i)), (i : Int) + 1, 0))
    else gS s k m (i + 1) (gSt acc i (byteN s (k + i)))
def gT (p : Int × Int × Int) : AV := .tup [intA .u64 p.1, intA .i64 p.2.1, intA .i64 p.2.2]
theorem aGetShort (t : Bool) (n : Nat) (s : ByteArray) (k : Nat) : ACall Tryz.prog gl 72 [.c (.sl t 1 n (fun i => strCells s (k + i)))] [] (gT (gS s k n 0 0)) := by
  refine acall_of_vcb htb hmix (f := 72) rfl rfl rfl (by kernel_rfl) rfl rfl fun hb => ?_; simp only [bndAll, AV.bnd, bnds, C.bnd, cVt, cS, true_and, and_true] at hb; conv => whnf
  repeat' (fail)
  have hn : n ≤ 140737488355328 := hb.1
  refine loopI (Nat × Int) (fun p => p.1 ≤ n ∧ gS s k (n - p.1) p.1 p.2 = gS s k n 0 0) (fun p => [(9, intA .i64 p.1), (2, intA .u64 p.2), (3, intA .i64 0), (4, intA .i64 0)]) (fun _ => []) (fun p => n - p.1) (0, 0) ⟨Nat.zero_le _, rfl⟩ ?_ (fun _ => rfl) fun ⟨i, acc⟩ ⟨hi, hR⟩ => ?_
  · (refine And.intro ?_ (And.intro ?_ (And.intro ?_ rfl)) <;> (conv => whnf) <;> repeat' (first | exact trivial | exact LeE.of (Le.refl _) | (first | exact rfl | fail) | ((with_reducible refine And.intro ?_ ?_) <;> conv => whnf)))
  · change i ≤ n at hi
    change gS s k (n - i) i acc = _ at hR
    conv => whnf
    repeat' (first | (refine And.intro (fun h => ?_) (fun h => ?_) <;> (first | (with_reducible have hd : _ < _ := of_decide_eq_true h) | (with_reducible have hd : ¬ (_ < _) := of_decide_eq_false h) | skip) <;> conv => whnf) | (refine And.intro ?_ ?_; (focus (first | (first | exact u64nn _ | fail) | (refine chainI ?_; (first | omega | fail)) | fail)); conv => whnf) | fail)
    · have h : ((i : Int) == 9 && decide (byteN s (k + i) > 1)) = true := h
      have hi' : i < n := by omega
      have e : gS s k n 0 0 = (0, 0, 4) := by rw [← hR, show n - i = (n - (i + 1)) + 1 from by omega]; simp only [gS]; rw [if_pos h]
      rw [e]; exact Le.refl _
    · rename_i h1 h2
      have h1 : ((i : Int) == 9 && decide (byteN s (k + i) > 1)) = false := h1
      have h2 : decide (byteN s (k + i) < 128) = true := h2
      have h : (byteN s (k + i) == 0 && decide ((i : Int) > 0)) = true := h
      have hi' : i < n := by omega
      have e : gS s k n 0 0 = (0, 0, 4) := by rw [← hR, show n - i = (n - (i + 1)) + 1 from by omega]; simp only [gS]; rw [if_neg (by rw [h1]; simp), if_pos h2, if_pos h]
      rw [e]; exact Le.refl _
    · rename_i h1 h2
      have h1 : ((i : Int) == 9 && decide (byteN s (k + i) > 1)) = false := h1
      have h2 : decide (byteN s (k + i) < 128) = true := h2
      have h : (byteN s (k + i) == 0 && decide ((i : Int) > 0)) = false := h
      have hi' : i < n := by omega
      have e : gS s k n 0 0 = (gSt acc i (byteN s (k + i)), (i : Int) + 1, 0) := by rw [← hR, show n - i = (n - (i + 1)) + 1 from by omega]; simp only [gS]; rw [if_neg (by rw [h1]; simp), if_pos h2, if_neg (by rw [h]; simp)]
      rw [e]
      exact leTup3 (Le.refl _) (leI (wrap64 (by omega) (by omega))) (Le.refl _)
    · rename_i h1
      have h1 : ((i : Int) == 9 && decide (byteN s (k + i) > 1)) = false := h1
      have h : decide (byteN s (k + i) < 128) = false := h
      have hi' : i < n := by omega
      refine ⟨(i + 1, gSt acc i (byteN s (k + i))), ⟨hi', ?_⟩, ?_, by show n - (i + 1) < n - i; omega⟩
      · rw [← hR, show n - i = (n - (i + 1)) + 1 from by omega]
        simp only [gS]; rw [if_neg (by rw [h1]; simp), if_neg (by rw [h]; simp)]
      · (refine And.intro ?_ (And.intro ?_ (And.intro ?_ rfl)) <;> (conv => whnf) <;> repeat' (first | exact trivial | exact LeE.of (Le.refl _) | (with_reducible refine LeE.of ?_) | (first | exact rfl | exact leI (by first | rfl | (rw [wrap64 (by omega) (by omega)]; omega) | fail) | fail) | ((with_reducible refine And.intro ?_ ?_) <;> conv => whnf)))
    · obtain rfl : i = n := by
        have : ¬ ((i : Int) < n) := hd
        omega
      have e : gS s k i 0 0 = (0, 0, 2) := by rw [← hR, Nat.sub_self]; rfl
      rw [e]; exact Le.refl _
end Go.Proofs.YtcgcamfhollnlaaGreatDoor
