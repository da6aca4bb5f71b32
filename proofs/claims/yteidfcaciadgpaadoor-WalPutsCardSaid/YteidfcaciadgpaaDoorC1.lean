/- Contracts of functions of the program, and the laws that stand on them: what each function answers, whatever its arguments. -/
import Derived.Test.YteidfcaciadgpaaDoorTT
set_option linter.unusedSectionVars false
set_option linter.unnecessarySimpa false
namespace Go.Proofs.YteidfcaciadgpaaDoor
set_option linter.unusedSimpArgs false
set_option linter.unusedVariables false
set_option maxRecDepth 100000
set_option maxHeartbeats 8000000
open Go Go.VA
theorem u64nn (n : Int) : 0 ≤ IntKind.u64.wrap n := by
  show 0 ≤ n % _
  exact Int.emod_nonneg _ (by decide)
abbrev cR (t : Bool) (s : ByteArray) (at' bad : Int) : List C := [.sl t 1 s.size (strCells s), .v (.int .i64 at'), .v (.int .i64 bad)]
def failB (b e : Int) : Int := if b == 0 then e else b
def byteN (s : ByteArray) (i : Nat) : Int := ((s.data.toList[i]?).getD 0).toNat
abbrev byteAt (s : ByteArray) (i : Int) : Int := byteN s i.toNat
def gSt (acc : Int) (i : Nat) (c : Int) : Int := bitsI .or .u64 acc (shlI .u64 (IntKind.u64.wrap (bitsI .and .u8 c 127)) (IntKind.u64.wrap (7 * IntKind.u64.wrap i)))
def gS (s : ByteArray) (k : Nat) : Nat → Nat → Int → Int × Int × Int
  | 0, _, _ => (0, 0, 2)
  | m + 1, i, acc =>
    if ((i : Int) == 9 && decide (byteN s (k + i) > 1)) then (0, 0, 4)
    else if decide (byteN s (k + i) < 128) then (if (byteN s (k + i) == 0 && decide ((i : Int) > 0)) then (0, 0, 4) else (gSt acc i (byteN s (k + i)), (i : Int) + 1, 0))
    else gS s k m (i + 1) (gSt acc i (byteN s (k + i)))
def gT (p : Int × Int × Int) : AV := .tup [intA .u64 p.1, intA .i64 p.2.1, intA .i64 p.2.2]
theorem aGetShort (t : Bool) (n : Nat) (s : ByteArray) (k : Nat) : ACall Tryd.prog gl 47 [.c (.sl t 1 n (fun i => strCells s (k + i)))] [] (gT (gS s k n 0 0)) := by
  refine acall_of_vcb htb hmix (f := 47) rfl rfl rfl (by kernel_rfl) rfl rfl fun hb => ?_; simp only [bndAll, AV.bnd, bnds, C.bnd, cVt, cS, true_and, and_true] at hb; conv => whnf
  repeat' (first | fail)
  have hn : n ≤ 140737488355328 := hb.1
  refine loopI (Nat × Int) (fun p => p.1 ≤ n ∧ gS s k (n - p.1) p.1 p.2 = gS s k n 0 0) (fun p => [(9, intA .i64 p.1), (2, intA .u64 p.2), (3, intA .i64 0), (4, intA .i64 0)]) (fun _ => []) (fun p => n - p.1) (0, 0) ⟨Nat.zero_le _, rfl⟩ ?_ (fun _ => rfl) fun ⟨i, acc⟩ ⟨hi, hR⟩ => ?_
  · (refine And.intro ?_ (And.intro ?_ (And.intro ?_ rfl)) <;> (conv => whnf) <;> repeat' (first | exact trivial | exact LeE.of (Le.refl _) | exact LeE.nil rfl | (with_reducible refine LeE.of ?_) | (first | fail | exact Le.refl _ | exact rfl | exact leI (by first | rfl | omega | (rw [wrap64 (by omega) (by omega)]; omega) | (rw [wrap64 (by omega) (by omega)]; done)) | exact LeCs.refl _ | exact fun i hi => LeCs.refl _ | exact leOwn (by first | rfl | omega)) | ((with_reducible refine And.intro ?_ ?_) <;> conv => whnf)))
  · change i ≤ n at hi
    change gS s k (n - i) i acc = _ at hR
    conv => whnf
    repeat' (first | (refine And.intro (fun h => ?_) (fun h => ?_) <;> (first | (with_reducible have hd : _ < _ := of_decide_eq_true h) | (with_reducible have hd : _ ≤ _ := of_decide_eq_true h) | (with_reducible have hd : ¬ (_ < _) := of_decide_eq_false h) | (with_reducible have hd : ¬ (_ ≤ _) := of_decide_eq_false h) | skip) <;> conv => whnf) | (refine And.intro ?_ ?_; (focus (first | exact trivial | exact rfl | (first | exact seT | exact u64nn _ | assumption) | (refine chainI ?_; (first | (first | exact seT | exact u64nn _ | assumption) | decide | omega | (refine And.intro ?_ ?_ <;> first | omega | (simp; omega)) | (simp only [IntKind.wrap_i64]; first | omega | (refine And.intro ?_ ?_ <;> omega)))) | (intro _; (first | (first | exact seT | exact u64nn _ | assumption) | decide | omega | (refine And.intro ?_ ?_ <;> first | omega | (simp; omega)) | (simp only [IntKind.wrap_i64]; first | omega | (refine And.intro ?_ ?_ <;> omega)))) | (intro _ _; (first | (first | exact seT | exact u64nn _ | assumption) | decide | omega | (refine And.intro ?_ ?_ <;> first | omega | (simp; omega)) | (simp only [IntKind.wrap_i64]; first | omega | (refine And.intro ?_ ?_ <;> omega)))) | (first | decide | omega | (refine And.intro ?_ ?_ <;> first | omega | (simp; omega)) | (simp only [IntKind.wrap_i64]; first | omega | (refine And.intro ?_ ?_ <;> omega))) | ((conv => whnf); intros; (try simp only [decide_eq_true_eq, decide_eq_false_iff_not, Bool.and_eq_true, Bool.or_eq_true, Bool.and_eq_false_imp, Bool.or_eq_false_iff, Bool.not_eq_true', Bool.not_eq_false', beq_iff_eq, bne_iff_ne, ne_eq] at *); (first | (first | exact seT | exact u64nn _ | assumption) | decide | omega | (refine And.intro ?_ ?_ <;> first | omega | (simp; omega)) | (simp only [IntKind.wrap_i64]; first | omega | (refine And.intro ?_ ?_ <;> omega)))))); conv => whnf))
    · have h : ((i : Int) == 9 && decide (byteN s (k + i) > 1)) = true := h
      have hi' : i < n := by omega
      have e : gS s k n 0 0 = (0, 0, 4) := by rw [← hR, show n - i = (n - (i + 1)) + 1 from by omega]; simp only [gS]; rw [if_pos h]
      rw [e]; exact Le.refl _
    · rename_i h1 h2
      have h1 : ((i : Int) == 9 && decide (byteN s (k + i) > 1)) = false := h1
      have h2 : decide (byteN s (k + i) < 128) = true := h2
      have h : (byteN s (k + i) == 0 && decide ((i : Int) > 0)) = true := h
      have hi' : i < n := by omega
      have e : gS s k n 0 0 = (0, 0, 4) := by rw [← hR, show n - i = (n - (i + 1)) + 1 from by omega]; simp only [gS]; rw [if_neg (by rw [h1]; simp), if_pos h2, if_pos h]
      rw [e]; exact Le.refl _
    · rename_i h1 h2
      have h1 : ((i : Int) == 9 && decide (byteN s (k + i) > 1)) = false := h1
      have h2 : decide (byteN s (k + i) < 128) = true := h2
      have h : (byteN s (k + i) == 0 && decide ((i : Int) > 0)) = false := h
      have hi' : i < n := by omega
      have e : gS s k n 0 0 = (gSt acc i (byteN s (k + i)), (i : Int) + 1, 0) := by rw [← hR, show n - i = (n - (i + 1)) + 1 from by omega]; simp only [gS]; rw [if_neg (by rw [h1]; simp), if_pos h2, if_neg (by rw [h]; simp)]
      rw [e]
      exact leTup3 (Le.refl _) (leI (wrap64 (by omega) (by omega))) (Le.refl _)
    · rename_i h1
      have h1 : ((i : Int) == 9 && decide (byteN s (k + i) > 1)) = false := h1
      have h : decide (byteN s (k + i) < 128) = false := h
      have hi' : i < n := by omega
      refine ⟨(i + 1, gSt acc i (byteN s (k + i))), ⟨hi', ?_⟩, ?_, by show n - (i + 1) < n - i; omega⟩
      · rw [← hR, show n - i = (n - (i + 1)) + 1 from by omega]
        simp only [gS]; rw [if_neg (by rw [h1]; simp), if_neg (by rw [h]; simp)]
      · (refine And.intro ?_ (And.intro ?_ (And.intro ?_ rfl)) <;> (conv => whnf) <;> repeat' (first | exact trivial | exact LeE.of (Le.refl _) | exact LeE.nil rfl | (with_reducible refine LeE.of ?_) | (first | fail | exact Le.refl _ | exact rfl | exact leI (by first | rfl | omega | (rw [wrap64 (by omega) (by omega)]; omega) | (rw [wrap64 (by omega) (by omega)]; done)) | exact LeCs.refl _ | exact fun i hi => LeCs.refl _ | exact leOwn (by first | rfl | omega)) | ((with_reducible refine And.intro ?_ ?_) <;> conv => whnf)))
    · obtain rfl : i = n := by
        have : ¬ ((i : Int) < n) := hd
        omega
      have e : gS s k i 0 0 = (0, 0, 2) := by rw [← hR, Nat.sub_self]; rfl
      rw [e]; exact Le.refl _
end Go.Proofs.YteidfcaciadgpaaDoor

namespace Go.Proofs.YteidfcaciadgpaaDoor
set_option linter.unusedSimpArgs false
set_option linter.unusedVariables false
set_option maxRecDepth 100000
set_option maxHeartbeats 8000000
open Go Go.VA
theorem isB (n : Nat) (s : ByteArray) (f : Nat → Nat) : isBytes n (fun i => strCells s (f i)) := fun i _ => ⟨_, rfl⟩
theorem gSt_nn (acc : Int) (i : Nat) (c : Int) : 0 ≤ gSt acc i c := u64nn _
theorem gS_ok (s : ByteArray) (k : Nat) : ∀ (m i : Nat) (acc : Int), 0 ≤ acc → (gS s k m i acc).2.2 = 0 → (i : Int) < (gS s k m i acc).2.1 ∧ (gS s k m i acc).2.1 ≤ i + m ∧ 0 ≤ (gS s k m i acc).1
  | 0, i, acc, _, h => by simp [gS] at h
  | m + 1, i, acc, ha, h => by
    simp only [gS] at h ⊢
    split at h
    · simp at h
    · rename_i h1
      rw [if_neg h1]
      split at h
      · rename_i h2
        rw [if_pos h2]
        split at h
        · simp at h
        · rename_i h3
          rw [if_neg h3]
          exact ⟨by show (i : Int) < i + 1; omega, by show (i : Int) + 1 ≤ i + (m + 1 : Nat); omega, gSt_nn _ _ _⟩
      · rename_i h2
        rw [if_neg h2]
        have := gS_ok s k m (i + 1) _ (gSt_nn acc i _) h
        refine ⟨by have := this.1; omega, by have := this.2.1; omega, this.2.2⟩
theorem wrapU {n : Int} (h0 : 0 ≤ n) (h : n ≤ 9223372036854775807) : IntKind.u64.wrap n = n := by
  show n % 18446744073709551616 = n
  exact Int.emod_eq_of_lt h0 (by omega)
def subS (s : ByteArray) (a m : Nat) : ByteArray := bytesOf m (fun i => strCells s (a + i))
def gStr (s : ByteArray) (k n : Nat) (most : Int) : ByteArray × Int × Int :=
  if (gS s k n 0 0).2.2 != 0 then (ByteArray.empty, 0, (gS s k n 0 0).2.2)
  else if decide ((gS s k n 0 0).1 > IntKind.u64.wrap (if 0 > most then 0 else most)) then (ByteArray.empty, 0, 3)
  else if decide ((gS s k n 0 0).1 > (n : Int) - (gS s k n 0 0).2.1) then (ByteArray.empty, 0, 2)
  else (subS s (k + (gS s k n 0 0).2.1.toNat) (gS s k n 0 0).1.toNat, (gS s k n 0 0).2.1 + (gS s k n 0 0).1, 0)
theorem aGetStr (t : Bool) (n : Nat) (s : ByteArray) (k : Nat) (most : Int) : ACall Tryd.prog gl 68 [.c (.sl t 1 n (fun i => strCells s (k + i))), intA .i64 most] [] (.tup [.c (.v (.string (gStr s k n most).1)), intA .i64 (gStr s k n most).2.1, intA .i64 (gStr s k n most).2.2]) := by
  refine acall_of_vcb htb hmix (f := 68) rfl rfl rfl (by kernel_rfl) rfl rfl fun hb => ?_; simp only [bndAll, AV.bnd, bnds, C.bnd, cVt, cS, true_and, and_true] at hb; conv => whnf
  have hn : n ≤ 140737488355328 := hb.1.1
  have ok := gS_ok s k n 0 0 (Int.le_refl 0)
  repeat' (first | (refine Exists.intro _ (And.intro (aGetShort _ _ _ _) ?_); conv => whnf) | (refine And.intro (fun h => ?_) (fun h => ?_) <;> (first | (with_reducible have hd : _ < _ := of_decide_eq_true h) | (with_reducible have hd : _ ≤ _ := of_decide_eq_true h) | (with_reducible have hd : ¬ (_ < _) := of_decide_eq_false h) | (with_reducible have hd : ¬ (_ ≤ _) := of_decide_eq_false h) | skip) <;> conv => whnf) | ((with_reducible refine xc_pure ?_); conv => whnf))
  · have e : gStr s k n most = (ByteArray.empty, 0, (gS s k n 0 0).2.2) := by unfold gStr; rw [if_pos h]
    rw [e]; exact Le.refl _
  · rename_i h1
    have e : gStr s k n most = (ByteArray.empty, 0, 3) := by unfold gStr; rw [if_neg (by rw [h1]; simp), if_pos h]
    rw [e]; exact Le.refl _
  · rename_i h1 h2 _
    have o := ok (by simpa using h1)
    rw [wrap64 (by omega) (by omega), wrapU (by omega) (by omega)] at h
    have e : gStr s k n most = (ByteArray.empty, 0, 2) := by unfold gStr; rw [if_neg (by rw [h1]; simp), if_neg (by rw [h2]; simp), if_pos h]
    rw [e]; exact Le.refl _
  · rename_i h1 h2 _
    have o := ok (by simpa using h1)
    have w1 : IntKind.u64.wrap (IntKind.i64.wrap ((n : Int) - (gS s k n 0 0).2.1)) = (n : Int) - (gS s k n 0 0).2.1 := by rw [wrap64 (by omega) (by omega), wrapU (by omega) (by omega)]
    rw [w1] at h hd
    have e : gStr s k n most = (subS s (k + (gS s k n 0 0).2.1.toNat) (gS s k n 0 0).1.toNat, (gS s k n 0 0).2.1 + (gS s k n 0 0).1, 0) := by unfold gStr; rw [if_neg (by rw [h1]; simp), if_neg (by rw [h2]; simp), if_neg (by rw [h]; simp)]
    have w2 : IntKind.i64.wrap (gS s k n 0 0).1 = (gS s k n 0 0).1 := wrap64 (by omega) (by omega)
    have w3 : IntKind.i64.wrap ((gS s k n 0 0).2.1 + IntKind.i64.wrap (gS s k n 0 0).1) = (gS s k n 0 0).2.1 + (gS s k n 0 0).1 := by rw [w2, wrap64 (by omega) (by omega)]
    rw [e]
    have B1 : 0 ≤ IntKind.i64.wrap ((gS s k n 0 0).2.1 + IntKind.i64.wrap (gS s k n 0 0).1) ∧ IntKind.i64.wrap ((gS s k n 0 0).2.1 + IntKind.i64.wrap (gS s k n 0 0).1) ≤ n := by rw [w3]; omega
    repeat' (first | (refine And.intro ?_ ?_; (focus (first | exact trivial | exact rfl | (first | exact seT | exact u64nn _ | exact chainI (isB _ _ _) | assumption) | (refine chainI ?_; (first | (first | exact seT | exact u64nn _ | exact chainI (isB _ _ _) | assumption) | decide | omega | (refine And.intro ?_ ?_ <;> first | omega | (simp; omega)) | (simp only [IntKind.wrap_i64]; first | omega | (refine And.intro ?_ ?_ <;> omega)))) | (intro _; (first | (first | exact seT | exact u64nn _ | exact chainI (isB _ _ _) | assumption) | decide | omega | (refine And.intro ?_ ?_ <;> first | omega | (simp; omega)) | (simp only [IntKind.wrap_i64]; first | omega | (refine And.intro ?_ ?_ <;> omega)))) | (intro _ _; (first | (first | exact seT | exact u64nn _ | exact chainI (isB _ _ _) | assumption) | decide | omega | (refine And.intro ?_ ?_ <;> first | omega | (simp; omega)) | (simp only [IntKind.wrap_i64]; first | omega | (refine And.intro ?_ ?_ <;> omega)))) | (first | decide | omega | (refine And.intro ?_ ?_ <;> first | omega | (simp; omega)) | (simp only [IntKind.wrap_i64]; first | omega | (refine And.intro ?_ ?_ <;> omega))) | ((conv => whnf); intros; (try simp only [decide_eq_true_eq, decide_eq_false_iff_not, Bool.and_eq_true, Bool.or_eq_true, Bool.and_eq_false_imp, Bool.or_eq_false_iff, Bool.not_eq_true', Bool.not_eq_false', beq_iff_eq, bne_iff_ne, ne_eq] at *); (first | (first | exact seT | exact u64nn _ | exact chainI (isB _ _ _) | assumption) | decide | omega | (refine And.intro ?_ ?_ <;> first | omega | (simp; omega)) | (simp only [IntKind.wrap_i64]; first | omega | (refine And.intro ?_ ?_ <;> omega)))))); conv => whnf))
    refine leTup3 (Le.of_eq ?_) (leI w3) (Le.refl _)
    show AV.c (.v (.string (bytesOf _ _))) = .c (.v (.string (bytesOf _ _)))
    rw [w3, show ((gS s k n 0 0).2.1 + (gS s k n 0 0).1).toNat - (gS s k n 0 0).2.1.toNat = (gS s k n 0 0).1.toNat from by omega]
    simp only [Nat.add_assoc]
theorem gS_bad (s : ByteArray) (k : Nat) : ∀ (m i : Nat) (acc : Int), (gS s k m i acc).2.2 ≠ 0 → (gS s k m i acc).1 = 0 ∧ (gS s k m i acc).2.1 = 0
  | 0, i, acc, h => ⟨rfl, rfl⟩
  | m + 1, i, acc, h => by
    simp only [gS] at h ⊢
    split at h
    · rename_i h1; rw [if_pos h1]; exact ⟨rfl, rfl⟩
    · rename_i h1
      rw [if_neg h1]
      split at h
      · rename_i h2
        rw [if_pos h2]
        split at h
        · rename_i h3; rw [if_pos h3]; exact ⟨rfl, rfl⟩
        · simp at h
      · rename_i h2
        rw [if_neg h2]
        exact gS_bad s k m (i + 1) _ h
def rShort (s : ByteArray) (a b : Int) : Int × Int × Int := if b != 0 then (0, a, b) else ((gS s a.toNat (s.size - a.toNat) 0 0).1, a + (gS s a.toNat (s.size - a.toNat) 0 0).2.1, (gS s a.toNat (s.size - a.toNat) 0 0).2.2)
end Go.Proofs.YteidfcaciadgpaaDoor

namespace Go.Proofs.YteidfcaciadgpaaDoor
set_option linter.unusedSimpArgs false
set_option linter.unusedVariables false
set_option maxRecDepth 100000
set_option maxHeartbeats 8000000
open Go Go.VA
theorem gStr_ok (s : ByteArray) (k n : Nat) (most : Int) : ((gStr s k n most).2.2 = 0 → 0 ≤ (gStr s k n most).2.1 ∧ (gStr s k n most).2.1 ≤ n) ∧ ((gStr s k n most).2.2 ≠ 0 → (gStr s k n most).1 = ByteArray.empty ∧ (gStr s k n most).2.1 = 0) := by
  have ok := gS_ok s k n 0 0 (Int.le_refl 0)
  unfold gStr
  generalize IntKind.u64.wrap (if 0 > most then 0 else most) = mm
  split
  · rename_i h; exact ⟨fun _ => ⟨Int.le_refl _, by show (0 : Int) ≤ n; omega⟩, fun _ => ⟨rfl, rfl⟩⟩
  · rename_i h
    have o := ok (by simpa using h)
    split
    · exact ⟨fun h => by simp at h, fun _ => ⟨rfl, rfl⟩⟩
    · split
      · exact ⟨fun h => by simp at h, fun _ => ⟨rfl, rfl⟩⟩
      · rename_i h3
        simp only [gt_iff_lt, decide_eq_true_eq] at h3
        exact ⟨fun _ => ⟨by show 0 ≤ (gS s k n 0 0).2.1 + (gS s k n 0 0).1; omega, by show (gS s k n 0 0).2.1 + (gS s k n 0 0).1 ≤ n; omega⟩, fun h => absurd rfl h⟩
def rText (s : ByteArray) (a b : Int) : ByteArray × Int × Int := if b != 0 then (ByteArray.empty, a, b) else ((gStr s a.toNat (s.size - a.toNat) 1024).1, a + (gStr s a.toNat (s.size - a.toNat) 1024).2.1, (gStr s a.toNat (s.size - a.toNat) 1024).2.2)
end Go.Proofs.YteidfcaciadgpaaDoor

namespace Go.Proofs.YteidfcaciadgpaaDoor
set_option linter.unusedSimpArgs false
set_option linter.unusedVariables false
set_option maxRecDepth 100000
set_option maxHeartbeats 8000000
open Go Go.VA
def gR (s : ByteArray) (k : Nat) : Nat → Nat → Int → Int → Int × Int × Int
  | 0, _, _, _ => (0, 0, 2)
  | m + 1, i, acc, u =>
    if ((i : Int) == 9 && decide (byteN s (k + i) > 1)) then (0, 0, 4)
    else if decide (byteN s (k + i) < 128) then (if (byteN s (k + i) == 0 && decide ((i : Int) > 0)) then (0, 0, 4) else (IntKind.u64.wrap (acc + IntKind.u64.wrap (IntKind.u64.wrap ((byteN s (k + i)).tmod 128) * u)), (i : Int) + 1, 0))
    else gR s k m (i + 1) (IntKind.u64.wrap (acc + IntKind.u64.wrap (IntKind.u64.wrap ((byteN s (k + i)).tmod 128) * u))) (IntKind.u64.wrap (u * 128))
theorem aGetShortR (t : Bool) (n : Nat) (s : ByteArray) (k : Nat) : ACall Tryd.prog gl 32 [.c (.sl t 1 n (fun i => strCells s (k + i)))] [] (gT (gR s k (min n 10) 0 0 1)) := by
  refine acall_of_vcb htb hmix (f := 32) rfl rfl rfl (by kernel_rfl) rfl rfl fun hb => ?_; simp only [bndAll, AV.bnd, bnds, C.bnd, cVt, cS, true_and, and_true] at hb; conv => whnf
  have hn : n ≤ 140737488355328 := hb.1
  repeat' (first | fail)
  refine loopI (Nat × Int × Int) (fun p => p.1 ≤ min n 10 ∧ gR s k (min n 10 - p.1) p.1 p.2.1 p.2.2 = gR s k (min n 10) 0 0 1) (fun p => [(7, intA .i64 p.1), (5, intA .u64 p.2.1), (6, intA .u64 p.2.2), (2, intA .u64 0), (3, intA .i64 0), (4, intA .i64 0)]) (fun _ => []) (fun p => min n 10 - p.1) (0, 0, 1) ⟨Nat.zero_le _, rfl⟩ ?_ (fun _ => rfl) fun ⟨i, acc, u⟩ ⟨hi, hR⟩ => ?_
  · (refine And.intro ?_ (And.intro ?_ (And.intro ?_ rfl)) <;> (conv => whnf) <;> repeat' (first | exact trivial | exact LeE.of (Le.refl _) | exact LeE.nil rfl | (with_reducible refine LeE.of ?_) | (first | fail | exact Le.refl _ | exact rfl | exact leI (by first | rfl | omega | (rw [wrap64 (by omega) (by omega)]; omega) | (rw [wrap64 (by omega) (by omega)]; done)) | exact LeCs.refl _ | exact fun i hi => LeCs.refl _ | exact leOwn (by first | rfl | omega)) | ((with_reducible refine And.intro ?_ ?_) <;> conv => whnf)))
  · change i ≤ min n 10 at hi
    change gR s k (min n 10 - i) i acc u = _ at hR
    conv => whnf
    repeat' (first | (refine And.intro (fun h => ?_) (fun h => ?_) <;> (first | (with_reducible have hd : _ < _ := of_decide_eq_true h) | (with_reducible have hd : _ ≤ _ := of_decide_eq_true h) | (with_reducible have hd : ¬ (_ < _) := of_decide_eq_false h) | (with_reducible have hd : ¬ (_ ≤ _) := of_decide_eq_false h) | skip) <;> conv => whnf) | (refine And.intro ?_ ?_; (focus (first | exact trivial | exact rfl | (first | exact seT | exact u64nn _ | assumption) | (refine chainI ?_; (first | (first | exact seT | exact u64nn _ | assumption) | decide | omega | (refine And.intro ?_ ?_ <;> first | omega | (simp; omega)) | (simp only [IntKind.wrap_i64]; first | omega | (refine And.intro ?_ ?_ <;> omega)))) | (intro _; (first | (first | exact seT | exact u64nn _ | assumption) | decide | omega | (refine And.intro ?_ ?_ <;> first | omega | (simp; omega)) | (simp only [IntKind.wrap_i64]; first | omega | (refine And.intro ?_ ?_ <;> omega)))) | (intro _ _; (first | (first | exact seT | exact u64nn _ | assumption) | decide | omega | (refine And.intro ?_ ?_ <;> first | omega | (simp; omega)) | (simp only [IntKind.wrap_i64]; first | omega | (refine And.intro ?_ ?_ <;> omega)))) | (first | decide | omega | (refine And.intro ?_ ?_ <;> first | omega | (simp; omega)) | (simp only [IntKind.wrap_i64]; first | omega | (refine And.intro ?_ ?_ <;> omega))) | ((conv => whnf); intros; (try simp only [decide_eq_true_eq, decide_eq_false_iff_not, Bool.and_eq_true, Bool.or_eq_true, Bool.and_eq_false_imp, Bool.or_eq_false_iff, Bool.not_eq_true', Bool.not_eq_false', beq_iff_eq, bne_iff_ne, ne_eq] at *); (first | (first | exact seT | exact u64nn _ | assumption) | decide | omega | (refine And.intro ?_ ?_ <;> first | omega | (simp; omega)) | (simp only [IntKind.wrap_i64]; first | omega | (refine And.intro ?_ ?_ <;> omega)))))); conv => whnf))
    · rename_i h0
      have hl : (decide ((i : Int) < n) && decide ((i : Int) < 10)) = true := h0
      have hi' : i < min n 10 := by simp at hl; omega
      have h : ((i : Int) == 9 && decide (byteN s (k + i) > 1)) = true := h
      have e : gR s k (min n 10) 0 0 1 = (0, 0, 4) := by rw [← hR, show min n 10 - i = (min n 10 - (i + 1)) + 1 from by omega]; simp only [gR]; rw [if_pos h]
      rw [e]; exact Le.refl _
    · rename_i h0 h1 h2
      have hl : (decide ((i : Int) < n) && decide ((i : Int) < 10)) = true := h0
      have hi' : i < min n 10 := by simp at hl; omega
      have h1 : ((i : Int) == 9 && decide (byteN s (k + i) > 1)) = false := h1
      have h2 : decide (byteN s (k + i) < 128) = true := h2
      have h : (byteN s (k + i) == 0 && decide ((i : Int) > 0)) = true := h
      have e : gR s k (min n 10) 0 0 1 = (0, 0, 4) := by rw [← hR, show min n 10 - i = (min n 10 - (i + 1)) + 1 from by omega]; simp only [gR]; rw [if_neg (by rw [h1]; simp), if_pos h2, if_pos h]
      rw [e]; exact Le.refl _
    · rename_i h0 h1 h2
      have hl : (decide ((i : Int) < n) && decide ((i : Int) < 10)) = true := h0
      have hi' : i < min n 10 := by simp at hl; omega
      have h1 : ((i : Int) == 9 && decide (byteN s (k + i) > 1)) = false := h1
      have h2 : decide (byteN s (k + i) < 128) = true := h2
      have h : (byteN s (k + i) == 0 && decide ((i : Int) > 0)) = false := h
      have e : gR s k (min n 10) 0 0 1 = (IntKind.u64.wrap (acc + IntKind.u64.wrap (IntKind.u64.wrap ((byteN s (k + i)).tmod 128) * u)), (i : Int) + 1, 0) := by rw [← hR, show min n 10 - i = (min n 10 - (i + 1)) + 1 from by omega]; simp only [gR]; rw [if_neg (by rw [h1]; simp), if_pos h2, if_neg (by rw [h]; simp)]
      rw [e]
      exact leTup3 (Le.refl _) (leI (wrap64 (by omega) (by omega))) (Le.refl _)
    · rename_i h0 h1
      have hl : (decide ((i : Int) < n) && decide ((i : Int) < 10)) = true := h0
      have hi' : i < min n 10 := by simp at hl; omega
      have h1 : ((i : Int) == 9 && decide (byteN s (k + i) > 1)) = false := h1
      have h : decide (byteN s (k + i) < 128) = false := h
      refine ⟨(i + 1, IntKind.u64.wrap (acc + IntKind.u64.wrap (IntKind.u64.wrap ((byteN s (k + i)).tmod 128) * u)), IntKind.u64.wrap (u * 128)), ⟨hi', ?_⟩, ?_, by show min n 10 - (i + 1) < min n 10 - i; omega⟩
      · rw [← hR, show min n 10 - i = (min n 10 - (i + 1)) + 1 from by omega]
        simp only [gR]; rw [if_neg (by rw [h1]; simp), if_neg (by rw [h]; simp)]
      · (refine And.intro ?_ (And.intro ?_ (And.intro ?_ rfl)) <;> (conv => whnf) <;> repeat' (first | exact trivial | exact LeE.of (Le.refl _) | exact LeE.nil rfl | (with_reducible refine LeE.of ?_) | (first | fail | exact Le.refl _ | exact rfl | exact leI (by first | rfl | omega | (rw [wrap64 (by omega) (by omega)]; omega) | (rw [wrap64 (by omega) (by omega)]; done)) | exact LeCs.refl _ | exact fun i hi => LeCs.refl _ | exact leOwn (by first | rfl | omega)) | ((with_reducible refine And.intro ?_ ?_) <;> conv => whnf)))
    · have hl : (decide ((i : Int) < n) && decide ((i : Int) < 10)) = false := h
      obtain rfl : i = min n 10 := by
        simp at hl; omega
      have e : gR s k (min n 10) 0 0 1 = (0, 0, 2) := by rw [← hR, Nat.sub_self]; rfl
      rw [e]; exact Le.refl _
end Go.Proofs.YteidfcaciadgpaaDoor
