/- Contracts of functions of the program, and the laws that stand on them: what each function answers, whatever its arguments. -/
import Derived.Test.YtcgcamfhollnlaaGreatDoorC7
set_option linter.unusedSectionVars false
set_option linter.unnecessarySimpa false
namespace Go.Proofs.YtcgcamfhollnlaaGreatDoor
set_option linter.unusedSimpArgs false
set_option linter.unusedVariables false
set_option maxRecDepth 100000
set_option maxHeartbeats 8000000
open Go Go.VA
def gV (s : ByteArray) : V × Int × Int := rdVal s 8 1 0 0
def gBd (s : ByteArray) : Int := if (gV s).2.2 == 0 && decide (weight (gV s).1 > 512) then failB (gV s).2.2 3 else (gV s).2.2
def cGet (s : ByteArray) : V × Int × Int := if gBd s != 0 then (V.z, 0, gBd s) else ((gV s).1, (gV s).2.1, 0)
theorem gV_ok (t : Bool) (s : ByteArray) : 0 ≤ (gV s).2.1 ∧ (gV s).2.1 ≤ s.size ∧ MCall Tryz.prog gl 51 [cR t s 0 0] [.ptr 0 0, intA .i64 1] [cR t s (gV s).2.1 (gV s).2.2] (.ag (cV (gV s).1)) :=
  mVal t s 8 1 (by decide) (by decide) (by decide) 0 0 (Int.le_refl 0) (by omega)
set_option maxHeartbeats 1000000 in
theorem aGet (t : Bool) (s : ByteArray) : ACall Tryz.prog gl 27 [.c (.sl t 1 s.size (strCells s))] [] (.tup [.ag (cV (cGet s).1), intA .i64 (cGet s).2.1, intA .i64 (cGet s).2.2]) := by
  refine acall_of_vc htb hmix (f := 27) rfl rfl rfl (by kernel_rfl) rfl rfl ?_; conv => whnf
  have G := gV_ok t s
  repeat' (first | ((with_reducible refine GOr.l ?_); (conv => whnf); refine Exists.intro _ (And.intro (chainI (aWeight _ _ _)) ?_); conv => whnf) | (refine And.intro (fun h => ?_) (fun h => ?_) <;> (first | skip) <;> conv => whnf) | ((with_reducible apply Drawn.one); conv => whnf) | ((with_reducible refine Then.mk' ?_); conv => whnf) | (first | exact RefS.self rfl | fail) | (refine And.intro ?_ ?_; (focus (first | exact rfl | fail)); conv => whnf) | ((with_reducible refine xc_guard ?_); refine xc_mb (by (conv => whnf); repeat' (first | exact trivial | exact rfl | exact LeC.refl _ | ((with_reducible refine And.intro ?_ ?_) <;> conv => whnf))) ((gV_ok _ _).2.2) rfl rfl rfl rfl ?_; conv => whnf) | ((with_reducible refine xc_guard ?_); refine xc_mb (by (conv => whnf); repeat' (first | exact trivial | exact rfl | exact LeC.refl _ | ((with_reducible refine And.intro ?_ ?_) <;> conv => whnf))) (mFail _ _ _ _ _) rfl rfl rfl rfl ?_; conv => whnf) | fail)
  all_goals
    simp only [cGet, gBd, if_true, if_false, Bool.false_eq_true, *]
    exact leTup3 (leAg ⟨LeC.refl _, LeC.refl _, LeC.refl _, (by first | exact LeC.refl _ | exact LeC.nil rfl), (by first | exact LeC.refl _ | exact LeC.nil rfl), LeC.refl _, LeC.refl _, LeC.refl _, trivial⟩) (Le.refl _) (Le.refl _)
end Go.Proofs.YtcgcamfhollnlaaGreatDoor

namespace Go.Proofs.YtcgcamfhollnlaaGreatDoor
set_option linter.unusedSimpArgs false
set_option linter.unusedVariables false
set_option maxRecDepth 100000
set_option maxHeartbeats 8000000
open Go Go.VA
theorem byteN_lt (s : ByteArray) (i : Nat) : 0 ≤ byteN s i ∧ byteN s i < 256 := by
  unfold byteN
  have := ((s.data.toList[i]?).getD 0).toNat_lt
  omega
theorem or_sum (x z k : Nat) (hx : x < 2 ^ k) (h : x + z * 2 ^ k < 2 ^ 64) : bitsI .or .u64 x ((z * 2 ^ k : Nat) : Int) = ((x + z * 2 ^ k : Nat) : Int) := by
  unfold bitsI
  show IntKind.u64.wrap (((BitVec.ofInt 64 (x : Int) ||| BitVec.ofInt 64 ((z * 2 ^ k : Nat) : Int)).toNat : Nat) : Int) = _
  have e1 : (BitVec.ofInt 64 (x : Int)).toNat = x := by simp; omega
  have e2 : (BitVec.ofInt 64 ((z * 2 ^ k : Nat) : Int)).toNat = z * 2 ^ k := by
    rw [BitVec.ofInt_natCast, BitVec.toNat_ofNat]; omega
  rw [BitVec.toNat_or, e1, e2, Nat.or_comm, Nat.mul_comm z, ← Nat.two_pow_add_eq_or_of_lt hx, Nat.mul_comm, Nat.add_comm]
  show ((x + z * 2 ^ k : Nat) : Int) % 18446744073709551616 = _
  omega
theorem and127 (c : Nat) (h : c < 256) : IntKind.u64.wrap (bitsI .and .u8 c 127) = ((c % 128 : Nat) : Int) := by
  have : ∀ c : Fin 256, IntKind.u64.wrap (bitsI .and .u8 (c.val : Int) 127) = ((c.val % 128 : Nat) : Int) := by decide +kernel
  exact this ⟨c, h⟩
theorem shl7 (x : Int) (i : Nat) (hi : i ≤ 9) : shlI .u64 x (IntKind.u64.wrap (7 * IntKind.u64.wrap i)) = (x * 2 ^ (7 * i)) % 18446744073709551616 := by
  have hi' : i = 0 ∨ i = 1 ∨ i = 2 ∨ i = 3 ∨ i = 4 ∨ i = 5 ∨ i = 6 ∨ i = 7 ∨ i = 8 ∨ i = 9 := by omega
  rcases hi' with rfl | rfl | rfl | rfl | rfl | rfl | rfl | rfl | rfl | rfl <;> rfl
theorem pow7 (c i : Nat) (hi : i ≤ 9) (h9 : i = 9 → c ≤ 1) : (c % 128) * 2 ^ (7 * i) + 2 ^ (7 * i) ≤ 2 ^ 64 := by
  have hm : c % 128 < 128 := Nat.mod_lt _ (by decide)
  have hi' : i = 0 ∨ i = 1 ∨ i = 2 ∨ i = 3 ∨ i = 4 ∨ i = 5 ∨ i = 6 ∨ i = 7 ∨ i = 8 ∨ i = 9 := by omega
  rcases hi' with rfl | rfl | rfl | rfl | rfl | rfl | rfl | rfl | rfl | rfl <;> omega
theorem gSt_eq (acc : Nat) (i : Nat) (c : Nat) (hc : c < 256) (hi : i ≤ 9) (ha : acc < 2 ^ (7 * i)) (h9 : i = 9 → c ≤ 1) : gSt acc i c = ((acc + (c % 128) * 2 ^ (7 * i) : Nat) : Int) := by
  unfold gSt
  have hp := pow7 c i hi h9
  have e : (((c % 128 : Nat) : Int) * 2 ^ (7 * i)) % 18446744073709551616 = (((c % 128) * 2 ^ (7 * i) : Nat) : Int) := by
    have : (((c % 128 : Nat) : Int) * 2 ^ (7 * i)) = (((c % 128) * 2 ^ (7 * i) : Nat) : Int) := by push_cast; rfl
    rw [this]
    omega
  rw [and127 c hc, shl7 _ i hi, e]
  exact or_sum acc (c % 128) (7 * i) ha (by omega)
theorem gRt_eq (acc : Nat) (i : Nat) (c : Nat) (hc : c < 256) (hi : i ≤ 9) (ha : acc < 2 ^ (7 * i)) (h9 : i = 9 → c ≤ 1) :
    IntKind.u64.wrap ((acc : Int) + IntKind.u64.wrap (IntKind.u64.wrap (((c : Nat) : Int).tmod 128) * ((2 ^ (7 * i) : Nat) : Int))) = ((acc + (c % 128) * 2 ^ (7 * i) : Nat) : Int) := by
  have hp := pow7 c i hi h9
  have e0 : IntKind.u64.wrap (((c : Nat) : Int).tmod 128) = ((c % 128 : Nat) : Int) := by
    have : ((c : Nat) : Int).tmod 128 = ((c % 128 : Nat) : Int) := by rw [Int.tmod_eq_emod_of_nonneg (by omega)]; rfl
    rw [this, wrapU (by omega) (by omega)]
  rw [e0, show ((c % 128 : Nat) : Int) * ((2 ^ (7 * i) : Nat) : Int) = (((c % 128) * 2 ^ (7 * i) : Nat) : Int) by push_cast; rfl]
  have w : ∀ n : Nat, n < 2 ^ 64 → IntKind.u64.wrap (n : Int) = (n : Int) := fun n hn => by show (n : Int) % 18446744073709551616 = _; omega
  rw [w _ (by omega), show (acc : Int) + (((c % 128) * 2 ^ (7 * i) : Nat) : Int) = ((acc + (c % 128) * 2 ^ (7 * i) : Nat) : Int) by push_cast; rfl, w _ (by omega)]
theorem gR_eq (s : ByteArray) (k : Nat) : ∀ (m i acc : Nat), i ≤ 9 → acc < 2 ^ (7 * i) → gR s k (min m (10 - i)) i acc ((2 ^ (7 * i) : Nat) : Int) = gS s k m i acc
  | 0, i, acc, hi, ha => by simp [gR, gS]
  | m + 1, i, acc, hi, ha => by
    rw [show min (m + 1) (10 - i) = min m (9 - i) + 1 from by omega]
    simp only [gR, gS]
    have hb := byteN_lt s (k + i)
    obtain ⟨c, hc⟩ : ∃ c : Nat, byteN s (k + i) = (c : Int) := ⟨(byteN s (k + i)).toNat, by omega⟩
    rw [hc]
    have hc' : c < 256 := by omega
    by_cases h1 : ((i : Int) == 9 && decide ((c : Int) > 1)) = true
    · rw [if_pos h1, if_pos h1]
    · rw [if_neg h1, if_neg h1]
      have h9 : i = 9 → c ≤ 1 := fun h => by subst h; simp at h1; omega
      by_cases h2 : decide ((c : Int) < 128) = true
      · rw [if_pos h2, if_pos h2, gRt_eq acc i c hc' hi ha h9, gSt_eq acc i c hc' hi ha h9]
      · rw [if_neg h2, if_neg h2, gRt_eq acc i c hc' hi ha h9, gSt_eq acc i c hc' hi ha h9]
        have hi' : i ≤ 8 := by
          by_cases h : i = 9
          · have := h9 h; simp at h2; omega
          · omega
        have hp := pow7 c i hi h9
        have hp1 : 2 ^ (7 * (i + 1)) = 128 * 2 ^ (7 * i) := by rw [show 7 * (i + 1) = 7 + 7 * i from by omega, Nat.pow_add]
        have hu : IntKind.u64.wrap (((2 ^ (7 * i) : Nat) : Int) * 128) = ((2 ^ (7 * (i + 1)) : Nat) : Int) := by
          have hi2 : i = 0 ∨ i = 1 ∨ i = 2 ∨ i = 3 ∨ i = 4 ∨ i = 5 ∨ i = 6 ∨ i = 7 ∨ i = 8 := by omega
          rcases hi2 with rfl | rfl | rfl | rfl | rfl | rfl | rfl | rfl | rfl <;> rfl
        rw [hu]
        have hm : c % 128 < 128 := Nat.mod_lt _ (by decide)
        have := gR_eq s k m (i + 1) (acc + (c % 128) * 2 ^ (7 * i)) (by omega) (by
          rw [hp1]
          have : (c % 128) * 2 ^ (7 * i) ≤ 127 * 2 ^ (7 * i) := Nat.mul_le_mul_right _ (by omega)
          omega)
        rw [show 10 - (i + 1) = 9 - i from by omega] at this
        exact this
theorem aShortR (t : Bool) (n : Nat) (s : ByteArray) (k : Nat) : ACall Tryz.prog gl 55 [.c (.sl t 1 n (fun i => strCells s (k + i)))] [] (gT (gS s k n 0 0)) := by
  have := gR_eq s k n 0 0 (by decide) (by decide)
  have e : gR s k (min n 10) 0 0 1 = gS s k n 0 0 := this
  rw [← e]
  exact aGetShortR t n s k
theorem aGetStrR (t : Bool) (n : Nat) (s : ByteArray) (k : Nat) (most : Int) : ACall Tryz.prog gl 54 [.c (.sl t 1 n (fun i => strCells s (k + i))), intA .i64 most] [] (.tup [.c (.v (.string (gStr s k n most).1)), intA .i64 (gStr s k n most).2.1, intA .i64 (gStr s k n most).2.2]) := by
  refine acall_of_vcb htb hmix (f := 54) rfl rfl rfl (by kernel_rfl) rfl rfl fun hb => ?_; simp only [bndAll, AV.bnd, bnds, C.bnd, cVt, cS, true_and, and_true] at hb; conv => whnf
  have hn : n ≤ 140737488355328 := hb.1.1
  have ok := gS_ok s k n 0 0 (Int.le_refl 0)
  repeat' (first | (refine Exists.intro _ (And.intro (aShortR _ _ _ _) ?_); conv => whnf) | (refine And.intro (fun h => ?_) (fun h => ?_) <;> (first | (with_reducible have hd : _ < _ := of_decide_eq_true h) | (with_reducible have hd : ¬ (_ < _) := of_decide_eq_false h) | skip) <;> conv => whnf) | ((with_reducible refine xc_pure ?_); conv => whnf))
  · have e : gStr s k n most = (ByteArray.empty, 0, (gS s k n 0 0).2.2) := by unfold gStr; rw [if_pos h]
    rw [e]; exact Le.refl _
  · rename_i h1
    have e : gStr s k n most = (ByteArray.empty, 0, 3) := by unfold gStr; rw [if_neg (by rw [h1]; simp), if_pos h]
    rw [e]; exact Le.refl _
  · rename_i h1 h2 _
    have o := ok (by simpa using h1)
    rw [wrap64 (by omega) (by omega), wrapU (by omega) (by omega)] at h
    have e : gStr s k n most = (ByteArray.empty, 0, 2) := by unfold gStr; rw [if_neg (by rw [h1]; simp), if_neg (by rw [h2]; simp), if_pos h]
    rw [e]; exact Le.refl _
  · rename_i h1 h2 _
    have o := ok (by simpa using h1)
    have w1 : IntKind.u64.wrap (IntKind.i64.wrap ((n : Int) - (gS s k n 0 0).2.1)) = (n : Int) - (gS s k n 0 0).2.1 := by rw [wrap64 (by omega) (by omega), wrapU (by omega) (by omega)]
    rw [w1] at h hd
    have e : gStr s k n most = (subS s (k + (gS s k n 0 0).2.1.toNat) (gS s k n 0 0).1.toNat, (gS s k n 0 0).2.1 + (gS s k n 0 0).1, 0) := by unfold gStr; rw [if_neg (by rw [h1]; simp), if_neg (by rw [h2]; simp), if_neg (by rw [h]; simp)]
    have w2 : IntKind.i64.wrap (gS s k n 0 0).1 = (gS s k n 0 0).1 := wrap64 (by omega) (by omega)
    have w3 : IntKind.i64.wrap ((gS s k n 0 0).2.1 + IntKind.i64.wrap (gS s k n 0 0).1) = (gS s k n 0 0).2.1 + (gS s k n 0 0).1 := by rw [w2, wrap64 (by omega) (by omega)]
    rw [e]
    have B1 : 0 ≤ IntKind.i64.wrap ((gS s k n 0 0).2.1 + IntKind.i64.wrap (gS s k n 0 0).1) ∧ IntKind.i64.wrap ((gS s k n 0 0).2.1 + IntKind.i64.wrap (gS s k n 0 0).1) ≤ n := by rw [w3]; omega
    repeat' (first | (refine And.intro ?_ ?_; (focus (first | (first | exact chainI (isB _ _ _) | assumption) | (refine chainI ?_; (first | omega | fail)) | fail)); conv => whnf) | fail)
    refine leTup3 (Le.of_eq ?_) (leI w3) (Le.refl _)
    show AV.c (.v (.string (bytesOf _ _))) = .c (.v (.string (bytesOf _ _)))
    rw [w3, show ((gS s k n 0 0).2.1 + (gS s k n 0 0).1).toNat - (gS s k n 0 0).2.1.toNat = (gS s k n 0 0).1.toNat from by omega]
    simp only [Nat.add_assoc]
end Go.Proofs.YtcgcamfhollnlaaGreatDoor
