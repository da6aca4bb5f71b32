/- Contracts of functions of the program, and the laws that stand on them: what each function answers, whatever its arguments. -/
import Derived.Test.YtcgcamfhollnlaaGreatDoorTT
set_option linter.unusedSectionVars false
set_option linter.unnecessarySimpa false
namespace Go.Proofs.YtcgcamfhollnlaaGreatDoor
set_option linter.unusedSimpArgs false
set_option linter.unusedVariables false
set_option maxRecDepth 100000
set_option maxHeartbeats 8000000
open Go Go.VA
end Go.Proofs.YtcgcamfhollnlaaGreatDoor

namespace Go.Proofs.YtcgcamfhollnlaaGreatDoor
set_option linter.unusedSimpArgs false
set_option linter.unusedVariables false
set_option maxRecDepth 100000
set_option maxHeartbeats 8000000
open Go Go.VA
def nB (b : Nat → UInt8) (o : Nat) : Nat → Nat
  | 0 => 0
  | k + 1 => nB b o k * 256 + (b (o + k)).toNat
theorem nB_lt (b : Nat → UInt8) (o : Nat) : ∀ k, nB b o k < 256 ^ k
  | 0 => by simp [nB]
  | k + 1 => by
    have := nB_lt b o k
    have h2 := (b (o + k)).toNat_lt
    simp only [nB, Nat.pow_succ]
    omega
theorem nB_step (n : Nat) (x : UInt8) (h : n < 72057594037927936) : bitsI .or .u64 (shlI .u64 (n : Int) 8) (IntKind.u64.wrap (x.toNat : Int)) = ((n * 256 + x.toNat : Nat) : Int) := by
  have hx := x.toNat_lt
  have e1 : shlI .u64 (n : Int) 8 = ((n <<< 8 : Nat) : Int) := by
    have : shlI .u64 (n : Int) 8 = ((n : Int) * 256) % 18446744073709551616 := rfl
    rw [this, Nat.shiftLeft_eq]; omega
  have e2 : IntKind.u64.wrap (x.toNat : Int) = (x.toNat : Int) := by
    show (x.toNat : Int) % 18446744073709551616 = _
    omega
  rw [e1, e2]
  have e3 : n <<< 8 + x.toNat = n <<< 8 ||| x.toNat := Nat.shiftLeft_add_eq_or_of_lt (i := 8) (by omega) n
  have h8 : n <<< 8 = n * 256 := by rw [Nat.shiftLeft_eq]
  show IntKind.u64.wrap (((BitVec.ofInt 64 ((n <<< 8 : Nat) : Int) ||| BitVec.ofInt 64 (x.toNat : Int)).toNat : Nat) : Int) = _
  rw [BitVec.toNat_or, BitVec.ofInt_natCast, BitVec.ofInt_natCast, BitVec.toNat_ofNat, BitVec.toNat_ofNat, Nat.mod_eq_of_lt (by rw [h8]; omega), Nat.mod_eq_of_lt (by omega), ← e3, h8]
  show ((n * 256 + x.toNat : Nat) : Int) % 18446744073709551616 = _
  omega
theorem aNumGet (t : Bool) (n : Nat) (b : Nat → UInt8) (w : Nat) (h1 : 1 ≤ w) (h8 : w ≤ 8) : ACall Tryz.prog gl 71 [.c (.sl t 1 n (byF b)), intA .i64 (w : Int)] []
    (.tup [intA .u64 (if n < w then 0 else (nB b 0 w : Int)), intA .i64 (if n < w then 2 else 0)]) := by
  refine acall_of_vcb htb hmix (f := 71) rfl rfl rfl (by kernel_rfl) rfl rfl fun hb => ?_; simp only [bndAll, AV.bnd, bnds, C.bnd, cVt, cS, true_and, and_true] at hb; conv => whnf
  have hn : n ≤ 140737488355328 := hb.1.1
  repeat' (first | (refine And.intro (fun h => ?_) (fun h => ?_) <;> (first | (with_reducible have hd : _ < _ := of_decide_eq_true h) | (with_reducible have hd : ¬ (_ < _) := of_decide_eq_false h) | skip) <;> conv => whnf) | (refine And.intro ?_ ?_; (focus (first | (refine chainI ?_; (first | omega | fail)) | fail)); conv => whnf) | fail)
  · exfalso
    simp at *
    omega
  · have : ((n : Int) < w) := hd
    have hlt : n < w := by omega
    rw [if_pos hlt, if_pos hlt]; exact Le.refl _
  · have : ¬ ((n : Int) < w) := hd
    have hlt : ¬ n < w := by omega
    rw [if_neg hlt, if_neg hlt]
    refine loopI Nat (fun i => i ≤ w) (fun i => [(25, intA .i64 i), (6, intA .u64 (nB b 0 i))]) (fun _ => []) (fun i => w - i) 0 (Nat.zero_le _) ?_ (fun _ => rfl) fun i hi => ?_
    · (refine And.intro ?_ (And.intro ?_ (And.intro ?_ rfl)) <;> (conv => whnf) <;> repeat' (first | exact trivial | exact LeE.of (Le.refl _) | (first | exact rfl | fail) | ((with_reducible refine And.intro ?_ ?_) <;> conv => whnf)))
    · change i ≤ w at hi
      conv => whnf
      repeat' (first | (refine And.intro (fun h => ?_) (fun h => ?_) <;> (first | (with_reducible have hd : _ < _ := of_decide_eq_true h) | (with_reducible have hd : ¬ (_ < _) := of_decide_eq_false h) | fail) <;> conv => whnf) | (refine And.intro ?_ ?_; (focus (first | (refine chainI ?_; (first | decide | omega | fail)) | fail)); conv => whnf) | fail)
      · have hi' : i < w := by
          have : (i : Int) < ((w : Int).toNat - 0 : Nat) := hd
          omega
        refine ⟨i + 1, hi', ?_, by show w - (i + 1) < w - i; omega⟩
        have hp : nB b 0 i < 72057594037927936 := Nat.lt_of_lt_of_le (nB_lt b 0 i) (Nat.le_trans (Nat.pow_le_pow_right (by decide) (show i ≤ 7 by omega)) (by decide))
        have e : bitsI .or .u64 (shlI .u64 (nB b 0 i : Int) 8) (IntKind.u64.wrap ((b (0 + i)).toNat : Int)) = (nB b 0 (i + 1) : Int) := by
          rw [nB_step _ _ hp]; rfl
        (refine And.intro ?_ (And.intro ?_ (And.intro ?_ rfl)) <;> (conv => whnf) <;> repeat' (first | exact trivial | exact LeE.of (Le.refl _) | (with_reducible refine LeE.of ?_) | (first | exact leI e | exact rfl | exact leI (by first | rfl | (rw [wrap64 (by omega) (by omega)]; omega) | fail) | fail) | ((with_reducible refine And.intro ?_ ?_) <;> conv => whnf)))
      · have : ¬ ((i : Int) < ((w : Int).toNat - 0 : Nat)) := hd
        obtain rfl : i = w := by omega
        exact Le.refl _
end Go.Proofs.YtcgcamfhollnlaaGreatDoor
