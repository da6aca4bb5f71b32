/- Contracts of functions of the program, and the laws that stand on them: what each function answers, whatever its arguments. -/
import Derived.Test.YtcgcamfhollnlaaDoorC7
set_option linter.unusedSectionVars false
set_option linter.unnecessarySimpa false
namespace Go.Proofs.YtcgcamfhollnlaaDoor
set_option linter.unusedSimpArgs false
set_option linter.unusedVariables false
set_option maxRecDepth 100000
set_option maxHeartbeats 8000000
open Go Go.VA
def gV (s : ByteArray) : V × Int × Int := rdVal s 8 1 0 0
def gBd (s : ByteArray) : Int := if (gV s).2.2 == 0 && decide (weight (gV s).1 > 512) then failB (gV s).2.2 3 else (gV s).2.2
def cGet (s : ByteArray) : V × Int × Int := if gBd s != 0 then (V.z, 0, gBd s) else ((gV s).1, (gV s).2.1, 0)
end Go.Proofs.YtcgcamfhollnlaaDoor

namespace Go.Proofs.YtcgcamfhollnlaaDoor
set_option linter.unusedSimpArgs false
set_option linter.unusedVariables false
set_option maxRecDepth 100000
set_option maxHeartbeats 8000000
open Go Go.VA
theorem byteN_lt (s : ByteArray) (i : Nat) : 0 ≤ byteN s i ∧ byteN s i < 256 := by
  unfold byteN
  have := ((s.data.toList[i]?).getD 0).toNat_lt
  omega
theorem or_sum (x z k : Nat) (hx : x < 2 ^ k) (h : x + z * 2 ^ k < 2 ^ 64) : bitsI .or .u64 x ((z * 2 ^ k : Nat) : Int) = ((x + z * 2 ^ k : Nat) : Int) := by
  unfold bitsI
  show IntKind.u64.wrap (((BitVec.ofInt 64 (x : Int) ||| BitVec.ofInt 64 ((z * 2 ^ k : Nat) : Int)).toNat : Nat) : Int) = _
  have e1 : (BitVec.ofInt 64 (x : Int)).toNat = x := by simp; omega
  have e2 : (BitVec.ofInt 64 ((z * 2 ^ k : Nat) : Int)).toNat = z * 2 ^ k := by
    rw [BitVec.ofInt_natCast, BitVec.toNat_ofNat]; omega
  rw [BitVec.toNat_or, e1, e2, Nat.or_comm, Nat.mul_comm z, ← Nat.two_pow_add_eq_or_of_lt hx, Nat.mul_comm, Nat.add_comm]
  show ((x + z * 2 ^ k : Nat) : Int) % 18446744073709551616 = _
  omega
theorem and127 (c : Nat) (h : c < 256) : IntKind.u64.wrap (bitsI .and .u8 c 127) = ((c % 128 : Nat) : Int) := by
  have : ∀ c : Fin 256, IntKind.u64.wrap (bitsI .and .u8 (c.val : Int) 127) = ((c.val % 128 : Nat) : Int) := by decide +kernel
  exact this ⟨c, h⟩
theorem shl7 (x : Int) (i : Nat) (hi : i ≤ 9) : shlI .u64 x (IntKind.u64.wrap (7 * IntKind.u64.wrap i)) = (x * 2 ^ (7 * i)) % 18446744073709551616 := by
  have hi' : i = 0 ∨ i = 1 ∨ i = 2 ∨ i = 3 ∨ i = 4 ∨ i = 5 ∨ i = 6 ∨ i = 7 ∨ i = 8 ∨ i = 9 := by omega
  rcases hi' with rfl | rfl | rfl | rfl | rfl | rfl | rfl | rfl | rfl | rfl <;> rfl
theorem pow7 (c i : Nat) (hi : i ≤ 9) (h9 : i = 9 → c ≤ 1) : (c % 128) * 2 ^ (7 * i) + 2 ^ (7 * i) ≤ 2 ^ 64 := by
  have hm : c % 128 < 128 := Nat.mod_lt _ (by decide)
  have hi' : i = 0 ∨ i = 1 ∨ i = 2 ∨ i = 3 ∨ i = 4 ∨ i = 5 ∨ i = 6 ∨ i = 7 ∨ i = 8 ∨ i = 9 := by omega
  rcases hi' with rfl | rfl | rfl | rfl | rfl | rfl | rfl | rfl | rfl | rfl <;> omega
theorem gSt_eq (acc : Nat) (i : Nat) (c : Nat) (hc : c < 256) (hi : i ≤ 9) (ha : acc < 2 ^ (7 * i)) (h9 : i = 9 → c ≤ 1) : gSt acc i c = ((acc + (c % 128) * 2 ^ (7 * i) : Nat) : Int) := by
  unfold gSt
  have hp := pow7 c i hi h9
  have e : (((c % 128 : Nat) : Int) * 2 ^ (7 * i)) % 18446744073709551616 = (((c % 128) * 2 ^ (7 * i) : Nat) : Int) := by
    have : (((c % 128 : Nat) : Int) * 2 ^ (7 * i)) = (((c % 128) * 2 ^ (7 * i) : Nat) : Int) := by push_cast; rfl
    rw [this]
    omega
  rw [and127 c hc, shl7 _ i hi, e]
  exact or_sum acc (c % 128) (7 * i) ha (by omega)
end Go.Proofs.YtcgcamfhollnlaaDoor
