/- Contracts of functions of the program, and the laws that stand on them: what each function answers, whatever its arguments. -/
import Derived.Test.YtcgcamfhollnlaaDoorVw5
set_option linter.unusedSectionVars false
set_option linter.unnecessarySimpa false
namespace Go.Proofs.YtcgcamfhollnlaaDoor
set_option linter.unusedSimpArgs false
set_option linter.unusedVariables false
set_option maxRecDepth 100000
set_option maxHeartbeats 8000000
open Go Go.VA
theorem u64nn (n : Int) : 0 ≤ IntKind.u64.wrap n := by
  show 0 ≤ n % _
  exact Int.emod_nonneg _ (by decide)
def failB (b e : Int) : Int := if b == 0 then e else b
def byteN (s : ByteArray) (i : Nat) : Int := ((s.data.toList[i]?).getD 0).toNat
abbrev byteAt (s : ByteArray) (i : Int) : Int := byteN s i.toNat
def rByte (s : ByteArray) (a b : Int) : Int × Int × Int := if b != 0 then (0, a, b) else if decide (a ≥ s.size) then (0, a, 2) else (byteAt s a, a + 1, 0)
def zag (n : Int) : Int := bitsI .xor .i64 (IntKind.i64.wrap (shrI .u64 n 1)) (IntKind.i64.wrap (0 - (IntKind.i64.wrap (bitsI .and .u64 n 1))))
def gSt (acc : Int) (i : Nat) (c : Int) : Int := bitsI .or .u64 acc (shlI .u64 (IntKind.u64.wrap (bitsI .and .u8 c 127)) (IntKind.u64.wrap (7 * IntKind.u64.wrap i)))
def gS (s : ByteArray) (k : Nat) : Nat → Nat → Int → Int × Int × Int
  | 0, _, _ => (0, 0, 2)
  | m + 1, i, acc =>
    if ((i : Int) == 9 && decide (byteN s (k + i) > 1)) then (0, 0, 4)
    else if decide (byteN s (k + i) < 128) then (if (byteN s (k + i) == 0 && decide ((i : Int) > 0)) then (0, 0, 4) else (gSt acc i (byteN s (k + i)), (i : Int) + 1, 0))
    else gS s k m (i + 1) (gSt acc i (byteN s (k + i)))
end Go.Proofs.YtcgcamfhollnlaaDoor
