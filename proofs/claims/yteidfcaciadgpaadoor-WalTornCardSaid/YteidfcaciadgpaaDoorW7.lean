/- Contracts of functions of the program, and the laws that stand on them: what each function answers, whatever its arguments. -/
import Derived.Test.YteidfcaciadgpaaDoorW4
set_option linter.unusedSectionVars false
set_option linter.unnecessarySimpa false
namespace Go.Proofs.YteidfcaciadgpaaDoor
set_option linter.unusedSimpArgs false
set_option linter.unusedVariables false
set_option maxRecDepth 100000
set_option maxHeartbeats 8000000
open Go Go.VA
theorem sub_byte (s : ByteArray) (a n i : Nat) (hi : i < n) : byteN (subS s a n) i = byteN s (a + i) := by
  unfold byteN
  rw [sub_get s a n i hi]
end Go.Proofs.YteidfcaciadgpaaDoor
