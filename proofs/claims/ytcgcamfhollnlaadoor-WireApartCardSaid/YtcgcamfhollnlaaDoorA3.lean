/- Contracts of functions of the program, and the laws that stand on them: what each function answers, whatever its arguments. -/
import Derived.Test.YtcgcamfhollnlaaDoorA2
import Derived.Test.YtcgcamfhollnlaaDoorTT
set_option linter.unusedSectionVars false
set_option linter.unnecessarySimpa false
namespace Go.Proofs.YtcgcamfhollnlaaDoor
set_option linter.unusedSimpArgs false
set_option linter.unusedVariables false
set_option maxRecDepth 100000
set_option maxHeartbeats 8000000
open Go Go.VA
def rTx (s : ByteArray) (a b : Int) : ByteArray × Int × Int := if b != 0 then (ByteArray.empty, a, b) else ((gStr s a.toNat (s.size - a.toNat) 24).1, a + (gStr s a.toNat (s.size - a.toNat) 24).2.1, (gStr s a.toNat (s.size - a.toNat) 24).2.2)
def rKd (s : ByteArray) (a b : Int) : Int × Int × Int := if b != 0 then (0, a, b) else if decide (a ≥ s.size) then (0, a + 1, 2) else (byteAt s a, a + 1, if decide (byteAt s a > 2) then 4 else 0)
end Go.Proofs.YtcgcamfhollnlaaDoor
