/- Contracts of functions of the program, and the laws that stand on them: what each function answers, whatever its arguments. -/
import Derived.Test.YtcgcamfhollnlaaDoorC17
import Derived.Test.YtcgcamfhollnlaaDoorC14
set_option linter.unusedSectionVars false
set_option linter.unnecessarySimpa false
namespace Go.Proofs.YtcgcamfhollnlaaDoor
set_option linter.unusedSimpArgs false
set_option linter.unusedVariables false
set_option maxRecDepth 100000
set_option maxHeartbeats 8000000
open Go Go.VA
theorem rB1 (x : Int) : ∀ i, i < [x].length → nthC [cBy x] i = rB [x] i := fun i hi => by
  obtain rfl : i = 0 := by simpa using hi
  rfl
end Go.Proofs.YtcgcamfhollnlaaDoor
