/- Contracts of functions of the program, and the laws that stand on them: what each function answers, whatever its arguments. -/
import Derived.Test.YthaaemhkdefidaaGreatDoorTT
import Derived.Test.YthaaemhkdefidaaGreatDoorA1
import Derived.Test.YthaaemhkdefidaaGreatDoorC18
import Derived.Test.YthaaemhkdefidaaGreatDoorC9
import Derived.Test.YthaaemhkdefidaaGreatDoorE7
import Derived.Test.YthaaemhkdefidaaGreatDoorEr
import Derived.Test.YthaaemhkdefidaaGreatDoorC13
set_option linter.unusedSectionVars false
set_option linter.unnecessarySimpa false
namespace Go.Proofs.YthaaemhkdefidaaGreatDoor
set_option linter.unusedSimpArgs false
set_option linter.unusedVariables false
set_option maxRecDepth 100000
set_option maxHeartbeats 8000000
open Go Go.VA
/-! ### the document's example of layer 21 -/
end Go.Proofs.YthaaemhkdefidaaGreatDoor

namespace Go.Proofs.YthaaemhkdefidaaGreatDoor
set_option linter.unusedSimpArgs false
set_option linter.unusedVariables false
set_option maxRecDepth 100000
set_option maxHeartbeats 8000000
open Go Go.VA
/-! ### answers: laid, read -/
end Go.Proofs.YthaaemhkdefidaaGreatDoor

namespace Go.Proofs.YthaaemhkdefidaaGreatDoor
set_option linter.unusedSimpArgs false
set_option linter.unusedVariables false
set_option maxRecDepth 100000
set_option maxHeartbeats 8000000
open Go Go.VA
/-! ### law WireResps -/
theorem aFormV (v : V) (hc : checkV v = 0) (hr : rgV v = true) (t t' : Bool) : ACall Tryz.prog gl 71 [.ag (cVt t t' v)] [] (.c (.sl false 1 (layL v).length (rB (layL v)))) := by
 have h := ACall.of_gcall (gVForm v 8 t t' (check_parts hc).1 (by decide) hr (check_big hc).1)
 have e : (fun j => rB (layL v) (0 + j)) = rB (layL v) := by funext j; rw [Nat.zero_add]
 rw [e] at h
 exact h
end Go.Proofs.YthaaemhkdefidaaGreatDoor
