/- What functions of the program answer,whatever their arguments. -/
import Derived.Test.YtaecnniddhikbaaGreatDoorP3
import Derived.Test.YtaecnniddhikbaaGreatDoorP0
import Derived.Test.YtaecnniddhikbaaGreatDoorE1
import Derived.Test.YtaecnniddhikbaaGreatDoorA3
set_option linter.unusedSectionVars false
set_option linter.unnecessarySimpa false
set_option linter.unusedSimpArgs false
set_option linter.unusedVariables false
set_option maxRecDepth 100000
set_option maxHeartbeats 8000000
namespace Go.Proofs.YtaecnniddhikbaaGreatDoor
open Go Go.VA
theorem getD_some {α:Type}{l:List α}{c:Nat}(h:c<l.length)(d:α):l[c]? =some (l.getD c d):=by
 rw [List.getD_eq_getElem?_getD,List.getElem?_eq_getElem h]; rfl
attribute [local irreducible] kyL layL shortL bitsI
end Go.Proofs.YtaecnniddhikbaaGreatDoor
