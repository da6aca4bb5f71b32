/- What functions of the program answer,whatever their arguments. -/
import Derived.Test.YtaecnniddhikbaaGreatDoorTT
import Derived.Test.YtaecnniddhikbaaGreatDoorA1
import Derived.Test.YtaecnniddhikbaaGreatDoorC18
import Derived.Test.YtaecnniddhikbaaGreatDoorC9
import Derived.Test.YtaecnniddhikbaaGreatDoorE7
import Derived.Test.YtaecnniddhikbaaGreatDoorEr
import Derived.Test.YtaecnniddhikbaaGreatDoorC13
set_option linter.unusedSectionVars false
set_option linter.unnecessarySimpa false
set_option linter.unusedSimpArgs false
set_option linter.unusedVariables false
set_option maxRecDepth 100000
set_option maxHeartbeats 8000000
namespace Go.Proofs.YtaecnniddhikbaaGreatDoor
open Go Go.VA
end Go.Proofs.YtaecnniddhikbaaGreatDoor
namespace Go.Proofs.YtaecnniddhikbaaGreatDoor
open Go Go.VA
end Go.Proofs.YtaecnniddhikbaaGreatDoor
namespace Go.Proofs.YtaecnniddhikbaaGreatDoor
open Go Go.VA
theorem aFormV (v:V)(hc:checkV v=0)(hr:rgV v=true)(t t':Bool):ACall Tryz.prog gl 71 [.ag (cVt t t' v)] [] (.c (.sl false 1 (layL v).length (rB (layL v)))):=by
 have h:=ACall.of_gcall (gVForm v 8 t t' (check_parts hc).1 (by decide) hr (check_big hc).1)
 have e:(fun j=>rB (layL v) (0+j))=rB (layL v):=by funext j; rw [Nat.zero_add]
 rw [e] at h
 exact h
end Go.Proofs.YtaecnniddhikbaaGreatDoor
