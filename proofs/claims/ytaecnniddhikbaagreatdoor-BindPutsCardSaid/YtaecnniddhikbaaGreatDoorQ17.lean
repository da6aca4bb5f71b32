/- What functions of the program answer,whatever their arguments. -/
import Derived.Test.YtaecnniddhikbaaGreatDoorQ16
import Derived.Test.YtaecnniddhikbaaGreatDoorQ11
set_option linter.unusedSectionVars false
set_option linter.unnecessarySimpa false
set_option linter.unusedSimpArgs false
set_option linter.unusedVariables false
set_option maxRecDepth 100000
set_option maxHeartbeats 8000000
namespace Go.Proofs.YtaecnniddhikbaaGreatDoor
open Go Go.VA
theorem innC (p:Pl)(o:OkP p)(r:RgPl p):InnC p:=by
 have h:=ACall.of_gcall (gInP p o r)
 have e':(fun j=>rB (inP p) (0+j))=rB (inP p):=by funext j; rw [Nat.zero_add]
 rw [e'] at h
 exact h
theorem bindPutsC (p:Pl)(r:RgPl p):ACall Tryz.prog gl 3 [.ag (cPl false false false p)] [] (boolA true):=aBindPuts p r fun o=>innC p o r
end Go.Proofs.YtaecnniddhikbaaGreatDoor
