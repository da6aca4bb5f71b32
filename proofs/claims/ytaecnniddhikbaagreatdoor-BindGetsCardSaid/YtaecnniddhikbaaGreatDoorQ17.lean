/- Contracts of functions of the program,and the laws that stand on them: what each function answers,whatever its arguments. -/
import Derived.Test.YtaecnniddhikbaaGreatDoorQ16
import Derived.Test.YtaecnniddhikbaaGreatDoorQ11
set_option linter.unusedSectionVars false
set_option linter.unnecessarySimpa false
set_option linter.unusedSimpArgs false
set_option linter.unusedVariables false
set_option maxRecDepth 100000
set_option maxHeartbeats 8000000
namespace Go.Proofs.YtaecnniddhikbaaGreatDoor
open Go Go.VA
theorem innC (p:Pl) (o:OkP p) (r:RgPl p):InnC p:=by
 have h:=ACall.of_gcall (gInP p o r)
 have e':(fun j=>rB (inP p) (0+j))=rB (inP p):=by funext j; rw [Nat.zero_add]
 rw [e'] at h
 exact h
theorem bindGetsC (t:Bool) (s:ByteArray):ACall Tryz.prog gl 4 [.c (.sl t 1 s.size (strCells s))] [] (boolA true):=aBindGets t s innC
end Go.Proofs.YtaecnniddhikbaaGreatDoor
