/- Contracts of functions of the program, and the laws that stand on them: what each function answers, whatever its arguments. -/
import Derived.Test.YteidfcaciadgpaaDoorC1
import Derived.Test.YteidfcaciadgpaaDoorVD
set_option linter.unusedSectionVars false
set_option linter.unnecessarySimpa false
namespace Go.Proofs.YteidfcaciadgpaaDoor
set_option linter.unusedSimpArgs false
set_option linter.unusedVariables false
set_option maxRecDepth 100000
set_option maxHeartbeats 8000000
open Go Go.VA
def keyBad (ks : List ByteArray) (x : ByteArray) : Bool := decide ((ks.length : Int) > 0) && !(Op.bytesLess (ks.getD (IntKind.i64.wrap ((ks.length : Int) - 1)).toNat ByteArray.empty).toList x.toList)
def rdK (s : ByteArray) (kind : Int) (ks : List ByteArray) (a b : Int) : List ByteArray × Int × Int := if kind == 5 then (ks ++ [(rText s a b).1], (rText s a b).2.1, if keyBad ks (rText s a b).1 then failB (rText s a b).2.2 4 else (rText s a b).2.2) else (ks, a, b)
end Go.Proofs.YteidfcaciadgpaaDoor

namespace Go.Proofs.YteidfcaciadgpaaDoor
set_option linter.unusedSimpArgs false
set_option linter.unusedVariables false
set_option maxRecDepth 100000
set_option maxHeartbeats 8000000
open Go Go.VA
end Go.Proofs.YteidfcaciadgpaaDoor

namespace Go.Proofs.YteidfcaciadgpaaDoor
set_option linter.unusedSimpArgs false
set_option linter.unusedVariables false
set_option maxRecDepth 100000
set_option maxHeartbeats 8000000
open Go Go.VA
end Go.Proofs.YteidfcaciadgpaaDoor

namespace Go.Proofs.YteidfcaciadgpaaDoor
set_option linter.unusedSimpArgs false
set_option linter.unusedVariables false
set_option maxRecDepth 100000
set_option maxHeartbeats 8000000
open Go Go.VA
end Go.Proofs.YteidfcaciadgpaaDoor
