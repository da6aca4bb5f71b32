/- Contracts of functions of the program, and the laws that stand on them: what each function answers, whatever its arguments. -/
import Derived.Test.YteidfcaciadgpaaDoorWC
set_option linter.unusedSectionVars false
set_option linter.unnecessarySimpa false
namespace Go.Proofs.YteidfcaciadgpaaDoor
set_option linter.unusedSimpArgs false
set_option linter.unusedVariables false
set_option maxRecDepth 100000
set_option maxHeartbeats 8000000
open Go Go.VA
def eqIt (a b : It) : Bool := a.n == b.n && (a.k == b.k && (a.y.a.t == b.y.a.t && (a.y.a.n == b.y.a.n && (a.y.a.k == b.y.a.k && (a.y.a.i == b.y.a.i && (a.y.a.s == b.y.a.s && a.y.n == b.y.n))))))
theorem eqIt_self (a : It) : eqIt a a = true := by simp [eqIt, ba_beq]
end Go.Proofs.YteidfcaciadgpaaDoor
