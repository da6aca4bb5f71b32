/- Contracts of functions of the program, and the laws that stand on them: what each function answers, whatever its arguments. -/
import Derived.Test.YtcgcamfhollnlaaGreatDoorE9
import Derived.Test.YtcgcamfhollnlaaGreatDoorE1
set_option linter.unusedSectionVars false
set_option linter.unnecessarySimpa false
namespace Go.Proofs.YtcgcamfhollnlaaGreatDoor
set_option linter.unusedSimpArgs false
set_option linter.unusedVariables false
set_option maxRecDepth 100000
set_option maxHeartbeats 8000000
open Go Go.VA
def greatRq (q : Rq) : Bool := decide (IntKind.i64.wrap (IntKind.i64.wrap ((q.y.a.t.size : Int) + q.y.a.n.size) + q.y.a.s.size) > 300) || decide (greatV q.p 10 > 600) || decide (greatV q.w 10 > 600)
theorem aGreatRq (q : Rq) : ACall Tryz.prog gl 4 [.ag (cRq q)] [] (boolA (greatRq q)) := by
  refine acall_of_vc htb hmix (f := 4) rfl rfl rfl (by kernel_rfl) rfl rfl ?_; conv => whnf
  repeat' (first | ((with_reducible refine GOr.l ?_); (conv => whnf); refine Exists.intro _ (And.intro (chainI (aGreat _ _ q.p)) ?_); conv => whnf) | ((with_reducible refine GOr.l ?_); (conv => whnf); refine Exists.intro _ (And.intro (chainI (aGreat _ _ q.w)) ?_); conv => whnf) | fail)
  exact leB rfl
end Go.Proofs.YtcgcamfhollnlaaGreatDoor
