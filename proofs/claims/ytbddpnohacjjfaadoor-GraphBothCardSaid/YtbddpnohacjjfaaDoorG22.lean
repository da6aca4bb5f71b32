/- Contracts of functions of the program, and the laws that stand on them: what each function answers, whatever its arguments. -/
import Derived.Test.YtbddpnohacjjfaaDoorG21
import Derived.Test.YtbddpnohacjjfaaDoorVD
set_option linter.unusedSectionVars false
set_option linter.unnecessarySimpa false
namespace Go.Proofs.YtbddpnohacjjfaaDoor
set_option linter.unusedSimpArgs false
set_option linter.unusedVariables false
set_option maxRecDepth 100000
set_option maxHeartbeats 8000000
open Go Go.VA
theorem upS_mem {S : Nat → Bool} {m k : Nat} (hS : ∀ j, S j = true → j < m) : k ∈ upS S m ↔ S k = true := by
  unfold upS
  rw [List.mem_filter, List.mem_range]
  exact ⟨fun h => h.2, fun h => ⟨hS k h, h⟩⟩
end Go.Proofs.YtbddpnohacjjfaaDoor
