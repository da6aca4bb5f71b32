/- Contracts of functions of the program, and the laws that stand on them: what each function answers, whatever its arguments. -/
import Derived.Test.YthaaemhkdefidaaGreatDoorP15
import Derived.Test.YthaaemhkdefidaaGreatDoorTT
import Derived.Test.YthaaemhkdefidaaGreatDoorA1
import Derived.Test.YthaaemhkdefidaaGreatDoorC18
import Derived.Test.YthaaemhkdefidaaGreatDoorC9
import Derived.Test.YthaaemhkdefidaaGreatDoorE7
import Derived.Test.YthaaemhkdefidaaGreatDoorEr
import Derived.Test.YthaaemhkdefidaaGreatDoorC13
set_option linter.unusedSectionVars false
set_option linter.unnecessarySimpa false
namespace Go.Proofs.YthaaemhkdefidaaGreatDoor
set_option linter.unusedSimpArgs false
set_option linter.unusedVariables false
set_option maxRecDepth 100000
set_option maxHeartbeats 8000000
open Go Go.VA
/-! ### law SnapGets -/
theorem ntCs_app2 : ∀ {a b : List C}, NtCs a → NtCs b → NtCs (a ++ b)
 | [], _, _, hb => hb
 | _ :: _, _, ha, hb => ⟨ha.1, ntCs_app2 ha.2 hb⟩
theorem ntEn (e : En) : NtCs (cEn e) := ntCs_app2 (a := cKy e.y) ⟨trivial, trivial, trivial, trivial, trivial, trivial, trivial⟩ (ntCs_app2 (ntV e.v) ⟨trivial, trivial, ⟨rfl, fun i hi => ⟨trivial, trivial, trivial, trivial, trivial, trivial⟩⟩, trivial⟩)
theorem ntSt (x : St) : NtCs (cSt x) := ⟨trivial, trivial, ⟨rfl, fun i hi => ntEn _⟩, trivial⟩
end Go.Proofs.YthaaemhkdefidaaGreatDoor
