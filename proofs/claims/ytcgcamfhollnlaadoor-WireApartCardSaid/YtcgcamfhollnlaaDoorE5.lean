/- Contracts of functions of the program, and the laws that stand on them: what each function answers, whatever its arguments. -/
import Derived.Test.YtcgcamfhollnlaaDoorC17
import Derived.Test.YtcgcamfhollnlaaDoorC19
import Derived.Test.YtcgcamfhollnlaaDoorA2
import Derived.Test.YtcgcamfhollnlaaDoorE3
import Derived.Test.YtcgcamfhollnlaaDoorE1
set_option linter.unusedSectionVars false
set_option linter.unnecessarySimpa false
namespace Go.Proofs.YtcgcamfhollnlaaDoor
set_option linter.unusedSimpArgs false
set_option linter.unusedVariables false
set_option maxRecDepth 100000
set_option maxHeartbeats 8000000
open Go Go.VA
theorem bys_rp {r : Rp} (ho : okRp r = true) : Bys (fmRp r) := bys_app (a := [IntKind.u8.wrap r.e]) (bys_one (bys_w8 _)) (layL_bys r.v 8 (check_parts (okRp_parts ho).2.2).1 (by decide))
theorem sameRp_self (r : Rp) : sameRp r r = true := by unfold sameRp; rw [sameR_refl]; simp
end Go.Proofs.YtcgcamfhollnlaaDoor
