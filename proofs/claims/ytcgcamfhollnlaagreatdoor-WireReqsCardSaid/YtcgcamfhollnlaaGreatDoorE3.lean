/- Contracts of functions of the program, and the laws that stand on them: what each function answers, whatever its arguments. -/
import Derived.Test.YtcgcamfhollnlaaGreatDoorA2
import Derived.Test.YtcgcamfhollnlaaGreatDoorC19
import Derived.Test.YtcgcamfhollnlaaGreatDoorC10
import Derived.Test.YtcgcamfhollnlaaGreatDoorC11
import Derived.Test.YtcgcamfhollnlaaGreatDoorE1
set_option linter.unusedSectionVars false
set_option linter.unnecessarySimpa false
namespace Go.Proofs.YtcgcamfhollnlaaGreatDoor
set_option linter.unusedSimpArgs false
set_option linter.unusedVariables false
set_option maxRecDepth 100000
set_option maxHeartbeats 8000000
open Go Go.VA
theorem subZ (s : ByteArray) (a n : Nat) : (subS s a n).size = n := by
  show (bytesOf n _).data.size = n
  simp [bytesOf]
theorem subC (s : ByteArray) (a n : Nat) : ∀ i, i < n → strCells (subS s a n) i = strCells s (a + i) := by
  intro i hi
  have h : (subS s a n).data.toList[i]? = some (byteC (strCells s (a + i))) := by
    show ((List.range n).map fun i => byteC (strCells s (a + i)))[i]? = _
    rw [List.getElem?_map, List.getElem?_range hi]; rfl
  show [C.v (.int .u8 ((((subS s a n).data.toList[i]?).getD 0).toNat : Int))] = [C.v (.int .u8 (((s.data.toList[a + i]?).getD 0).toNat : Int))]
  rw [h]
  simp [byteC, strCells]
end Go.Proofs.YtcgcamfhollnlaaGreatDoor
