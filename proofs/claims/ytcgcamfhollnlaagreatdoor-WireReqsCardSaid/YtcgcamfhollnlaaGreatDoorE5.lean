/- Contracts of functions of the program, and the laws that stand on them: what each function answers, whatever its arguments. -/
import Derived.Test.YtcgcamfhollnlaaGreatDoorE4
import Derived.Test.YtcgcamfhollnlaaGreatDoorE3
import Derived.Test.YtcgcamfhollnlaaGreatDoorE1
import Derived.Test.YtcgcamfhollnlaaGreatDoorC17
set_option linter.unusedSectionVars false
set_option linter.unnecessarySimpa false
namespace Go.Proofs.YtcgcamfhollnlaaGreatDoor
set_option linter.unusedSimpArgs false
set_option linter.unusedVariables false
set_option maxRecDepth 100000
set_option maxHeartbeats 8000000
open Go Go.VA
theorem aFormV (v : V) (hc : checkV v = 0) (hr : rgV v = true) (t t' : Bool) : ACall Tryz.prog gl 25 [.ag (cVt t t' v)] [] (.c (.sl false 1 (layL v).length (rB (layL v)))) := by
  have h := ACall.of_gcall (gVForm v 8 t t' (check_parts hc).1 (by decide) hr (check_big hc).1)
  have e : (fun j => rB (layL v) (0 + j)) = rB (layL v) := by funext j; rw [Nat.zero_add]
  rw [e] at h
  exact h
theorem NoTag.cc {x : C} (h : NtC x) : NoTag (.c x) := ⟨fun B S S' u hF hu => by
  simp only [RelV] at hu ⊢
  exact NtC.rep hF x u h hu⟩
theorem subBa {s : ByteArray} {a : Nat} {L : List Int} (h : AtL s a L) : subS s a L.length = baL L := by
  refine ba_ext (by rw [subZ, baL_size]) fun j hj => ?_
  rw [subZ] at hj
  have hb := h.2 j hj
  simp only [subS, bytesOf, baL]
  rw [List.getElem?_map, List.getElem?_range hj, List.getElem?_map, List.getElem?_eq_getElem hj]
  simp only [Option.map_some, byteC, strCells]
  rw [List.getD_eq_getElem?_getD, List.getElem?_eq_getElem hj, Option.getD_some] at hb
  rw [← hb]
  rfl
end Go.Proofs.YtcgcamfhollnlaaGreatDoor
