/- Contracts of functions of the program, and the laws that stand on them: what each function answers, whatever its arguments. -/
import Derived.Test.YthaaemhkdefidaaGreatDoorP2
import Derived.Test.YthaaemhkdefidaaGreatDoorP0
import Derived.Test.YthaaemhkdefidaaGreatDoorTT
import Derived.Test.YthaaemhkdefidaaGreatDoorA1
import Derived.Test.YthaaemhkdefidaaGreatDoorC18
import Derived.Test.YthaaemhkdefidaaGreatDoorC9
import Derived.Test.YthaaemhkdefidaaGreatDoorE7
import Derived.Test.YthaaemhkdefidaaGreatDoorEr
import Derived.Test.YthaaemhkdefidaaGreatDoorC13
import Derived.Test.YthaaemhkdefidaaGreatDoorA3
set_option linter.unusedSectionVars false
set_option linter.unnecessarySimpa false
namespace Go.Proofs.YthaaemhkdefidaaGreatDoor
set_option linter.unusedSimpArgs false
set_option linter.unusedVariables false
set_option maxRecDepth 100000
set_option maxHeartbeats 8000000
open Go Go.VA
def flB (t u : Bool) : Int := if t then (if u then bitsI .or .u8 (bitsI .or .u8 0 1) 2 else bitsI .or .u8 0 1) else (if u then bitsI .or .u8 0 2 else 0)
def kyA (a : Ad) : Ky := ⟨a, 1⟩
def depsL (l : List Ad) (c : Nat) : List Int := (l.take c).flatMap fun a => kyL (kyA a)
def enH (e : En) (c : Nat) : List Int := kyL e.y ++ [flB e.t e.u] ++ layL e.v ++ shortL e.d.length ++ depsL e.d c
def enL (e : En) : List Int := enH e e.d.length
theorem getD_some {α : Type} {l : List α} {c : Nat} (h : c < l.length) (d : α) : l[c]? = some (l.getD c d) := by
 rw [List.getD_eq_getElem?_getD, List.getElem?_eq_getElem h]; rfl
attribute [local irreducible] kyL layL shortL bitsI
end Go.Proofs.YthaaemhkdefidaaGreatDoor
