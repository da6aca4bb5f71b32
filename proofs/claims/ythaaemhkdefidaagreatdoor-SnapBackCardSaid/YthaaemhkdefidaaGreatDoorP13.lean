/- Contracts of functions of the program, and the laws that stand on them: what each function answers, whatever its arguments. -/
import Derived.Test.YthaaemhkdefidaaGreatDoorP12
import Derived.Test.YthaaemhkdefidaaGreatDoorP5
set_option linter.unusedSectionVars false
set_option linter.unnecessarySimpa false
namespace Go.Proofs.YthaaemhkdefidaaGreatDoor
set_option linter.unusedSimpArgs false
set_option linter.unusedVariables false
set_option maxRecDepth 100000
set_option maxHeartbeats 8000000
open Go Go.VA
/-! ### a state is read, by the document -/
def unEG (s : ByteArray) (pm : Bool) (n4 : Int) (q : Bool) : Int :=
 if decide ((s.size : Int) < 40) then 2 else if !pm then 4
 else if decide (IntKind.u64.wrap ((s.size - (40 : Int).toNat : Nat) : Int) < n4) then 2
 else if decide (IntKind.u64.wrap ((s.size - (40 : Int).toNat : Nat) : Int) > n4) then 3
 else if !q then 5 else 0
def unE (mg s : ByteArray) : Int := unEG s (preM mg s) (be4 s) (sumB s (wXs s))
/-! entries -/
def dpG (G : Nat → Ky × Int × Int) : Nat → Nat → List Ad → Option (List Ad × Nat)
 | 0, a, acc => some (acc, a)
 | n + 1, a, acc => if (G a).2.2 != 0 || (G a).1.n != 1 then none else dpG G n (a + (G a).2.1.toNat) (acc ++ [(G a).1.a])
def g1 (G : Nat → Ky × Int × Int) (a : Nat) : Nat := a + ((G a).2.1.toNat + 1)
def g2 (G : Nat → Ky × Int × Int) (Vv : Nat → V × Int × Int) (a : Nat) : Nat := g1 G a + (Vv (g1 G a)).2.1.toNat
def g3 (G : Nat → Ky × Int × Int) (Vv : Nat → V × Int × Int) (Sh : Nat → Int × Int × Int) (a : Nat) : Nat := g2 G Vv a + (Sh (g2 G Vv a)).2.1.toNat
def gEnG (s : ByteArray) (G : Nat → Ky × Int × Int) (Vv : Nat → V × Int × Int) (Sh : Nat → Int × Int × Int) (a : Nat) : Option (En × Nat) :=
 if (G a).2.2 != 0 || decide ((G a).2.1 ≥ ((s.size - a : Nat) : Int)) || decide (byteN s (a + (G a).2.1.toNat) > 3) then none
 else if (Vv (g1 G a)).2.2 != 0 then none
 else if (Sh (g2 G Vv a)).2.2 != 0 || decide ((Sh (g2 G Vv a)).1 > ((s.size - a : Nat) : Int)) then none
 else (dpG G (Sh (g2 G Vv a)).1.toNat (g3 G Vv Sh a) []).map fun p => (⟨(G a).1, (Vv (g1 G a)).1, (byteN s (a + (G a).2.1.toNat)).tmod 2 == 1, decide (byteN s (a + (G a).2.1.toNat) > 1), p.1⟩, p.2)
end Go.Proofs.YthaaemhkdefidaaGreatDoor

namespace Go.Proofs.YthaaemhkdefidaaGreatDoor
set_option linter.unusedSimpArgs false
set_option linter.unusedVariables false
set_option maxRecDepth 100000
set_option maxHeartbeats 8000000
open Go Go.VA
/-! ### a state is read, by the document -/
def stG (EN : Nat → Option (En × Nat)) : Nat → Nat → List En → Option (List En × Nat)
 | 0, a, acc => some (acc, a)
 | n + 1, a, acc => match EN a with
  | none => none
  | some p => stG EN n p.2 (acc ++ [p.1])
def h1 (Sh : Nat → Int × Int × Int) : Nat := 40 + (Sh 40).2.1.toNat
def h2 (Sh : Nat → Int × Int × Int) : Nat := h1 Sh + (Sh (h1 Sh)).2.1.toNat
def h3 (Sh : Nat → Int × Int × Int) : Nat := h2 Sh + (Sh (h2 Sh)).2.1.toNat
def finG (s : ByteArray) (x1 x2 : Int) (ok : List En → Bool) : Option (List En × Nat) → St × Int
 | none => (stz, 4)
 | some p => if ((p.2 - 40 : Nat) : Int) != ((s.size - 40 : Nat) : Int) || !ok p.1 then (stz, 4) else (⟨x1, x2, p.1⟩, 0)
def rGetG (s : ByteArray) (Sh : Nat → Int × Int × Int) (EN : Nat → Option (En × Nat)) (ok : List En → Bool) : St × Int :=
 if (Sh 40).2.2 != 0 then (stz, 4) else if (Sh (h1 Sh)).2.2 != 0 then (stz, 4)
 else if (Sh (h2 Sh)).2.2 != 0 || decide ((Sh (h2 Sh)).1 > ((s.size - 40 : Nat) : Int)) then (stz, 4)
 else finG s (Sh 40).1 (Sh (h1 Sh)).1 ok (stG EN (Sh (h2 Sh)).1.toNat (h3 Sh) [])
end Go.Proofs.YthaaemhkdefidaaGreatDoor
