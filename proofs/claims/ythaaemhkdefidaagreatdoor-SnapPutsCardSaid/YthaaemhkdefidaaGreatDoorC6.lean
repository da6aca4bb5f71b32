/- Contracts of functions of the program, and the laws that stand on them: what each function answers, whatever its arguments. -/
import Derived.Test.YthaaemhkdefidaaGreatDoorC1
set_option linter.unusedSectionVars false
set_option linter.unnecessarySimpa false
namespace Go.Proofs.YthaaemhkdefidaaGreatDoor
set_option linter.unusedSimpArgs false
set_option linter.unusedVariables false
set_option maxRecDepth 100000
set_option maxHeartbeats 8000000
open Go Go.VA
end Go.Proofs.YthaaemhkdefidaaGreatDoor

namespace Go.Proofs.YthaaemhkdefidaaGreatDoor
set_option linter.unusedSimpArgs false
set_option linter.unusedVariables false
set_option maxRecDepth 100000
set_option maxHeartbeats 8000000
open Go Go.VA
def kdOf (c : Int) : Int := IntKind.i64.wrap (bitsI .andNot .u8 c 128)
def scOf (c : Int) : Bool := bitsI .and .u8 c 128 != 0
def dpB (deep b : Int) : Int := if decide (deep > 8) then failB b 12 else b
/-- the first byte, the place behind it, what is wrong there -/
def vHd (s : ByteArray) (deep a b : Int) : Int × Int × Int := rByte s a (dpB deep b)
def vBd (s : ByteArray) (deep a b : Int) : Int := if decide (kdOf (vHd s deep a b).1 > 6) then failB (vHd s deep a b).2.2 4 else (vHd s deep a b).2.2
/-- a value of a kind, as it is read behind its first byte -/
def rdKd (val : Int → Int → V × Int × Int) (s : ByteArray) (kd : Int) (sc : Bool) (a b : Int) : V × Int × Int :=
 if kd == 1 then (.mk kd (IntKind.i64.wrap (rByte s a b).1) ByteArray.empty [] [] 0 0 sc, (rByte s a b).2.1, if decide (IntKind.i64.wrap (rByte s a b).1 > 1) then failB (rByte s a b).2.2 4 else (rByte s a b).2.2)
 else if kd == 2 then (.mk kd (zag (rShort s a b).1) ByteArray.empty [] [] 0 0 sc, (rShort s a b).2.1, (rShort s a b).2.2)
 else if kd == 3 then (.mk kd 0 (rText s a b).1 [] [] 0 0 sc, (rText s a b).2.1, (rText s a b).2.2)
 else if kd == 6 then (.mk kd 0 ByteArray.empty [] [] (ofC (rByte s a b).1).1.1 (ofC (rByte s a b).1).1.2 sc, (rByte s a b).2.1, if (ofC (rByte s a b).1).2 != 0 then failB (rByte s a b).2.2 (ofC (rByte s a b).1).2 else (rByte s a b).2.2)
 else if kd == 4 || kd == 5 then (.mk kd 0 ByteArray.empty (rdAll val s kd a b).2.1 (rdAll val s kd a b).1 0 0 sc, (rdAll val s kd a b).2.2.1, (rdAll val s kd a b).2.2.2)
 else (.mk kd 0 ByteArray.empty [] [] 0 0 sc, a, b)
def rdV1 (val : Int → Int → V × Int × Int) (s : ByteArray) (deep a b : Int) : V × Int × Int :=
 if vBd s deep a b != 0 then (V.z, (vHd s deep a b).2.1, vBd s deep a b) else rdKd val s (kdOf (vHd s deep a b).1) (scOf (vHd s deep a b).1) (vHd s deep a b).2.1 (vBd s deep a b)
/-- a value, as it is read at a depth -/
def rdVal (s : ByteArray) : Nat → Int → Int → Int → V × Int × Int
 | 0, deep, a, b => rdV1 (fun a b => (V.z, a, b)) s deep a b
 | m + 1, deep, a, b => rdV1 (rdVal s m (IntKind.i64.wrap (deep + 1))) s deep a b
end Go.Proofs.YthaaemhkdefidaaGreatDoor

namespace Go.Proofs.YthaaemhkdefidaaGreatDoor
set_option linter.unusedSimpArgs false
set_option linter.unusedVariables false
set_option maxRecDepth 100000
set_option maxHeartbeats 8000000
open Go Go.VA
def gV (s : ByteArray) : V × Int × Int := rdVal s 8 1 0 0
def gBd (s : ByteArray) : Int := if (gV s).2.2 == 0 && decide (weight (gV s).1 > 512) then failB (gV s).2.2 3 else (gV s).2.2
/-- a value, as it is read: what it is, how many bytes, what is wrong -/
def cGet (s : ByteArray) : V × Int × Int := if gBd s != 0 then (V.z, 0, gBd s) else ((gV s).1, (gV s).2.1, 0)
end Go.Proofs.YthaaemhkdefidaaGreatDoor
