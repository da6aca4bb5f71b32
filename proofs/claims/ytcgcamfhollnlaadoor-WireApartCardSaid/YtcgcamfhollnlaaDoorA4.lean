/- Contracts of functions of the program, and the laws that stand on them: what each function answers, whatever its arguments. -/
import Derived.Test.YtcgcamfhollnlaaDoorA3
set_option linter.unusedSectionVars false
set_option linter.unnecessarySimpa false
namespace Go.Proofs.YtcgcamfhollnlaaDoor
set_option linter.unusedSimpArgs false
set_option linter.unusedVariables false
set_option maxRecDepth 100000
set_option maxHeartbeats 8000000
open Go Go.VA
def ky0 : Ky := ⟨⟨ByteArray.empty, ByteArray.empty, 0, 0, ByteArray.empty⟩, 0⟩
def kyFin (k : Ky) (i n a e : Int) : Ky × Int × Int :=
  if e != 0 then (ky0, 0, e) else if decide (i > 9223372036854775807) || decide (n > 4294967295) || !okKy k then (ky0, 0, 4) else (k, a, 0)
def gK1 (s : ByteArray) : ByteArray × Int × Int := rTx s 0 0
def gK2 (s : ByteArray) : ByteArray × Int × Int := rTx s (gK1 s).2.1 (gK1 s).2.2
def gK3 (s : ByteArray) : Int × Int × Int := rKd s (gK2 s).2.1 (gK2 s).2.2
def gK4 (s : ByteArray) : Int × Int × Int := rShort s (gK3 s).2.1 (gK3 s).2.2
def gK5 (s : ByteArray) : ByteArray × Int × Int := rTx s (gK3 s).2.1 (gK3 s).2.2
def gKyA (s : ByteArray) : Ky × Int × Int :=
  if (gK3 s).1 == 1 then
    let r := rShort s (gK4 s).2.1 (gK4 s).2.2
    kyFin ⟨⟨(gK1 s).1, (gK2 s).1, (gK3 s).1, IntKind.i64.wrap (bitsI .and .u64 (gK4 s).1 9223372036854775807), ByteArray.empty⟩, IntKind.u32.wrap r.1⟩ (gK4 s).1 r.1 r.2.1 r.2.2
  else if (gK3 s).1 == 2 then
    let r := rShort s (gK5 s).2.1 (gK5 s).2.2
    kyFin ⟨⟨(gK1 s).1, (gK2 s).1, (gK3 s).1, 0, (gK5 s).1⟩, IntKind.u32.wrap r.1⟩ 0 r.1 r.2.1 r.2.2
  else kyFin ⟨⟨(gK1 s).1, (gK2 s).1, (gK3 s).1, 0, ByteArray.empty⟩, IntKind.u32.wrap (gK4 s).1⟩ 0 (gK4 s).1 (gK4 s).2.1 (gK4 s).2.2
end Go.Proofs.YtcgcamfhollnlaaDoor
