/- What functions of the program answer,whatever their arguments. -/
import Derived.Test.YtaecnniddhikbaaGreatDoorP4
set_option linter.unusedSectionVars false
set_option linter.unnecessarySimpa false
set_option linter.unusedSimpArgs false
set_option linter.unusedVariables false
set_option maxRecDepth 100000
set_option maxHeartbeats 8000000
namespace Go.Proofs.YtaecnniddhikbaaGreatDoor
open Go Go.VA
def wQ (m:Nat→List C) (L:List Int):Nat→Nat×(Nat→List C)
 | 0=>(4,m)
 | 1=>(4,Go.VA.byF (putB L.length 4))
 | 2=>(32,fun j=>[nthCC (sumC (shaA (baL L))) (0+j)])
 | _=>(L.length,fun j=>rB L (0+j))
theorem catN_q (m:Nat→List C)(L:List Int):catN (wQ m L) 4=40+L.length:=by
 show 0+4+4+32+L.length=_
 omega
theorem catF_00 {z g:Nat→List C}(j:Nat):catF 0 0 z g j=g j:=by
 unfold catF
 rw [if_neg (Nat.not_lt_zero _),Nat.sub_zero]
theorem catG_q {mg L:List Int}{m:Nat→List C}(h4:mg.length=4)(hm:∀ j,j<4→m j=rB mg j)(i:Nat)(hi:i<40+L.length):catG (wQ m L) 4 i=rB (wrapL mg L) i:=by
 refine catW (M:=catF 0 0 zF m) (P:=Go.VA.byF (putB L.length 4)) (S:=fun j=>[nthCC (sumC (shaA (baL L))) (0+j)]) (D:=fun j=>rB L (0+j)) h4 (fun j hj=> ?_) (fun j hj=> ?_) (fun j hj=> ?_) (fun j hj=> ?_) i hi
 ·rw [catF_00]; exact hm j hj
 ·exact rB_bytesO 4 _ j hj
 ·show [nthCC (sumC (shaA (baL L))) (0+j)]=_
  rw [Nat.zero_add,← arr_sumC,nthCC_arr _ _ _ hj]
  exact rB_bytesO 32 _ j hj
 ·show rB L (0+j)=_
  rw [Nat.zero_add]
attribute [local irreducible] kyL layL shortL bitsI
end Go.Proofs.YtaecnniddhikbaaGreatDoor
