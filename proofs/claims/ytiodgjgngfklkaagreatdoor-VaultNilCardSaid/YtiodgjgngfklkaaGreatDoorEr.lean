/- Contracts of functions of the program,and the laws that stand on them: what each function answers,whatever its arguments. -/
import Derived.Test.YtiodgjgngfklkaaGreatDoorC18
import Derived.Test.YtiodgjgngfklkaaGreatDoorA1
set_option linter.all false
set_option maxRecDepth 100000
set_option maxHeartbeats 8000000
namespace Go.Proofs.YtiodgjgngfklkaaGreatDoor
open Go Go.VA
theorem catRB {A B:List Int}{m:Nat}{F g:Nat→List C}(hm:m=A.length)(hF:∀ j,j<A.length→F j=rB A j)(hg:∀ j,j<B.length→g j=rB B j):∀ i,i<(A++B).length→catF 0 m F g i=rB (A++B) i:=by
 intro i hi
 rw [List.length_append] at hi
 subst hm
 unfold catF
 by_cases h:i<A.length
 ·rw [if_pos h,Nat.zero_add,hF i h]
  show cBy (A.getD i 0)=cBy ((A++B).getD i 0)
  rw [List.getD_eq_getElem?_getD,List.getD_eq_getElem?_getD,List.getElem?_append_left h]
 ·rw [if_neg h,hg _ (by omega)]
  show cBy (B.getD _ 0)=cBy ((A++B).getD i 0)
  rw [List.getD_eq_getElem?_getD,List.getD_eq_getElem?_getD,List.getElem?_append_right (by omega)]
attribute [local irreducible] zigI
end Go.Proofs.YtiodgjgngfklkaaGreatDoor
