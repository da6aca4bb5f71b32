/- Contracts of functions of the program,and the laws that stand on them: what each function answers,whatever its arguments. -/
import Derived.Test.YtiodgjgngfklkaaGreatDoorD12
import Derived.Lib.Hide
import Derived.WalkKit
import Derived.Test.YtiodgjgngfklkaaGreatDoorD8
set_option linter.all false
set_option maxRecDepth 100000
set_option maxHeartbeats 8000000
namespace Go.Proofs.YtiodgjgngfklkaaGreatDoor
open Go Go.VA Go.RowKit
def pk (keep:Int) (n:Nat):Nat:=((keep.tmod ((n:Int)+1)+((n:Int)+1)).tmod ((n:Int)+1)).toNat
theorem tmod_b (x:Int){m:Int}(hm:0<m): -m<x.tmod m∧x.tmod m<m:=by
 have h1:=Int.natAbs_tmod x m
 have h2:x.natAbs%m.natAbs<m.natAbs:=Nat.mod_lt _ (by omega)
 omega
theorem pk_le (keep:Int)(n:Nat):0≤(keep.tmod ((n:Int)+1)+((n:Int)+1)).tmod ((n:Int)+1)∧(keep.tmod ((n:Int)+1)+((n:Int)+1)).tmod ((n:Int)+1)≤n:=by
 have h1:=tmod_b keep (m:=(n:Int)+1) (by omega)
 have h2:=tmod_b (keep.tmod ((n:Int)+1)+((n:Int)+1)) (m:=(n:Int)+1) (by omega)
 have h3:0≤(keep.tmod ((n:Int)+1)+((n:Int)+1)).tmod ((n:Int)+1):=Int.tmod_nonneg _ (by omega)
 omega
theorem fndNone {s:ByteArray}{m:List (Value×AV)}(h:mFind (.string s) m=none)(f g:Nat→List C):mFnd s m (fl (.sl false 1 0 f) (.sl false 1 0 g),false):=by
 unfold mFnd MFind
 rw [h]
 exact ⟨⟨fun B S u _ hu=>by
  simp only [RelV] at hu ⊢
  obtain ⟨arr,rfl,hr⟩:=hu
  refine ⟨arr,rfl,?_⟩
  have hr:RepVs S [.v (.slice none 0 0),.v (.slice none 0 0)] arr.toList:=hr
  simp only [RepVs,RepC] at hr ⊢
  obtain ⟨u1,r1,e1,⟨rfl,_⟩,u2,r2,rfl,⟨rfl,_⟩,rfl⟩:=hr
  exact ⟨_,_,e1,⟨none,0,rfl,⟨Nat.le_refl _,Nat.zero_le _⟩,.inl trivial⟩,_,_,rfl,⟨none,0,rfl,⟨Nat.le_refl _,Nat.zero_le _⟩,.inl trivial⟩,rfl⟩⟩,rfl⟩
end Go.Proofs.YtiodgjgngfklkaaGreatDoor
