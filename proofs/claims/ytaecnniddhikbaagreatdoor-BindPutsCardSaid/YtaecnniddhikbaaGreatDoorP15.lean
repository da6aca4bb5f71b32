/- What functions of the program answer,whatever their arguments. -/
import Derived.Test.YtaecnniddhikbaaGreatDoorP12
import Derived.Test.YtaecnniddhikbaaGreatDoorP7
set_option linter.unusedSectionVars false
set_option linter.unnecessarySimpa false
set_option linter.unusedSimpArgs false
set_option linter.unusedVariables false
set_option maxRecDepth 100000
set_option maxHeartbeats 8000000
namespace Go.Proofs.YtaecnniddhikbaaGreatDoor
open Go Go.VA
section
variable {α:Type}
def lpR (A:Nat→Nat) (B:Nat→Bool) (E:Nat→α):Nat→Int→Nat→List α→Bool→List α×Nat×Bool
 | 0,_,a,acc,b=>(acc,a,b)
 | m+1,i,a,acc,b=>if decide (i>0)&& !b then lpR A B E m (IntKind.u64.wrap (i-1)) (A a) (acc++[E a]) (B a) else (acc,a,b)
theorem lpR_bad {A:Nat→Nat}{B:Nat→Bool}{E:Nat→α}(m:Nat)(i:Int)(a:Nat)(acc:List α):(lpR A B E m i a acc true).2.2=true:=by
 cases m with
 | zero=>rfl
 | succ m=>simp only [lpR]; rw [if_neg (by simp)]
variable {z:Nat} {A:Nat→Nat} {B:Nat→Bool} {E:Nat→α} {EN:Nat→Option (α×Nat)}
theorem wrapU2 {n:Int}(h0:0≤n)(h:n<18446744073709551616):IntKind.u64.wrap n=n:=Int.emod_eq_of_lt h0 h
end
end Go.Proofs.YtaecnniddhikbaaGreatDoor
namespace Go.Proofs.YtaecnniddhikbaaGreatDoor
open Go Go.VA
def eqK (a b:Ky):Bool:=a.a.t==b.a.t&&(a.a.n==b.a.n&&(a.a.k==b.a.k&&(a.a.i==b.a.i&&(a.a.s==b.a.s&&a.n==b.n))))
theorem len_ne (n m:Nat):((n:Int) != (m:Int))= !decide (n=m):=by
 rw [Bool.eq_iff_iff]
 simp
 omega
theorem eqK_iff {a b:Ky}:eqK a b=true ↔ a=b:=by
 unfold eqK
 simp only [Bool.and_eq_true,ba_beq,beq_iff_eq]
 constructor
 ·rintro ⟨h1,h2,h3,h4,h5,h6⟩
  obtain ⟨⟨t,n,k,i,s⟩,g⟩:=a
  obtain ⟨⟨t',n',k',i',s'⟩,g'⟩:=b
  simp only at h1 h2 h3 h4 h5 h6
  rw [h1,h2,h3,h4,h5,h6]
 ·rintro rfl; exact ⟨rfl,rfl,rfl,rfl,rfl,rfl⟩
theorem off {f:Nat}{t:Bool}{s:ByteArray}{a n:Nat}{r:AV}(h:ACall Tryz.prog gl f [.c (.sl t 1 (s.size-(a+n)) (fun i=>strCells s (a+n+i)))] [] r):ACall Tryz.prog gl f [.c (.sl t 1 (s.size-a-n) (fun i=>strCells s (a+(n+i))))] [] r :=
 h.le ⟨leSl (by omega) (fun i hi=>by rw [Nat.add_assoc]),trivial⟩
end Go.Proofs.YtaecnniddhikbaaGreatDoor
