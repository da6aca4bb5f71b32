/- What functions of the program answer,whatever their arguments. -/
import Derived.Test.YtaecnniddhikbaaGreatDoorP7
import Derived.Test.YtaecnniddhikbaaGreatDoorP5
import Derived.Test.YtaecnniddhikbaaGreatDoorP0
import Derived.Test.YtaecnniddhikbaaGreatDoorP6
set_option linter.unusedSectionVars false
set_option linter.unnecessarySimpa false
set_option linter.unusedSimpArgs false
set_option linter.unusedVariables false
set_option maxRecDepth 100000
set_option maxHeartbeats 8000000
namespace Go.Proofs.YtaecnniddhikbaaGreatDoor
open Go Go.VA
def stRG (A:Nat→Bool→Nat) (B:Nat→Bool→Bool) (E:Nat→Bool→En):Nat→Int→Nat→List En→Bool→List En×Nat×Bool
 | 0,_,a,acc,b=>(acc,a,b)
 | m+1,i,a,acc,b=>if decide (i>0)&& !b then stRG A B E m (IntKind.u64.wrap (i-1)) (A a b) (acc++[E a b]) (B a b) else (acc,a,b)
def stR (s:ByteArray):Nat→Int→Nat→List En→Bool→List En×Nat×Bool:=stRG (fun a b=>(dpS s a b).2.1) (fun a b=>(dpS s a b).2.2) (enS s)
def p1 (s:ByteArray):Nat:=40+(sh s 40).2.1.toNat
def p2 (s:ByteArray):Nat:=p1 s+(sh s (p1 s)).2.1.toNat
def p3 (s:ByteArray):Nat:=p2 s+(sh s (p2 s)).2.1.toNat
def c1 (s:ByteArray):Bool:=false||(sh s 40).2.2 != 0
def c2 (s:ByteArray):Bool:=c1 s||(sh s (p1 s)).2.2 != 0
def c3 (s:ByteArray):Bool:=c2 s||(sh s (p2 s)).2.2 != 0
def stS (s:ByteArray):List En×Nat×Bool:=stR s (s.size+2) (sh s (p2 s)).1 (p3 s) [] (c3 s)
def rdS (s:ByteArray):St:=⟨(sh s 40).1,(sh s (p1 s)).1,(stS s).1⟩
def wXs (s:ByteArray):ByteArray:=subS s 40 (s.size-40)
end Go.Proofs.YtaecnniddhikbaaGreatDoor
namespace Go.Proofs.YtaecnniddhikbaaGreatDoor
open Go Go.VA
def unEG (s:ByteArray) (pm:Bool) (n4:Int) (q:Bool):Int :=
 if decide ((s.size:Int)<40) then 2 else if !pm then 4
 else if decide (IntKind.u64.wrap ((s.size-(40:Int).toNat:Nat):Int)<n4) then 2
 else if decide (IntKind.u64.wrap ((s.size-(40:Int).toNat:Nat):Int)>n4) then 3
 else if !q then 5 else 0
def unE (mg s:ByteArray):Int:=unEG s (preM mg s) (be4 s) (sumB s (wXs s))
def g1 (G:Nat→Ky×Int×Int) (a:Nat):Nat:=a+((G a).2.1.toNat+1)
def g2 (G:Nat→Ky×Int×Int) (Vv:Nat→V×Int×Int) (a:Nat):Nat:=g1 G a+(Vv (g1 G a)).2.1.toNat
def g3 (G:Nat→Ky×Int×Int) (Vv:Nat→V×Int×Int) (Sh:Nat→Int×Int×Int) (a:Nat):Nat:=g2 G Vv a+(Sh (g2 G Vv a)).2.1.toNat
end Go.Proofs.YtaecnniddhikbaaGreatDoor
namespace Go.Proofs.YtaecnniddhikbaaGreatDoor
open Go Go.VA
def h1 (Sh:Nat→Int×Int×Int):Nat:=40+(Sh 40).2.1.toNat
def h2 (Sh:Nat→Int×Int×Int):Nat:=h1 Sh+(Sh (h1 Sh)).2.1.toNat
def h3 (Sh:Nat→Int×Int×Int):Nat:=h2 Sh+(Sh (h2 Sh)).2.1.toNat
end Go.Proofs.YtaecnniddhikbaaGreatDoor
