/- Contracts of functions of the program,and the laws that stand on them: what each function answers,whatever its arguments. -/
import Derived.Test.YtaecnniddhikbaaGreatDoorP7
import Derived.Test.YtaecnniddhikbaaGreatDoorP5
import Derived.Test.YtaecnniddhikbaaGreatDoorP0
import Derived.Test.YtaecnniddhikbaaGreatDoorP6
set_option linter.unusedSectionVars false
set_option linter.unnecessarySimpa false
set_option linter.unusedSimpArgs false
set_option linter.unusedVariables false
set_option maxRecDepth 100000
set_option maxHeartbeats 8000000
namespace Go.Proofs.YtaecnniddhikbaaGreatDoor
open Go Go.VA
def stRG (A:Nat→Bool→Nat) (B:Nat→Bool→Bool) (E:Nat→Bool→En):Nat→Int→Nat→List En→Bool→List En×Nat×Bool
 | 0,_,a,acc,b=>(acc,a,b)
 | m+1,i,a,acc,b=>if decide (i>0)&& !b then stRG A B E m (IntKind.u64.wrap (i-1)) (A a b) (acc++[E a b]) (B a b) else (acc,a,b)
def stR (s:ByteArray):Nat→Int→Nat→List En→Bool→List En×Nat×Bool:=stRG (fun a b=>(dpS s a b).2.1) (fun a b=>(dpS s a b).2.2) (enS s)
def p1 (s:ByteArray):Nat:=40+(sh s 40).2.1.toNat
def p2 (s:ByteArray):Nat:=p1 s+(sh s (p1 s)).2.1.toNat
def p3 (s:ByteArray):Nat:=p2 s+(sh s (p2 s)).2.1.toNat
def c1 (s:ByteArray):Bool:=false||(sh s 40).2.2 != 0
def c2 (s:ByteArray):Bool:=c1 s||(sh s (p1 s)).2.2 != 0
def c3 (s:ByteArray):Bool:=c2 s||(sh s (p2 s)).2.2 != 0
def stS (s:ByteArray):List En×Nat×Bool:=stR s (s.size+2) (sh s (p2 s)).1 (p3 s) [] (c3 s)
def rdS (s:ByteArray):St:=⟨(sh s 40).1,(sh s (p1 s)).1,(stS s).1⟩
def wXs (s:ByteArray):ByteArray:=subS s 40 (s.size-40)
end Go.Proofs.YtaecnniddhikbaaGreatDoor
namespace Go.Proofs.YtaecnniddhikbaaGreatDoor
open Go Go.VA
def unEG (s:ByteArray) (pm:Bool) (n4:Int) (q:Bool):Int :=
 if decide ((s.size:Int)<40) then 2 else if !pm then 4
 else if decide (IntKind.u64.wrap ((s.size-(40:Int).toNat:Nat):Int)<n4) then 2
 else if decide (IntKind.u64.wrap ((s.size-(40:Int).toNat:Nat):Int)>n4) then 3
 else if !q then 5 else 0
def unE (mg s:ByteArray):Int:=unEG s (preM mg s) (be4 s) (sumB s (wXs s))
def unN (s:ByteArray) (e:Int):Nat:=if e != 0 then 0 else s.size-40
theorem aUnwrapG (mg:ByteArray) (t:Bool) (s:ByteArray) (h40:40≤s.size) (pm:Bool) (hpm:((bytesOf (Int.toNat 4-0) fun i=>strCells s (0+i)).toList==mg.toList)=pm) (n4:Int) (d:Nat→UInt8) (q:Bool)
  (N4:ACall Tryz.prog gl 46 [.c (.sl t 1 4 (fun i=>strCells s (4+i)))] [] (intA .u64 n4))
  (SR:ACall Tryz.prog gl 20 [.c (.sl t 1 (s.size-40) (fun i=>strCells s (40+i)))] [] (.ag (sumC d)))
  (SE:∀ u v,ACall Tryz.prog gl 10 [.c (.sl u 1 32 (fun i=>[nthCC (sumC d) (0+i)])),.c (.sl v 1 32 (fun i=>strCells s (8+i)))] [] (boolA q)) :
  ACall Tryz.prog gl 16 [.c (.v (.string mg)),.c (.sl t 1 s.size (strCells s))] [] (.tup [.c (.sl t 1 (unN s (unEG s pm n4 q)) (fun i=>strCells s (40+i))),intA .i64 (unEG s pm n4 q)]):=by
 have hq:decide ((s.size:Int)<40)=false:=decide_eq_false (by omega)
 have hI:isBytes (Int.toNat 4-0) (fun i=>strCells s (0+i)):=isB _ s (fun i=>0+i)
 have hB:(0:Int)≤4∧(4:Int)≤s.size:=by omega
 have hC:(0:Int)≤40∧(40:Int)≤s.size:=by omega
 subst hpm
 refine acall_of_vc htb hmix (f:=16) rfl rfl rfl (by kernel_rfl) rfl rfl ?_; conv=>whnf
 repeat' (first|(refine Exists.intro _ (And.intro (N4) ?_); conv=>whnf)|(refine Exists.intro _ (And.intro (SR) ?_); conv=>whnf)|(refine Exists.intro _ (And.intro (chainI (SE _ _)) ?_); conv=>whnf)|(refine And.intro (fun h=> ?_) (fun h=> ?_)<;>(first|(with_reducible have hd:_<_:=of_decide_eq_true h)|(with_reducible have hd:¬ (_<_):=of_decide_eq_false h)|skip)<;>(first|omega|(conv=>whnf)))|((with_reducible refine DOr.l ?_); (conv=>whnf))|((with_reducible refine NilOr.l ?_); conv=>whnf)|((with_reducible refine FzOr.l ?_); conv=>whnf)|(refine And.intro ?_ ?_; (focus (first|(first|exact hB|exact hC|exact hI|fail)|(refine chainI ?_; (first|decide|omega|fail))|fail)); conv=>whnf)|(refine And.intro ?_ ?_; (focus (first|exact NoTag.bool|fail)); conv=>whnf)|((with_reducible refine xc_pure ?_); conv=>whnf))
 all_goals unfold unEG
 all_goals (repeat (first|(rw [ifT]; rotate_left; (focus assumption))|(rw [ifF]; rotate_left; (focus assumption))))
 all_goals first
  | exact leTup2 (leSl0 rfl rfl) (Le.refl _)
  | exact leTup2 (leSl (by show s.size-40=s.size-40; rfl) (fun i hi=>rfl)) (Le.refl _)
theorem aUnwrap (mg:ByteArray) (t:Bool) (s:ByteArray) (hs:s.size≤4294967296):ACall Tryz.prog gl 16 [.c (.v (.string mg)),.c (.sl t 1 s.size (strCells s))] [] (.tup [.c (.sl t 1 (unN s (unE mg s)) (fun i=>strCells s (40+i))),intA .i64 (unE mg s)]):=by
 by_cases hA:(s.size:Int)<40
 ·have e:unE mg s=2:=by unfold unE unEG; rw [if_pos (by simpa using hA)]
  rw [e]
  refine acall_of_vc htb hmix (f:=16) rfl rfl rfl (by kernel_rfl) rfl rfl ?_; conv=>whnf
  repeat' (first|(refine And.intro (fun h=> ?_) (fun h=> ?_)<;>(first|(with_reducible have hd:_<_:=of_decide_eq_true h)|(with_reducible have hd:¬ (_<_):=of_decide_eq_false h)|fail)<;>(first|omega|(conv=>whnf)))|((with_reducible refine NilOr.l ?_); conv=>whnf)|fail)
  exact leTup2 (leSl0 rfl rfl) (Le.refl _)
 ·exact aUnwrapG mg t s (by omega) (preM mg s) rfl (be4 s) (shaA (wXs s)) (sumB s (wXs s)) (aNum4 t s) (aShaRS t s 40 (s.size-40) (by omega)) (fun u v=>aSumSame u v s (wXs s))
def g1 (G:Nat→Ky×Int×Int) (a:Nat):Nat:=a+((G a).2.1.toNat+1)
def g2 (G:Nat→Ky×Int×Int) (Vv:Nat→V×Int×Int) (a:Nat):Nat:=g1 G a+(Vv (g1 G a)).2.1.toNat
def g3 (G:Nat→Ky×Int×Int) (Vv:Nat→V×Int×Int) (Sh:Nat→Int×Int×Int) (a:Nat):Nat:=g2 G Vv a+(Sh (g2 G Vv a)).2.1.toNat
end Go.Proofs.YtaecnniddhikbaaGreatDoor
namespace Go.Proofs.YtaecnniddhikbaaGreatDoor
open Go Go.VA
def h1 (Sh:Nat→Int×Int×Int):Nat:=40+(Sh 40).2.1.toNat
def h2 (Sh:Nat→Int×Int×Int):Nat:=h1 Sh+(Sh (h1 Sh)).2.1.toNat
def h3 (Sh:Nat→Int×Int×Int):Nat:=h2 Sh+(Sh (h2 Sh)).2.1.toNat
end Go.Proofs.YtaecnniddhikbaaGreatDoor
