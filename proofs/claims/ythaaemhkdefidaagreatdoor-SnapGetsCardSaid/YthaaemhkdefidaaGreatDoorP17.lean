/- Contracts of functions of the program, and the laws that stand on them: what each function answers, whatever its arguments. -/
import Derived.Test.YthaaemhkdefidaaGreatDoorP15
import Derived.Test.YthaaemhkdefidaaGreatDoorTT
import Derived.Test.YthaaemhkdefidaaGreatDoorA1
import Derived.Test.YthaaemhkdefidaaGreatDoorC18
import Derived.Test.YthaaemhkdefidaaGreatDoorC9
import Derived.Test.YthaaemhkdefidaaGreatDoorE7
import Derived.Test.YthaaemhkdefidaaGreatDoorEr
import Derived.Test.YthaaemhkdefidaaGreatDoorC13
set_option linter.unusedSectionVars false
set_option linter.unnecessarySimpa false
namespace Go.Proofs.YthaaemhkdefidaaGreatDoor
set_option linter.unusedSimpArgs false
set_option linter.unusedVariables false
set_option maxRecDepth 100000
set_option maxHeartbeats 8000000
open Go Go.VA
/-! ### law SnapGets -/
theorem ntCs_app2 : ∀ {a b : List C}, NtCs a → NtCs b → NtCs (a ++ b)
 | [], _, _, hb => hb
 | _ :: _, _, ha, hb => ⟨ha.1, ntCs_app2 ha.2 hb⟩
theorem ntEn (e : En) : NtCs (cEn e) := ntCs_app2 (a := cKy e.y) ⟨trivial, trivial, trivial, trivial, trivial, trivial, trivial⟩ (ntCs_app2 (ntV e.v) ⟨trivial, trivial, ⟨rfl, fun i hi => ⟨trivial, trivial, trivial, trivial, trivial, trivial⟩⟩, trivial⟩)
theorem ntSt (x : St) : NtCs (cSt x) := ⟨trivial, trivial, ⟨rfl, fun i hi => ntEn _⟩, trivial⟩
theorem aSnapGets (t : Bool) (s : ByteArray) : ACall Tryz.prog gl 6 [.c (.sl t 1 s.size (strCells s))] [] (boolA true) := by
 have AW := aAwakeS
 by_cases hs : s.size ≤ 4000
 ·have G1 : ACall Tryz.prog gl 35 [.c (.sl true 1 s.size (fun i => lentF s (0 + i)))] [] (.tup [.ag (cSt (rSt s).1), intA .i64 (rSt s).2]) := (aGetS true s (by omega)).le ⟨leSl rfl (fun i hi => by unfold lentF; rw [if_pos (by omega), Nat.zero_add]), trivial⟩
  have G2 := aRGetS t s (by omega)
  generalize hR : rSt s = R at G1 G2
  have ntG : NoTag (.tup [.ag (cSt R.1), intA .i64 R.2]) := NoTag.tup ⟨NoTag.ag (ntSt R.1), NoTag.int, trivial⟩
  have S := aSameSR R.1 R.1
  rw [sameSt_iff.2 rfl] at S
  have K := gKept t s (by omega)
  have L := gLent t s (by omega)
  refine acall_of_vc htb hmix (f := 6) rfl rfl rfl (by kernel_rfl) rfl rfl ?_; conv => whnf
  repeat' (first | (refine Exists.intro _ (And.intro (G1) ?_); conv => whnf) | (refine Exists.intro _ (And.intro (G2) ?_); conv => whnf) | (refine Exists.intro _ (And.intro (S) ?_); conv => whnf) | ((with_reducible refine GOr.l ?_); (conv => whnf); refine Exists.intro _ (And.intro (chainI (AW)) ?_); conv => whnf) | (refine And.intro (fun h => ?_) (fun h => ?_) <;> (first | (with_reducible have hd : _ < _ := of_decide_eq_true h) | (with_reducible have hd : ¬ (_ < _) := of_decide_eq_false h) | skip) <;> (first | omega | (conv => whnf))) | (refine And.intro ?_ ?_; (focus (first | (first | exact ntG | fail) | fail)); conv => whnf) | ((with_reducible refine xc_guard ?_); (first | (refine xc_g (L) false (by first | (((conv => whnf); repeat' (first | exact trivial | exact rfl | exact LeC.refl _ | ((with_reducible refine And.intro ?_ ?_) <;> conv => whnf))); done) | fail) trivial ?_) | fail); conv => whnf) | ((with_reducible refine xc_guard ?_); (first | (refine xc_g (K) false (by first | (((conv => whnf); repeat' (first | exact trivial | exact rfl | exact LeC.refl _ | exact (fun i hi => LeCs.refl _) | ((with_reducible refine And.intro ?_ ?_) <;> conv => whnf))); done) | fail) trivial ?_) | fail); conv => whnf) | ((with_reducible refine GOr.r ?_); conv => whnf) | ((with_reducible refine xc_pure ?_); conv => whnf))
  ·exact leB (by simp only [beq_self_eq_true, Bool.and_self])
  ·have h : (true && R.2 == R.2) = !true := h
   simp only [beq_self_eq_true, Bool.and_self] at h
   exact tnt h
 ·refine acall_of_vc htb hmix (f := 6) rfl rfl rfl (by kernel_rfl) rfl rfl ?_; conv => whnf
  repeat' (first | (refine Exists.intro _ (And.intro (AW) ?_); conv => whnf) | (refine And.intro (fun h => ?_) (fun h => ?_) <;> (first | (with_reducible have hd : _ < _ := of_decide_eq_true h) | (with_reducible have hd : ¬ (_ < _) := of_decide_eq_false h) | fail) <;> (first | omega | (conv => whnf))) | ((with_reducible refine xc_pure ?_); conv => whnf))
  ·exact leB rfl
end Go.Proofs.YthaaemhkdefidaaGreatDoor
