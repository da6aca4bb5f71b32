/- Contracts of functions of the program, and the laws that stand on them: what each function answers, whatever its arguments. -/
import Derived.Test.YthaaemhkdefidaaGreatDoorP12
import Derived.Test.YthaaemhkdefidaaGreatDoorP5
set_option linter.unusedSectionVars false
set_option linter.unnecessarySimpa false
namespace Go.Proofs.YthaaemhkdefidaaGreatDoor
set_option linter.unusedSimpArgs false
set_option linter.unusedVariables false
set_option maxRecDepth 100000
set_option maxHeartbeats 8000000
open Go Go.VA
/-! ### a state is read, by the document -/
def unEG (s : ByteArray) (pm : Bool) (n4 : Int) (q : Bool) : Int :=
 if decide ((s.size : Int) < 40) then 2 else if !pm then 4
 else if decide (IntKind.u64.wrap ((s.size - (40 : Int).toNat : Nat) : Int) < n4) then 2
 else if decide (IntKind.u64.wrap ((s.size - (40 : Int).toNat : Nat) : Int) > n4) then 3
 else if !q then 5 else 0
def unE (mg s : ByteArray) : Int := unEG s (preM mg s) (be4 s) (sumB s (wXs s))
def unN (s : ByteArray) (e : Int) : Nat := if e != 0 then 0 else s.size - 40
theorem aUnwrapG (mg : ByteArray) (t : Bool) (s : ByteArray) (h40 : 40 ≤ s.size) (pm : Bool) (hpm : ((bytesOf (Int.toNat 4 - 0) fun i => strCells s (0 + i)).toList == mg.toList) = pm) (n4 : Int) (d : Nat → UInt8) (q : Bool)
  (N4 : ACall Tryz.prog gl 67 [.c (.sl t 1 4 (fun i => strCells s (4 + i)))] [] (intA .u64 n4))
  (SR : ACall Tryz.prog gl 31 [.c (.sl t 1 (s.size - 40) (fun i => strCells s (40 + i)))] [] (.ag (sumC d)))
  (SE : ∀ u v, ACall Tryz.prog gl 13 [.c (.sl u 1 32 (fun i => [nthCC (sumC d) (0 + i)])), .c (.sl v 1 32 (fun i => strCells s (8 + i)))] [] (boolA q)) :
  ACall Tryz.prog gl 79 [.c (.v (.string mg)), .c (.sl t 1 s.size (strCells s))] [] (.tup [.c (.sl t 1 (unN s (unEG s pm n4 q)) (fun i => strCells s (40 + i))), intA .i64 (unEG s pm n4 q)]) := by
 have hq : decide ((s.size : Int) < 40) = false := decide_eq_false (by omega)
 have hI : isBytes (Int.toNat 4 - 0) (fun i => strCells s (0 + i)) := isB _ s (fun i => 0 + i)
 have hB : (0 : Int) ≤ 4 ∧ (4 : Int) ≤ s.size := by omega
 have hC : (0 : Int) ≤ 40 ∧ (40 : Int) ≤ s.size := by omega
 subst hpm
 refine acall_of_vc htb hmix (f := 79) rfl rfl rfl (by kernel_rfl) rfl rfl ?_; conv => whnf
 repeat' (first | (refine Exists.intro _ (And.intro (N4) ?_); conv => whnf) | (refine Exists.intro _ (And.intro (SR) ?_); conv => whnf) | (refine Exists.intro _ (And.intro (chainI (SE _ _)) ?_); conv => whnf) | (refine And.intro (fun h => ?_) (fun h => ?_) <;> (first | (with_reducible have hd : _ < _ := of_decide_eq_true h) | (with_reducible have hd : ¬ (_ < _) := of_decide_eq_false h) | skip) <;> (first | omega | (conv => whnf))) | ((with_reducible refine DOr.l ?_); (conv => whnf)) | ((with_reducible refine NilOr.l ?_); conv => whnf) | (refine And.intro ?_ ?_; (focus (first | (first | exact hB | exact hC | exact hI | fail) | (refine chainI ?_; (first | decide | omega | fail)) | fail)); conv => whnf) | (refine And.intro ?_ ?_; (focus (first | exact NoTag.bool | fail)); conv => whnf) | ((with_reducible refine xc_pure ?_); conv => whnf))
 all_goals unfold unEG
 all_goals (repeat (first | (rw [ifT]; rotate_left; (focus assumption)) | (rw [ifF]; rotate_left; (focus assumption))))
 all_goals first
  | exact leTup2 (leSl0 rfl rfl) (Le.refl _)
  | exact leTup2 (leSl (by show s.size - 40 = s.size - 40; rfl) (fun i hi => rfl)) (Le.refl _)
theorem aUnwrap (mg : ByteArray) (t : Bool) (s : ByteArray) (hs : s.size ≤ 4294967296) : ACall Tryz.prog gl 79 [.c (.v (.string mg)), .c (.sl t 1 s.size (strCells s))] [] (.tup [.c (.sl t 1 (unN s (unE mg s)) (fun i => strCells s (40 + i))), intA .i64 (unE mg s)]) := by
 by_cases hA : (s.size : Int) < 40
 ·have e : unE mg s = 2 := by unfold unE unEG; rw [if_pos (by simpa using hA)]
  rw [e]
  refine acall_of_vc htb hmix (f := 79) rfl rfl rfl (by kernel_rfl) rfl rfl ?_; conv => whnf
  repeat' (first | (refine And.intro (fun h => ?_) (fun h => ?_) <;> (first | (with_reducible have hd : _ < _ := of_decide_eq_true h) | (with_reducible have hd : ¬ (_ < _) := of_decide_eq_false h) | fail) <;> (first | omega | (conv => whnf))) | ((with_reducible refine NilOr.l ?_); conv => whnf) | fail)
  exact leTup2 (leSl0 rfl rfl) (Le.refl _)
 ·exact aUnwrapG mg t s (by omega) (preM mg s) rfl (be4 s) (shaA (wXs s)) (sumB s (wXs s)) (aNum4 t s) (aShaRS t s 40 (s.size - 40) (by omega)) (fun u v => aSumSame u v s (wXs s))
/-! entries -/
def dpG (G : Nat → Ky × Int × Int) : Nat → Nat → List Ad → Option (List Ad × Nat)
 | 0, a, acc => some (acc, a)
 | n + 1, a, acc => if (G a).2.2 != 0 || (G a).1.n != 1 then none else dpG G n (a + (G a).2.1.toNat) (acc ++ [(G a).1.a])
def g1 (G : Nat → Ky × Int × Int) (a : Nat) : Nat := a + ((G a).2.1.toNat + 1)
def g2 (G : Nat → Ky × Int × Int) (Vv : Nat → V × Int × Int) (a : Nat) : Nat := g1 G a + (Vv (g1 G a)).2.1.toNat
def g3 (G : Nat → Ky × Int × Int) (Vv : Nat → V × Int × Int) (Sh : Nat → Int × Int × Int) (a : Nat) : Nat := g2 G Vv a + (Sh (g2 G Vv a)).2.1.toNat
def gEnG (s : ByteArray) (G : Nat → Ky × Int × Int) (Vv : Nat → V × Int × Int) (Sh : Nat → Int × Int × Int) (a : Nat) : Option (En × Nat) :=
 if (G a).2.2 != 0 || decide ((G a).2.1 ≥ ((s.size - a : Nat) : Int)) || decide (byteN s (a + (G a).2.1.toNat) > 3) then none
 else if (Vv (g1 G a)).2.2 != 0 then none
 else if (Sh (g2 G Vv a)).2.2 != 0 || decide ((Sh (g2 G Vv a)).1 > ((s.size - a : Nat) : Int)) then none
 else (dpG G (Sh (g2 G Vv a)).1.toNat (g3 G Vv Sh a) []).map fun p => (⟨(G a).1, (Vv (g1 G a)).1, (byteN s (a + (G a).2.1.toNat)).tmod 2 == 1, decide (byteN s (a + (G a).2.1.toNat) > 1), p.1⟩, p.2)
def enO (a : Nat) : Option (En × Nat) → En × Int × Bool
 | none => (en0, 0, false)
 | some p => (p.1, ((p.2 - a : Nat) : Int), true)
theorem en0Le : Le 0 (.ag (cKy ky0 ++ ([.v (.int .i64 0), .v (.int .i64 0), .v (.string ByteArray.empty), .v (.slice none 0 0), .v (.slice none 0 0), .v (.int .i64 0), .v (.int .i64 0), .v (.bool false)] ++ [.v (.bool false), .v (.bool false), .v (.slice none 0 0)]))) (.ag (cEn en0)) := leAg ⟨LeC.refl _, LeC.refl _, LeC.refl _, LeC.refl _, LeC.refl _, LeC.refl _, LeC.refl _, LeC.refl _, LeC.refl _, LeC.nil rfl, LeC.nil rfl, LeC.refl _, LeC.refl _, LeC.refl _, LeC.refl _, LeC.refl _, LeC.nil rfl, trivial⟩
theorem aGetEnG (t : Bool) (s : ByteArray) (hs : s.size ≤ 4294967296) (a : Nat) (ha : a ≤ s.size) (G : Nat → Ky × Int × Int) (Vv : Nat → V × Int × Int) (Sh : Nat → Int × Int × Int)
  (hG0 : ACall Tryz.prog gl 121 [.c (.sl t 1 (s.size - a) (fun i => strCells s (a + i)))] [] (.tup [.ag (cKy (G a).1), intA .i64 (G a).2.1, intA .i64 (G a).2.2]))
  (hG : ∀ n, ACall Tryz.prog gl 121 [.c (.sl t 1 (s.size - a - n) (fun i => strCells s (a + (n + i))))] [] (.tup [.ag (cKy (G (a + n)).1), intA .i64 (G (a + n)).2.1, intA .i64 (G (a + n)).2.2]))
  (hV : ∀ n, ACall Tryz.prog gl 122 [.c (.sl t 1 (s.size - a - n) (fun i => strCells s (a + (n + i))))] [] (.tup [.ag (cV (Vv (a + n)).1), intA .i64 (Vv (a + n)).2.1, intA .i64 (Vv (a + n)).2.2]))
  (hS : ∀ n, ACall Tryz.prog gl 80 [.c (.sl t 1 (s.size - a - n) (fun i => strCells s (a + (n + i))))] [] (.tup [intA .u64 (Sh (a + n)).1, intA .i64 (Sh (a + n)).2.1, intA .i64 (Sh (a + n)).2.2]))
  (rG : ∀ a, 0 ≤ (G a).2.1 ∧ (G a).2.1 ≤ ((s.size - a : Nat) : Int) ∧ ((G a).2.2 = 0 → 0 < (G a).2.1)) (rV : ∀ a, 0 ≤ (Vv a).2.1 ∧ (Vv a).2.1 ≤ ((s.size - a : Nat) : Int)) (rS : ∀ a, 0 ≤ (Sh a).2.1 ∧ (Sh a).2.1 ≤ ((s.size - a : Nat) : Int) ∧ 0 ≤ (Sh a).1) :
  ACall Tryz.prog gl 81 [.c (.sl t 1 (s.size - a) (fun i => strCells s (a + i)))] [] (.tup [.ag (cEn (enO a (gEnG s G Vv Sh a)).1), intA .i64 (enO a (gEnG s G Vv Sh a)).2.1, boolA (enO a (gEnG s G Vv Sh a)).2.2]) := by
 have r0 := rG a
 have w1 : ((G a).2.2 != 0 || decide ((G a).2.1 ≥ ((s.size - a : Nat) : Int)) || decide (byteN s (a + (G a).2.1.toNat) > 3)) = false → IntKind.i64.wrap ((G a).2.1 + 1) = (((G a).2.1.toNat + 1 : Nat) : Int) ∧ (G a).2.1.toNat + 1 ≤ s.size - a := fun h => by
  simp only [Bool.or_eq_false_iff, decide_eq_false_iff_not] at h
  rw [wrap64 (by omega) (by omega)]; omega
 have hM : ((G a).2.2 != 0 || decide ((G a).2.1 ≥ ((s.size - a : Nat) : Int))) = false → (0 : Int) ≤ (G a).2.1 ∧ (G a).2.1 < ((s.size - a : Nat) : Int) := fun h => by
  simp only [Bool.or_eq_false_iff, decide_eq_false_iff_not] at h
  omega
 have V2 := hV (IntKind.i64.wrap ((G a).2.1 + 1)).toNat
 generalize hvv : Vv (a + (IntKind.i64.wrap ((G a).2.1 + 1)).toNat) = vv at V2
 have S2 := hS (IntKind.i64.wrap (IntKind.i64.wrap ((G a).2.1 + 1) + vv.2.1)).toNat
 generalize hss : Sh (a + (IntKind.i64.wrap (IntKind.i64.wrap ((G a).2.1 + 1) + vv.2.1)).toNat) = ss at S2
 have hD : ((G a).2.2 != 0 || decide ((G a).2.1 ≥ ((s.size - a : Nat) : Int)) || decide (byteN s (a + (G a).2.1.toNat) > 3)) = false → 0 ≤ IntKind.i64.wrap ((G a).2.1 + 1) ∧ IntKind.i64.wrap ((G a).2.1 + 1) ≤ ((s.size - a : Nat) : Int) := fun h => by
  have := w1 h
  omega
 have hD2 : ((G a).2.2 != 0 || decide ((G a).2.1 ≥ ((s.size - a : Nat) : Int)) || decide (byteN s (a + (G a).2.1.toNat) > 3)) = false → 0 ≤ IntKind.i64.wrap (IntKind.i64.wrap ((G a).2.1 + 1) + vv.2.1) ∧ IntKind.i64.wrap (IntKind.i64.wrap ((G a).2.1 + 1) + vv.2.1) ≤ ((s.size - a : Nat) : Int) := fun h => by
  have w := w1 h
  have := rV (a + (IntKind.i64.wrap ((G a).2.1 + 1)).toNat)
  rw [hvv] at this
  rw [w.1] at this ⊢
  rw [wrap64 (by omega) (by omega)]; omega
 refine acall_of_vc htb hmix (f := 81) rfl rfl rfl (by kernel_rfl) rfl rfl ?_; conv => whnf
 repeat' (first | (refine Exists.intro _ (And.intro (hG0) ?_); conv => whnf) | (refine Exists.intro _ (And.intro (V2) ?_); conv => whnf) | (refine Exists.intro _ (And.intro (S2) ?_); conv => whnf) | (refine And.intro (fun h => ?_) (fun h => ?_) <;> (first | skip) <;> (first | (conv => whnf))) | ((with_reducible refine Both.mk ?_ ?_) <;> conv => whnf) | ((with_reducible apply Drawn.one); conv => whnf) | ((with_reducible refine Then.mk' ?_); conv => whnf) | (first | exact RefS.self rfl | fail) | (refine And.intro ?_ ?_; (focus (first | exact rfl | (first | exact hM | exact hD (by assumption) | exact hD2 (by assumption) | fail) | (refine chainI ?_; (first | decide | fail)) | ((conv => whnf); intros; (try simp only [decide_eq_true_eq, decide_eq_false_iff_not, Bool.and_eq_true, Bool.or_eq_true, Bool.and_eq_false_imp, Bool.or_eq_false_iff, Bool.not_eq_true', Bool.not_eq_false', beq_iff_eq, bne_iff_ne, ne_eq] at *); (first | omega | fail)))); conv => whnf) | ((with_reducible refine xc_pure ?_); conv => whnf))
 ·have h : ((G a).2.2 != 0 || decide ((G a).2.1 ≥ ((s.size - a : Nat) : Int)) || decide (byteN s (a + (G a).2.1.toNat) > 3)) = true := h
  have e : gEnG s G Vv Sh a = none := by unfold gEnG; rw [if_pos h]
  rw [e]
  exact leTup3 en0Le (Le.refl _) (Le.refl _)
 ·rename_i h0
  have h0 : ((G a).2.2 != 0 || decide ((G a).2.1 ≥ ((s.size - a : Nat) : Int)) || decide (byteN s (a + (G a).2.1.toNat) > 3)) = false := h0
  have w := w1 h0
  have e1 : Vv (g1 G a) = vv := by rw [← hvv, w.1]; rfl
  have e : gEnG s G Vv Sh a = none := by unfold gEnG; rw [if_neg (by rw [h0]; decide), e1, if_pos h]
  rw [e]
  exact leTup3 en0Le (Le.refl _) (Le.refl _)
 ·rename_i h0 hv
  have h0 : ((G a).2.2 != 0 || decide ((G a).2.1 ≥ ((s.size - a : Nat) : Int)) || decide (byteN s (a + (G a).2.1.toNat) > 3)) = false := h0
  have w := w1 h0
  have e1 : Vv (g1 G a) = vv := by rw [← hvv, w.1]; rfl
  have rv := rV (g1 G a)
  rw [e1] at rv
  have hg1 : g1 G a = a + ((G a).2.1.toNat + 1) := rfl
  have e2 : Sh (g2 G Vv a) = ss := by
   rw [← hss, w.1, wrap64 (by omega) (by omega)]
   congr 1
   unfold g2
   rw [e1, hg1]; omega
  have hw : IntKind.u64.wrap ((s.size - a : Nat) : Int) = ((s.size - a : Nat) : Int) := wrapU (by omega) (by omega)
  have e : gEnG s G Vv Sh a = none := by unfold gEnG; rw [if_neg (by rw [h0]; decide), e1, if_neg (by rw [hv]; decide), e2, if_pos (by rw [hw] at h; exact h)]
  rw [e]
  exact leTup3 en0Le (Le.refl _) (Le.refl _)
 ·rename_i h0 hv
  have h0 : ((G a).2.2 != 0 || decide ((G a).2.1 ≥ ((s.size - a : Nat) : Int)) || decide (byteN s (a + (G a).2.1.toNat) > 3)) = false := h0
  have w := w1 h0
  have e1 : Vv (g1 G a) = vv := by rw [← hvv, w.1]; rfl
  have rv := rV (g1 G a)
  rw [e1] at rv
  have hg1 : g1 G a = a + ((G a).2.1.toNat + 1) := rfl
  have hw2 : IntKind.i64.wrap (IntKind.i64.wrap ((G a).2.1 + 1) + vv.2.1) = (((G a).2.1.toNat + 1 + vv.2.1.toNat : Nat) : Int) := by rw [w.1, wrap64 (by omega) (by omega)]; omega
  have hg2 : g2 G Vv a = a + ((G a).2.1.toNat + 1 + vv.2.1.toNat) := by unfold g2; rw [e1, hg1]; omega
  have e2 : Sh (g2 G Vv a) = ss := by rw [← hss, hw2, hg2]; rfl
  have rs := rS (g2 G Vv a)
  rw [e2] at rs
  have hw : IntKind.u64.wrap ((s.size - a : Nat) : Int) = ((s.size - a : Nat) : Int) := wrapU (by omega) (by omega)
  rw [hw] at h
  have hss2 : ss.2.2 = 0 ∧ ss.1 ≤ ((s.size - a : Nat) : Int) := by
   simp only [Bool.or_eq_false_iff, bne_eq_false_iff_eq, decide_eq_false_iff_not] at h
   omega
  have hw3 : IntKind.i64.wrap (IntKind.i64.wrap (IntKind.i64.wrap ((G a).2.1 + 1) + vv.2.1) + ss.2.1) = (((G a).2.1.toNat + 1 + vv.2.1.toNat + ss.2.1.toNat : Nat) : Int) := by rw [hw2, wrap64 (by omega) (by omega)]; omega
  have hg3 : g3 G Vv Sh a = a + ((G a).2.1.toNat + 1 + vv.2.1.toNat + ss.2.1.toNat) := by unfold g3; rw [e2, hg2]; omega
  have e : gEnG s G Vv Sh a = (dpG G ss.1.toNat (a + ((G a).2.1.toNat + 1 + vv.2.1.toNat + ss.2.1.toNat)) []).map fun p => (⟨(G a).1, vv.1, (byteN s (a + (G a).2.1.toNat)).tmod 2 == 1, decide (byteN s (a + (G a).2.1.toNat) > 1), p.1⟩, p.2) := by
   unfold gEnG; rw [if_neg (by rw [h0]; decide), e1, if_neg (by rw [hv]; decide), e2, if_neg (by rw [h]; decide), hg3]
  rw [e]
  clear e
  generalize hR : dpG G ss.1.toNat (a + ((G a).2.1.toNat + 1 + vv.2.1.toNat + ss.2.1.toNat)) [] = R
  refine loopI (Nat × Nat × List Ad) (fun p => dpG G p.1 (a + p.2.1) p.2.2 = R ∧ a + p.2.1 ≤ s.size ∧ p.2.2.length + p.1 = ss.1.toNat)
   (fun p => [(13, intA .u64 p.2.2.length), (7, intA .i64 p.2.1)])
   (fun p => [.box (boxC (tb 46).zero), .box (boxC (tb 46).zero), .dead, .box ((cKy (G a).1 ++ (cV vv.1 ++ [C.v (.bool ((byteN s (a + (G a).2.1.toNat)).tmod 2 == 1)), C.v (.bool (decide (byteN s (a + (G a).2.1.toNat) > 1)))])).map AV.c ++ [AV.own 5 5 0 p.2.2.length]), .dead, .row 5 p.2.2.length (rA p.2.2)])
   (fun p => p.1) (ss.1.toNat, (G a).2.1.toNat + 1 + vv.2.1.toNat + ss.2.1.toNat, []) ⟨hR, by show a + ((G a).2.1.toNat + 1 + vv.2.1.toNat + ss.2.1.toNat) ≤ s.size; rw [hg2] at rs; omega, by simp⟩ ?_ (fun _ => rfl) fun ⟨n, q, acc⟩ ⟨j1, j2, j3⟩ => ?_
  ·(refine And.intro ?_ (And.intro ?_ (And.intro ?_ rfl)) <;> (conv => whnf) <;> repeat' (first | exact trivial | exact LeE.of (Le.refl _) | exact LeE.nil rfl | (with_reducible refine LeE.of ?_) | (first | exact rfl | exact leI (by first | rfl | omega | fail) | fail) | ((with_reducible refine And.intro ?_ ?_) <;> conv => whnf)))
   all_goals first
    | exact leI hw3
    | trace_state
  ·change dpG G n (a + q) acc = R at j1
   change a + q ≤ s.size at j2
   change acc.length + n = ss.1.toNat at j3
   have KR := hG q
   have rg := rG (a + q)
   have hB : (0 : Int) ≤ (q : Int) ∧ (q : Int) ≤ ((s.size - a : Nat) : Int) := by omega
   have B1 : (acc.length + 1) * (tb 34).bytes ≤ 140737488355328 := by show (acc.length + 1) * 64 ≤ _; omega
   have hL : acc.length + 1 = (acc ++ [(G (a + q)).1.a]).length := by simp
   cases n with
   | zero =>
    have e : R = some (acc, a + q) := by rw [← j1]; rfl
    have j3' : (acc.length : Int) = ss.1 := by omega
    rw [e]
    conv => whnf
    repeat' (first | (refine And.intro (fun h => ?_) (fun h => ?_) <;> (first | (with_reducible have hd : _ < _ := of_decide_eq_true h) | (with_reducible have hd : ¬ (_ < _) := of_decide_eq_false h) | fail) <;> (first | omega | (conv => whnf))) | fail)
    exact leTup3 (leAg ⟨LeC.refl _, LeC.refl _, LeC.refl _, LeC.refl _, LeC.refl _, LeC.refl _, LeC.refl _, LeC.refl _, LeC.refl _, LeC.refl _, LeC.refl _, LeC.refl _, LeC.refl _, LeC.refl _, LeC.refl _, LeC.refl _, LeC.sl rfl (fun i hi => by rw [Nat.zero_add]; rfl), trivial⟩) (leI (by show (q : Int) = ((a + q - a : Nat) : Int); omega)) (Le.refl _)
   | succ n =>
    have j3' : (acc.length : Int) < ss.1 := by omega
    conv => whnf
    repeat' (first | (refine Exists.intro _ (And.intro (KR) ?_); conv => whnf) | (refine And.intro (fun h => ?_) (fun h => ?_) <;> (first | (with_reducible have hd : _ < _ := of_decide_eq_true h) | (with_reducible have hd : ¬ (_ < _) := of_decide_eq_false h) | skip) <;> (first | omega | (conv => whnf))) | ((with_reducible refine OwnOr.l ?_); (conv => whnf)) | (refine And.intro ?_ ?_; (focus (first | (first | exact B1 | exact hB | fail) | fail)); conv => whnf) | ((with_reducible refine xc_pure ?_); conv => whnf))
    ·have h : ((G (a + q)).2.2 != 0 || (G (a + q)).1.n != 1) = true := h
     have e : R = none := by rw [← j1]; simp only [dpG]; rw [if_pos h]
     rw [e]
     exact leTup3 en0Le (Le.refl _) (Le.refl _)
    ·have h : ((G (a + q)).2.2 != 0 || (G (a + q)).1.n != 1) = false := h
     have e : dpG G (n + 1) (a + q) acc = dpG G n (a + q + (G (a + q)).2.1.toNat) (acc ++ [(G (a + q)).1.a]) := by simp only [dpG]; rw [h, if_neg (by decide)]
     rw [e, Nat.add_assoc] at j1
     have hW : IntKind.i64.wrap ((q : Int) + (G (a + q)).2.1) = ((q + (G (a + q)).2.1.toNat : Nat) : Int) := by rw [wrap64 (by omega) (by omega)]; omega
     have hW2 : IntKind.u64.wrap ((acc.length : Int) + 1) = (((acc ++ [(G (a + q)).1.a]).length : Nat) : Int) := by rw [wrapU (by omega) (by omega)]; simp
     refine ⟨(n, q + (G (a + q)).2.1.toNat, acc ++ [(G (a + q)).1.a]), ⟨j1, by show a + (q + _) ≤ _; omega, by show (acc ++ [_]).length + n = _; simp; omega⟩, ?_, Nat.lt_succ_self _⟩
     (refine And.intro ?_ (And.intro ?_ (And.intro ?_ rfl)) <;> (conv => whnf) <;> repeat' (first | exact trivial | exact LeE.of (Le.refl _) | (with_reducible refine LeE.of ?_) | (first | exact leOwn hL | exact rfl | exact leI (by first | rfl | omega | fail) | fail) | ((with_reducible refine And.intro ?_ ?_) <;> conv => whnf)))
     all_goals first
      | exact leI hW
      | exact leI hW2
      | exact hL
      | exact fun i hi => LeCs.of_eq (rowE_snoc (enc := cAd) (d := ad0) acc _ acc.length rfl i (by simpa using hi))
      | trace_state
end Go.Proofs.YthaaemhkdefidaaGreatDoor

namespace Go.Proofs.YthaaemhkdefidaaGreatDoor
set_option linter.unusedSimpArgs false
set_option linter.unusedVariables false
set_option maxRecDepth 100000
set_option maxHeartbeats 8000000
open Go Go.VA
/-! ### a state is read, by the document -/
def stG (EN : Nat → Option (En × Nat)) : Nat → Nat → List En → Option (List En × Nat)
 | 0, a, acc => some (acc, a)
 | n + 1, a, acc => match EN a with
  | none => none
  | some p => stG EN n p.2 (acc ++ [p.1])
def h1 (Sh : Nat → Int × Int × Int) : Nat := 40 + (Sh 40).2.1.toNat
def h2 (Sh : Nat → Int × Int × Int) : Nat := h1 Sh + (Sh (h1 Sh)).2.1.toNat
def h3 (Sh : Nat → Int × Int × Int) : Nat := h2 Sh + (Sh (h2 Sh)).2.1.toNat
def finG (s : ByteArray) (x1 x2 : Int) (ok : List En → Bool) : Option (List En × Nat) → St × Int
 | none => (stz, 4)
 | some p => if ((p.2 - 40 : Nat) : Int) != ((s.size - 40 : Nat) : Int) || !ok p.1 then (stz, 4) else (⟨x1, x2, p.1⟩, 0)
def rGetG (s : ByteArray) (Sh : Nat → Int × Int × Int) (EN : Nat → Option (En × Nat)) (ok : List En → Bool) : St × Int :=
 if (Sh 40).2.2 != 0 then (stz, 4) else if (Sh (h1 Sh)).2.2 != 0 then (stz, 4)
 else if (Sh (h2 Sh)).2.2 != 0 || decide ((Sh (h2 Sh)).1 > ((s.size - 40 : Nat) : Int)) then (stz, 4)
 else finG s (Sh 40).1 (Sh (h1 Sh)).1 ok (stG EN (Sh (h2 Sh)).1.toNat (h3 Sh) [])
theorem aRGetG (t : Bool) (s : ByteArray) (hs : s.size ≤ 4294967296) (h40 : 40 ≤ s.size) (Sh : Nat → Int × Int × Int) (EN : Nat → Option (En × Nat)) (ok : List En → Bool)
  (U : ACall Tryz.prog gl 79 [.c (.v (.string mgS)), .c (.sl t 1 s.size (strCells s))] [] (.tup [.c (.sl t 1 (s.size - 40) (fun i => strCells s (40 + i))), intA .i64 0]))
  (hS0 : ACall Tryz.prog gl 80 [.c (.sl t 1 (s.size - 40) (fun i => strCells s (40 + i)))] [] (.tup [intA .u64 (Sh 40).1, intA .i64 (Sh 40).2.1, intA .i64 (Sh 40).2.2]))
  (hS : ∀ n, ACall Tryz.prog gl 80 [.c (.sl t 1 (s.size - 40 - n) (fun i => strCells s (40 + (n + i))))] [] (.tup [intA .u64 (Sh (40 + n)).1, intA .i64 (Sh (40 + n)).2.1, intA .i64 (Sh (40 + n)).2.2]))
  (hE : ∀ n, 40 + n ≤ s.size → ACall Tryz.prog gl 81 [.c (.sl t 1 (s.size - 40 - n) (fun i => strCells s (40 + (n + i))))] [] (.tup [.ag (cEn (enO (40 + n) (EN (40 + n))).1), intA .i64 (enO (40 + n) (EN (40 + n))).2.1, boolA (enO (40 + n) (EN (40 + n))).2.2]))
  (rS : ∀ a, 0 ≤ (Sh a).2.1 ∧ (Sh a).2.1 ≤ ((s.size - a : Nat) : Int) ∧ 0 ≤ (Sh a).1) (rE' : ∀ a p, a ≤ s.size → EN a = some p → a ≤ p.2 ∧ p.2 ≤ s.size ∧ 0 ≤ p.1.y.n)
  (CK : ∀ u l, (∀ e ∈ l, 0 ≤ e.y.n) → ACall Tryz.prog gl 12 [.ag (cSu u ⟨(Sh 40).1, (Sh (h1 Sh)).1, l⟩)] [] (boolA (ok l))) :
  ACall Tryz.prog gl 36 [.c (.sl t 1 s.size (strCells s))] [] (.tup [.ag (cSt (rGetG s Sh EN ok).1), intA .i64 (rGetG s Sh EN ok).2]) := by
 have r0 := rS 40
 have S2 := hS (Sh 40).2.1.toNat
 have e1 : Sh (40 + (Sh 40).2.1.toNat) = Sh (h1 Sh) := rfl
 have r1 := rS (h1 Sh)
 have hh1 : h1 Sh = 40 + (Sh 40).2.1.toNat := rfl
 have hw : IntKind.i64.wrap ((Sh 40).2.1 + (Sh (40 + (Sh 40).2.1.toNat)).2.1) = (((Sh 40).2.1.toNat + (Sh (h1 Sh)).2.1.toNat : Nat) : Int) := by
  rw [e1, wrap64 (by omega) (by omega)]; omega
 have hh2 : h2 Sh = 40 + ((Sh 40).2.1.toNat + (Sh (h1 Sh)).2.1.toNat) := by unfold h2; omega
 have S3 := hS (IntKind.i64.wrap ((Sh 40).2.1 + (Sh (40 + (Sh 40).2.1.toNat)).2.1)).toNat
 generalize hss : Sh (40 + (IntKind.i64.wrap ((Sh 40).2.1 + (Sh (40 + (Sh 40).2.1.toNat)).2.1)).toNat) = ss at S3
 have e2 : Sh (h2 Sh) = ss := by rw [← hss, hw, hh2]; rfl
 have r2 := rS (h2 Sh)
 rw [e2] at r2
 have hD1 : 0 ≤ (Sh 40).2.1 ∧ (Sh 40).2.1 ≤ ((s.size - 40 : Nat) : Int) := by omega
 have hD2 : 0 ≤ IntKind.i64.wrap ((Sh 40).2.1 + (Sh (40 + (Sh 40).2.1.toNat)).2.1) ∧ IntKind.i64.wrap ((Sh 40).2.1 + (Sh (40 + (Sh 40).2.1.toNat)).2.1) ≤ ((s.size - 40 : Nat) : Int) := by rw [hw]; omega
 refine acall_of_vc htb hmix (f := 36) rfl rfl rfl (by kernel_rfl) rfl rfl ?_; conv => whnf
 repeat' (first | (refine Exists.intro _ (And.intro (U) ?_); conv => whnf) | (refine Exists.intro _ (And.intro (hS0) ?_); conv => whnf) | (refine Exists.intro _ (And.intro (S2) ?_); conv => whnf) | (refine Exists.intro _ (And.intro (S3) ?_); conv => whnf) | (refine And.intro (fun h => ?_) (fun h => ?_) <;> (first | skip) <;> (first | exact absurd h (by decide) | (conv => whnf))) | (refine And.intro ?_ ?_; (focus (first | (first | exact hD1 | exact hD2 | fail) | fail)); conv => whnf) | ((with_reducible refine xc_pure ?_); conv => whnf))
 ·have e : rGetG s Sh EN ok = (stz, 4) := by unfold rGetG; rw [if_pos h]
  rw [e]; exact leTup2 stzLe (Le.refl _)
 ·rename_i q1
  have e : rGetG s Sh EN ok = (stz, 4) := by unfold rGetG; rw [ifF q1, ifT (show ((Sh (h1 Sh)).2.2 != 0) = true from h)]
  rw [e]; exact leTup2 stzLe (Le.refl _)
 ·rename_i q1 q2
  have hwl : IntKind.u64.wrap ((s.size - 40 : Nat) : Int) = ((s.size - 40 : Nat) : Int) := wrapU (by omega) (by omega)
  rw [hwl] at h
  have e : rGetG s Sh EN ok = (stz, 4) := by unfold rGetG; rw [ifF q1, ifF (show ((Sh (h1 Sh)).2.2 != 0) = false from q2), e2, ifT h]
  rw [e]; exact leTup2 stzLe (Le.refl _)
 ·rename_i q1 q2
  have hwl : IntKind.u64.wrap ((s.size - 40 : Nat) : Int) = ((s.size - 40 : Nat) : Int) := wrapU (by omega) (by omega)
  rw [hwl] at h
  have hc : ss.1 ≤ ((s.size - 40 : Nat) : Int) := by
   simp only [Bool.or_eq_false_iff, decide_eq_false_iff_not] at h
   omega
  have hw3 : IntKind.i64.wrap (IntKind.i64.wrap ((Sh 40).2.1 + (Sh (40 + (Sh 40).2.1.toNat)).2.1) + ss.2.1) = (((Sh 40).2.1.toNat + (Sh (h1 Sh)).2.1.toNat + ss.2.1.toNat : Nat) : Int) := by rw [hw, wrap64 (by omega) (by omega)]; omega
  have hh3 : h3 Sh = 40 + ((Sh 40).2.1.toNat + (Sh (h1 Sh)).2.1.toNat + ss.2.1.toNat) := by unfold h3; rw [e2]; omega
  have e : rGetG s Sh EN ok = finG s (Sh 40).1 (Sh (h1 Sh)).1 ok (stG EN ss.1.toNat (40 + ((Sh 40).2.1.toNat + (Sh (h1 Sh)).2.1.toNat + ss.2.1.toNat)) []) := by unfold rGetG; rw [ifF q1, ifF (show ((Sh (h1 Sh)).2.2 != 0) = false from q2), e2, ifF h, hh3]
  rw [e]
  clear e
  generalize hR : stG EN ss.1.toNat (40 + ((Sh 40).2.1.toNat + (Sh (h1 Sh)).2.1.toNat + ss.2.1.toNat)) [] = R
  refine loopI (Nat × Nat × List En) (fun p => stG EN p.1 (40 + p.2.1) p.2.2 = R ∧ 40 + p.2.1 ≤ s.size ∧ p.2.2.length + p.1 = ss.1.toNat ∧ ∀ e ∈ p.2.2, 0 ≤ e.y.n)
   (fun p => [(13, intA .u64 p.2.2.length), (9, intA .i64 p.2.1)])
   (fun p => [.box (boxC (tb 25).zero), .box (boxC (tb 25).zero), .box [AV.c (C.v (.int .u64 (Sh 40).1)), AV.c (C.v (.int .u64 (Sh (h1 Sh)).1)), AV.own 3 17 0 p.2.2.length], .row 17 p.2.2.length (rE p.2.2)])
   (fun p => p.1) (ss.1.toNat, (Sh 40).2.1.toNat + (Sh (h1 Sh)).2.1.toNat + ss.2.1.toNat, []) ⟨hR, by show 40 + ((Sh 40).2.1.toNat + (Sh (h1 Sh)).2.1.toNat + ss.2.1.toNat) ≤ s.size; omega, by simp, fun e he => by simp at he⟩ ?_ (fun _ => rfl) fun ⟨n, q, acc⟩ ⟨j1, j2, j3, j4⟩ => ?_
  ·(refine And.intro ?_ (And.intro ?_ (And.intro ?_ rfl)) <;> (conv => whnf) <;> repeat' (first | exact trivial | exact LeE.of (Le.refl _) | exact LeE.nil rfl | (with_reducible refine LeE.of ?_) | (first | exact rfl | exact leI (by first | rfl | omega | fail) | fail) | ((with_reducible refine And.intro ?_ ?_) <;> conv => whnf)))
   all_goals first
    | exact leI hw3
    | trace_state
  ·change stG EN n (40 + q) acc = R at j1
   change 40 + q ≤ s.size at j2
   change acc.length + n = ss.1.toNat at j3
   have j4 : ∀ e ∈ acc, 0 ≤ e.y.n := j4
   have KR := hE q j2
   have hB : (0 : Int) ≤ (q : Int) ∧ (q : Int) ≤ ((s.size - 40 : Nat) : Int) := by omega
   have B1 : (acc.length + 1) * (tb 46).bytes ≤ 140737488355328 := by show (acc.length + 1) * 208 ≤ _; omega
   have CK2 : ∀ u, ACall Tryz.prog gl 12 [.ag [C.v (.int .u64 (Sh 40).1), C.v (.int .u64 (Sh (h1 Sh)).1), C.sl u 17 acc.length (fun i => rE acc (0 + i))]] [] (boolA (ok acc)) := fun u => (CK u acc j4).le ⟨leAg ⟨LeC.refl _, LeC.refl _, LeC.sl rfl (fun i hi => by rw [Nat.zero_add]), trivial⟩, trivial⟩
   cases n with
   | zero =>
    have e : R = some (acc, 40 + q) := by rw [← j1]; rfl
    have j3' : (acc.length : Int) = ss.1 := by omega
    have hf : finG s (Sh 40).1 (Sh (h1 Sh)).1 ok (some (acc, 40 + q)) = if (q : Int) != ((s.size - 40 : Nat) : Int) || !ok acc then (stz, 4) else (⟨(Sh 40).1, (Sh (h1 Sh)).1, acc⟩, 0) := by
     show (if ((40 + q - 40 : Nat) : Int) != ((s.size - 40 : Nat) : Int) || !ok acc then _ else _) = _
     rw [Nat.add_sub_cancel_left]
    rw [e, hf]
    conv => whnf
    repeat' (first | ((with_reducible refine GOr.l ?_); (conv => whnf); refine Exists.intro _ (And.intro (chainI (CK2 _)) ?_); conv => whnf) | (refine And.intro (fun h => ?_) (fun h => ?_) <;> (first | (with_reducible have hd : _ < _ := of_decide_eq_true h) | (with_reducible have hd : ¬ (_ < _) := of_decide_eq_false h) | skip) <;> (first | omega | (conv => whnf))) | (refine And.intro ?_ ?_; (focus (first | exact NoTag.bool | fail)); conv => whnf) | fail)
    ·have h : ((q : Int) != ((s.size - 40 : Nat) : Int) || !ok acc) = true := h
     rw [ifT h]
     exact leTup2 stzLe (Le.refl _)
    ·have h : ((q : Int) != ((s.size - 40 : Nat) : Int) || !ok acc) = false := h
     rw [ifF h]
     exact leTup2 (leAg ⟨LeC.refl _, LeC.refl _, LeC.sl rfl (fun i hi => by first | (rw [Nat.zero_add]; done) | fail), trivial⟩) (Le.refl _)
   | succ n =>
    have j3' : (acc.length : Int) < ss.1 := by omega
    cases hen : EN (40 + q) with
    | none =>
     have e : R = none := by rw [← j1]; simp only [stG, hen]
     rw [hen] at KR
     simp only [enO] at KR
     rw [e]
     conv => whnf
     repeat' (first | (refine Exists.intro _ (And.intro (KR) ?_); conv => whnf) | (refine And.intro (fun h => ?_) (fun h => ?_) <;> (first | (with_reducible have hd : _ < _ := of_decide_eq_true h) | (with_reducible have hd : ¬ (_ < _) := of_decide_eq_false h) | skip) <;> (first | exact absurd h (by decide) | omega | (conv => whnf))) | (refine And.intro ?_ ?_; (focus (first | (first | exact hB | fail) | fail)); conv => whnf) | ((with_reducible refine xc_pure ?_); conv => whnf))
     all_goals first
      | exact leTup2 stzLe (Le.refl _)
      | trace_state
    | some p =>
     have rr := rE' _ p j2 hen
     have e : stG EN (n + 1) (40 + q) acc = stG EN n p.2 (acc ++ [p.1]) := by simp only [stG, hen]
     rw [e] at j1
     rw [hen] at KR
     simp only [enO] at KR
     have hL : acc.length + 1 = (acc ++ [p.1]).length := by simp
     conv => whnf
     repeat' (first | (refine Exists.intro _ (And.intro (KR) ?_); conv => whnf) | (refine And.intro (fun h => ?_) (fun h => ?_) <;> (first | (with_reducible have hd : _ < _ := of_decide_eq_true h) | (with_reducible have hd : ¬ (_ < _) := of_decide_eq_false h) | skip) <;> (first | exact absurd h (by decide) | omega | (conv => whnf))) | ((with_reducible refine OwnOr.l ?_); (conv => whnf)) | (refine And.intro ?_ ?_; (focus (first | (first | exact B1 | exact hB | fail) | fail)); conv => whnf) | ((with_reducible refine xc_pure ?_); conv => whnf))
     have hW : IntKind.i64.wrap ((q : Int) + ((p.2 - (40 + q) : Nat) : Int)) = ((p.2 - 40 : Nat) : Int) := by rw [wrap64 (by omega) (by omega)]; omega
     have hW2 : IntKind.u64.wrap ((acc.length : Int) + 1) = (((acc ++ [p.1]).length : Nat) : Int) := by rw [wrapU (by omega) (by omega)]; simp
     refine ⟨(n, p.2 - 40, acc ++ [p.1]), ⟨?_, by show 40 + (p.2 - 40) ≤ _; omega, by show (acc ++ [_]).length + n = _; simp; omega, ?_⟩, ?_, Nat.lt_succ_self _⟩
     ·show stG EN n (40 + (p.2 - 40)) (acc ++ [p.1]) = R
      rw [show 40 + (p.2 - 40) = p.2 from by omega]
      exact j1
     ·intro e he
      rcases List.mem_append.1 he with he | he
      ·exact j4 e he
      ·rw [List.mem_singleton] at he
       rw [he]; exact rr.2.2
     ·(refine And.intro ?_ (And.intro ?_ (And.intro ?_ rfl)) <;> (conv => whnf) <;> repeat' (first | exact trivial | exact LeE.of (Le.refl _) | (with_reducible refine LeE.of ?_) | (first | exact leOwn hL | exact rfl | exact leI (by first | rfl | omega | fail) | fail) | ((with_reducible refine And.intro ?_ ?_) <;> conv => whnf)))
      all_goals first
       | exact leI hW
       | exact leI hW2
       | exact hL
       | exact fun i hi => LeCs.of_eq (rowE_snoc (enc := cEn) (d := en0) acc _ acc.length rfl i (by simpa using hi))
       | trace_state
end Go.Proofs.YthaaemhkdefidaaGreatDoor
