/- Contracts of functions of the program, and the laws that stand on them: what each function answers, whatever its arguments. -/
import Derived.Test.YthaaemhkdefidaaGreatDoorP6
set_option linter.unusedSectionVars false
set_option linter.unnecessarySimpa false
namespace Go.Proofs.YthaaemhkdefidaaGreatDoor
set_option linter.unusedSimpArgs false
set_option linter.unusedVariables false
set_option maxRecDepth 100000
set_option maxHeartbeats 8000000
open Go Go.VA
/-! ### the document's example; what is too great -/
def grD (a : Ad) : Bool := decide (IntKind.i64.wrap (IntKind.i64.wrap ((a.t.size : Int) + (a.n.size : Int)) + (a.s.size : Int)) > 200)
def grE (e : En) : Bool := decide ((e.d.length : Int) > 40) || decide (greatV e.v 10 > 600) || grD e.y.a
def grQ (l : List En) (j : Nat) : Bool := !(grE (l.getD j en0)) && allQ (fun k => !grD ((l.getD j en0).d.getD k ad0)) (l.getD j en0).d.length
def greatS (s : St) : Bool := decide ((s.l.length : Int) > 70) || !allQ (grQ s.l) s.l.length
theorem greatS_h {s : St} (h : decide ((s.l.length : Int) > 70) = true) : greatS s = true := by unfold greatS; rw [h]; rfl
theorem greatS_f {s : St} {c : Nat} (hc : c < s.l.length) (h : grQ s.l c = false) : greatS s = true := by unfold greatS; rw [allQ_f hc h]; simp
theorem greatS_t {s : St} (h0 : decide ((s.l.length : Int) > 70) = false) (h : ∀ j, j < s.l.length → grQ s.l j = true) : greatS s = false := by unfold greatS; rw [h0, allQ_t h]; rfl
theorem grQ_1 {l : List En} {c : Nat} (h : grE (l.getD c en0) = true) : grQ l c = false := by unfold grQ; rw [h]; rfl
theorem grQ_2 {l : List En} {c k : Nat} (hk : k < (l.getD c en0).d.length) (h : grD ((l.getD c en0).d.getD k ad0) = true) : grQ l c = false := by unfold grQ; rw [allQ_f hk (by rw [h]; rfl), Bool.and_false]
theorem grQ_3 {l : List En} {c : Nat} (h : grE (l.getD c en0) = false) (hd : ∀ k, k < (l.getD c en0).d.length → (!grD ((l.getD c en0).d.getD k ad0)) = true) : grQ l c = true := by unfold grQ; rw [h, allQ_t hd]; rfl
theorem aGreatS (s : St) : ACall Tryz.prog gl 9 [.ag (cSt s)] [] (boolA (greatS s)) := by
 refine acall_of_vcb htb hmix (f := 9) rfl rfl rfl (by kernel_rfl) rfl rfl fun hb => ?_; simp only [bndAll, AV.bnd, bnds, C.bnd, cVt, cS, true_and, and_true] at hb; conv => whnf
 have hn : s.l.length ≤ 140737488355328 := hb.1
 repeat' (first | (refine And.intro (fun h => ?_) (fun h => ?_) <;> (first | (with_reducible have hd : _ < _ := of_decide_eq_true h) | (with_reducible have hd : ¬ (_ < _) := of_decide_eq_false h) | fail) <;> (first | (conv => whnf))) | fail)
 ·exact leB (greatS_h h).symm
 ·have h0 := h
  refine loopI Nat (fun c => c ≤ s.l.length ∧ ∀ j, j < c → grQ s.l j = true) (fun c => [(3, intA .i64 c)]) (fun _ => [.box ((cSt s).map .c)]) (fun c => s.l.length - c) 0 ⟨Nat.zero_le _, fun j hj => absurd hj (Nat.not_lt_zero _)⟩ ?_ (fun _ => rfl) fun c ⟨hc, hp⟩ => ?_
  ·(refine And.intro ?_ (And.intro ?_ (And.intro ?_ rfl)) <;> (conv => whnf) <;> repeat' (first | exact trivial | exact LeE.of (Le.refl _) | (first | exact rfl | fail) | ((with_reducible refine And.intro ?_ ?_) <;> conv => whnf)))
  ·by_cases hcl : c < s.l.length
   ·have hC : (0 : Int) ≤ (c : Int) ∧ (c : Int) < (s.l.length : Int) := by omega
    have G := aGreat false false (s.l.getD c en0).v
    conv => whnf
    repeat' (first | ((with_reducible refine GOr.l ?_); (conv => whnf); refine Exists.intro _ (And.intro (chainI (G)) ?_); conv => whnf) | (refine And.intro (fun h => ?_) (fun h => ?_) <;> (first | (with_reducible have hd : _ < _ := of_decide_eq_true h) | (with_reducible have hd : ¬ (_ < _) := of_decide_eq_false h) | skip) <;> (first | omega | (conv => whnf))) | (refine And.intro ?_ ?_; (focus (first | (first | exact hC | fail) | fail)); conv => whnf) | fail)
    ·exact leB (greatS_f hcl (grQ_1 h)).symm
    ·have hg : grE (s.l.getD c en0) = false := h
     have hd40 : (s.l.getD c en0).d.length ≤ 40 := by
      unfold grE at hg
      simp only [Bool.or_eq_false_iff, decide_eq_false_iff_not] at hg
      omega
     refine loopI Nat (fun k => k ≤ (s.l.getD c en0).d.length ∧ ∀ j, j < k → (!grD ((s.l.getD c en0).d.getD j ad0)) = true) (fun k => [(5, intA .i64 k)]) (fun _ => [.box ((cSt s).map .c), .box ((cEn (s.l.getD c en0)).map .c)]) (fun k => (s.l.getD c en0).d.length - k) 0 ⟨Nat.zero_le _, fun j hj => absurd hj (Nat.not_lt_zero _)⟩ ?_ (fun _ => rfl) fun k ⟨hk, hq⟩ => ?_
     ·(refine And.intro ?_ (And.intro ?_ (And.intro ?_ rfl)) <;> (conv => whnf) <;> repeat' (first | exact trivial | exact LeE.of (Le.refl _) | (first | exact rfl | fail) | ((with_reducible refine And.intro ?_ ?_) <;> conv => whnf)))
     ·by_cases hkl : k < (s.l.getD c en0).d.length
      ·have hC2 : (0 : Int) ≤ (k : Int) ∧ (k : Int) < ((s.l.getD c en0).d.length : Int) := by omega
       conv => whnf
       repeat' (first | (refine And.intro (fun h => ?_) (fun h => ?_) <;> (first | (with_reducible have hd : _ < _ := of_decide_eq_true h) | (with_reducible have hd : ¬ (_ < _) := of_decide_eq_false h) | fail) <;> (first | omega | (conv => whnf))) | (refine And.intro ?_ ?_; (focus (first | (first | exact hC2 | fail) | fail)); conv => whnf) | fail)
       ·exact leB (greatS_f hcl (grQ_2 hkl h)).symm
       ·have h : grD ((s.l.getD c en0).d.getD k ad0) = false := h
        refine ⟨k + 1, ⟨hkl, next_q hq (by rw [h]; rfl)⟩, ?_, by omega⟩
        (refine And.intro ?_ (And.intro ?_ (And.intro ?_ rfl)) <;> (conv => whnf) <;> repeat' (first | exact trivial | exact LeE.of (Le.refl _) | (with_reducible refine LeE.of ?_) | (first | exact rfl | exact leI (by first | rfl | (rw [wrap64 (by omega) (by omega)]; omega) | fail) | fail) | ((with_reducible refine And.intro ?_ ?_) <;> conv => whnf)))
      ·obtain rfl : k = (s.l.getD c en0).d.length := by omega
       conv => whnf
       repeat' (first | (refine And.intro (fun h => ?_) (fun h => ?_) <;> (first | (with_reducible have hd : _ < _ := of_decide_eq_true h) | (with_reducible have hd : ¬ (_ < _) := of_decide_eq_false h) | fail) <;> (first | omega | (conv => whnf))) | fail)
       refine ⟨c + 1, ⟨hcl, next_q hp (grQ_3 hg hq)⟩, ?_, by omega⟩
       (refine And.intro ?_ (And.intro ?_ (And.intro ?_ rfl)) <;> (conv => whnf) <;> repeat' (first | exact trivial | exact LeE.of (Le.refl _) | (with_reducible refine LeE.of ?_) | (first | exact rfl | exact leI (by first | rfl | (rw [wrap64 (by omega) (by omega)]; omega) | fail) | fail) | ((with_reducible refine And.intro ?_ ?_) <;> conv => whnf)))
   ·obtain rfl : c = s.l.length := by omega
    conv => whnf
    repeat' (first | (refine And.intro (fun h => ?_) (fun h => ?_) <;> (first | (with_reducible have hd : _ < _ := of_decide_eq_true h) | (with_reducible have hd : ¬ (_ < _) := of_decide_eq_false h) | fail) <;> (first | omega | (conv => whnf))) | fail)
    exact leB (greatS_t h0 hp).symm
def st0 : St := ⟨1, 2, []⟩
theorem aPutEx : ACall Tryz.prog gl 14 [.ag [.v (.int .u64 1), .v (.int .u64 2), .v (.slice none 0 0)]] [] (.c (.sl false 1 43 (rB (fmS st0)))) := by
 have e0 : inH st0 0 = [1, 2, 0] := by decide +kernel
 have h := ACall.of_gcall (gStPutG st0 (by decide +kernel) ⟨by decide, by decide, by decide, by decide, fun e he => by simp [st0] at he⟩ ⟨by decide, by decide⟩ (fun c hc => by
  obtain rfl : c = 0 := by
   have : c ≤ 0 := hc
   omega
  rw [e0]; decide) (by
  show Bys (inH st0 0)
  rw [e0]
  intro x hx; revert x; decide) (fun c n F hc => absurd hc (Nat.not_lt_zero _)))
 have e : (fun j => rB (fmS st0) (0 + j)) = rB (fmS st0) := by funext j; rw [Nat.zero_add]
 rw [e] at h
 rw [show (fmS st0).length = 43 from by rw [fmS_len]; decide +kernel] at h
 exact h.le ⟨leAg ⟨LeC.refl _, LeC.refl _, LeC.nil rfl, trivial⟩, trivial⟩
def exL (d : Nat → UInt8) : List Int := bytesL mgS ++ be4L 3 ++ sumL d ++ [1, 2, 0]
theorem exL_eq : ∃ d, fmS st0 = exL d := ⟨shaA (baL (inS st0)), by
 have e : inS st0 = [1, 2, 0] := by decide +kernel
 unfold fmS wrapL exL
 rw [show (inS st0).length = 3 from by rw [e]; rfl, e]⟩
theorem exL_m (d : Nat → UInt8) : bytesOf (Int.toNat 4 - 0) (fun i => rB (exL d) (0 + i)) = { data := #[115, 115, 116, 49] } := by kernel_rfl
theorem exL_7 (d : Nat → UInt8) : (exL d).getD (Int.toNat 7) 0 = 3 := by kernel_rfl
theorem exL_40 (d : Nat → UInt8) : (exL d).getD (Int.toNat 40) 0 = 1 := by kernel_rfl
theorem exL_41 (d : Nat → UInt8) : (exL d).getD (Int.toNat 41) 0 = 2 := by kernel_rfl
theorem exL_42 (d : Nat → UInt8) : (exL d).getD (Int.toNat 42) 0 = 0 := by kernel_rfl
theorem isRB {L : List Int} (hb : Bys L) (n : Nat) (g : Nat → Nat) (hg : ∀ i, i < n → g i < L.length) : isBytes n (fun i => rB L (g i)) := fun i hi => by
 have := isB n (baL L) g i hi
 show ∃ x, rB L (g i) = _
 rw [rB_strO hb (hg i hi)]
 exact this
theorem aAwakeS : ACall Tryz.prog gl 10 [] [] (boolA true) := by
 have P := aPutEx
 have hf : (fmS st0).length = 43 := by rw [fmS_len]; decide +kernel
 have ok0 : okSt st0 = true := by decide +kernel
 have r0 : RgSt st0 := ⟨by decide, by decide, by decide, by decide, fun e he => by simp [st0] at he⟩
 have hbys : Bys (fmS st0) := bys_wrap (by intro x hx; revert x; decide +kernel) (by
  show Bys (inH st0 0)
  rw [show inH st0 0 = [1, 2, 0] from by decide +kernel]
  intro x hx; revert x; decide)
 have hI : isBytes (Int.toNat 4 - 0) (fun i => rB (fmS st0) (0 + i)) := isRB hbys _ (fun i => 0 + i) (fun i hi => by rw [hf]; have : i < 4 := hi; omega)
 refine acall_of_vc htb hmix (f := 10) rfl rfl rfl (by kernel_rfl) rfl rfl ?_; conv => whnf
 repeat' (first | (refine Exists.intro _ (And.intro (P) ?_); conv => whnf) | (refine And.intro ?_ ?_; (focus (first | (first | exact chainI hI | fail) | (refine chainI ?_; (first | decide | fail)) | fail)); conv => whnf) | ((with_reducible refine xc_pure ?_); conv => whnf))
 obtain ⟨d, hd⟩ := exL_eq
 refine leB ?_
 rw [hd, exL_m, exL_7, exL_40, exL_41, exL_42, beq_self_eq_true]
 rfl
end Go.Proofs.YthaaemhkdefidaaGreatDoor
