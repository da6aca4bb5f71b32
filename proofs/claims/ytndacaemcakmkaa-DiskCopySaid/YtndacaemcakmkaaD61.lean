/- Contracts of functions of the program, and the laws that stand on them: what each function answers, whatever its arguments. -/
import Derived.Test.YtndacaemcakmkaaD58
set_option linter.unusedSectionVars false
set_option linter.unnecessarySimpa false
namespace Go.Proofs.Ytndacaemcakmkaa
set_option linter.unusedSimpArgs false
set_option linter.unusedVariables false
set_option maxRecDepth 100000
set_option maxHeartbeats 8000000
open Go Go.VA Go.RowKit
/-! ### a copy -/
theorem gMapClone (m : List (Value × AV)) : GCall Try.prog gl 31 [.mp m] [.mpv 0] [.mp m, .mp m] [.mpv 1] where
 callable := ⟨_, Try.func31, by kernel_rfl, by kernel_rfl⟩
 len := by simp
 kinds := fun i hi => by
  match i, hi with
  | 0, _ => rfl
 livep := fun i hi => by
  match i, hi with
  | 0, _ => rfl
 liveq := fun i hi => by
  match i, hi with
  | 0, _ => rfl
  | 1, _ => rfl
 run := fun w M B vals hro hL hG hv => by
  have hlen := hL.len
  obtain ⟨bo0, rfl⟩ : ∃ b0, B = [b0] := List.length_eq_one_iff.1 hlen
  obtain ⟨bm, es, clock, rfl, hmap, hrel, hst⟩ := hL.obj 0 bo0 rfl
  have hvals : vals = #[.map (some bm.b)] := by
   simp only [RelVs, RelV] at hv
   obtain ⟨u, r, e1, ⟨bi', hb', rfl⟩, rfl⟩ := hv
   have hb' : some bm = some bi' := by simpa using hb'
   cases hb'
   exact Array.ext' e1
  subst hvals
  refine (cloneF bm.b es clock w hmap).mono ?_
  rintro e w' ⟨rfl, rfl⟩
  have hb := (Below.refl w.heap.size w).alloc (Nat.le_refl _) (.map es clock)
  obtain ⟨h1, h2⟩ := RelL_push hL (by rw [hro]; exact Nat.zero_le _) hb (some ⟨w.heap.size, 0, 0, 0⟩) (.mp m) (fun bi e => by cases e; exact ⟨Nat.le_refl _, by simp⟩)
   (fun hS => ⟨⟨w.heap.size, 0, 0, 0⟩, es, clock, rfl, hanew w _, RelM.mono hS _ _ hrel, hst⟩)
  refine ⟨_, [some bm, some ⟨w.heap.size, 0, 0, 0⟩], rfl, ⟨hb.os, hb.tape, hb.output, hb.size, fun k hk _ => hb.block k hk⟩, h1, ⟨⟨w.heap.size, 0, 0, 0⟩, rfl, rfl⟩, fun id bi h => ?_, fun id hid _ => ?_⟩
  ·match id, h with
   | 0, h => exact .inr ⟨0, bi, h, rfl⟩
   | 1, h =>
    have : some (some (⟨w.heap.size, 0, 0, 0⟩ : BI)) = some (some bi) := h
    cases this
    exact .inl (Nat.le_refl _)
  ·match id, hid with
   | 0, _ => rfl
theorem gCopyD (d : Dk) : GCall Try.prog gl 17 [db d, dm d] [.ptr 0 0] [db d, dm d, .box [.mpv 3, intA .i64 d.fuse, boolA d.dead, intA .i64 d.ops], dm d] [.ptr 2 0] := by
 have CL := gMapClone (mB d.l)
 refine gcall_of_vcb htb hmix (f := 17) rfl rfl rfl (by kernel_rfl) rfl rfl rfl fun hb hb2 => ?_; simp only [bndOs, bndO, gbnds, AV.gbnd, bnds, C.bnd, true_and, and_true] at hb hb2; conv => whnf
 repeat' (first | (refine And.intro (fun h => ?_) (fun h => ?_) <;> (first | skip) <;> (first | exact absurd h (by decide) | (conv => whnf))) | (refine And.intro ?_ ?_; (focus (first | exact rfl | fail)); conv => whnf) | ((with_reducible refine xc_guard ?_); (first | (refine xc_g (CL) false (by first | (((conv => whnf); repeat' (first | exact trivial | exact rfl | (first | exact LeMs.refl _ | fail) | ((with_reducible refine And.intro ?_ ?_) <;> conv => whnf))); done) | fail) trivial ?_) | fail); conv => whnf) | fail)
 all_goals try (exfalso; revert h; decide)
 ((conv => whnf); repeat' (first | exact trivial | exact rfl | exact LeC.refl _ | ((with_reducible refine And.intro ?_ ?_) <;> conv => whnf)))
 all_goals exact LeMs.refl _
end Go.Proofs.Ytndacaemcakmkaa

namespace Go.Proofs.Ytndacaemcakmkaa
set_option linter.unusedSimpArgs false
set_option linter.unusedVariables false
set_option maxRecDepth 100000
set_option maxHeartbeats 8000000
open Go Go.VA Go.RowKit
/-! ### DiskCopy -/
theorem aCopyL (t u : Bool) (n n2 : Nat) (A A2 : Nat → Ac) (f f2 : Nat → List C) (hf : ∀ i, i < n → f i = cAc (A i)) (hA : ∀ i, i < n → (A i).n ≤ 9223372036854775807) (hf2 : ∀ i, i < n2 → f2 i = cAc (A2 i)) (hA2 : ∀ i, i < n2 → (A2 i).n ≤ 9223372036854775807) : ACall Try.prog gl 5 [.c (.sl t 5 n f), .c (.sl u 5 n2 f2)] [] (boolA true) := by
 cases hgg : (grB n A || grB n2 A2) with
 | true =>
  have hq := hgg
  refine acall_of_vc htb hmix (f := 5) rfl rfl rfl (by kernel_rfl) rfl rfl ?_; conv => whnf
  repeat' (first | (refine Exists.intro _ (And.intro (aGreat t n A f hf) ?_); conv => whnf) | ((with_reducible refine GOr.l ?_); (conv => whnf); refine Exists.intro _ (And.intro (chainI (aGreat u n2 A2 f2 hf2)) ?_); conv => whnf) | (refine Exists.intro _ (And.intro (aAwake) ?_); conv => whnf) | (refine And.intro (fun h => ?_) (fun h => ?_) <;> (first | skip) <;> (first | (first | exact Bool.noConfusion (hq.symm.trans h) | fail) | (conv => whnf))) | ((with_reducible refine xc_pure ?_); conv => whnf))
  all_goals exact Go.VA.leB rfl
 | false =>
  have hq := hgg
  have hgr : grB n A = false := by simp at hgg; exact hgg.1
  have hgr2 : grB n2 A2 = false := by simp at hgg; exact hgg.2
  refine acall_of_vc htb hmix (f := 5) rfl rfl rfl (by kernel_rfl) rfl rfl ?_; conv => whnf
  repeat' (first | (refine Exists.intro _ (And.intro (aGreat t n A f hf) ?_); conv => whnf) | ((with_reducible refine GOr.l ?_); (conv => whnf); refine Exists.intro _ (And.intro (chainI (aGreat u n2 A2 f2 hf2)) ?_); conv => whnf) | (refine And.intro (fun h => ?_) (fun h => ?_) <;> (first | skip) <;> (first | (first | exact Bool.noConfusion (hq.symm.trans h) | fail) | (conv => whnf))) | ((with_reducible refine xc_guard ?_); (first | (refine xc_g (gNew) false (by first | (((conv => whnf); repeat' (first | exact trivial | exact rfl | ((with_reducible refine And.intro ?_ ?_) <;> conv => whnf))); done) | fail) trivial ?_) | fail); conv => whnf) | ((with_reducible refine xc_pure ?_); conv => whnf))
  refine loopI (Nat × Dk × Dk) (fun p => (p.1 ≤ n ∧ p.1 ≤ 60) ∧ p.2.1.Ok p.1 ∧ p.2.2.Ok p.1 ∧ Rl p.2.1 p.2.2) (fun p => [(7, intA .i64 p.1)]) (fun p => [db p.2.1, dm p.2.1, yb p.2.2, yr p.2.2]) (fun p => n - p.1) (0, ⟨[], 0, false, 0⟩, ⟨[], 0, false, 0⟩) ⟨⟨Nat.zero_le _, Nat.zero_le _⟩, okNil 0, okNil 0, rlNil⟩ ?_ (fun _ => rfl) fun ⟨c, d, x⟩ ⟨⟨hc, hc2⟩, okd, okx, R⟩ => ?_
  ·(refine And.intro ?_ (And.intro ?_ (And.intro ?_ rfl)) <;> (conv => whnf) <;> repeat' (first | exact trivial | exact LeE.of (Le.refl _) | exact LeE.nil rfl | (first | exact rfl | fail) | ((with_reducible refine And.intro ?_ ?_) <;> conv => whnf)))
   all_goals first
    | exact LeMs.refl _
    | exact fun i hi => absurd hi (Nat.not_lt_zero _)
  ·change c ≤ n at hc
   change c ≤ 60 at hc2
   change d.Ok c at okd
   change x.Ok c at okx
   change Rl d x at R
   by_cases hcl : c < n ∧ c < 60
   ·have ec : f ((c : Int)).toNat = cAc (A c) := hf c hcl.1
    have hK : 0 ≤ (c : Int) ∧ (c : Int) < (n : Int) := by omega
    have hq2 : (decide ((c : Int) < (n : Int)) && decide ((c : Int) < 60)) = true := by simp; omega
    have hbig : bigA (A c) = false := by
     cases hbg : bigA (A c) with
     | false => rfl
     | true => rw [grB_t hcl.1 hcl.2 hbg] at hgr; cases hgr
    have hsz : (A c).b.size ≤ 2000 := by unfold bigA at hbig; simp at hbig; omega
    have okD := doM_ok (a := A c) okd okx (hA c hcl.1)
    have hR := doM_rel (a := A c) okd R
    have G := gDo d x okd (by omega) okx (by omega) (A c) hsz
    conv => whnf
    repeat' (first | (rw [ec]; conv => whnf) | (refine And.intro (fun h => ?_) (fun h => ?_) <;> (first | skip) <;> (first | (first | exact Bool.noConfusion (hq2.symm.trans h)) | (conv => whnf))) | (refine And.intro ?_ ?_; (focus (first | (first | exact hK | fail) | fail)); conv => whnf) | ((with_reducible refine xc_guard ?_); (first | (refine xc_g (G) false (by first | (((conv => whnf); repeat' (first | exact trivial | exact rfl | exact LeC.refl _ | exact (fun i hi => LeCs.refl _) | (first | exact LeMs.refl _ | fail) | ((with_reducible refine And.intro ?_ ?_) <;> conv => whnf))); done) | fail) trivial ?_) | fail); conv => whnf) | fail)
    all_goals try (exfalso; omega)
    refine ⟨(c + 1, (doM (A c) d x).1, (doM (A c) d x).2.1), ⟨⟨hcl.1, hcl.2⟩, okD.1, okD.2, hR.2⟩, ?_, by show n - (c + 1) < n - c; omega⟩
    (refine And.intro ?_ (And.intro ?_ (And.intro ?_ rfl)) <;> (conv => whnf) <;> repeat' (first | exact trivial | exact LeE.of (Le.refl _) | (with_reducible refine LeE.of ?_) | (first | exact rfl | exact leI (by first | rfl | (rw [wrap64 (by omega) (by omega)]; omega) | fail) | exact fun i hi => LeCs.refl _ | fail) | ((with_reducible refine And.intro ?_ ?_) <;> conv => whnf)))
    all_goals first
     | exact LeMs.refl _
     | exact fun i hi => LeCs.refl _
   ·have hq2 : (decide ((c : Int) < (n : Int)) && decide ((c : Int) < 60)) = false := by simp; omega
    have hlx := okx.len
    have hB : ∀ k, k ≤ 1000000 → k * (tb 75).bytes ≤ 140737488355328 := fun k hk => by
     have : (tb 75).bytes = 64 := rfl
     rw [this]; omega
    have CP := gCopyD d
    conv => whnf
    repeat' (first | (refine And.intro (fun h => ?_) (fun h => ?_) <;> (first | skip) <;> (first | (first | exact Bool.noConfusion (hq2.symm.trans h)) | (conv => whnf))) | ((with_reducible refine Both.mk ?_ ?_) <;> conv => whnf) | ((with_reducible refine OwnOr.l ?_); (conv => whnf)) | ((with_reducible apply Drawn.one); conv => whnf) | ((with_reducible refine Then.mk' ?_); conv => whnf) | (first | exact RefS.self rfl | fail) | (refine And.intro ?_ ?_; (focus (first | exact rfl | ((conv => whnf); intros; (try simp only [decide_eq_true_eq, decide_eq_false_iff_not, Bool.and_eq_true, Bool.or_eq_true, Bool.and_eq_false_imp, Bool.or_eq_false_iff, Bool.not_eq_true', Bool.not_eq_false', beq_iff_eq, bne_iff_ne, ne_eq] at *); (first | (first | exact hB _ (by omega) | fail) | fail)))); conv => whnf) | ((with_reducible refine xc_guard ?_); (first | (refine xc_g (CP) false (by first | (((conv => whnf); repeat' (first | exact trivial | exact rfl | exact LeC.refl _ | (first | exact LeMs.refl _ | fail) | ((with_reducible refine And.intro ?_ ?_) <;> conv => whnf))); done) | fail) trivial ?_) | fail); conv => whnf) | fail)
    all_goals try (exfalso; omega)
    have R0 := R
    have okd0 := okd
    have okx0 := okx
    have S2 := gSame d x okd0 (by omega) okx0 (by omega) R0
    refine loopI (Nat × Dk × Dk) (fun p => (p.1 ≤ n2 ∧ p.1 ≤ 60) ∧ p.2.1.Ok (60 + p.1) ∧ p.2.2.Ok (60 + p.1) ∧ Rl p.2.1 p.2.2) (fun p => [(10, intA .i64 p.1)]) (fun p => [db d, dm d, yb x, yr x, .box [.mpv 5, intA .i64 p.2.1.fuse, boolA p.2.1.dead, intA .i64 p.2.1.ops], dm p.2.1, yr p.2.2, .box [.own 6 3 0 p.2.2.l.length, intA .i64 p.2.2.fuse, boolA p.2.2.dead, intA .i64 p.2.2.ops]]) (fun p => n2 - p.1) (0, d, x) ⟨⟨Nat.zero_le _, Nat.zero_le _⟩, okd.more hc2, okx.more hc2, R⟩ ?_ (fun _ => rfl) fun ⟨k, e, y⟩ ⟨⟨hk, hk2⟩, oke, oky, Re⟩ => ?_
    ·(refine And.intro ?_ (And.intro ?_ (And.intro ?_ rfl)) <;> (conv => whnf) <;> repeat' (first | exact trivial | exact LeE.of (Le.refl _) | (first | exact rfl | exact fun i hi => LeCs.refl _ | fail) | ((with_reducible refine And.intro ?_ ?_) <;> conv => whnf)))
     all_goals first
      | exact LeMs.refl _
      | exact fun i hi => LeCs.of_eq (by show rwF x.l (0 + i) = rwF x.l i; rw [Nat.zero_add])
    ·change k ≤ n2 at hk
     change k ≤ 60 at hk2
     change e.Ok (60 + k) at oke
     change y.Ok (60 + k) at oky
     change Rl e y at Re
     by_cases hkl : k < n2 ∧ k < 60
     ·have ec : f2 ((k : Int)).toNat = cAc (A2 k) := hf2 k hkl.1
      have hK : 0 ≤ (k : Int) ∧ (k : Int) < (n2 : Int) := by omega
      have hq : (decide ((k : Int) < (n2 : Int)) && decide ((k : Int) < 60)) = true := by simp; omega
      have hbig : bigA (A2 k) = false := by
       cases hbg : bigA (A2 k) with
       | false => rfl
       | true => rw [grB_t hkl.1 hkl.2 hbg] at hgr2; cases hgr2
      have hsz : (A2 k).b.size ≤ 2000 := by unfold bigA at hbig; simp at hbig; omega
      have okE := doM_ok (a := A2 k) oke oky (hA2 k hkl.1)
      have hR := doM_rel (a := A2 k) oke Re
      have G := gDo e y oke (by omega) oky (by omega) (A2 k) hsz
      rw [hR.1] at G
      have S1 := gSame _ _ okE.1 (by omega) okE.2 (by omega) hR.2
      conv => whnf
      repeat' (first | (rw [ec]; conv => whnf) | (refine And.intro (fun h => ?_) (fun h => ?_) <;> (first | skip) <;> (first | exact absurd h (by decide) | (first | exact Bool.noConfusion (hq.symm.trans h) | fail) | (conv => whnf))) | (refine And.intro ?_ ?_; (focus (first | (first | exact hK | fail) | fail)); conv => whnf) | ((with_reducible refine xc_guard ?_); (first | (refine xc_g (G) false (by first | (((conv => whnf); repeat' (first | exact trivial | exact rfl | exact LeC.refl _ | exact (fun i hi => LeCs.refl _) | (first | exact LeMs.refl _ | fail) | ((with_reducible refine And.intro ?_ ?_) <;> conv => whnf))); done) | fail) trivial ?_) | fail); conv => whnf) | ((with_reducible refine xc_guard ?_); (first | (refine xc_g (S1) false (by first | (((conv => whnf); repeat' (first | exact trivial | exact rfl | exact LeC.refl _ | exact (fun i hi => LeCs.refl _) | (first | exact LeMs.refl _ | fail) | ((with_reducible refine And.intro ?_ ?_) <;> conv => whnf))); done) | fail) trivial ?_) | fail); conv => whnf) | ((with_reducible refine xc_guard ?_); (first | (refine xc_g (S2) false (by first | (((conv => whnf); repeat' (first | exact trivial | exact rfl | exact LeC.refl _ | exact (fun i hi => LeCs.refl _) | (first | exact LeMs.refl _ | fail) | ((with_reducible refine And.intro ?_ ?_) <;> conv => whnf))); done) | fail) trivial ?_) | fail); conv => whnf) | ((with_reducible refine GOr.r ?_); conv => whnf))
      all_goals try (exfalso; omega)
      refine ⟨(k + 1, (doM (A2 k) e y).1, (doM (A2 k) e y).2.1), ⟨⟨hkl.1, hkl.2⟩, okE.1, okE.2, hR.2⟩, ?_, by show n2 - (k + 1) < n2 - k; omega⟩
      (refine And.intro ?_ (And.intro ?_ (And.intro ?_ rfl)) <;> (conv => whnf) <;> repeat' (first | exact trivial | exact LeE.of (Le.refl _) | (with_reducible refine LeE.of ?_) | (first | exact rfl | exact leI (by first | rfl | (rw [wrap64 (by omega) (by omega)]; omega) | fail) | exact fun i hi => LeCs.refl _ | fail) | ((with_reducible refine And.intro ?_ ?_) <;> conv => whnf)))
      all_goals first
       | exact LeMs.refl _
       | exact fun i hi => LeCs.refl _
     ·have hq : (decide ((k : Int) < (n2 : Int)) && decide ((k : Int) < 60)) = false := by simp; omega
      conv => whnf
      repeat' (first | (refine Exists.intro _ (And.intro (aAwake) ?_); conv => whnf) | (refine And.intro (fun h => ?_) (fun h => ?_) <;> (first | skip) <;> (first | (first | exact Bool.noConfusion (hq.symm.trans h) | fail) | (conv => whnf))) | ((with_reducible refine xc_pure ?_); conv => whnf))
      all_goals try (exfalso; omega)
      all_goals exact Go.VA.leB rfl
end Go.Proofs.Ytndacaemcakmkaa
