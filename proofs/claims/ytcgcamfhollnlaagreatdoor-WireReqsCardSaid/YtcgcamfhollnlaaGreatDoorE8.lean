/- Contracts of functions of the program, and the laws that stand on them: what each function answers, whatever its arguments. -/
import Derived.Test.YtcgcamfhollnlaaGreatDoorE7
import Derived.Test.YtcgcamfhollnlaaGreatDoorE3
import Derived.Test.YtcgcamfhollnlaaGreatDoorA5
set_option linter.unusedSectionVars false
set_option linter.unnecessarySimpa false
namespace Go.Proofs.YtcgcamfhollnlaaGreatDoor
set_option linter.unusedSimpArgs false
set_option linter.unusedVariables false
set_option maxRecDepth 100000
set_option maxHeartbeats 8000000
open Go Go.VA
structure Rq where
  k : Int
  y : Ky
  p : V
  w : V
abbrev cRq (q : Rq) : List C := .v (.int .i64 q.k) :: (cKy q.y ++ (cV q.p ++ cV q.w))
structure RgRq (q : Rq) : Prop where
  y0 : 0 ≤ q.y.n
  y1 : q.y.n ≤ 4294967295
  p : rgV q.p = true
  w : rgV q.w = true
def okRq (q : Rq) : Bool := decide (q.k ≥ 1) && decide (q.k ≤ 5) && okKy q.y && tyL.any (eqs q.y.a.t) && checkR q.p && checkR q.w
theorem aCheckRq (q : Rq) : ACall Tryz.prog gl 15 [.ag (cRq q)] [] (intA .i64 (if okRq q then 0 else 1)) := by
  have K := aCheckK q.y
  have C := aConS false tyL q.y.a.t
  have P := aCheck false false q.p
  have W := aCheck false false q.w
  rw [checkV_if] at P W
  refine acall_of_vc htb hmix (f := 15) rfl rfl rfl (by kernel_rfl) rfl rfl ?_; conv => whnf
  repeat' (first | (refine Exists.intro _ (And.intro (chainI (K)) ?_); conv => whnf) | (refine Exists.intro _ (And.intro (chainI (aTypes)) ?_); conv => whnf) | (refine Exists.intro _ (And.intro (chainI (C)) ?_); conv => whnf) | ((with_reducible refine GOr.l ?_); (conv => whnf); refine Exists.intro _ (And.intro (chainI (P)) ?_); conv => whnf) | ((with_reducible refine GOr.l ?_); (conv => whnf); refine Exists.intro _ (And.intro (chainI (W)) ?_); conv => whnf) | (refine And.intro (fun h => ?_) (fun h => ?_) <;> (first | skip) <;> (first | (conv => whnf))) | ((with_reducible refine DOg.l ?_); (conv => whnf)) | fail)
  · refine leI ?_
    unfold okRq
    revert h
    cases okKy q.y <;> cases tyL.any (eqs q.y.a.t) <;> cases checkR q.p <;> cases checkR q.w <;> cases decide (q.k ≥ 1) <;> cases decide (q.k ≤ 5) <;> decide
  · refine leI ?_
    unfold okRq
    revert h
    cases okKy q.y <;> cases tyL.any (eqs q.y.a.t) <;> cases checkR q.p <;> cases checkR q.w <;> cases decide (q.k ≥ 1) <;> cases decide (q.k ≤ 5) <;> decide
theorem aCheckRqR (q : Rq) (hn : 0 ≤ q.y.n) : ACall Tryz.prog gl 8 [.ag (cRq q)] [] (boolA (okRq q)) := by
  have K := aCheckKR q.y hn
  have A := aAttrs q.y.a.t
  have L := ty_law q.y.a.t
  have P := aCheckR false false q.p
  have W := aCheckR false false q.w
  refine acall_of_vc htb hmix (f := 8) rfl rfl rfl (by kernel_rfl) rfl rfl ?_; conv => whnf
  repeat' (first | ((with_reducible refine GOr.l ?_); (conv => whnf); refine Exists.intro _ (And.intro (chainI (K)) ?_); conv => whnf) | ((with_reducible refine GOr.l ?_); (conv => whnf); refine Exists.intro _ (And.intro (chainI (A)) ?_); conv => whnf) | ((with_reducible refine GOr.l ?_); (conv => whnf); refine Exists.intro _ (And.intro (chainI (P)) ?_); conv => whnf) | ((with_reducible refine GOr.l ?_); (conv => whnf); refine Exists.intro _ (And.intro (chainI (W)) ?_); conv => whnf) | fail)
  refine leB ?_
  unfold okRq
  rw [← L]
theorem seK : StructEq Tryz.prog 27 [8, 8, 3, 3, 8, 6] := structEq_of (d := 5) (by kernel_rfl)
def eqKy (a b : Ky) : Bool := a.a.t == b.a.t && (a.a.n == b.a.n && (a.a.k == b.a.k && (a.a.i == b.a.i && (a.a.s == b.a.s && a.n == b.n))))
def sameRq (a b : Rq) : Bool := a.k == b.k && eqKy a.y b.y && sameR a.p b.p true && sameR a.w b.w true
theorem aSameRqR (a b : Rq) : ACall Tryz.prog gl 13 [.ag (cRq a), .ag (cRq b)] [] (boolA (sameRq a b)) := by
  refine acall_of_vc htb hmix (f := 13) rfl rfl rfl (by kernel_rfl) rfl rfl ?_; conv => whnf
  repeat' (first | ((with_reducible refine GOr.l ?_); (conv => whnf); refine Exists.intro _ (And.intro (chainI (aSameR a.p b.p _ _ _ _ _)) ?_); conv => whnf) | ((with_reducible refine GOr.l ?_); (conv => whnf); refine Exists.intro _ (And.intro (chainI (aSameR a.w b.w _ _ _ _ _)) ?_); conv => whnf) | (refine And.intro ?_ ?_; (focus (first | (first | exact seK | fail) | fail)); conv => whnf) | fail)
  exact leB rfl
theorem catR3 {n : Nat} {f : Nat → List C} (x : Int) (A B D : List Int) : ∀ i, i < n + 1 + A.length + B.length + D.length →
    catF 0 (n + 1 + A.length + B.length) (fun i => catF 0 (n + 1 + A.length) (fun i => catF 0 (n + 1) (fun i => catF 0 n f (nthC [cBy x]) (0 + i)) (rB A) (0 + i)) (rB B) (0 + i)) (rB D) i = catF 0 n f (rB (x :: (A ++ (B ++ D)))) i := by
  have e : x :: (A ++ (B ++ D)) = [x] ++ A ++ B ++ D := by simp
  rw [e]
  simp only [Nat.zero_add]
  refine catL (a := [x] ++ A ++ B) (by simp; omega) (catL (a := [x] ++ A) (by simp; omega) (catL (a := [x]) rfl (catL0 (b := [x]) (rB1 x)) (fun _ _ => rfl)) (fun _ _ => rfl)) (fun _ _ => rfl)
def fmRq (q : Rq) : List Int := IntKind.u8.wrap q.k :: (kyL q.y ++ (layL q.p ++ layL q.w))
theorem okRq_parts {q : Rq} (h : okRq q = true) : 1 ≤ q.k ∧ q.k ≤ 5 ∧ okKy q.y = true ∧ checkV q.p = 0 ∧ checkV q.w = 0 := by
  unfold okRq at h
  simp only [Bool.and_eq_true, decide_eq_true_eq] at h
  obtain ⟨⟨⟨⟨⟨h1, h2⟩, h3⟩, _⟩, h5⟩, h6⟩ := h
  exact ⟨h1, h2, h3, by rw [checkV_if, h5]; rfl, by rw [checkV_if, h6]; rfl⟩
theorem gPutRq (t : Bool) (n : Nat) (f : Nat → List C) (q : Rq) (hf : ∀ i, i < n → NtCs (f i)) (hn : n ≤ 1000000) (ho : okRq q = true) :
    GCall Tryz.prog gl 7 [] [.c (.sl t 1 n f), .ag (cRq q)] [.row 1 (n + (fmRq q).length) (catF 0 n f (rB (fmRq q)))] [.own 0 1 0 (n + (fmRq q).length)] := by
  have CK := aCheckRq q
  rw [ho] at CK
  obtain ⟨k1, k2, hk, c1, c2⟩ := okRq_parts ho
  have b1 := check_big c1
  have b2 := check_big c2
  have hky := kyL_len hk
  have l1 := layL_big q.p
  have CL := gClone t n f
  have nt1 : ∀ i, i < n + 1 → NtCs (catF 0 n f (nthC [cBy (IntKind.u8.wrap q.k)]) i) := ntCatG hf (ntOne _)
  have ek : putKy q.y = kyL q.y := if_pos hk
  have e1 : putLn q.p = layL q.p := by unfold putLn; rw [c1]; rfl
  have e2 : putLn q.w = layL q.w := by unfold putLn; rw [c2]; rfl
  have PK := fun t'' => gPutKy t'' (n + 1) (fun i => catF 0 n f (nthC [cBy (IntKind.u8.wrap q.k)]) (0 + i)) q.y (ntShift nt1) (by omega)
  rw [ek] at PK
  have nt2 := ntCatG (m := (kyL q.y).length) (ntShift nt1) (ntB (kyL q.y) _)
  have P1 := fun t'' => gPut q.p false false t'' (n + 1 + (kyL q.y).length) (fun i => catF 0 (n + 1) (fun i => catF 0 n f (nthC [cBy (IntKind.u8.wrap q.k)]) (0 + i)) (rB (kyL q.y)) (0 + i)) (ntShift nt2) (fun _ => b1.2) (by omega)
  rw [e1] at P1
  have nt3 := ntCatG (m := (layL q.p).length) (ntShift nt2) (ntB (layL q.p) _)
  have P2 := fun t'' => gPut q.w false false t'' (n + 1 + (kyL q.y).length + (layL q.p).length) (fun i => catF 0 (n + 1 + (kyL q.y).length) (fun i => catF 0 (n + 1) (fun i => catF 0 n f (nthC [cBy (IntKind.u8.wrap q.k)]) (0 + i)) (rB (kyL q.y)) (0 + i)) (rB (layL q.p)) (0 + i)) (ntShift nt3) (fun _ => b2.2) (by omega)
  rw [e2] at P2
  have B1 : (n + 1) * (tb 5).bytes ≤ 140737488355328 := by show (n + 1) * 1 ≤ _; omega
  refine gcall_of_vcb htb hmix (f := 7) rfl rfl rfl (by kernel_rfl) rfl rfl rfl fun hb hb2 => ?_; simp only [bndOs, bndO, gbnds, AV.gbnd, bnds, C.bnd, true_and, and_true] at hb hb2; conv => whnf
  repeat' (first | (refine Exists.intro _ (And.intro (CK) ?_); conv => whnf) | (refine And.intro (fun h => ?_) (fun h => ?_) <;> (first | skip) <;> (first | exact absurd h (by decide) | (conv => whnf))) | ((with_reducible refine Both.mk ?_ ?_) <;> conv => whnf) | ((with_reducible refine DOr.r ?_); (conv => whnf)) | ((with_reducible refine OwnOr.l ?_); (conv => whnf)) | ((with_reducible apply Drawn.one); conv => whnf) | ((with_reducible refine Then.mk' ?_); conv => whnf) | (first | exact RefS.self rfl | fail) | (refine And.intro ?_ ?_; (focus (first | exact rfl | (first | exact B1 | fail) | fail)); conv => whnf) | ((with_reducible refine xc_guard ?_); (first | (refine xc_g (CL) false (by first | (((conv => whnf); repeat' (first | exact trivial | exact rfl | exact LeC.refl _ | ((with_reducible refine And.intro ?_ ?_) <;> conv => whnf))); done) | fail) trivial ?_) | fail); conv => whnf) | ((with_reducible refine xc_guard ?_); (first | (refine xc_g (PK _) true (by first | (((conv => whnf); repeat' (first | exact trivial | exact rfl | exact LeC.refl _ | ((with_reducible refine And.intro ?_ ?_) <;> conv => whnf))); done) | fail) (by first | (((conv => whnf); repeat' (first | exact trivial | (first | exact nt2 | fail) | ((with_reducible refine And.intro ?_ ?_) <;> conv => whnf))); done) | fail) ?_)); conv => whnf) | ((with_reducible refine xc_guard ?_); (first | (refine xc_g (P1 _) true (by first | (((conv => whnf); repeat' (first | exact trivial | exact rfl | exact LeC.refl _ | ((with_reducible refine And.intro ?_ ?_) <;> conv => whnf))); done) | fail) (by first | (((conv => whnf); repeat' (first | exact trivial | (first | exact nt3 | fail) | ((with_reducible refine And.intro ?_ ?_) <;> conv => whnf))); done) | fail) ?_)); conv => whnf) | ((with_reducible refine xc_guard ?_); (first | (refine xc_g (P2 _) true (by first | (((conv => whnf); repeat' (first | exact trivial | exact rfl | exact LeC.refl _ | ((with_reducible refine And.intro ?_ ?_) <;> conv => whnf))); done) | fail) (by first | (((conv => whnf); repeat' (first | exact trivial | (first | exact ntCatG (ntShift nt3) (ntB _ _) | fail) | ((with_reducible refine And.intro ?_ ?_) <;> conv => whnf))); done) | fail) ?_)); conv => whnf) | ((with_reducible refine xc_pure ?_); conv => whnf))
  all_goals (try ((conv => whnf); repeat' (first | exact trivial | exact rfl | ((with_reducible refine And.intro ?_ ?_) <;> conv => whnf))))
  all_goals first
    | (show n + 1 + (kyL q.y).length + (layL q.p).length + (layL q.w).length = n + ((kyL q.y ++ (layL q.p ++ layL q.w)).length + 1); simp only [List.length_append]; omega)
    | exact fun i hi => LeCs.of_eq (catR3 (IntKind.u8.wrap q.k) (kyL q.y) (layL q.p) (layL q.w) i (by have hi : i < n + ((kyL q.y ++ (layL q.p ++ layL q.w)).length + 1) := hi; simp only [List.length_append] at hi; omega))
end Go.Proofs.YtcgcamfhollnlaaGreatDoor
