/- Contracts of functions of the program, and the laws that stand on them: what each function answers, whatever its arguments. -/
import Derived.Test.YthaaemhkdefidaaGreatDoorA3
import Derived.Test.YthaaemhkdefidaaGreatDoorVw5
import Derived.Test.YthaaemhkdefidaaGreatDoorVD
set_option linter.unusedSectionVars false
set_option linter.unnecessarySimpa false
namespace Go.Proofs.YthaaemhkdefidaaGreatDoor
set_option linter.unusedSimpArgs false
set_option linter.unusedVariables false
set_option maxRecDepth 100000
set_option maxHeartbeats 8000000
open Go Go.VA
/-! ### the order of addresses, and of objects -/
theorem seAd : StructEq Tryz.prog 34 [8, 8, 3, 3, 8] := structEq_of (d := 5) (by kernel_rfl)
theorem aCmp_u32 (x y : Int) : ACall Tryz.prog gl 127 [intA .u32 x, intA .u32 y] [] (intA .i64 (cmpI x y)) := by
 refine acall_of_vc htb hmix (f := 127) rfl rfl rfl (by kernel_rfl) rfl rfl ?_; conv => whnf
 repeat' (first | (refine And.intro (fun h => ?_) (fun h => ?_) <;> (first | (with_reducible have hd : _ < _ := of_decide_eq_true h) | (with_reducible have hd : ¬ (_ < _) := of_decide_eq_false h) | skip) <;> (first | (conv => whnf))) | (refine And.intro ?_ ?_; (focus (first | exact rfl | fail)); conv => whnf) | ((with_reducible refine xc_guard ?_); refine xc_in (f := 161) htb hmix rfl rfl rfl (by kernel_rfl) rfl ?_; intro vs; conv => whnf) | fail)
 all_goals first
  | (exfalso; simp at *; done)
  | exact leI (by unfold cmpI; simp at *; omega)
theorem aOr5 (a b c d e : Int) : ACall Tryz.prog gl 125 [.c (.sl false 1 5 (nthC [[.v (.int .i64 a)], [.v (.int .i64 b)], [.v (.int .i64 c)], [.v (.int .i64 d)], [.v (.int .i64 e)]]))] [] (intA .i64 (orI [a, b, c, d, e])) := by
 refine acall_of_vc htb hmix (f := 125) rfl rfl rfl (by kernel_rfl) rfl rfl ?_; conv => whnf
 repeat' (fail)
 refine loopN (fun n => n ≤ 5 ∧ orI ([a, b, c, d, e].drop n) = orI [a, b, c, d, e]) (fun n => [(8, intA .i64 n)]) (fun _ => []) 5 (fun _ h => h.1) 0 ⟨Nat.zero_le _, rfl⟩ ?_ (fun _ => rfl) fun n ⟨hn, hR⟩ => ?_
 ·(refine And.intro ?_ (And.intro ?_ (And.intro ?_ rfl)) <;> (conv => whnf) <;> repeat' (first | exact trivial | exact LeE.of (Le.refl _) | (first | exact rfl | fail) | ((with_reducible refine And.intro ?_ ?_) <;> conv => whnf)))
 ·have hn4 : n = 0 ∨ n = 1 ∨ n = 2 ∨ n = 3 ∨ n = 4 ∨ n = 5 := by omega
  rcases hn4 with rfl | rfl | rfl | rfl | rfl | rfl
  ·conv => whnf
   repeat' (first | (refine And.intro (fun h => ?_) (fun h => ?_) <;> (first | (with_reducible have hd : _ < _ := of_decide_eq_true h) | (with_reducible have hd : ¬ (_ < _) := of_decide_eq_false h) | skip) <;> (first | exact absurd h (by decide) | (conv => whnf))) | (refine And.intro ?_ ?_; (focus (first | (refine chainI ?_; (first | decide | fail)) | fail)); conv => whnf) | fail)
   ·exact leI (by rw [← hR]; simp only [List.drop_succ_cons, List.drop_zero, orI]; rw [if_pos (by assumption)])
   ·refine ⟨1, ⟨⟨by decide, ?_⟩, by decide⟩, ?_⟩
    ·rw [← hR]; simp only [List.drop_succ_cons, List.drop_zero, orI, h, Bool.false_eq_true, ↓reduceIte]
    ·(refine And.intro ?_ (And.intro ?_ (And.intro ?_ rfl)) <;> (conv => whnf) <;> repeat' (first | exact trivial | exact LeE.of (Le.refl _) | (first | exact rfl | fail) | ((with_reducible refine And.intro ?_ ?_) <;> conv => whnf)))
  ·conv => whnf
   repeat' (first | (refine And.intro (fun h => ?_) (fun h => ?_) <;> (first | (with_reducible have hd : _ < _ := of_decide_eq_true h) | (with_reducible have hd : ¬ (_ < _) := of_decide_eq_false h) | skip) <;> (first | exact absurd h (by decide) | (conv => whnf))) | (refine And.intro ?_ ?_; (focus (first | (refine chainI ?_; (first | decide | fail)) | fail)); conv => whnf) | fail)
   ·exact leI (by rw [← hR]; simp only [List.drop_succ_cons, List.drop_zero, orI]; rw [if_pos (by assumption)])
   ·refine ⟨2, ⟨⟨by decide, ?_⟩, by decide⟩, ?_⟩
    ·rw [← hR]; simp only [List.drop_succ_cons, List.drop_zero, orI, h, Bool.false_eq_true, ↓reduceIte]
    ·(refine And.intro ?_ (And.intro ?_ (And.intro ?_ rfl)) <;> (conv => whnf) <;> repeat' (first | exact trivial | exact LeE.of (Le.refl _) | (first | exact rfl | fail) | ((with_reducible refine And.intro ?_ ?_) <;> conv => whnf)))
  ·conv => whnf
   repeat' (first | (refine And.intro (fun h => ?_) (fun h => ?_) <;> (first | (with_reducible have hd : _ < _ := of_decide_eq_true h) | (with_reducible have hd : ¬ (_ < _) := of_decide_eq_false h) | skip) <;> (first | exact absurd h (by decide) | (conv => whnf))) | (refine And.intro ?_ ?_; (focus (first | (refine chainI ?_; (first | decide | fail)) | fail)); conv => whnf) | fail)
   ·exact leI (by rw [← hR]; simp only [List.drop_succ_cons, List.drop_zero, orI]; rw [if_pos (by assumption)])
   ·refine ⟨3, ⟨⟨by decide, ?_⟩, by decide⟩, ?_⟩
    ·rw [← hR]; simp only [List.drop_succ_cons, List.drop_zero, orI, h, Bool.false_eq_true, ↓reduceIte]
    ·(refine And.intro ?_ (And.intro ?_ (And.intro ?_ rfl)) <;> (conv => whnf) <;> repeat' (first | exact trivial | exact LeE.of (Le.refl _) | (first | exact rfl | fail) | ((with_reducible refine And.intro ?_ ?_) <;> conv => whnf)))
  ·conv => whnf
   repeat' (first | (refine And.intro (fun h => ?_) (fun h => ?_) <;> (first | (with_reducible have hd : _ < _ := of_decide_eq_true h) | (with_reducible have hd : ¬ (_ < _) := of_decide_eq_false h) | skip) <;> (first | exact absurd h (by decide) | (conv => whnf))) | (refine And.intro ?_ ?_; (focus (first | (refine chainI ?_; (first | decide | fail)) | fail)); conv => whnf) | fail)
   ·exact leI (by rw [← hR]; simp only [List.drop_succ_cons, List.drop_zero, orI]; rw [if_pos (by assumption)])
   ·refine ⟨4, ⟨⟨by decide, ?_⟩, by decide⟩, ?_⟩
    ·rw [← hR]; simp only [List.drop_succ_cons, List.drop_zero, orI, h, Bool.false_eq_true, ↓reduceIte]
    ·(refine And.intro ?_ (And.intro ?_ (And.intro ?_ rfl)) <;> (conv => whnf) <;> repeat' (first | exact trivial | exact LeE.of (Le.refl _) | (first | exact rfl | fail) | ((with_reducible refine And.intro ?_ ?_) <;> conv => whnf)))
  ·conv => whnf
   repeat' (first | (refine And.intro (fun h => ?_) (fun h => ?_) <;> (first | (with_reducible have hd : _ < _ := of_decide_eq_true h) | (with_reducible have hd : ¬ (_ < _) := of_decide_eq_false h) | skip) <;> (first | exact absurd h (by decide) | (conv => whnf))) | (refine And.intro ?_ ?_; (focus (first | (refine chainI ?_; (first | decide | fail)) | fail)); conv => whnf) | fail)
   ·exact leI (by rw [← hR]; simp only [List.drop_succ_cons, List.drop_zero, orI]; rw [if_pos (by assumption)])
   ·refine ⟨5, ⟨⟨by decide, ?_⟩, by decide⟩, ?_⟩
    ·rw [← hR]; simp only [List.drop_succ_cons, List.drop_zero, orI, h, Bool.false_eq_true, ↓reduceIte]
    ·(refine And.intro ?_ (And.intro ?_ (And.intro ?_ rfl)) <;> (conv => whnf) <;> repeat' (first | exact trivial | exact LeE.of (Le.refl _) | (first | exact rfl | fail) | ((with_reducible refine And.intro ?_ ?_) <;> conv => whnf)))
  ·conv => whnf
   repeat' (first | (refine And.intro (fun h => ?_) (fun h => ?_) <;> (first | (with_reducible have hd : _ < _ := of_decide_eq_true h) | (with_reducible have hd : ¬ (_ < _) := of_decide_eq_false h) | fail) <;> (first | exact absurd h (by decide) | (conv => whnf))) | fail)
   exact leI hR
theorem aOr2 (a b : Int) : ACall Tryz.prog gl 125 [.c (.sl false 1 2 (nthC [[.v (.int .i64 a)], [.v (.int .i64 b)]]))] [] (intA .i64 (orI [a, b])) := by
 refine acall_of_vc htb hmix (f := 125) rfl rfl rfl (by kernel_rfl) rfl rfl ?_; conv => whnf
 repeat' (fail)
 refine loopN (fun n => n ≤ 2 ∧ orI ([a, b].drop n) = orI [a, b]) (fun n => [(8, intA .i64 n)]) (fun _ => []) 2 (fun _ h => h.1) 0 ⟨Nat.zero_le _, rfl⟩ ?_ (fun _ => rfl) fun n ⟨hn, hR⟩ => ?_
 ·(refine And.intro ?_ (And.intro ?_ (And.intro ?_ rfl)) <;> (conv => whnf) <;> repeat' (first | exact trivial | exact LeE.of (Le.refl _) | (first | exact rfl | fail) | ((with_reducible refine And.intro ?_ ?_) <;> conv => whnf)))
 ·have hn4 : n = 0 ∨ n = 1 ∨ n = 2 := by omega
  rcases hn4 with rfl | rfl | rfl
  ·conv => whnf
   repeat' (first | (refine And.intro (fun h => ?_) (fun h => ?_) <;> (first | (with_reducible have hd : _ < _ := of_decide_eq_true h) | (with_reducible have hd : ¬ (_ < _) := of_decide_eq_false h) | skip) <;> (first | exact absurd h (by decide) | (conv => whnf))) | (refine And.intro ?_ ?_; (focus (first | (refine chainI ?_; (first | decide | fail)) | fail)); conv => whnf) | fail)
   ·exact leI (by rw [← hR]; simp only [List.drop_succ_cons, List.drop_zero, orI]; rw [if_pos (by assumption)])
   ·refine ⟨1, ⟨⟨by decide, ?_⟩, by decide⟩, ?_⟩
    ·rw [← hR]; simp only [List.drop_succ_cons, List.drop_zero, orI, h, Bool.false_eq_true, ↓reduceIte]
    ·(refine And.intro ?_ (And.intro ?_ (And.intro ?_ rfl)) <;> (conv => whnf) <;> repeat' (first | exact trivial | exact LeE.of (Le.refl _) | (first | exact rfl | fail) | ((with_reducible refine And.intro ?_ ?_) <;> conv => whnf)))
  ·conv => whnf
   repeat' (first | (refine And.intro (fun h => ?_) (fun h => ?_) <;> (first | (with_reducible have hd : _ < _ := of_decide_eq_true h) | (with_reducible have hd : ¬ (_ < _) := of_decide_eq_false h) | skip) <;> (first | exact absurd h (by decide) | (conv => whnf))) | (refine And.intro ?_ ?_; (focus (first | (refine chainI ?_; (first | decide | fail)) | fail)); conv => whnf) | fail)
   ·exact leI (by rw [← hR]; simp only [List.drop_succ_cons, List.drop_zero, orI]; rw [if_pos (by assumption)])
   ·refine ⟨2, ⟨⟨by decide, ?_⟩, by decide⟩, ?_⟩
    ·rw [← hR]; simp only [List.drop_succ_cons, List.drop_zero, orI, h, Bool.false_eq_true, ↓reduceIte]
    ·(refine And.intro ?_ (And.intro ?_ (And.intro ?_ rfl)) <;> (conv => whnf) <;> repeat' (first | exact trivial | exact LeE.of (Le.refl _) | (first | exact rfl | fail) | ((with_reducible refine And.intro ?_ ?_) <;> conv => whnf)))
  ·conv => whnf
   repeat' (first | (refine And.intro (fun h => ?_) (fun h => ?_) <;> (first | (with_reducible have hd : _ < _ := of_decide_eq_true h) | (with_reducible have hd : ¬ (_ < _) := of_decide_eq_false h) | fail) <;> (first | exact absurd h (by decide) | (conv => whnf))) | fail)
   exact leI hR
def cmpAd (a b : Ad) : Int := orI [cmpS a.t b.t, cmpS a.n b.n, cmpI a.k b.k, cmpI a.i b.i, cmpS a.s b.s]
def cmpKy (a b : Ky) : Int := orI [cmpAd a.a b.a, cmpI a.n b.n]
def lessAd (a b : Ad) : Bool := decide (cmpAd a b < 0)
def lessKy (a b : Ky) : Bool := decide (cmpKy a b < 0)
theorem aCmpAd (a b : Ad) : ACall Tryz.prog gl 126 [.ag (cAd a), .ag (cAd b)] [] (intA .i64 (cmpAd a b)) := by
 refine acall_of_vc htb hmix (f := 126) rfl rfl rfl (by kernel_rfl) rfl rfl ?_; conv => whnf
 repeat' (first | (refine Exists.intro _ (And.intro (chainI (aCmp_s _ _)) ?_); conv => whnf) | (refine Exists.intro _ (And.intro (chainI (aCmp_int _ _)) ?_); conv => whnf) | (refine Exists.intro _ (And.intro (chainI (aCmp_int64 _ _)) ?_); conv => whnf) | (refine Exists.intro _ (And.intro (chainI (aOr5 _ _ _ _ _)) ?_); conv => whnf) | ((with_reducible refine DOr.l ?_); (conv => whnf)) | fail)
 exact Le.refl _
theorem aCmpKy (a b : Ky) : ACall Tryz.prog gl 84 [.ag (cKy a), .ag (cKy b)] [] (intA .i64 (cmpKy a b)) := by
 refine acall_of_vc htb hmix (f := 84) rfl rfl rfl (by kernel_rfl) rfl rfl ?_; conv => whnf
 repeat' (first | (refine Exists.intro _ (And.intro (chainI (aCmpAd a.a b.a)) ?_); conv => whnf) | (refine Exists.intro _ (And.intro (chainI (aCmp_u32 _ _)) ?_); conv => whnf) | (refine Exists.intro _ (And.intro (chainI (aOr2 _ _)) ?_); conv => whnf) | ((with_reducible refine DOr.l ?_); (conv => whnf)) | fail)
 exact Le.refl _
theorem aLessAd (a b : Ad) : ACall Tryz.prog gl 90 [.ag (cAd a), .ag (cAd b)] [] (boolA (lessAd a b)) := by
 refine acall_of_vc htb hmix (f := 90) rfl rfl rfl (by kernel_rfl) rfl rfl ?_; conv => whnf
 repeat' (first | (refine Exists.intro _ (And.intro (aCmpAd a b) ?_); conv => whnf) | ((with_reducible refine xc_pure ?_); conv => whnf))
 exact leB rfl
theorem aLessKy (a b : Ky) : ACall Tryz.prog gl 41 [.ag (cKy a), .ag (cKy b)] [] (boolA (lessKy a b)) := by
 refine acall_of_vc htb hmix (f := 41) rfl rfl rfl (by kernel_rfl) rfl rfl ?_; conv => whnf
 repeat' (first | (refine Exists.intro _ (And.intro (aCmpKy a b) ?_); conv => whnf) | ((with_reducible refine xc_pure ?_); conv => whnf))
 exact leB rfl
/-! the document's -/
def lessAdR (a b : Ad) : Bool :=
 if !(a.t.toList == b.t.toList) then Op.bytesLess a.t.toList b.t.toList
 else if !(a.n.toList == b.n.toList) then Op.bytesLess a.n.toList b.n.toList
 else if a.k != b.k then decide (a.k < b.k)
 else if a.i != b.i then decide (a.i < b.i)
 else Op.bytesLess a.s.toList b.s.toList
theorem cmpS_lt (x y : ByteArray) : decide (cmpS x y < 0) = Op.bytesLess x.toList y.toList := by
 unfold cmpS
 split
 ·rename_i h; rw [h]; rfl
 ·rename_i h
  have h : Op.bytesLess x.toList y.toList = false := by simpa using h
  rw [h]; split <;> rfl
theorem cmpS_ne (x y : ByteArray) : (cmpS x y != 0) = !(x.toList == y.toList) := by
 unfold cmpS
 split
 ·rename_i h
  cases he : (x.toList == y.toList)
  ·rfl
  ·rw [beq_iff_eq] at he
   rw [he, bytesLess_irr] at h
   exact absurd h (by decide)
 ·rename_i h
  have h : Op.bytesLess x.toList y.toList = false := by simpa using h
  rw [h, Bool.false_or]
  cases he : (x.toList == y.toList) <;> rfl
theorem cmpI_lt (x y : Int) : decide (cmpI x y < 0) = decide (x < y) := by
 unfold cmpI
 rw [decide_eq_decide]
 split
 ·omega
 ·split <;> omega
theorem cmpI_ne (x y : Int) : (cmpI x y != 0) = (x != y) := by
 unfold cmpI
 rw [Bool.eq_iff_iff, bne_iff_ne, bne_iff_ne]
 split
 ·omega
 ·split <;> omega
theorem or_lt (x : Int) (l : List Int) : decide (orI (x :: l) < 0) = if x != 0 then decide (x < 0) else decide (orI l < 0) := by
 simp only [orI]
 split <;> rfl
theorem lessAd_eq (a b : Ad) : lessAdR a b = lessAd a b := by
 unfold lessAdR lessAd cmpAd
 rw [or_lt, or_lt, or_lt, or_lt, or_lt, cmpS_ne, cmpS_ne, cmpI_ne, cmpI_ne, cmpS_lt, cmpS_lt, cmpS_lt, cmpI_lt, cmpI_lt, cmpS_ne]
 cases he : (a.s.toList == b.s.toList)
 ·rfl
 ·rw [beq_iff_eq] at he
  rw [he, bytesLess_irr]
  rfl
theorem aLessAdR (a b : Ad) : ACall Tryz.prog gl 55 [.ag (cAd a), .ag (cAd b)] [] (boolA (lessAd a b)) := by
 rw [← lessAd_eq]
 refine acall_of_vc htb hmix (f := 55) rfl rfl rfl (by kernel_rfl) rfl rfl ?_; conv => whnf
 repeat' (first | (refine And.intro (fun h => ?_) (fun h => ?_) <;> (first | skip) <;> (first | (conv => whnf))) | fail)
 all_goals
  refine leB ?_
  unfold lessAdR
  simp only [*, Bool.false_eq_true, ↓reduceIte, Bool.not_true, Bool.not_false]
def eqAd (a b : Ad) : Bool := a.t == b.t && (a.n == b.n && (a.k == b.k && (a.i == b.i && a.s == b.s)))
theorem eqAd_iff {a b : Ad} : eqAd a b = true ↔ a = b := by
 unfold eqAd
 simp only [Bool.and_eq_true, ba_beq, beq_iff_eq]
 constructor
 ·rintro ⟨h1, h2, h3, h4, h5⟩
  obtain ⟨t, n, k, i, s⟩ := a
  obtain ⟨t', n', k', i', s'⟩ := b
  simp only at h1 h2 h3 h4 h5
  rw [h1, h2, h3, h4, h5]
 ·rintro rfl; exact ⟨rfl, rfl, rfl, rfl, rfl⟩
theorem cmpAd_0 {a b : Ad} : cmpAd a b = 0 ↔ a = b := by
 constructor
 ·intro h
  have h := orI_0 h
  have e (x y : ByteArray) (h : cmpS x y = 0) : x = y := by
   have := cmpS_ne x y
   rw [h] at this
   have : (x.toList == y.toList) = true := by simpa using this.symm
   exact toL_inj (eq_of_beq this)
  obtain ⟨t, n, k, i, s⟩ := a
  obtain ⟨t', n', k', i', s'⟩ := b
  rw [e _ _ (h (cmpS t t') (by simp)), e _ _ (h (cmpS n n') (by simp)), cmpI_0 (h (cmpI k k') (by simp)), cmpI_0 (h (cmpI i i') (by simp)), e _ _ (h (cmpS s s') (by simp))]
 ·rintro rfl
  unfold cmpAd
  rw [cmpS_self, cmpS_self, cmpS_self]
  simp [cmpI, orI]
def lessKyR (a b : Ky) : Bool := if !eqAd a.a b.a then lessAd a.a b.a else decide (a.n < b.n)
theorem lessKy_eq (a b : Ky) : lessKyR a b = lessKy a b := by
 unfold lessKyR lessKy cmpKy
 rw [or_lt, or_lt, cmpI_ne, cmpI_lt]
 by_cases h : a.a = b.a
 ·rw [eqAd_iff.2 h, cmpAd_0.2 h]
  simp only [Bool.not_true, Bool.false_eq_true, if_false, bne_self_eq_false]
  by_cases hn : a.n = b.n
  ·rw [hn]; simp [orI]
  ·have : (a.n != b.n) = true := by simpa using hn
   rw [this]; rfl
 ·have e1 : eqAd a.a b.a = false := by rw [Bool.eq_false_iff]; exact fun hh => h (eqAd_iff.1 hh)
  have e2 : (cmpAd a.a b.a != 0) = true := by rw [bne_iff_ne]; exact fun hh => h (cmpAd_0.1 hh)
  rw [e1, e2]; rfl
theorem aLessKyR (a b : Ky) : ACall Tryz.prog gl 44 [.ag (cKy a), .ag (cKy b)] [] (boolA (lessKy a b)) := by
 rw [← lessKy_eq]
 refine acall_of_vc htb hmix (f := 44) rfl rfl rfl (by kernel_rfl) rfl rfl ?_; conv => whnf
 repeat' (first | (refine Exists.intro _ (And.intro (aLessAdR a.a b.a) ?_); conv => whnf) | (refine And.intro (fun h => ?_) (fun h => ?_) <;> (first | skip) <;> (first | (conv => whnf))) | (refine And.intro ?_ ?_; (focus (first | (first | exact seAd | fail) | fail)); conv => whnf) | ((with_reducible refine xc_pure ?_); conv => whnf))
 all_goals
  refine leB ?_
  unfold lessKyR eqAd
  simp only [*, Bool.false_eq_true, ↓reduceIte, Bool.not_true, Bool.not_false]
end Go.Proofs.YthaaemhkdefidaaGreatDoor
