/- Contracts of functions of the program, and the laws that stand on them: what each function answers, whatever its arguments. -/
import Derived.Test.YtndacaemcakmkaaD35
import Derived.Test.YtndacaemcakmkaaVD
set_option linter.unusedSectionVars false
set_option linter.unnecessarySimpa false
namespace Go.Proofs.Ytndacaemcakmkaa
set_option linter.unusedSimpArgs false
set_option linter.unusedVariables false
set_option maxRecDepth 100000
set_option maxHeartbeats 8000000
open Go Go.VA Go.RowKit
/-! ### the document's disk: its files -/
def fE (l : List Ft) (i : Nat) : Ft := l.getD i (mtB, mtB, mtB)
def cF (e : Ft) : List C := [.v (.string e.1), oC e.2.1, oC e.2.2]
def rwF (l : List Ft) (i : Nat) : List C := [.v (.string (fE l i).1), oC (fE l i).2.1, oC (fE l i).2.2]
abbrev xB (n : Nat) (fuse : Int) (dead : Bool) (ops : Int) : AO := .box [.own 1 3 0 n, intA .i64 fuse, boolA dead, intA .i64 ops]
abbrev xR0 (l : List Ft) : AO := .row 3 l.length (rwF l)
theorem fE_lt {l : List Ft} {i : Nat} (h : i < l.length) : fE l i = l[i] := by unfold fE; rw [List.getD_eq_getElem?_getD, List.getElem?_eq_getElem h]; rfl
theorem zc (c : Nat) : 0 + ((c : Nat) : Int).toNat = c := by rw [Nat.zero_add]; exact Int.toNat_natCast c
theorem eq_t {a b : ByteArray} (h : (a.toList == b.toList) = true) : a = b := by rw [listEq] at h; exact of_decide_eq_true h
theorem eq_f {a b : ByteArray} (h : (a.toList == b.toList) = false) : a ≠ b := by rw [listEq] at h; exact of_decide_eq_false h
theorem gFind (l : List Ft) (fuse ops : Int) (dead : Bool) (s : ByteArray) (k : Nat) (hk : k < l.length) (h1 : (fE l k).1 = s) (h2 : ∀ j, j < k → (fE l j).1 ≠ s) : GCall Try.prog gl 49 [xB l.length fuse dead ops, xR0 l] [.ptr 0 0, .c (.v (.string s))] [xB l.length fuse dead ops, xR0 l] [intA .i64 k] := by
 refine gcall_of_vcb htb hmix (f := 49) rfl rfl rfl (by kernel_rfl) rfl rfl rfl fun hb hb2 => ?_; simp only [bndOs, bndO, gbnds, AV.gbnd, bnds, C.bnd, true_and, and_true] at hb hb2; conv => whnf
 repeat' (fail)
 refine loopI Nat (fun c => c ≤ k) (fun c => [(5, intA .i64 c)]) (fun _ => [xB l.length fuse dead ops, xR0 l]) (fun c => l.length - c) 0 (Nat.zero_le _) ?_ (fun _ => rfl) fun c hc => ?_
 ·(refine And.intro ?_ (And.intro ?_ (And.intro ?_ rfl)) <;> (conv => whnf) <;> repeat' (first | exact trivial | exact LeE.of (Le.refl _) | (first | exact rfl | exact fun i hi => LeCs.refl _ | fail) | ((with_reducible refine And.intro ?_ ?_) <;> conv => whnf)))
 ·change c ≤ k at hc
  conv => whnf
  repeat' (first | (refine And.intro (fun h => ?_) (fun h => ?_) <;> (first | (with_reducible have hd : _ < _ := of_decide_eq_true h) | (with_reducible have hd : ¬ (_ < _) := of_decide_eq_false h) | skip) <;> (first | (conv => whnf))) | (refine And.intro ?_ ?_; (focus (first | exact rfl | (refine chainI ?_; (first | omega | fail)) | (intro _; (first | omega | fail)) | (first | omega | fail) | fail)); conv => whnf) | fail)
  all_goals try (exfalso; omega)
  ·rw [zc] at h
   have h := eq_t h
   obtain rfl : c = k := by
    rcases Nat.lt_or_ge c k with h3 | h3
    ·exact absurd h (h2 c h3)
    ·omega
   ((conv => whnf); repeat' (first | exact trivial | exact rfl | exact LeC.refl _ | exact (fun i hi => LeCs.refl _) | ((with_reducible refine And.intro ?_ ?_) <;> conv => whnf)))
  ·rw [zc] at h
   have h := eq_f h
   have hck : c < k := by
    rcases Nat.lt_or_ge c k with h3 | h3
    ·exact h3
    ·obtain rfl : c = k := by omega
     exact absurd h1 h
   refine ⟨c + 1, hck, ?_, by show l.length - (c + 1) < l.length - c; omega⟩
   (refine And.intro ?_ (And.intro ?_ (And.intro ?_ rfl)) <;> (conv => whnf) <;> repeat' (first | exact trivial | exact LeE.of (Le.refl _) | (with_reducible refine LeE.of ?_) | (first | exact rfl | exact leI (by first | rfl | (rw [wrap64 (by omega) (by omega)]; omega) | fail) | exact fun i hi => LeCs.refl _ | fail) | ((with_reducible refine And.intro ?_ ?_) <;> conv => whnf)))
theorem gFindNo (l : List Ft) (fuse ops : Int) (dead : Bool) (s : ByteArray) (h2 : ∀ j, j < l.length → (fE l j).1 ≠ s) : GCall Try.prog gl 49 [xB l.length fuse dead ops, xR0 l] [.ptr 0 0, .c (.v (.string s))] [xB l.length fuse dead ops, xR0 l] [intA .i64 (-1)] := by
 refine gcall_of_vcb htb hmix (f := 49) rfl rfl rfl (by kernel_rfl) rfl rfl rfl fun hb hb2 => ?_; simp only [bndOs, bndO, gbnds, AV.gbnd, bnds, C.bnd, true_and, and_true] at hb hb2; conv => whnf
 repeat' (fail)
 refine loopI Nat (fun c => c ≤ l.length) (fun c => [(5, intA .i64 c)]) (fun _ => [xB l.length fuse dead ops, xR0 l]) (fun c => l.length - c) 0 (Nat.zero_le _) ?_ (fun _ => rfl) fun c hc => ?_
 ·(refine And.intro ?_ (And.intro ?_ (And.intro ?_ rfl)) <;> (conv => whnf) <;> repeat' (first | exact trivial | exact LeE.of (Le.refl _) | (first | exact rfl | exact fun i hi => LeCs.refl _ | fail) | ((with_reducible refine And.intro ?_ ?_) <;> conv => whnf)))
 ·change c ≤ l.length at hc
  conv => whnf
  repeat' (first | (refine And.intro (fun h => ?_) (fun h => ?_) <;> (first | (with_reducible have hd : _ < _ := of_decide_eq_true h) | (with_reducible have hd : ¬ (_ < _) := of_decide_eq_false h) | skip) <;> (first | (conv => whnf))) | (refine And.intro ?_ ?_; (focus (first | exact rfl | (refine chainI ?_; (first | omega | fail)) | fail)); conv => whnf) | fail)
  ·rw [zc] at h
   exact absurd (eq_t h) (h2 c (by omega))
  ·refine ⟨c + 1, by omega, ?_, by show l.length - (c + 1) < l.length - c; omega⟩
   (refine And.intro ?_ (And.intro ?_ (And.intro ?_ rfl)) <;> (conv => whnf) <;> repeat' (first | exact trivial | exact LeE.of (Le.refl _) | (with_reducible refine LeE.of ?_) | (first | exact rfl | exact leI (by first | rfl | (rw [wrap64 (by omega) (by omega)]; omega) | fail) | exact fun i hi => LeCs.refl _ | fail) | ((with_reducible refine And.intro ?_ ?_) <;> conv => whnf)))
  ·((conv => whnf); repeat' (first | exact trivial | exact rfl | exact LeC.refl _ | exact (fun i hi => LeCs.refl _) | ((with_reducible refine And.intro ?_ ?_) <;> conv => whnf)))
/-! ### a file's place -/
theorem fnd_at {s : ByteArray} {p : ByteArray × ByteArray} : ∀ {l : List Ft}, lkF s l = some p → ∃ k, k < l.length ∧ fE l k = (s, p.1, p.2) ∧ ∀ j, j < k → (fE l j).1 ≠ s
 | [], h => by cases h
 | e :: r, h => by
  unfold lkF at h
  split at h
  ·rename_i he
   cases h
   subst he
   exact ⟨0, Nat.succ_pos _, rfl, fun j hj => absurd hj (Nat.not_lt_zero _)⟩
  ·rename_i he
   obtain ⟨k, h1, h2, h3⟩ := fnd_at h
   refine ⟨k + 1, by simpa using h1, h2, fun j hj => ?_⟩
   cases j with
   | zero => exact fun h => he h.symm
   | succ j => exact h3 j (by omega)
theorem fnd_no {s : ByteArray} : ∀ {l : List Ft}, lkF s l = none → ∀ j, j < l.length → (fE l j).1 ≠ s
 | [], h, j, hj => absurd hj (Nat.not_lt_zero _)
 | e :: r, h, j, hj => by
  unfold lkF at h
  split at h
  ·cases h
  ·rename_i he
   cases j with
   | zero => exact fun h => he h.symm
   | succ j => exact fnd_no h j (by simpa using hj)
/-! ### a file is gone, a file is put -/
theorem rw_app (o : List Ft) (e : Ft) (g : Nat → List C) (hg : g 0 = cF e) (i : Nat) (hi : i < o.length + 1) : catF 0 o.length (rwF o) g i = rwF (o ++ [e]) i := by
 unfold catF
 split
 ·rename_i h
  unfold rwF fE
  simp only [Nat.zero_add, List.getD_eq_getElem?_getD, List.getElem?_append_left h]
 ·rename_i h
  obtain rfl : i = o.length := by omega
  rw [Nat.sub_self, hg]
  unfold rwF fE cF
  simp
def dropL (s : ByteArray) (l : List Ft) : List Ft := l.filter fun e => !(decide (e.1 = s))
theorem dropL_take {s : ByteArray} {l : List Ft} {c : Nat} (hc : c < l.length) : dropL s (l.take (c + 1)) = if (fE l c).1 = s then dropL s (l.take c) else dropL s (l.take c) ++ [fE l c] := by
 unfold dropL
 rw [List.take_add_one, List.getElem?_eq_getElem hc, List.filter_append, ← fE_lt hc]
 by_cases h : (fE l c).1 = s <;> simp [h]
theorem gDropX (l : List Ft) (fuse ops : Int) (dead : Bool) (s : ByteArray) (hl : l.length ≤ 1000000) : GCall Try.prog gl 51 [xB l.length fuse dead ops, xR0 l] [.ptr 0 0, .c (.v (.string s))] [.box [.own 2 3 0 (dropL s l).length, intA .i64 fuse, boolA dead, intA .i64 ops], xR0 l, xR0 (dropL s l)] [] := by
 have B0 : (l.length + 1) * (tb 75).bytes ≤ 140737488355328 := by
  have : (tb 75).bytes = 64 := rfl
  rw [this]; omega
 refine gcall_of_vcb htb hmix (f := 51) rfl rfl rfl (by kernel_rfl) rfl rfl rfl fun hb hb2 => ?_; simp only [bndOs, bndO, gbnds, AV.gbnd, bnds, C.bnd, true_and, and_true] at hb hb2; conv => whnf
 repeat' (first | ((with_reducible refine NilOr.l ?_); conv => whnf) | fail)
 refine loopI Nat (fun c => c ≤ l.length) (fun c => [(5, intA .i64 c), (4, .own 2 3 0 (dropL s (l.take c)).length)]) (fun c => [xB l.length fuse dead ops, xR0 l, xR0 (dropL s (l.take c))]) (fun c => l.length - c) 0 (Nat.zero_le _) ?_ (fun _ => rfl) fun c hc => ?_
 ·(refine And.intro ?_ (And.intro ?_ (And.intro ?_ rfl)) <;> (conv => whnf) <;> repeat' (first | exact trivial | exact LeE.of (Le.refl _) | (first | exact rfl | exact fun i hi => LeCs.refl _ | fail) | ((with_reducible refine And.intro ?_ ?_) <;> conv => whnf)))
  all_goals exact fun i hi => absurd hi (Nat.not_lt_zero _)
 ·change c ≤ l.length at hc
  have hd0 : (dropL s (l.take c)).length ≤ c := Nat.le_trans (List.length_filter_le _ _) (by rw [List.length_take]; omega)
  have hB : ((dropL s (l.take c)).length + 1) * (tb 75).bytes ≤ 140737488355328 := Nat.le_trans (Nat.mul_le_mul_right _ (by omega)) B0
  conv => whnf
  repeat' (first | (refine And.intro (fun h => ?_) (fun h => ?_) <;> (first | (with_reducible have hd : _ < _ := of_decide_eq_true h) | (with_reducible have hd : ¬ (_ < _) := of_decide_eq_false h) | skip) <;> (first | (conv => whnf))) | ((with_reducible refine OwnOr.l ?_); (conv => whnf)) | (refine And.intro ?_ ?_; (focus (first | exact rfl | (first | exact hB | fail) | (refine chainI ?_; (first | omega | fail)) | fail)); conv => whnf) | fail)
  ·rw [zc] at h
   have hne : (fE l c).1 ≠ s := eq_f (by simpa using h)
   have hcl : c < l.length := by omega
   have e := dropL_take (s := s) hcl
   rw [if_neg hne] at e
   refine ⟨c + 1, hcl, ?_, by show l.length - (c + 1) < l.length - c; omega⟩
   rw [e]
   generalize dropL s (l.take c) = o
   (refine And.intro ?_ (And.intro ?_ (And.intro ?_ rfl)) <;> (conv => whnf) <;> repeat' (first | exact trivial | exact LeE.of (Le.refl _) | (with_reducible refine LeE.of ?_) | (first | exact rfl | exact leI (by first | rfl | (rw [wrap64 (by omega) (by omega)]; omega) | fail) | exact fun i hi => LeCs.refl _ | fail) | ((with_reducible refine And.intro ?_ ?_) <;> conv => whnf)))
   all_goals first
    | (simp; done)
    | exact leOwn (by simp)
    | exact fun i hi => LeCs.of_eq (rw_app o (fE l c) _ (by show cF (fE l (0 + ((c : Nat) : Int).toNat)) = _; rw [zc]) i (by simpa using hi))
  ·rw [zc] at h
   have he : (fE l c).1 = s := eq_t (by simpa using h)
   have hcl : c < l.length := by omega
   have e := dropL_take (s := s) hcl
   rw [if_pos he] at e
   refine ⟨c + 1, hcl, ?_, by show l.length - (c + 1) < l.length - c; omega⟩
   rw [e]
   (refine And.intro ?_ (And.intro ?_ (And.intro ?_ rfl)) <;> (conv => whnf) <;> repeat' (first | exact trivial | exact LeE.of (Le.refl _) | (with_reducible refine LeE.of ?_) | (first | exact rfl | exact leI (by first | rfl | (rw [wrap64 (by omega) (by omega)]; omega) | fail) | exact fun i hi => LeCs.refl _ | fail) | ((with_reducible refine And.intro ?_ ?_) <;> conv => whnf)))
  ·obtain rfl : c = l.length := by omega
   rw [List.take_length]
   ((conv => whnf); repeat' (first | exact trivial | exact rfl | exact LeC.refl _ | exact (fun i hi => LeCs.refl _) | ((with_reducible refine And.intro ?_ ?_) <;> conv => whnf)))
def gtS (a b : ByteArray) : Bool := !(Op.bytesLess a.toList b.toList || a.toList == b.toList)
def insStep (f : Ft) (p : List Ft × Bool) (e : Ft) : List Ft × Bool := if e.1 = f.1 then p else if (!p.2 && gtS e.1 f.1) = true then (p.1 ++ [f] ++ [e], true) else (p.1 ++ [e], p.2)
def insS (f : Ft) (l : List Ft) : List Ft × Bool := l.foldl (insStep f) ([], false)
def insL (f : Ft) (l : List Ft) : List Ft := if (insS f l).2 = true then (insS f l).1 else (insS f l).1 ++ [f]
theorem insS_take {f : Ft} {l : List Ft} {c : Nat} (hc : c < l.length) : insS f (l.take (c + 1)) = insStep f (insS f (l.take c)) (fE l c) := by
 unfold insS
 rw [List.take_add_one, List.getElem?_eq_getElem hc, List.foldl_append, ← fE_lt hc]
 rfl
theorem insS_done (f : Ft) : ∀ (l : List Ft) (p : List Ft × Bool), p.2 = true → (l.foldl (insStep f) p).2 = true
 | [], p, h => h
 | e :: r, p, h => by
  refine insS_done f r _ ?_
  unfold insStep
  split
  ·exact h
  ·split
   ·rfl
   ·exact h
theorem insS_len (f : Ft) : ∀ (l : List Ft) (p : List Ft × Bool), ((l.foldl (insStep f) p).1.length ≤ p.1.length + l.length + (if p.2 = true then 0 else 1)) ∧ ((l.foldl (insStep f) p).2 = false → (l.foldl (insStep f) p).1.length ≤ p.1.length + l.length)
 | [], p => by
  refine ⟨?_, fun _ => Nat.le_refl _⟩
  show p.1.length ≤ p.1.length + 0 + _
  omega
 | e :: r, p => by
  have ih := insS_len f r (insStep f p e)
  simp only [List.foldl_cons, List.length_cons]
  by_cases h1 : e.1 = f.1
  ·have hs : insStep f p e = p := by unfold insStep; rw [if_pos h1]
   rw [hs] at ih ⊢
   have := ih.1
   refine ⟨by omega, fun h => by have := ih.2 h; omega⟩
  ·by_cases h2 : (!p.2 && gtS e.1 f.1) = true
   ·have hs : insStep f p e = (p.1 ++ [f] ++ [e], true) := by unfold insStep; rw [if_neg h1, if_pos h2]
    rw [hs] at ih ⊢
    simp only [Bool.and_eq_true, Bool.not_eq_true'] at h2
    rw [h2.1]
    have hz := insS_done f r (p.1 ++ [f] ++ [e], true) rfl
    generalize List.foldl (insStep f) (p.1 ++ [f] ++ [e], true) r = z at *
    simp only [List.length_append, List.length_cons, List.length_nil, if_true] at ih
    have := ih.1
    refine ⟨by simp; omega, fun h => absurd (hz.symm.trans h) (by decide)⟩
   ·have hs : insStep f p e = (p.1 ++ [e], p.2) := by unfold insStep; rw [if_neg h1, if_neg h2]
    rw [hs] at ih ⊢
    generalize List.foldl (insStep f) (p.1 ++ [e], p.2) r = z at *
    simp only [List.length_append, List.length_cons, List.length_nil] at ih
    have := ih.1
    refine ⟨by omega, fun h => by have := ih.2 h; omega⟩
theorem insL_len (f : Ft) (l : List Ft) : (insL f l).length ≤ l.length + 1 := by
 have h := insS_len f l ([], false)
 unfold insL insS
 split
 ·have := h.1
  simp at this
  omega
 ·rename_i h1
  have := h.2 (by simpa using h1)
  simp at this ⊢
  omega
end Go.Proofs.Ytndacaemcakmkaa

namespace Go.Proofs.Ytndacaemcakmkaa
set_option linter.unusedSimpArgs false
set_option linter.unusedVariables false
set_option maxRecDepth 100000
set_option maxHeartbeats 8000000
open Go Go.VA Go.RowKit
/-! ### a file is put among the others -/
theorem rw_app2 (o : List Ft) (f e : Ft) (g g2 : Nat → List C) (hg : g 0 = cF f) (hg2 : g2 0 = cF e) (i : Nat) (hi : i < o.length + 1 + 1) : catF 0 (o.length + 1) (catF 0 o.length (rwF o) g) g2 i = rwF (o ++ [f] ++ [e]) i := by
 have hl : (o ++ [f]).length = o.length + 1 := by simp
 rw [← rw_app (o ++ [f]) e g2 hg2 i (by omega), hl]
 unfold catF
 split
 ·rename_i h
  rw [Nat.zero_add]
  exact rw_app o f g hg i h
 ·rfl
abbrev fB (f : Ft) : AO := .box [.c (.v (.string f.1)), .c (oC f.2.1), .c (oC f.2.2)]
theorem gPutX (l : List Ft) (fuse ops : Int) (dead : Bool) (f : Ft) (hl : l.length ≤ 1000000) : GCall Try.prog gl 50 [xB l.length fuse dead ops, xR0 l] [.ptr 0 0, .ag (cF f)] [.box [.own 2 3 0 (insL f l).length, intA .i64 fuse, boolA dead, intA .i64 ops], xR0 l, xR0 (insL f l)] [] := by
 have hB : ∀ k, k ≤ 1000010 → k * (tb 75).bytes ≤ 140737488355328 := fun k hk => by
  have : (tb 75).bytes = 64 := rfl
  rw [this]; omega
 refine gcall_of_vcb htb hmix (f := 50) rfl rfl rfl (by kernel_rfl) rfl rfl rfl fun hb hb2 => ?_; simp only [bndOs, bndO, gbnds, AV.gbnd, bnds, C.bnd, true_and, and_true] at hb hb2; conv => whnf
 repeat' (first | ((with_reducible refine NilOr.l ?_); conv => whnf) | fail)
 refine loopI Nat (fun c => c ≤ l.length) (fun c => [(6, intA .i64 c), (5, boolA (insS f (l.take c)).2), (4, .own 3 3 0 (insS f (l.take c)).1.length)]) (fun c => [xB l.length fuse dead ops, xR0 l, fB f, xR0 (insS f (l.take c)).1]) (fun c => l.length - c) 0 (Nat.zero_le _) ?_ (fun _ => rfl) fun c hc => ?_
 ·(refine And.intro ?_ (And.intro ?_ (And.intro ?_ rfl)) <;> (conv => whnf) <;> repeat' (first | exact trivial | exact LeE.of (Le.refl _) | (first | exact rfl | exact fun i hi => LeCs.refl _ | fail) | ((with_reducible refine And.intro ?_ ?_) <;> conv => whnf)))
  all_goals exact fun i hi => absurd hi (Nat.not_lt_zero _)
 ·change c ≤ l.length at hc
  have hn := (insS_len f (l.take c) ([], false)).1
  have hm : (insS f (l.take c)).1.length ≤ l.length + 1 := by
   have : ((insS f (l.take c)).1.length ≤ 0 + (l.take c).length + 1) := hn
   rw [List.length_take] at this
   omega
  rcases Nat.lt_or_ge c l.length with hcl | hcl
  ·have e := insS_take (f := f) hcl
   obtain ⟨p, hp⟩ : ∃ p, p = insS f (l.take c) := ⟨_, rfl⟩
   rw [← hp] at hm e ⊢
   clear hn hp
   obtain ⟨o, d⟩ := p
   have hm : o.length ≤ l.length + 1 := hm
   conv => whnf
   repeat' (first | (refine And.intro (fun h => ?_) (fun h => ?_) <;> (first | (with_reducible have hd : _ < _ := of_decide_eq_true h) | (with_reducible have hd : ¬ (_ < _) := of_decide_eq_false h) | skip) <;> (first | (conv => whnf))) | ((with_reducible refine OwnOr.l ?_); (conv => whnf)) | (refine And.intro ?_ ?_; (focus (first | exact rfl | (first | exact hB _ (by omega) | fail) | (refine chainI ?_; (first | omega | fail)) | (first | omega | fail) | fail)); conv => whnf) | fail)
   all_goals try (exfalso; omega)
   ·rw [zc] at h
    have hs : insStep f (o, d) (fE l c) = (o, d) := by unfold insStep; rw [if_pos (eq_t h)]
    rw [hs] at e
    refine ⟨c + 1, hcl, ?_, by show l.length - (c + 1) < l.length - c; omega⟩
    rw [e]
    (refine And.intro ?_ (And.intro ?_ (And.intro ?_ rfl)) <;> (conv => whnf) <;> repeat' (first | exact trivial | exact LeE.of (Le.refl _) | (with_reducible refine LeE.of ?_) | (first | exact rfl | exact leI (by first | rfl | (rw [wrap64 (by omega) (by omega)]; omega) | fail) | exact fun i hi => LeCs.refl _ | fail) | ((with_reducible refine And.intro ?_ ?_) <;> conv => whnf)))
   ·rename_i h0
    rw [zc] at h h0
    have hs : insStep f (o, d) (fE l c) = (o ++ [f] ++ [fE l c], true) := by unfold insStep; rw [if_neg (eq_f h0)]; exact if_pos h
    rw [hs] at e
    refine ⟨c + 1, hcl, ?_, by show l.length - (c + 1) < l.length - c; omega⟩
    rw [e]
    (refine And.intro ?_ (And.intro ?_ (And.intro ?_ rfl)) <;> (conv => whnf) <;> repeat' (first | exact trivial | exact LeE.of (Le.refl _) | (with_reducible refine LeE.of ?_) | (first | exact rfl | exact leI (by first | rfl | (rw [wrap64 (by omega) (by omega)]; omega) | fail) | exact fun i hi => LeCs.refl _ | fail) | ((with_reducible refine And.intro ?_ ?_) <;> conv => whnf)))
    all_goals first
     | (simp; done)
     | exact leOwn (by simp)
     | exact fun i hi => LeCs.of_eq (rw_app2 o f (fE l c) _ _ rfl (by show cF (fE l (0 + ((c : Nat) : Int).toNat)) = _; rw [zc]) i (by simpa using hi))
   ·rename_i h0
    rw [zc] at h h0
    have hs : insStep f (o, d) (fE l c) = (o ++ [fE l c], d) := by unfold insStep; rw [if_neg (eq_f h0)]; exact if_neg (fun h1 => absurd (h1.symm.trans h) (by decide))
    rw [hs] at e
    refine ⟨c + 1, hcl, ?_, by show l.length - (c + 1) < l.length - c; omega⟩
    rw [e]
    (refine And.intro ?_ (And.intro ?_ (And.intro ?_ rfl)) <;> (conv => whnf) <;> repeat' (first | exact trivial | exact LeE.of (Le.refl _) | (with_reducible refine LeE.of ?_) | (first | exact rfl | exact leI (by first | rfl | (rw [wrap64 (by omega) (by omega)]; omega) | fail) | exact fun i hi => LeCs.refl _ | fail) | ((with_reducible refine And.intro ?_ ?_) <;> conv => whnf)))
    all_goals first
     | (simp; done)
     | exact leOwn (by simp)
     | exact fun i hi => LeCs.of_eq (rw_app o (fE l c) _ (by show cF (fE l (0 + ((c : Nat) : Int).toNat)) = _; rw [zc]) i (by simpa using hi))
  ·obtain rfl : c = l.length := by omega
   rw [List.take_length] at hm ⊢
   clear hn
   unfold insL
   obtain ⟨p, hp⟩ : ∃ p, p = insS f l := ⟨_, rfl⟩
   rw [← hp] at hm ⊢
   clear hp
   obtain ⟨o, d⟩ := p
   have hm : o.length ≤ l.length + 1 := hm
   conv => whnf
   repeat' (first | (refine And.intro (fun h => ?_) (fun h => ?_) <;> (first | (with_reducible have hd : _ < _ := of_decide_eq_true h) | (with_reducible have hd : ¬ (_ < _) := of_decide_eq_false h) | skip) <;> (first | (conv => whnf))) | ((with_reducible refine OwnOr.l ?_); (conv => whnf)) | (refine And.intro ?_ ?_; (focus (first | exact rfl | (first | exact hB _ (by omega) | fail) | (refine chainI ?_; (first | omega | fail)) | fail)); conv => whnf) | fail)
   all_goals try (exfalso; omega)
   ·have hd : d = false := by simpa using h
    subst hd
    rw [if_neg (by simp)]
    ((conv => whnf); repeat' (first | exact trivial | exact rfl | exact LeC.refl _ | exact (fun i hi => LeCs.refl _) | ((with_reducible refine And.intro ?_ ?_) <;> conv => whnf)))
    all_goals first
     | (simp; done)
     | exact leOwn (by simp)
     | exact fun i hi => LeCs.of_eq (rw_app o f (nthC [[.v (.string f.1), oC f.2.1, oC f.2.2]]) rfl i (by simpa using hi))
   ·have hd : d = true := by simpa using h
    subst hd
    rw [if_pos rfl]
    ((conv => whnf); repeat' (first | exact trivial | exact rfl | exact LeC.refl _ | exact (fun i hi => LeCs.refl _) | ((with_reducible refine And.intro ?_ ?_) <;> conv => whnf)))
/-- the row that is new stands for the old one -/
theorem swRow {f : Nat} {args res : List AV} {l l' : List Ft} {fuse ops fuse' ops' : Int} {dead dead' : Bool} (hcl : (retA res).closed = true)
  (h : GCall Try.prog gl f [xB l.length fuse dead ops, xR0 l] args [.box [.own 2 3 0 l'.length, intA .i64 fuse', boolA dead', intA .i64 ops'], xR0 l, xR0 l'] res) :
  GCall Try.prog gl f [xB l.length fuse dead ops, xR0 l] args [xB l'.length fuse' dead' ops', xR0 l'] res :=
 h.sw 1 2 [xB l'.length fuse' dead' ops', xR0 l'] hcl (by simp) (by simp) rfl rfl (by simp) (by simp)
  (fun id hid => by
   match id, hid with
   | 0, _ => exact ⟨⟨LeE.of (Le.refl _), rfl⟩, ⟨LeE.of (Le.refl _), rfl⟩, ⟨LeE.of (Le.refl _), rfl⟩, ⟨LeE.of (Le.refl _), rfl⟩, trivial⟩
   | 1, _ => exact ⟨rfl, rfl, fun i hi => LeCs.refl _⟩)
  (fun id hid => by
   match id, hid with
   | 0, _ => rfl
   | 1, _ => rfl)
  (fun id hid => by
   match id, hid with
   | 0, _ => rfl
   | 1, _ => rfl)
theorem gPutR (l : List Ft) (fuse ops : Int) (dead : Bool) (f : Ft) (hl : l.length ≤ 1000000) : GCall Try.prog gl 50 [xB l.length fuse dead ops, xR0 l] [.ptr 0 0, .ag (cF f)] [xB (insL f l).length fuse dead ops, xR0 (insL f l)] [] := swRow rfl (gPutX l fuse ops dead f hl)
theorem gDropR (l : List Ft) (fuse ops : Int) (dead : Bool) (s : ByteArray) (hl : l.length ≤ 1000000) : GCall Try.prog gl 51 [xB l.length fuse dead ops, xR0 l] [.ptr 0 0, .c (.v (.string s))] [xB (dropL s l).length fuse dead ops, xR0 (dropL s l)] [] := swRow rfl (gDropX l fuse ops dead s hl)
end Go.Proofs.Ytndacaemcakmkaa

namespace Go.Proofs.Ytndacaemcakmkaa
set_option linter.unusedSimpArgs false
set_option linter.unusedVariables false
set_option maxRecDepth 100000
set_option maxHeartbeats 8000000
open Go Go.VA Go.RowKit
/-! ### the document's disk: a change -/
def Dk.wrtR (d : Dk) (s b : ByteArray) : Dk × Int := if d.dead = true then (d, 21) else if wordB s = false then (d, 1) else if b.size > 262144 then (d, 3) else d.chg (insL (s, b, (getF s d.l).2) d.l) true
def Dk.appR (d : Dk) (s b : ByteArray) : Dk × Int := d.wrtR s ((getF s d.l).1 ++ b)
def Dk.synR (d : Dk) (s : ByteArray) : Dk × Int := if d.dead = true then (d, 21) else if wordB s = false then (d, 1) else match lkF s d.l with
 | none => (d, 11)
 | some p => d.chg (insL (s, p.1, p.1) d.l) false
def Dk.renR (d : Dk) (s t : ByteArray) : Dk × Int := if d.dead = true then (d, 21) else if wordB s = false ∨ wordB t = false then (d, 1) else match lkF s d.l with
 | none => (d, 11)
 | some p => d.chg (insL (t, p.1, p.2) (dropL s d.l)) false
def Dk.remR (d : Dk) (s : ByteArray) : Dk × Int := if d.dead = true then (d, 21) else if wordB s = false then (d, 1) else match lkF s d.l with
 | none => (d, 11)
 | some _ => d.chg (dropL s d.l) false
def Dk.xb (d : Dk) : AO := xB d.l.length d.fuse d.dead d.ops
def Dk.xr (d : Dk) : AO := xR0 d.l
theorem andL {a b : Bool} (h : (a && b) = true) : a = true := (Bool.and_eq_true a b ▸ h).1
theorem andR {a b : Bool} (h : (a && b) = true) : b = true := (Bool.and_eq_true a b ▸ h).2
theorem doDead (l : List Ft) (fuse ops k : Int) (s t : ByteArray) (b : C) : GCall Try.prog gl 25 [xB l.length fuse true ops, xR0 l] [.ptr 0 0, intA .i64 k, .c (.v (.string s)), .c (.v (.string t)), .c b] [xB l.length fuse true ops, xR0 l] [intA .i64 21] := by
 refine gcall_of_vcb htb hmix (f := 25) rfl rfl rfl (by kernel_rfl) rfl rfl rfl fun hb hb2 => ?_; simp only [bndOs, bndO, gbnds, AV.gbnd, bnds, C.bnd, true_and, and_true] at hb hb2; conv => whnf
 repeat' (first | (refine And.intro (fun h => ?_) (fun h => ?_) <;> (first | skip) <;> (first | exact absurd h (by decide) | (conv => whnf))) | (refine And.intro ?_ ?_; (focus (first | exact rfl | fail)); conv => whnf) | fail)
 all_goals try (exfalso; revert h; decide)
 ((conv => whnf); repeat' (first | exact trivial | exact rfl | exact LeC.refl _ | exact (fun i hi => LeCs.refl _) | ((with_reducible refine And.intro ?_ ?_) <;> conv => whnf)))
theorem doBad (l : List Ft) (fuse ops k : Int) (s t : ByteArray) (b : C) (hq : (!wordB s || k == 3 && !wordB t) = true) : GCall Try.prog gl 25 [xB l.length fuse false ops, xR0 l] [.ptr 0 0, intA .i64 k, .c (.v (.string s)), .c (.v (.string t)), .c b] [xB l.length fuse false ops, xR0 l] [intA .i64 1] := by
 refine gcall_of_vcb htb hmix (f := 25) rfl rfl rfl (by kernel_rfl) rfl rfl rfl fun hb hb2 => ?_; simp only [bndOs, bndO, gbnds, AV.gbnd, bnds, C.bnd, true_and, and_true] at hb hb2; conv => whnf
 repeat' (first | (refine Exists.intro _ (And.intro (aWordR _) ?_); conv => whnf) | ((with_reducible refine GOr.l ?_); (conv => whnf); refine Exists.intro _ (And.intro (chainI (aWordR _)) ?_); conv => whnf) | (refine And.intro (fun h => ?_) (fun h => ?_) <;> (first | skip) <;> (first | exact absurd h (by decide) | (first | exact Bool.noConfusion (hq.symm.trans h) | fail) | (conv => whnf))) | (refine And.intro ?_ ?_; (focus (first | exact rfl | fail)); conv => whnf) | ((with_reducible refine xc_pure ?_); conv => whnf))
 all_goals try (exfalso; revert h; decide)
 ((conv => whnf); repeat' (first | exact trivial | exact rfl | exact LeC.refl _ | exact (fun i hi => LeCs.refl _) | ((with_reducible refine And.intro ?_ ?_) <;> conv => whnf)))
theorem doNone2 (l : List Ft) (fuse ops : Int) (s t : ByteArray) (b : C) (hq : (!wordB s || (2 : Int) == 3 && !wordB t) = false) (hf : lkF s l = none) : GCall Try.prog gl 25 [xB l.length fuse false ops, xR0 l] [.ptr 0 0, intA .i64 2, .c (.v (.string s)), .c (.v (.string t)), .c b] [xB l.length fuse false ops, xR0 l] [intA .i64 11] := by
 have F := gFindNo l fuse ops false s (fnd_no hf)
 refine gcall_of_vcb htb hmix (f := 25) rfl rfl rfl (by kernel_rfl) rfl rfl rfl fun hb hb2 => ?_; simp only [bndOs, bndO, gbnds, AV.gbnd, bnds, C.bnd, true_and, and_true] at hb hb2; conv => whnf
 repeat' (first | (refine Exists.intro _ (And.intro (aWordR _) ?_); conv => whnf) | ((with_reducible refine GOr.l ?_); (conv => whnf); refine Exists.intro _ (And.intro (chainI (aWordR _)) ?_); conv => whnf) | (refine And.intro (fun h => ?_) (fun h => ?_) <;> (first | skip) <;> (first | exact absurd h (by decide) | (first | exact Bool.noConfusion (hq.symm.trans h) | fail) | (conv => whnf))) | (refine And.intro ?_ ?_; (focus (first | exact rfl | fail)); conv => whnf) | ((with_reducible refine xc_guard ?_); (first | (refine xc_g (F) false (by first | (((conv => whnf); repeat' (first | exact trivial | exact rfl | exact LeC.refl _ | exact (fun i hi => LeCs.refl _) | ((with_reducible refine And.intro ?_ ?_) <;> conv => whnf))); done) | fail) trivial ?_) | fail); conv => whnf) | ((with_reducible refine xc_pure ?_); conv => whnf))
 all_goals try (exfalso; revert h; decide)
 ((conv => whnf); repeat' (first | exact trivial | exact rfl | exact LeC.refl _ | exact (fun i hi => LeCs.refl _) | ((with_reducible refine And.intro ?_ ?_) <;> conv => whnf)))
theorem doNone3 (l : List Ft) (fuse ops : Int) (s t : ByteArray) (b : C) (hq : (!wordB s || (3 : Int) == 3 && !wordB t) = false) (hf : lkF s l = none) : GCall Try.prog gl 25 [xB l.length fuse false ops, xR0 l] [.ptr 0 0, intA .i64 3, .c (.v (.string s)), .c (.v (.string t)), .c b] [xB l.length fuse false ops, xR0 l] [intA .i64 11] := by
 have F := gFindNo l fuse ops false s (fnd_no hf)
 refine gcall_of_vcb htb hmix (f := 25) rfl rfl rfl (by kernel_rfl) rfl rfl rfl fun hb hb2 => ?_; simp only [bndOs, bndO, gbnds, AV.gbnd, bnds, C.bnd, true_and, and_true] at hb hb2; conv => whnf
 repeat' (first | (refine Exists.intro _ (And.intro (aWordR _) ?_); conv => whnf) | ((with_reducible refine GOr.l ?_); (conv => whnf); refine Exists.intro _ (And.intro (chainI (aWordR _)) ?_); conv => whnf) | (refine And.intro (fun h => ?_) (fun h => ?_) <;> (first | skip) <;> (first | exact absurd h (by decide) | (first | exact Bool.noConfusion (hq.symm.trans h) | fail) | (conv => whnf))) | (refine And.intro ?_ ?_; (focus (first | exact rfl | fail)); conv => whnf) | ((with_reducible refine xc_guard ?_); (first | (refine xc_g (F) false (by first | (((conv => whnf); repeat' (first | exact trivial | exact rfl | exact LeC.refl _ | exact (fun i hi => LeCs.refl _) | ((with_reducible refine And.intro ?_ ?_) <;> conv => whnf))); done) | fail) trivial ?_) | fail); conv => whnf) | ((with_reducible refine xc_pure ?_); conv => whnf))
 all_goals try (exfalso; revert h; decide)
 ((conv => whnf); repeat' (first | exact trivial | exact rfl | exact LeC.refl _ | exact (fun i hi => LeCs.refl _) | ((with_reducible refine And.intro ?_ ?_) <;> conv => whnf)))
theorem doNone4 (l : List Ft) (fuse ops : Int) (s t : ByteArray) (b : C) (hq : (!wordB s || (4 : Int) == 3 && !wordB t) = false) (hf : lkF s l = none) : GCall Try.prog gl 25 [xB l.length fuse false ops, xR0 l] [.ptr 0 0, intA .i64 4, .c (.v (.string s)), .c (.v (.string t)), .c b] [xB l.length fuse false ops, xR0 l] [intA .i64 11] := by
 have F := gFindNo l fuse ops false s (fnd_no hf)
 refine gcall_of_vcb htb hmix (f := 25) rfl rfl rfl (by kernel_rfl) rfl rfl rfl fun hb hb2 => ?_; simp only [bndOs, bndO, gbnds, AV.gbnd, bnds, C.bnd, true_and, and_true] at hb hb2; conv => whnf
 repeat' (first | (refine Exists.intro _ (And.intro (aWordR _) ?_); conv => whnf) | ((with_reducible refine GOr.l ?_); (conv => whnf); refine Exists.intro _ (And.intro (chainI (aWordR _)) ?_); conv => whnf) | (refine And.intro (fun h => ?_) (fun h => ?_) <;> (first | skip) <;> (first | exact absurd h (by decide) | (first | exact Bool.noConfusion (hq.symm.trans h) | fail) | (conv => whnf))) | (refine And.intro ?_ ?_; (focus (first | exact rfl | fail)); conv => whnf) | ((with_reducible refine xc_guard ?_); (first | (refine xc_g (F) false (by first | (((conv => whnf); repeat' (first | exact trivial | exact rfl | exact LeC.refl _ | exact (fun i hi => LeCs.refl _) | ((with_reducible refine And.intro ?_ ?_) <;> conv => whnf))); done) | fail) trivial ?_) | fail); conv => whnf) | ((with_reducible refine xc_pure ?_); conv => whnf))
 all_goals try (exfalso; revert h; decide)
 ((conv => whnf); repeat' (first | exact trivial | exact rfl | exact LeC.refl _ | exact (fun i hi => LeCs.refl _) | ((with_reducible refine And.intro ?_ ?_) <;> conv => whnf)))
theorem fnd_w {s : ByteArray} {p : ByteArray × ByteArray} {l : List Ft} (h : lkF s l = some p) (fuse ops : Int) (dead : Bool) : ∃ k : Nat, k < l.length ∧ fE l k = (s, p.1, p.2) ∧ GCall Try.prog gl 49 [xB l.length fuse dead ops, xR0 l] [.ptr 0 0, .c (.v (.string s))] [xB l.length fuse dead ops, xR0 l] [intA .i64 k] := by
 obtain ⟨k, h1, h2, h3⟩ := fnd_at h
 exact ⟨k, h1, h2, gFind l fuse ops dead s k h1 (by rw [h2]) h3⟩
end Go.Proofs.Ytndacaemcakmkaa
