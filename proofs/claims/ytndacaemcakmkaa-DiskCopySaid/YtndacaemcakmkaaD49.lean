/- Contracts of functions of the program, and the laws that stand on them: what each function answers, whatever its arguments. -/
import Derived.Test.YtndacaemcakmkaaD47
set_option linter.unusedSectionVars false
set_option linter.unnecessarySimpa false
namespace Go.Proofs.Ytndacaemcakmkaa
set_option linter.unusedSimpArgs false
set_option linter.unusedVariables false
set_option maxRecDepth 100000
set_option maxHeartbeats 8000000
open Go Go.VA Go.RowKit
/-! ### an act, on both: Fuse, Write -/
theorem ntOC (s : ByteArray) : NtC (oC s) := ⟨rfl, fun i _ => ⟨trivial, trivial⟩⟩
theorem ntMB (l : List Ft) : ∀ p ∈ mB l, ntA p.2 := fun p hp => by
 obtain ⟨e, he, rfl⟩ := List.mem_map.1 hp
 exact ⟨ntOC _, ntOC _, trivial⟩
theorem do7 (d x : Dk) (a : Ac) (hk : pickI a.k 9 = 7) : GCall Try.prog gl 11 [db d, dm d, yb x, yr x] [.ptr 0 0, .ptr 2 0, .ag (cAc a)] [db (d.fus a.n).1, dm (d.fus a.n).1, yb (x.fus a.n).1, yr (x.fus a.n).1] [boolA ((d.fus a.n).2 == (x.fus a.n).2)] := by
 have D := tFuse d a.n
 unfold Dk.dB Dk.mp at D
 obtain ⟨l, fuse, dead, ops⟩ := x
 cases dead with
 | true =>
  refine gcall_of_vcb htb hmix (f := 11) rfl rfl rfl (by kernel_rfl) rfl rfl rfl fun hb hb2 => ?_; simp only [bndOs, bndO, gbnds, AV.gbnd, bnds, C.bnd, true_and, and_true] at hb hb2; conv => whnf
  repeat' (first | (rw [hk]; conv => whnf) | (refine Exists.intro _ (And.intro (aChoose a.k) ?_); conv => whnf) | (refine And.intro (fun h => ?_) (fun h => ?_) <;> (first | skip) <;> (first | exact absurd h (by decide) | (conv => whnf))) | (refine And.intro ?_ ?_; (focus (first | exact rfl | fail)); conv => whnf) | ((with_reducible refine xc_guard ?_); (first | (refine xc_g (D) false (by first | (((conv => whnf); repeat' (first | exact trivial | exact rfl | exact LeC.refl _ | (first | exact LeMs.refl _ | fail) | ((with_reducible refine And.intro ?_ ?_) <;> conv => whnf))); done) | fail) trivial ?_) | fail); conv => whnf) | ((with_reducible refine xc_pure ?_); conv => whnf))
  all_goals try (exfalso; revert h; decide)
  ((conv => whnf); repeat' (first | exact trivial | exact rfl | exact LeC.refl _ | exact (fun i hi => LeCs.refl _) | ((with_reducible refine And.intro ?_ ?_) <;> conv => whnf)))
  all_goals first
   | exact LeMs.refl _
   | exact fun _ _ h => h
   | (exfalso; revert h; decide)
   | exact Bool.noConfusion h
 | false =>
  refine gcall_of_vcb htb hmix (f := 11) rfl rfl rfl (by kernel_rfl) rfl rfl rfl fun hb hb2 => ?_; simp only [bndOs, bndO, gbnds, AV.gbnd, bnds, C.bnd, true_and, and_true] at hb hb2; conv => whnf
  repeat' (first | (rw [hk]; conv => whnf) | (refine Exists.intro _ (And.intro (aChoose a.k) ?_); conv => whnf) | (refine And.intro (fun h => ?_) (fun h => ?_) <;> (first | skip) <;> (first | exact absurd h (by decide) | (conv => whnf))) | (refine And.intro ?_ ?_; (focus (first | exact rfl | fail)); conv => whnf) | ((with_reducible refine xc_guard ?_); (first | (refine xc_g (D) false (by first | (((conv => whnf); repeat' (first | exact trivial | exact rfl | exact LeC.refl _ | (first | exact LeMs.refl _ | fail) | ((with_reducible refine And.intro ?_ ?_) <;> conv => whnf))); done) | fail) trivial ?_) | fail); conv => whnf) | ((with_reducible refine xc_pure ?_); conv => whnf))
  all_goals try (exfalso; revert h; decide)
  ((conv => whnf); repeat' (first | exact trivial | exact rfl | exact LeC.refl _ | exact (fun i hi => LeCs.refl _) | ((with_reducible refine And.intro ?_ ?_) <;> conv => whnf)))
  all_goals first
   | exact LeMs.refl _
   | exact fun _ _ h => h
   | (exfalso; revert h; decide)
   | exact Bool.noConfusion h
theorem upd_by (g : Nat → Int) (c : Nat) (v : Int) (i : Nat) : LeCs (updF (byF g) (0 + ((c : Nat) : Int).toNat) [.v (.int .u8 v)] i) (byF (fun i => if i = c then v else g i) i) := by
 rw [zc]
 unfold updF
 by_cases h : i = c
 ·rw [if_pos h]
  exact LeCs.of_eq (by show _ = [C.v (.int .u8 (if i = c then v else g i))]; rw [if_pos h])
 ·rw [if_neg h]
  exact LeCs.of_eq (by show _ = [C.v (.int .u8 (if i = c then v else g i))]; rw [if_neg h])
theorem doW0 (d x : Dk) {m : Nat} (okx : x.Ok m) (hm : m ≤ 1000000) (a : Ac) (hb0 : a.b.size ≤ 2000) (hk : pickI a.k 9 = 0) : GCall Try.prog gl 11 [db d, dm d, yb x, yr x] [.ptr 0 0, .ptr 2 0, .ag (cAc a)] [db (d.wrt a.nm a.b).1, dm (d.wrt a.nm a.b).1, yb (x.wrtR a.nm a.b).1, yr (x.wrtR a.nm a.b).1] [boolA ((d.wrt a.nm a.b).2 == (x.wrtR a.nm a.b).2)] := by
 have e0 : (fun j => strCells a.b (0 + j)) = strCells a.b := by funext j; rw [Nat.zero_add]
 have D := tWrite d a.nm a.b true
 have X := uWrite x okx hm a.nm { data := #[] } a.b (by omega)
 unfold Dk.dB Dk.mp at D
 unfold Dk.xb Dk.xr at X
 rw [← e0] at D
 have hB : ∀ k, k ≤ 100000 → k * (tb 5).bytes ≤ 140737488355328 := fun k hk => by
  show k * 1 ≤ _; omega
 refine gcall_of_vcb htb hmix (f := 11) rfl rfl rfl (by kernel_rfl) rfl rfl rfl fun hb hb2 => ?_; simp only [bndOs, bndO, gbnds, AV.gbnd, bnds, C.bnd, true_and, and_true] at hb hb2; conv => whnf
 repeat' (first | (rw [hk]; conv => whnf) | (refine Exists.intro _ (And.intro (aChoose a.k) ?_); conv => whnf) | (refine And.intro (fun h => ?_) (fun h => ?_) <;> (first | skip) <;> (first | exact absurd h (by decide) | (conv => whnf))) | ((with_reducible refine OwnOr.l ?_); (conv => whnf)) | (refine And.intro ?_ ?_; (focus (first | (first | exact hB _ (by omega) | fail) | fail)); conv => whnf) | ((with_reducible refine xc_guard ?_); (first | (refine xc_g (D) true (by first | (((conv => whnf); repeat' (first | exact trivial | exact rfl | exact LeC.refl _ | (first | exact LeMs.refl _ | fail) | ((with_reducible refine And.intro ?_ ?_) <;> conv => whnf))); done) | fail) (by first | (((conv => whnf); repeat' (first | exact trivial | (first | exact ntMB _ | fail) | ((with_reducible refine And.intro ?_ ?_) <;> conv => whnf))); done) | fail) ?_)); conv => whnf) | ((with_reducible refine xc_pure ?_); conv => whnf))
 all_goals try (exfalso; revert h; decide)
 refine loopI (Nat × (Nat → Int)) (fun p => p.1 ≤ a.b.size) (fun p => [(9, intA .i64 p.1)]) (fun p => [db (d.wrt a.nm a.b).1, dm (d.wrt a.nm a.b).1, yb x, yr x, .box [.c (.v (.int .i64 a.k)), .c (.v (.string a.nm)), .c (.v (.string a.to)), .c (oC a.b), .c (.v (.int .i64 a.n))], .row 1 a.b.size (byF p.2)]) (fun p => a.b.size - p.1) (0, byZ a.b) (Nat.zero_le _) ?_ (fun _ => rfl) fun ⟨c, g⟩ hc => ?_
 ·(refine And.intro ?_ (And.intro ?_ (And.intro ?_ rfl)) <;> (conv => whnf) <;> repeat' (first | exact trivial | exact LeE.of (Le.refl _) | (first | exact rfl | exact fun i hi => LeCs.refl _ | fail) | ((with_reducible refine And.intro ?_ ?_) <;> conv => whnf)))
  all_goals first
   | exact LeMs.refl _
   | exact fun i hi => LeCs.refl _
 ·change c ≤ a.b.size at hc
  conv => whnf
  repeat' (first | (refine And.intro (fun h => ?_) (fun h => ?_) <;> (first | (with_reducible have hd : _ < _ := of_decide_eq_true h) | (with_reducible have hd : ¬ (_ < _) := of_decide_eq_false h) | fail) <;> (first | (conv => whnf))) | (refine And.intro ?_ ?_; (focus (first | exact rfl | (refine chainI ?_; (first | omega | fail)) | fail)); conv => whnf) | ((with_reducible refine xc_guard ?_); (first | (refine xc_g (X) false (by first | (((conv => whnf); repeat' (first | exact trivial | exact rfl | exact LeC.refl _ | exact (fun i hi => LeCs.refl _) | ((with_reducible refine And.intro ?_ ?_) <;> conv => whnf))); done) | fail) trivial ?_) | fail); conv => whnf) | fail)
  all_goals try (exfalso; omega)
  ·refine ⟨(c + 1, fun i => if i = c then bitsI .xor .u8 (g (0 + ((c : Nat) : Int).toNat)) 255 else g i), by show c + 1 ≤ a.b.size; omega, ?_, by show a.b.size - (c + 1) < a.b.size - c; omega⟩
   (refine And.intro ?_ (And.intro ?_ (And.intro ?_ rfl)) <;> (conv => whnf) <;> repeat' (first | exact trivial | exact LeE.of (Le.refl _) | (with_reducible refine LeE.of ?_) | (first | exact rfl | exact leI (by first | rfl | (rw [wrap64 (by omega) (by omega)]; omega) | fail) | exact fun i hi => LeCs.refl _ | fail) | ((with_reducible refine And.intro ?_ ?_) <;> conv => whnf)))
   all_goals first
    | exact LeMs.refl _
    | exact fun i hi => upd_by g c _ i
  ·((conv => whnf); repeat' (first | exact trivial | exact rfl | exact LeC.refl _ | exact (fun i hi => LeCs.refl _) | ((with_reducible refine And.intro ?_ ?_) <;> conv => whnf)))
   all_goals exact LeMs.refl _
theorem doW1 (d x : Dk) {m : Nat} (okx : x.Ok m) (hm : m ≤ 1000000) (a : Ac) (hb0 : a.b.size ≤ 2000) (hk : pickI a.k 9 = 1) : GCall Try.prog gl 11 [db d, dm d, yb x, yr x] [.ptr 0 0, .ptr 2 0, .ag (cAc a)] [db (d.wrt a.nm a.b).1, dm (d.wrt a.nm a.b).1, yb (x.wrtR a.nm a.b).1, yr (x.wrtR a.nm a.b).1] [boolA ((d.wrt a.nm a.b).2 == (x.wrtR a.nm a.b).2)] := by
 have e0 : (fun j => strCells a.b (0 + j)) = strCells a.b := by funext j; rw [Nat.zero_add]
 have D := tWrite d a.nm a.b true
 have X := uWrite x okx hm a.nm { data := #[] } a.b (by omega)
 unfold Dk.dB Dk.mp at D
 unfold Dk.xb Dk.xr at X
 rw [← e0] at D
 have hB : ∀ k, k ≤ 100000 → k * (tb 5).bytes ≤ 140737488355328 := fun k hk => by
  show k * 1 ≤ _; omega
 refine gcall_of_vcb htb hmix (f := 11) rfl rfl rfl (by kernel_rfl) rfl rfl rfl fun hb hb2 => ?_; simp only [bndOs, bndO, gbnds, AV.gbnd, bnds, C.bnd, true_and, and_true] at hb hb2; conv => whnf
 repeat' (first | (rw [hk]; conv => whnf) | (refine Exists.intro _ (And.intro (aChoose a.k) ?_); conv => whnf) | (refine And.intro (fun h => ?_) (fun h => ?_) <;> (first | skip) <;> (first | exact absurd h (by decide) | (conv => whnf))) | ((with_reducible refine OwnOr.l ?_); (conv => whnf)) | (refine And.intro ?_ ?_; (focus (first | (first | exact hB _ (by omega) | fail) | fail)); conv => whnf) | ((with_reducible refine xc_guard ?_); (first | (refine xc_g (D) true (by first | (((conv => whnf); repeat' (first | exact trivial | exact rfl | exact LeC.refl _ | (first | exact LeMs.refl _ | fail) | ((with_reducible refine And.intro ?_ ?_) <;> conv => whnf))); done) | fail) (by first | (((conv => whnf); repeat' (first | exact trivial | (first | exact ntMB _ | fail) | ((with_reducible refine And.intro ?_ ?_) <;> conv => whnf))); done) | fail) ?_)); conv => whnf) | ((with_reducible refine xc_pure ?_); conv => whnf))
 all_goals try (exfalso; revert h; decide)
 refine loopI (Nat × (Nat → Int)) (fun p => p.1 ≤ a.b.size) (fun p => [(9, intA .i64 p.1)]) (fun p => [db (d.wrt a.nm a.b).1, dm (d.wrt a.nm a.b).1, yb x, yr x, .box [.c (.v (.int .i64 a.k)), .c (.v (.string a.nm)), .c (.v (.string a.to)), .c (oC a.b), .c (.v (.int .i64 a.n))], .row 1 a.b.size (byF p.2)]) (fun p => a.b.size - p.1) (0, byZ a.b) (Nat.zero_le _) ?_ (fun _ => rfl) fun ⟨c, g⟩ hc => ?_
 ·(refine And.intro ?_ (And.intro ?_ (And.intro ?_ rfl)) <;> (conv => whnf) <;> repeat' (first | exact trivial | exact LeE.of (Le.refl _) | (first | exact rfl | exact fun i hi => LeCs.refl _ | fail) | ((with_reducible refine And.intro ?_ ?_) <;> conv => whnf)))
  all_goals first
   | exact LeMs.refl _
   | exact fun i hi => LeCs.refl _
 ·change c ≤ a.b.size at hc
  conv => whnf
  repeat' (first | (refine And.intro (fun h => ?_) (fun h => ?_) <;> (first | (with_reducible have hd : _ < _ := of_decide_eq_true h) | (with_reducible have hd : ¬ (_ < _) := of_decide_eq_false h) | fail) <;> (first | (conv => whnf))) | (refine And.intro ?_ ?_; (focus (first | exact rfl | (refine chainI ?_; (first | omega | fail)) | fail)); conv => whnf) | ((with_reducible refine xc_guard ?_); (first | (refine xc_g (X) false (by first | (((conv => whnf); repeat' (first | exact trivial | exact rfl | exact LeC.refl _ | exact (fun i hi => LeCs.refl _) | ((with_reducible refine And.intro ?_ ?_) <;> conv => whnf))); done) | fail) trivial ?_) | fail); conv => whnf) | fail)
  all_goals try (exfalso; omega)
  ·refine ⟨(c + 1, fun i => if i = c then bitsI .xor .u8 (g (0 + ((c : Nat) : Int).toNat)) 255 else g i), by show c + 1 ≤ a.b.size; omega, ?_, by show a.b.size - (c + 1) < a.b.size - c; omega⟩
   (refine And.intro ?_ (And.intro ?_ (And.intro ?_ rfl)) <;> (conv => whnf) <;> repeat' (first | exact trivial | exact LeE.of (Le.refl _) | (with_reducible refine LeE.of ?_) | (first | exact rfl | exact leI (by first | rfl | (rw [wrap64 (by omega) (by omega)]; omega) | fail) | exact fun i hi => LeCs.refl _ | fail) | ((with_reducible refine And.intro ?_ ?_) <;> conv => whnf)))
   all_goals first
    | exact LeMs.refl _
    | exact fun i hi => upd_by g c _ i
  ·((conv => whnf); repeat' (first | exact trivial | exact rfl | exact LeC.refl _ | exact (fun i hi => LeCs.refl _) | ((with_reducible refine And.intro ?_ ?_) <;> conv => whnf)))
   all_goals exact LeMs.refl _
end Go.Proofs.Ytndacaemcakmkaa

namespace Go.Proofs.Ytndacaemcakmkaa
set_option linter.unusedSimpArgs false
set_option linter.unusedVariables false
set_option maxRecDepth 100000
set_option maxHeartbeats 8000000
open Go Go.VA Go.RowKit
/-! ### files by their names, plainly -/
theorem fnd_put (s x z t : ByteArray) : ∀ l : List Ft, lkF t (putF s x z l) = if t = s then some (x, z) else lkF t l
 | [] => by
  simp only [putF, lkF]
 | e :: r => by
  unfold putF
  by_cases h : s = e.1
  ·rw [if_pos h]
   subst h
   simp only [lkF]
   split <;> rfl
  ·rw [if_neg h]
   simp only [lkF]
   by_cases h2 : t = e.1
   ·rw [if_pos h2, if_pos h2, if_neg (fun h3 => h (h3.symm.trans h2))]
   ·rw [if_neg h2, if_neg h2, fnd_put s x z t r]
theorem fnd_mem {t : ByteArray} {l : List Ft} : lkF t l = none ↔ t ∉ l.map (·.1) := by
 induction l with
 | nil => simp [lkF]
 | cons e r ih =>
  simp only [lkF, List.map_cons, List.mem_cons, not_or]
  by_cases h : t = e.1
  ·rw [if_pos h]; simp [h]
  ·rw [if_neg h, ih]; simp [h]
theorem fnd_del (s t : ByteArray) : ∀ l : List Ft, (l.map (·.1)).Nodup → lkF t (delF s l) = if t = s then none else lkF t l
 | [], _ => by simp [delF, lkF]
 | e :: r, hn => by
  have hn' := List.nodup_cons.1 (by simpa using hn : (e.1 :: r.map (·.1)).Nodup)
  unfold delF
  by_cases h : s = e.1
  ·rw [if_pos h]
   by_cases h2 : t = s
   ·rw [if_pos h2, fnd_mem, h2, h]
    exact hn'.1
   ·rw [if_neg h2]
    simp only [lkF]
    rw [if_neg (fun h3 => h2 (h3.trans h.symm))]
  ·rw [if_neg h]
   simp only [lkF]
   by_cases h2 : t = e.1
   ·rw [if_pos h2, if_pos h2, if_neg (fun h3 => h (h3.symm.trans h2))]
   ·rw [if_neg h2, if_neg h2, fnd_del s t r hn'.2]
theorem fnd_drop (s t : ByteArray) : ∀ l : List Ft, lkF t (dropL s l) = if t = s then none else lkF t l
 | [] => by simp [dropL, lkF]
 | e :: r => by
  have ih := fnd_drop s t r
  unfold dropL at ih ⊢
  by_cases h : e.1 = s
  ·rw [List.filter_cons_of_neg (by simp [h]), ih]
   by_cases h2 : t = s
   ·rw [if_pos h2, if_pos h2]
   ·rw [if_neg h2, if_neg h2]
    simp only [lkF]
    rw [if_neg (fun h3 => h2 (h3.trans h))]
  ·rw [List.filter_cons_of_pos (by simp [h])]
   simp only [lkF]
   by_cases h2 : t = e.1
   ·rw [if_pos h2, if_pos h2, if_neg (fun h3 => h (h2.symm.trans h3))]
   ·rw [if_neg h2, if_neg h2, ih]
theorem fnd_app (t : ByteArray) : ∀ (a b : List Ft), lkF t (a ++ b) = (lkF t a).or (lkF t b)
 | [], b => by simp [lkF]
 | e :: r, b => by
  simp only [List.cons_append, lkF]
  split
  ·rfl
  ·exact fnd_app t r b
theorem fnd_map (keep : Int) (t : ByteArray) : ∀ l : List Ft, lkF t (l.map (bootE keep)) = (lkF t l).map fun p => (torB keep p.1 p.2, torB keep p.1 p.2)
 | [] => rfl
 | e :: r => by
  simp only [List.map_cons, lkF]
  show (if t = e.1 then _ else _) = _
  split
  ·rfl
  ·exact fnd_map keep t r
/-- where a file is put -/
theorem insS_true (f : Ft) : ∀ (l o : List Ft), l.foldl (insStep f) (o, true) = (o ++ dropL f.1 l, true)
 | [], o => by simp [dropL]
 | e :: r, o => by
  rw [List.foldl_cons]
  by_cases h : e.1 = f.1
  ·rw [show insStep f (o, true) e = (o, true) from by unfold insStep; rw [if_pos h], insS_true f r o]
   unfold dropL
   rw [List.filter_cons_of_neg (by simp [h])]
  ·rw [show insStep f (o, true) e = (o ++ [e], true) from by unfold insStep; rw [if_neg h]; rfl, insS_true f r (o ++ [e])]
   unfold dropL
   rw [List.filter_cons_of_pos (by simp [h])]
   simp
theorem insS_false (f : Ft) : ∀ (l o : List Ft), (l.foldl (insStep f) (o, false) = (o ++ dropL f.1 l, false) ∧ ∀ e ∈ dropL f.1 l, gtS e.1 f.1 = false) ∨
  ∃ A e B, dropL f.1 l = A ++ e :: B ∧ l.foldl (insStep f) (o, false) = (o ++ A ++ f :: e :: B, true) ∧ gtS e.1 f.1 = true ∧ ∀ e ∈ A, gtS e.1 f.1 = false
 | [], o => .inl ⟨by simp [dropL], by simp [dropL]⟩
 | e :: r, o => by
  rw [List.foldl_cons]
  by_cases h : e.1 = f.1
  ·rw [show insStep f (o, false) e = (o, false) from by unfold insStep; rw [if_pos h]]
   have hd : dropL f.1 (e :: r) = dropL f.1 r := by unfold dropL; rw [List.filter_cons_of_neg (by simp [h])]
   rw [hd]
   exact insS_false f r o
  ·have hd : dropL f.1 (e :: r) = e :: dropL f.1 r := by unfold dropL; rw [List.filter_cons_of_pos (by simp [h])]
   rw [hd]
   cases hg : gtS e.1 f.1 with
   | true =>
    rw [show insStep f (o, false) e = (o ++ [f] ++ [e], true) from by unfold insStep; rw [if_neg h, if_pos (by rw [hg]; rfl)], insS_true]
    exact .inr ⟨[], e, dropL f.1 r, rfl, by simp, hg, by simp⟩
   | false =>
    rw [show insStep f (o, false) e = (o ++ [e], false) from by unfold insStep; rw [if_neg h, if_neg (by rw [hg]; simp)]]
    rcases insS_false f r (o ++ [e]) with ⟨h1, h2⟩ | ⟨A, e', B, h1, h2, h3, h4⟩
    ·refine .inl ⟨by rw [h1]; simp, fun e' he => ?_⟩
     rcases List.mem_cons.1 he with rfl | he
     ·exact hg
     ·exact h2 e' he
    ·refine .inr ⟨e :: A, e', B, by rw [h1]; rfl, by rw [h2]; simp, h3, fun e'' he => ?_⟩
     rcases List.mem_cons.1 he with rfl | he
     ·exact hg
     ·exact h4 e'' he
theorem insL_split (f : Ft) (l : List Ft) : ∃ A B, dropL f.1 l = A ++ B ∧ insL f l = A ++ f :: B ∧ (∀ e ∈ A, gtS e.1 f.1 = false) ∧ (∀ e B', B = e :: B' → gtS e.1 f.1 = true) := by
 unfold insL insS
 rcases insS_false f l [] with ⟨h1, h2⟩ | ⟨A, e, B, h1, h2, h3, h4⟩
 ·rw [h1]
  exact ⟨dropL f.1 l, [], by simp, by simp, h2, fun e B' h => by cases h⟩
 ·rw [h2]
  exact ⟨A, e :: B, h1, by simp, h4, fun e' B' h => by cases h; exact h3⟩
theorem drop_mem {s : ByteArray} {l : List Ft} {e : Ft} (h : e ∈ dropL s l) : e ∈ l ∧ e.1 ≠ s := by
 unfold dropL at h
 simpa using h
theorem mem_insL {f e : Ft} {l : List Ft} (h : e ∈ insL f l) : e = f ∨ e ∈ l := by
 obtain ⟨A, B, h1, h2, _⟩ := insL_split f l
 rw [h2] at h
 have : e = f ∨ e ∈ A ++ B := by
  simp only [List.mem_append, List.mem_cons] at h ⊢
  rcases h with h | h | h
  ·exact .inr (.inl h)
  ·exact .inl h
  ·exact .inr (.inr h)
 rcases this with h | h
 ·exact .inl h
 ·rw [← h1] at h
  exact .inr (drop_mem h).1
theorem fnd_ins (f : Ft) (t : ByteArray) (l : List Ft) : lkF t (insL f l) = if t = f.1 then some f.2 else lkF t l := by
 obtain ⟨A, B, h1, h2, _⟩ := insL_split f l
 have hd := fnd_drop f.1 t l
 rw [h1, fnd_app] at hd
 rw [h2, fnd_app]
 simp only [lkF]
 by_cases h : t = f.1
 ·rw [if_pos h] at hd ⊢
  rw [if_pos h]
  have : lkF t A = none := by
   cases hA : lkF t A with
   | none => rfl
   | some p => rw [hA] at hd; cases hd
  rw [this]
  rfl
 ·rw [if_neg h] at hd ⊢
  rw [if_neg h]
  exact hd
theorem nodup_drop {s : ByteArray} {l : List Ft} (h : (l.map (·.1)).Nodup) : ((dropL s l).map (·.1)).Nodup := h.sublist (List.filter_sublist.map _)
theorem nodup_ins {f : Ft} {l : List Ft} (h : (l.map (·.1)).Nodup) : ((insL f l).map (·.1)).Nodup := by
 obtain ⟨A, B, h1, h2, _⟩ := insL_split f l
 have hd := nodup_drop (s := f.1) h
 have hm : f.1 ∉ (dropL f.1 l).map (·.1) := fun hm => by
  obtain ⟨e, he, h3⟩ := List.mem_map.1 hm
  exact (drop_mem he).2 h3
 rw [h1] at hd hm
 rw [h2]
 have hp : ((A ++ f :: B).map (·.1)).Perm (f.1 :: (A ++ B).map (·.1)) := by
  simp only [List.map_append, List.map_cons]
  exact List.perm_middle
 exact hp.nodup_iff.2 (List.nodup_cons.2 ⟨hm, hd⟩)
theorem Dk.Ok.putR {d : Dk} {n : Nat} (h : d.Ok n) {s x z : ByteArray} (late : Bool) (hs : wordB s = true) (hx : x.size ≤ 262144) (hz : z.size ≤ 262144) : (d.chg (insL (s, x, z) d.l) late).1.Ok (n + 1) := by
 refine h.chg late (nodup_ins h.nodup) (fun e he => ?_) (fun e he => ?_) (Nat.le_trans (insL_len _ _) (Nat.succ_le_succ h.len))
 ·rcases mem_insL he with rfl | he
  ·exact hs
  ·exact h.word e he
 ·rcases mem_insL he with rfl | he
  ·exact ⟨hx, hz⟩
  ·exact h.size e he
theorem Dk.Ok.wrtR {d : Dk} {n : Nat} (h : d.Ok n) (s b : ByteArray) : (d.wrtR s b).1.Ok (n + 1) := by
 unfold Dk.wrtR
 split
 ·exact h.more (Nat.le_succ _)
 ·split
  ·exact h.more (Nat.le_succ _)
  ·split
   ·exact h.more (Nat.le_succ _)
   ·exact h.putR true (by simp_all) (by omega) (getF_size h s).2
theorem Dk.Ok.synR {d : Dk} {n : Nat} (h : d.Ok n) (s : ByteArray) : (d.synR s).1.Ok (n + 1) := by
 unfold Dk.synR
 split
 ·exact h.more (Nat.le_succ _)
 ·split
  ·exact h.more (Nat.le_succ _)
  ·split
   ·exact h.more (Nat.le_succ _)
   ·rename_i p hp
    have := h.size _ (mem_fndF hp)
    exact h.putR false (by simp_all) this.1 this.1
theorem Dk.Ok.renR {d : Dk} {n : Nat} (h : d.Ok n) (s t : ByteArray) : (d.renR s t).1.Ok (n + 1) := by
 unfold Dk.renR
 split
 ·exact h.more (Nat.le_succ _)
 ·split
  ·exact h.more (Nat.le_succ _)
  ·rename_i hw
   split
   ·exact h.more (Nat.le_succ _)
   ·rename_i p hp
    have hz := h.size _ (mem_fndF hp)
    have ht : wordB t = true := by
     cases ht : wordB t with
     | true => rfl
     | false => exact absurd (.inr ht) hw
    refine h.chg false (nodup_ins (nodup_drop h.nodup)) (fun e he => ?_) (fun e he => ?_) (Nat.le_trans (insL_len _ _) (Nat.succ_le_succ (Nat.le_trans (List.length_filter_le _ _) h.len)))
    ·rcases mem_insL he with rfl | he
     ·exact ht
     ·exact h.word e (drop_mem he).1
    ·rcases mem_insL he with rfl | he
     ·exact hz
     ·exact h.size e (drop_mem he).1
theorem Dk.Ok.remR {d : Dk} {n : Nat} (h : d.Ok n) (s : ByteArray) : (d.remR s).1.Ok (n + 1) := by
 unfold Dk.remR
 split
 ·exact h.more (Nat.le_succ _)
 ·split
  ·exact h.more (Nat.le_succ _)
  ·split
   ·exact h.more (Nat.le_succ _)
   ·exact h.chg false (nodup_drop h.nodup) (fun e he => h.word e (drop_mem he).1) (fun e he => h.size e (drop_mem he).1) (Nat.le_succ_of_le (Nat.le_trans (List.length_filter_le _ _) h.len))
/-! ### an act, plainly -/
def doM (a : Ac) (d x : Dk) : Dk × Dk × Bool :=
 if pickI a.k 9 < 2 then ((d.wrt a.nm a.b).1, (x.wrtR a.nm a.b).1, (d.wrt a.nm a.b).2 == (x.wrtR a.nm a.b).2)
 else if pickI a.k 9 = 2 then ((d.app a.nm a.b).1, (x.appR a.nm a.b).1, (d.app a.nm a.b).2 == (x.appR a.nm a.b).2)
 else if pickI a.k 9 < 5 then ((d.syn a.nm).1, (x.synR a.nm).1, (d.syn a.nm).2 == (x.synR a.nm).2)
 else if pickI a.k 9 = 5 then ((d.ren a.nm a.to).1, (x.renR a.nm a.to).1, (d.ren a.nm a.to).2 == (x.renR a.nm a.to).2)
 else if pickI a.k 9 = 6 then ((d.rem a.nm).1, (x.remR a.nm).1, (d.rem a.nm).2 == (x.remR a.nm).2)
 else if pickI a.k 9 = 7 then ((d.fus a.n).1, (x.fus a.n).1, (d.fus a.n).2 == (x.fus a.n).2)
 else (d.bot a.n, x.bot a.n, true)
theorem doM_ok {a : Ac} {d x : Dk} {n m : Nat} (hd : d.Ok n) (hx : x.Ok m) (ha : a.n ≤ 9223372036854775807) : (doM a d x).1.Ok (n + 1) ∧ (doM a d x).2.1.Ok (m + 1) := by
 unfold doM
 repeat' split
 ·exact ⟨hd.wrt _ _, hx.wrtR _ _⟩
 ·exact ⟨hd.wrt _ _, hx.wrtR _ _⟩
 ·exact ⟨hd.syn _, hx.synR _⟩
 ·exact ⟨hd.ren _ _, hx.renR _ _⟩
 ·exact ⟨hd.rem _, hx.remR _⟩
 ·exact ⟨(hd.fus ha).more (Nat.le_succ _), (hx.fus ha).more (Nat.le_succ _)⟩
 ·exact ⟨(hd.bot _).more (Nat.le_succ _), (hx.bot _).more (Nat.le_succ _)⟩
theorem gDo (d x : Dk) {n m : Nat} (okd : d.Ok n) (hn : n < 1000000) (okx : x.Ok m) (hm : m ≤ 1000000) (a : Ac) (hb0 : a.b.size ≤ 2000) : GCall Try.prog gl 11 [db d, dm d, yb x, yr x] [.ptr 0 0, .ptr 2 0, .ag (cAc a)] [db (doM a d x).1, dm (doM a d x).1, yb (doM a d x).2.1, yr (doM a d x).2.1] [boolA (doM a d x).2.2] := by
 have hp := pick_rg a.k 9 (by decide)
 unfold doM
 by_cases h0 : pickI a.k 9 < 2
 ·rw [if_pos h0]
  by_cases h1 : pickI a.k 9 = 0
  ·exact doW0 d x okx hm a hb0 h1
  ·exact doW1 d x okx hm a hb0 (by omega)
 rw [if_neg h0]
 by_cases h2 : pickI a.k 9 = 2
 ·rw [if_pos h2]
  exact do2 d x okd hn okx hm a hb0 h2
 rw [if_neg h2]
 by_cases h3 : pickI a.k 9 < 5
 ·rw [if_pos h3]
  by_cases h4 : pickI a.k 9 = 3
  ·exact do3 d x okd hn okx hm a h4
  ·exact do4 d x okd hn okx hm a (by omega)
 rw [if_neg h3]
 by_cases h5 : pickI a.k 9 = 5
 ·rw [if_pos h5]
  exact do5 d x okd hn okx hm a h5
 rw [if_neg h5]
 by_cases h6 : pickI a.k 9 = 6
 ·rw [if_pos h6]
  exact do6 d x okd hn okx hm a h6
 rw [if_neg h6]
 by_cases h7 : pickI a.k 9 = 7
 ·rw [if_pos h7]
  exact do7 d x a h7
 rw [if_neg h7]
 exact do8 d x okd hn okx hm a (by omega)
end Go.Proofs.Ytndacaemcakmkaa
