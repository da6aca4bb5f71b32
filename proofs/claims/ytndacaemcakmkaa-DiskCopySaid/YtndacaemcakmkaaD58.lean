/- Contracts of functions of the program, and the laws that stand on them: what each function answers, whatever its arguments. -/
import Derived.Test.YtndacaemcakmkaaD55
set_option linter.unusedSectionVars false
set_option linter.unnecessarySimpa false
namespace Go.Proofs.Ytndacaemcakmkaa
set_option linter.unusedSimpArgs false
set_option linter.unusedVariables false
set_option maxRecDepth 100000
set_option maxHeartbeats 8000000
open Go Go.VA Go.RowKit
/-! ### are both the same? -/
theorem rn_app (o : List ByteArray) (s : ByteArray) (g : Nat → List C) (hg : g 0 = [.v (.string s)]) (i : Nat) (hi : i < o.length + 1) : catF 0 o.length (rN o) g i = rN (o ++ [s]) i := by
 unfold catF
 split
 ·rename_i h
  simp only [Nat.zero_add]
  show [C.v (.string (o.getD i mtB))] = [C.v (.string ((o ++ [s]).getD i mtB))]
  rw [List.getD_eq_getElem?_getD, List.getD_eq_getElem?_getD, List.getElem?_append_left h]
 ·rename_i h
  obtain rfl : i = o.length := by omega
  rw [Nat.sub_self, hg]
  show _ = [C.v (.string ((o ++ [s]).getD o.length mtB))]
  simp
theorem gNmsR (x : Dk) (hl : x.l.length ≤ 1000000) : GCall Try.prog gl 37 [x.xb, x.xr] [.ptr 0 0] [x.xb, x.xr] [.c (.sl false 1 x.l.length (rN (x.l.map (·.1))))] := by
 have hB : ∀ k, k ≤ 1000010 → k * (tb 9).bytes ≤ 140737488355328 := fun k hk => by
  show k * 16 ≤ _; omega
 obtain ⟨l, fuse, dead, ops⟩ := x
 have hl : l.length ≤ 1000000 := hl
 refine gcall_of_vcb htb hmix (f := 37) rfl rfl rfl (by kernel_rfl) rfl rfl rfl fun hb hb2 => ?_; simp only [bndOs, bndO, gbnds, AV.gbnd, bnds, C.bnd, true_and, and_true] at hb hb2; conv => whnf
 repeat' (first | ((with_reducible refine NilOr.l ?_); conv => whnf) | fail)
 refine loopI Nat (fun c => c ≤ l.length) (fun c => [(4, intA .i64 c), (3, .own 3 1 0 ((l.take c).map (·.1)).length)]) (fun c => [xB l.length fuse dead ops, xR0 l, .row 1 0 (fun _ => []), .row 1 ((l.take c).map (·.1)).length (rN ((l.take c).map (·.1)))]) (fun c => l.length - c) 0 (Nat.zero_le _) ?_ (fun _ => rfl) fun c hc => ?_
 ·(refine And.intro ?_ (And.intro ?_ (And.intro ?_ rfl)) <;> (conv => whnf) <;> repeat' (first | exact trivial | exact LeE.of (Le.refl _) | (first | exact rfl | exact fun i hi => LeCs.refl _ | fail) | ((with_reducible refine And.intro ?_ ?_) <;> conv => whnf)))
  all_goals exact fun i hi => absurd hi (Nat.not_lt_zero _)
 ·change c ≤ l.length at hc
  have hm : ((l.take c).map (·.1)).length = c := by rw [List.length_map, List.length_take]; omega
  rcases Nat.lt_or_ge c l.length with hcl | hcl
  ·have e : (l.take (c + 1)).map (·.1) = (l.take c).map (·.1) ++ [(fE l c).1] := by
    rw [List.take_add_one, List.getElem?_eq_getElem hcl, List.map_append, ← fE_lt hcl]
    rfl
   obtain ⟨o, ho⟩ : ∃ o, o = (l.take c).map (·.1) := ⟨_, rfl⟩
   rw [← ho] at hm e ⊢
   conv => whnf
   repeat' (first | (refine And.intro (fun h => ?_) (fun h => ?_) <;> (first | (with_reducible have hd : _ < _ := of_decide_eq_true h) | (with_reducible have hd : ¬ (_ < _) := of_decide_eq_false h) | fail) <;> (first | (conv => whnf))) | ((with_reducible refine OwnOr.l ?_); (conv => whnf)) | (refine And.intro ?_ ?_; (focus (first | exact rfl | (first | exact hB _ (by omega) | fail) | (refine chainI ?_; (first | omega | fail)) | (intro _; (first | omega | fail)) | (first | omega | fail) | fail)); conv => whnf) | fail)
   all_goals try (exfalso; omega)
   refine ⟨c + 1, hcl, ?_, by show l.length - (c + 1) < l.length - c; omega⟩
   rw [e]
   (refine And.intro ?_ (And.intro ?_ (And.intro ?_ rfl)) <;> (conv => whnf) <;> repeat' (first | exact trivial | exact LeE.of (Le.refl _) | (with_reducible refine LeE.of ?_) | (first | exact rfl | exact leI (by first | rfl | (rw [wrap64 (by omega) (by omega)]; omega) | fail) | exact fun i hi => LeCs.refl _ | fail) | ((with_reducible refine And.intro ?_ ?_) <;> conv => whnf)))
   all_goals first
    | (simp; done)
    | exact leOwn (by simp)
    | exact fun i hi => LeCs.of_eq (rn_app o (fE l c).1 _ (by show [C.v (.string (fE l (0 + ((c : Nat) : Int).toNat)).1)] = _; rw [zc]) i (by simpa using hi))
  ·obtain rfl : c = l.length := by omega
   rw [List.take_length] at hm ⊢
   conv => whnf
   repeat' (first | (refine And.intro (fun h => ?_) (fun h => ?_) <;> (first | (with_reducible have hd : _ < _ := of_decide_eq_true h) | (with_reducible have hd : ¬ (_ < _) := of_decide_eq_false h) | fail) <;> (first | (conv => whnf))) | ((with_reducible refine OwnOr.l ?_); (conv => whnf)) | (refine And.intro ?_ ?_; (focus (first | exact rfl | (first | exact hB _ (by omega) | fail) | (refine chainI ?_; (first | omega | fail)) | fail)); conv => whnf) | fail)
   all_goals try (exfalso; omega)
   ((conv => whnf); repeat' (first | exact trivial | exact rfl | exact LeC.refl _ | exact (fun i hi => LeCs.refl _) | ((with_reducible refine And.intro ?_ ?_) <;> conv => whnf)))
   all_goals
    have e0 : (fun i => rN (l.map (·.1)) (0 + i)) = rN (l.map (·.1)) := by funext i; rw [Nat.zero_add]
    rw [e0, hm]
    exact fun S u h => h
theorem aSameTexts (t u : Bool) (A : List ByteArray) (hA : A.length ≤ 1000000) : ACall Try.prog gl 36 [.c (.sl t 1 A.length (rN A)), .c (.sl u 1 A.length (rN A))] [] (boolA true) := by
 refine acall_of_vc htb hmix (f := 36) rfl rfl rfl (by kernel_rfl) rfl rfl ?_; conv => whnf
 repeat' (first | (refine And.intro (fun h => ?_) (fun h => ?_) <;> (first | skip) <;> (first | (conv => whnf))) | fail)
 all_goals try (exfalso; simp at h; done)
 refine loopI Nat (fun c => c ≤ A.length) (fun c => [(5, intA .i64 c)]) (fun _ => []) (fun c => A.length - c) 0 (Nat.zero_le _) ?_ (fun _ => rfl) fun c hc => ?_
 ·(refine And.intro ?_ (And.intro ?_ (And.intro ?_ rfl)) <;> (conv => whnf) <;> repeat' (first | exact trivial | exact LeE.of (Le.refl _) | (first | exact rfl | fail) | ((with_reducible refine And.intro ?_ ?_) <;> conv => whnf)))
 ·change c ≤ A.length at hc
  rcases Nat.lt_or_ge c A.length with hcl | hcl
  ·have hK : 0 ≤ (c : Int) ∧ (c : Int) < (A.length : Int) := by omega
   conv => whnf
   repeat' (first | (refine And.intro (fun h => ?_) (fun h => ?_) <;> (first | (with_reducible have hd : _ < _ := of_decide_eq_true h) | (with_reducible have hd : ¬ (_ < _) := of_decide_eq_false h) | skip) <;> (first | (conv => whnf))) | (refine And.intro ?_ ?_; (focus (first | (first | exact hK | fail) | fail)); conv => whnf) | fail)
   all_goals try (exfalso; omega)
   ·exfalso
    simp at h
   ·refine ⟨c + 1, hcl, ?_, by show A.length - (c + 1) < A.length - c; omega⟩
    (refine And.intro ?_ (And.intro ?_ (And.intro ?_ rfl)) <;> (conv => whnf) <;> repeat' (first | exact trivial | exact LeE.of (Le.refl _) | (with_reducible refine LeE.of ?_) | (first | exact rfl | exact leI (by first | rfl | (rw [wrap64 (by omega) (by omega)]; omega) | fail) | fail) | ((with_reducible refine And.intro ?_ ?_) <;> conv => whnf)))
  ·obtain rfl : c = A.length := by omega
   conv => whnf
   repeat' (first | (refine And.intro (fun h => ?_) (fun h => ?_) <;> (first | (with_reducible have hd : _ < _ := of_decide_eq_true h) | (with_reducible have hd : ¬ (_ < _) := of_decide_eq_false h) | skip) <;> (first | (conv => whnf))) | (refine And.intro ?_ ?_; (focus (first | (refine chainI ?_; (first | omega | fail)) | fail)); conv => whnf) | fail)
   all_goals try (exfalso; omega)
   exact Go.VA.leB rfl
theorem gReadR (x : Dk) (s : ByteArray) (p : ByteArray × ByteArray) (hf : lkF s x.l = some p) : GCall Try.prog gl 40 [x.xb, x.xr] [.ptr 0 0, .c (.v (.string s))] [x.xb, x.xr] [.c (oC p.1), intA .i64 0] := by
 obtain ⟨l, fuse, dead, ops⟩ := x
 obtain ⟨k, hk, hf, F⟩ := fnd_w hf fuse ops dead
 have hq : decide ((k : Int) < 0) = false := by simp
 have hk : k < l.length := hk
 have eK : fE l (0 + ((k : Nat) : Int).toNat) = (s, p.1, p.2) := by rw [zc]; exact hf
 have hK : 0 ≤ (k : Int) ∧ (k : Int) < (l.length : Int) := by omega
 refine gcall_of_vcb htb hmix (f := 40) rfl rfl rfl (by kernel_rfl) rfl rfl rfl fun hb hb2 => ?_; simp only [bndOs, bndO, gbnds, AV.gbnd, bnds, C.bnd, true_and, and_true] at hb hb2; conv => whnf
 repeat' (first | (rw [eK]; conv => whnf) | (refine And.intro (fun h => ?_) (fun h => ?_) <;> (first | (with_reducible have hd : _ < _ := of_decide_eq_true h) | (with_reducible have hd : ¬ (_ < _) := of_decide_eq_false h) | fail) <;> (first | (first | exact Bool.noConfusion (hq.symm.trans h) | fail) | (conv => whnf))) | ((with_reducible refine NilOr.l ?_); conv => whnf) | (refine And.intro ?_ ?_; (focus (first | exact rfl | (first | exact hK | fail) | fail)); conv => whnf) | ((with_reducible refine xc_guard ?_); (first | (refine xc_g (F) false (by first | (((conv => whnf); repeat' (first | exact trivial | exact rfl | exact LeC.refl _ | exact (fun i hi => LeCs.refl _) | ((with_reducible refine And.intro ?_ ?_) <;> conv => whnf))); done) | fail) trivial ?_) | fail); conv => whnf) | fail)
 ((conv => whnf); repeat' (first | exact trivial | exact rfl | exact LeC.refl _ | exact (fun i hi => LeCs.refl _) | ((with_reducible refine And.intro ?_ ?_) <;> conv => whnf)))
theorem gSame (d x : Dk) {n m : Nat} (okd : d.Ok n) (hn : n < 1000000) (okx : x.Ok m) (hm : m ≤ 1000000) (R : Rl d x) : GCall Try.prog gl 16 [db d, dm d, yb x, yr x] [.ptr 0 0, .ptr 2 0] [db d, dm d, yb x, yr x] [boolA true] := by
 have hN := nms_eq okd R
 have hlx := Nat.le_trans okx.len hm
 obtain ⟨N, hNN⟩ : ∃ N, N = x.l.map (·.1) := ⟨_, rfl⟩
 have hlN : x.l.length = N.length := by rw [hNN, List.length_map]
 have hld : d.l.length = N.length := (len_eq okd R).trans hlN
 have A1 := gNms d okd hn
 rw [hN, hld, ← hNN] at A1
 have A2 := gNmsR x hlx
 rw [← hNN] at A2
 have e2 : (C.sl false 1 x.l.length (rN N)) = .sl false 1 N.length (rN N) := by rw [hlN]
 rw [e2] at A2
 unfold Dk.xb Dk.xr at A2
 have T := aSameTexts false false N (by omega)
 have D1 := gDead d
 have D2 := gOps d
 have e3 : d.dead = x.dead := R.dead
 have e4 : d.ops = x.ops := R.ops
 rw [e3] at D1
 rw [e4] at D2
 have eD : (!true || !(x.dead == x.dead)) = false := by simp
 have hq : (false || x.ops != x.ops) = false := by simp
 refine gcall_of_vcb htb hmix (f := 16) rfl rfl rfl (by kernel_rfl) rfl rfl rfl fun hb hb2 => ?_; simp only [bndOs, bndO, gbnds, AV.gbnd, bnds, C.bnd, true_and, and_true] at hb hb2; conv => whnf
 repeat' (first | (rw [eD]; conv => whnf) | (refine Exists.intro _ (And.intro (T) ?_); conv => whnf) | (refine And.intro (fun h => ?_) (fun h => ?_) <;> (first | skip) <;> (first | (first | exact Bool.noConfusion (hq.symm.trans h) | fail) | (conv => whnf))) | ((with_reducible refine Both.mk ?_ ?_) <;> conv => whnf) | ((with_reducible refine DOg.r ?_); (conv => whnf)) | ((with_reducible apply Drawn.one); conv => whnf) | ((with_reducible refine Then.mk' ?_); conv => whnf) | (first | exact RefS.self rfl | fail) | (refine And.intro ?_ ?_; (focus (first | exact rfl | fail)); conv => whnf) | ((with_reducible refine xc_guard ?_); (first | (refine xc_g (A1) false (by first | (((conv => whnf); repeat' (first | exact trivial | exact rfl | exact LeC.refl _ | (first | exact LeMs.refl _ | fail) | ((with_reducible refine And.intro ?_ ?_) <;> conv => whnf))); done) | fail) trivial ?_) | fail); conv => whnf) | ((with_reducible refine xc_guard ?_); (first | (refine xc_g (A2) false (by first | (((conv => whnf); repeat' (first | exact trivial | exact rfl | exact LeC.refl _ | exact (fun i hi => LeCs.refl _) | ((with_reducible refine And.intro ?_ ?_) <;> conv => whnf))); done) | fail) trivial ?_) | fail); conv => whnf) | ((with_reducible refine xc_guard ?_); (first | (refine xc_g (D1) false (by first | (((conv => whnf); repeat' (first | exact trivial | exact rfl | exact LeC.refl _ | (first | exact LeMs.refl _ | fail) | ((with_reducible refine And.intro ?_ ?_) <;> conv => whnf))); done) | fail) trivial ?_) | fail); conv => whnf) | ((with_reducible refine xc_guard ?_); (first | (refine xc_g (D2) false (by first | (((conv => whnf); repeat' (first | exact trivial | exact rfl | exact LeC.refl _ | (first | exact LeMs.refl _ | fail) | ((with_reducible refine And.intro ?_ ?_) <;> conv => whnf))); done) | fail) trivial ?_) | fail); conv => whnf) | ((with_reducible refine xc_pure ?_); conv => whnf))
 refine loopI Nat (fun c => c ≤ N.length) (fun c => [(6, intA .i64 c)]) (fun _ => [db d, dm d, yb x, yr x]) (fun c => N.length - c) 0 (Nat.zero_le _) ?_ (fun _ => rfl) fun c hc => ?_
 ·(refine And.intro ?_ (And.intro ?_ (And.intro ?_ rfl)) <;> (conv => whnf) <;> repeat' (first | exact trivial | exact LeE.of (Le.refl _) | (first | exact rfl | exact fun i hi => LeCs.refl _ | fail) | ((with_reducible refine And.intro ?_ ?_) <;> conv => whnf)))
  all_goals first
   | exact LeMs.refl _
   | exact fun i hi => LeCs.refl _
 ·change c ≤ N.length at hc
  rcases Nat.lt_or_ge c N.length with hcl | hcl
  ·have hmem : N.getD c mtB ∈ x.l.map (·.1) := by
    rw [← hNN, List.getD_eq_getElem?_getD, List.getElem?_eq_getElem hcl]
    exact List.getElem_mem hcl
   obtain ⟨p, hp⟩ : ∃ p, lkF (N.getD c mtB) x.l = some p := by
    cases hp : lkF (N.getD c mtB) x.l with
    | none => exact absurd hp (mem_names.1 hmem)
    | some p => exact ⟨p, rfl⟩
   have R1 := tRead d (N.getD c mtB) p (by rw [R.l.lk]; exact hp)
   have R2 := gReadR x (N.getD c mtB) p hp
   unfold Dk.dB Dk.mp at R1
   unfold Dk.xb Dk.xr at R2
   have S := aSameB false false p.1 p.1
   rw [decide_eq_true rfl] at S
   have hK : 0 ≤ (c : Int) ∧ (c : Int) < (N.length : Int) := by omega
   conv => whnf
   repeat' (first | ((with_reducible refine GOr.l ?_); (conv => whnf); refine Exists.intro _ (And.intro (chainI (S)) ?_); conv => whnf) | (refine And.intro (fun h => ?_) (fun h => ?_) <;> (first | (with_reducible have hd : _ < _ := of_decide_eq_true h) | (with_reducible have hd : ¬ (_ < _) := of_decide_eq_false h) | skip) <;> (first | exact absurd h (by decide) | (conv => whnf))) | (refine And.intro ?_ ?_; (focus (first | exact rfl | (first | exact hK | fail) | (intro _; (first | omega | fail)) | (first | omega | fail) | fail)); conv => whnf) | ((with_reducible refine xc_guard ?_); (first | (refine xc_g (R1) false (by first | (((conv => whnf); repeat' (first | exact trivial | exact rfl | exact LeC.refl _ | (first | exact LeMs.refl _ | fail) | ((with_reducible refine And.intro ?_ ?_) <;> conv => whnf))); done) | fail) trivial ?_) | fail); conv => whnf) | ((with_reducible refine xc_guard ?_); (first | (refine xc_g (R2) false (by first | (((conv => whnf); repeat' (first | exact trivial | exact rfl | exact LeC.refl _ | exact (fun i hi => LeCs.refl _) | ((with_reducible refine And.intro ?_ ?_) <;> conv => whnf))); done) | fail) trivial ?_) | fail); conv => whnf) | fail)
   all_goals try (exfalso; omega)
   refine ⟨c + 1, hcl, ?_, by show N.length - (c + 1) < N.length - c; omega⟩
   (refine And.intro ?_ (And.intro ?_ (And.intro ?_ rfl)) <;> (conv => whnf) <;> repeat' (first | exact trivial | exact LeE.of (Le.refl _) | (with_reducible refine LeE.of ?_) | (first | exact rfl | exact leI (by first | rfl | (rw [wrap64 (by omega) (by omega)]; omega) | fail) | exact fun i hi => LeCs.refl _ | fail) | ((with_reducible refine And.intro ?_ ?_) <;> conv => whnf)))
   all_goals first
    | exact LeMs.refl _
    | exact fun i hi => LeCs.refl _
  ·obtain rfl : c = N.length := by omega
   conv => whnf
   repeat' (first | (refine And.intro (fun h => ?_) (fun h => ?_) <;> (first | (with_reducible have hd : _ < _ := of_decide_eq_true h) | (with_reducible have hd : ¬ (_ < _) := of_decide_eq_false h) | fail) <;> (first | (conv => whnf))) | (refine And.intro ?_ ?_; (focus (first | exact rfl | (refine chainI ?_; (first | omega | fail)) | fail)); conv => whnf) | fail)
   all_goals try (exfalso; omega)
   ((conv => whnf); repeat' (first | exact trivial | exact rfl | exact LeC.refl _ | exact (fun i hi => LeCs.refl _) | ((with_reducible refine And.intro ?_ ?_) <;> conv => whnf)))
   all_goals exact LeMs.refl _
end Go.Proofs.Ytndacaemcakmkaa

namespace Go.Proofs.Ytndacaemcakmkaa
set_option linter.unusedSimpArgs false
set_option linter.unusedVariables false
set_option maxRecDepth 100000
set_option maxHeartbeats 8000000
open Go Go.VA Go.RowKit
/-! ### DiskPlays -/
end Go.Proofs.Ytndacaemcakmkaa
