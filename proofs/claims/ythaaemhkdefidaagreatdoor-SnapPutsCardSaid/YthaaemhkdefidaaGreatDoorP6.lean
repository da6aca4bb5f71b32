/- Contracts of functions of the program, and the laws that stand on them: what each function answers, whatever its arguments. -/
import Derived.Test.YthaaemhkdefidaaGreatDoorP5
set_option linter.unusedSectionVars false
set_option linter.unnecessarySimpa false
namespace Go.Proofs.YthaaemhkdefidaaGreatDoor
set_option linter.unusedSimpArgs false
set_option linter.unusedVariables false
set_option maxRecDepth 100000
set_option maxHeartbeats 8000000
open Go Go.VA
/-! ### the document's form -/
theorem gKyR (k : Ky) (ho : okKy k = true) : GCall Tryz.prog gl 70 [] [.ag (cKy k)] [.row 1 (kyL k).length (rB (kyL k))] [.own 0 1 0 (kyL k).length] := by
 obtain ⟨⟨z1, z2, z3, z4, z5, z6, z7⟩, z8⟩ := okKy_le ho
 have a := strL_len k.a.t
 have b := strL_len k.a.n
 have c := strL_len k.a.s
 have d := shortL_len (IntKind.u64.wrap k.a.i).toNat
 have e := shortL_len (IntKind.u64.wrap k.n).toNat
 have P1 := gStrR k.a.t (by omega)
 have D2 := aStrD k.a.n (by omega)
 have D3 := aStrD k.a.s (by omega)
 have S1 := aShortD (IntKind.u64.wrap k.a.i) (u64nn _) (Int.emod_lt_of_pos _ (by decide))
 have S2 := aShortD (IntKind.u64.wrap k.n) (u64nn _) (Int.emod_lt_of_pos _ (by decide))
 have BB : ∀ m : Nat, m ≤ 1000 → m * (tb 5).bytes ≤ 140737488355328 := fun m h => by show m * 1 ≤ _; omega
 have B1 := BB ((strL k.a.t).length + (strL k.a.n).length) (by omega)
 have B2 := BB ((strL k.a.t).length + (strL k.a.n).length + 1) (by omega)
 have B3 := BB ((strL k.a.t).length + (strL k.a.n).length + 1 + (shortL (IntKind.u64.wrap k.a.i).toNat).length) (by omega)
 have B4 := BB ((strL k.a.t).length + (strL k.a.n).length + 1 + (strL k.a.s).length) (by omega)
 have B5 := BB ((strL k.a.t).length + (strL k.a.n).length + 1 + (shortL (IntKind.u64.wrap k.a.i).toNat).length + (shortL (IntKind.u64.wrap k.n).toNat).length) (by omega)
 have B6 := BB ((strL k.a.t).length + (strL k.a.n).length + 1 + (strL k.a.s).length + (shortL (IntKind.u64.wrap k.n).toNat).length) (by omega)
 have B7 := BB ((strL k.a.t).length + (strL k.a.n).length + 1 + (shortL (IntKind.u64.wrap k.n).toNat).length) (by omega)
 refine gcall_of_vcb htb hmix (f := 70) rfl rfl rfl (by kernel_rfl) rfl rfl rfl fun hb hb2 => ?_; simp only [bndOs, bndO, gbnds, AV.gbnd, bnds, C.bnd, true_and, and_true] at hb hb2; conv => whnf
 repeat' (first | (refine Exists.intro _ (And.intro (D2) ?_); conv => whnf) | (refine Exists.intro _ (And.intro (D3) ?_); conv => whnf) | (refine Exists.intro _ (And.intro (S1) ?_); conv => whnf) | (refine Exists.intro _ (And.intro (S2) ?_); conv => whnf) | (refine And.intro (fun h => ?_) (fun h => ?_) <;> (first | skip) <;> (first | (conv => whnf))) | ((with_reducible refine DOr.r ?_); (conv => whnf)) | ((with_reducible refine NilOr.l ?_); conv => whnf) | ((with_reducible refine OwnOr.l ?_); (conv => whnf)) | ((with_reducible apply Drawn.one); conv => whnf) | ((with_reducible refine Then.mk' ?_); conv => whnf) | (first | exact RefS.self rfl | fail) | (refine And.intro ?_ ?_; (focus (first | exact rfl | (first | exact B1 | exact B2 | exact B3 | exact B4 | exact B5 | exact B6 | exact B7 | fail) | ((conv => whnf); intros; (try simp only [decide_eq_true_eq, decide_eq_false_iff_not, Bool.and_eq_true, Bool.or_eq_true, Bool.and_eq_false_imp, Bool.or_eq_false_iff, Bool.not_eq_true', Bool.not_eq_false', beq_iff_eq, bne_iff_ne, ne_eq] at *); (first | omega | fail)))); conv => whnf) | ((with_reducible refine xc_guard ?_); (first | (refine xc_g (P1) false (by first | (((conv => whnf); repeat' (first | exact trivial | exact rfl | exact LeC.refl _ | ((with_reducible refine And.intro ?_ ?_) <;> conv => whnf))); done) | fail) trivial ?_) | fail); conv => whnf) | ((with_reducible refine xc_pure ?_); conv => whnf))
 all_goals first
  | trivial
  | rw [kyL_1 (k := k) (by assumption)]
  | rw [kyL_2 (k := k) (by assumption) (by assumption)]
  | rw [kyL_0 (k := k) (by assumption) (by assumption)]
 all_goals (try ((conv => whnf); repeat' (first | exact trivial | exact rfl | ((with_reducible refine And.intro ?_ ?_) <;> conv => whnf))))
 all_goals first
  | (simp only [List.length_append, List.length_singleton]; done)
  | (simp only [List.length_append, List.length_singleton]; omega)
  | (refine fun i hi => LeCs.of_eq (catRB ?_ (catRB ?_ (catRB ?_ (catRB rfl (fun _ _ => rfl) (fun _ _ => rfl)) (rB1 _)) (fun _ _ => rfl)) (fun _ _ => rfl) i hi) <;> (simp only [List.length_append, List.length_singleton]))
  | (refine fun i hi => LeCs.of_eq (catRB ?_ (catRB ?_ (catRB rfl (fun _ _ => rfl) (fun _ _ => rfl)) (rB1 _)) (fun _ _ => rfl) i hi) <;> (simp only [List.length_append, List.length_singleton]))
theorem aKyD (k : Ky) (ho : okKy k = true) : ACall Tryz.prog gl 70 [.ag (cKy k)] [] (.c (.sl false 1 (kyL k).length (rB (kyL k)))) := by
 have h := ACall.of_gcall (gKyR k ho)
 have e : (fun j => rB (kyL k) (0 + j)) = rB (kyL k) := by funext j; rw [Nat.zero_add]
 rw [e] at h
 exact h
theorem flR_tt : flB true true = IntKind.u8.wrap (1 + 2) := by decide +kernel
theorem flR_tf : flB true false = 1 := by decide +kernel
theorem flR_ft : flB false true = IntKind.u8.wrap (0 + 2) := by decide +kernel
theorem catE0 (A B D : List Int) (x : Int) : ∀ i, i < (A ++ [x] ++ B ++ D).length →
  catF 0 (A.length + 1 + B.length) (catF 0 (A.length + 1) (catF 0 A.length (rB A) (nthC [cBy x])) (rB B)) (rB D) i = rB (A ++ [x] ++ B ++ D) i := by
 intro i hi
 exact catRB (A := A ++ [x] ++ B) (by simp; omega) (catRB (A := A ++ [x]) (by simp) (catRB rfl (fun _ _ => rfl) (rB1 x)) (fun _ _ => rfl)) (fun _ _ => rfl) i hi
attribute [local irreducible] kyL layL shortL
theorem gEntR (e : En) (ho : okEn e = true) (r : RgEn e) : GCall Tryz.prog gl 32 [] [.ag (cEn e)] [.row 1 (enL e).length (rB (enL e))] [.own 0 1 0 (enL e).length] := by
 obtain ⟨h1, h2, h3⟩ := okEn_parts ho
 obtain ⟨h4, h5⟩ := depsB_parts h3
 have hb := check_big h2
 have l1 := kyL_len h1
 have l2 := layL_big e.v
 have l3 := shortL_len e.d.length
 have wl : IntKind.u64.wrap (e.d.length : Int) = e.d.length := wrapU (by omega) (by omega)
 have K := gKyR e.y h1
 have V := aFormV e.v h2 r.v false false
 have D := aShortD (IntKind.u64.wrap (e.d.length : Int)) (by rw [wl]; omega) (by rw [wl]; omega)
 have BB : ∀ m : Nat, m ≤ 10000000 → m * (tb 5).bytes ≤ 140737488355328 := fun m h => by show m * 1 ≤ _; omega
 have B1 := BB ((kyL e.y).length + 1) (by omega)
 have B2 := BB ((kyL e.y).length + 1 + (layL e.v).length) (by omega)
 have B3 := BB ((kyL e.y).length + 1 + (layL e.v).length + (shortL (IntKind.u64.wrap (e.d.length : Int)).toNat).length) (by rw [wl, Int.toNat_natCast]; omega)
 have e0 : enH e 0 = kyL e.y ++ [flB e.t e.u] ++ layL e.v ++ shortL e.d.length := by unfold enH depsL; simp
 have el0 : (enH e 0).length = (kyL e.y).length + 1 + (layL e.v).length + (shortL e.d.length).length := by rw [e0]; simp only [List.length_append, List.length_singleton]
 cases ht : e.t <;> cases hu : e.u
 all_goals
  have hfl := congr (congrArg flB ht) hu
  first | rw [flR_tt] at hfl | rw [flR_tf] at hfl | rw [flR_ft] at hfl | rw [flB_ff] at hfl
  refine gcall_of_vcb htb hmix (f := 32) rfl rfl rfl (by kernel_rfl) rfl rfl rfl fun hb hb2 => ?_; simp only [bndOs, bndO, gbnds, AV.gbnd, bnds, C.bnd, true_and, and_true] at hb hb2; conv => whnf
  repeat' (first | (refine Exists.intro _ (And.intro (V) ?_); conv => whnf) | (refine Exists.intro _ (And.intro (D) ?_); conv => whnf) | (refine And.intro (fun h => ?_) (fun h => ?_) <;> (first | skip) <;> (first | (first | exact Bool.noConfusion (ht.symm.trans h) | exact Bool.noConfusion (hu.symm.trans h) | fail) | (conv => whnf))) | ((with_reducible refine NilOr.l ?_); conv => whnf) | ((with_reducible refine OwnOr.l ?_); (conv => whnf)) | (refine And.intro ?_ ?_; (focus (first | (first | exact B1 | exact B2 | exact B3 | fail) | fail)); conv => whnf) | ((with_reducible refine xc_guard ?_); (first | (refine xc_g (K) false (by first | (((conv => whnf); repeat' (first | exact trivial | exact rfl | exact LeC.refl _ | ((with_reducible refine And.intro ?_ ?_) <;> conv => whnf))); done) | fail) trivial ?_) | fail); conv => whnf) | ((with_reducible refine xc_pure ?_); conv => whnf))
  refine loopI Nat (fun c => c ≤ e.d.length) (fun c => [(5, intA .i64 c), (3, .own 2 1 0 (enH e c).length)]) (fun c => [.box ((cEn e).map .c), .row (tb 5).sz 0 (fun _ => []), .row 1 (enH e c).length (rB (enH e c))]) (fun c => e.d.length - c) 0 (Nat.zero_le _) ?_ (fun _ => rfl) fun c (hc : c ≤ e.d.length) => ?_
  ·simp only [wl, Int.toNat_natCast]
   (refine And.intro ?_ (And.intro ?_ (And.intro ?_ rfl)) <;> (conv => whnf) <;> repeat' (first | exact trivial | exact LeE.of (Le.refl _) | (with_reducible refine LeE.of ?_) | (first | exact rfl | exact fun i hi => LeCs.refl _ | exact leOwn (by first | rfl | omega)) | ((with_reducible refine And.intro ?_ ?_) <;> conv => whnf)))
   all_goals first
    | omega
    | exact leOwn (by omega)
    | exact fun i hi => LeCs.of_eq (by rw [e0, hfl]; rw [e0, hfl] at hi; exact catE0 _ _ _ _ i hi)
  ·by_cases hcl : c < e.d.length
   ·have hC : (0 : Int) ≤ (c : Int) ∧ (c : Int) < (e.d.length : Int) := by omega
    have hlen := enH_len ho c hc
    have hk := kyA_ok (h5 c hcl)
    have hkl := kyL_len hk
    have D2 := aKyD (kyA (e.d.getD c ad0)) hk
    have B4 := BB ((enH e c).length + (kyL (kyA (e.d.getD c ad0))).length) (by omega)
    have es := enH_succ hcl
    have el := congrArg List.length es
    rw [List.length_append] at el
    conv => whnf
    repeat' (first | (refine Exists.intro _ (And.intro (D2) ?_); conv => whnf) | (refine And.intro (fun h => ?_) (fun h => ?_) <;> (first | (with_reducible have hd : _ < _ := of_decide_eq_true h) | (with_reducible have hd : ¬ (_ < _) := of_decide_eq_false h) | fail) <;> (first | (first | omega) | (conv => whnf))) | (refine And.intro ?_ ?_; (focus (first | (first | exact B4 | exact hC | fail) | fail)); conv => whnf) | ((with_reducible refine xc_pure ?_); conv => whnf))
    refine ⟨c + 1, hcl, ?_, by omega⟩
    (refine And.intro ?_ (And.intro ?_ (And.intro ?_ rfl)) <;> (conv => whnf) <;> repeat' (first | exact trivial | exact LeE.of (Le.refl _) | (with_reducible refine LeE.of ?_) | (first | exact rfl | exact leI (by first | rfl | (rw [wrap64 (by omega) (by omega)]; omega) | fail) | exact fun i hi => LeCs.refl _ | exact leOwn (by first | rfl | omega)) | ((with_reducible refine And.intro ?_ ?_) <;> conv => whnf)))
    all_goals first
     | omega
     | exact leOwn (by omega)
     | exact fun i hi => LeCs.of_eq (by rw [es]; exact catRB rfl (fun _ _ => rfl) (fun _ _ => rfl) i (by rw [es] at hi; exact hi))
   ·obtain rfl : c = e.d.length := by omega
    conv => whnf
    repeat' (first | (refine And.intro (fun h => ?_) (fun h => ?_) <;> (first | (with_reducible have hd : _ < _ := of_decide_eq_true h) | (with_reducible have hd : ¬ (_ < _) := of_decide_eq_false h) | fail) <;> (first | (first | omega) | (conv => whnf))) | (refine And.intro ?_ ?_; (focus (first | exact rfl | fail)); conv => whnf) | fail)
    ((conv => whnf); repeat' (first | exact trivial | exact rfl | exact (fun i hi => LeCs.refl _) | ((with_reducible refine And.intro ?_ ?_) <;> conv => whnf)))
theorem aEntD (e : En) (ho : okEn e = true) (r : RgEn e) : ACall Tryz.prog gl 32 [.ag (cEn e)] [] (.c (.sl false 1 (enL e).length (rB (enL e)))) := by
 have h := ACall.of_gcall (gEntR e ho r)
 have e' : (fun j => rB (enL e) (0 + j)) = rB (enL e) := by funext j; rw [Nat.zero_add]
 rw [e'] at h
 exact h
theorem rg_at {s : St} (r : RgSt s) {c : Nat} (hc : c < s.l.length) : RgEn (s.l.getD c en0) := by
 rw [List.getD_eq_getElem?_getD, List.getElem?_eq_getElem hc]
 exact r.l _ (List.getElem_mem hc)
theorem enL_len {e : En} (h : okEn e = true) : (enL e).length ≤ 2003000 := enH_len h _ (Nat.le_refl _)
attribute [local irreducible] enL
theorem gInR (s : St) (ho : okSt s = true) (r : RgSt s) : GCall Tryz.prog gl 17 [] [.ag (cSt s)] [.row 1 (inS s).length (rB (inS s))] [.own 0 1 0 (inS s).length] := by
 obtain ⟨h1, h2, h3⟩ := okSt_parts ho
 have a0 := r.a0
 have a1 := r.a1
 have s0 := r.s0
 have la := shortL_len s.a.toNat
 have lb := shortL_len s.s.toNat
 have ld := shortL_len s.l.length
 have wl : IntKind.u64.wrap (s.l.length : Int) = s.l.length := wrapU (by omega) (by omega)
 have K := gShortRI s.a a0 a1
 have D1 := aShortD s.s s0 (by omega)
 have D2 := aShortD (IntKind.u64.wrap (s.l.length : Int)) (by rw [wl]; omega) (by rw [wl]; omega)
 have BB : ∀ m : Nat, m ≤ 1000000000 → m * (tb 5).bytes ≤ 140737488355328 := fun m h => by show m * 1 ≤ _; omega
 have B1 := BB ((shortL s.a.toNat).length + (shortL s.s.toNat).length) (by omega)
 have B2 := BB ((shortL s.a.toNat).length + (shortL s.s.toNat).length + (shortL (IntKind.u64.wrap (s.l.length : Int)).toNat).length) (by rw [wl, Int.toNat_natCast]; omega)
 have e0 : inH s 0 = shortL s.a.toNat ++ shortL s.s.toNat ++ shortL s.l.length := by unfold inH ensL; simp
 have el0 : (inH s 0).length = (shortL s.a.toNat).length + (shortL s.s.toNat).length + (shortL s.l.length).length := by rw [e0]; simp only [List.length_append]
 refine gcall_of_vcb htb hmix (f := 17) rfl rfl rfl (by kernel_rfl) rfl rfl rfl fun hb hb2 => ?_; simp only [bndOs, bndO, gbnds, AV.gbnd, bnds, C.bnd, true_and, and_true] at hb hb2; conv => whnf
 repeat' (first | (refine Exists.intro _ (And.intro (D1) ?_); conv => whnf) | (refine Exists.intro _ (And.intro (D2) ?_); conv => whnf) | ((with_reducible refine DOr.r ?_); (conv => whnf)) | ((with_reducible refine NilOr.l ?_); conv => whnf) | ((with_reducible apply Drawn.one); conv => whnf) | ((with_reducible refine Then.mk' ?_); conv => whnf) | (first | exact RefS.self rfl | fail) | (refine And.intro ?_ ?_; (focus (first | exact rfl | (first | exact B1 | exact B2 | fail) | fail)); conv => whnf) | ((with_reducible refine xc_guard ?_); (first | (refine xc_g (K) false (by first | (((conv => whnf); repeat' (first | exact trivial | exact rfl | exact LeC.refl _ | ((with_reducible refine And.intro ?_ ?_) <;> conv => whnf))); done) | fail) trivial ?_) | fail); conv => whnf) | ((with_reducible refine xc_pure ?_); conv => whnf))
 refine loopI Nat (fun c => c ≤ s.l.length) (fun c => [(4, intA .i64 c), (3, .own 2 1 0 (inH s c).length)]) (fun c => [.box ((cSt s).map .c), .row (tb 5).sz 0 (fun _ => []), .row 1 (inH s c).length (rB (inH s c))]) (fun c => s.l.length - c) 0 (Nat.zero_le _) ?_ (fun _ => rfl) fun c (hc : c ≤ s.l.length) => ?_
 ·simp only [wl, Int.toNat_natCast]
  (refine And.intro ?_ (And.intro ?_ (And.intro ?_ rfl)) <;> (conv => whnf) <;> repeat' (first | exact trivial | exact LeE.of (Le.refl _) | (with_reducible refine LeE.of ?_) | (first | exact rfl | exact fun i hi => LeCs.refl _ | exact leOwn (by first | rfl | omega)) | ((with_reducible refine And.intro ?_ ?_) <;> conv => whnf)))
  all_goals first
   | omega
   | exact leOwn (by omega)
   | exact fun i hi => LeCs.of_eq (by rw [e0]; rw [e0] at hi; exact catRB (by rw [List.length_append]) (catRB rfl (fun _ _ => rfl) (fun _ _ => rfl)) (fun _ _ => rfl) i hi)
 ·by_cases hcl : c < s.l.length
  ·have hC : (0 : Int) ≤ (c : Int) ∧ (c : Int) < (s.l.length : Int) := by omega
   have hlen := inH_len ho c hc
   have hel := enL_len (h3 c hcl)
   have D3 := aEntD (s.l.getD c en0) (h3 c hcl) (rg_at r hcl)
   have B3 := BB ((inH s c).length + (enL (s.l.getD c en0)).length) (by omega)
   have es := inH_succ hcl
   have el := congrArg List.length es
   rw [List.length_append] at el
   conv => whnf
   repeat' (first | (refine Exists.intro _ (And.intro (D3) ?_); conv => whnf) | (refine And.intro (fun h => ?_) (fun h => ?_) <;> (first | (with_reducible have hd : _ < _ := of_decide_eq_true h) | (with_reducible have hd : ¬ (_ < _) := of_decide_eq_false h) | fail) <;> (first | (first | omega) | (conv => whnf))) | (refine And.intro ?_ ?_; (focus (first | (first | exact B3 | exact hC | fail) | fail)); conv => whnf) | ((with_reducible refine xc_pure ?_); conv => whnf))
   refine ⟨c + 1, hcl, ?_, by omega⟩
   (refine And.intro ?_ (And.intro ?_ (And.intro ?_ rfl)) <;> (conv => whnf) <;> repeat' (first | exact trivial | exact LeE.of (Le.refl _) | (with_reducible refine LeE.of ?_) | (first | exact rfl | exact leI (by first | rfl | (rw [wrap64 (by omega) (by omega)]; omega) | fail) | exact fun i hi => LeCs.refl _ | exact leOwn (by first | rfl | omega)) | ((with_reducible refine And.intro ?_ ?_) <;> conv => whnf)))
   all_goals first
    | omega
    | exact leOwn (by omega)
    | exact fun i hi => LeCs.of_eq (by rw [es]; exact catRB rfl (fun _ _ => rfl) (fun _ _ => rfl) i (by rw [es] at hi; exact hi))
  ·obtain rfl : c = s.l.length := by omega
   conv => whnf
   repeat' (first | (refine And.intro (fun h => ?_) (fun h => ?_) <;> (first | (with_reducible have hd : _ < _ := of_decide_eq_true h) | (with_reducible have hd : ¬ (_ < _) := of_decide_eq_false h) | fail) <;> (first | (first | omega) | (conv => whnf))) | (refine And.intro ?_ ?_; (focus (first | exact rfl | fail)); conv => whnf) | fail)
   ((conv => whnf); repeat' (first | exact trivial | exact rfl | exact (fun i hi => LeCs.refl _) | ((with_reducible refine And.intro ?_ ?_) <;> conv => whnf)))
theorem aInD (s : St) (ho : okSt s = true) (r : RgSt s) : ACall Tryz.prog gl 17 [.ag (cSt s)] [] (.c (.sl false 1 (inS s).length (rB (inS s)))) := by
 have h := ACall.of_gcall (gInR s ho r)
 have e' : (fun j => rB (inS s) (0 + j)) = rB (inS s) := by funext j; rw [Nat.zero_add]
 rw [e'] at h
 exact h
theorem aFormS (s : St) (ho : okSt s = true) (r : RgSt s) : ACall Tryz.prog gl 15 [.ag (cSt s)] [] (.c (.sl false 1 (fmS s).length (rB (fmS s)))) := by
 have C := aCheckSR s (fun e he => (r.l e he).y0)
 rw [ho] at C
 have D := aInD s ho r
 have hlen := inH_len ho s.l.length (Nat.le_refl _)
 have W := ACall.of_gcall (gWrapG mgS rfl false (inS s) (rB (inS s)) (fun _ _ => rfl) (bys_inH ho r _ (Nat.le_refl _)) (by unfold inS; omega))
 have e' : (fun j => rB (wrapL (bytesL mgS) (inS s)) (0 + j)) = rB (fmS s) := by funext j; rw [Nat.zero_add]; rfl
 rw [e'] at W
 refine acall_of_vc htb hmix (f := 15) rfl rfl rfl (by kernel_rfl) rfl rfl ?_; conv => whnf
 repeat' (first | (refine Exists.intro _ (And.intro (C) ?_); conv => whnf) | (refine Exists.intro _ (And.intro (D) ?_); conv => whnf) | (refine Exists.intro _ (And.intro (W) ?_); conv => whnf) | (refine And.intro (fun h => ?_) (fun h => ?_) <;> (first | skip) <;> (first | exact absurd h (by decide) | (conv => whnf))) | ((with_reducible refine NilOr.l ?_); conv => whnf) | ((with_reducible refine xc_pure ?_); conv => whnf))
 exact Le.refl _
theorem aFormSNo (s : St) (ho : okSt s = false) (hy : ∀ e ∈ s.l, 0 ≤ e.y.n) : ACall Tryz.prog gl 15 [.ag (cSt s)] [] (.c (.v (.slice none 0 0))) := by
 have C := aCheckSR s hy
 rw [ho] at C
 refine acall_of_vc htb hmix (f := 15) rfl rfl rfl (by kernel_rfl) rfl rfl ?_; conv => whnf
 repeat' (first | (refine Exists.intro _ (And.intro (C) ?_); conv => whnf) | (refine And.intro (fun h => ?_) (fun h => ?_) <;> (first | skip) <;> (first | exact absurd h (by decide) | (conv => whnf))) | ((with_reducible refine NilOr.r ?_); conv => whnf) | ((with_reducible refine xc_pure ?_); conv => whnf))
 exact Le.refl _
end Go.Proofs.YthaaemhkdefidaaGreatDoor
