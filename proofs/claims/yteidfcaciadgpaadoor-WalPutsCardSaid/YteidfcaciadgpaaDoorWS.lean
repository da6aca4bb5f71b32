/- Contracts of functions of the program, and the laws that stand on them: what each function answers, whatever its arguments. -/
import Derived.Test.YteidfcaciadgpaaDoorWR
set_option linter.unusedSectionVars false
set_option linter.unnecessarySimpa false
namespace Go.Proofs.YteidfcaciadgpaaDoor
set_option linter.unusedSimpArgs false
set_option linter.unusedVariables false
set_option maxRecDepth 100000
set_option maxHeartbeats 8000000
open Go Go.VA
theorem aShortD (k : Int) (h0 : 0 ≤ k) (hk : k < 18446744073709551616) : ACall Tryd.prog gl 42 [intA .u64 k] [] (.c (.sl false 1 (shortL k.toNat).length (rB (shortL k.toNat)))) := by
  have h := ACall.of_gcall (gShortRI k h0 hk)
  have e : (fun j => rB (shortL k.toNat) (0 + j)) = rB (shortL k.toNat) := by funext j; rw [Nat.zero_add]
  rw [e] at h
  exact h
theorem aStrD (s : ByteArray) (hs : s.size ≤ 100000) : ACall Tryd.prog gl 58 [.c (.v (.string s))] [] (.c (.sl false 1 (strL s).length (rB (strL s)))) := by
  have h := ACall.of_gcall (gStrR s hs)
  have e : (fun j => rB (strL s) (0 + j)) = rB (strL s) := by funext j; rw [Nat.zero_add]
  rw [e] at h
  exact h
theorem catRB {A B : List Int} {m : Nat} {F g : Nat → List C} (hm : m = A.length) (hF : ∀ j, j < A.length → F j = rB A j) (hg : ∀ j, j < B.length → g j = rB B j) : ∀ i, i < (A ++ B).length → catF 0 m F g i = rB (A ++ B) i := by
  intro i hi
  rw [List.length_append] at hi
  subst hm
  unfold catF
  by_cases h : i < A.length
  · rw [if_pos h, Nat.zero_add, hF i h]
    show cBy (A.getD i 0) = cBy ((A ++ B).getD i 0)
    rw [List.getD_eq_getElem?_getD, List.getD_eq_getElem?_getD, List.getElem?_append_left h]
  · rw [if_neg h, hg _ (by omega)]
    show cBy (B.getD _ 0) = cBy ((A ++ B).getD i 0)
    rw [List.getD_eq_getElem?_getD, List.getD_eq_getElem?_getD, List.getElem?_append_right (by omega)]
theorem gKyR (k : Ky) (ho : okKy k = true) : GCall Tryd.prog gl 43 [] [.ag (cKy k)] [.row 1 (kyL k).length (rB (kyL k))] [.own 0 1 0 (kyL k).length] := by
  obtain ⟨⟨z1, z2, z3, z4, z5, z6, z7⟩, z8⟩ := okKy_le ho
  have a := strL_len k.a.t
  have b := strL_len k.a.n
  have c := strL_len k.a.s
  have d := shortL_len (IntKind.u64.wrap k.a.i).toNat
  have e := shortL_len (IntKind.u64.wrap k.n).toNat
  have P1 := gStrR k.a.t (by omega)
  have D2 := aStrD k.a.n (by omega)
  have D3 := aStrD k.a.s (by omega)
  have S1 := aShortD (IntKind.u64.wrap k.a.i) (u64nn _) (Int.emod_lt_of_pos _ (by decide))
  have S2 := aShortD (IntKind.u64.wrap k.n) (u64nn _) (Int.emod_lt_of_pos _ (by decide))
  have BB : ∀ m : Nat, m ≤ 1000 → m * (tb 5).bytes ≤ 140737488355328 := fun m h => by show m * 1 ≤ _; omega
  have B1 := BB ((strL k.a.t).length + (strL k.a.n).length) (by omega)
  have B2 := BB ((strL k.a.t).length + (strL k.a.n).length + 1) (by omega)
  have B3 := BB ((strL k.a.t).length + (strL k.a.n).length + 1 + (shortL (IntKind.u64.wrap k.a.i).toNat).length) (by omega)
  have B4 := BB ((strL k.a.t).length + (strL k.a.n).length + 1 + (strL k.a.s).length) (by omega)
  have B5 := BB ((strL k.a.t).length + (strL k.a.n).length + 1 + (shortL (IntKind.u64.wrap k.a.i).toNat).length + (shortL (IntKind.u64.wrap k.n).toNat).length) (by omega)
  have B6 := BB ((strL k.a.t).length + (strL k.a.n).length + 1 + (strL k.a.s).length + (shortL (IntKind.u64.wrap k.n).toNat).length) (by omega)
  have B7 := BB ((strL k.a.t).length + (strL k.a.n).length + 1 + (shortL (IntKind.u64.wrap k.n).toNat).length) (by omega)
  refine gcall_of_vcb htb hmix (f := 43) rfl rfl rfl (by kernel_rfl) rfl rfl rfl fun hb hb2 => ?_; simp only [bndOs, bndO, gbnds, AV.gbnd, bnds, C.bnd, true_and, and_true] at hb hb2; conv => whnf
  repeat' (first | (refine Exists.intro _ (And.intro (D2) ?_); conv => whnf) | (refine Exists.intro _ (And.intro (D3) ?_); conv => whnf) | (refine Exists.intro _ (And.intro (S1) ?_); conv => whnf) | (refine Exists.intro _ (And.intro (S2) ?_); conv => whnf) | (refine And.intro (fun h => ?_) (fun h => ?_) <;> (first | (with_reducible have hd : _ < _ := of_decide_eq_true h) | (with_reducible have hd : _ ≤ _ := of_decide_eq_true h) | (with_reducible have hd : ¬ (_ < _) := of_decide_eq_false h) | (with_reducible have hd : ¬ (_ ≤ _) := of_decide_eq_false h) | skip) <;> (first | exact absurd h (by decide) | omega | (conv => whnf))) | ((with_reducible refine DOr.r ?_); (conv => whnf)) | ((with_reducible refine OwnOr.l ?_); (conv => whnf)) | ((with_reducible apply Drawn.one); conv => whnf) | ((with_reducible refine Then.mk' ?_); conv => whnf) | (first | exact RefS.self rfl | ((with_reducible refine RefS.mk ?_ ?_); (focus (refine And.intro ?_ (And.intro ?_ (And.intro ?_ rfl)) <;> (conv => whnf) <;> repeat' (first | exact trivial | exact LeE.of (Le.refl _) | exact LeE.nil rfl | (with_reducible refine LeE.of ?_) | (first | fail | exact Le.refl _ | exact rfl | exact leI (by first | rfl | omega | (rw [wrap64 (by omega) (by omega)]; omega) | (rw [wrap64 (by omega) (by omega)]; done)) | exact LeCs.refl _ | exact fun i hi => LeCs.refl _ | exact leOwn (by first | rfl | omega)) | ((with_reducible refine And.intro ?_ ?_) <;> conv => whnf)))); exact rfl)) | (refine And.intro ?_ ?_; (focus (first | exact trivial | exact rfl | (first | exact seI | exact B1 | exact B2 | exact B3 | exact B4 | exact B5 | exact B6 | exact B7 | exact seT | exact u64nn _ | assumption) | (refine chainI ?_; (first | (first | exact seI | exact B1 | exact B2 | exact B3 | exact B4 | exact B5 | exact B6 | exact B7 | exact seT | exact u64nn _ | assumption) | decide | omega | (refine And.intro ?_ ?_ <;> first | omega | (simp; omega)) | (simp only [IntKind.wrap_i64]; first | omega | (refine And.intro ?_ ?_ <;> omega)))) | (intro _; (first | (first | exact seI | exact B1 | exact B2 | exact B3 | exact B4 | exact B5 | exact B6 | exact B7 | exact seT | exact u64nn _ | assumption) | decide | omega | (refine And.intro ?_ ?_ <;> first | omega | (simp; omega)) | (simp only [IntKind.wrap_i64]; first | omega | (refine And.intro ?_ ?_ <;> omega)))) | (intro _ _; (first | (first | exact seI | exact B1 | exact B2 | exact B3 | exact B4 | exact B5 | exact B6 | exact B7 | exact seT | exact u64nn _ | assumption) | decide | omega | (refine And.intro ?_ ?_ <;> first | omega | (simp; omega)) | (simp only [IntKind.wrap_i64]; first | omega | (refine And.intro ?_ ?_ <;> omega)))) | (first | decide | omega | (refine And.intro ?_ ?_ <;> first | omega | (simp; omega)) | (simp only [IntKind.wrap_i64]; first | omega | (refine And.intro ?_ ?_ <;> omega))) | ((conv => whnf); intros; (try simp only [decide_eq_true_eq, decide_eq_false_iff_not, Bool.and_eq_true, Bool.or_eq_true, Bool.and_eq_false_imp, Bool.or_eq_false_iff, Bool.not_eq_true', Bool.not_eq_false', beq_iff_eq, bne_iff_ne, ne_eq] at *); (first | (first | exact seI | exact B1 | exact B2 | exact B3 | exact B4 | exact B5 | exact B6 | exact B7 | exact seT | exact u64nn _ | assumption) | decide | omega | (refine And.intro ?_ ?_ <;> first | omega | (simp; omega)) | (simp only [IntKind.wrap_i64]; first | omega | (refine And.intro ?_ ?_ <;> omega)))))); conv => whnf) | ((with_reducible refine xc_guard ?_); (first | (refine xc_g (P1) false (by first | (((conv => whnf); repeat' (first | exact trivial | exact rfl | exact LeC.refl _ | exact LeC.nil rfl | exact LeC.emp rfl | exact LeCs.refl _ | exact (fun i hi => LeCs.refl _) | fail | ((with_reducible refine And.intro ?_ ?_) <;> conv => whnf))); done) | fail) trivial ?_) | (refine xc_g (P1) true (by first | (((conv => whnf); repeat' (first | exact trivial | exact rfl | exact LeC.refl _ | exact LeC.nil rfl | exact LeC.emp rfl | exact LeCs.refl _ | exact (fun i hi => LeCs.refl _) | fail | ((with_reducible refine And.intro ?_ ?_) <;> conv => whnf))); done) | fail) (by first | (((conv => whnf); repeat' (first | exact trivial | exact rfl | fail | (intro i hi; exact ⟨trivial, trivial⟩) | ((with_reducible refine And.intro ?_ ?_) <;> conv => whnf))); done) | fail) ?_)); conv => whnf) | ((with_reducible refine xc_pure ?_); conv => whnf))
  all_goals first
    | trivial
    | rw [kyL_1 (k := k) (by assumption)]
    | rw [kyL_2 (k := k) (by assumption) (by assumption)]
    | rw [kyL_0 (k := k) (by assumption) (by assumption)]
  all_goals (try ((conv => whnf); repeat' (first | exact trivial | exact rfl | exact LeC.refl _ | exact LeC.nil rfl | exact LeC.emp rfl | exact LeCs.refl _ | exact (fun i hi => LeCs.refl _) | ((with_reducible refine And.intro ?_ ?_) <;> conv => whnf))))
  all_goals first
    | (simp only [List.length_append, List.length_singleton]; done)
    | (simp only [List.length_append, List.length_singleton]; omega)
    | (refine fun i hi => LeCs.of_eq (catRB ?_ (catRB ?_ (catRB ?_ (catRB rfl (fun _ _ => rfl) (fun _ _ => rfl)) (rB1 _)) (fun _ _ => rfl)) (fun _ _ => rfl) i hi) <;> (simp only [List.length_append, List.length_singleton]))
    | (refine fun i hi => LeCs.of_eq (catRB ?_ (catRB ?_ (catRB rfl (fun _ _ => rfl) (fun _ _ => rfl)) (rB1 _)) (fun _ _ => rfl) i hi) <;> (simp only [List.length_append, List.length_singleton]))
end Go.Proofs.YteidfcaciadgpaaDoor
