/- Contracts of functions of the program, and the laws that stand on them: what each function answers, whatever its arguments. -/
import Derived.Test.YteidfcaciadgpaaDoorWS
set_option linter.unusedSectionVars false
set_option linter.unnecessarySimpa false
namespace Go.Proofs.YteidfcaciadgpaaDoor
set_option linter.unusedSimpArgs false
set_option linter.unusedVariables false
set_option maxRecDepth 100000
set_option maxHeartbeats 8000000
open Go Go.VA
theorem aKyD (k : Ky) (ho : okKy k = true) : ACall Tryd.prog gl 43 [.ag (cKy k)] [] (.c (.sl false 1 (kyL k).length (rB (kyL k)))) := by
  have h := ACall.of_gcall (gKyR k ho)
  have e : (fun j => rB (kyL k) (0 + j)) = rB (kyL k) := by funext j; rw [Nat.zero_add]
  rw [e] at h
  exact h
theorem gInR (i : It) (ho : okIt i = true) (h0 : 0 ≤ i.n) : GCall Tryd.prog gl 24 [] [.ag (cIt i)] [.row 1 (inL i).length (rB (inL i))] [.own 0 1 0 (inL i).length] := by
  have hn := okIt_n ho
  have P1 := gShortRI i.n h0 (by omega)
  have D := aKyD i.y (okIt_y ho).1
  have d := shortL_len i.n.toNat
  have hky := kyL_len (okIt_y ho).1
  have BB : ∀ m : Nat, m ≤ 1000 → m * (tb 5).bytes ≤ 140737488355328 := fun m h => by show m * 1 ≤ _; omega
  have B1 := BB ((shortL i.n.toNat).length + 1) (by omega)
  have B2 := BB ((shortL i.n.toNat).length + 1 + (kyL i.y).length) (by omega)
  refine gcall_of_vcb htb hmix (f := 24) rfl rfl rfl (by kernel_rfl) rfl rfl rfl fun hb hb2 => ?_; simp only [bndOs, bndO, gbnds, AV.gbnd, bnds, C.bnd, true_and, and_true] at hb hb2; conv => whnf
  repeat' (first | (refine Exists.intro _ (And.intro (D) ?_); conv => whnf) | ((with_reducible refine Both.mk ?_ ?_) <;> conv => whnf) | ((with_reducible refine DOr.r ?_); (conv => whnf)) | ((with_reducible refine OwnOr.l ?_); (conv => whnf)) | ((with_reducible apply Drawn.one); conv => whnf) | ((with_reducible refine Then.mk' ?_); conv => whnf) | (first | exact RefS.self rfl | ((with_reducible refine RefS.mk ?_ ?_); (focus (refine And.intro ?_ (And.intro ?_ (And.intro ?_ rfl)) <;> (conv => whnf) <;> repeat' (first | exact trivial | exact LeE.of (Le.refl _) | exact LeE.nil rfl | (with_reducible refine LeE.of ?_) | (first | fail | exact Le.refl _ | exact rfl | exact leI (by first | rfl | omega | (rw [wrap64 (by omega) (by omega)]; omega) | (rw [wrap64 (by omega) (by omega)]; done)) | exact LeCs.refl _ | exact fun i hi => LeCs.refl _ | exact leOwn (by first | rfl | omega)) | ((with_reducible refine And.intro ?_ ?_) <;> conv => whnf)))); exact rfl)) | (refine And.intro ?_ ?_; (focus (first | exact trivial | exact rfl | (first | exact seI | exact B1 | exact B2 | exact B3 | exact seT | exact u64nn _ | assumption) | (refine chainI ?_; (first | (first | exact seI | exact B1 | exact B2 | exact B3 | exact seT | exact u64nn _ | assumption) | decide | omega | (refine And.intro ?_ ?_ <;> first | omega | (simp; omega)) | (simp only [IntKind.wrap_i64]; first | omega | (refine And.intro ?_ ?_ <;> omega)))) | (intro _; (first | (first | exact seI | exact B1 | exact B2 | exact B3 | exact seT | exact u64nn _ | assumption) | decide | omega | (refine And.intro ?_ ?_ <;> first | omega | (simp; omega)) | (simp only [IntKind.wrap_i64]; first | omega | (refine And.intro ?_ ?_ <;> omega)))) | (intro _ _; (first | (first | exact seI | exact B1 | exact B2 | exact B3 | exact seT | exact u64nn _ | assumption) | decide | omega | (refine And.intro ?_ ?_ <;> first | omega | (simp; omega)) | (simp only [IntKind.wrap_i64]; first | omega | (refine And.intro ?_ ?_ <;> omega)))) | (first | decide | omega | (refine And.intro ?_ ?_ <;> first | omega | (simp; omega)) | (simp only [IntKind.wrap_i64]; first | omega | (refine And.intro ?_ ?_ <;> omega))) | ((conv => whnf); intros; (try simp only [decide_eq_true_eq, decide_eq_false_iff_not, Bool.and_eq_true, Bool.or_eq_true, Bool.and_eq_false_imp, Bool.or_eq_false_iff, Bool.not_eq_true', Bool.not_eq_false', beq_iff_eq, bne_iff_ne, ne_eq] at *); (first | (first | exact seI | exact B1 | exact B2 | exact B3 | exact seT | exact u64nn _ | assumption) | decide | omega | (refine And.intro ?_ ?_ <;> first | omega | (simp; omega)) | (simp only [IntKind.wrap_i64]; first | omega | (refine And.intro ?_ ?_ <;> omega)))))); conv => whnf) | ((with_reducible refine xc_guard ?_); (first | (refine xc_g (P1) false (by first | (((conv => whnf); repeat' (first | exact trivial | exact rfl | exact LeC.refl _ | exact LeC.nil rfl | exact LeC.emp rfl | exact LeCs.refl _ | exact (fun i hi => LeCs.refl _) | fail | ((with_reducible refine And.intro ?_ ?_) <;> conv => whnf))); done) | fail) trivial ?_) | (refine xc_g (P1) true (by first | (((conv => whnf); repeat' (first | exact trivial | exact rfl | exact LeC.refl _ | exact LeC.nil rfl | exact LeC.emp rfl | exact LeCs.refl _ | exact (fun i hi => LeCs.refl _) | fail | ((with_reducible refine And.intro ?_ ?_) <;> conv => whnf))); done) | fail) (by first | (((conv => whnf); repeat' (first | exact trivial | exact rfl | fail | (intro i hi; exact ⟨trivial, trivial⟩) | ((with_reducible refine And.intro ?_ ?_) <;> conv => whnf))); done) | fail) ?_)); conv => whnf) | ((with_reducible refine xc_pure ?_); conv => whnf))
  all_goals unfold inL
  all_goals (try ((conv => whnf); repeat' (first | exact trivial | exact rfl | exact LeC.refl _ | exact LeC.nil rfl | exact LeC.emp rfl | exact LeCs.refl _ | exact (fun i hi => LeCs.refl _) | ((with_reducible refine And.intro ?_ ?_) <;> conv => whnf))))
  all_goals first
    | (simp only [List.length_append, List.length_singleton]; done)
    | (simp only [List.length_append, List.length_singleton]; omega)
    | (refine fun i hi => LeCs.of_eq (catRB ?_ (catRB rfl (fun _ _ => rfl) (rB1 _)) (fun _ _ => rfl) i hi) <;> (simp only [List.length_append, List.length_singleton]))
theorem aInD (i : It) (ho : okIt i = true) (h0 : 0 ≤ i.n) : ACall Tryd.prog gl 24 [.ag (cIt i)] [] (.c (.sl false 1 (inL i).length (rB (inL i)))) := by
  have h := ACall.of_gcall (gInR i ho h0)
  have e : (fun j => rB (inL i) (0 + j)) = rB (inL i) := by funext j; rw [Nat.zero_add]
  rw [e] at h
  exact h
theorem gWrapR (L : List Int) (hb : Bys L) (hL : L.length ≤ 1000000) : GCall Tryd.prog gl 23 [] [.c (.v (.string mgB)), .c (.sl false 1 L.length (rB L))] [.row 1 (40 + L.length) (rB (mgL ++ be4L L.length ++ sumL (shaA (baL L)) ++ L))] [.own 0 1 0 (40 + L.length)] := by
  have S : ACall Tryd.prog gl 31 [.c (.sl false 1 L.length (rB L))] [] (.ag (sumC (shaA (baL L)))) := by
    have h := aShaR false (baL L) (by rw [baL_size]; omega)
    refine h.le ⟨leSl (by rw [baL_size]) fun j hj => ?_, trivial⟩
    rw [baL_size] at hj
    exact rB_str hb hj
  have w1 : IntKind.u64.wrap (L.length : Int) = L.length := wrapU (by omega) (by omega)
  have F := aForm L.length 4 (by omega) (by decide)
  rw [← w1] at F
  have BB : ∀ m : Nat, m ≤ 1001000 → m * (tb 5).bytes ≤ 140737488355328 := fun m h => by show m * 1 ≤ _; omega
  have B1 := BB (mgB.size + 4) (by decide)
  have B2 := BB (mgB.size + 4 + 32) (by decide)
  have B3 := BB (mgB.size + 4 + 32 + L.length) (by have : mgB.size = 4 := rfl; omega)
  refine gcall_of_vcb htb hmix (f := 23) rfl rfl rfl (by kernel_rfl) rfl rfl rfl fun hb hb2 => ?_; simp only [bndOs, bndO, gbnds, AV.gbnd, bnds, C.bnd, true_and, and_true] at hb hb2; conv => whnf
  repeat' (first | (refine Exists.intro _ (And.intro (S) ?_); conv => whnf) | (refine Exists.intro _ (And.intro (F) ?_); conv => whnf) | ((with_reducible refine OwnOr.r ?_); (conv => whnf)) | (refine And.intro ?_ ?_; (focus (first | exact trivial | exact rfl | (first | exact seI | exact B1 | exact B2 | exact B3 | exact seT | exact u64nn _ | assumption) | (refine chainI ?_; (first | (first | exact seI | exact B1 | exact B2 | exact B3 | exact seT | exact u64nn _ | assumption) | decide | omega | (refine And.intro ?_ ?_ <;> first | omega | (simp; omega)) | (simp only [IntKind.wrap_i64]; first | omega | (refine And.intro ?_ ?_ <;> omega)))) | (intro _; (first | (first | exact seI | exact B1 | exact B2 | exact B3 | exact seT | exact u64nn _ | assumption) | decide | omega | (refine And.intro ?_ ?_ <;> first | omega | (simp; omega)) | (simp only [IntKind.wrap_i64]; first | omega | (refine And.intro ?_ ?_ <;> omega)))) | (intro _ _; (first | (first | exact seI | exact B1 | exact B2 | exact B3 | exact seT | exact u64nn _ | assumption) | decide | omega | (refine And.intro ?_ ?_ <;> first | omega | (simp; omega)) | (simp only [IntKind.wrap_i64]; first | omega | (refine And.intro ?_ ?_ <;> omega)))) | (first | decide | omega | (refine And.intro ?_ ?_ <;> first | omega | (simp; omega)) | (simp only [IntKind.wrap_i64]; first | omega | (refine And.intro ?_ ?_ <;> omega))) | ((conv => whnf); intros; (try simp only [decide_eq_true_eq, decide_eq_false_iff_not, Bool.and_eq_true, Bool.or_eq_true, Bool.and_eq_false_imp, Bool.or_eq_false_iff, Bool.not_eq_true', Bool.not_eq_false', beq_iff_eq, bne_iff_ne, ne_eq] at *); (first | (first | exact seI | exact B1 | exact B2 | exact B3 | exact seT | exact u64nn _ | assumption) | decide | omega | (refine And.intro ?_ ?_ <;> first | omega | (simp; omega)) | (simp only [IntKind.wrap_i64]; first | omega | (refine And.intro ?_ ?_ <;> omega)))))); conv => whnf) | ((with_reducible refine xc_pure ?_); conv => whnf))
  all_goals (try ((conv => whnf); repeat' (first | exact trivial | exact rfl | exact LeC.refl _ | exact LeC.nil rfl | exact LeC.emp rfl | exact LeCs.refl _ | exact (fun i hi => LeCs.refl _) | ((with_reducible refine And.intro ?_ ?_) <;> conv => whnf))))
  refine fun i hi => LeCs.of_eq (catRB (A := mgL ++ be4L L.length ++ sumL (shaA (baL L))) ?_ (catRB (A := mgL ++ be4L L.length) ?_ (catRB (A := mgL) rfl (fun j hj => ?_) (fun j hj => ?_)) (fun j hj => ?_)) (fun _ _ => rfl) i ?_)
  · rw [List.length_append, List.length_append, be4L_len, sumL_len]; rfl
  · rw [List.length_append, be4L_len]; rfl
  · have hj : j < 4 := hj
    match j, hj with
    | 0, _ => rfl
    | 1, _ => rfl
    | 2, _ => rfl
    | 3, _ => rfl
  · rw [be4L_len] at hj
    exact rB_bytes 4 _ j hj
  · rw [sumL_len] at hj
    show [nthCC (sumC (shaA (baL L))) (0 + j)] = _
    rw [Nat.zero_add, ← arr_sumC, nthCC_arr _ _ _ hj]
    exact rB_bytes 32 _ j hj
  · rw [List.length_append, List.length_append, List.length_append, be4L_len, sumL_len, show mgL.length = 4 from rfl]; omega
theorem gFormR (i : It) (ho : okIt i = true) (h0 : 0 ≤ i.n) : GCall Tryd.prog gl 11 [] [.ag (cIt i)] [.row 1 (fmI i).length (rB (fmI i))] [.own 0 1 0 (fmI i).length] := by
  have hl := inL_len ho
  have D := aInD i ho h0
  have W := gWrapR (inL i) (bys_in ho) (by omega)
  have e : 40 + (inL i).length = (fmI i).length := (fmI_len i).symm
  rw [e] at W
  refine gcall_of_vcb htb hmix (f := 11) rfl rfl rfl (by kernel_rfl) rfl rfl rfl fun hb hb2 => ?_; simp only [bndOs, bndO, gbnds, AV.gbnd, bnds, C.bnd, true_and, and_true] at hb hb2; conv => whnf
  repeat' (first | (refine Exists.intro _ (And.intro (D) ?_); conv => whnf) | (refine And.intro ?_ ?_; (focus (first | exact trivial | exact rfl | (first | exact seI | exact B1 | exact B2 | exact B3 | exact seT | exact u64nn _ | assumption) | (refine chainI ?_; (first | (first | exact seI | exact B1 | exact B2 | exact B3 | exact seT | exact u64nn _ | assumption) | decide | omega | (refine And.intro ?_ ?_ <;> first | omega | (simp; omega)) | (simp only [IntKind.wrap_i64]; first | omega | (refine And.intro ?_ ?_ <;> omega)))) | (intro _; (first | (first | exact seI | exact B1 | exact B2 | exact B3 | exact seT | exact u64nn _ | assumption) | decide | omega | (refine And.intro ?_ ?_ <;> first | omega | (simp; omega)) | (simp only [IntKind.wrap_i64]; first | omega | (refine And.intro ?_ ?_ <;> omega)))) | (intro _ _; (first | (first | exact seI | exact B1 | exact B2 | exact B3 | exact seT | exact u64nn _ | assumption) | decide | omega | (refine And.intro ?_ ?_ <;> first | omega | (simp; omega)) | (simp only [IntKind.wrap_i64]; first | omega | (refine And.intro ?_ ?_ <;> omega)))) | (first | decide | omega | (refine And.intro ?_ ?_ <;> first | omega | (simp; omega)) | (simp only [IntKind.wrap_i64]; first | omega | (refine And.intro ?_ ?_ <;> omega))) | ((conv => whnf); intros; (try simp only [decide_eq_true_eq, decide_eq_false_iff_not, Bool.and_eq_true, Bool.or_eq_true, Bool.and_eq_false_imp, Bool.or_eq_false_iff, Bool.not_eq_true', Bool.not_eq_false', beq_iff_eq, bne_iff_ne, ne_eq] at *); (first | (first | exact seI | exact B1 | exact B2 | exact B3 | exact seT | exact u64nn _ | assumption) | decide | omega | (refine And.intro ?_ ?_ <;> first | omega | (simp; omega)) | (simp only [IntKind.wrap_i64]; first | omega | (refine And.intro ?_ ?_ <;> omega)))))); conv => whnf) | ((with_reducible refine xc_guard ?_); (first | (refine xc_g (W) false (by first | (((conv => whnf); repeat' (first | exact trivial | exact rfl | exact LeC.refl _ | exact LeC.nil rfl | exact LeC.emp rfl | exact LeCs.refl _ | exact (fun i hi => LeCs.refl _) | fail | ((with_reducible refine And.intro ?_ ?_) <;> conv => whnf))); done) | fail) trivial ?_) | (refine xc_g (W) true (by first | (((conv => whnf); repeat' (first | exact trivial | exact rfl | exact LeC.refl _ | exact LeC.nil rfl | exact LeC.emp rfl | exact LeCs.refl _ | exact (fun i hi => LeCs.refl _) | fail | ((with_reducible refine And.intro ?_ ?_) <;> conv => whnf))); done) | fail) (by first | (((conv => whnf); repeat' (first | exact trivial | exact rfl | fail | (intro i hi; exact ⟨trivial, trivial⟩) | ((with_reducible refine And.intro ?_ ?_) <;> conv => whnf))); done) | fail) ?_)); conv => whnf) | ((with_reducible refine xc_pure ?_); conv => whnf))
  all_goals (try ((conv => whnf); repeat' (first | exact trivial | exact rfl | exact LeC.refl _ | exact LeC.nil rfl | exact LeC.emp rfl | exact LeCs.refl _ | exact (fun i hi => LeCs.refl _) | ((with_reducible refine And.intro ?_ ?_) <;> conv => whnf))))
  all_goals trace_state
theorem aFormR (i : It) (ho : okIt i = true) (h0 : 0 ≤ i.n) : ACall Tryd.prog gl 11 [.ag (cIt i)] [] (.c (.sl false 1 (fmI i).length (rB (fmI i)))) := by
  have h := ACall.of_gcall (gFormR i ho h0)
  have e : (fun j => rB (fmI i) (0 + j)) = rB (fmI i) := by funext j; rw [Nat.zero_add]
  rw [e] at h
  exact h
end Go.Proofs.YteidfcaciadgpaaDoor
