/- Contracts of functions of the program, and the laws that stand on them: what each function answers, whatever its arguments. -/
import Derived.Test.YteidfcaciadgpaaDoorWV
set_option linter.unusedSectionVars false
set_option linter.unnecessarySimpa false
namespace Go.Proofs.YteidfcaciadgpaaDoor
set_option linter.unusedSimpArgs false
set_option linter.unusedVariables false
set_option maxRecDepth 100000
set_option maxHeartbeats 8000000
open Go Go.VA
theorem NoTag.tup3 {a b c : AV} (ha : NoTag a) (hb : NoTag b) (hc : NoTag c) : NoTag (.tup [a, b, c]) := ⟨fun B S S' u hF hu => by
  simp only [RelV, RelVs] at hu ⊢
  obtain ⟨vs, e, u1, r1, e1, h1, u2, r2, e2, h2, u3, r3, e3, h3, e4⟩ := hu
  exact ⟨vs, e, u1, r1, e1, ha.h _ _ _ _ hF h1, u2, r2, e2, hb.h _ _ _ _ hF h2, u3, r3, e3, hc.h _ _ _ _ hF h3, e4⟩⟩
theorem putsGood (x : It) (a b c : Int) (r : Bool) (hc : c = if r then 0 else 1) : (true && eqIt x x && (a == a) && (b == b) && ((c == 0) == r) && ((c == 0) || (c == 1))) = true := by
  subst hc
  rw [eqIt_self]
  cases r <;> simp
theorem aWalPuts (t : Bool) (s : ByteArray) (i : It) (rg : RgIt i) : ACall Tryd.prog gl 3 [.c (.sl t 1 s.size (strCells s)), .ag (cIt i)] [] (boolA true) := by
  have GR := aGreatI i
  by_cases hs : ((s.size : Int) > 1000 ∨ greatI i = true)
  · refine acall_of_vc htb hmix (f := 3) rfl rfl rfl (by kernel_rfl) rfl rfl ?_; conv => whnf
    repeat' (first | ((with_reducible refine GOr.l ?_); (conv => whnf); refine Exists.intro _ (And.intro (chainI (GR)) ?_); conv => whnf) | (refine Exists.intro _ (And.intro (aAwakeW) ?_); conv => whnf) | (refine And.intro (fun h => ?_) (fun h => ?_) <;> (first | (with_reducible have hd : _ < _ := of_decide_eq_true h) | (with_reducible have hd : _ ≤ _ := of_decide_eq_true h) | (with_reducible have hd : ¬ (_ < _) := of_decide_eq_false h) | (with_reducible have hd : ¬ (_ ≤ _) := of_decide_eq_false h) | skip) <;> (first | exact absurd h (by decide) | omega | (conv => whnf))) | ((with_reducible refine xc_pure ?_); conv => whnf))
    · exact leB rfl
    · exfalso
      simp only [Bool.or_eq_false_iff, decide_eq_false_iff_not] at h
      rcases hs with hs | hs
      · exact h.1 hs
      · rw [h.2] at hs; exact absurd hs (by decide)
  · have h1 : s.size ≤ 1000 := by omega
    have h2 : greatI i = false := by
      cases h : greatI i
      · rfl
      · exact absurd (.inr h) hs
    rw [h2] at GR
    have K := gKept t s (by omega)
    have L := gLent t s (by omega)
    have KR := aCheckIR i rg.y0
    have CK := aCheckI i
    have el : ∀ j, j < s.size → lentF s (0 + j) = strCells s j := fun j hj => by unfold lentF; rw [if_pos (by omega), Nat.zero_add]
    have G1 : ACall Tryd.prog gl 12 [.c (.sl true 1 s.size (fun j => lentF s (0 + j)))] [] (.tup [.ag (cIt (wGet s).1), intA .i64 (wGet s).2.1, intA .i64 (wGet s).2.2]) := (aWGet true s).le ⟨leSl rfl el, trivial⟩
    have G2 := aRGet19 t s
    rw [rW_eq (by omega)] at G2
    have ntG : NoTag (.tup [.ag (cIt (wGet s).1), intA .i64 (wGet s).2.1, intA .i64 (wGet s).2.2]) := NoTag.tup3 (NoTag.of_scalar rfl) NoTag.int NoTag.int
    by_cases ho : okIt i = true
    · have hl := inL_len ho
      have hf := fmI_len i
      rw [ho] at KR CK
      have F := aFormR i ho rg.n0
      have P := ACall.of_gcall (gWPut true s.size (fun j => lentF s (0 + j)) i (by omega) ho rg.n0)
      have ntP : NoTag (.c (.sl false 1 (s.size + (fmI i).length) (fun j => catF 0 s.size (fun j => lentF s (0 + j)) (rB (fmI i)) (0 + j)))) := NoTag.cc ⟨rfl, fun j hj => by
        show NtCs (catF 0 s.size (fun j => lentF s (0 + j)) (rB (fmI i)) (0 + j))
        unfold catF lentF
        by_cases h1 : 0 + j < s.size
        · rw [if_pos h1]
          show NtCs (if _ then _ else _)
          rw [if_pos (by omega)]
          exact ⟨trivial, trivial⟩
        · rw [if_neg h1]; exact ⟨trivial, trivial⟩⟩
      have S0 := aSameX false true (s.size + (fmI i).length) (0 + s.size + (fmI i).length) (fun j => catF 0 s.size (fun j => lentF s (0 + j)) (rB (fmI i)) (0 + j)) (fun j => catF 0 (0 + s.size) (catF 0 0 (nthC []) (strCells s)) (rB (fmI i)) (0 + j))
        (fun j => if j < s.size then byteN s j else (fmI i).getD (j - s.size) 0) (fun j => if j < s.size then byteN s j else (fmI i).getD (j - s.size) 0) (fun j hj => by
          show catF 0 s.size (fun j => lentF s (0 + j)) (rB (fmI i)) (0 + j) = _
          unfold catF
          rw [Nat.zero_add]
          by_cases h : j < s.size
          · rw [if_pos h, if_pos h]; show lentF s (0 + (0 + j)) = _; rw [Nat.zero_add j]; exact el j h
          · rw [if_neg h, if_neg h]; rfl) (fun j hj => by
          show catF 0 (0 + s.size) (catF 0 0 (nthC []) (strCells s)) (rB (fmI i)) (0 + j) = _
          unfold catF
          rw [Nat.zero_add, Nat.zero_add]
          by_cases h : j < s.size
          · rw [if_pos h, if_pos h, if_neg (Nat.not_lt_zero _), Nat.zero_add, Nat.sub_zero]; rfl
          · rw [if_neg h, if_neg h]; rfl)
      have es : sameF (s.size + (fmI i).length) (0 + s.size + (fmI i).length) (fun j => if j < s.size then byteN s j else (fmI i).getD (j - s.size) 0) (fun j => if j < s.size then byteN s j else (fmI i).getD (j - s.size) 0) = true := by
        unfold sameF; rw [decide_eq_true_eq]; exact ⟨by omega, fun _ _ => rfl⟩
      rw [es] at S0
      have B1 : (0 + s.size) * (tb 5).bytes ≤ 140737488355328 := by show _ * 1 ≤ _; omega
      have B2 : (0 + s.size + (fmI i).length) * (tb 5).bytes ≤ 140737488355328 := by show _ * 1 ≤ _; omega
      refine acall_of_vc htb hmix (f := 3) rfl rfl rfl (by kernel_rfl) rfl rfl ?_; conv => whnf
      repeat' (first | ((with_reducible refine GOr.l ?_); (conv => whnf); refine Exists.intro _ (And.intro (chainI (GR)) ?_); conv => whnf) | (refine Exists.intro _ (And.intro (KR) ?_); conv => whnf) | ((with_reducible refine GOr.l ?_); (conv => whnf); refine Exists.intro _ (And.intro (chainI (KR)) ?_); conv => whnf) | (refine Exists.intro _ (And.intro (CK) ?_); conv => whnf) | (refine Exists.intro _ (And.intro (F) ?_); conv => whnf) | (refine Exists.intro _ (And.intro (G1) ?_); conv => whnf) | (refine Exists.intro _ (And.intro (G2) ?_); conv => whnf) | (refine Exists.intro _ (And.intro (P) ?_); conv => whnf) | (refine Exists.intro _ (And.intro (S0) ?_); conv => whnf) | (refine Exists.intro _ (And.intro (aAwakeW) ?_); conv => whnf) | ((with_reducible refine GOr.l ?_); (conv => whnf); refine Exists.intro _ (And.intro (chainI (aAwakeW)) ?_); conv => whnf) | (refine And.intro (fun h => ?_) (fun h => ?_) <;> (first | (with_reducible have hd : _ < _ := of_decide_eq_true h) | (with_reducible have hd : _ ≤ _ := of_decide_eq_true h) | (with_reducible have hd : ¬ (_ < _) := of_decide_eq_false h) | (with_reducible have hd : ¬ (_ ≤ _) := of_decide_eq_false h) | skip) <;> (first | exact absurd h (by decide) | omega | (conv => whnf))) | ((with_reducible refine OwnOr.r (A := frzPs _ _ _ (fun _ _ => opBuildSlice _ _ 0 _ _)) ?_); (conv => whnf)) | (refine And.intro ?_ ?_; (focus (first | exact trivial | exact rfl | (first | exact seI | exact B1 | exact B2 | exact ntP | exact ntG | exact seT | exact u64nn _ | assumption) | (refine chainI ?_; (first | (first | exact seI | exact B1 | exact B2 | exact ntP | exact ntG | exact seT | exact u64nn _ | assumption) | decide | omega | (refine And.intro ?_ ?_ <;> first | omega | (simp; omega)) | (simp only [IntKind.wrap_i64]; first | omega | (refine And.intro ?_ ?_ <;> omega)))) | (intro _; (first | (first | exact seI | exact B1 | exact B2 | exact ntP | exact ntG | exact seT | exact u64nn _ | assumption) | decide | omega | (refine And.intro ?_ ?_ <;> first | omega | (simp; omega)) | (simp only [IntKind.wrap_i64]; first | omega | (refine And.intro ?_ ?_ <;> omega)))) | (intro _ _; (first | (first | exact seI | exact B1 | exact B2 | exact ntP | exact ntG | exact seT | exact u64nn _ | assumption) | decide | omega | (refine And.intro ?_ ?_ <;> first | omega | (simp; omega)) | (simp only [IntKind.wrap_i64]; first | omega | (refine And.intro ?_ ?_ <;> omega)))) | (first | decide | omega | (refine And.intro ?_ ?_ <;> first | omega | (simp; omega)) | (simp only [IntKind.wrap_i64]; first | omega | (refine And.intro ?_ ?_ <;> omega))) | ((conv => whnf); intros; (try simp only [decide_eq_true_eq, decide_eq_false_iff_not, Bool.and_eq_true, Bool.or_eq_true, Bool.and_eq_false_imp, Bool.or_eq_false_iff, Bool.not_eq_true', Bool.not_eq_false', beq_iff_eq, bne_iff_ne, ne_eq] at *); (first | (first | exact seI | exact B1 | exact B2 | exact ntP | exact ntG | exact seT | exact u64nn _ | assumption) | decide | omega | (refine And.intro ?_ ?_ <;> first | omega | (simp; omega)) | (simp only [IntKind.wrap_i64]; first | omega | (refine And.intro ?_ ?_ <;> omega)))))); conv => whnf) | (refine And.intro ?_ ?_; (focus (first | exact NoTag.int | exact NoTag.bool | exact NoTag.str | (refine NoTag.of_scalar ?_; rfl))); conv => whnf) | ((with_reducible refine xc_guard ?_); (first | (refine xc_g (L) false (by first | (((conv => whnf); repeat' (first | exact trivial | exact rfl | exact LeC.refl _ | exact LeC.nil rfl | exact LeC.emp rfl | exact LeCs.refl _ | exact (fun i hi => LeCs.refl _) | fail | ((with_reducible refine And.intro ?_ ?_) <;> conv => whnf))); done) | fail) trivial ?_) | (refine xc_g (L) true (by first | (((conv => whnf); repeat' (first | exact trivial | exact rfl | exact LeC.refl _ | exact LeC.nil rfl | exact LeC.emp rfl | exact LeCs.refl _ | exact (fun i hi => LeCs.refl _) | fail | ((with_reducible refine And.intro ?_ ?_) <;> conv => whnf))); done) | fail) (by first | (((conv => whnf); repeat' (first | exact trivial | exact rfl | (first | exact ntL | exact ntShift ntL) | (intro i hi; exact ⟨trivial, trivial⟩) | ((with_reducible refine And.intro ?_ ?_) <;> conv => whnf))); done) | fail) ?_)); conv => whnf) | ((with_reducible refine xc_guard ?_); (first | (refine xc_g (K) false (by first | (((conv => whnf); repeat' (first | exact trivial | exact rfl | exact LeC.refl _ | exact LeC.nil rfl | exact LeC.emp rfl | exact LeCs.refl _ | exact (fun i hi => LeCs.refl _) | fail | ((with_reducible refine And.intro ?_ ?_) <;> conv => whnf))); done) | fail) trivial ?_) | (refine xc_g (K) true (by first | (((conv => whnf); repeat' (first | exact trivial | exact rfl | exact LeC.refl _ | exact LeC.nil rfl | exact LeC.emp rfl | exact LeCs.refl _ | exact (fun i hi => LeCs.refl _) | fail | ((with_reducible refine And.intro ?_ ?_) <;> conv => whnf))); done) | fail) (by first | (((conv => whnf); repeat' (first | exact trivial | exact rfl | (first | exact ntL | exact ntShift ntL) | (intro i hi; exact ⟨trivial, trivial⟩) | ((with_reducible refine And.intro ?_ ?_) <;> conv => whnf))); done) | fail) ?_)); conv => whnf) | ((with_reducible refine GOr.r ?_); conv => whnf) | ((with_reducible refine xc_pure ?_); conv => whnf))
      · exact absurd h (by rw [Bool.or_false]; simp; omega)
      · refine leB ?_
        have g := putsGood (wGet s).1 (wGet s).2.1 (wGet s).2.2 0 true rfl
        show (_ && true && true) = true
        rw [Bool.and_true, Bool.and_true]
        exact g
      · have g := putsGood (wGet s).1 (wGet s).2.1 (wGet s).2.2 0 true rfl
        rename_i h
        exact tnt (g.symm.trans h)
    · have ho : okIt i = false := by simpa using ho
      rw [ho] at KR CK
      have P := ACall.of_gcall (gWPutNo true s.size (fun j => lentF s (0 + j)) i (fun j hj => by
        unfold lentF
        rw [if_pos (by omega)]
        exact ⟨trivial, trivial⟩) (by omega) ho)
      have ntP : NoTag (.c (.sl false 1 s.size (fun j => lentF s (0 + (0 + j))))) := NoTag.cc ⟨rfl, fun j hj => by
        show NtCs (lentF s (0 + (0 + j)))
        unfold lentF
        rw [if_pos (by omega)]
        exact ⟨trivial, trivial⟩⟩
      have S0 := aSameX false true s.size (0 + s.size) (fun j => lentF s (0 + (0 + j))) (fun j => catF 0 0 (nthC []) (strCells s) (0 + j)) (byteN s) (byteN s) (fun j hj => by
          show lentF s (0 + (0 + j)) = _
          rw [Nat.zero_add]; exact el j hj) (fun j hj => by
          show catF 0 0 (nthC []) (strCells s) (0 + j) = _
          unfold catF
          rw [if_neg (Nat.not_lt_zero _), Nat.zero_add, Nat.sub_zero]; rfl)
      have es : sameF s.size (0 + s.size) (byteN s) (byteN s) = true := by
        unfold sameF; rw [decide_eq_true_eq]; exact ⟨by omega, fun _ _ => rfl⟩
      rw [es] at S0
      have B1 : (0 + s.size) * (tb 5).bytes ≤ 140737488355328 := by show _ * 1 ≤ _; omega
      refine acall_of_vc htb hmix (f := 3) rfl rfl rfl (by kernel_rfl) rfl rfl ?_; conv => whnf
      repeat' (first | ((with_reducible refine GOr.l ?_); (conv => whnf); refine Exists.intro _ (And.intro (chainI (GR)) ?_); conv => whnf) | (refine Exists.intro _ (And.intro (KR) ?_); conv => whnf) | ((with_reducible refine GOr.l ?_); (conv => whnf); refine Exists.intro _ (And.intro (chainI (KR)) ?_); conv => whnf) | (refine Exists.intro _ (And.intro (CK) ?_); conv => whnf) | (refine Exists.intro _ (And.intro (G1) ?_); conv => whnf) | (refine Exists.intro _ (And.intro (G2) ?_); conv => whnf) | (refine Exists.intro _ (And.intro (P) ?_); conv => whnf) | (refine Exists.intro _ (And.intro (S0) ?_); conv => whnf) | (refine Exists.intro _ (And.intro (aAwakeW) ?_); conv => whnf) | ((with_reducible refine GOr.l ?_); (conv => whnf); refine Exists.intro _ (And.intro (chainI (aAwakeW)) ?_); conv => whnf) | (refine And.intro (fun h => ?_) (fun h => ?_) <;> (first | (with_reducible have hd : _ < _ := of_decide_eq_true h) | (with_reducible have hd : _ ≤ _ := of_decide_eq_true h) | (with_reducible have hd : ¬ (_ < _) := of_decide_eq_false h) | (with_reducible have hd : ¬ (_ ≤ _) := of_decide_eq_false h) | skip) <;> (first | exact absurd h (by decide) | omega | (conv => whnf))) | ((with_reducible refine OwnOr.r (A := frzPs _ _ _ (fun _ _ => opBuildSlice _ _ 0 _ _)) ?_); (conv => whnf)) | (refine And.intro ?_ ?_; (focus (first | exact trivial | exact rfl | (first | exact seI | exact B1 | exact B2 | exact ntP | exact ntG | exact seT | exact u64nn _ | assumption) | (refine chainI ?_; (first | (first | exact seI | exact B1 | exact B2 | exact ntP | exact ntG | exact seT | exact u64nn _ | assumption) | decide | omega | (refine And.intro ?_ ?_ <;> first | omega | (simp; omega)) | (simp only [IntKind.wrap_i64]; first | omega | (refine And.intro ?_ ?_ <;> omega)))) | (intro _; (first | (first | exact seI | exact B1 | exact B2 | exact ntP | exact ntG | exact seT | exact u64nn _ | assumption) | decide | omega | (refine And.intro ?_ ?_ <;> first | omega | (simp; omega)) | (simp only [IntKind.wrap_i64]; first | omega | (refine And.intro ?_ ?_ <;> omega)))) | (intro _ _; (first | (first | exact seI | exact B1 | exact B2 | exact ntP | exact ntG | exact seT | exact u64nn _ | assumption) | decide | omega | (refine And.intro ?_ ?_ <;> first | omega | (simp; omega)) | (simp only [IntKind.wrap_i64]; first | omega | (refine And.intro ?_ ?_ <;> omega)))) | (first | decide | omega | (refine And.intro ?_ ?_ <;> first | omega | (simp; omega)) | (simp only [IntKind.wrap_i64]; first | omega | (refine And.intro ?_ ?_ <;> omega))) | ((conv => whnf); intros; (try simp only [decide_eq_true_eq, decide_eq_false_iff_not, Bool.and_eq_true, Bool.or_eq_true, Bool.and_eq_false_imp, Bool.or_eq_false_iff, Bool.not_eq_true', Bool.not_eq_false', beq_iff_eq, bne_iff_ne, ne_eq] at *); (first | (first | exact seI | exact B1 | exact B2 | exact ntP | exact ntG | exact seT | exact u64nn _ | assumption) | decide | omega | (refine And.intro ?_ ?_ <;> first | omega | (simp; omega)) | (simp only [IntKind.wrap_i64]; first | omega | (refine And.intro ?_ ?_ <;> omega)))))); conv => whnf) | (refine And.intro ?_ ?_; (focus (first | exact NoTag.int | exact NoTag.bool | exact NoTag.str | (refine NoTag.of_scalar ?_; rfl))); conv => whnf) | ((with_reducible refine xc_guard ?_); (first | (refine xc_g (L) false (by first | (((conv => whnf); repeat' (first | exact trivial | exact rfl | exact LeC.refl _ | exact LeC.nil rfl | exact LeC.emp rfl | exact LeCs.refl _ | exact (fun i hi => LeCs.refl _) | fail | ((with_reducible refine And.intro ?_ ?_) <;> conv => whnf))); done) | fail) trivial ?_) | (refine xc_g (L) true (by first | (((conv => whnf); repeat' (first | exact trivial | exact rfl | exact LeC.refl _ | exact LeC.nil rfl | exact LeC.emp rfl | exact LeCs.refl _ | exact (fun i hi => LeCs.refl _) | fail | ((with_reducible refine And.intro ?_ ?_) <;> conv => whnf))); done) | fail) (by first | (((conv => whnf); repeat' (first | exact trivial | exact rfl | (first | exact ntL | exact ntShift ntL) | (intro i hi; exact ⟨trivial, trivial⟩) | ((with_reducible refine And.intro ?_ ?_) <;> conv => whnf))); done) | fail) ?_)); conv => whnf) | ((with_reducible refine xc_guard ?_); (first | (refine xc_g (K) false (by first | (((conv => whnf); repeat' (first | exact trivial | exact rfl | exact LeC.refl _ | exact LeC.nil rfl | exact LeC.emp rfl | exact LeCs.refl _ | exact (fun i hi => LeCs.refl _) | fail | ((with_reducible refine And.intro ?_ ?_) <;> conv => whnf))); done) | fail) trivial ?_) | (refine xc_g (K) true (by first | (((conv => whnf); repeat' (first | exact trivial | exact rfl | exact LeC.refl _ | exact LeC.nil rfl | exact LeC.emp rfl | exact LeCs.refl _ | exact (fun i hi => LeCs.refl _) | fail | ((with_reducible refine And.intro ?_ ?_) <;> conv => whnf))); done) | fail) (by first | (((conv => whnf); repeat' (first | exact trivial | exact rfl | (first | exact ntL | exact ntShift ntL) | (intro i hi; exact ⟨trivial, trivial⟩) | ((with_reducible refine And.intro ?_ ?_) <;> conv => whnf))); done) | fail) ?_)); conv => whnf) | ((with_reducible refine GOr.r ?_); conv => whnf) | ((with_reducible refine xc_pure ?_); conv => whnf))
      · exact absurd h (by rw [Bool.or_false]; simp; omega)
      · refine leB ?_
        have g := putsGood (wGet s).1 (wGet s).2.1 (wGet s).2.2 1 false rfl
        show (_ && true && true) = true
        rw [Bool.and_true, Bool.and_true]
        exact g
      · have g := putsGood (wGet s).1 (wGet s).2.1 (wGet s).2.2 1 false rfl
        rename_i h
        exact tnt (g.symm.trans h)
end Go.Proofs.YteidfcaciadgpaaDoor
