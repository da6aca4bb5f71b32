/- Contracts of functions of the program, and the laws that stand on them: what each function answers, whatever its arguments. -/
import Derived.Test.YteidfcaciadgpaaDoorS6
set_option linter.unusedSectionVars false
set_option linter.unnecessarySimpa false
namespace Go.Proofs.YteidfcaciadgpaaDoor
set_option linter.unusedSimpArgs false
set_option linter.unusedVariables false
set_option maxRecDepth 100000
set_option maxHeartbeats 8000000
open Go Go.VA
theorem w64 (x : W) : IntKind.u64.wrap (wI x) = ((x.toNat : Nat) : Int) := by
  rw [wI_def]
  show ((x.toNat : Nat) : Int) % 18446744073709551616 = _
  have := x.isLt
  omega
theorem wlt (x : W) : x.toNat < 2 ^ 64 := Nat.lt_trans x.isLt (by decide)
noncomputable abbrev arr8 (h : Nat → W) : List C := arrC (fun i => cw (h i)) 8
theorem arr8_eq (h : Nat → W) : arr8 h = cW8 h := by rw [arr8, arrC_def]; rfl
theorem aThroughA (t : Bool) (h : Nat → W) (b : Nat → UInt8) : ACall Tryd.prog gl 59 [.ag (arrC (fun i => cw (h i)) 8), .c (.sl t 1 64 (byF b))] [] (.ag (arrC (fun i => cw (thr h b i)) 8)) := by
  show ACall Tryd.prog gl 59 [.ag (arr8 h), .c (.sl t 1 64 (byF b))] [] (.ag (arr8 (thr h b)))
  rw [arr8_eq, arr8_eq]; exact aThrough t h b
theorem ntArr8 (h : Nat → W) : NoTag (.ag (arr8 h)) := NoTag.of_scalar (by show allScalar (arr8 h) = true; exact allScalar_arr fun _ => rfl)
theorem z32 : boxC (tb 59).zero = List.map AV.c (arrC (fun _ => cb 0) 32) := by rw [arrC_def]; rfl
theorem aPut4 (k : Nat) (hk : k < 2 ^ 64) : ACall Tryd.prog gl 39 [.c (.v (.slice none 0 0)), intA .u64 k, intA .i64 4] [] (.c (.sl false 1 4 (byF (putB k 4)))) := by
  have h := ACall.of_gcall (gNPut false 0 (fun _ => []) k 4 hk (by decide) (by decide) (by decide))
  have e : (fun i => catF 0 0 (fun _ => []) (byF (putB k 4)) (0 + i)) = byF (putB k 4) := by funext i; simp [catF]
  rw [e] at h
  refine h.leA fun B S us hu => ?_
  simp only [RelVs] at hu ⊢
  obtain ⟨u, r, e1, h1, h2⟩ := hu
  refine ⟨u, r, e1, ?_, h2⟩
  simp only [RelV, RepC] at h1 ⊢
  exact ⟨none, 0, h1.1, ⟨Nat.le_refl _, by decide⟩, .inl trivial⟩
theorem aWSum (m b : Nat → UInt8) (n : Nat) (hb : ∀ i, i < n % 64 → b i = m (64 * (n / 64) + i)) (hn : n ≤ 140737488355328) :
    ACall Tryd.prog gl 46 [.sp true [cw (thrs bT m (n / 64) 0), cw (thrs bT m (n / 64) 1), cw (thrs bT m (n / 64) 2), cw (thrs bT m (n / 64) 3), cw (thrs bT m (n / 64) 4), cw (thrs bT m (n / 64) 5), cw (thrs bT m (n / 64) 6), cw (thrs bT m (n / 64) 7), .v (.int .u64 (n : Int)), .sl true 1 (n % 64) (byF b)] 0] [] (.ag (sumC (shaB m n))) := by
  refine acall_of_vc htb hmix (f := 46) rfl rfl rfl (by kernel_rfl) rfl rfl ?_; conv => whnf
  have B1 : (n % 64) * (tb 5).bytes ≤ 140737488355328 := by show (n % 64) * 1 ≤ _; omega
  have B2 : n % 64 < 64 → (n % 64 + 1) * (tb 5).bytes ≤ 140737488355328 := fun _ => by show (n % 64 + 1) * 1 ≤ _; omega
  repeat' (first | (refine And.intro (fun h => ?_) (fun h => ?_) <;> (first | (with_reducible have hd : _ < _ := of_decide_eq_true h) | (with_reducible have hd : _ ≤ _ := of_decide_eq_true h) | (with_reducible have hd : ¬ (_ < _) := of_decide_eq_false h) | (with_reducible have hd : ¬ (_ ≤ _) := of_decide_eq_false h) | skip) <;> conv => whnf) | ((with_reducible refine OwnOr.l ?_); (conv => whnf)) | (refine And.intro ?_ ?_; (focus (first | exact trivial | exact rfl | (first | exact Bc (by omega) | exact seT | exact u64nnS _ | exact chainI (u64nnS _) | exact B1 | exact B2 (by omega) | exact chainI (B2 (by omega)) | exact B3 (by omega) | assumption) | (refine chainI ?_; (first | (first | exact Bc (by omega) | exact seT | exact u64nnS _ | exact chainI (u64nnS _) | exact B1 | exact B2 (by omega) | exact chainI (B2 (by omega)) | exact B3 (by omega) | assumption) | decide | omega | (refine And.intro ?_ ?_ <;> first | omega | (simp; omega)) | (simp only [IntKind.wrap_i64]; first | omega | (refine And.intro ?_ ?_ <;> omega)))) | (intro _; (first | (first | exact Bc (by omega) | exact seT | exact u64nnS _ | exact chainI (u64nnS _) | exact B1 | exact B2 (by omega) | exact chainI (B2 (by omega)) | exact B3 (by omega) | assumption) | decide | omega | (refine And.intro ?_ ?_ <;> first | omega | (simp; omega)) | (simp only [IntKind.wrap_i64]; first | omega | (refine And.intro ?_ ?_ <;> omega)))) | (intro _ _; (first | (first | exact Bc (by omega) | exact seT | exact u64nnS _ | exact chainI (u64nnS _) | exact B1 | exact B2 (by omega) | exact chainI (B2 (by omega)) | exact B3 (by omega) | assumption) | decide | omega | (refine And.intro ?_ ?_ <;> first | omega | (simp; omega)) | (simp only [IntKind.wrap_i64]; first | omega | (refine And.intro ?_ ?_ <;> omega)))) | (first | decide | omega | (refine And.intro ?_ ?_ <;> first | omega | (simp; omega)) | (simp only [IntKind.wrap_i64]; first | omega | (refine And.intro ?_ ?_ <;> omega))) | ((conv => whnf); intros; (try simp only [decide_eq_true_eq, decide_eq_false_iff_not, Bool.and_eq_true, Bool.or_eq_true, Bool.and_eq_false_imp, Bool.or_eq_false_iff, Bool.not_eq_true', Bool.not_eq_false', beq_iff_eq, bne_iff_ne, ne_eq] at *); (first | (first | exact Bc (by omega) | exact seT | exact u64nnS _ | exact chainI (u64nnS _) | exact B1 | exact B2 (by omega) | exact chainI (B2 (by omega)) | exact B3 (by omega) | assumption) | decide | omega | (refine And.intro ?_ ?_ <;> first | omega | (simp; omega)) | (simp only [IntKind.wrap_i64]; first | omega | (refine And.intro ?_ ?_ <;> omega)))))); conv => whnf))
  · cases h
  have hQ : endQ n = 1 ∧ n % 64 < 56 ∨ endQ n = 2 ∧ 56 ≤ n % 64 := by
    unfold endQ
    by_cases h : n % 64 < 56
    · rw [if_pos h]; exact .inl ⟨rfl, h⟩
    · rw [if_neg h]; exact .inr ⟨rfl, by omega⟩
  generalize hQe : endQ n = Q at hQ
  have hbl : 64 * blocks n = 64 * (n / 64) + 64 * Q := by unfold blocks; rw [hQe]; omega
  refine loopI Nat (fun l => n % 64 + 1 ≤ l ∧ l ≤ 64 * Q - 8) (fun l => [(3, .own 1 1 0 l)]) (fun l => [.box (boxC (tb 59).zero), .row 1 l (byF fun i => padM m n (64 * (n / 64) + i))]) (fun l => 64 * Q - l) (n % 64 + 1) (by omega) ?_ (fun _ => rfl) fun l hl => ?_
  · have ec : ∀ i, i < n % 64 + 1 → catF 0 (n % 64) (byF b) (nthC [[C.v (.int .u8 128)]]) i = byF (fun i => padM m n (64 * (n / 64) + i)) i := fun i hi => by
      by_cases h : i < n % 64
      · have e1 : padM m n (64 * (n / 64) + i) = b i := by rw [padM_lo _ _ _ (by omega), hb i h]
        simp [catF, h, e1]
      · obtain rfl : i = n % 64 := by omega
        have e1 : padM m n (64 * (n / 64) + n % 64) = 128 := by
          unfold padM
          rw [if_neg (by omega), if_pos (by omega)]
        simp only [catF, Nat.lt_irrefl, if_false, Nat.sub_self]
        exact (congrArg (fun z => [cb z]) e1).symm
    (refine And.intro ?_ (And.intro ?_ (And.intro ?_ rfl)) <;> (conv => whnf) <;> repeat' (first | exact trivial | exact LeE.of (Le.refl _) | exact LeE.nil rfl | (with_reducible refine LeE.of ?_) | (first | first | exact leI e | exact eo | exact LeAs_c _ _ _ | exact fun i hi => LeCs.of_eq (ec i hi) | exact LeAs_of (by rw [arrC_def]; rfl) | exact LeAs_arr ea | exact Le.refl _ | exact rfl | exact leI (by first | rfl | omega | (rw [wrap64 (by omega) (by omega)]; omega) | (rw [wrap64 (by omega) (by omega)]; done)) | exact LeCs.refl _ | exact fun i hi => LeCs.refl _ | exact leOwn (by first | rfl | omega)) | ((with_reducible refine And.intro ?_ ?_) <;> conv => whnf)))
    all_goals trace_state
  · change n % 64 + 1 ≤ l ∧ l ≤ 64 * Q - 8 at hl
    obtain ⟨hl1, hl2⟩ := hl
    have e63 : bitsI .and .i64 (l : Int) 63 = ((l % 64 : Nat) : Int) := and63 l (by omega)
    have e8 : shlI .u64 (n : Int) 3 = ((8 * n : Nat) : Int) := shl3 n (by omega)
    have B3 : l < 120 → (l + 1) * (tb 5).bytes ≤ 140737488355328 := fun _ => by show (l + 1) * 1 ≤ _; omega
    have P := fun (t : Bool) (f : Nat → List C) => gNPut t l f (8 * n) 8 (by omega) (by decide) (by decide) (by omega)
    conv => whnf
    repeat' (first | (refine And.intro (fun h => ?_) (fun h => ?_) <;> (first | (with_reducible have hd : _ < _ := of_decide_eq_true h) | (with_reducible have hd : _ ≤ _ := of_decide_eq_true h) | (with_reducible have hd : ¬ (_ < _) := of_decide_eq_false h) | (with_reducible have hd : ¬ (_ ≤ _) := of_decide_eq_false h) | skip) <;> conv => whnf) | ((with_reducible refine OwnOr.l ?_); (conv => whnf)) | (refine And.intro ?_ ?_; (focus (first | exact trivial | exact rfl | (first | exact Bc (by omega) | exact seT | exact u64nnS _ | exact chainI (u64nnS _) | exact B1 | exact B2 (by omega) | exact chainI (B2 (by omega)) | exact B3 (by omega) | assumption) | (refine chainI ?_; (first | (first | exact Bc (by omega) | exact seT | exact u64nnS _ | exact chainI (u64nnS _) | exact B1 | exact B2 (by omega) | exact chainI (B2 (by omega)) | exact B3 (by omega) | assumption) | decide | omega | (refine And.intro ?_ ?_ <;> first | omega | (simp; omega)) | (simp only [IntKind.wrap_i64]; first | omega | (refine And.intro ?_ ?_ <;> omega)))) | (intro _; (first | (first | exact Bc (by omega) | exact seT | exact u64nnS _ | exact chainI (u64nnS _) | exact B1 | exact B2 (by omega) | exact chainI (B2 (by omega)) | exact B3 (by omega) | assumption) | decide | omega | (refine And.intro ?_ ?_ <;> first | omega | (simp; omega)) | (simp only [IntKind.wrap_i64]; first | omega | (refine And.intro ?_ ?_ <;> omega)))) | (intro _ _; (first | (first | exact Bc (by omega) | exact seT | exact u64nnS _ | exact chainI (u64nnS _) | exact B1 | exact B2 (by omega) | exact chainI (B2 (by omega)) | exact B3 (by omega) | assumption) | decide | omega | (refine And.intro ?_ ?_ <;> first | omega | (simp; omega)) | (simp only [IntKind.wrap_i64]; first | omega | (refine And.intro ?_ ?_ <;> omega)))) | (first | decide | omega | (refine And.intro ?_ ?_ <;> first | omega | (simp; omega)) | (simp only [IntKind.wrap_i64]; first | omega | (refine And.intro ?_ ?_ <;> omega))) | ((conv => whnf); intros; (try simp only [decide_eq_true_eq, decide_eq_false_iff_not, Bool.and_eq_true, Bool.or_eq_true, Bool.and_eq_false_imp, Bool.or_eq_false_iff, Bool.not_eq_true', Bool.not_eq_false', beq_iff_eq, bne_iff_ne, ne_eq] at *); (first | (first | exact Bc (by omega) | exact seT | exact u64nnS _ | exact chainI (u64nnS _) | exact B1 | exact B2 (by omega) | exact chainI (B2 (by omega)) | exact B3 (by omega) | assumption) | decide | omega | (refine And.intro ?_ ?_ <;> first | omega | (simp; omega)) | (simp only [IntKind.wrap_i64]; first | omega | (refine And.intro ?_ ?_ <;> omega)))))); conv => whnf) | ((with_reducible refine xc_guard ?_); (first | (refine xc_g (P _ _) false (by first | (((conv => whnf); repeat' (first | exact trivial | exact rfl | exact LeC.refl _ | exact LeC.nil rfl | exact LeC.emp rfl | exact LeCs.refl _ | exact (fun i hi => LeCs.refl _) | fail | ((with_reducible refine And.intro ?_ ?_) <;> conv => whnf))); done) | fail) trivial ?_) | (refine xc_g (P _ _) true (by first | (((conv => whnf); repeat' (first | exact trivial | exact rfl | exact LeC.refl _ | exact LeC.nil rfl | exact LeC.emp rfl | exact LeCs.refl _ | exact (fun i hi => LeCs.refl _) | fail | ((with_reducible refine And.intro ?_ ?_) <;> conv => whnf))); done) | fail) (by first | (((conv => whnf); repeat' (first | exact trivial | exact rfl | (intro i hi; unfold catF; split <;> exact ⟨trivial, trivial⟩) | (intro i hi; exact ⟨trivial, trivial⟩) | ((with_reducible refine And.intro ?_ ?_) <;> conv => whnf))); done) | fail) ?_)); conv => whnf) | (rw [e63]; conv => whnf) | (rw [e8]; conv => whnf))
    · rw [e63] at h
      have h64 : l % 64 ≠ 56 := by intro e; rw [e] at h; simp at h
      have hlt : l < 64 * Q - 8 := by omega
      refine ⟨l + 1, ⟨by omega, by omega⟩, ?_, by show 64 * Q - (l + 1) < 64 * Q - l; omega⟩
      have ec : ∀ i, i < l + 1 → catF 0 l (byF fun i => padM m n (64 * (n / 64) + i)) (nthC [[C.v (.int .u8 0)]]) i = byF (fun i => padM m n (64 * (n / 64) + i)) i := fun i hi => by
        by_cases h : i < l
        · simp [catF, h]
        · obtain rfl : i = l := by omega
          have e1 : padM m n (64 * (n / 64) + i) = 0 := by
            unfold padM
            rw [if_neg (by omega), if_neg (by omega), if_pos (by omega)]
          simp only [catF, Nat.lt_irrefl, if_false, Nat.sub_self]
          exact (congrArg (fun z => [cb z]) e1).symm
      (refine And.intro ?_ (And.intro ?_ (And.intro ?_ rfl)) <;> (conv => whnf) <;> repeat' (first | exact trivial | exact LeE.of (Le.refl _) | exact LeE.nil rfl | (with_reducible refine LeE.of ?_) | (first | first | exact leI e | exact eo | exact LeAs_c _ _ _ | exact fun i hi => LeCs.of_eq (ec i hi) | exact LeAs_of (by rw [arrC_def]; rfl) | exact LeAs_arr ea | exact Le.refl _ | exact rfl | exact leI (by first | rfl | omega | (rw [wrap64 (by omega) (by omega)]; omega) | (rw [wrap64 (by omega) (by omega)]; done)) | exact LeCs.refl _ | exact fun i hi => LeCs.refl _ | exact leOwn (by first | rfl | omega)) | ((with_reducible refine And.intro ?_ ?_) <;> conv => whnf)))
    · rw [e63] at h
      have h64 : l % 64 = 56 := by
        have : ¬ ((l % 64 : Nat) : Int) ≠ 56 := by simpa using h
        omega
      obtain rfl : l = 64 * Q - 8 := by omega
      have eh : thrs bT m (n / 64) = thrs bT (padM m n) (n / 64 + 0) := thrs_ext _ fun i hi => (padM_lo m n i (by omega)).symm
      refine loopI Nat (fun j => j ≤ Q) (fun j => [(3, .own 2 1 (64 * j) (64 * Q - 64 * j))]) (fun j => [.box (boxC (tb 59).zero), .dead, .row 1 (64 * Q) (byF fun i => padM m n (64 * (n / 64) + i)), .box (List.map AV.c (arr8 (thrs bT (padM m n) (n / 64 + j))))]) (fun j => Q - j) 0 (Nat.zero_le _) ?_ (fun _ => rfl) fun j hj => ?_
      · have ec : ∀ i, i < 64 * Q → catF 0 (64 * Q - 8) (fun i => byF (fun i => padM m n (64 * (n / 64) + i)) (0 + i)) (byF (putB (8 * n) 8)) i = byF (fun i => padM m n (64 * (n / 64) + i)) i := fun i hi => by
          by_cases h : i < 64 * Q - 8
          · simp [catF, h]
          · have e1 : padM m n (64 * (n / 64) + i) = putB (8 * n) 8 (i - (64 * Q - 8)) := by
              unfold padM
              rw [if_neg (by omega), if_neg (by omega), if_neg (by omega)]
              congr 1; omega
            simp only [catF, h, if_false]
            exact (congrArg (fun z => [cb z]) e1).symm
        have eo : Le 4 (.own (1 + 1) 1 0 (64 * Q)) (.own 2 1 (64 * 0) (64 * Q - 64 * 0)) := Le.refl _
        rw [eh, show 64 * Q - 8 + 8 = 64 * Q by omega]
        (refine And.intro ?_ (And.intro ?_ (And.intro ?_ rfl)) <;> (conv => whnf) <;> repeat' (first | exact trivial | exact LeE.of (Le.refl _) | exact LeE.nil rfl | (with_reducible refine LeE.of ?_) | (first | first | exact leI e | exact eo | exact LeAs_c _ _ _ | exact fun i hi => LeCs.of_eq (ec i hi) | exact LeAs_of (by rw [arrC_def]; rfl) | exact LeAs_arr ea | exact Le.refl _ | exact rfl | exact leI (by first | rfl | omega | (rw [wrap64 (by omega) (by omega)]; omega) | (rw [wrap64 (by omega) (by omega)]; done)) | exact LeCs.refl _ | exact fun i hi => LeCs.refl _ | exact leOwn (by first | rfl | omega)) | ((with_reducible refine And.intro ?_ ?_) <;> conv => whnf)))
      · change j ≤ Q at hj
        have B2 : 0 < 64 * Q - 64 * j → (0 : Int) ≤ 64 ∧ (64 : Int) ≤ ((max (64 * Q - 64 * j) (min (64 * Q - 64 * j) 140737488355328) : Nat) : Int) := fun h => by omega
        conv => whnf
        repeat' (first | (refine Exists.intro _ (And.intro (chainI (aThroughA _ _ _)) ?_); conv => whnf) | (refine And.intro (fun h => ?_) (fun h => ?_) <;> (first | (with_reducible have hd : _ < _ := of_decide_eq_true h) | (with_reducible have hd : _ ≤ _ := of_decide_eq_true h) | (with_reducible have hd : ¬ (_ < _) := of_decide_eq_false h) | (with_reducible have hd : ¬ (_ ≤ _) := of_decide_eq_false h) | skip) <;> conv => whnf) | ((with_reducible refine DOr.l ?_); (conv => whnf)) | (refine And.intro ?_ ?_; (focus (first | exact trivial | exact rfl | (first | exact Bc (by omega) | exact seT | exact u64nnS _ | exact chainI (u64nnS _) | exact B1 | exact B2 (by omega) | exact chainI (B2 (by omega)) | exact B3 (by omega) | assumption) | (refine chainI ?_; (first | (first | exact Bc (by omega) | exact seT | exact u64nnS _ | exact chainI (u64nnS _) | exact B1 | exact B2 (by omega) | exact chainI (B2 (by omega)) | exact B3 (by omega) | assumption) | decide | omega | (refine And.intro ?_ ?_ <;> first | omega | (simp; omega)) | (simp only [IntKind.wrap_i64]; first | omega | (refine And.intro ?_ ?_ <;> omega)))) | (intro _; (first | (first | exact Bc (by omega) | exact seT | exact u64nnS _ | exact chainI (u64nnS _) | exact B1 | exact B2 (by omega) | exact chainI (B2 (by omega)) | exact B3 (by omega) | assumption) | decide | omega | (refine And.intro ?_ ?_ <;> first | omega | (simp; omega)) | (simp only [IntKind.wrap_i64]; first | omega | (refine And.intro ?_ ?_ <;> omega)))) | (intro _ _; (first | (first | exact Bc (by omega) | exact seT | exact u64nnS _ | exact chainI (u64nnS _) | exact B1 | exact B2 (by omega) | exact chainI (B2 (by omega)) | exact B3 (by omega) | assumption) | decide | omega | (refine And.intro ?_ ?_ <;> first | omega | (simp; omega)) | (simp only [IntKind.wrap_i64]; first | omega | (refine And.intro ?_ ?_ <;> omega)))) | (first | decide | omega | (refine And.intro ?_ ?_ <;> first | omega | (simp; omega)) | (simp only [IntKind.wrap_i64]; first | omega | (refine And.intro ?_ ?_ <;> omega))) | ((conv => whnf); intros; (try simp only [decide_eq_true_eq, decide_eq_false_iff_not, Bool.and_eq_true, Bool.or_eq_true, Bool.and_eq_false_imp, Bool.or_eq_false_iff, Bool.not_eq_true', Bool.not_eq_false', beq_iff_eq, bne_iff_ne, ne_eq] at *); (first | (first | exact Bc (by omega) | exact seT | exact u64nnS _ | exact chainI (u64nnS _) | exact B1 | exact B2 (by omega) | exact chainI (B2 (by omega)) | exact B3 (by omega) | assumption) | decide | omega | (refine And.intro ?_ ?_ <;> first | omega | (simp; omega)) | (simp only [IntKind.wrap_i64]; first | omega | (refine And.intro ?_ ?_ <;> omega)))))); conv => whnf) | (refine And.intro (ntArr8 _) ?_; conv => whnf) | ((rw [arrA_cutN]; rotate_left; exact rfl); conv => whnf) | (rw [arrA_len]; conv => whnf) | ((rw [layA_allN]; rotate_left; (focus (first | exact rfl | exact arrA_len _ _))); conv => whnf) | ((rw [mkA_arr]; rotate_left; exact rfl); conv => whnf))
        · have hj' : j < Q := by omega
          refine ⟨j + 1, by omega, ?_, by show Q - (j + 1) < Q - j; omega⟩
          have ht : thr (thrs bT (padM m n) (n / 64 + j)) (fun i => (fun i => padM m n (64 * (n / 64) + i)) (64 * j + 0 + i)) = thrs bT (padM m n) (n / 64 + (j + 1)) := by
            show _ = thr (thrs bT (padM m n) (n / 64 + j)) (fun i => padM m n (64 * (n / 64 + j) + i))
            congr 1
            funext i
            show padM m n (64 * (n / 64) + (64 * j + 0 + i)) = _
            congr 1; omega
          rw [ht]
          have eo : Le 4 (.own 2 1 (64 * j + Int.toNat 64) (64 * Q - 64 * j - Int.toNat 64)) (.own 2 1 (64 * (j + 1)) (64 * Q - 64 * (j + 1))) := Le.of_eq (by congr 1 <;> omega)
          (refine And.intro ?_ (And.intro ?_ (And.intro ?_ rfl)) <;> (conv => whnf) <;> repeat' (first | exact trivial | exact LeE.of (Le.refl _) | exact LeE.nil rfl | (with_reducible refine LeE.of ?_) | (first | first | exact leI e | exact eo | exact LeAs_c _ _ _ | exact fun i hi => LeCs.of_eq (ec i hi) | exact LeAs_of (by rw [arrC_def]; rfl) | exact LeAs_arr ea | exact Le.refl _ | exact rfl | exact leI (by first | rfl | omega | (rw [wrap64 (by omega) (by omega)]; omega) | (rw [wrap64 (by omega) (by omega)]; done)) | exact LeCs.refl _ | exact fun i hi => LeCs.refl _ | exact leOwn (by first | rfl | omega)) | ((with_reducible refine And.intro ?_ ?_) <;> conv => whnf)))
          all_goals trace_state
        · obtain rfl : j = Q := by omega
          have hbl' : n / 64 + j = blocks n := by omega
          refine loopI Nat (fun i => i ≤ 8) (fun i => [(48, intA .i64 i)]) (fun i => [.box (boxC (tb 59).zero), .dead, .dead, .dead, .box (List.map AV.c (arrC (fun k => cb (if k < 4 * i then shaB m n k else 0)) 32))]) (fun i => 8 - i) 0 (Nat.zero_le _) ?_ (fun _ => rfl) fun i hi => ?_
          · have ea : ∀ k, k < 32 → cb 0 = cb (if k < 4 * 0 then shaB m n k else 0) := fun k _ => by rw [if_neg (by omega)]
            rw [z32]
            (refine And.intro ?_ (And.intro ?_ (And.intro ?_ rfl)) <;> (conv => whnf) <;> repeat' (first | exact trivial | exact LeE.of (Le.refl _) | exact LeE.nil rfl | (with_reducible refine LeE.of ?_) | (first | first | exact leI e | exact eo | exact LeAs_c _ _ _ | exact fun i hi => LeCs.of_eq (ec i hi) | exact LeAs_of (by rw [arrC_def]; rfl) | exact LeAs_arr ea | exact Le.refl _ | exact rfl | exact leI (by first | rfl | omega | (rw [wrap64 (by omega) (by omega)]; omega) | (rw [wrap64 (by omega) (by omega)]; done)) | exact LeCs.refl _ | exact fun i hi => LeCs.refl _ | exact leOwn (by first | rfl | omega)) | ((with_reducible refine And.intro ?_ ?_) <;> conv => whnf)))
          · change i ≤ 8 at hi
            clear B1 B2 B3
            have e4 : 4 * i ≤ 32 → (IntKind.i64.wrap (4 * (i : Int))).toNat = 4 * i := fun _ => by rw [wrap64 (by omega) (by omega)]; omega
            have Bc : i < 8 → 4 ≤ 32 - (IntKind.i64.wrap (4 * (i : Int))).toNat := fun h => by rw [e4 (by omega)]; omega
            have P4 := fun (x : W) => aPut4 x.toNat (wlt x)
            conv => whnf
            repeat' (first | (refine Exists.intro _ (And.intro (chainI (P4 _)) ?_); conv => whnf) | (refine And.intro (fun h => ?_) (fun h => ?_) <;> (first | (with_reducible have hd : _ < _ := of_decide_eq_true h) | (with_reducible have hd : _ ≤ _ := of_decide_eq_true h) | (with_reducible have hd : ¬ (_ < _) := of_decide_eq_false h) | (with_reducible have hd : ¬ (_ ≤ _) := of_decide_eq_false h) | skip) <;> conv => whnf) | ((with_reducible refine DOr.l ?_); (conv => whnf)) | (refine And.intro ?_ ?_; (focus (first | exact trivial | exact rfl | (first | exact Bc (by omega) | exact seT | exact u64nnS _ | exact chainI (u64nnS _) | exact B1 | exact B2 (by omega) | exact chainI (B2 (by omega)) | exact B3 (by omega) | assumption) | (refine chainI ?_; (first | (first | exact Bc (by omega) | exact seT | exact u64nnS _ | exact chainI (u64nnS _) | exact B1 | exact B2 (by omega) | exact chainI (B2 (by omega)) | exact B3 (by omega) | assumption) | decide | omega | (refine And.intro ?_ ?_ <;> first | omega | (simp; omega)) | (simp only [IntKind.wrap_i64]; first | omega | (refine And.intro ?_ ?_ <;> omega)))) | (intro _; (first | (first | exact Bc (by omega) | exact seT | exact u64nnS _ | exact chainI (u64nnS _) | exact B1 | exact B2 (by omega) | exact chainI (B2 (by omega)) | exact B3 (by omega) | assumption) | decide | omega | (refine And.intro ?_ ?_ <;> first | omega | (simp; omega)) | (simp only [IntKind.wrap_i64]; first | omega | (refine And.intro ?_ ?_ <;> omega)))) | (intro _ _; (first | (first | exact Bc (by omega) | exact seT | exact u64nnS _ | exact chainI (u64nnS _) | exact B1 | exact B2 (by omega) | exact chainI (B2 (by omega)) | exact B3 (by omega) | assumption) | decide | omega | (refine And.intro ?_ ?_ <;> first | omega | (simp; omega)) | (simp only [IntKind.wrap_i64]; first | omega | (refine And.intro ?_ ?_ <;> omega)))) | (first | decide | omega | (refine And.intro ?_ ?_ <;> first | omega | (simp; omega)) | (simp only [IntKind.wrap_i64]; first | omega | (refine And.intro ?_ ?_ <;> omega))) | ((conv => whnf); intros; (try simp only [decide_eq_true_eq, decide_eq_false_iff_not, Bool.and_eq_true, Bool.or_eq_true, Bool.and_eq_false_imp, Bool.or_eq_false_iff, Bool.not_eq_true', Bool.not_eq_false', beq_iff_eq, bne_iff_ne, ne_eq] at *); (first | (first | exact Bc (by omega) | exact seT | exact u64nnS _ | exact chainI (u64nnS _) | exact B1 | exact B2 (by omega) | exact chainI (B2 (by omega)) | exact B3 (by omega) | assumption) | decide | omega | (refine And.intro ?_ ?_ <;> first | omega | (simp; omega)) | (simp only [IntKind.wrap_i64]; first | omega | (refine And.intro ?_ ?_ <;> omega)))))); conv => whnf) | ((rw [arrC_cutM]; rotate_left; exact rfl; exact rfl; (focus (first | omega | (simp only [IntKind.wrap_i64]; omega)))); conv => whnf) | ((rw [arrA_lenA]); conv => whnf) | ((rw [arrA_layX4]; rotate_left; exact rfl; exact rfl; (focus (first | omega | (simp only [IntKind.wrap_i64]; omega)))); conv => whnf) | ((rw [arrA_cutN]; rotate_left; exact rfl); conv => whnf) | (rw [arrA_len]; conv => whnf) | ((rw [layA_allN]; rotate_left; (focus (first | exact rfl | exact arrA_len _ _))); conv => whnf) | ((rw [mkA_arr]; rotate_left; exact rfl); conv => whnf) | (rw [w64]; conv => whnf))
            · have hi' : i < 8 := by omega
              refine ⟨i + 1, hi', ?_, by show 8 - (i + 1) < 8 - i; omega⟩
              rw [e4 (by omega), hbl']
              have ea := upd4_sha m n i _ rfl
              (refine And.intro ?_ (And.intro ?_ (And.intro ?_ rfl)) <;> (conv => whnf) <;> repeat' (first | exact trivial | exact LeE.of (Le.refl _) | exact LeE.nil rfl | (with_reducible refine LeE.of ?_) | (first | first | exact leI e | exact eo | exact LeAs_c _ _ _ | exact fun i hi => LeCs.of_eq (ec i hi) | exact LeAs_of (by rw [arrC_def]; rfl) | exact LeAs_arr ea | exact Le.refl _ | exact rfl | exact leI (by first | rfl | omega | (rw [wrap64 (by omega) (by omega)]; omega) | (rw [wrap64 (by omega) (by omega)]; done)) | exact LeCs.refl _ | exact fun i hi => LeCs.refl _ | exact leOwn (by first | rfl | omega)) | ((with_reducible refine And.intro ?_ ?_) <;> conv => whnf)))
            · obtain rfl : i = 8 := by omega
              have ez : arrC (fun k => cb (if k < 4 * 8 then shaB m n k else 0)) 32 = sumC (shaB m n) := by
                rw [← arr_sumC]; exact arrC_congr fun k hk => by rw [if_pos (by omega)]
              rw [ez]
              exact Le.refl _
end Go.Proofs.YteidfcaciadgpaaDoor
