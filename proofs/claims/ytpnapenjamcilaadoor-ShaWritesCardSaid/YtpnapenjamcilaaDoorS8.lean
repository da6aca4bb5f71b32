/- Contracts of functions of the program, and the laws that stand on them: what each function answers, whatever its arguments. -/
import Derived.Test.YtpnapenjamcilaaDoorS7
set_option linter.unusedSectionVars false
set_option linter.unnecessarySimpa false
namespace Go.Proofs.YtpnapenjamcilaaDoor
set_option linter.unusedSimpArgs false
set_option linter.unusedVariables false
set_option maxRecDepth 100000
set_option maxHeartbeats 8000000
open Go Go.VA
def numI (b : Nat → UInt8) : Nat → Int
  | 0 => 0
  | k + 1 => IntKind.u64.wrap (IntKind.u64.wrap (numI b k * 256) + IntKind.u64.wrap ((b k).toNat : Int))
theorem numI_eq (b : Nat → UInt8) : ∀ k, k ≤ 8 → numI b k = (nB b 0 k : Int)
  | 0, _ => rfl
  | k + 1, h => by
    simp only [numI, nB]
    rw [numI_eq b k (by omega), Nat.zero_add]
    have hp : nB b 0 k < 72057594037927936 := Nat.lt_of_lt_of_le (nB_lt b 0 k) (Nat.le_trans (Nat.pow_le_pow_right (by decide) (show k ≤ 7 by omega)) (by decide))
    have hx := (b k).toNat_lt
    show (((nB b 0 k : Int) * 256) % 18446744073709551616 + ((b k).toNat : Int) % 18446744073709551616) % 18446744073709551616 = _
    omega
theorem aNumber (t : Bool) (n : Nat) (b : Nat → UInt8) : ACall Tryd.prog gl 22 [.c (.sl t 1 n (byF b))] [] (intA .u64 (numI b n)) := by
  refine acall_of_vcb htb hmix (f := 22) rfl rfl rfl (by kernel_rfl) rfl rfl fun hb => ?_; simp only [bndAll, AV.bnd, bnds, C.bnd, cVt, cS, true_and, and_true] at hb; conv => whnf
  have hn : n ≤ 140737488355328 := hb.1
  repeat' (first | (refine And.intro (fun h => ?_) (fun h => ?_) <;> (first | (with_reducible have hd : _ < _ := of_decide_eq_true h) | (with_reducible have hd : _ ≤ _ := of_decide_eq_true h) | (with_reducible have hd : ¬ (_ < _) := of_decide_eq_false h) | (with_reducible have hd : ¬ (_ ≤ _) := of_decide_eq_false h) | skip) <;> conv => whnf) | ((with_reducible refine Both.mk ?_ ?_) <;> conv => whnf) | ((with_reducible refine DOr.l ?_); (conv => whnf)) | ((with_reducible refine OwnOr.l ?_); (conv => whnf)) | (refine And.intro ?_ ?_; (focus (first | exact trivial | exact rfl | (first | exact Bc (by omega) | exact seT | exact u64nnS _ | exact chainI (u64nnS _) | assumption) | (refine chainI ?_; (first | (first | exact Bc (by omega) | exact seT | exact u64nnS _ | exact chainI (u64nnS _) | assumption) | decide | omega | (refine And.intro ?_ ?_ <;> first | omega | (simp; omega)) | (simp only [IntKind.wrap_i64]; first | omega | (refine And.intro ?_ ?_ <;> omega)))) | (intro _; (first | (first | exact Bc (by omega) | exact seT | exact u64nnS _ | exact chainI (u64nnS _) | assumption) | decide | omega | (refine And.intro ?_ ?_ <;> first | omega | (simp; omega)) | (simp only [IntKind.wrap_i64]; first | omega | (refine And.intro ?_ ?_ <;> omega)))) | (intro _ _; (first | (first | exact Bc (by omega) | exact seT | exact u64nnS _ | exact chainI (u64nnS _) | assumption) | decide | omega | (refine And.intro ?_ ?_ <;> first | omega | (simp; omega)) | (simp only [IntKind.wrap_i64]; first | omega | (refine And.intro ?_ ?_ <;> omega)))) | (first | decide | omega | (refine And.intro ?_ ?_ <;> first | omega | (simp; omega)) | (simp only [IntKind.wrap_i64]; first | omega | (refine And.intro ?_ ?_ <;> omega))) | ((conv => whnf); intros; (try simp only [decide_eq_true_eq, decide_eq_false_iff_not, Bool.and_eq_true, Bool.or_eq_true, Bool.and_eq_false_imp, Bool.or_eq_false_iff, Bool.not_eq_true', Bool.not_eq_false', beq_iff_eq, bne_iff_ne, ne_eq] at *); (first | (first | exact Bc (by omega) | exact seT | exact u64nnS _ | exact chainI (u64nnS _) | assumption) | decide | omega | (refine And.intro ?_ ?_ <;> first | omega | (simp; omega)) | (simp only [IntKind.wrap_i64]; first | omega | (refine And.intro ?_ ?_ <;> omega)))))); conv => whnf) | (refine And.intro ?_ ?_; (focus (first | exact NoTag.int | exact NoTag.bool | exact NoTag.str | (refine NoTag.of_scalar ?_; rfl))); conv => whnf))
  refine loopI Nat (fun i => i ≤ n) (fun i => [(4, intA .i64 i), (3, intA .u64 (numI b i))]) (fun _ => []) (fun i => n - i) 0 (Nat.zero_le _) ?_ (fun _ => rfl) fun i hi => ?_
  · (refine And.intro ?_ (And.intro ?_ (And.intro ?_ rfl)) <;> (conv => whnf) <;> repeat' (first | exact trivial | exact LeE.of (Le.refl _) | exact LeE.nil rfl | (with_reducible refine LeE.of ?_) | (first | first | exact leI e | exact fun i hi => LeCs.of_eq (ec i hi) | exact Le.refl _ | exact rfl | exact leI (by first | rfl | omega | (rw [wrap64 (by omega) (by omega)]; omega) | (rw [wrap64 (by omega) (by omega)]; done)) | exact LeCs.refl _ | exact fun i hi => LeCs.refl _ | exact leOwn (by first | rfl | omega)) | ((with_reducible refine And.intro ?_ ?_) <;> conv => whnf)))
  · change i ≤ n at hi
    conv => whnf
    repeat' (first | (refine And.intro (fun h => ?_) (fun h => ?_) <;> (first | (with_reducible have hd : _ < _ := of_decide_eq_true h) | (with_reducible have hd : _ ≤ _ := of_decide_eq_true h) | (with_reducible have hd : ¬ (_ < _) := of_decide_eq_false h) | (with_reducible have hd : ¬ (_ ≤ _) := of_decide_eq_false h) | skip) <;> conv => whnf) | ((with_reducible refine Both.mk ?_ ?_) <;> conv => whnf) | ((with_reducible refine DOr.l ?_); (conv => whnf)) | ((with_reducible refine OwnOr.l ?_); (conv => whnf)) | (refine And.intro ?_ ?_; (focus (first | exact trivial | exact rfl | (first | exact Bc (by omega) | exact seT | exact u64nnS _ | exact chainI (u64nnS _) | assumption) | (refine chainI ?_; (first | (first | exact Bc (by omega) | exact seT | exact u64nnS _ | exact chainI (u64nnS _) | assumption) | decide | omega | (refine And.intro ?_ ?_ <;> first | omega | (simp; omega)) | (simp only [IntKind.wrap_i64]; first | omega | (refine And.intro ?_ ?_ <;> omega)))) | (intro _; (first | (first | exact Bc (by omega) | exact seT | exact u64nnS _ | exact chainI (u64nnS _) | assumption) | decide | omega | (refine And.intro ?_ ?_ <;> first | omega | (simp; omega)) | (simp only [IntKind.wrap_i64]; first | omega | (refine And.intro ?_ ?_ <;> omega)))) | (intro _ _; (first | (first | exact Bc (by omega) | exact seT | exact u64nnS _ | exact chainI (u64nnS _) | assumption) | decide | omega | (refine And.intro ?_ ?_ <;> first | omega | (simp; omega)) | (simp only [IntKind.wrap_i64]; first | omega | (refine And.intro ?_ ?_ <;> omega)))) | (first | decide | omega | (refine And.intro ?_ ?_ <;> first | omega | (simp; omega)) | (simp only [IntKind.wrap_i64]; first | omega | (refine And.intro ?_ ?_ <;> omega))) | ((conv => whnf); intros; (try simp only [decide_eq_true_eq, decide_eq_false_iff_not, Bool.and_eq_true, Bool.or_eq_true, Bool.and_eq_false_imp, Bool.or_eq_false_iff, Bool.not_eq_true', Bool.not_eq_false', beq_iff_eq, bne_iff_ne, ne_eq] at *); (first | (first | exact Bc (by omega) | exact seT | exact u64nnS _ | exact chainI (u64nnS _) | assumption) | decide | omega | (refine And.intro ?_ ?_ <;> first | omega | (simp; omega)) | (simp only [IntKind.wrap_i64]; first | omega | (refine And.intro ?_ ?_ <;> omega)))))); conv => whnf) | (refine And.intro ?_ ?_; (focus (first | exact NoTag.int | exact NoTag.bool | exact NoTag.str | (refine NoTag.of_scalar ?_; rfl))); conv => whnf))
    · have hi' : i < n := by omega
      refine ⟨i + 1, hi', ?_, by show n - (i + 1) < n - i; omega⟩
      (refine And.intro ?_ (And.intro ?_ (And.intro ?_ rfl)) <;> (conv => whnf) <;> repeat' (first | exact trivial | exact LeE.of (Le.refl _) | exact LeE.nil rfl | (with_reducible refine LeE.of ?_) | (first | first | exact leI e | exact fun i hi => LeCs.of_eq (ec i hi) | exact Le.refl _ | exact rfl | exact leI (by first | rfl | omega | (rw [wrap64 (by omega) (by omega)]; omega) | (rw [wrap64 (by omega) (by omega)]; done)) | exact LeCs.refl _ | exact fun i hi => LeCs.refl _ | exact leOwn (by first | rfl | omega)) | ((with_reducible refine And.intro ?_ ?_) <;> conv => whnf)))
    · have : ¬ ((i : Int) < n) := hd
      obtain rfl : i = n := by omega
      exact Le.refl _
def formC (k w j i : Nat) : List C := [cb (if w - j ≤ i then putB k w i else 0)]
theorem u8mod (k : Nat) : IntKind.u8.wrap ((k : Int).tmod 256) = ((UInt8.ofNat k).toNat : Int) := by
  rw [Int.tmod_eq_emod_of_nonneg (by omega), UInt8.toNat_ofNat']
  show ((k : Int) % 256) % 256 = _
  omega
theorem u64div (k : Nat) (h : k < 2 ^ 64) : IntKind.u64.wrap ((k : Int).tdiv 256) = ((k / 256 : Nat) : Int) := by
  rw [Int.tdiv_eq_ediv_of_nonneg (by omega)]
  show ((k : Int) / 256) % 18446744073709551616 = _
  omega
theorem aForm (k w : Nat) (hk : k < 2 ^ 64) (h8 : w ≤ 8) : ACall Tryd.prog gl 23 [intA .u64 (k : Int), intA .i64 (w : Int)] [] (.c (.sl false 1 w (byF (putB k w)))) := by
  have Bm : (0 : Int) ≤ w ∧ (w : Int) ≤ w ∧ (w : Int) ≤ 140737488355328 ∧ (w : Int) * ((tb 5).bytes : Int) ≤ 140737488355328 := ⟨by omega, by omega, by omega, by show (w : Int) * 1 ≤ _; omega⟩
  refine acall_of_vc htb hmix (f := 23) rfl rfl rfl (by kernel_rfl) rfl rfl ?_; conv => whnf
  repeat' (first | (refine And.intro (fun h => ?_) (fun h => ?_) <;> (first | (with_reducible have hd : _ < _ := of_decide_eq_true h) | (with_reducible have hd : _ ≤ _ := of_decide_eq_true h) | (with_reducible have hd : ¬ (_ < _) := of_decide_eq_false h) | (with_reducible have hd : ¬ (_ ≤ _) := of_decide_eq_false h) | skip) <;> conv => whnf) | ((with_reducible refine Both.mk ?_ ?_) <;> conv => whnf) | ((with_reducible refine DOr.l ?_); (conv => whnf)) | ((with_reducible refine OwnOr.l ?_); (conv => whnf)) | (refine And.intro ?_ ?_; (focus (first | exact trivial | exact rfl | (first | exact Bc (by omega) | exact seT | exact u64nnS _ | exact chainI (u64nnS _) | assumption) | (refine chainI ?_; (first | (first | exact Bc (by omega) | exact seT | exact u64nnS _ | exact chainI (u64nnS _) | assumption) | decide | omega | (refine And.intro ?_ ?_ <;> first | omega | (simp; omega)) | (simp only [IntKind.wrap_i64]; first | omega | (refine And.intro ?_ ?_ <;> omega)))) | (intro _; (first | (first | exact Bc (by omega) | exact seT | exact u64nnS _ | exact chainI (u64nnS _) | assumption) | decide | omega | (refine And.intro ?_ ?_ <;> first | omega | (simp; omega)) | (simp only [IntKind.wrap_i64]; first | omega | (refine And.intro ?_ ?_ <;> omega)))) | (intro _ _; (first | (first | exact Bc (by omega) | exact seT | exact u64nnS _ | exact chainI (u64nnS _) | assumption) | decide | omega | (refine And.intro ?_ ?_ <;> first | omega | (simp; omega)) | (simp only [IntKind.wrap_i64]; first | omega | (refine And.intro ?_ ?_ <;> omega)))) | (first | decide | omega | (refine And.intro ?_ ?_ <;> first | omega | (simp; omega)) | (simp only [IntKind.wrap_i64]; first | omega | (refine And.intro ?_ ?_ <;> omega))) | ((conv => whnf); intros; (try simp only [decide_eq_true_eq, decide_eq_false_iff_not, Bool.and_eq_true, Bool.or_eq_true, Bool.and_eq_false_imp, Bool.or_eq_false_iff, Bool.not_eq_true', Bool.not_eq_false', beq_iff_eq, bne_iff_ne, ne_eq] at *); (first | (first | exact Bc (by omega) | exact seT | exact u64nnS _ | exact chainI (u64nnS _) | assumption) | decide | omega | (refine And.intro ?_ ?_ <;> first | omega | (simp; omega)) | (simp only [IntKind.wrap_i64]; first | omega | (refine And.intro ?_ ?_ <;> omega)))))); conv => whnf) | (refine And.intro ?_ ?_; (focus (first | exact NoTag.int | exact NoTag.bool | exact NoTag.str | (refine NoTag.of_scalar ?_; rfl))); conv => whnf))
  refine loopI Nat (fun j => j ≤ w) (fun j => [(0, intA .u64 ((k / 256 ^ j : Nat) : Int)), (6, intA .i64 ((w : Int) - 1 - j))]) (fun j => [.row 1 0 (fun _ => []), .row 1 w (formC k w j)]) (fun j => w - j) 0 (Nat.zero_le _) ?_ (fun _ => rfl) fun j hj => ?_
  · have e : IntKind.i64.wrap ((w : Int) - 1) = (w : Int) - 1 - (0 : Nat) := by rw [wrap64 (by omega) (by omega)]; simp
    have e0 : k / 256 ^ 0 = k := by simp
    have ec : ∀ i, i < w → [C.v (.int .u8 0)] = formC k w 0 i := fun i hi => by
      unfold formC; rw [if_neg (by omega)]; rfl
    rw [e0]
    (refine And.intro ?_ (And.intro ?_ (And.intro ?_ rfl)) <;> (conv => whnf) <;> repeat' (first | exact trivial | exact LeE.of (Le.refl _) | exact LeE.nil rfl | (with_reducible refine LeE.of ?_) | (first | first | exact leI e | exact fun i hi => LeCs.of_eq (ec i hi) | exact Le.refl _ | exact rfl | exact leI (by first | rfl | omega | (rw [wrap64 (by omega) (by omega)]; omega) | (rw [wrap64 (by omega) (by omega)]; done)) | exact LeCs.refl _ | exact fun i hi => LeCs.refl _ | exact leOwn (by first | rfl | omega)) | ((with_reducible refine And.intro ?_ ?_) <;> conv => whnf)))
    all_goals trace_state
  · change j ≤ w at hj
    conv => whnf
    repeat' (first | (refine And.intro (fun h => ?_) (fun h => ?_) <;> (first | (with_reducible have hd : _ < _ := of_decide_eq_true h) | (with_reducible have hd : _ ≤ _ := of_decide_eq_true h) | (with_reducible have hd : ¬ (_ < _) := of_decide_eq_false h) | (with_reducible have hd : ¬ (_ ≤ _) := of_decide_eq_false h) | skip) <;> conv => whnf) | ((with_reducible refine Both.mk ?_ ?_) <;> conv => whnf) | ((with_reducible refine DOr.l ?_); (conv => whnf)) | ((with_reducible refine OwnOr.l ?_); (conv => whnf)) | (refine And.intro ?_ ?_; (focus (first | exact trivial | exact rfl | (first | exact Bc (by omega) | exact seT | exact u64nnS _ | exact chainI (u64nnS _) | assumption) | (refine chainI ?_; (first | (first | exact Bc (by omega) | exact seT | exact u64nnS _ | exact chainI (u64nnS _) | assumption) | decide | omega | (refine And.intro ?_ ?_ <;> first | omega | (simp; omega)) | (simp only [IntKind.wrap_i64]; first | omega | (refine And.intro ?_ ?_ <;> omega)))) | (intro _; (first | (first | exact Bc (by omega) | exact seT | exact u64nnS _ | exact chainI (u64nnS _) | assumption) | decide | omega | (refine And.intro ?_ ?_ <;> first | omega | (simp; omega)) | (simp only [IntKind.wrap_i64]; first | omega | (refine And.intro ?_ ?_ <;> omega)))) | (intro _ _; (first | (first | exact Bc (by omega) | exact seT | exact u64nnS _ | exact chainI (u64nnS _) | assumption) | decide | omega | (refine And.intro ?_ ?_ <;> first | omega | (simp; omega)) | (simp only [IntKind.wrap_i64]; first | omega | (refine And.intro ?_ ?_ <;> omega)))) | (first | decide | omega | (refine And.intro ?_ ?_ <;> first | omega | (simp; omega)) | (simp only [IntKind.wrap_i64]; first | omega | (refine And.intro ?_ ?_ <;> omega))) | ((conv => whnf); intros; (try simp only [decide_eq_true_eq, decide_eq_false_iff_not, Bool.and_eq_true, Bool.or_eq_true, Bool.and_eq_false_imp, Bool.or_eq_false_iff, Bool.not_eq_true', Bool.not_eq_false', beq_iff_eq, bne_iff_ne, ne_eq] at *); (first | (first | exact Bc (by omega) | exact seT | exact u64nnS _ | exact chainI (u64nnS _) | assumption) | decide | omega | (refine And.intro ?_ ?_ <;> first | omega | (simp; omega)) | (simp only [IntKind.wrap_i64]; first | omega | (refine And.intro ?_ ?_ <;> omega)))))); conv => whnf) | (refine And.intro ?_ ?_; (focus (first | exact NoTag.int | exact NoTag.bool | exact NoTag.str | (refine NoTag.of_scalar ?_; rfl))); conv => whnf))
    · have hj' : j < w := by omega
      refine ⟨j + 1, hj', ?_, by show w - (j + 1) < w - j; omega⟩
      have e : IntKind.i64.wrap ((w : Int) - 1 - j - 1) = (w : Int) - 1 - (j + 1 : Nat) := by rw [wrap64 (by omega) (by omega)]; omega
      have ez : 0 + ((w : Int) - 1 - j).toNat = w - 1 - j := by omega
      have ed : k / 256 ^ (j + 1) = k / 256 ^ j / 256 := by rw [Nat.pow_succ, Nat.div_div_eq_div_mul]
      have ek : k / 256 ^ j < 2 ^ 64 := Nat.lt_of_le_of_lt (Nat.div_le_self _ _) hk
      have ec : ∀ i, i < w → updF (formC k w j) (w - 1 - j) (List.take 0 (formC k w j (w - 1 - j)) ++ [C.v (.int .u8 ((UInt8.ofNat (k / 256 ^ j)).toNat : Int))] ++ List.drop (0 + (tb 5).sz) (formC k w j (w - 1 - j))) i = formC k w (j + 1) i := fun i hi => by
        unfold updF
        by_cases h : i = w - 1 - j
        · rw [if_pos h]
          subst h
          unfold formC
          show [cb (UInt8.ofNat (k / 256 ^ j))] = [cb (if w - (j + 1) ≤ w - 1 - j then putB k w (w - 1 - j) else 0)]
          rw [if_pos (by omega)]
          unfold putB
          rw [show w - 1 - (w - 1 - j) = j by omega]
        · rw [if_neg h]
          unfold formC
          by_cases h2 : w - j ≤ i
          · rw [if_pos h2, if_pos (by omega)]
          · rw [if_neg h2, if_neg (by omega)]
      rw [ez, u8mod, u64div _ ek, ← ed]
      (refine And.intro ?_ (And.intro ?_ (And.intro ?_ rfl)) <;> (conv => whnf) <;> repeat' (first | exact trivial | exact LeE.of (Le.refl _) | exact LeE.nil rfl | (with_reducible refine LeE.of ?_) | (first | first | exact leI e | exact fun i hi => LeCs.of_eq (ec i hi) | exact Le.refl _ | exact rfl | exact leI (by first | rfl | omega | (rw [wrap64 (by omega) (by omega)]; omega) | (rw [wrap64 (by omega) (by omega)]; done)) | exact LeCs.refl _ | exact fun i hi => LeCs.refl _ | exact leOwn (by first | rfl | omega)) | ((with_reducible refine And.intro ?_ ?_) <;> conv => whnf)))
    · obtain rfl : j = w := by omega
      refine leSl (by omega) fun i hi => ?_
      unfold formC
      rw [if_pos (by omega), Nat.zero_add]
theorem kC (i : Nat) (h : i < 64) : C.v (.int .u32 ((kN.getD i 0 : Nat) : Int)) = cw (kT i) := by
  rw [cw, wI_def]
  unfold kT
  have : ∀ j : Fin 64, kN.getD j.1 0 < 2 ^ 32 := by decide
  rw [BitVec.toNat_ofNat, Nat.mod_eq_of_lt (this ⟨i, h⟩)]
theorem aConstants : ACall Tryd.prog gl 24 [] [] (.c (.sl false 1 64 (fun i => [cw (kT i)]))) := by
  refine acall_of_vc htb hmix (f := 24) rfl rfl rfl (by kernel_rfl) rfl rfl ?_; conv => whnf
  repeat' (first | (refine And.intro (fun h => ?_) (fun h => ?_) <;> (first | (with_reducible have hd : _ < _ := of_decide_eq_true h) | (with_reducible have hd : _ ≤ _ := of_decide_eq_true h) | (with_reducible have hd : ¬ (_ < _) := of_decide_eq_false h) | (with_reducible have hd : ¬ (_ ≤ _) := of_decide_eq_false h) | skip) <;> conv => whnf) | ((with_reducible refine Both.mk ?_ ?_) <;> conv => whnf) | ((with_reducible refine DOr.l ?_); (conv => whnf)) | ((with_reducible refine OwnOr.l ?_); (conv => whnf)) | (refine And.intro ?_ ?_; (focus (first | exact trivial | exact rfl | (first | exact Bc (by omega) | exact seT | exact u64nnS _ | exact chainI (u64nnS _) | assumption) | (refine chainI ?_; (first | (first | exact Bc (by omega) | exact seT | exact u64nnS _ | exact chainI (u64nnS _) | assumption) | decide | omega | (refine And.intro ?_ ?_ <;> first | omega | (simp; omega)) | (simp only [IntKind.wrap_i64]; first | omega | (refine And.intro ?_ ?_ <;> omega)))) | (intro _; (first | (first | exact Bc (by omega) | exact seT | exact u64nnS _ | exact chainI (u64nnS _) | assumption) | decide | omega | (refine And.intro ?_ ?_ <;> first | omega | (simp; omega)) | (simp only [IntKind.wrap_i64]; first | omega | (refine And.intro ?_ ?_ <;> omega)))) | (intro _ _; (first | (first | exact Bc (by omega) | exact seT | exact u64nnS _ | exact chainI (u64nnS _) | assumption) | decide | omega | (refine And.intro ?_ ?_ <;> first | omega | (simp; omega)) | (simp only [IntKind.wrap_i64]; first | omega | (refine And.intro ?_ ?_ <;> omega)))) | (first | decide | omega | (refine And.intro ?_ ?_ <;> first | omega | (simp; omega)) | (simp only [IntKind.wrap_i64]; first | omega | (refine And.intro ?_ ?_ <;> omega))) | ((conv => whnf); intros; (try simp only [decide_eq_true_eq, decide_eq_false_iff_not, Bool.and_eq_true, Bool.or_eq_true, Bool.and_eq_false_imp, Bool.or_eq_false_iff, Bool.not_eq_true', Bool.not_eq_false', beq_iff_eq, bne_iff_ne, ne_eq] at *); (first | (first | exact Bc (by omega) | exact seT | exact u64nnS _ | exact chainI (u64nnS _) | assumption) | decide | omega | (refine And.intro ?_ ?_ <;> first | omega | (simp; omega)) | (simp only [IntKind.wrap_i64]; first | omega | (refine And.intro ?_ ?_ <;> omega)))))); conv => whnf) | (refine And.intro ?_ ?_; (focus (first | exact NoTag.int | exact NoTag.bool | exact NoTag.str | (refine NoTag.of_scalar ?_; rfl))); conv => whnf))
  refine leSl rfl fun i hi => ?_
  rw [← kC i hi]
  have : ∀ j : Fin 64, nthC (kN.map fun n : Nat => [C.v (.int .u32 (n : Int))]) j.1 = [C.v (.int .u32 ((kN.getD j.1 0 : Nat) : Int))] := fun j => by
    unfold nthC
    simp only [List.getD_eq_getElem?_getD, List.getElem?_map]
    have hl : j.1 < kN.length := j.2
    rw [List.getElem?_eq_getElem hl]; rfl
  exact this ⟨i, hi⟩
theorem w16 (P : Nat → UInt8) (j i o n : Nat) (hi : i < 16) (ho : o = 64 * j + 4 * i) (hn : n = 4) : C.v (.int .u32 (IntKind.u32.wrap (numI (fun k => P (0 + o + k)) n))) = cw (wT (fun k => P (64 * j + k)) i) := by
  subst hn
  rw [numI_eq _ 4 (by decide), w_of, wT_lo _ _ hi]
  unfold wB
  have e : nB (fun k => P (0 + o + k)) 0 4 = (((P (64 * j + 4 * i)).toNat * 256 + (P (64 * j + (4 * i + 1))).toNat) * 256 + (P (64 * j + (4 * i + 2))).toNat) * 256 + (P (64 * j + (4 * i + 3))).toNat := by
    subst ho
    simp only [nB, Nat.zero_add, Nat.zero_mul, Nat.add_zero, Nat.add_assoc]
  rw [e]
end Go.Proofs.YtpnapenjamcilaaDoor
