/- Contracts of functions of the program, and the laws that stand on them: what each function answers, whatever its arguments. -/
import Derived.Test.YteajajplgjacdaaY1
namespace Go.Proofs.Yteajajplgjacdaa
set_option linter.unusedSimpArgs false
set_option linter.unusedVariables false
set_option maxRecDepth 100000
open Go Go.VA
def tabM (c : Nat) : List (Value × AV) := (tys.take c).map fun p => (.string (textT p), tA p)
theorem mOk_tab (c : Nat) : mOk .str (tabM c) = true := by
  unfold tabM
  generalize tys.take c = l
  induction l with
  | nil => rfl
  | cons x r ih => simp only [List.map_cons, mOk, kOk]; exact ih
theorem mPut_new {k : Value} {y : AV} : ∀ {m : List (Value × AV)}, mFind k m = none → mPut k y m = m ++ [(k, y)]
  | [], _ => rfl
  | p :: r, h => by
    simp only [mFind] at h
    split at h
    · simp at h
    · rename_i hq
      simp only [mPut, hq, List.cons_append]
      rw [mPut_new h]
theorem mFind_none {k : Value} : ∀ {m : List (Value × AV)}, (∀ p ∈ m, keqV k p.1 = false) → mFind k m = none
  | [], _ => rfl
  | p :: r, h => by simp only [mFind, h p (by simp)]; exact mFind_none fun q hq => h q (by simp [hq])
theorem tab_next (c : Nat) (h : c < 12) : mPut (.string (textT (tys.getD c (0, 0)))) (tA (tys.getD c (0, 0))) (tabM c) = tabM (c + 1) := by
  have hn : ∀ c < 12, (tys.take c).all (fun p => !(textT (tys.getD c (0, 0)) == textT p)) = true := by decide +kernel
  rw [mPut_new (mFind_none fun p hp => ?_)]
  · have hc : tys[c]? = some (tys.getD c (0, 0)) := by
      have hl : c < tys.length := h
      rw [List.getD_eq_getElem?_getD, List.getElem?_eq_getElem hl]; rfl
    unfold tabM
    rw [take_snoc? hc, List.map_append]; rfl
  · have := List.all_eq_true.1 (hn c h)
    simp only [tabM, List.mem_map] at hp
    obtain ⟨q, hq, rfl⟩ := hp
    have := this q hq
    simpa [keqV] using this
def findS (s : ByteArray) : List Ty → Option Ty
  | [] => none
  | p :: r => if eqs (textT p) s then some p else findS s r
def parT (s : ByteArray) : Ty × Int := match findS s tys with
  | some p => (p, 0)
  | none => ((0, 0), 4)
theorem eqs_ba (a b : ByteArray) : (a == b) = eqs b a := by
  rw [Bool.eq_iff_iff, ba_beq, eqs_iff]
  exact ⟨fun h => h.symm, fun h => h.symm⟩
theorem mFind_tab (s : ByteArray) : ∀ l : List Ty, mFind (.string s) (l.map fun p => (.string (textT p), tA p)) = (findS s l).map tA
  | [] => rfl
  | p :: r => by
    simp only [List.map_cons, mFind, findS, keqV, eqs_ba]
    cases eqs (textT p) s with
    | true => rfl
    | false => exact mFind_tab s r
theorem mLaw (s : ByteArray) : MFind (.string s) (.ag (consC (tb 23).zero)) (tabM 12) (tA (parT s).1, (parT s).2 == 0) := by
  unfold MFind
  rw [show tabM 12 = tys.map fun p => (.string (textT p), tA p) from rfl, mFind_tab]
  unfold parT
  cases findS s tys with
  | none => exact ⟨Le.refl _, rfl⟩
  | some p => exact ⟨Le.refl _, rfl⟩
theorem parT_2 (s : ByteArray) : ((parT s).2 = 0 ∨ ((parT s).2 = 4 ∧ (parT s).1 = (0, 0))) := by
  unfold parT
  cases findS s tys with
  | none => exact .inr ⟨rfl, rfl⟩
  | some p => exact .inl rfl
theorem leMs {a b : List (Value × AV)} (h : a = b) : LeMs a b := h ▸ LeMs.refl _
theorem aParse (s : ByteArray) : ACall Try.prog gl 20 [.c (.v (.string s))] [] (.tup [tA (parT s).1, intA .i64 (parT s).2]) := by
  refine acall_of_vc htb hmix (f := 20) rfl rfl rfl (by kernel_rfl) rfl rfl ?_; conv => whnf
  repeat' (first | (refine Exists.intro _ (And.intro (chainI (aAll)) ?_); conv => whnf) | (refine Exists.intro _ (And.intro (aAll) ?_); conv => whnf) | (refine Exists.intro _ (And.intro (chainI (aText _ _)) ?_); conv => whnf) | (refine Exists.intro _ (And.intro (aText _ _) ?_); conv => whnf) | (refine And.intro (fun h => ?_) (fun h => ?_) <;> (first | (with_reducible have hd : _ < _ := of_decide_eq_true h) | (with_reducible have hd : _ ≤ _ := of_decide_eq_true h) | (with_reducible have hd : ¬ (_ < _) := of_decide_eq_false h) | (with_reducible have hd : ¬ (_ ≤ _) := of_decide_eq_false h) | skip) <;> conv => whnf) | (refine And.intro ?_ ?_; (focus (first | exact trivial | exact rfl | (first | exact se23 | exact se22 | exact mOk_tab _ | assumption) | (refine chainI ?_; (first | (first | exact se23 | exact se22 | exact mOk_tab _ | assumption) | decide | omega | (refine And.intro ?_ ?_ <;> first | omega | (simp; omega)) | (simp only [IntKind.wrap_i64]; first | omega | (refine And.intro ?_ ?_ <;> omega)))) | (intro _; (first | (first | exact se23 | exact se22 | exact mOk_tab _ | assumption) | decide | omega | (refine And.intro ?_ ?_ <;> first | omega | (simp; omega)) | (simp only [IntKind.wrap_i64]; first | omega | (refine And.intro ?_ ?_ <;> omega)))) | (intro _ _; (first | (first | exact se23 | exact se22 | exact mOk_tab _ | assumption) | decide | omega | (refine And.intro ?_ ?_ <;> first | omega | (simp; omega)) | (simp only [IntKind.wrap_i64]; first | omega | (refine And.intro ?_ ?_ <;> omega)))) | (first | (first | exact se23 | exact se22 | exact mOk_tab _ | assumption) | decide | omega | (refine And.intro ?_ ?_ <;> first | omega | (simp; omega)) | (simp only [IntKind.wrap_i64]; first | omega | (refine And.intro ?_ ?_ <;> omega))) | ((conv => whnf); intros; (try simp only [decide_eq_true_eq, decide_eq_false_iff_not, Bool.and_eq_true, Bool.or_eq_true, Bool.and_eq_false_imp, Bool.or_eq_false_iff, Bool.not_eq_true', Bool.not_eq_false', beq_iff_eq, bne_iff_ne, ne_eq] at *); (first | (first | exact se23 | exact se22 | exact mOk_tab _ | assumption) | decide | omega | (refine And.intro ?_ ?_ <;> first | omega | (simp; omega)) | (simp only [IntKind.wrap_i64]; first | omega | (refine And.intro ?_ ?_ <;> omega)))))); conv => whnf) | (refine And.intro ?_ ?_; (focus (first | exact NoTag.int | exact NoTag.bool | exact NoTag.str | (refine NoTag.of_scalar ?_; rfl))); conv => whnf) | ((with_reducible refine xc_guard ?_); refine xc_in (f := 25) htb hmix rfl rfl rfl (by kernel_rfl) rfl ?_; intro vs; conv => whnf) | ((with_reducible refine xc_pure ?_); conv => whnf))
  refine loopI Nat (· ≤ 12) (fun c => [(7, intA .i64 c)]) (fun c => [.box (boxC (tb 23).zero), .amb vs [.c (.v (.int .i64 0)), .ptr 0 0, .c (.v (.string s))], .mp (tabM c)]) (fun c => 12 - c) 0 (Nat.zero_le _) ?_ (fun _ => rfl) fun c (hc : c ≤ 12) => ?_
  · (refine And.intro ?_ (And.intro ?_ (And.intro ?_ rfl)) <;> (conv => whnf) <;> repeat' (first | exact trivial | (first | exact Le.refl _ | exact Le.nil (Nat.le_of_ble_eq_true rfl) | exact rfl | exact leI (by first | rfl | omega | (rw [wrap64 (by omega) (by omega)]; omega) | (rw [wrap64 (by omega) (by omega)]; done)) | exact LeCs.refl _ | exact fun i hi => LeCs.refl _ | exact leOwn (by first | rfl | omega)) | ((with_reducible refine And.intro ?_ ?_) <;> conv => whnf)))
  · conv => whnf
    repeat' (first | (refine Exists.intro _ (And.intro (chainI (aText _ _)) ?_); conv => whnf) | (refine Exists.intro _ (And.intro (aText _ _) ?_); conv => whnf) | (refine And.intro (fun h => ?_) (fun h => ?_) <;> (first | (with_reducible have hd : _ < _ := of_decide_eq_true h) | (with_reducible have hd : _ ≤ _ := of_decide_eq_true h) | (with_reducible have hd : ¬ (_ < _) := of_decide_eq_false h) | (with_reducible have hd : ¬ (_ ≤ _) := of_decide_eq_false h) | skip) <;> conv => whnf) | (refine And.intro ?_ ?_; (focus (first | exact trivial | exact rfl | (first | exact se23 | exact se22 | exact mOk_tab _ | assumption) | (refine chainI ?_; (first | (first | exact se23 | exact se22 | exact mOk_tab _ | assumption) | decide | omega | (refine And.intro ?_ ?_ <;> first | omega | (simp; omega)) | (simp only [IntKind.wrap_i64]; first | omega | (refine And.intro ?_ ?_ <;> omega)))) | (intro _; (first | (first | exact se23 | exact se22 | exact mOk_tab _ | assumption) | decide | omega | (refine And.intro ?_ ?_ <;> first | omega | (simp; omega)) | (simp only [IntKind.wrap_i64]; first | omega | (refine And.intro ?_ ?_ <;> omega)))) | (intro _ _; (first | (first | exact se23 | exact se22 | exact mOk_tab _ | assumption) | decide | omega | (refine And.intro ?_ ?_ <;> first | omega | (simp; omega)) | (simp only [IntKind.wrap_i64]; first | omega | (refine And.intro ?_ ?_ <;> omega)))) | (first | (first | exact se23 | exact se22 | exact mOk_tab _ | assumption) | decide | omega | (refine And.intro ?_ ?_ <;> first | omega | (simp; omega)) | (simp only [IntKind.wrap_i64]; first | omega | (refine And.intro ?_ ?_ <;> omega))) | ((conv => whnf); intros; (try simp only [decide_eq_true_eq, decide_eq_false_iff_not, Bool.and_eq_true, Bool.or_eq_true, Bool.and_eq_false_imp, Bool.or_eq_false_iff, Bool.not_eq_true', Bool.not_eq_false', beq_iff_eq, bne_iff_ne, ne_eq] at *); (first | (first | exact se23 | exact se22 | exact mOk_tab _ | assumption) | decide | omega | (refine And.intro ?_ ?_ <;> first | omega | (simp; omega)) | (simp only [IntKind.wrap_i64]; first | omega | (refine And.intro ?_ ?_ <;> omega)))))); conv => whnf) | (refine And.intro ?_ ?_; (focus (first | exact NoTag.int | exact NoTag.bool | exact NoTag.str | (refine NoTag.of_scalar ?_; rfl))); conv => whnf) | ((with_reducible refine xc_pure ?_); conv => whnf))
    · have h1 : c < 12 := by omega
      refine ⟨c + 1, h1, ?_, by show 12 - (c + 1) < 12 - c; omega⟩
      have e := tab_next c h1
      (refine And.intro ?_ (And.intro ?_ (And.intro ?_ rfl)) <;> (conv => whnf) <;> repeat' (first | exact trivial | (first | exact Le.refl _ | exact Le.nil (Nat.le_of_ble_eq_true rfl) | exact rfl | exact leI (by first | rfl | omega | (rw [wrap64 (by omega) (by omega)]; omega) | (rw [wrap64 (by omega) (by omega)]; done)) | exact LeCs.refl _ | exact fun i hi => LeCs.refl _ | exact leOwn (by first | rfl | omega)) | ((with_reducible refine And.intro ?_ ?_) <;> conv => whnf)))
      exact leMs e
    · obtain rfl : c = 12 := by omega
      repeat' (first | (refine Exists.intro _ (And.intro (chainI (mLaw s)) ?_); conv => whnf) | (refine Exists.intro _ (And.intro (mLaw s) ?_); conv => whnf) | (refine And.intro (fun h => ?_) (fun h => ?_) <;> (first | (with_reducible have hd : _ < _ := of_decide_eq_true h) | (with_reducible have hd : _ ≤ _ := of_decide_eq_true h) | (with_reducible have hd : ¬ (_ < _) := of_decide_eq_false h) | (with_reducible have hd : ¬ (_ ≤ _) := of_decide_eq_false h) | skip) <;> conv => whnf) | (refine And.intro ?_ ?_; (focus (first | exact trivial | exact rfl | (first | exact se23 | exact se22 | exact mOk_tab _ | assumption) | (refine chainI ?_; (first | (first | exact se23 | exact se22 | exact mOk_tab _ | assumption) | decide | omega | (refine And.intro ?_ ?_ <;> first | omega | (simp; omega)) | (simp only [IntKind.wrap_i64]; first | omega | (refine And.intro ?_ ?_ <;> omega)))) | (intro _; (first | (first | exact se23 | exact se22 | exact mOk_tab _ | assumption) | decide | omega | (refine And.intro ?_ ?_ <;> first | omega | (simp; omega)) | (simp only [IntKind.wrap_i64]; first | omega | (refine And.intro ?_ ?_ <;> omega)))) | (intro _ _; (first | (first | exact se23 | exact se22 | exact mOk_tab _ | assumption) | decide | omega | (refine And.intro ?_ ?_ <;> first | omega | (simp; omega)) | (simp only [IntKind.wrap_i64]; first | omega | (refine And.intro ?_ ?_ <;> omega)))) | (first | (first | exact se23 | exact se22 | exact mOk_tab _ | assumption) | decide | omega | (refine And.intro ?_ ?_ <;> first | omega | (simp; omega)) | (simp only [IntKind.wrap_i64]; first | omega | (refine And.intro ?_ ?_ <;> omega))) | ((conv => whnf); intros; (try simp only [decide_eq_true_eq, decide_eq_false_iff_not, Bool.and_eq_true, Bool.or_eq_true, Bool.and_eq_false_imp, Bool.or_eq_false_iff, Bool.not_eq_true', Bool.not_eq_false', beq_iff_eq, bne_iff_ne, ne_eq] at *); (first | (first | exact se23 | exact se22 | exact mOk_tab _ | assumption) | decide | omega | (refine And.intro ?_ ?_ <;> first | omega | (simp; omega)) | (simp only [IntKind.wrap_i64]; first | omega | (refine And.intro ?_ ?_ <;> omega)))))); conv => whnf) | (refine And.intro ?_ ?_; (focus (first | exact NoTag.int | exact NoTag.bool | exact NoTag.str | (refine NoTag.of_scalar ?_; rfl))); conv => whnf) | ((with_reducible refine xc_pure ?_); conv => whnf))
      · have h : (!((parT s).2 == 0)) = true := h
        rcases parT_2 s with h2 | ⟨h2, h3⟩
        · rw [h2] at h; exact absurd h (by decide)
        · rw [h2, h3]; exact Le.refl _
      · have h : (!((parT s).2 == 0)) = false := h
        rcases parT_2 s with h2 | ⟨h2, h3⟩
        · rw [h2]; exact Le.refl _
        · rw [h2] at h; exact absurd h (by decide)
/-- the document's -/
def findR (s : ByteArray) : Nat → Nat → Ty × Int
  | 0, _ => ((0, 0), 4)
  | n + 1, i => if eqs (textR (tys.getD i (0, 0))) s then (tys.getD i (0, 0), 0) else findR s n (i + 1)
theorem aParseR (s : ByteArray) : ACall Try.prog gl 21 [.c (.v (.string s))] [] (.tup [tA (findR s 12 0).1, intA .i64 (findR s 12 0).2]) := by
  refine acall_of_vc htb hmix (f := 21) rfl rfl rfl (by kernel_rfl) rfl rfl ?_; conv => whnf
  repeat' (first | (refine Exists.intro _ (And.intro (chainI (aAllR)) ?_); conv => whnf) | (refine Exists.intro _ (And.intro (aAllR) ?_); conv => whnf) | (refine And.intro (fun h => ?_) (fun h => ?_) <;> (first | (with_reducible have hd : _ < _ := of_decide_eq_true h) | (with_reducible have hd : _ ≤ _ := of_decide_eq_true h) | (with_reducible have hd : ¬ (_ < _) := of_decide_eq_false h) | (with_reducible have hd : ¬ (_ ≤ _) := of_decide_eq_false h) | skip) <;> conv => whnf) | (refine And.intro ?_ ?_; (focus (first | exact trivial | exact rfl | (first | exact se23 | exact se22 | exact mOk_tab _ | assumption) | (refine chainI ?_; (first | (first | exact se23 | exact se22 | exact mOk_tab _ | assumption) | decide | omega | (refine And.intro ?_ ?_ <;> first | omega | (simp; omega)) | (simp only [IntKind.wrap_i64]; first | omega | (refine And.intro ?_ ?_ <;> omega)))) | (intro _; (first | (first | exact se23 | exact se22 | exact mOk_tab _ | assumption) | decide | omega | (refine And.intro ?_ ?_ <;> first | omega | (simp; omega)) | (simp only [IntKind.wrap_i64]; first | omega | (refine And.intro ?_ ?_ <;> omega)))) | (intro _ _; (first | (first | exact se23 | exact se22 | exact mOk_tab _ | assumption) | decide | omega | (refine And.intro ?_ ?_ <;> first | omega | (simp; omega)) | (simp only [IntKind.wrap_i64]; first | omega | (refine And.intro ?_ ?_ <;> omega)))) | (first | (first | exact se23 | exact se22 | exact mOk_tab _ | assumption) | decide | omega | (refine And.intro ?_ ?_ <;> first | omega | (simp; omega)) | (simp only [IntKind.wrap_i64]; first | omega | (refine And.intro ?_ ?_ <;> omega))) | ((conv => whnf); intros; (try simp only [decide_eq_true_eq, decide_eq_false_iff_not, Bool.and_eq_true, Bool.or_eq_true, Bool.and_eq_false_imp, Bool.or_eq_false_iff, Bool.not_eq_true', Bool.not_eq_false', beq_iff_eq, bne_iff_ne, ne_eq] at *); (first | (first | exact se23 | exact se22 | exact mOk_tab _ | assumption) | decide | omega | (refine And.intro ?_ ?_ <;> first | omega | (simp; omega)) | (simp only [IntKind.wrap_i64]; first | omega | (refine And.intro ?_ ?_ <;> omega)))))); conv => whnf) | (refine And.intro ?_ ?_; (focus (first | exact NoTag.int | exact NoTag.bool | exact NoTag.str | (refine NoTag.of_scalar ?_; rfl))); conv => whnf) | ((with_reducible refine xc_pure ?_); conv => whnf))
  refine loopI Nat (fun c => c ≤ 12 ∧ findR s (12 - c) c = findR s 12 0) (fun c => [(5, intA .i64 c)]) (fun c => [.box (boxC (tb 23).zero)]) (fun c => 12 - c) 0 ⟨Nat.zero_le _, rfl⟩ ?_ (fun _ => rfl) fun c ⟨hc, hR⟩ => ?_
  · (refine And.intro ?_ (And.intro ?_ (And.intro ?_ rfl)) <;> (conv => whnf) <;> repeat' (first | exact trivial | (first | exact Le.refl _ | exact Le.nil (Nat.le_of_ble_eq_true rfl) | exact rfl | exact leI (by first | rfl | omega | (rw [wrap64 (by omega) (by omega)]; omega) | (rw [wrap64 (by omega) (by omega)]; done)) | exact LeCs.refl _ | exact fun i hi => LeCs.refl _ | exact leOwn (by first | rfl | omega)) | ((with_reducible refine And.intro ?_ ?_) <;> conv => whnf)))
  · conv => whnf
    repeat' (first | (refine Exists.intro _ (And.intro (chainI (aTextR _ _)) ?_); conv => whnf) | (refine Exists.intro _ (And.intro (aTextR _ _) ?_); conv => whnf) | (refine And.intro (fun h => ?_) (fun h => ?_) <;> (first | (with_reducible have hd : _ < _ := of_decide_eq_true h) | (with_reducible have hd : _ ≤ _ := of_decide_eq_true h) | (with_reducible have hd : ¬ (_ < _) := of_decide_eq_false h) | (with_reducible have hd : ¬ (_ ≤ _) := of_decide_eq_false h) | skip) <;> conv => whnf) | (refine And.intro ?_ ?_; (focus (first | exact trivial | exact rfl | (first | exact se23 | exact se22 | exact mOk_tab _ | assumption) | (refine chainI ?_; (first | (first | exact se23 | exact se22 | exact mOk_tab _ | assumption) | decide | omega | (refine And.intro ?_ ?_ <;> first | omega | (simp; omega)) | (simp only [IntKind.wrap_i64]; first | omega | (refine And.intro ?_ ?_ <;> omega)))) | (intro _; (first | (first | exact se23 | exact se22 | exact mOk_tab _ | assumption) | decide | omega | (refine And.intro ?_ ?_ <;> first | omega | (simp; omega)) | (simp only [IntKind.wrap_i64]; first | omega | (refine And.intro ?_ ?_ <;> omega)))) | (intro _ _; (first | (first | exact se23 | exact se22 | exact mOk_tab _ | assumption) | decide | omega | (refine And.intro ?_ ?_ <;> first | omega | (simp; omega)) | (simp only [IntKind.wrap_i64]; first | omega | (refine And.intro ?_ ?_ <;> omega)))) | (first | (first | exact se23 | exact se22 | exact mOk_tab _ | assumption) | decide | omega | (refine And.intro ?_ ?_ <;> first | omega | (simp; omega)) | (simp only [IntKind.wrap_i64]; first | omega | (refine And.intro ?_ ?_ <;> omega))) | ((conv => whnf); intros; (try simp only [decide_eq_true_eq, decide_eq_false_iff_not, Bool.and_eq_true, Bool.or_eq_true, Bool.and_eq_false_imp, Bool.or_eq_false_iff, Bool.not_eq_true', Bool.not_eq_false', beq_iff_eq, bne_iff_ne, ne_eq] at *); (first | (first | exact se23 | exact se22 | exact mOk_tab _ | assumption) | decide | omega | (refine And.intro ?_ ?_ <;> first | omega | (simp; omega)) | (simp only [IntKind.wrap_i64]; first | omega | (refine And.intro ?_ ?_ <;> omega)))))); conv => whnf) | (refine And.intro ?_ ?_; (focus (first | exact NoTag.int | exact NoTag.bool | exact NoTag.str | (refine NoTag.of_scalar ?_; rfl))); conv => whnf) | ((with_reducible refine xc_pure ?_); conv => whnf))
    · have h : eqs (textR (tys.getD c (0, 0))) s = true := h
      have h1 : c < 12 := by omega
      rw [← hR, show 12 - c = (12 - (c + 1)) + 1 from by omega]
      exact Le.of_eq (by simp only [findR]; rw [if_pos h]; rfl)
    · have h : eqs (textR (tys.getD c (0, 0))) s = false := h
      have h1 : c < 12 := by omega
      refine ⟨c + 1, ⟨h1, ?_⟩, ?_, by show 12 - (c + 1) < 12 - c; omega⟩
      · rw [← hR, show 12 - c = (12 - (c + 1)) + 1 from by omega]
        simp only [findR]; rw [if_neg (by rw [h]; simp)]
      · (refine And.intro ?_ (And.intro ?_ (And.intro ?_ rfl)) <;> (conv => whnf) <;> repeat' (first | exact trivial | (first | exact Le.refl _ | exact Le.nil (Nat.le_of_ble_eq_true rfl) | exact rfl | exact leI (by first | rfl | omega | (rw [wrap64 (by omega) (by omega)]; omega) | (rw [wrap64 (by omega) (by omega)]; done)) | exact LeCs.refl _ | exact fun i hi => LeCs.refl _ | exact leOwn (by first | rfl | omega)) | ((with_reducible refine And.intro ?_ ?_) <;> conv => whnf)))
    · obtain rfl : c = 12 := by omega
      rw [← hR]
      exact Le.refl _
/-! ### the law -/
theorem text_eq (p : Ty) : textT p = textR p := by
  by_cases h : chk p = true
  · have : ∀ p ∈ tys, (textT p == textR p) = true := by decide +kernel
    exact ba_beq.1 (this p (chk_mem h))
  · have h : chk p = false := by simpa using h
    unfold textT textR
    rw [if_pos h, if_pos (by rw [chkR_eq]; exact h)]
theorem findR_eq (s : ByteArray) : findR s 12 0 = parT s := by
  have key : ∀ n i, i + n = 12 → findR s n i = (match findS s (tys.drop i) with | some p => (p, 0) | none => ((0, 0), 4)) := by
    intro n
    induction n with
    | zero => intro i hi; obtain rfl : i = 12 := by omega
              rfl
    | succ n ih =>
      intro i hi
      have hl : i < tys.length := by show i < 12; omega
      rw [List.drop_eq_getElem_cons hl]
      have e : tys.getD i (0, 0) = tys[i] := by simp [List.getD_eq_getElem?_getD, hl]
      simp only [findR, findS, e, ← text_eq]
      cases hq : eqs (textT tys[i]) s with
      | true => rfl
      | false => exact ih (i + 1) (by omega)
  exact key 12 0 rfl
theorem par_text (p : Ty) : ((parT (textT p)).2 == 0) = chkR p ∧ (((parT (textT p)).2 != 0) || (((parT (textT p)).1.1 == p.1) && ((parT (textT p)).1.2 == p.2))) = true := by
  by_cases h : chk p = true
  · have : ∀ p ∈ tys, ((((parT (textT p)).2 == 0) == chkR p) && (((parT (textT p)).2 != 0) || (((parT (textT p)).1.1 == p.1) && ((parT (textT p)).1.2 == p.2)))) = true := by decide +kernel
    have := this p (chk_mem h)
    simpa only [Bool.and_eq_true, beq_iff_eq] using this
  · have h : chk p = false := by simpa using h
    have e : textT p = ⟨#[63]⟩ := by unfold textT; rw [if_pos h]
    have e2 : parT ⟨#[63]⟩ = ((0, 0), 4) := by decide +kernel
    rw [e, e2, chkR_eq, h]
    exact ⟨rfl, rfl⟩
theorem a6 (k o : Int) (s : ByteArray) : ACall Try.prog gl 6 [.ag [.v (.int .i64 k), .v (.int .i64 o)], .c (.v (.string s))] [] (boolA true) := by
  refine acall_of_vc htb hmix (f := 6) rfl rfl rfl (by kernel_rfl) rfl rfl ?_; conv => whnf
  repeat' (first | (refine Exists.intro _ (And.intro (chainI (aAwake)) ?_); conv => whnf) | (refine Exists.intro _ (And.intro (aAwake) ?_); conv => whnf) | (refine Exists.intro _ (And.intro (chainI (aParse _)) ?_); conv => whnf) | (refine Exists.intro _ (And.intro (aParse _) ?_); conv => whnf) | (refine Exists.intro _ (And.intro (chainI (aParseR _)) ?_); conv => whnf) | (refine Exists.intro _ (And.intro (aParseR _) ?_); conv => whnf) | (refine Exists.intro _ (And.intro (chainI (aText _ _)) ?_); conv => whnf) | (refine Exists.intro _ (And.intro (aText _ _) ?_); conv => whnf) | (refine Exists.intro _ (And.intro (chainI (aTextR _ _)) ?_); conv => whnf) | (refine Exists.intro _ (And.intro (aTextR _ _) ?_); conv => whnf) | (refine Exists.intro _ (And.intro (chainI (aChkR _ _)) ?_); conv => whnf) | (refine Exists.intro _ (And.intro (aChkR _ _) ?_); conv => whnf) | (refine And.intro (fun h => ?_) (fun h => ?_) <;> (first | (with_reducible have hd : _ < _ := of_decide_eq_true h) | (with_reducible have hd : _ ≤ _ := of_decide_eq_true h) | (with_reducible have hd : ¬ (_ < _) := of_decide_eq_false h) | (with_reducible have hd : ¬ (_ ≤ _) := of_decide_eq_false h) | skip) <;> conv => whnf) | (refine And.intro ?_ ?_; (focus (first | exact trivial | exact rfl | (first | exact se23 | exact se22 | exact mOk_tab _ | assumption) | (refine chainI ?_; (first | (first | exact se23 | exact se22 | exact mOk_tab _ | assumption) | decide | omega | (refine And.intro ?_ ?_ <;> first | omega | (simp; omega)) | (simp only [IntKind.wrap_i64]; first | omega | (refine And.intro ?_ ?_ <;> omega)))) | (intro _; (first | (first | exact se23 | exact se22 | exact mOk_tab _ | assumption) | decide | omega | (refine And.intro ?_ ?_ <;> first | omega | (simp; omega)) | (simp only [IntKind.wrap_i64]; first | omega | (refine And.intro ?_ ?_ <;> omega)))) | (intro _ _; (first | (first | exact se23 | exact se22 | exact mOk_tab _ | assumption) | decide | omega | (refine And.intro ?_ ?_ <;> first | omega | (simp; omega)) | (simp only [IntKind.wrap_i64]; first | omega | (refine And.intro ?_ ?_ <;> omega)))) | (first | (first | exact se23 | exact se22 | exact mOk_tab _ | assumption) | decide | omega | (refine And.intro ?_ ?_ <;> first | omega | (simp; omega)) | (simp only [IntKind.wrap_i64]; first | omega | (refine And.intro ?_ ?_ <;> omega))) | ((conv => whnf); intros; (try simp only [decide_eq_true_eq, decide_eq_false_iff_not, Bool.and_eq_true, Bool.or_eq_true, Bool.and_eq_false_imp, Bool.or_eq_false_iff, Bool.not_eq_true', Bool.not_eq_false', beq_iff_eq, bne_iff_ne, ne_eq] at *); (first | (first | exact se23 | exact se22 | exact mOk_tab _ | assumption) | decide | omega | (refine And.intro ?_ ?_ <;> first | omega | (simp; omega)) | (simp only [IntKind.wrap_i64]; first | omega | (refine And.intro ?_ ?_ <;> omega)))))); conv => whnf) | (refine And.intro ?_ ?_; (focus (first | exact NoTag.int | exact NoTag.bool | exact NoTag.str | (refine NoTag.of_scalar ?_; rfl))); conv => whnf) | ((with_reducible refine xc_pure ?_); conv => whnf))
  · exact leB rfl
  · obtain ⟨e1, e2⟩ := par_text (k, o)
    exact leB (by rw [findR_eq, ← text_eq, e1]; simp only [e2, beq_self_eq_true, Bool.and_self])
end Go.Proofs.Yteajajplgjacdaa
