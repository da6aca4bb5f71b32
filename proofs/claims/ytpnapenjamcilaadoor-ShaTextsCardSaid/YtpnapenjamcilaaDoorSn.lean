/- Contracts of functions of the program, and the laws that stand on them: what each function answers, whatever its arguments. -/
import Derived.Test.YtpnapenjamcilaaDoorSm
import Derived.Test.YtpnapenjamcilaaDoorS8
set_option linter.unusedSectionVars false
set_option linter.unnecessarySimpa false
namespace Go.Proofs.YtpnapenjamcilaaDoor
set_option linter.unusedSimpArgs false
set_option linter.unusedVariables false
set_option maxRecDepth 100000
set_option maxHeartbeats 8000000
open Go Go.VA
theorem argBox (g : Nat → C) (n m : Nat) (y : C) : toArgs [.box (List.map AV.c (arrC g n))] [.own 0 1 0 m, .c y] = some ([.c (.sl true 1 m (fun i => [nthCC (arrC g n) (0 + i)])), .c y], true) := by
  have h : toArg0 [.box (List.map AV.c (arrC g n))] (.own 0 1 0 m) = some (.c (.sl true 1 m (fun i => [nthCC (arrC g n) (0 + i)])), true) := by
    simp only [toArg0, viewO, getO, toCs_arr]
  simp only [toArgs, toArg, h]
  rfl
theorem match_args {o o' : Option (List AV × Bool)} {A : Prop} {B D : List AV → Prop} (h : o = o') (k : match (generalizing := false) o' with | none => A | some (xs, false) => B xs | some (xs, true) => D xs) : match (generalizing := false) o with | none => A | some (xs, false) => B xs | some (xs, true) => D xs := by
  subst h; exact k
theorem aShort (d : Nat → UInt8) : ACall Tryd.prog gl 21 [.ag (sumC d)] [] (intA .u64 (nB d 0 8 : Int)) := by
  have P : ACall Tryd.prog gl 34 [.c (.sl true 1 32 (fun i => [nthCC (arrC (fun i => cb (d i)) 32) (0 + i)])), intA .i64 (8 : Nat)] [] (.tup [intA .u64 (if 32 < 8 then 0 else (nB d 0 8 : Int)), intA .i64 (if 32 < 8 then 2 else 0)]) :=
    (aNumGet true 32 (fun i => d i) 8 (by decide) (by decide)).le ⟨leSl rfl (fun i hi => by rw [Nat.zero_add, nthCC_arr _ _ _ hi]), Le.refl _, trivial⟩
  rw [← arr_sumC]
  refine acall_of_vc htb hmix (f := 21) rfl rfl rfl (by kernel_rfl) rfl rfl ?_; conv => whnf
  repeat' (first | (refine Exists.intro _ (And.intro (chainI (P)) ?_); conv => whnf) | (refine Exists.intro _ (And.intro (P) ?_); conv => whnf) | ((with_reducible refine GOr.l ?_); (conv => whnf); refine Exists.intro _ (And.intro (chainI (P)) ?_); conv => whnf) | (refine And.intro (fun h => ?_) (fun h => ?_) <;> (first | (with_reducible have hd : _ < _ := of_decide_eq_true h) | (with_reducible have hd : _ ≤ _ := of_decide_eq_true h) | (with_reducible have hd : ¬ (_ < _) := of_decide_eq_false h) | (with_reducible have hd : ¬ (_ ≤ _) := of_decide_eq_false h) | skip) <;> conv => whnf) | ((with_reducible refine Both.mk ?_ ?_) <;> conv => whnf) | ((with_reducible refine DOr.l ?_); (conv => whnf)) | ((with_reducible apply Drawn.one); conv => whnf) | ((with_reducible refine Then.mk' ?_); conv => whnf) | (first | exact RefS.self rfl | ((with_reducible refine RefS.mk ?_ ?_); (focus (refine And.intro ?_ (And.intro ?_ (And.intro ?_ rfl)) <;> (conv => whnf) <;> repeat' (first | exact trivial | exact LeE.of (Le.refl _) | exact LeE.nil rfl | (with_reducible refine LeE.of ?_) | (first | first | exact LeAs_c _ _ _ | exact LeAs_pc | exact leI e | exact eo | exact Le.refl _ | exact rfl | exact leI (by first | rfl | omega | (rw [wrap64 (by omega) (by omega)]; omega) | (rw [wrap64 (by omega) (by omega)]; done)) | exact LeCs.refl _ | exact fun i hi => LeCs.refl _ | exact leOwn (by first | rfl | omega)) | ((with_reducible refine And.intro ?_ ?_) <;> conv => whnf)))); exact rfl)) | (refine And.intro ?_ ?_; (focus (first | exact trivial | exact rfl | (with_reducible (first | assumption)) | (refine chainI ?_; (first | (with_reducible (first | assumption)) | decide | omega | (refine And.intro ?_ ?_ <;> first | omega | (simp; omega)) | (simp only [IntKind.wrap_i64]; first | omega | (refine And.intro ?_ ?_ <;> omega)))) | (intro _; (first | (with_reducible (first | assumption)) | decide | omega | (refine And.intro ?_ ?_ <;> first | omega | (simp; omega)) | (simp only [IntKind.wrap_i64]; first | omega | (refine And.intro ?_ ?_ <;> omega)))) | (intro _ _; (first | (with_reducible (first | assumption)) | decide | omega | (refine And.intro ?_ ?_ <;> first | omega | (simp; omega)) | (simp only [IntKind.wrap_i64]; first | omega | (refine And.intro ?_ ?_ <;> omega)))) | (first | (with_reducible (first | assumption)) | decide | omega | (refine And.intro ?_ ?_ <;> first | omega | (simp; omega)) | (simp only [IntKind.wrap_i64]; first | omega | (refine And.intro ?_ ?_ <;> omega))) | ((conv => whnf); intros; (try simp only [decide_eq_true_eq, decide_eq_false_iff_not, Bool.and_eq_true, Bool.or_eq_true, Bool.and_eq_false_imp, Bool.or_eq_false_iff, Bool.not_eq_true', Bool.not_eq_false', beq_iff_eq, bne_iff_ne, ne_eq] at *); (first | (with_reducible (first | assumption)) | decide | omega | (refine And.intro ?_ ?_ <;> first | omega | (simp; omega)) | (simp only [IntKind.wrap_i64]; first | omega | (refine And.intro ?_ ?_ <;> omega)))))); conv => whnf) | (refine And.intro ?_ ?_; (focus (first | exact NoTag.int | exact NoTag.bool | exact NoTag.str | (refine NoTag.of_scalar ?_; rfl))); conv => whnf) | ((with_reducible refine xc_pure ?_); conv => whnf) | ((rw [arrA_lenA]); conv => whnf) | (refine match_args (argBox _ _ _ _) ?_; conv => whnf) | ((rw [arrA_cutZ]; rotate_left; exact rfl; exact rfl; (focus (first | omega | (simp only [IntKind.wrap_i64]; omega)))); conv => whnf) | ((rw [arrA_layX]; rotate_left; exact rfl; exact rfl; (focus (first | omega | (simp only [IntKind.wrap_i64]; omega)))); conv => whnf) | ((rw [arrC_cutZ]; rotate_left; exact rfl; exact rfl; (focus (first | omega | (simp only [IntKind.wrap_i64]; omega)))); conv => whnf) | ((rw [arrA_cutN]; rotate_left; exact rfl); conv => whnf) | ((rw [arrC_cutN]; rotate_left; exact rfl); conv => whnf) | (rw [arrA_len]; conv => whnf) | ((rw [layA_allN]; rotate_left; (focus (first | exact rfl | exact arrA_len _ _))); conv => whnf) | (rw [toCs_arr]; conv => whnf) | ((rw [mkA_arr]; rotate_left; exact rfl); conv => whnf) | ((rw [mkC_arr]; rotate_left; exact rfl); conv => whnf))
  · rw [if_neg (by decide)]
    exact Le.refl _
theorem hx_dg (n : Nat) (h : n < 16) : dgR (hx n) = some (UInt8.ofNat n) := by
  have : ∀ k : Fin 16, dgR (hx k.1) = some (UInt8.ofNat k.1) := by decide
  exact this ⟨n, h⟩
theorem hexL_at (d : Nat → UInt8) : ∀ n i, i < n → (hexL d n)[2 * i]? = some (hx ((d i).toNat / 16)) ∧ (hexL d n)[2 * i + 1]? = some (hx ((d i).toNat % 16))
  | 0, i, h => absurd h (Nat.not_lt_zero _)
  | n + 1, i, h => by
    simp only [hexL]
    by_cases hi : i < n
    · rw [List.getElem?_append_left (by rw [hexL_len]; omega), List.getElem?_append_left (by rw [hexL_len]; omega)]
      exact hexL_at d n i hi
    · obtain rfl : i = n := by omega
      rw [List.getElem?_append_right (by rw [hexL_len]; omega), List.getElem?_append_right (by rw [hexL_len]; omega), hexL_len]
      rw [show 2 * i - 2 * i = 0 by omega, show 2 * i + 1 - 2 * i = 1 by omega]
      exact ⟨rfl, rfl⟩
@[irreducible] def hexT (d : Nat → UInt8) : ByteArray := ⟨(hexL d 32).toArray⟩
theorem hexT_chr (d : Nat → UInt8) (i : Nat) (h : i < 32) : chr (hexT d) (2 * i) = hx ((d i).toNat / 16) ∧ chr (hexT d) (2 * i + 1) = hx ((d i).toNat % 16) := by
  have := hexL_at d 32 i h
  unfold chr hexT
  rw [List.toList_toArray, this.1, this.2]
  exact ⟨rfl, rfl⟩
theorem okT_hex (d : Nat → UInt8) : ∀ i, i ≤ 32 → okT (hexT d) i = true
  | 0, _ => rfl
  | i + 1, h => by
    simp only [okT, okD]
    rw [okT_hex d i (Nat.le_of_succ_le h), (hexT_chr d i h).1, (hexT_chr d i h).2, hx_dg _ (q16 _), hx_dg _ (r16 _)]
    rfl
theorem un_hex (d : Nat → UInt8) : sumC (unX (hexT d)) = sumC d ∧ unE (hexT d) = 0 := by
  have hk : unOk (hexT d) = true := unOk_all (t := hexT d) (by unfold hexT; rw [hexS]) (okT_hex d 32 (Nat.le_refl _))
  have e2 : unE (hexT d) = 0 := (unX_ok hk).2
  have e1 := (unX_ok hk).1
  refine ⟨?_, e2⟩
  rw [e1, ← arr_sumC]
  refine arrC_congr fun j hj => ?_
  rw [if_pos hj]
  unfold uxB
  rw [(hexT_chr d j hj).1, (hexT_chr d j hj).2, hx_dg _ (q16 _), hx_dg _ (r16 _)]
  congr 1
  apply UInt8.toNat_inj.1
  have := (d j).toNat_lt
  simp only [Option.getD_some, UInt8.toNat_ofNat']
  omega
end Go.Proofs.YtpnapenjamcilaaDoor
