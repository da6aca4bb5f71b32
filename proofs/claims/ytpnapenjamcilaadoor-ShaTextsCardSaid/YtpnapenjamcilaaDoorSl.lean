/- Contracts of functions of the program, and the laws that stand on them: what each function answers, whatever its arguments. -/
import Derived.Test.YtpnapenjamcilaaDoorSj
set_option linter.unusedSectionVars false
set_option linter.unnecessarySimpa false
namespace Go.Proofs.YtpnapenjamcilaaDoor
set_option linter.unusedSimpArgs false
set_option linter.unusedVariables false
set_option maxRecDepth 100000
set_option maxHeartbeats 8000000
open Go Go.VA
theorem aIndexB (s : ByteArray) (c : UInt8) : ACall Tryd.prog gl 32 [.c (.v (.string s)), .c (.v (.int .u8 (c.toNat : Int)))] [] (intA .i64 (Lib.indexByte s.data.toList c)) where
  callable := ⟨_, Tryd.func32, by kernel_rfl, by kernel_rfl⟩
  closed := rfl
  run := fun w M B vals hro hL hG hv => by
    simp only [RelVs] at hv
    obtain ⟨u, r, e1, h1, u2, r2, e2, h2, rfl⟩ := hv
    simp only [RelV, RepC, Value.oneCell'] at h1 h2
    obtain rfl := h1.1
    obtain rfl := h2.1
    subst e2
    have hvals : vals = #[.string s, .int .u8 (c.toNat : Int)] := by apply Array.ext'; simpa using e1
    subst hvals
    refine (Tryd.strings_IndexByte s c.toNat w).mono fun e w' ⟨he, hw⟩ => ?_
    subst hw
    refine ⟨_, he, ⟨rfl, rfl, rfl, Nat.le_refl _, fun _ _ => rfl⟩, ?_⟩
    rw [show ((c.toNat : Int)).toNat.toUInt8 = c from by simp]
    simp [intA, RelV, RepC, Value.oneCell']
/-- a digit's value -/
def dgR (c : UInt8) : Option UInt8 := if 48 ≤ c.toNat ∧ c.toNat ≤ 57 then some (UInt8.ofNat (c.toNat - 48)) else if 97 ≤ c.toNat ∧ c.toNat ≤ 102 then some (UInt8.ofNat (c.toNat - 87)) else none
theorem dg_index (c : UInt8) : Lib.indexByte digS.data.toList c = match dgR c with | some d => (d.toNat : Int) | none => -1 := by
  have : ∀ n : Fin 256, Lib.indexByte digS.data.toList (UInt8.ofNat n.1) = match dgR (UInt8.ofNat n.1) with | some d => (d.toNat : Int) | none => -1 := by decide +kernel
  have := this ⟨c.toNat, c.toNat_lt⟩
  simpa using this
theorem aDigit (c : UInt8) : ACall Tryd.prog gl 33 [.c (.v (.int .u8 (c.toNat : Int)))] [] (.tup [intA .u8 (((dgR c).getD 0).toNat : Int), boolA (dgR c).isSome]) := by
  have hc := c.toNat_lt
  refine acall_of_vc htb hmix (f := 33) rfl rfl rfl (by kernel_rfl) rfl rfl ?_; conv => whnf
  repeat' (first | (refine And.intro (fun h => ?_) (fun h => ?_) <;> (first | (with_reducible have hd : _ < _ := of_decide_eq_true h) | (with_reducible have hd : _ ≤ _ := of_decide_eq_true h) | (with_reducible have hd : ¬ (_ < _) := of_decide_eq_false h) | (with_reducible have hd : ¬ (_ ≤ _) := of_decide_eq_false h) | skip) <;> conv => whnf) | ((with_reducible refine Both.mk ?_ ?_) <;> conv => whnf) | ((with_reducible refine DOr.l ?_); (conv => whnf)) | ((with_reducible apply Drawn.one); conv => whnf) | ((with_reducible refine Then.mk' ?_); conv => whnf) | (first | exact RefS.self rfl | ((with_reducible refine RefS.mk ?_ ?_); (focus (refine And.intro ?_ (And.intro ?_ (And.intro ?_ rfl)) <;> (conv => whnf) <;> repeat' (first | exact trivial | exact LeE.of (Le.refl _) | exact LeE.nil rfl | (with_reducible refine LeE.of ?_) | (first | first | exact LeAs_c _ _ _ | exact LeAs_pc | exact leI e | exact eo | exact Le.refl _ | exact rfl | exact leI (by first | rfl | omega | (rw [wrap64 (by omega) (by omega)]; omega) | (rw [wrap64 (by omega) (by omega)]; done)) | exact LeCs.refl _ | exact fun i hi => LeCs.refl _ | exact leOwn (by first | rfl | omega)) | ((with_reducible refine And.intro ?_ ?_) <;> conv => whnf)))); exact rfl)) | (refine And.intro ?_ ?_; (focus (first | exact trivial | exact rfl | (with_reducible (first | exact chainI (h16q _) | exact chainI (l16q _) | exact chainI (h16r _) | exact chainI (l16r _) | exact chainI (ss1 d i hi _ _) | exact chainI (ss2 d i hi _ _ _ _) | assumption)) | (refine chainI ?_; (first | (with_reducible (first | exact chainI (h16q _) | exact chainI (l16q _) | exact chainI (h16r _) | exact chainI (l16r _) | exact chainI (ss1 d i hi _ _) | exact chainI (ss2 d i hi _ _ _ _) | assumption)) | decide | omega | (refine And.intro ?_ ?_ <;> first | omega | (simp; omega)) | (simp only [IntKind.wrap_i64]; first | omega | (refine And.intro ?_ ?_ <;> omega)))) | (intro _; (first | (with_reducible (first | exact chainI (h16q _) | exact chainI (l16q _) | exact chainI (h16r _) | exact chainI (l16r _) | exact chainI (ss1 d i hi _ _) | exact chainI (ss2 d i hi _ _ _ _) | assumption)) | decide | omega | (refine And.intro ?_ ?_ <;> first | omega | (simp; omega)) | (simp only [IntKind.wrap_i64]; first | omega | (refine And.intro ?_ ?_ <;> omega)))) | (intro _ _; (first | (with_reducible (first | exact chainI (h16q _) | exact chainI (l16q _) | exact chainI (h16r _) | exact chainI (l16r _) | exact chainI (ss1 d i hi _ _) | exact chainI (ss2 d i hi _ _ _ _) | assumption)) | decide | omega | (refine And.intro ?_ ?_ <;> first | omega | (simp; omega)) | (simp only [IntKind.wrap_i64]; first | omega | (refine And.intro ?_ ?_ <;> omega)))) | (first | (with_reducible (first | exact chainI (h16q _) | exact chainI (l16q _) | exact chainI (h16r _) | exact chainI (l16r _) | exact chainI (ss1 d i hi _ _) | exact chainI (ss2 d i hi _ _ _ _) | assumption)) | decide | omega | (refine And.intro ?_ ?_ <;> first | omega | (simp; omega)) | (simp only [IntKind.wrap_i64]; first | omega | (refine And.intro ?_ ?_ <;> omega))) | ((conv => whnf); intros; (try simp only [decide_eq_true_eq, decide_eq_false_iff_not, Bool.and_eq_true, Bool.or_eq_true, Bool.and_eq_false_imp, Bool.or_eq_false_iff, Bool.not_eq_true', Bool.not_eq_false', beq_iff_eq, bne_iff_ne, ne_eq] at *); (first | (with_reducible (first | exact chainI (h16q _) | exact chainI (l16q _) | exact chainI (h16r _) | exact chainI (l16r _) | exact chainI (ss1 d i hi _ _) | exact chainI (ss2 d i hi _ _ _ _) | assumption)) | decide | omega | (refine And.intro ?_ ?_ <;> first | omega | (simp; omega)) | (simp only [IntKind.wrap_i64]; first | omega | (refine And.intro ?_ ?_ <;> omega)))))); conv => whnf) | (refine And.intro ?_ ?_; (focus (first | exact NoTag.int | exact NoTag.bool | exact NoTag.str | (refine NoTag.of_scalar ?_; rfl))); conv => whnf))
  · have h' : (48 ≤ c.toNat ∧ c.toNat ≤ 57) := by simp only [Bool.and_eq_true, decide_eq_true_eq] at h; omega
    refine Le.of_eq ?_
    unfold dgR; rw [if_pos h']
    simp only [retA, intA, boolA, Option.getD_some, Option.isSome_some, UInt8.toNat_ofNat', IntKind.wrap_u8]
    rw [show ((c.toNat : Int) - 48) % 256 = (((c.toNat - 48) % 2 ^ 8 : Nat) : Int) by omega]
  · have h' : ¬ (48 ≤ c.toNat ∧ c.toNat ≤ 57) := by rename_i h1; simp only [Bool.and_eq_false_imp, decide_eq_true_eq, decide_eq_false_iff_not] at h1; omega
    have h2 : (97 ≤ c.toNat ∧ c.toNat ≤ 102) := by simp only [Bool.and_eq_true, decide_eq_true_eq] at h; omega
    refine Le.of_eq ?_
    unfold dgR; rw [if_neg h', if_pos h2]
    simp only [retA, intA, boolA, Option.getD_some, Option.isSome_some, UInt8.toNat_ofNat', IntKind.wrap_u8]
    rw [show (((c.toNat : Int) - 97) % 256 + 10) % 256 = (((c.toNat - 87) % 2 ^ 8 : Nat) : Int) by omega]
  · have h' : ¬ (48 ≤ c.toNat ∧ c.toNat ≤ 57) := by rename_i h1; simp only [Bool.and_eq_false_imp, decide_eq_true_eq, decide_eq_false_iff_not] at h1; omega
    have h2 : ¬ (97 ≤ c.toNat ∧ c.toNat ≤ 102) := by simp only [Bool.and_eq_false_imp, decide_eq_true_eq, decide_eq_false_iff_not] at h; omega
    refine Le.of_eq ?_
    unfold dgR; rw [if_neg h', if_neg h2]
    rfl
theorem wq (c : UInt8) : IntKind.u8.wrap ((c.toNat : Int).tdiv 16) = ((c.toNat / 16 : Nat) : Int) := by
  have := c.toNat_lt
  rw [Int.tdiv_eq_ediv_of_nonneg (by omega), IntKind.wrap_u8]; omega
theorem wr (c : UInt8) : (c.toNat : Int).tmod 16 = ((c.toNat % 16 : Nat) : Int) := by
  have := c.toNat_lt
  rw [Int.tmod_eq_emod_of_nonneg (by omega)]; omega
theorem w1 (n : Nat) (h : n < 16) : IntKind.u8.wrap ((n : Int) + 1) = ((n + 1 : Nat) : Int) := by
  rw [IntKind.wrap_u8]; omega
theorem q16 (c : UInt8) : c.toNat / 16 < 16 := by have := c.toNat_lt; omega
theorem r16 (c : UInt8) : c.toNat % 16 < 16 := by omega
theorem h16q (c : UInt8) : (0 : Int) ≤ IntKind.u8.wrap (IntKind.u8.wrap ((c.toNat : Int).tdiv 16) + 1) ∧ IntKind.u8.wrap (IntKind.u8.wrap ((c.toNat : Int).tdiv 16) + 1) ≤ ((digS.size : Nat) : Int) := by
  have := q16 c
  rw [wq, w1 _ (q16 c)]; show _ ∧ _ ≤ ((16 : Nat) : Int); omega
theorem h16r (c : UInt8) : (0 : Int) ≤ IntKind.u8.wrap ((c.toNat : Int).tmod 16 + 1) ∧ IntKind.u8.wrap ((c.toNat : Int).tmod 16 + 1) ≤ ((digS.size : Nat) : Int) := by
  have := r16 c
  rw [wr, w1 _ (r16 c)]; show _ ∧ _ ≤ ((16 : Nat) : Int); omega
theorem l16q (c : UInt8) : (0 : Int) ≤ IntKind.u8.wrap ((c.toNat : Int).tdiv 16) ∧ IntKind.u8.wrap ((c.toNat : Int).tdiv 16) ≤ (((IntKind.u8.wrap (IntKind.u8.wrap ((c.toNat : Int).tdiv 16) + 1)).toNat : Nat) : Int) := by
  rw [wq, w1 _ (q16 c)]; omega
theorem l16r (c : UInt8) : (0 : Int) ≤ (c.toNat : Int).tmod 16 ∧ (c.toNat : Int).tmod 16 ≤ (((IntKind.u8.wrap ((c.toNat : Int).tmod 16 + 1)).toNat : Nat) : Int) := by
  rw [wr, w1 _ (r16 c)]; omega
theorem ext_le (a b : Nat) : (digS.extract a b).size ≤ 16 := by
  rw [ByteArray.size_extract]
  have : digS.size = 16 := rfl
  omega
theorem hexS (d : Nat → UInt8) (i : Nat) : (⟨(hexL d i).toArray⟩ : ByteArray).size = 2 * i := by
  show (hexL d i).toArray.size = _
  rw [List.size_toArray, hexL_len]
theorem ss1 (d : Nat → UInt8) (i : Nat) (hi : i ≤ 32) (a b : Nat) : (⟨(hexL d i).toArray⟩ : ByteArray).size + (digS.extract a b).size ≤ 9223372036854775807 := by
  have := ext_le a b
  rw [hexS]; omega
theorem ss2 (d : Nat → UInt8) (i : Nat) (hi : i ≤ 32) (a b a' b' : Nat) : ((⟨(hexL d i).toArray⟩ : ByteArray) ++ digS.extract a b).size + (digS.extract a' b').size ≤ 9223372036854775807 := by
  have := ext_le a b
  have := ext_le a' b'
  rw [ByteArray.size_append, hexS]; omega
theorem ext1 (n : Nat) (h : n < 16) : (digS.extract n (n + 1)).data = #[hx n] := by
  have : ∀ k : Fin 16, (digS.extract k.1 (k.1 + 1)).data = #[hx k.1] := by decide
  exact this ⟨n, h⟩
theorem hexR (d : Nat → UInt8) (i : Nat) : ((⟨(hexL d i).toArray⟩ : ByteArray) ++ digS.extract (IntKind.u8.wrap (((d i).toNat : Int).tdiv 16)).toNat (IntKind.u8.wrap (IntKind.u8.wrap (((d i).toNat : Int).tdiv 16) + 1)).toNat) ++ digS.extract (((d i).toNat : Int).tmod 16).toNat (IntKind.u8.wrap (((d i).toNat : Int).tmod 16 + 1)).toNat = ⟨(hexL d (i + 1)).toArray⟩ := by
  rw [wq, wr, w1 _ (q16 _), w1 _ (r16 _)]
  simp only [Int.toNat_natCast]
  apply ByteArray.ext
  rw [ByteArray.data_append, ByteArray.data_append, ext1 _ (q16 _), ext1 _ (r16 _)]
  simp [hexL]
theorem aRefHex (d : Nat → UInt8) : ACall Tryd.prog gl 20 [.ag (sumC d)] [] (.c (.v (.string ⟨(hexL d 32).toArray⟩))) := by
  rw [← arr_sumC]
  refine acall_of_vc htb hmix (f := 20) rfl rfl rfl (by kernel_rfl) rfl rfl ?_; conv => whnf
  repeat' (first | (refine And.intro (fun h => ?_) (fun h => ?_) <;> (first | (with_reducible have hd : _ < _ := of_decide_eq_true h) | (with_reducible have hd : _ ≤ _ := of_decide_eq_true h) | (with_reducible have hd : ¬ (_ < _) := of_decide_eq_false h) | (with_reducible have hd : ¬ (_ ≤ _) := of_decide_eq_false h) | skip) <;> conv => whnf) | ((with_reducible refine Both.mk ?_ ?_) <;> conv => whnf) | ((with_reducible refine DOr.l ?_); (conv => whnf)) | ((with_reducible apply Drawn.one); conv => whnf) | ((with_reducible refine Then.mk' ?_); conv => whnf) | (first | exact RefS.self rfl | ((with_reducible refine RefS.mk ?_ ?_); (focus (refine And.intro ?_ (And.intro ?_ (And.intro ?_ rfl)) <;> (conv => whnf) <;> repeat' (first | exact trivial | exact LeE.of (Le.refl _) | exact LeE.nil rfl | (with_reducible refine LeE.of ?_) | (first | first | exact LeAs_c _ _ _ | exact LeAs_pc | exact leI e | exact eo | exact Le.refl _ | exact rfl | exact leI (by first | rfl | omega | (rw [wrap64 (by omega) (by omega)]; omega) | (rw [wrap64 (by omega) (by omega)]; done)) | exact LeCs.refl _ | exact fun i hi => LeCs.refl _ | exact leOwn (by first | rfl | omega)) | ((with_reducible refine And.intro ?_ ?_) <;> conv => whnf)))); exact rfl)) | (refine And.intro ?_ ?_; (focus (first | exact trivial | exact rfl | (with_reducible (first | exact chainI (h16q _) | exact chainI (l16q _) | exact chainI (h16r _) | exact chainI (l16r _) | exact chainI (ss1 d i hi _ _) | exact chainI (ss2 d i hi _ _ _ _) | assumption)) | (refine chainI ?_; (first | (with_reducible (first | exact chainI (h16q _) | exact chainI (l16q _) | exact chainI (h16r _) | exact chainI (l16r _) | exact chainI (ss1 d i hi _ _) | exact chainI (ss2 d i hi _ _ _ _) | assumption)) | decide | omega | (refine And.intro ?_ ?_ <;> first | omega | (simp; omega)) | (simp only [IntKind.wrap_i64]; first | omega | (refine And.intro ?_ ?_ <;> omega)))) | (intro _; (first | (with_reducible (first | exact chainI (h16q _) | exact chainI (l16q _) | exact chainI (h16r _) | exact chainI (l16r _) | exact chainI (ss1 d i hi _ _) | exact chainI (ss2 d i hi _ _ _ _) | assumption)) | decide | omega | (refine And.intro ?_ ?_ <;> first | omega | (simp; omega)) | (simp only [IntKind.wrap_i64]; first | omega | (refine And.intro ?_ ?_ <;> omega)))) | (intro _ _; (first | (with_reducible (first | exact chainI (h16q _) | exact chainI (l16q _) | exact chainI (h16r _) | exact chainI (l16r _) | exact chainI (ss1 d i hi _ _) | exact chainI (ss2 d i hi _ _ _ _) | assumption)) | decide | omega | (refine And.intro ?_ ?_ <;> first | omega | (simp; omega)) | (simp only [IntKind.wrap_i64]; first | omega | (refine And.intro ?_ ?_ <;> omega)))) | (first | (with_reducible (first | exact chainI (h16q _) | exact chainI (l16q _) | exact chainI (h16r _) | exact chainI (l16r _) | exact chainI (ss1 d i hi _ _) | exact chainI (ss2 d i hi _ _ _ _) | assumption)) | decide | omega | (refine And.intro ?_ ?_ <;> first | omega | (simp; omega)) | (simp only [IntKind.wrap_i64]; first | omega | (refine And.intro ?_ ?_ <;> omega))) | ((conv => whnf); intros; (try simp only [decide_eq_true_eq, decide_eq_false_iff_not, Bool.and_eq_true, Bool.or_eq_true, Bool.and_eq_false_imp, Bool.or_eq_false_iff, Bool.not_eq_true', Bool.not_eq_false', beq_iff_eq, bne_iff_ne, ne_eq] at *); (first | (with_reducible (first | exact chainI (h16q _) | exact chainI (l16q _) | exact chainI (h16r _) | exact chainI (l16r _) | exact chainI (ss1 d i hi _ _) | exact chainI (ss2 d i hi _ _ _ _) | assumption)) | decide | omega | (refine And.intro ?_ ?_ <;> first | omega | (simp; omega)) | (simp only [IntKind.wrap_i64]; first | omega | (refine And.intro ?_ ?_ <;> omega)))))); conv => whnf) | (refine And.intro ?_ ?_; (focus (first | exact NoTag.int | exact NoTag.bool | exact NoTag.str | (refine NoTag.of_scalar ?_; rfl))); conv => whnf) | ((rw [arrA_cutZ]; rotate_left; exact rfl; exact rfl; (focus (first | omega | (simp only [IntKind.wrap_i64]; omega)))); conv => whnf) | ((rw [arrA_layX]; rotate_left; exact rfl; exact rfl; (focus (first | omega | (simp only [IntKind.wrap_i64]; omega)))); conv => whnf) | ((rw [arrC_cutZ]; rotate_left; exact rfl; exact rfl; (focus (first | omega | (simp only [IntKind.wrap_i64]; omega)))); conv => whnf) | ((rw [arrA_cutN]; rotate_left; exact rfl); conv => whnf) | ((rw [arrC_cutN]; rotate_left; exact rfl); conv => whnf) | (rw [arrA_len]; conv => whnf) | ((rw [layA_allN]; rotate_left; (focus (first | exact rfl | exact arrA_len _ _))); conv => whnf) | (rw [toCs_arr]; conv => whnf) | ((rw [mkA_arr]; rotate_left; exact rfl); conv => whnf) | ((rw [mkC_arr]; rotate_left; exact rfl); conv => whnf))
  refine loopI Nat (fun i => i ≤ 32) (fun i => [(3, .c (.v (.string ⟨(hexL d i).toArray⟩))), (4, intA .i64 i)]) (fun i => [.box (List.map AV.c (arrC (fun i => cb (d i)) 32))]) (fun i => 32 - i) 0 (Nat.zero_le _) ?_ (fun _ => rfl) fun i hi => ?_
  · (refine And.intro ?_ (And.intro ?_ (And.intro ?_ rfl)) <;> (conv => whnf) <;> repeat' (first | exact trivial | exact LeE.of (Le.refl _) | exact LeE.nil rfl | (with_reducible refine LeE.of ?_) | (first | first | exact LeAs_c _ _ _ | exact LeAs_pc | exact leI e | exact eo | exact Le.refl _ | exact rfl | exact leI (by first | rfl | omega | (rw [wrap64 (by omega) (by omega)]; omega) | (rw [wrap64 (by omega) (by omega)]; done)) | exact LeCs.refl _ | exact fun i hi => LeCs.refl _ | exact leOwn (by first | rfl | omega)) | ((with_reducible refine And.intro ?_ ?_) <;> conv => whnf)))
    all_goals trace_state
  · change i ≤ 32 at hi
    conv => whnf
    repeat' (first | (refine And.intro (fun h => ?_) (fun h => ?_) <;> (first | (with_reducible have hd : _ < _ := of_decide_eq_true h) | (with_reducible have hd : _ ≤ _ := of_decide_eq_true h) | (with_reducible have hd : ¬ (_ < _) := of_decide_eq_false h) | (with_reducible have hd : ¬ (_ ≤ _) := of_decide_eq_false h) | skip) <;> conv => whnf) | ((with_reducible refine Both.mk ?_ ?_) <;> conv => whnf) | ((with_reducible refine DOr.l ?_); (conv => whnf)) | ((with_reducible apply Drawn.one); conv => whnf) | ((with_reducible refine Then.mk' ?_); conv => whnf) | (first | exact RefS.self rfl | ((with_reducible refine RefS.mk ?_ ?_); (focus (refine And.intro ?_ (And.intro ?_ (And.intro ?_ rfl)) <;> (conv => whnf) <;> repeat' (first | exact trivial | exact LeE.of (Le.refl _) | exact LeE.nil rfl | (with_reducible refine LeE.of ?_) | (first | first | exact LeAs_c _ _ _ | exact LeAs_pc | exact leI e | exact eo | exact Le.refl _ | exact rfl | exact leI (by first | rfl | omega | (rw [wrap64 (by omega) (by omega)]; omega) | (rw [wrap64 (by omega) (by omega)]; done)) | exact LeCs.refl _ | exact fun i hi => LeCs.refl _ | exact leOwn (by first | rfl | omega)) | ((with_reducible refine And.intro ?_ ?_) <;> conv => whnf)))); exact rfl)) | (refine And.intro ?_ ?_; (focus (first | exact trivial | exact rfl | (with_reducible (first | exact chainI (h16q _) | exact chainI (l16q _) | exact chainI (h16r _) | exact chainI (l16r _) | exact chainI (ss1 d i hi _ _) | exact chainI (ss2 d i hi _ _ _ _) | assumption)) | (refine chainI ?_; (first | (with_reducible (first | exact chainI (h16q _) | exact chainI (l16q _) | exact chainI (h16r _) | exact chainI (l16r _) | exact chainI (ss1 d i hi _ _) | exact chainI (ss2 d i hi _ _ _ _) | assumption)) | decide | omega | (refine And.intro ?_ ?_ <;> first | omega | (simp; omega)) | (simp only [IntKind.wrap_i64]; first | omega | (refine And.intro ?_ ?_ <;> omega)))) | (intro _; (first | (with_reducible (first | exact chainI (h16q _) | exact chainI (l16q _) | exact chainI (h16r _) | exact chainI (l16r _) | exact chainI (ss1 d i hi _ _) | exact chainI (ss2 d i hi _ _ _ _) | assumption)) | decide | omega | (refine And.intro ?_ ?_ <;> first | omega | (simp; omega)) | (simp only [IntKind.wrap_i64]; first | omega | (refine And.intro ?_ ?_ <;> omega)))) | (intro _ _; (first | (with_reducible (first | exact chainI (h16q _) | exact chainI (l16q _) | exact chainI (h16r _) | exact chainI (l16r _) | exact chainI (ss1 d i hi _ _) | exact chainI (ss2 d i hi _ _ _ _) | assumption)) | decide | omega | (refine And.intro ?_ ?_ <;> first | omega | (simp; omega)) | (simp only [IntKind.wrap_i64]; first | omega | (refine And.intro ?_ ?_ <;> omega)))) | (first | (with_reducible (first | exact chainI (h16q _) | exact chainI (l16q _) | exact chainI (h16r _) | exact chainI (l16r _) | exact chainI (ss1 d i hi _ _) | exact chainI (ss2 d i hi _ _ _ _) | assumption)) | decide | omega | (refine And.intro ?_ ?_ <;> first | omega | (simp; omega)) | (simp only [IntKind.wrap_i64]; first | omega | (refine And.intro ?_ ?_ <;> omega))) | ((conv => whnf); intros; (try simp only [decide_eq_true_eq, decide_eq_false_iff_not, Bool.and_eq_true, Bool.or_eq_true, Bool.and_eq_false_imp, Bool.or_eq_false_iff, Bool.not_eq_true', Bool.not_eq_false', beq_iff_eq, bne_iff_ne, ne_eq] at *); (first | (with_reducible (first | exact chainI (h16q _) | exact chainI (l16q _) | exact chainI (h16r _) | exact chainI (l16r _) | exact chainI (ss1 d i hi _ _) | exact chainI (ss2 d i hi _ _ _ _) | assumption)) | decide | omega | (refine And.intro ?_ ?_ <;> first | omega | (simp; omega)) | (simp only [IntKind.wrap_i64]; first | omega | (refine And.intro ?_ ?_ <;> omega)))))); conv => whnf) | (refine And.intro ?_ ?_; (focus (first | exact NoTag.int | exact NoTag.bool | exact NoTag.str | (refine NoTag.of_scalar ?_; rfl))); conv => whnf) | ((rw [arrA_cutZ]; rotate_left; exact rfl; exact rfl; (focus (first | omega | (simp only [IntKind.wrap_i64]; omega)))); conv => whnf) | ((rw [arrA_layX]; rotate_left; exact rfl; exact rfl; (focus (first | omega | (simp only [IntKind.wrap_i64]; omega)))); conv => whnf) | ((rw [arrC_cutZ]; rotate_left; exact rfl; exact rfl; (focus (first | omega | (simp only [IntKind.wrap_i64]; omega)))); conv => whnf) | ((rw [arrA_cutN]; rotate_left; exact rfl); conv => whnf) | ((rw [arrC_cutN]; rotate_left; exact rfl); conv => whnf) | (rw [arrA_len]; conv => whnf) | ((rw [layA_allN]; rotate_left; (focus (first | exact rfl | exact arrA_len _ _))); conv => whnf) | (rw [toCs_arr]; conv => whnf) | ((rw [mkA_arr]; rotate_left; exact rfl); conv => whnf) | ((rw [mkC_arr]; rotate_left; exact rfl); conv => whnf))
    · have hi' : i < 32 := by omega
      have e0 : 0 + ((i : Nat) : Int).toNat = i := by omega
      rw [e0, hexR d i]
      refine ⟨i + 1, hi', ?_, by show 32 - (i + 1) < 32 - i; omega⟩
      (refine And.intro ?_ (And.intro ?_ (And.intro ?_ rfl)) <;> (conv => whnf) <;> repeat' (first | exact trivial | exact LeE.of (Le.refl _) | exact LeE.nil rfl | (with_reducible refine LeE.of ?_) | (first | first | exact LeAs_c _ _ _ | exact LeAs_pc | exact leI e | exact eo | exact Le.refl _ | exact rfl | exact leI (by first | rfl | omega | (rw [wrap64 (by omega) (by omega)]; omega) | (rw [wrap64 (by omega) (by omega)]; done)) | exact LeCs.refl _ | exact fun i hi => LeCs.refl _ | exact leOwn (by first | rfl | omega)) | ((with_reducible refine And.intro ?_ ?_) <;> conv => whnf)))
    · have : ¬ ((i : Int) < (32 : Nat)) := hd
      obtain rfl : i = 32 := by omega
      exact Le.refl _
end Go.Proofs.YtpnapenjamcilaaDoor
