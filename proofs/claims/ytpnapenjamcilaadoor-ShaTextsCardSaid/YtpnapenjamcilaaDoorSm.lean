/- Contracts of functions of the program, and the laws that stand on them: what each function answers, whatever its arguments. -/
import Derived.Test.YtpnapenjamcilaaDoorSl
set_option linter.unusedSectionVars false
set_option linter.unnecessarySimpa false
namespace Go.Proofs.YtpnapenjamcilaaDoor
set_option linter.unusedSimpArgs false
set_option linter.unusedVariables false
set_option maxRecDepth 100000
set_option maxHeartbeats 8000000
open Go Go.VA
/-- what a text reads as -/
def chr (t : ByteArray) (i : Nat) : UInt8 := (t.data.toList[i]?).getD 0
def uxB (t : ByteArray) (i : Nat) : UInt8 := UInt8.ofNat (((dgR (chr t (2 * i))).getD 0).toNat * 16 + ((dgR (chr t (2 * i + 1))).getD 0).toNat)
def okD (t : ByteArray) (i : Nat) : Bool := (dgR (chr t (2 * i))).isSome && (dgR (chr t (2 * i + 1))).isSome
def okT (t : ByteArray) : Nat → Bool
  | 0 => true
  | i + 1 => okT t i && okD t i
def unOk (t : ByteArray) : Bool := decide (t.size = 64) && okT t 32
def unX (t : ByteArray) : Nat → UInt8 := if unOk t = true then uxB t else fun _ => 0
def unE (t : ByteArray) : Int := if unOk t = true then 0 else 4
theorem okT_mono (t : ByteArray) : ∀ i j, i ≤ j → okT t i = false → okT t j = false
  | i, 0, h, hf => by obtain rfl : i = 0 := by omega
                      exact hf
  | i, j + 1, h, hf => by
    by_cases hi : i = j + 1
    · subst hi; exact hf
    · simp only [okT]; rw [okT_mono t i j (by omega) hf]; rfl
theorem unX_bad {t : ByteArray} (h : unOk t = false) : sumC (unX t) = arrC (fun _ => cb 0) 32 ∧ unE t = 4 := by
  have e : unX t = fun _ => 0 := by unfold unX; rw [if_neg (by simp [h])]
  refine ⟨?_, by unfold unE; rw [if_neg (by simp [h])]⟩
  rw [e, ← arr_sumC]
theorem unX_ok {t : ByteArray} (h : unOk t = true) : sumC (unX t) = arrC (fun j => cb (if j < 32 then uxB t j else 0)) 32 ∧ unE t = 0 := by
  have e : unX t = uxB t := by unfold unX; rw [if_pos h]
  refine ⟨?_, by unfold unE; rw [if_pos h]⟩
  rw [e, ← arr_sumC]
  exact arrC_congr fun j hj => by rw [if_pos hj]
theorem unOk_size {t : ByteArray} (h : t.size ≠ 64) : unOk t = false := by unfold unOk; rw [decide_eq_false h]; rfl
theorem unOk_at {t : ByteArray} (i : Nat) (h : i < 32) (hf : okD t i = false) : unOk t = false := by
  unfold unOk
  rw [okT_mono t (i + 1) 32 (by omega) (by simp only [okT]; rw [hf]; simp)]; simp
theorem unOk_all {t : ByteArray} (h : t.size = 64) (hf : okT t 32 = true) : unOk t = true := by unfold unOk; rw [decide_eq_true h, hf]; rfl
theorem ux_val (a b : UInt8) : IntKind.u8.wrap (IntKind.u8.wrap ((a.toNat : Int) * 16) + (b.toNat : Int)) = ((UInt8.ofNat (a.toNat * 16 + b.toNat)).toNat : Int) := by
  rw [IntKind.wrap_u8, IntKind.wrap_u8, UInt8.toNat_ofNat']; omega
theorem at2 (i : Nat) (h : i < 32) : (IntKind.i64.wrap (2 * (i : Int))).toNat = 2 * i := by rw [IntKind.wrap_i64]; omega
theorem at3 (i : Nat) (h : i < 32) : (IntKind.i64.wrap (IntKind.i64.wrap (2 * (i : Int)) + 1)).toNat = 2 * i + 1 := by rw [IntKind.wrap_i64, IntKind.wrap_i64]; omega
theorem upd_ux (t : ByteArray) (i : Nat) (v : C) (hv : v = cb (uxB t i)) : arrC (updC (fun j => cb (if j < i then uxB t j else 0)) i v) 32 = arrC (fun j => cb (if j < i + 1 then uxB t j else 0)) 32 := by
  subst hv
  refine arrC_congr fun j hj => ?_
  unfold updC
  by_cases h : j = i
  · subst h; simp
  · simp only [h, if_false]
    by_cases h2 : j < i
    · rw [if_pos h2, if_pos (by omega)]
    · rw [if_neg h2, if_neg (by omega)]
theorem aRefUnhex (t : ByteArray) : ACall Tryd.prog gl 19 [.c (.v (.string t))] [] (.tup [.ag (sumC (unX t)), intA .i64 (unE t)]) := by
  refine acall_of_vc htb hmix (f := 19) rfl rfl rfl (by kernel_rfl) rfl rfl ?_; conv => whnf
  repeat' (first | (refine Exists.intro _ (And.intro (chainI (aDigit _)) ?_); conv => whnf) | (refine Exists.intro _ (And.intro (aDigit _) ?_); conv => whnf) | ((with_reducible refine GOr.l ?_); (conv => whnf); refine Exists.intro _ (And.intro (chainI (aDigit _)) ?_); conv => whnf) | (refine And.intro (fun h => ?_) (fun h => ?_) <;> (first | (with_reducible have hd : _ < _ := of_decide_eq_true h) | (with_reducible have hd : _ ≤ _ := of_decide_eq_true h) | (with_reducible have hd : ¬ (_ < _) := of_decide_eq_false h) | (with_reducible have hd : ¬ (_ ≤ _) := of_decide_eq_false h) | skip) <;> conv => whnf) | ((with_reducible refine Both.mk ?_ ?_) <;> conv => whnf) | ((with_reducible refine DOr.l ?_); (conv => whnf)) | ((with_reducible apply Drawn.one); conv => whnf) | ((with_reducible refine Then.mk' ?_); conv => whnf) | (first | exact RefS.self rfl | ((with_reducible refine RefS.mk ?_ ?_); (focus (refine And.intro ?_ (And.intro ?_ (And.intro ?_ rfl)) <;> (conv => whnf) <;> repeat' (first | exact trivial | exact LeE.of (Le.refl _) | exact LeE.nil rfl | (with_reducible refine LeE.of ?_) | (first | first | exact LeAs_c _ _ _ | exact LeAs_pc | exact leI e | exact eo | exact Le.refl _ | exact rfl | exact leI (by first | rfl | omega | (rw [wrap64 (by omega) (by omega)]; omega) | (rw [wrap64 (by omega) (by omega)]; done)) | exact LeCs.refl _ | exact fun i hi => LeCs.refl _ | exact leOwn (by first | rfl | omega)) | ((with_reducible refine And.intro ?_ ?_) <;> conv => whnf)))); exact rfl)) | (refine And.intro ?_ ?_; (focus (first | exact trivial | exact rfl | (with_reducible (first | assumption)) | (refine chainI ?_; (first | (with_reducible (first | assumption)) | decide | omega | (refine And.intro ?_ ?_ <;> first | omega | (simp; omega)) | (simp only [IntKind.wrap_i64]; first | omega | (refine And.intro ?_ ?_ <;> omega)))) | (intro _; (first | (with_reducible (first | assumption)) | decide | omega | (refine And.intro ?_ ?_ <;> first | omega | (simp; omega)) | (simp only [IntKind.wrap_i64]; first | omega | (refine And.intro ?_ ?_ <;> omega)))) | (intro _ _; (first | (with_reducible (first | assumption)) | decide | omega | (refine And.intro ?_ ?_ <;> first | omega | (simp; omega)) | (simp only [IntKind.wrap_i64]; first | omega | (refine And.intro ?_ ?_ <;> omega)))) | (first | (with_reducible (first | assumption)) | decide | omega | (refine And.intro ?_ ?_ <;> first | omega | (simp; omega)) | (simp only [IntKind.wrap_i64]; first | omega | (refine And.intro ?_ ?_ <;> omega))) | ((conv => whnf); intros; (try simp only [decide_eq_true_eq, decide_eq_false_iff_not, Bool.and_eq_true, Bool.or_eq_true, Bool.and_eq_false_imp, Bool.or_eq_false_iff, Bool.not_eq_true', Bool.not_eq_false', beq_iff_eq, bne_iff_ne, ne_eq] at *); (first | (with_reducible (first | assumption)) | decide | omega | (refine And.intro ?_ ?_ <;> first | omega | (simp; omega)) | (simp only [IntKind.wrap_i64]; first | omega | (refine And.intro ?_ ?_ <;> omega)))))); conv => whnf) | (refine And.intro ?_ ?_; (focus (first | exact NoTag.int | exact NoTag.bool | exact NoTag.str | (refine NoTag.of_scalar ?_; rfl))); conv => whnf) | ((with_reducible refine xc_pure ?_); conv => whnf) | ((rw [arrA_cutZ]; rotate_left; exact rfl; exact rfl; (focus (first | omega | (simp only [IntKind.wrap_i64]; omega)))); conv => whnf) | ((rw [arrA_layX]; rotate_left; exact rfl; exact rfl; (focus (first | omega | (simp only [IntKind.wrap_i64]; omega)))); conv => whnf) | ((rw [arrC_cutZ]; rotate_left; exact rfl; exact rfl; (focus (first | omega | (simp only [IntKind.wrap_i64]; omega)))); conv => whnf) | ((rw [arrA_cutN]; rotate_left; exact rfl); conv => whnf) | ((rw [arrC_cutN]; rotate_left; exact rfl); conv => whnf) | (rw [arrA_len]; conv => whnf) | ((rw [layA_allN]; rotate_left; (focus (first | exact rfl | exact arrA_len _ _))); conv => whnf) | (rw [toCs_arr]; conv => whnf) | ((rw [mkA_arr]; rotate_left; exact rfl); conv => whnf) | ((rw [mkC_arr]; rotate_left; exact rfl); conv => whnf))
  · have hs : t.size ≠ 64 := by simp only [bne_iff_ne, ne_eq] at h; omega
    obtain ⟨e1, e2⟩ := unX_bad (unOk_size hs)
    rw [e1, e2, arrC_def]
    exact Le.refl _
  · have hs : t.size = 64 := by simp only [bne_eq_false_iff_eq] at h; omega
    refine loopI Nat (fun i => i ≤ 32 ∧ okT t i = true) (fun i => [(5, intA .i64 i)]) (fun i => [.box (List.map AV.c (arrC (fun _ => cb 0) 32)), .box (List.map AV.c (arrC (fun j => cb (if j < i then uxB t j else 0)) 32))]) (fun i => 32 - i) 0 ⟨Nat.zero_le _, rfl⟩ ?_ (fun _ => rfl) fun i hi => ?_
    · have e0 : List.map AV.c (arrC (fun j => cb (if j < 0 then uxB t j else 0)) 32) = List.map AV.c (arrC (fun _ => cb 0) 32) := congrArg (List.map AV.c) (arrC_congr fun j _ => by rw [if_neg (by omega)])
      rw [z32, e0]
      (refine And.intro ?_ (And.intro ?_ (And.intro ?_ rfl)) <;> (conv => whnf) <;> repeat' (first | exact trivial | exact LeE.of (Le.refl _) | exact LeE.nil rfl | (with_reducible refine LeE.of ?_) | (first | first | exact LeAs_c _ _ _ | exact LeAs_pc | exact leI e | exact eo | exact Le.refl _ | exact rfl | exact leI (by first | rfl | omega | (rw [wrap64 (by omega) (by omega)]; omega) | (rw [wrap64 (by omega) (by omega)]; done)) | exact LeCs.refl _ | exact fun i hi => LeCs.refl _ | exact leOwn (by first | rfl | omega)) | ((with_reducible refine And.intro ?_ ?_) <;> conv => whnf)))
    · obtain ⟨hi, hok⟩ : i ≤ 32 ∧ okT t i = true := hi
      conv => whnf
      repeat' (first | (refine Exists.intro _ (And.intro (chainI (aDigit _)) ?_); conv => whnf) | (refine Exists.intro _ (And.intro (aDigit _) ?_); conv => whnf) | ((with_reducible refine GOr.l ?_); (conv => whnf); refine Exists.intro _ (And.intro (chainI (aDigit _)) ?_); conv => whnf) | (refine And.intro (fun h => ?_) (fun h => ?_) <;> (first | (with_reducible have hd : _ < _ := of_decide_eq_true h) | (with_reducible have hd : _ ≤ _ := of_decide_eq_true h) | (with_reducible have hd : ¬ (_ < _) := of_decide_eq_false h) | (with_reducible have hd : ¬ (_ ≤ _) := of_decide_eq_false h) | skip) <;> conv => whnf) | ((with_reducible refine Both.mk ?_ ?_) <;> conv => whnf) | ((with_reducible refine DOr.l ?_); (conv => whnf)) | ((with_reducible apply Drawn.one); conv => whnf) | ((with_reducible refine Then.mk' ?_); conv => whnf) | (first | exact RefS.self rfl | ((with_reducible refine RefS.mk ?_ ?_); (focus (refine And.intro ?_ (And.intro ?_ (And.intro ?_ rfl)) <;> (conv => whnf) <;> repeat' (first | exact trivial | exact LeE.of (Le.refl _) | exact LeE.nil rfl | (with_reducible refine LeE.of ?_) | (first | first | exact LeAs_c _ _ _ | exact LeAs_pc | exact leI e | exact eo | exact Le.refl _ | exact rfl | exact leI (by first | rfl | omega | (rw [wrap64 (by omega) (by omega)]; omega) | (rw [wrap64 (by omega) (by omega)]; done)) | exact LeCs.refl _ | exact fun i hi => LeCs.refl _ | exact leOwn (by first | rfl | omega)) | ((with_reducible refine And.intro ?_ ?_) <;> conv => whnf)))); exact rfl)) | (refine And.intro ?_ ?_; (focus (first | exact trivial | exact rfl | (with_reducible (first | assumption)) | (refine chainI ?_; (first | (with_reducible (first | assumption)) | decide | omega | (refine And.intro ?_ ?_ <;> first | omega | (simp; omega)) | (simp only [IntKind.wrap_i64]; first | omega | (refine And.intro ?_ ?_ <;> omega)))) | (intro _; (first | (with_reducible (first | assumption)) | decide | omega | (refine And.intro ?_ ?_ <;> first | omega | (simp; omega)) | (simp only [IntKind.wrap_i64]; first | omega | (refine And.intro ?_ ?_ <;> omega)))) | (intro _ _; (first | (with_reducible (first | assumption)) | decide | omega | (refine And.intro ?_ ?_ <;> first | omega | (simp; omega)) | (simp only [IntKind.wrap_i64]; first | omega | (refine And.intro ?_ ?_ <;> omega)))) | (first | (with_reducible (first | assumption)) | decide | omega | (refine And.intro ?_ ?_ <;> first | omega | (simp; omega)) | (simp only [IntKind.wrap_i64]; first | omega | (refine And.intro ?_ ?_ <;> omega))) | ((conv => whnf); intros; (try simp only [decide_eq_true_eq, decide_eq_false_iff_not, Bool.and_eq_true, Bool.or_eq_true, Bool.and_eq_false_imp, Bool.or_eq_false_iff, Bool.not_eq_true', Bool.not_eq_false', beq_iff_eq, bne_iff_ne, ne_eq] at *); (first | (with_reducible (first | assumption)) | decide | omega | (refine And.intro ?_ ?_ <;> first | omega | (simp; omega)) | (simp only [IntKind.wrap_i64]; first | omega | (refine And.intro ?_ ?_ <;> omega)))))); conv => whnf) | (refine And.intro ?_ ?_; (focus (first | exact NoTag.int | exact NoTag.bool | exact NoTag.str | (refine NoTag.of_scalar ?_; rfl))); conv => whnf) | ((with_reducible refine xc_pure ?_); conv => whnf) | ((rw [layA_full]; rotate_left; exact (arrA_len _ _)); conv => whnf) | ((rw [arrA_cutZ]; rotate_left; exact rfl; exact rfl; (focus (first | omega | (simp only [IntKind.wrap_i64]; omega)))); conv => whnf) | ((rw [arrA_layX]; rotate_left; exact rfl; exact rfl; (focus (first | omega | (simp only [IntKind.wrap_i64]; omega)))); conv => whnf) | ((rw [arrC_cutZ]; rotate_left; exact rfl; exact rfl; (focus (first | omega | (simp only [IntKind.wrap_i64]; omega)))); conv => whnf) | ((rw [arrA_cutN]; rotate_left; exact rfl); conv => whnf) | ((rw [arrC_cutN]; rotate_left; exact rfl); conv => whnf) | (rw [arrA_len]; conv => whnf) | ((rw [layA_allN]; rotate_left; (focus (first | exact rfl | exact arrA_len _ _))); conv => whnf) | (rw [toCs_arr]; conv => whnf) | ((rw [mkA_arr]; rotate_left; exact rfl); conv => whnf) | ((rw [mkC_arr]; rotate_left; exact rfl); conv => whnf))
      · have hi' : i < 32 := by omega
        rw [at2 i hi', at3 i hi'] at h
        have hb : okD t i = false := by
          unfold okD chr
          revert h
          cases (dgR (t.data.toList[2 * i]?.getD 0)).isSome <;> cases (dgR (t.data.toList[2 * i + 1]?.getD 0)).isSome <;> simp
        obtain ⟨e1, e2⟩ := unX_bad (unOk_at i hi' hb)
        rw [e1, e2, arrC_def]
        exact Le.refl _
      · have hi' : i < 32 := by omega
        rw [at2 i hi', at3 i hi'] at h
        have hg : okD t i = true := by
          unfold okD chr
          revert h
          cases (dgR (t.data.toList[2 * i]?.getD 0)).isSome <;> cases (dgR (t.data.toList[2 * i + 1]?.getD 0)).isSome <;> simp
        have e0 : 0 + ((i : Nat) : Int).toNat = i := by omega
        rw [at2 i hi', at3 i hi', e0, upd_ux t i (C.v (.int .u8 (IntKind.u8.wrap (IntKind.u8.wrap ((((dgR (t.data.toList[2 * i]?.getD 0)).getD 0).toNat : Int) * 16) + (((dgR (t.data.toList[2 * i + 1]?.getD 0)).getD 0).toNat : Int))))) (congrArg (fun z => C.v (.int .u8 z)) (ux_val _ _))]
        refine ⟨i + 1, ⟨hi', by simp only [okT, hok, hg]; rfl⟩, ?_, by show 32 - (i + 1) < 32 - i; omega⟩
        (refine And.intro ?_ (And.intro ?_ (And.intro ?_ rfl)) <;> (conv => whnf) <;> repeat' (first | exact trivial | exact LeE.of (Le.refl _) | exact LeE.nil rfl | (with_reducible refine LeE.of ?_) | (first | first | exact LeAs_c _ _ _ | exact LeAs_pc | exact leI e | exact eo | exact Le.refl _ | exact rfl | exact leI (by first | rfl | omega | (rw [wrap64 (by omega) (by omega)]; omega) | (rw [wrap64 (by omega) (by omega)]; done)) | exact LeCs.refl _ | exact fun i hi => LeCs.refl _ | exact leOwn (by first | rfl | omega)) | ((with_reducible refine And.intro ?_ ?_) <;> conv => whnf)))
      · have : ¬ ((i : Int) < (32 : Nat)) := hd
        obtain rfl : i = 32 := by omega
        obtain ⟨e1, e2⟩ := unX_ok (unOk_all hs hok)
        rw [e1, e2]
        exact Le.refl _
/-- a digit's place -/
def dgI (c : UInt8) : Int := match dgR c with | some d => (d.toNat : Int) | none => -1
theorem aIdx (c : UInt8) : ACall Tryd.prog gl 32 [.c (.v (.string digS)), .c (.v (.int .u8 (c.toNat : Int)))] [] (intA .i64 (dgI c)) := by
  have h := aIndexB digS c
  rw [dg_index c] at h
  exact h
theorem dgR_lt {c d : UInt8} (h : dgR c = some d) : d.toNat < 16 := by
  unfold dgR at h
  split at h
  · obtain rfl := Option.some.inj h
    rw [UInt8.toNat_ofNat']; omega
  · split at h
    · obtain rfl := Option.some.inj h
      rw [UInt8.toNat_ofNat']; omega
    · cases h
theorem dgI_neg (c : UInt8) : decide (dgI c < 0) = !(dgR c).isSome := by
  unfold dgI
  cases h : dgR c with
  | none => rfl
  | some d => simp
theorem or16 : ∀ x y : Fin 16, IntKind.u8.wrap (bitsI .or .i64 (shlI .i64 ((x.1 : Nat) : Int) 4) ((y.1 : Nat) : Int)) = (((UInt8.ofNat (x.1 * 16 + y.1)).toNat : Nat) : Int) := by decide +kernel
theorem or_val {a b : UInt8} (ha : (dgR a).isSome = true) (hb : (dgR b).isSome = true) : IntKind.u8.wrap (bitsI .or .i64 (shlI .i64 (dgI a) 4) (dgI b)) = ((UInt8.ofNat (((dgR a).getD 0).toNat * 16 + ((dgR b).getD 0).toNat)).toNat : Int) := by
  obtain ⟨x, hx⟩ := Option.isSome_iff_exists.1 ha
  obtain ⟨y, hy⟩ := Option.isSome_iff_exists.1 hb
  have e1 : dgI a = ((x.toNat : Nat) : Int) := by unfold dgI; rw [hx]
  have e2 : dgI b = ((y.toNat : Nat) : Int) := by unfold dgI; rw [hy]
  rw [e1, e2, hx, hy]
  exact or16 ⟨x.toNat, dgR_lt hx⟩ ⟨y.toNat, dgR_lt hy⟩
theorem aUnhex (t : ByteArray) : ACall Tryd.prog gl 18 [.c (.v (.string t))] [] (.tup [.ag (sumC (unX t)), intA .i64 (unE t)]) := by
  refine acall_of_vc htb hmix (f := 18) rfl rfl rfl (by kernel_rfl) rfl rfl ?_; conv => whnf
  repeat' (first | (refine Exists.intro _ (And.intro (chainI (aIdx _)) ?_); conv => whnf) | (refine Exists.intro _ (And.intro (aIdx _) ?_); conv => whnf) | ((with_reducible refine GOr.l ?_); (conv => whnf); refine Exists.intro _ (And.intro (chainI (aIdx _)) ?_); conv => whnf) | (refine And.intro (fun h => ?_) (fun h => ?_) <;> (first | (with_reducible have hd : _ < _ := of_decide_eq_true h) | (with_reducible have hd : _ ≤ _ := of_decide_eq_true h) | (with_reducible have hd : ¬ (_ < _) := of_decide_eq_false h) | (with_reducible have hd : ¬ (_ ≤ _) := of_decide_eq_false h) | skip) <;> conv => whnf) | ((with_reducible refine Both.mk ?_ ?_) <;> conv => whnf) | ((with_reducible refine DOr.l ?_); (conv => whnf)) | ((with_reducible apply Drawn.one); conv => whnf) | ((with_reducible refine Then.mk' ?_); conv => whnf) | (first | exact RefS.self rfl | ((with_reducible refine RefS.mk ?_ ?_); (focus (refine And.intro ?_ (And.intro ?_ (And.intro ?_ rfl)) <;> (conv => whnf) <;> repeat' (first | exact trivial | exact LeE.of (Le.refl _) | exact LeE.nil rfl | (with_reducible refine LeE.of ?_) | (first | first | exact LeAs_c _ _ _ | exact LeAs_pc | exact leI e | exact eo | exact Le.refl _ | exact rfl | exact leI (by first | rfl | omega | (rw [wrap64 (by omega) (by omega)]; omega) | (rw [wrap64 (by omega) (by omega)]; done)) | exact LeCs.refl _ | exact fun i hi => LeCs.refl _ | exact leOwn (by first | rfl | omega)) | ((with_reducible refine And.intro ?_ ?_) <;> conv => whnf)))); exact rfl)) | (refine And.intro ?_ ?_; (focus (first | exact trivial | exact rfl | (with_reducible (first | assumption)) | (refine chainI ?_; (first | (with_reducible (first | assumption)) | decide | omega | (refine And.intro ?_ ?_ <;> first | omega | (simp; omega)) | (simp only [IntKind.wrap_i64]; first | omega | (refine And.intro ?_ ?_ <;> omega)))) | (intro _; (first | (with_reducible (first | assumption)) | decide | omega | (refine And.intro ?_ ?_ <;> first | omega | (simp; omega)) | (simp only [IntKind.wrap_i64]; first | omega | (refine And.intro ?_ ?_ <;> omega)))) | (intro _ _; (first | (with_reducible (first | assumption)) | decide | omega | (refine And.intro ?_ ?_ <;> first | omega | (simp; omega)) | (simp only [IntKind.wrap_i64]; first | omega | (refine And.intro ?_ ?_ <;> omega)))) | (first | (with_reducible (first | assumption)) | decide | omega | (refine And.intro ?_ ?_ <;> first | omega | (simp; omega)) | (simp only [IntKind.wrap_i64]; first | omega | (refine And.intro ?_ ?_ <;> omega))) | ((conv => whnf); intros; (try simp only [decide_eq_true_eq, decide_eq_false_iff_not, Bool.and_eq_true, Bool.or_eq_true, Bool.and_eq_false_imp, Bool.or_eq_false_iff, Bool.not_eq_true', Bool.not_eq_false', beq_iff_eq, bne_iff_ne, ne_eq] at *); (first | (with_reducible (first | assumption)) | decide | omega | (refine And.intro ?_ ?_ <;> first | omega | (simp; omega)) | (simp only [IntKind.wrap_i64]; first | omega | (refine And.intro ?_ ?_ <;> omega)))))); conv => whnf) | (refine And.intro ?_ ?_; (focus (first | exact NoTag.int | exact NoTag.bool | exact NoTag.str | (refine NoTag.of_scalar ?_; rfl))); conv => whnf) | ((with_reducible refine xc_pure ?_); conv => whnf) | ((rw [arrA_cutZ]; rotate_left; exact rfl; exact rfl; (focus (first | omega | (simp only [IntKind.wrap_i64]; omega)))); conv => whnf) | ((rw [arrA_layX]; rotate_left; exact rfl; exact rfl; (focus (first | omega | (simp only [IntKind.wrap_i64]; omega)))); conv => whnf) | ((rw [arrC_cutZ]; rotate_left; exact rfl; exact rfl; (focus (first | omega | (simp only [IntKind.wrap_i64]; omega)))); conv => whnf) | ((rw [arrA_cutN]; rotate_left; exact rfl); conv => whnf) | ((rw [arrC_cutN]; rotate_left; exact rfl); conv => whnf) | (rw [arrA_len]; conv => whnf) | ((rw [layA_allN]; rotate_left; (focus (first | exact rfl | exact arrA_len _ _))); conv => whnf) | (rw [toCs_arr]; conv => whnf) | ((rw [mkA_arr]; rotate_left; exact rfl); conv => whnf) | ((rw [mkC_arr]; rotate_left; exact rfl); conv => whnf))
  · have hs : t.size ≠ 64 := by simp only [bne_iff_ne, ne_eq] at h; omega
    obtain ⟨e1, e2⟩ := unX_bad (unOk_size hs)
    rw [e1, e2, arrC_def]
    exact Le.refl _
  · have hs : t.size = 64 := by simp only [bne_eq_false_iff_eq] at h; omega
    refine loopI Nat (fun i => i ≤ 32 ∧ okT t i = true) (fun i => [(12, intA .i64 i)]) (fun i => [.box (List.map AV.c (arrC (fun _ => cb 0) 32)), .box (List.map AV.c (arrC (fun j => cb (if j < i then uxB t j else 0)) 32))]) (fun i => 32 - i) 0 ⟨Nat.zero_le _, rfl⟩ ?_ (fun _ => rfl) fun i hi => ?_
    · have e0 : List.map AV.c (arrC (fun j => cb (if j < 0 then uxB t j else 0)) 32) = List.map AV.c (arrC (fun _ => cb 0) 32) := congrArg (List.map AV.c) (arrC_congr fun j _ => by rw [if_neg (by omega)])
      rw [z32, e0]
      (refine And.intro ?_ (And.intro ?_ (And.intro ?_ rfl)) <;> (conv => whnf) <;> repeat' (first | exact trivial | exact LeE.of (Le.refl _) | exact LeE.nil rfl | (with_reducible refine LeE.of ?_) | (first | first | exact LeAs_c _ _ _ | exact LeAs_pc | exact leI e | exact eo | exact Le.refl _ | exact rfl | exact leI (by first | rfl | omega | (rw [wrap64 (by omega) (by omega)]; omega) | (rw [wrap64 (by omega) (by omega)]; done)) | exact LeCs.refl _ | exact fun i hi => LeCs.refl _ | exact leOwn (by first | rfl | omega)) | ((with_reducible refine And.intro ?_ ?_) <;> conv => whnf)))
    · obtain ⟨hi, hok⟩ : i ≤ 32 ∧ okT t i = true := hi
      conv => whnf
      repeat' (first | (refine Exists.intro _ (And.intro (chainI (aIdx _)) ?_); conv => whnf) | (refine Exists.intro _ (And.intro (aIdx _) ?_); conv => whnf) | ((with_reducible refine GOr.l ?_); (conv => whnf); refine Exists.intro _ (And.intro (chainI (aIdx _)) ?_); conv => whnf) | (refine And.intro (fun h => ?_) (fun h => ?_) <;> (first | (with_reducible have hd : _ < _ := of_decide_eq_true h) | (with_reducible have hd : _ ≤ _ := of_decide_eq_true h) | (with_reducible have hd : ¬ (_ < _) := of_decide_eq_false h) | (with_reducible have hd : ¬ (_ ≤ _) := of_decide_eq_false h) | skip) <;> conv => whnf) | ((with_reducible refine Both.mk ?_ ?_) <;> conv => whnf) | ((with_reducible refine DOr.l ?_); (conv => whnf)) | ((with_reducible apply Drawn.one); conv => whnf) | ((with_reducible refine Then.mk' ?_); conv => whnf) | (first | exact RefS.self rfl | ((with_reducible refine RefS.mk ?_ ?_); (focus (refine And.intro ?_ (And.intro ?_ (And.intro ?_ rfl)) <;> (conv => whnf) <;> repeat' (first | exact trivial | exact LeE.of (Le.refl _) | exact LeE.nil rfl | (with_reducible refine LeE.of ?_) | (first | first | exact LeAs_c _ _ _ | exact LeAs_pc | exact leI e | exact eo | exact Le.refl _ | exact rfl | exact leI (by first | rfl | omega | (rw [wrap64 (by omega) (by omega)]; omega) | (rw [wrap64 (by omega) (by omega)]; done)) | exact LeCs.refl _ | exact fun i hi => LeCs.refl _ | exact leOwn (by first | rfl | omega)) | ((with_reducible refine And.intro ?_ ?_) <;> conv => whnf)))); exact rfl)) | (refine And.intro ?_ ?_; (focus (first | exact trivial | exact rfl | (with_reducible (first | assumption)) | (refine chainI ?_; (first | (with_reducible (first | assumption)) | decide | omega | (refine And.intro ?_ ?_ <;> first | omega | (simp; omega)) | (simp only [IntKind.wrap_i64]; first | omega | (refine And.intro ?_ ?_ <;> omega)))) | (intro _; (first | (with_reducible (first | assumption)) | decide | omega | (refine And.intro ?_ ?_ <;> first | omega | (simp; omega)) | (simp only [IntKind.wrap_i64]; first | omega | (refine And.intro ?_ ?_ <;> omega)))) | (intro _ _; (first | (with_reducible (first | assumption)) | decide | omega | (refine And.intro ?_ ?_ <;> first | omega | (simp; omega)) | (simp only [IntKind.wrap_i64]; first | omega | (refine And.intro ?_ ?_ <;> omega)))) | (first | (with_reducible (first | assumption)) | decide | omega | (refine And.intro ?_ ?_ <;> first | omega | (simp; omega)) | (simp only [IntKind.wrap_i64]; first | omega | (refine And.intro ?_ ?_ <;> omega))) | ((conv => whnf); intros; (try simp only [decide_eq_true_eq, decide_eq_false_iff_not, Bool.and_eq_true, Bool.or_eq_true, Bool.and_eq_false_imp, Bool.or_eq_false_iff, Bool.not_eq_true', Bool.not_eq_false', beq_iff_eq, bne_iff_ne, ne_eq] at *); (first | (with_reducible (first | assumption)) | decide | omega | (refine And.intro ?_ ?_ <;> first | omega | (simp; omega)) | (simp only [IntKind.wrap_i64]; first | omega | (refine And.intro ?_ ?_ <;> omega)))))); conv => whnf) | (refine And.intro ?_ ?_; (focus (first | exact NoTag.int | exact NoTag.bool | exact NoTag.str | (refine NoTag.of_scalar ?_; rfl))); conv => whnf) | ((with_reducible refine xc_pure ?_); conv => whnf) | ((rw [layA_full]; rotate_left; exact (arrA_len _ _)); conv => whnf) | ((rw [arrA_cutZ]; rotate_left; exact rfl; exact rfl; (focus (first | omega | (simp only [IntKind.wrap_i64]; omega)))); conv => whnf) | ((rw [arrA_layX]; rotate_left; exact rfl; exact rfl; (focus (first | omega | (simp only [IntKind.wrap_i64]; omega)))); conv => whnf) | ((rw [arrC_cutZ]; rotate_left; exact rfl; exact rfl; (focus (first | omega | (simp only [IntKind.wrap_i64]; omega)))); conv => whnf) | ((rw [arrA_cutN]; rotate_left; exact rfl); conv => whnf) | ((rw [arrC_cutN]; rotate_left; exact rfl); conv => whnf) | (rw [arrA_len]; conv => whnf) | ((rw [layA_allN]; rotate_left; (focus (first | exact rfl | exact arrA_len _ _))); conv => whnf) | (rw [toCs_arr]; conv => whnf) | ((rw [mkA_arr]; rotate_left; exact rfl); conv => whnf) | ((rw [mkC_arr]; rotate_left; exact rfl); conv => whnf))
      · have hi' : i < 32 := by omega
        rw [at2 i hi', at3 i hi', dgI_neg, dgI_neg] at h
        have hb : okD t i = false := by
          unfold okD chr
          revert h
          cases (dgR (t.data.toList[2 * i]?.getD 0)).isSome <;> cases (dgR (t.data.toList[2 * i + 1]?.getD 0)).isSome <;> simp
        obtain ⟨e1, e2⟩ := unX_bad (unOk_at i hi' hb)
        rw [e1, e2, arrC_def]
        exact Le.refl _
      · have hi' : i < 32 := by omega
        rw [at2 i hi', at3 i hi', dgI_neg, dgI_neg] at h
        have hg : okD t i = true := by
          unfold okD chr
          revert h
          cases (dgR (t.data.toList[2 * i]?.getD 0)).isSome <;> cases (dgR (t.data.toList[2 * i + 1]?.getD 0)).isSome <;> simp
        have hg1 : (dgR (t.data.toList[2 * i]?.getD 0)).isSome = true ∧ (dgR (t.data.toList[2 * i + 1]?.getD 0)).isSome = true := by
          have h1 := hg
          unfold okD chr at h1
          simpa only [Bool.and_eq_true] using h1
        have e0 : 0 + ((i : Nat) : Int).toNat = i := by omega
        rw [at2 i hi', at3 i hi', e0, upd_ux t i (C.v (.int .u8 (IntKind.u8.wrap (bitsI .or .i64 (shlI .i64 (dgI (t.data.toList[2 * i]?.getD 0)) 4) (dgI (t.data.toList[2 * i + 1]?.getD 0)))))) (congrArg (fun z => C.v (.int .u8 z)) (or_val hg1.1 hg1.2))]
        refine ⟨i + 1, ⟨hi', by simp only [okT, hok, hg]; rfl⟩, ?_, by show 32 - (i + 1) < 32 - i; omega⟩
        (refine And.intro ?_ (And.intro ?_ (And.intro ?_ rfl)) <;> (conv => whnf) <;> repeat' (first | exact trivial | exact LeE.of (Le.refl _) | exact LeE.nil rfl | (with_reducible refine LeE.of ?_) | (first | first | exact LeAs_c _ _ _ | exact LeAs_pc | exact leI e | exact eo | exact Le.refl _ | exact rfl | exact leI (by first | rfl | omega | (rw [wrap64 (by omega) (by omega)]; omega) | (rw [wrap64 (by omega) (by omega)]; done)) | exact LeCs.refl _ | exact fun i hi => LeCs.refl _ | exact leOwn (by first | rfl | omega)) | ((with_reducible refine And.intro ?_ ?_) <;> conv => whnf)))
      · have : ¬ ((i : Int) < (32 : Nat)) := hd
        obtain rfl : i = 32 := by omega
        obtain ⟨e1, e2⟩ := unX_ok (unOk_all hs hok)
        rw [e1, e2]
        exact Le.refl _
end Go.Proofs.YtpnapenjamcilaaDoor
