/- Contracts of functions of the program, and the laws that stand on them: what each function answers, whatever its arguments. -/
import Derived.Test.YtcgcamfhollnlaaGreatDoorC6
set_option linter.unusedSectionVars false
set_option linter.unnecessarySimpa false
namespace Go.Proofs.YtcgcamfhollnlaaGreatDoor
set_option linter.unusedSimpArgs false
set_option linter.unusedVariables false
set_option maxRecDepth 100000
set_option maxHeartbeats 8000000
open Go Go.VA
def kdOf (c : Int) : Int := IntKind.i64.wrap (bitsI .andNot .u8 c 128)
def scOf (c : Int) : Bool := bitsI .and .u8 c 128 != 0
def dpB (deep b : Int) : Int := if decide (deep > 8) then failB b 12 else b
def vHd (s : ByteArray) (deep a b : Int) : Int × Int × Int := rByte s a (dpB deep b)
def vBd (s : ByteArray) (deep a b : Int) : Int := if decide (kdOf (vHd s deep a b).1 > 6) then failB (vHd s deep a b).2.2 4 else (vHd s deep a b).2.2
def rdKd (val : Int → Int → V × Int × Int) (s : ByteArray) (kd : Int) (sc : Bool) (a b : Int) : V × Int × Int :=
  if kd == 1 then (.mk kd (IntKind.i64.wrap (rByte s a b).1) ByteArray.empty [] [] 0 0 sc, (rByte s a b).2.1, if decide (IntKind.i64.wrap (rByte s a b).1 > 1) then failB (rByte s a b).2.2 4 else (rByte s a b).2.2)
  else if kd == 2 then (.mk kd (zag (rShort s a b).1) ByteArray.empty [] [] 0 0 sc, (rShort s a b).2.1, (rShort s a b).2.2)
  else if kd == 3 then (.mk kd 0 (rText s a b).1 [] [] 0 0 sc, (rText s a b).2.1, (rText s a b).2.2)
  else if kd == 6 then (.mk kd 0 ByteArray.empty [] [] (ofC (rByte s a b).1).1.1 (ofC (rByte s a b).1).1.2 sc, (rByte s a b).2.1, if (ofC (rByte s a b).1).2 != 0 then failB (rByte s a b).2.2 (ofC (rByte s a b).1).2 else (rByte s a b).2.2)
  else if kd == 4 || kd == 5 then (.mk kd 0 ByteArray.empty (rdAll val s kd a b).2.1 (rdAll val s kd a b).1 0 0 sc, (rdAll val s kd a b).2.2.1, (rdAll val s kd a b).2.2.2)
  else (.mk kd 0 ByteArray.empty [] [] 0 0 sc, a, b)
def rdV1 (val : Int → Int → V × Int × Int) (s : ByteArray) (deep a b : Int) : V × Int × Int :=
  if vBd s deep a b != 0 then (V.z, (vHd s deep a b).2.1, vBd s deep a b) else rdKd val s (kdOf (vHd s deep a b).1) (scOf (vHd s deep a b).1) (vHd s deep a b).2.1 (vBd s deep a b)
theorem rByte_ok (s : ByteArray) (a b : Int) (h0 : 0 ≤ a) (h1 : a ≤ s.size) : 0 ≤ (rByte s a b).2.1 ∧ (rByte s a b).2.1 ≤ s.size := by
  unfold rByte
  split
  · exact ⟨h0, h1⟩
  · split
    · exact ⟨h0, h1⟩
    · rename_i h
      have : ¬ a ≥ s.size := by simpa using h
      exact ⟨by show 0 ≤ a + 1; omega, by show a + 1 ≤ _; omega⟩
theorem vBd_deep {s : ByteArray} {deep a b : Int} (h : vBd s deep a b = 0) : deep ≤ 8 := by
  by_cases hd : deep > 8
  · exfalso
    have hb : dpB deep b ≠ 0 := by
      unfold dpB failB
      rw [if_pos (by simpa using hd)]
      split <;> simp_all
    have e : vHd s deep a b = (0, a, dpB deep b) := by unfold vHd rByte; rw [if_pos (by simpa using hb)]
    unfold vBd at h
    rw [e, if_neg (by show ¬ (decide (kdOf 0 > 6) = true); decide)] at h
    exact hb h
  · omega
theorem ne0 {x : Int} (h : (x != 0) = false) : x = 0 := by simpa using h
set_option maxHeartbeats 4000000 in
theorem mValue (t : Bool) (s : ByteArray) (a b deep : Int) (val : Int → Int → V × Int × Int) (h0 : 0 ≤ a) (h1 : a ≤ s.size) (hv : deep ≤ 8 → ValOk t s deep val) :
    MCall Tryz.prog gl 51 [cR t s a b] [.ptr 0 0, intA .i64 deep]
      [cR t s (rdV1 val s deep a b).2.1 (rdV1 val s deep a b).2.2] (.ag (cV (rdV1 val s deep a b).1)) := by
  refine mcall_of_vcb htb hmix (f := 51) rfl rfl rfl (by kernel_rfl) rfl rfl rfl fun hb hb2 => ?_; simp only [bndPre, bndAll, AV.bnd, bnds, C.bnd, true_and, and_true] at hb hb2; conv => whnf
  have R1 : ∀ b', 0 ≤ (rByte s a b').2.1 ∧ (rByte s a b').2.1 ≤ s.size := fun b' => rByte_ok s a b' h0 h1
  repeat' (first | (refine Exists.intro _ (And.intro (aZag _) ?_); conv => whnf) | (refine Exists.intro _ (And.intro (aOf _) ?_); conv => whnf) | (refine And.intro (fun h => ?_) (fun h => ?_) <;> (first | (with_reducible have hd : _ < _ := of_decide_eq_true h) | (with_reducible have hd : ¬ (_ < _) := of_decide_eq_false h) | skip) <;> conv => whnf) | (refine And.intro ?_ ?_; (focus (first | ((conv => whnf); intros; (try simp only [decide_eq_true_eq, decide_eq_false_iff_not, Bool.and_eq_true, Bool.or_eq_true, Bool.and_eq_false_imp, Bool.or_eq_false_iff, Bool.not_eq_true', Bool.not_eq_false', beq_iff_eq, bne_iff_ne, ne_eq] at *); (first | omega | fail)))); conv => whnf) | ((with_reducible refine xc_guard ?_); refine xc_mb (by (conv => whnf); repeat' (first | exact trivial | exact rfl | exact LeC.refl _ | ((with_reducible refine And.intro ?_ ?_) <;> conv => whnf))) (mByte _ _ _ _ (by first | exact h0 | exact (R1 _).1) (by first | exact h1 | exact (R1 _).2)) rfl rfl rfl rfl ?_; conv => whnf) | ((with_reducible refine xc_guard ?_); refine xc_mb (by (conv => whnf); repeat' (first | exact trivial | exact rfl | exact LeC.refl _ | ((with_reducible refine And.intro ?_ ?_) <;> conv => whnf))) (mShort _ _ _ _ (R1 _).1 (R1 _).2) rfl rfl rfl rfl ?_; conv => whnf) | ((with_reducible refine xc_guard ?_); refine xc_mb (by (conv => whnf); repeat' (first | exact trivial | exact rfl | exact LeC.refl _ | ((with_reducible refine And.intro ?_ ?_) <;> conv => whnf))) (mText _ _ _ _ (R1 _).1 (R1 _).2) rfl rfl rfl rfl ?_; conv => whnf) | ((with_reducible refine xc_guard ?_); refine xc_mb (by (conv => whnf); repeat' (first | exact trivial | exact rfl | exact LeC.refl _ | ((with_reducible refine And.intro ?_ ?_) <;> conv => whnf))) (mFail _ _ _ _ _) rfl rfl rfl rfl ?_; conv => whnf) | ((with_reducible refine xc_guard ?_); refine xc_mb (by (conv => whnf); repeat' (first | exact trivial | exact rfl | exact LeC.refl _ | ((with_reducible refine And.intro ?_ ?_) <;> conv => whnf))) (mItems _ _ _ _ _ _ _ val (R1 _).1 (R1 _).2 (hv (by refine vBd_deep (s := s) (a := a) (b := b) ?_; simp only [vBd, vHd, dpB, kdOf, if_true, if_false, Bool.false_eq_true, decide_true, decide_false, gt_iff_lt, *]; exact ne0 (by assumption)))) rfl rfl rfl rfl ?_; conv => whnf) | ((with_reducible refine xc_pure ?_); conv => whnf))
  all_goals first
    | trivial
    | exact (Bool.noConfusion ((show (IntKind.i64.wrap _ == 4) = true by assumption).symm.trans (by assumption : _ = false)))
    | (simp only [rdV1, vBd, vHd, dpB, rdKd, kdOf, scOf, if_true, if_false, Bool.false_eq_true, decide_true, decide_false, gt_iff_lt, Bool.or_true, Bool.or_false, Bool.true_or, Bool.false_or, *]; done)
    | (simp only [rdV1, vBd, vHd, dpB, rdKd, kdOf, scOf, if_true, if_false, Bool.false_eq_true, decide_true, decide_false, gt_iff_lt, Bool.or_true, Bool.or_false, Bool.true_or, Bool.false_or, *]
       refine ⟨leAg ⟨LeC.refl _, LeC.refl _, LeC.refl _, ?_, ?_, LeC.refl _, LeC.refl _, LeC.refl _, trivial⟩, ⟨LeC.refl _, LeC.refl _, LeC.refl _, trivial⟩, trivial⟩ <;> first | exact LeC.refl _ | exact LeC.nil rfl)
def rdVal (s : ByteArray) : Nat → Int → Int → Int → V × Int × Int
  | 0, deep, a, b => rdV1 (fun a b => (V.z, a, b)) s deep a b
  | m + 1, deep, a, b => rdV1 (rdVal s m (IntKind.i64.wrap (deep + 1))) s deep a b
theorem rdIt_ok {val : Int → Int → V × Int × Int} {s : ByteArray} {kind : Int} (hv : ∀ a b : Int, 0 ≤ a → a ≤ s.size → 0 ≤ (val a b).2.1 ∧ (val a b).2.1 ≤ s.size) : ∀ (m : Nat) (ks : List ByteArray) (l : List V) (a b : Int), 0 ≤ a → a ≤ s.size → 0 ≤ (rdIt val s kind m ks l a b).2.2.1 ∧ (rdIt val s kind m ks l a b).2.2.1 ≤ s.size
  | 0, ks, l, a, b, h0, h1 => ⟨h0, h1⟩
  | m + 1, ks, l, a, b, h0, h1 => by
    simp only [rdIt]
    split
    · exact ⟨h0, h1⟩
    · have hk : 0 ≤ (rdK s kind ks a b).2.1 ∧ (rdK s kind ks a b).2.1 ≤ s.size := by
        unfold rdK
        split
        · exact rText_ok s a b h0 h1
        · exact ⟨h0, h1⟩
      have := hv (rdK s kind ks a b).2.1 (rdK s kind ks a b).2.2 hk.1 hk.2
      exact rdIt_ok hv m _ _ _ _ this.1 this.2
theorem rdV1_ok {val : Int → Int → V × Int × Int} {s : ByteArray} {deep a b : Int} (hv : deep ≤ 8 → ∀ a b : Int, 0 ≤ a → a ≤ s.size → 0 ≤ (val a b).2.1 ∧ (val a b).2.1 ≤ s.size) (h0 : 0 ≤ a) (h1 : a ≤ s.size) : 0 ≤ (rdV1 val s deep a b).2.1 ∧ (rdV1 val s deep a b).2.1 ≤ s.size := by
  have q := rByte_ok s a (dpB deep b) h0 h1
  have q : 0 ≤ (vHd s deep a b).2.1 ∧ (vHd s deep a b).2.1 ≤ s.size := q
  unfold rdV1
  split
  · exact q
  · rename_i hb
    have hv := hv (vBd_deep (by simpa using hb))
    generalize (vHd s deep a b).2.1 = a' at *
    generalize vBd s deep a b = b' at *
    unfold rdKd
    split
    · exact rByte_ok s a' b' q.1 q.2
    · split
      · exact (rShort_ok s a' b' q.1 q.2).2
      · split
        · exact rText_ok s a' b' q.1 q.2
        · split
          · exact rByte_ok s a' b' q.1 q.2
          · split
            · have o := rShort_ok s a' b' q.1 q.2
              exact rdIt_ok hv _ _ _ _ _ o.2.1 o.2.2
            · exact q
theorem mVal (t : Bool) (s : ByteArray) : ∀ (m : Nat) (deep : Int), 1 ≤ deep → deep ≤ 1000 → 9 ≤ deep + m → ∀ a b : Int, 0 ≤ a → a ≤ s.size → 0 ≤ (rdVal s m deep a b).2.1 ∧ (rdVal s m deep a b).2.1 ≤ s.size ∧
    MCall Tryz.prog gl 51 [cR t s a b] [.ptr 0 0, intA .i64 deep] [cR t s (rdVal s m deep a b).2.1 (rdVal s m deep a b).2.2] (.ag (cV (rdVal s m deep a b).1))
  | 0, deep, h1, h2, h3, a, b, ha, hb => by
    have := rdV1_ok (val := fun a b => (V.z, a, b)) (deep := deep) (b := b) (fun h => by omega) ha hb
    exact ⟨this.1, this.2, mValue t s a b deep _ ha hb fun h => by omega⟩
  | m + 1, deep, h1, h2, h3, a, b, ha, hb => by
    have ih := fun h : deep ≤ 8 => mVal t s m (deep + 1) (by omega) (by omega) (by omega)
    have hw : deep ≤ 8 → IntKind.i64.wrap (deep + 1) = deep + 1 := fun h => wrap64 (by omega) (by omega)
    have := rdV1_ok (val := rdVal s m (IntKind.i64.wrap (deep + 1))) (deep := deep) (b := b) (fun h a b ha hb => by rw [hw h]; exact ⟨(ih h a b ha hb).1, (ih h a b ha hb).2.1⟩) ha hb
    exact ⟨this.1, this.2, mValue t s a b deep _ ha hb fun h => by
      intro a b ha hb
      rw [hw h]
      exact ih h a b ha hb⟩
end Go.Proofs.YtcgcamfhollnlaaGreatDoor
