/- Contracts of functions of the program, and the laws that stand on them: what each function answers, whatever its arguments. -/
import Derived.Test.YteajajplgjacdaaT2
import Derived.Test.YteajajplgjacdaaVB
import Derived.Test.YteajajplgjacdaaRows
namespace Go.Proofs.Yteajajplgjacdaa
open Go Go.VA Go.RowKit Go.ChangeShapes Go.WideShapes Go.ChangeAt
/-! ### plain laws -/
theorem chk_mem {a : Ty} (h : chk a = true) : a ∈ tys := by
  obtain ⟨k, o⟩ := a
  simp only [chk, Bool.not_eq_true', Bool.or_eq_false_iff, decide_eq_false_iff_not, Bool.and_eq_false_imp, Bool.not_eq_true, bne_eq_false_iff_eq] at h
  obtain ⟨⟨⟨⟨h1, h2⟩, h3⟩, h4⟩, h5⟩ := h
  have hk : k = 0 ∨ k = 1 ∨ k = 2 ∨ k = 3 ∨ k = 4 ∨ k = 5 := by omega
  have ho : o = 0 ∨ o = 1 ∨ o = 2 ∨ o = 3 := by omega
  rcases hk with rfl | rfl | rfl | rfl | rfl | rfl <;> rcases ho with rfl | rfl | rfl | rfl <;> first | decide | (exfalso; revert h5; decide)
theorem chkR_eq (a : Ty) : chkR a = chk a := by
  obtain ⟨k, o⟩ := a
  rw [Bool.eq_iff_iff]
  simp only [chk, chkR]
  split
  · simp at *; omega
  · simp at *; omega
theorem wi_l {a b : Ty} (h : chk a = false) : wi a b = false := by simp [wi, errc, h]
theorem wi_r {a b : Ty} (h : chk b = false) : wi a b = false := by simp [wi, errc, h]
theorem wiR_l {a b : Ty} (h : chk a = false) : wiR a b = false := by simp [wiR, chkR_eq, h]
theorem wiR_r {a b : Ty} (h : chk b = false) : wiR a b = false := by simp [wiR, chkR_eq, h]
theorem joG_no {a b : Ty} (h : ∀ i, (!wiR a (ty i) || !wiR b (ty i)) = true) : ∀ n i, joG a b n i = (0, 0)
  | 0, _ => rfl
  | n + 1, i => by rw [joG, if_pos (h i)]; exact joG_no h n (i + 1)
theorem meG_no {a b : Ty} (h : ∀ i, (!wiR (ty i) a || !wiR (ty i) b) = true) : ∀ n i, meG a b n i = ((0, 0), false)
  | 0, _ => rfl
  | n + 1, i => by rw [meG, if_pos (h i)]; exact meG_no h n (i + 1)
theorem ordB_all (a b : Ty) : ordB a b = true := by
  by_cases ha : chk a = true
  · by_cases hb : chk b = true
    · have : ∀ a ∈ tys, ∀ b ∈ tys, ordB a b = true := by decide +kernel
      exact this a (chk_mem ha) b (chk_mem hb)
    · have hb : chk b = false := by simpa using hb
      have e1 : joR a b = (0, 0) := joG_no (fun i => by simp [wiR_l hb]) 12 0
      have e2 : meR a b = ((0, 0), false) := meG_no (fun i => by simp [wiR_r hb]) 12 0
      simp [ordB, chkR_eq, errc, ha, hb, wi_r hb, wiR_r hb, jo, mee, wi_l hb, e1, e2, eqT]
  · have ha : chk a = false := by simpa using ha
    have e1 : joR a b = (0, 0) := joG_no (fun i => by simp [wiR_l ha]) 12 0
    have e2 : meR a b = ((0, 0), false) := meG_no (fun i => by simp [wiR_r ha]) 12 0
    simp [ordB, chkR_eq, errc, ha, wi_r ha, wiR_l ha, jo, mee, wi_l ha, e1, e2, eqT]
theorem lawF_all (a b c : Ty) : lawF a b c = false := by
  by_cases ha : chk a = true
  · by_cases hb : chk b = true
    · by_cases hc : chk c = true
      · have : ∀ a ∈ tys, ∀ b ∈ tys, ∀ c ∈ tys, lawF a b c = false := by decide +kernel
        exact this a (chk_mem ha) b (chk_mem hb) c (chk_mem hc)
      · have hc : chk c = false := by simpa using hc
        have : ∀ a ∈ tys, ∀ b ∈ tys, (wi a b && wi b a && !eqT a b || errc a == 0 && !wi a a) = false := by decide +kernel
        have := this a (chk_mem ha) b (chk_mem hb)
        simpa [lawF, wi_r hc] using this
    · have hb : chk b = false := by simpa using hb
      have : ∀ a ∈ tys, (errc a == 0 && !wi a a) = false := by decide +kernel
      have := this a (chk_mem ha)
      simpa [lawF, wi_r hb, wi_l hb] using this
  · have ha : chk a = false := by simpa using ha
    simp [lawF, wi_l ha, errc, ha]
theorem chk0 : chk (0, 0) = true := by decide
theorem jo_l {a b : Ty} (h : chk a = false) : jo a b = (0, 0) := by simp [jo, errc, h]
theorem jo_r {a b : Ty} (h : chk b = false) : jo a b = (0, 0) := by simp [jo, errc, h]
theorem lawT_all (a b c : Ty) : lawT a b c = true := by
  by_cases ha : chk a = true
  · by_cases hb : chk b = true
    · by_cases hc : chk c = true
      · have : ∀ a ∈ tys, ∀ b ∈ tys, ∀ c ∈ tys, lawT a b c = true := by decide +kernel
        exact this a (chk_mem ha) b (chk_mem hb) c (chk_mem hc)
      · have hc : chk c = false := by simpa using hc
        have : ∀ a ∈ tys, ∀ b ∈ tys, (eqT (jo a b) (jo b a) && eqT (0, 0) (jo a (0, 0)) && eqT (mee a b).1 (mee b a).1 && ((mee a b).2 == (mee b a).2)) = true := by decide +kernel
        have := this a (chk_mem ha) b (chk_mem hb)
        simpa [lawT, jo_r hc] using this
    · have hb : chk b = false := by simpa using hb
      by_cases hc : chk c = true
      · have : ∀ a ∈ tys, ∀ c ∈ tys, eqT (jo (0, 0) c) (jo a (0, 0)) = true := by decide +kernel
        have := this a (chk_mem ha) c (chk_mem hc)
        simp [lawT, jo_r hb, jo_l hb, this, mee, wi_l hb, wi_r hb, eqT]
        simpa [eqT] using this
      · have hc : chk c = false := by simpa using hc
        have : ∀ a ∈ tys, eqT (0, 0) (jo a (0, 0)) = true := by decide +kernel
        have := this a (chk_mem ha)
        simp [lawT, jo_r hb, jo_l hb, jo_r hc, mee, wi_l hb, wi_r hb, eqT]
        simpa [eqT] using this
  · have ha : chk a = false := by simpa using ha
    by_cases hc : chk c = true
    · have : ∀ c ∈ tys, eqT (jo (0, 0) c) (0, 0) = true := by decide +kernel
      have := this c (chk_mem hc)
      simp [lawT, jo_r ha, jo_l ha, mee, wi_l ha, wi_r ha, eqT]
      simpa [eqT] using this
    · have hc : chk c = false := by simpa using hc
      simp [lawT, jo_r ha, jo_l ha, jo_r hc, mee, wi_l ha, wi_r ha, eqT]
theorem cod1_all (a : Ty) : cod1 a = false := by
  by_cases ha : chk a = true
  · have : ∀ a ∈ tys, cod1 a = false := by decide +kernel
    exact this a (chk_mem ha)
  · have ha : chk a = false := by simpa using ha
    simp [cod1, codN, codeT, ha, chkR_eq]
theorem cod2_all (c : Int) (h1 : 0 ≤ c) (h2 : c ≤ 255) : cod2 c = false := by
  have : ∀ n : Nat, n < 256 → cod2 n = false := by decide +kernel
  have := this c.toNat (by omega)
  rwa [Int.toNat_of_nonneg h1] at this
/-! ### the rows -/
theorem own : ownKnob Try.prog.godebug = none := by kernel_rfl
theorem laidOut : laidOutB Try.prog = true := by kernel_rfl
theorem u3 : Try.prog.underlying 3 = some (.int .i64) := by kernel_rfl
section
variable {H : Type} {enc : TypeId × Value → H} {W : World} {base : Nat} {sp : Nat → Bool} {held : Bool}
theorem open_ty {v : Value} {d : DataW H} {ps : List MemPlace} {r : Reach} {b0 : Nat} (hval : Value.okWide Try.prog W r b0 23 v) (hd : DataW.Trod enc Try.prog W base sp held 23 v d ps) :
    ∃ k o : Int, ∀ S, RelV [] S (.ag [.v (.int .i64 k), .v (.int .i64 o)]) v := by
  obtain ⟨arr, rfl, hc⟩ := arg_agg htb (t := 23) rfl hval
  obtain ⟨fuel, hf⟩ := hd
  rw [hc] at hf
  obtain ⟨hl, m, rfl, hx⟩ := tr_struct htb (t := 23) rfl hf
  obtain ⟨y0, h0⟩ := hx 0 0 3 rfl rfl
  obtain ⟨y1, h1⟩ := hx 1 1 3 rfl rfl
  obtain ⟨k, e0, _⟩ := tr_int htb (t := 3) (k := .i64) rfl h0
  obtain ⟨o, e1, _⟩ := tr_int htb (t := 3) (k := .i64) rfl h1
  refine ⟨k, o, fun S => relV_agg rfl ?_⟩
  generalize arr.toList = l at *
  match l, hl, e0, e1 with
  | [a, b], _, e0, e1 =>
    simp [tb, tbl, VA.look] at e0 e1
    subst e0; subst e1
    simp [RepVs, RepC, Value.oneCell']
end
theorem typOrder_lifted (os : Os) (started : os.Started) (H : Type) (enc : TypeId × Value → H) :
    ReturnsInHanded {} Try.checked os 3 .any (Rows.typOrderSpec.pre6 enc Try.prog Try.f3 Rows.typOrderRow.domain false) (Rows.typOrderSpec.post enc Try.prog Try.f3 false true false false) := by
  refine law_lifted os started own (by kernel_rfl) Try.func3 laidOut (by kernel_rfl) rfl rfl (tb := 4) (by kernel_rfl) (fun ds h => ?_)
    (ChangeSpec.witness6 (enc := enc) (C := Try.checked) false ⟨#[], #[.agg #[.int .i64 0, .int .i64 0], .agg #[.int .i64 0, .int .i64 0]], []⟩ 8 (by kernel_rfl) (by kernel_rfl) (by kernel_rfl) (by kernel_rfl)) ?_
  · match ds, h with | [_, _], _ => rfl
  · intro W base args ds ps hval hA0
    have hA : DataW.TrodAll enc Try.prog W 0 (fun _ => true) true [23, 23] args.toList ds ps := hA0
    obtain ⟨v0, v1, d0, d1, p0, p1, rfl, rfl, rfl, h0, h1⟩ := trodAll_two hA
    obtain ⟨k0, o0, e0⟩ := open_ty (hval 0 23 v0 rfl rfl) h0
    obtain ⟨k1, o1, e1⟩ := open_ty (hval 1 23 v1 rfl rfl) h1
    exact acall_true (a3 k0 o0 k1 o1 (ordB_all _ _)) W _ (glOk_nil _) ⟨_, _, rfl, e0 _, _, _, rfl, e1 _, rfl⟩
theorem typLaws_lifted (os : Os) (started : os.Started) (H : Type) (enc : TypeId × Value → H) :
    ReturnsInHanded {} Try.checked os 4 .any (Rows.typLawsSpec.pre6 enc Try.prog Try.f4 Rows.typLawsRow.domain false) (Rows.typLawsSpec.post enc Try.prog Try.f4 false true false false) := by
  refine law_lifted os started own (by kernel_rfl) Try.func4 laidOut (by kernel_rfl) rfl rfl (tb := 4) (by kernel_rfl) (fun ds h => ?_)
    (ChangeSpec.witness6 (enc := enc) (C := Try.checked) false ⟨#[], #[.agg #[.int .i64 0, .int .i64 0], .agg #[.int .i64 0, .int .i64 0], .agg #[.int .i64 0, .int .i64 0]], []⟩ 8 (by kernel_rfl) (by kernel_rfl) (by kernel_rfl) (by kernel_rfl)) ?_
  · match ds, h with | [_, _, _], _ => rfl
  · intro W base args ds ps hval hA0
    have hA : DataW.TrodAll enc Try.prog W 0 (fun _ => true) true [23, 23, 23] args.toList ds ps := hA0
    obtain ⟨v0, v1, v2, d0, d1, d2, p0, p1, p2, rfl, rfl, rfl, h0, h1, h2⟩ := trodAll_three hA
    obtain ⟨k0, o0, e0⟩ := open_ty (hval 0 23 v0 rfl rfl) h0
    obtain ⟨k1, o1, e1⟩ := open_ty (hval 1 23 v1 rfl rfl) h1
    obtain ⟨k2, o2, e2⟩ := open_ty (hval 2 23 v2 rfl rfl) h2
    exact acall_true (a4 k0 o0 k1 o1 k2 o2 (lawF_all _ _ _) (lawT_all _ _ _)) W _ (glOk_nil _) ⟨_, _, rfl, e0 _, _, _, rfl, e1 _, _, _, rfl, e2 _, rfl⟩
theorem typCodes_lifted (os : Os) (started : os.Started) (H : Type) (enc : TypeId × Value → H) :
    ReturnsInHanded {} Try.checked os 5 .any (Rows.typCodesSpec.pre6 enc Try.prog Try.f5 Rows.typCodesRow.domain false) (Rows.typCodesSpec.post enc Try.prog Try.f5 false true false false) := by
  refine law_lifted os started own (by kernel_rfl) Try.func5 laidOut (by kernel_rfl) rfl rfl (tb := 4) (by kernel_rfl) (fun ds h => ?_)
    (ChangeSpec.witness6 (enc := enc) (C := Try.checked) false ⟨#[], #[.agg #[.int .i64 0, .int .i64 0], .int .u8 0], []⟩ 8 (by kernel_rfl) (by kernel_rfl) (by kernel_rfl) (by kernel_rfl)) ?_
  · match ds, h with | [_, _], _ => rfl
  · intro W base args ds ps hval hA0
    have hA : DataW.TrodAll enc Try.prog W 0 (fun _ => true) true [23, 5] args.toList ds ps := hA0
    obtain ⟨v0, v1, d0, d1, p0, p1, rfl, rfl, rfl, h0, h1⟩ := trodAll_two hA
    obtain ⟨k0, o0, e0⟩ := open_ty (hval 0 23 v0 rfl rfl) h0
    obtain ⟨c, rfl, _, _, wc⟩ := open_int (k := .u8) (by kernel_rfl) (hval 1 5 v1 rfl rfl) h1
    simp only [Lit.wf, Bool.and_eq_true, decide_eq_true_eq] at wc
    exact acall_true (a5 k0 o0 c (cod1_all _) (cod2_all c wc.1 wc.2)) W _ (glOk_nil _) ⟨_, _, rfl, e0 _, _, _, rfl, by simp [intA, RelV, RepC, Value.oneCell'], rfl⟩
theorem typOrder_holds : Rows.TypOrderSaid :=
  OpenClaim.holds_of_wide 3 Try.f3 rfl rfl rfl rfl rfl rfl rfl ⟨rfl, rfl, rfl, rfl, rfl⟩ rfl rfl rfl rfl rfl (by kernel_rfl) Try.func3 (by kernel_rfl)
    (of_decide_eq_true (by kernel_rfl)) (by unfold Func.isWrapper; rw [if_neg (by decide +kernel)]; exact ⟨rfl, rfl⟩)
    (fun os started H enc _ => typOrder_lifted os started H enc)
theorem typLaws_holds : Rows.TypLawsSaid :=
  OpenClaim.holds_of_wide 4 Try.f4 rfl rfl rfl rfl rfl rfl rfl ⟨rfl, rfl, rfl, rfl, rfl⟩ rfl rfl rfl rfl rfl (by kernel_rfl) Try.func4 (by kernel_rfl)
    (of_decide_eq_true (by kernel_rfl)) (by unfold Func.isWrapper; rw [if_neg (by decide +kernel)]; exact ⟨rfl, rfl⟩)
    (fun os started H enc _ => typLaws_lifted os started H enc)
theorem typCodes_holds : Rows.TypCodesSaid :=
  OpenClaim.holds_of_wide 5 Try.f5 rfl rfl rfl rfl rfl rfl rfl ⟨rfl, rfl, rfl, rfl, rfl⟩ rfl rfl rfl rfl rfl (by kernel_rfl) Try.func5 (by kernel_rfl)
    (of_decide_eq_true (by kernel_rfl)) (by unfold Func.isWrapper; rw [if_neg (by decide +kernel)]; exact ⟨rfl, rfl⟩)
    (fun os started H enc _ => typCodes_lifted os started H enc)
end Go.Proofs.Yteajajplgjacdaa
