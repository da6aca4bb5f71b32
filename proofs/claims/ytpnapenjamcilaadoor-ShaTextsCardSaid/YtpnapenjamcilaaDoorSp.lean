/- Contracts of functions of the program, and the laws that stand on them: what each function answers, whatever its arguments. -/
import Derived.Test.YtpnapenjamcilaaDoorSo
import Derived.Test.YtpnapenjamcilaaDoorSk
set_option linter.unusedSectionVars false
set_option linter.unnecessarySimpa false
namespace Go.Proofs.YtpnapenjamcilaaDoor
set_option linter.unusedSimpArgs false
set_option linter.unusedVariables false
set_option maxRecDepth 100000
set_option maxHeartbeats 8000000
open Go Go.VA Go.RowKit Go.ChangeShapes Go.WideShapes Go.ChangeAt
theorem repVs_at {S : Rd} : ∀ (xs : List C) (us : List Value), us.length = xs.length → (∀ (i : Nat) (x : C), xs[i]? = some x → ∃ u, us[i]? = some u ∧ RepC S x u) → RepVs S xs us
  | [], us, hl, _ => by simpa [RepVs] using hl
  | x :: xs, [], hl, _ => by simp at hl
  | x :: xs, u :: us, hl, h => by
    simp only [RepVs]
    obtain ⟨u', h1, h2⟩ := h 0 x rfl
    simp only [List.getElem?_cons_zero, Option.some.injEq] at h1
    subst h1
    exact ⟨u, us, rfl, h2, repVs_at xs us (by simpa using hl) fun i y hy => by simpa using h (i + 1) y (by simpa using hy)⟩
section
variable {H : Type} {enc : TypeId × Value → H} {W : World} {base : Nat} {sp : Nat → Bool} {held : Bool}
theorem open_sum {v : Value} {d : DataW H} {ps : List MemPlace} {r : Reach} {b0 : Nat} (hval : Value.okWide Tryd.prog W r b0 27 v) (hd : DataW.Trod enc Tryd.prog W base sp held 27 v d ps) :
    ∃ s : Nat → UInt8, ∀ S, RelV [] S (.ag (sumC s)) v := by
  obtain ⟨arr, rfl, hc⟩ := arg_agg htb (t := 27) rfl hval
  obtain ⟨fuel, hf⟩ := hd
  rw [hc] at hf
  have hu : Tryd.prog.underlying 27 = some (.array 32 5) := by kernel_rfl
  obtain ⟨xs, m, _, hx, hlen, hn, hel⟩ := DataW.trod_array hu hf
  have hce : Tryd.prog.cellsOf 5 = 1 := by rw [cellsOf_tb htb rfl]; rfl
  have hcs : Tryd.prog.cellsOf 27 = 32 := by rw [cellsOf_tb htb rfl]; rfl
  have hex : ∀ i : Nat, ∃ x : UInt8, i < 32 → arr.toList[i]? = some (.int .u8 (x.toNat : Int)) := by
    intro i
    by_cases hi : i < 32
    · have hy := hel i hi
      rw [hce, List.getElem?_eq_getElem (by omega)] at hy
      obtain ⟨n, e1, h0, h255⟩ := tr_int htb (t := 5) (k := .u8) rfl hy
      have h0 : 0 ≤ n := h0
      have h255 : n ≤ 255 := h255
      refine ⟨UInt8.ofNat n.toNat, fun _ => ?_⟩
      have e : ((UInt8.ofNat n.toNat).toNat : Int) = n := by
        rw [UInt8.toNat_ofNat']; omega
      rw [e]
      have := congrArg (fun l => l[0]?) e1
      simpa [List.getElem?_take, List.getElem?_drop] using this
    · exact ⟨0, fun h => absurd h hi⟩
  have hf := fun i => Classical.choose_spec (hex i)
  refine ⟨fun i => Classical.choose (hex i), fun S => relV_agg rfl ?_⟩
  rw [← arr_sumC]
  refine repVs_at _ _ (by rw [hlen, hcs, arrC_length]) fun i x hx => ?_
  rw [arrC_get] at hx
  split at hx
  · rename_i hi
    simp only [Option.some.injEq] at hx
    subst hx
    exact ⟨_, hf i hi, by simp [RepC, Value.oneCell', cb]⟩
  · simp at hx
end
set_option maxRecDepth 100000 in
theorem shaTexts_lifted (os : Os) (started : os.Started) (H : Type) (enc : TypeId × Value → H) :
    ReturnsInHanded {} Tryd.checked os 6 .any (fun w args => (Rows.shaTextsSpec.pre enc Tryd.prog Tryd.f6 Rows.shaTextsRow.domain false w args ∧ laidMetH Tryd.prog Rows.shaNilRow.laid w) ∧ sizedMet enc Tryd.prog Tryd.f6 (OpenSpec.ofChange Rows.shaTextsSpec) false w args) (Rows.shaTextsSpec.post enc Tryd.prog Tryd.f6 false true false false) := by
  refine law_liftedL Rows.shaNilRow.laid os started own (by kernel_rfl) Tryd.func6 laidOut (by kernel_rfl) rfl rfl rfl (tb := 4) (by kernel_rfl) (fun ds h => ?_)
    (ChangeSpec.witness_shaped (enc := enc) (C := Tryd.checked) (os := os) (X := fun w _ => laidMetH Tryd.prog Rows.shaNilRow.laid w) false (World.doorLaid Tryd.prog 19 os) #[.agg (Array.replicate 32 (.int .u8 0)), .string ByteArray.empty] 8 rfl (World.shaped_of_RefB (by kernel_rfl) (by kernel_rfl)) (by kernel_rfl) (by kernel_rfl) (by kernel_rfl) (door_met os _)) ?_
  · match ds, h with | [_, _], _ => rfl
  · intro W base args ds ps hval hA0 hs hL
    have hA : DataW.TrodAll enc Tryd.prog W 0 (fun _ => true) true [27, 9] args.toList ds ps := hA0
    obtain ⟨v0, v1, d0, d1, p0, p1, rfl, rfl, rfl, h0, h1⟩ := trodAll_two hA
    obtain ⟨d, e0⟩ := open_sum (hval 0 27 v0 rfl rfl) h0
    obtain ⟨s, rfl, _⟩ := Go.ChangeMaps.open_string (by kernel_rfl) (hval 1 9 v1 rfl rfl) h1
    exact acall_true (aTexts d s) W _ (glOk_laid hL) ⟨_, _, rfl, e0 _, _, _, rfl, by simp [RelV, RepC, Value.oneCell'], rfl⟩
theorem shaTexts_holds : Rows.ShaTextsSaid :=
  OpenClaim.holds_of_wide 6 Tryd.f6 rfl rfl rfl rfl rfl rfl rfl ⟨rfl, rfl, rfl, rfl, rfl⟩ rfl rfl rfl rfl rfl (by kernel_rfl) Tryd.func6 (by kernel_rfl)
    (of_decide_eq_true (by kernel_rfl)) (by unfold Func.isWrapper; rw [if_neg (by decide +kernel)]; exact ⟨rfl, rfl⟩)
    (fun os started H enc _ => shaTexts_lifted os started H enc)
theorem shaTextsCard_holds : Rows.ShaTextsCardSaid :=
  Claim7.holds_tied_plain_at .later [] [.data, .data] true (true, "4ca3d889da210cb43c6a61a2d049359a7945a6de1e862ab237ab2b0cbaf27429") false
    shaTexts_holds (fun _ h => by cases h) (by kernel_rfl) (fun _ h => by cases h) shaTexts_row_tie rfl ⟨rfl, rfl⟩ (by kernel_rfl) rfl
    (fun f fn hf hfn => by
      obtain rfl : f = 6 := Option.some.inj ((show Tryd.prog.funcNamed Rows.shaTextsRow.func = some 6 by kernel_rfl).symm.trans hf) |>.symm
      obtain rfl : fn = Tryd.f6 := (Option.some.inj (Tryd.func6.symm.trans hfn)).symm
      exact ⟨by kernel_rfl, fun j t ht => by
        have ht' : (#[27, 9] : Array TypeId)[j]? = some t := ht
        have hm : t ∈ [27, 9] := by simpa using Array.mem_of_getElem? ht'
        have hall : ([27, 9].all fun u => !Tryd.prog.wantsStandIn u) = true := by kernel_rfl
        exact (show Tryd.prog.wantsStandIn t = false by simpa using List.all_eq_true.1 hall t hm)⟩)
    (by kernel_rfl)
#print axioms shaTextsCard_holds
end Go.Proofs.YtpnapenjamcilaaDoor
