/- Contracts of functions of the program, and the laws that stand on them: what each function answers, whatever its arguments. -/
import Derived.Test.YtkhdnhjdmpdblaaM6
import Derived.Test.YtkhdnhjdmpdblaaVo2
import Derived.Test.YtkhdnhjdmpdblaaVD
import Derived.ChangeMaps5
import Derived.Carry
import Derived.Test.YtkhdnhjdmpdblaaRows
set_option linter.unusedSectionVars false
set_option linter.unnecessarySimpa false
namespace Go.Proofs.Ytkhdnhjdmpdblaa
set_option linter.unusedSimpArgs false
set_option linter.unusedVariables false
set_option maxRecDepth 100000
set_option maxHeartbeats 8000000
open Go Go.VA Go.RowKit Go.ChangeShapes Go.WideShapes Go.ChangeAt
theorem own : ownKnob Try.prog.godebug = none := by kernel_rfl
theorem laidOut : laidOutB Try.prog = true := by kernel_rfl
section
variable {H : Type} {enc : TypeId × Value → H} {W : World} {base : Nat} {sp : Nat → Bool} {held : Bool}
theorem open_strs0 {v : Value} {d : DataW H} {ps : List MemPlace} {r : Reach} {b0 : Nat} (hval : Value.okWide Try.prog W r b0 22 v) (hd : DataW.Trod enc Try.prog W base sp held 22 v d ps) (hs : SzW Try.prog 22 d) :
    ∃ l : List ByteArray, RelV [] (S0 W) (.c (.sl false 1 l.length (rS l))) v := by
  have hc := arg_slice htb (t := 22) (e := 9) rfl hval
  obtain ⟨fuel, hf⟩ := hd
  rw [hc] at hf
  obtain ⟨l, u, e, h⟩ := open_strs hf hs
  obtain rfl : v = u := by simpa using e
  exact ⟨l, by simpa [RelV] using h⟩
theorem open_vals0 {v : Value} {d : DataW H} {ps : List MemPlace} {r : Reach} {b0 : Nat} (hval : Value.okWide Try.prog W r b0 23 v) (hd : DataW.Trod enc Try.prog W base sp held 23 v d ps) (hs : SzW Try.prog 23 d) :
    ∃ l : List V, RelV [] (S0 W) (.c (.sl false 8 l.length (rV l))) v := by
  have hcc := arg_slice htb (t := 23) (e := 29) rfl hval
  obtain ⟨fuel, hf⟩ := hd
  rw [hcc] at hf
  obtain ⟨a, len, cap, m3, e3, hm3, hlc, hcap0, hrows⟩ := tr_sliceS htb (t := 23) (e := 29) rfl rfl (by decide) hf hs
  have hcap : len * 104 ≤ 140737488351232 := hcap0
  obtain rfl : v = .slice a len cap := by simpa using e3
  rcases hrows with h0 | ⟨b, o, rfl, hr⟩
  · subst h0
    exact ⟨[], by simpa [RelV] using (show RepC (S0 W) (.sl false 8 0 (rV [])) (.slice a 0 cap) from repC_rows ⟨hlc, by simp⟩ (.inl rfl))⟩
  · have hex : ∀ i : Fin len, ∃ v : V, ∃ ce : List Value, ce.length = 8 ∧ (∀ j, j < 8 → W.cell? ⟨b, o + i * 8 + j, none⟩ = ce[j]?) ∧ RepVs (S0 W) (cV v) ce := by
      intro ⟨i, hi⟩
      obtain ⟨ce, y, hl, hc, ht, hsy⟩ := hr i hi
      obtain ⟨v, hv, _⟩ := open_V (m3 + 1) m3 (Nat.lt_succ_self _) ce y ht hsy
      exact ⟨v, ce, hl, hc, hv⟩
    have hf := fun i => Classical.choose_spec (hex i)
    refine ⟨List.ofFn fun i => Classical.choose (hex i), ?_⟩
    rw [List.length_ofFn]
    show RelV [] (S0 W) (.c _) _
    simp only [RelV]
    refine repC_rows ⟨hlc, by omega⟩ (.inr ⟨b, o, rfl, fun i hi => ?_⟩)
    obtain ⟨ce, g1, g2, g3⟩ := hf ⟨i, hi⟩
    have hrow : rV (List.ofFn fun i => Classical.choose (hex i)) i = cV (Classical.choose (hex ⟨i, hi⟩)) := by
      rw [rV_get (by simpa using hi)]; simp
    rw [hrow]
    refine ⟨ce, g1, fun j hj u hu => ?_, rfl, g3⟩
    have := g2 j hj
    rw [hu] at this
    exact this
end
theorem valueMakes_lifted (os : Os) (started : os.Started) (H : Type) (enc : TypeId × Value → H) :
    ReturnsInHanded {} Try.checked os 3 .any (Rows.valueMakesSpec.pre6 enc Try.prog Try.f3 Rows.valueMakesRow.domain false) (Rows.valueMakesSpec.post enc Try.prog Try.f3 false true false false) := by
  refine law_liftedS os started own (by kernel_rfl) Try.func3 laidOut (by kernel_rfl) rfl rfl rfl (tb := 4) (by kernel_rfl) (fun ds h => ?_)
    (ChangeSpec.witness6 (enc := enc) (C := Try.checked) false ⟨#[], #[.slice none 0 0, .slice none 0 0, .string ByteArray.empty, .int .i64 0, .bool false], []⟩ 8 (by kernel_rfl) (by kernel_rfl) (by kernel_rfl) (by kernel_rfl)) ?_
  · match ds, h with | [_, _, _, _, _], _ => rfl
  · intro W base args ds ps hval hA0 hs
    have hA : DataW.TrodAll enc Try.prog W 0 (fun _ => true) true [22, 23, 9, 2, 4] args.toList ds ps := hA0
    obtain ⟨v0, v1, v2, v3, v4, d0, d1, d2, d3, d4, p0, p1, p2, p3, p4, rfl, rfl, rfl, h0, h1, h2, h3, h4⟩ := trodAll_five hA
    obtain ⟨ks, e0⟩ := open_strs0 (hval 0 22 v0 rfl rfl) h0 (hs 0 22 d0 rfl rfl)
    obtain ⟨vs, e1⟩ := open_vals0 (hval 1 23 v1 rfl rfl) h1 (hs 1 23 d1 rfl rfl)
    obtain ⟨s, rfl, _⟩ := Go.ChangeMaps.open_string (by kernel_rfl) (hval 2 9 v2 rfl rfl) h2
    obtain ⟨n, rfl, _⟩ := open_int (k := .i64) (by kernel_rfl) (hval 3 2 v3 rfl rfl) h3
    obtain ⟨b, rfl, _⟩ := open_bool (by kernel_rfl) (hval 4 4 v4 rfl rfl) h4
    exact acall_true (aMakes false false ks vs s n b) W _ (glOk_nil _) ⟨_, _, rfl, e0, _, _, rfl, e1, _, _, rfl, by simp [RelV, RepC, Value.oneCell'], _, _, rfl, by simp [intA, RelV, RepC, Value.oneCell'], _, _, rfl, by simp [boolA, RelV, RepC, Value.oneCell'], rfl⟩
theorem valueMakes_holds : Rows.ValueMakesSaid :=
  OpenClaim.holds_of_wide 3 Try.f3 rfl rfl rfl rfl rfl rfl rfl ⟨rfl, rfl, rfl, rfl, rfl⟩ rfl rfl rfl rfl rfl (by kernel_rfl) Try.func3 (by kernel_rfl)
    (of_decide_eq_true (by kernel_rfl)) (by unfold Func.isWrapper; rw [if_neg (by decide +kernel)]; exact ⟨rfl, rfl⟩)
    (fun os started H enc _ => valueMakes_lifted os started H enc)
#print axioms valueMakes_holds
end Go.Proofs.Ytkhdnhjdmpdblaa
