/- Contracts of functions of the program, and the laws that stand on them: what each function answers, whatever its arguments. -/
import Derived.Test.YteidfcaciadgpaaDoorWo
import Derived.Test.YteidfcaciadgpaaDoorWU
set_option linter.unusedSectionVars false
set_option linter.unnecessarySimpa false
namespace Go.Proofs.YteidfcaciadgpaaDoor
set_option linter.unusedSimpArgs false
set_option linter.unusedVariables false
set_option maxRecDepth 100000
set_option maxHeartbeats 8000000
open Go Go.VA Go.RowKit Go.ChangeShapes Go.WideShapes Go.ChangeAt
section
variable {H : Type} {enc : TypeId × Value → H} {W : World} {base : Nat} {sp : Nat → Bool} {held : Bool}
theorem open_its {fuel : Nat} {cs : List Value} {x : DataW H × List MemPlace} (h : DataW.trod enc Tryd.prog W base sp held fuel 44 cs = some x) (hs : SzW Tryd.prog 44 x.1) : ∃ l : List It, ∃ u, cs = [u] ∧ RepC (S0 W) (.sl false 8 l.length (rI l)) u ∧ ∀ i ∈ l, RgIt i := by
  obtain ⟨a, len, cap, m3, e3, hm3, hlc, hcap0, hrows⟩ := tr_sliceS htb (t := 44) (e := 30) rfl rfl (by decide) h hs
  have hcap : len * 88 ≤ 140737488351232 := hcap0
  subst e3
  rcases hrows with h0 | ⟨b, o, rfl, hr⟩
  · subst h0
    exact ⟨[], _, rfl, repC_rows ⟨hlc, by simp⟩ (.inl rfl), fun x hx => absurd hx (by simp)⟩
  · have hex : ∀ i : Fin len, ∃ v : It, ∃ ce : List Value, ce.length = 8 ∧ (∀ j, j < 8 → W.cell? ⟨b, o + i * 8 + j, none⟩ = ce[j]?) ∧ RepVs (S0 W) (cIt v) ce ∧ RgIt v := by
      intro ⟨i, hi⟩
      obtain ⟨ce, y, hl, hc, ht, hsy⟩ := hr i hi
      obtain ⟨v, hv, hg⟩ := open_It ht
      exact ⟨v, ce, hl, hc, hv _, hg⟩
    have hf := fun i => Classical.choose_spec (hex i)
    refine ⟨List.ofFn fun i => Classical.choose (hex i), _, rfl, ?_, fun x hx => ?_⟩
    rotate_left
    · obtain ⟨i, rfl⟩ := List.mem_ofFn.1 hx
      obtain ⟨_, _, _, _, g⟩ := hf i
      exact g
    rw [List.length_ofFn]
    refine repC_rows ⟨hlc, by omega⟩ (.inr ⟨b, o, rfl, fun i hi => ?_⟩)
    obtain ⟨ce, g1, g2, g3, _⟩ := hf ⟨i, hi⟩
    have hrow : rI (List.ofFn fun i => Classical.choose (hex i)) i = cIt (Classical.choose (hex ⟨i, hi⟩)) := by
      unfold rI rowE
      rw [List.getD_eq_getElem?_getD, List.getElem?_eq_getElem (by simpa using hi)]
      simp
    rw [hrow]
    refine ⟨ce, g1, fun j hj u hu => ?_, rfl, g3⟩
    have := g2 j hj
    rw [hu] at this
    exact this
theorem open_intents {v : Value} {d : DataW H} {ps : List MemPlace} {r : Reach} {b0 : Nat} (hval : Value.okWide Tryd.prog W r b0 44 v) (hd : DataW.Trod enc Tryd.prog W base sp held 44 v d ps) (hs : SzW Tryd.prog 44 d) :
    ∃ l : List It, RelV [] (S0 W) (.c (.sl false 8 l.length (rI l))) v ∧ ∀ i ∈ l, RgIt i := by
  have hc := arg_slice htb (t := 44) (e := 30) rfl hval
  obtain ⟨fuel, hf⟩ := hd
  rw [hc] at hf
  obtain ⟨l, u, e, h, hg⟩ := open_its hf hs
  obtain rfl : v = u := by simpa using e
  exact ⟨l, by simpa [RelV] using h, hg⟩
end
set_option maxRecDepth 100000 in
theorem walTorn_lifted (os : Os) (started : os.Started) (H : Type) (enc : TypeId × Value → H) :
    ReturnsInHanded {} Tryd.checked os 4 .any (fun w args => (Rows.walTornSpec.pre enc Tryd.prog Tryd.f4 Rows.walTornRow.domain false w args ∧ laidMetH Tryd.prog Rows.walAllRow.laid w) ∧ sizedMet enc Tryd.prog Tryd.f4 (OpenSpec.ofChange Rows.walTornSpec) false w args) (Rows.walTornSpec.post enc Tryd.prog Tryd.f4 false true false false) := by
  refine law_liftedL Rows.walAllRow.laid os started own (by kernel_rfl) Tryd.func4 laidOut (by kernel_rfl) rfl rfl rfl (tb := 4) (by kernel_rfl) (fun ds h => ?_)
    (ChangeSpec.witness_shaped (enc := enc) (C := Tryd.checked) (os := os) (X := fun w _ => laidMetH Tryd.prog Rows.walAllRow.laid w) false (World.doorLaid Tryd.prog 19 os) #[.slice none 0 0, .int .i64 0] 8 rfl (World.shaped_of_RefB (by kernel_rfl) (by kernel_rfl)) (by kernel_rfl) (by kernel_rfl) (by kernel_rfl) (door_met os _)) ?_
  · match ds, h with | [_, _], _ => rfl
  · intro W base args ds ps hval hA0 hs hL
    have hA : DataW.TrodAll enc Tryd.prog W 0 (fun _ => true) true [44, 3] args.toList ds ps := hA0
    obtain ⟨v0, v1, d0, d1, p0, p1, rfl, rfl, rfl, h0, h1⟩ := trodAll_two hA
    obtain ⟨l, e0, hg⟩ := open_intents (hval 0 44 v0 rfl rfl) h0 (hs 0 44 d0 rfl rfl)
    obtain ⟨n, rfl, _⟩ := open_int (k := .i64) (by kernel_rfl) (hval 1 3 v1 rfl rfl) h1
    exact acall_true (aWalTorn false l n hg) W _ (glOk_laid hL) ⟨_, _, rfl, e0, _, _, rfl, by show RelV _ _ (.c (.v (.int .i64 n))) _; simp [RelV, RepC, Value.oneCell'], rfl⟩
theorem walTorn_holds : Rows.WalTornSaid :=
  OpenClaim.holds_of_wide 4 Tryd.f4 rfl rfl rfl rfl rfl rfl rfl ⟨rfl, rfl, rfl, rfl, rfl⟩ rfl rfl rfl rfl rfl (by kernel_rfl) Tryd.func4 (by kernel_rfl)
    (of_decide_eq_true (by kernel_rfl)) (by unfold Func.isWrapper; rw [if_neg (by decide +kernel)]; exact ⟨rfl, rfl⟩)
    (fun os started H enc _ => walTorn_lifted os started H enc)
theorem walTornCard_holds : Rows.WalTornCardSaid :=
  Claim7.holds_tied_plain_at .later [] [.data, .data] true (true, "8ca4f6e626e6513e7028ee3e6511272e0a995affafc5503e227c4fcf64079fd9") false
    walTorn_holds (fun _ h => by cases h) (by kernel_rfl) (fun _ h => by cases h) walTorn_row_tie rfl ⟨rfl, rfl⟩ (by kernel_rfl) rfl
    (fun f fn hf hfn => by
      obtain rfl : f = 4 := Option.some.inj ((show Tryd.prog.funcNamed Rows.walTornRow.func = some 4 by kernel_rfl).symm.trans hf) |>.symm
      obtain rfl : fn = Tryd.f4 := (Option.some.inj (Tryd.func4.symm.trans hfn)).symm
      exact ⟨by kernel_rfl, fun j t ht => by
        have ht' : (#[44, 3] : Array TypeId)[j]? = some t := ht
        have hm : t ∈ [44, 3] := by simpa using Array.mem_of_getElem? ht'
        have hall : ([44, 3].all fun u => !Tryd.prog.wantsStandIn u) = true := by kernel_rfl
        exact (show Tryd.prog.wantsStandIn t = false by simpa using List.all_eq_true.1 hall t hm)⟩)
    (by kernel_rfl)
#print axioms walTornCard_holds
end Go.Proofs.YteidfcaciadgpaaDoor
