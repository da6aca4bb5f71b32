/- Contracts of functions of the program, and the laws that stand on them: what each function answers, whatever its arguments. -/
import Derived.Test.YtbddpnohacjjfaaDoorG7
import Derived.Test.YtbddpnohacjjfaaDoorVD
import Derived.ChangeMaps5
import Derived.Carry
import Derived.Test.YtbddpnohacjjfaaDoorTie
import Derived.Test.YtbddpnohacjjfaaDoorCards
import Derived.Test.YtbddpnohacjjfaaDoorG33
set_option linter.unusedSectionVars false
set_option linter.unnecessarySimpa false
namespace Go.Proofs.YtbddpnohacjjfaaDoor
set_option linter.unusedSimpArgs false
set_option linter.unusedVariables false
set_option maxRecDepth 100000
set_option maxHeartbeats 8000000
open Go Go.VA Go.RowKit Go.ChangeShapes Go.WideShapes Go.ChangeAt
theorem own : ownKnob Tryd.prog.godebug = none := by kernel_rfl
theorem laidOut : laidOutB Tryd.prog = true := by kernel_rfl
abbrev nmTab : String := Rows.graphRightRow.named.getD 0 ""
abbrev laid1 : List (String × DataW Unit) := [(nmTab, .agg (tabD.map fun i => .lit (.int .u8 i)))]
theorem laid_eq : Rows.graphRightRow.laid = laid1 := rfl
theorem glOk_laid {W : World} (h : laidMetH Tryd.prog Rows.graphRightRow.laid W) : GlOk gl (S0 W) := by
  rw [laid_eq, MakeChecks.laidMetH_plain _ _ _ (by kernel_rfl)] at h
  obtain ⟨ps, hl, _⟩ := h
  obtain ⟨h0, _⟩ := laid_ints htb (k := .u8) (n := 64) (e := 5) (t := 62) (g := 0) rfl rfl rfl (by kernel_rfl) (by kernel_rfl) hl
  intro g
  match g with
  | 0 => exact h0
  | _ + 1 => simp [gl, RepCs]
theorem door_met (os : Os) (args : Array Value) : laidMetH Tryd.prog Rows.graphRightRow.laid ((World.doorLaid Tryd.prog 14 os).forCall (fun _ _ => 0) ⟨#[], args, []⟩).memory :=
  laidMetH_of_parts3 (fuel := 8) (laidMet_of_run' 8 (by kernel_rfl) (by kernel_rfl)) (by kernel_rfl) (by kernel_rfl)
section
variable {H : Type} {enc : TypeId × Value → H} {W : World} {base : Nat} {sp : Nat → Bool} {held : Bool}
theorem open_ints {fuel : Nat} {cs : List Value} {x : DataW H × List MemPlace} (h : DataW.trod enc Tryd.prog W base sp held fuel 27 cs = some x) (hs : SzW Tryd.prog 27 x.1) : ∃ l : List Int, ∃ u, cs = [u] ∧ RepC (S0 W) (.sl false 1 l.length (rX l)) u := by
  obtain ⟨a, len, cap, m3, e3, hm3, hlc, hcap0, hrows⟩ := tr_sliceS htb (t := 27) (e := 3) rfl rfl (by decide) h hs
  have hcap : len * 8 ≤ 140737488351232 := hcap0
  subst e3
  rcases hrows with h0 | ⟨b, o, rfl, hr⟩
  · subst h0
    exact ⟨[], _, rfl, repC_rows ⟨hlc, by simp⟩ (.inl rfl)⟩
  · have hex : ∀ i : Fin len, ∃ v : Int, W.cell? ⟨b, o + i * 1, none⟩ = some (.int .i64 v) := by
      intro ⟨i, hi⟩
      obtain ⟨ce, y, hl, hc, ht, hsy⟩ := hr i hi
      obtain ⟨k, e0, _⟩ := tr_int htb (t := 3) (k := .i64) rfl ht
      refine ⟨k, ?_⟩
      have := hc 0 (by decide)
      rw [e0] at this
      exact this
    have hf := fun i => Classical.choose_spec (hex i)
    refine ⟨List.ofFn fun i => Classical.choose (hex i), _, rfl, ?_⟩
    rw [List.length_ofFn]
    refine repC_rows ⟨hlc, by omega⟩ (.inr ⟨b, o, rfl, fun i hi => ?_⟩)
    have g := hf ⟨i, hi⟩
    have hrow : rX (List.ofFn fun i => Classical.choose (hex i)) i = [.v (.int .i64 (Classical.choose (hex ⟨i, hi⟩)))] := by
      unfold rX rowE
      rw [List.getD_eq_getElem?_getD, List.getElem?_eq_getElem (by simpa using hi)]
      simp [cX]
    rw [hrow]
    refine ⟨[.int .i64 (Classical.choose (hex ⟨i, hi⟩))], rfl, fun j hj u hu => ?_, rfl, ?_⟩
    · obtain rfl : j = 0 := by simpa using hj
      have e : u = .int .i64 (Classical.choose (hex ⟨i, hi⟩)) := by simpa using hu.symm
      rw [e]; exact g
    · exact ⟨_, [], rfl, by simp [RepC, Value.oneCell'], rfl⟩
theorem open_rowsI {fuel : Nat} {cs : List Value} {x : DataW H × List MemPlace} (h : DataW.trod enc Tryd.prog W base sp held fuel 22 cs = some x) (hs : SzW Tryd.prog 22 x.1) : ∃ l : List (List Int), ∃ u, cs = [u] ∧ RepC (S0 W) (.sl false 1 l.length (rL (fun _ => false) l)) u := by
  obtain ⟨a, len, cap, m3, e3, hm3, hlc, hcap0, hrows⟩ := tr_sliceS htb (t := 22) (e := 27) rfl rfl (by decide) h hs
  have hcap : len * 24 ≤ 140737488351232 := hcap0
  subst e3
  rcases hrows with h0 | ⟨b, o, rfl, hr⟩
  · subst h0
    exact ⟨[], _, rfl, repC_rows ⟨hlc, by simp⟩ (.inl rfl)⟩
  · have hex : ∀ i : Fin len, ∃ v : List Int, ∃ u, W.cell? ⟨b, o + i * 1, none⟩ = some u ∧ RepC (S0 W) (.sl false 1 v.length (rX v)) u := by
      intro ⟨i, hi⟩
      obtain ⟨ce, y, hl, hc, ht, hsy⟩ := hr i hi
      obtain ⟨l, u, e0, hu⟩ := open_ints ht hsy
      refine ⟨l, u, ?_, hu⟩
      have := hc 0 (by decide)
      rw [e0] at this
      exact this
    have hf := fun i => Classical.choose_spec (hex i)
    refine ⟨List.ofFn fun i => Classical.choose (hex i), _, rfl, ?_⟩
    rw [List.length_ofFn]
    refine repC_rows ⟨hlc, by omega⟩ (.inr ⟨b, o, rfl, fun i hi => ?_⟩)
    obtain ⟨u, g1, g2⟩ := hf ⟨i, hi⟩
    have hrow : rL (fun _ => false) (List.ofFn fun i => Classical.choose (hex i)) i = [.sl false 1 (Classical.choose (hex ⟨i, hi⟩)).length (rX (Classical.choose (hex ⟨i, hi⟩)))] := by
      unfold rL
      rw [List.getD_eq_getElem?_getD, List.getElem?_eq_getElem (by simpa using hi)]
      simp
    rw [hrow]
    refine ⟨[u], rfl, fun j hj u' hu => ?_, rfl, ?_⟩
    · obtain rfl : j = 0 := by simpa using hj
      have e : u' = u := by simpa using hu.symm
      rw [e]; exact g1
    · exact ⟨_, [], rfl, g2, rfl⟩
theorem open_rows0 {v : Value} {d : DataW H} {ps : List MemPlace} {r : Reach} {b0 : Nat} (hval : Value.okWide Tryd.prog W r b0 22 v) (hd : DataW.Trod enc Tryd.prog W base sp held 22 v d ps) (hs : SzW Tryd.prog 22 d) :
    ∃ l : List (List Int), RelV [] (S0 W) (.c (.sl false 1 l.length (rL (fun _ => false) l))) v := by
  have hc := arg_slice htb (t := 22) (e := 27) rfl hval
  obtain ⟨fuel, hf⟩ := hd
  rw [hc] at hf
  obtain ⟨l, u, e, h⟩ := open_rowsI hf hs
  obtain rfl : v = u := by simpa using e
  exact ⟨l, by simpa [RelV] using h⟩
end
end Go.Proofs.YtbddpnohacjjfaaDoor

namespace Go.Proofs.YtbddpnohacjjfaaDoor
set_option linter.unusedSimpArgs false
set_option linter.unusedVariables false
set_option maxRecDepth 100000
set_option maxHeartbeats 8000000
open Go Go.VA Go.RowKit Go.ChangeShapes Go.WideShapes Go.ChangeAt
set_option maxRecDepth 100000 in
theorem graphBoth_lifted (os : Os) (started : os.Started) (H : Type) (enc : TypeId × Value → H) :
    ReturnsInHanded {} Tryd.checked os 6 .any (fun w args => (Rows.graphBothSpec.pre enc Tryd.prog Tryd.f6 Rows.graphBothRow.domain false w args ∧ laidMetH Tryd.prog Rows.graphRightRow.laid w) ∧ sizedMet enc Tryd.prog Tryd.f6 (OpenSpec.ofChange Rows.graphBothSpec) false w args) (Rows.graphBothSpec.post enc Tryd.prog Tryd.f6 false true false false) := by
  refine law_liftedL Rows.graphRightRow.laid os started own (by kernel_rfl) Tryd.func6 laidOut (by kernel_rfl) rfl rfl rfl (tb := 4) (by kernel_rfl) (fun ds h => ?_)
    (ChangeSpec.witness_shaped (enc := enc) (C := Tryd.checked) (os := os) (X := fun w _ => laidMetH Tryd.prog Rows.graphRightRow.laid w) false (World.doorLaid Tryd.prog 14 os) #[.int .i64 0, .int .i64 0, .slice none 0 0, .slice none 0 0, .int .i64 0] 8 rfl (World.shaped_of_RefB (by kernel_rfl) (by kernel_rfl)) (by kernel_rfl) (by kernel_rfl) (by kernel_rfl) (door_met os _)) ?_
  · match ds, h with | [_, _, _, _, _], _ => rfl
  · intro W base args ds ps hval hA0 hs hL
    have hA : DataW.TrodAll enc Tryd.prog W 0 (fun _ => true) true [3, 3, 22, 22, 3] args.toList ds ps := hA0
    obtain ⟨v0, v1, v2, v3, v4, d0, d1, d2, d3, d4, p0, p1, p2, p3, p4, rfl, rfl, rfl, h0, h1, h2, h3, h4⟩ := trodAll_five hA
    obtain ⟨x0, rfl, _⟩ := open_int (k := .i64) (by kernel_rfl) (hval 0 3 v0 rfl rfl) h0
    obtain ⟨x1, rfl, _⟩ := open_int (k := .i64) (by kernel_rfl) (hval 1 3 v1 rfl rfl) h1
    obtain ⟨x2, e2⟩ := open_rows0 (hval 2 22 v2 rfl rfl) h2 (hs 2 22 d2 rfl rfl)
    obtain ⟨x3, e3⟩ := open_rows0 (hval 3 22 v3 rfl rfl) h3 (hs 3 22 d3 rfl rfl)
    obtain ⟨x4, rfl, _⟩ := open_int (k := .i64) (by kernel_rfl) (hval 4 3 v4 rfl rfl) h4
    exact acall_true (aGBoth false false x0 x1 x2 x3 (fun _ => false) x4) W _ (glOk_laid hL) ⟨_, _, rfl, by show RelV _ _ (.c (.v (.int .i64 x0))) _; simp [RelV, RepC, Value.oneCell'], _, _, rfl, by show RelV _ _ (.c (.v (.int .i64 x1))) _; simp [RelV, RepC, Value.oneCell'], _, _, rfl, e2, _, _, rfl, e3, _, _, rfl, by show RelV _ _ (.c (.v (.int .i64 x4))) _; simp [RelV, RepC, Value.oneCell'], rfl⟩
theorem graphBoth_holds : Rows.GraphBothSaid :=
  OpenClaim.holds_of_wide 6 Tryd.f6 rfl rfl rfl rfl rfl rfl rfl ⟨rfl, rfl, rfl, rfl, rfl⟩ rfl rfl rfl rfl rfl (by kernel_rfl) Tryd.func6 (by kernel_rfl)
    (of_decide_eq_true (by kernel_rfl)) (by unfold Func.isWrapper; rw [if_neg (by decide +kernel)]; exact ⟨rfl, rfl⟩)
    (fun os started H enc _ => graphBoth_lifted os started H enc)
theorem graphBothCard_holds : Rows.GraphBothCardSaid :=
  Claim7.holds_tied_plain_at .later [] [.data] true (true, "6ac7f7d1aff556a0c37a719837c09040f873abadc64dc78aeef01559949b37b2") false
    graphBoth_holds (fun _ h => by cases h) (by kernel_rfl) (fun _ h => by cases h) graphBoth_row_tie rfl ⟨rfl, rfl⟩ (by kernel_rfl) rfl
    (fun f fn hf hfn => by
      obtain rfl : f = 6 := Option.some.inj ((show Tryd.prog.funcNamed Rows.graphBothRow.func = some 6 by kernel_rfl).symm.trans hf) |>.symm
      obtain rfl : fn = Tryd.f6 := (Option.some.inj (Tryd.func6.symm.trans hfn)).symm
      exact ⟨by kernel_rfl, fun j t ht => by
        have ht' : (#[3, 3, 22, 22, 3] : Array TypeId)[j]? = some t := ht
        have hm : t ∈ [3, 3, 22, 22, 3] := by simpa using Array.mem_of_getElem? ht'
        have hall : ([3, 3, 22, 22, 3].all fun u => !Tryd.prog.wantsStandIn u) = true := by kernel_rfl
        exact (show Tryd.prog.wantsStandIn t = false by simpa using List.all_eq_true.1 hall t hm)⟩)
    (by kernel_rfl)
#print axioms graphBothCard_holds
end Go.Proofs.YtbddpnohacjjfaaDoor
