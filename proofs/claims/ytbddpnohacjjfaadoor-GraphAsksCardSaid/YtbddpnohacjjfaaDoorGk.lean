/- Contracts of functions of the program, and the laws that stand on them: what each function answers, whatever its arguments. -/
import Derived.Test.YtbddpnohacjjfaaDoorG7
import Derived.Test.YtbddpnohacjjfaaDoorVD
import Derived.ChangeMaps5
import Derived.Carry
import Derived.Test.YtbddpnohacjjfaaDoorTie
import Derived.Test.YtbddpnohacjjfaaDoorCards
import Derived.Test.YtbddpnohacjjfaaDoorG29
set_option linter.unusedSectionVars false
set_option linter.unnecessarySimpa false
namespace Go.Proofs.YtbddpnohacjjfaaDoor
set_option linter.unusedSimpArgs false
set_option linter.unusedVariables false
set_option maxRecDepth 100000
set_option maxHeartbeats 8000000
open Go Go.VA Go.RowKit Go.ChangeShapes Go.WideShapes Go.ChangeAt
theorem own : ownKnob Tryd.prog.godebug = none := by kernel_rfl
theorem laidOut : laidOutB Tryd.prog = true := by kernel_rfl
abbrev nmTab : String := Rows.graphRightRow.named.getD 0 ""
abbrev laid1 : List (String × DataW Unit) := [(nmTab, .agg (tabD.map fun i => .lit (.int .u8 i)))]
theorem laid_eq : Rows.graphRightRow.laid = laid1 := rfl
theorem glOk_laid {W : World} (h : laidMetH Tryd.prog Rows.graphRightRow.laid W) : GlOk gl (S0 W) := by
  rw [laid_eq, MakeChecks.laidMetH_plain _ _ _ (by kernel_rfl)] at h
  obtain ⟨ps, hl, _⟩ := h
  obtain ⟨h0, _⟩ := laid_ints htb (k := .u8) (n := 64) (e := 5) (t := 62) (g := 0) rfl rfl rfl (by kernel_rfl) (by kernel_rfl) hl
  intro g
  match g with
  | 0 => exact h0
  | _ + 1 => simp [gl, RepCs]
theorem door_met (os : Os) (args : Array Value) : laidMetH Tryd.prog Rows.graphRightRow.laid ((World.doorLaid Tryd.prog 14 os).forCall (fun _ _ => 0) ⟨#[], args, []⟩).memory :=
  laidMetH_of_parts3 (fuel := 8) (laidMet_of_run' 8 (by kernel_rfl) (by kernel_rfl)) (by kernel_rfl) (by kernel_rfl)
section
variable {H : Type} {enc : TypeId × Value → H} {W : World} {base : Nat} {sp : Nat → Bool} {held : Bool}
theorem open_ints {fuel : Nat} {cs : List Value} {x : DataW H × List MemPlace} (h : DataW.trod enc Tryd.prog W base sp held fuel 27 cs = some x) (hs : SzW Tryd.prog 27 x.1) : ∃ l : List Int, ∃ u, cs = [u] ∧ RepC (S0 W) (.sl false 1 l.length (rX l)) u := by
  obtain ⟨a, len, cap, m3, e3, hm3, hlc, hcap0, hrows⟩ := tr_sliceS htb (t := 27) (e := 3) rfl rfl (by decide) h hs
  have hcap : len * 8 ≤ 140737488351232 := hcap0
  subst e3
  rcases hrows with h0 | ⟨b, o, rfl, hr⟩
  · subst h0
    exact ⟨[], _, rfl, repC_rows ⟨hlc, by simp⟩ (.inl rfl)⟩
  · have hex : ∀ i : Fin len, ∃ v : Int, W.cell? ⟨b, o + i * 1, none⟩ = some (.int .i64 v) := by
      intro ⟨i, hi⟩
      obtain ⟨ce, y, hl, hc, ht, hsy⟩ := hr i hi
      obtain ⟨k, e0, _⟩ := tr_int htb (t := 3) (k := .i64) rfl ht
      refine ⟨k, ?_⟩
      have := hc 0 (by decide)
      rw [e0] at this
      exact this
    have hf := fun i => Classical.choose_spec (hex i)
    refine ⟨List.ofFn fun i => Classical.choose (hex i), _, rfl, ?_⟩
    rw [List.length_ofFn]
    refine repC_rows ⟨hlc, by omega⟩ (.inr ⟨b, o, rfl, fun i hi => ?_⟩)
    have g := hf ⟨i, hi⟩
    have hrow : rX (List.ofFn fun i => Classical.choose (hex i)) i = [.v (.int .i64 (Classical.choose (hex ⟨i, hi⟩)))] := by
      unfold rX rowE
      rw [List.getD_eq_getElem?_getD, List.getElem?_eq_getElem (by simpa using hi)]
      simp [cX]
    rw [hrow]
    refine ⟨[.int .i64 (Classical.choose (hex ⟨i, hi⟩))], rfl, fun j hj u hu => ?_, rfl, ?_⟩
    · obtain rfl : j = 0 := by simpa using hj
      have e : u = .int .i64 (Classical.choose (hex ⟨i, hi⟩)) := by simpa using hu.symm
      rw [e]; exact g
    · exact ⟨_, [], rfl, by simp [RepC, Value.oneCell'], rfl⟩
theorem open_rowsI {fuel : Nat} {cs : List Value} {x : DataW H × List MemPlace} (h : DataW.trod enc Tryd.prog W base sp held fuel 22 cs = some x) (hs : SzW Tryd.prog 22 x.1) : ∃ l : List (List Int), ∃ u, cs = [u] ∧ RepC (S0 W) (.sl false 1 l.length (rL (fun _ => false) l)) u := by
  obtain ⟨a, len, cap, m3, e3, hm3, hlc, hcap0, hrows⟩ := tr_sliceS htb (t := 22) (e := 27) rfl rfl (by decide) h hs
  have hcap : len * 24 ≤ 140737488351232 := hcap0
  subst e3
  rcases hrows with h0 | ⟨b, o, rfl, hr⟩
  · subst h0
    exact ⟨[], _, rfl, repC_rows ⟨hlc, by simp⟩ (.inl rfl)⟩
  · have hex : ∀ i : Fin len, ∃ v : List Int, ∃ u, W.cell? ⟨b, o + i * 1, none⟩ = some u ∧ RepC (S0 W) (.sl false 1 v.length (rX v)) u := by
      intro ⟨i, hi⟩
      obtain ⟨ce, y, hl, hc, ht, hsy⟩ := hr i hi
      obtain ⟨l, u, e0, hu⟩ := open_ints ht hsy
      refine ⟨l, u, ?_, hu⟩
      have := hc 0 (by decide)
      rw [e0] at this
      exact this
    have hf := fun i => Classical.choose_spec (hex i)
    refine ⟨List.ofFn fun i => Classical.choose (hex i), _, rfl, ?_⟩
    rw [List.length_ofFn]
    refine repC_rows ⟨hlc, by omega⟩ (.inr ⟨b, o, rfl, fun i hi => ?_⟩)
    obtain ⟨u, g1, g2⟩ := hf ⟨i, hi⟩
    have hrow : rL (fun _ => false) (List.ofFn fun i => Classical.choose (hex i)) i = [.sl false 1 (Classical.choose (hex ⟨i, hi⟩)).length (rX (Classical.choose (hex ⟨i, hi⟩)))] := by
      unfold rL
      rw [List.getD_eq_getElem?_getD, List.getElem?_eq_getElem (by simpa using hi)]
      simp
    rw [hrow]
    refine ⟨[u], rfl, fun j hj u' hu => ?_, rfl, ?_⟩
    · obtain rfl : j = 0 := by simpa using hj
      have e : u' = u := by simpa using hu.symm
      rw [e]; exact g1
    · exact ⟨_, [], rfl, g2, rfl⟩
theorem open_ints0 {v : Value} {d : DataW H} {ps : List MemPlace} {r : Reach} {b0 : Nat} (hval : Value.okWide Tryd.prog W r b0 27 v) (hd : DataW.Trod enc Tryd.prog W base sp held 27 v d ps) (hs : SzW Tryd.prog 27 d) :
    ∃ l : List Int, RelV [] (S0 W) (.c (.sl false 1 l.length (rX l))) v := by
  have hc := arg_slice htb (t := 27) (e := 3) rfl hval
  obtain ⟨fuel, hf⟩ := hd
  rw [hc] at hf
  obtain ⟨l, u, e, h⟩ := open_ints hf hs
  obtain rfl : v = u := by simpa using e
  exact ⟨l, by simpa [RelV] using h⟩
theorem open_rows0 {v : Value} {d : DataW H} {ps : List MemPlace} {r : Reach} {b0 : Nat} (hval : Value.okWide Tryd.prog W r b0 22 v) (hd : DataW.Trod enc Tryd.prog W base sp held 22 v d ps) (hs : SzW Tryd.prog 22 d) :
    ∃ l : List (List Int), RelV [] (S0 W) (.c (.sl false 1 l.length (rL (fun _ => false) l))) v := by
  have hc := arg_slice htb (t := 22) (e := 27) rfl hval
  obtain ⟨fuel, hf⟩ := hd
  rw [hc] at hf
  obtain ⟨l, u, e, h⟩ := open_rowsI hf hs
  obtain rfl : v = u := by simpa using e
  exact ⟨l, by simpa [RelV] using h⟩
end
end Go.Proofs.YtbddpnohacjjfaaDoor

namespace Go.Proofs.YtbddpnohacjjfaaDoor
set_option linter.unusedSimpArgs false
set_option linter.unusedVariables false
set_option maxRecDepth 100000
set_option maxHeartbeats 8000000
open Go Go.VA
theorem aGAsks (t s : Bool) (n : Int) (rows : List (List Int)) (tg : Nat → Bool) (i : Int) (l : List Int) : ACall Tryd.prog gl 5 [intA .i64 n, .c (.sl t 1 rows.length (rL tg rows)), intA .i64 i, .c (.sl s 1 l.length (rX l))] [] (boolA true) := by
  have G := aGreat t n rows tg
  have Nw := aNewG t n rows tg (rL tg rows) fun i _ => rfl
  have Nr := aRNew t n rows tg (rL tg rows) fun i => rfl
  have hN := clN_le n
  have hA : GrOk (clN n) (grA (clN n) rows) := grA_ok _ _
  generalize grA (clN n) rows = A at *
  generalize clN n = N at *
  have hA2 := grOk_tr hA
  by_cases hll : l.length ≤ 40
  · have hl : l.length ≤ 1000 := by omega
    have Ln := aLen false false false N N (rSet A) (rSet (fun i k => A k i))
    have Tr := aRTurned false N A hN hA
    have A1 := aAhead false false false N A (trA A) i hN hA
    have L1 := aRList false N A i hN
    have A2 := aBehind false false false N A (trA A) i hN hA2
    have L2 := aRList false N (trA A) i hN
    have U1 := aUnder false false false s N A (trA A) l hN hA hl
    have R1 := aRUnder false s N A l hN hA hl
    have U2 := aOver false false false s N A (trA A) l hN hA2 hl
    have R2 := aRUnder false s N (trA A) l hN hA2 hl
    have D1 := aDeep false false false N A (trA A) hN hA
    have D2 := aRDeep false N A hN hA
    have T1 := aTurned false false false N A (trA A) hN
    have A3 := aAhead false false false N (trA A) A i hN hA2
    have S1 := aSame false false (ahL N A i)
    have S2 := aSame false false (ahL N (trA A) i)
    have S3 := aSame false false (unL N A l)
    have S4 := aSame false false (unL N (trA A) l)
    have S5 := aSameI false false N (dpF A N (gOrd N A N))
    have hg : ((N : Int) == (N : Int)) = true := by simp
    generalize ahL N A i = l1 at *
    generalize ahL N (trA A) i = l2 at *
    generalize unL N A l = l3 at *
    generalize unL N (trA A) l = l4 at *
    generalize dpF A N (gOrd N A N) = l5 at *
    refine acall_of_vc htb hmix (f := 5) rfl rfl rfl (by kernel_rfl) rfl rfl ?_; conv => whnf
    repeat' (first | (refine Exists.intro _ (And.intro (chainI (aAwake)) ?_); conv => whnf) | (refine Exists.intro _ (And.intro (aAwake) ?_); conv => whnf) | ((with_reducible refine GOr.l ?_); (conv => whnf); refine Exists.intro _ (And.intro (chainI (aAwake)) ?_); conv => whnf) | (refine Exists.intro _ (And.intro (chainI (G)) ?_); conv => whnf) | (refine Exists.intro _ (And.intro (G) ?_); conv => whnf) | ((with_reducible refine GOr.l ?_); (conv => whnf); refine Exists.intro _ (And.intro (chainI (G)) ?_); conv => whnf) | (refine Exists.intro _ (And.intro (chainI (Nw)) ?_); conv => whnf) | (refine Exists.intro _ (And.intro (Nw) ?_); conv => whnf) | ((with_reducible refine GOr.l ?_); (conv => whnf); refine Exists.intro _ (And.intro (chainI (Nw)) ?_); conv => whnf) | (refine Exists.intro _ (And.intro (chainI (Nr)) ?_); conv => whnf) | (refine Exists.intro _ (And.intro (Nr) ?_); conv => whnf) | ((with_reducible refine GOr.l ?_); (conv => whnf); refine Exists.intro _ (And.intro (chainI (Nr)) ?_); conv => whnf) | (refine Exists.intro _ (And.intro (chainI (Ln)) ?_); conv => whnf) | (refine Exists.intro _ (And.intro (Ln) ?_); conv => whnf) | ((with_reducible refine GOr.l ?_); (conv => whnf); refine Exists.intro _ (And.intro (chainI (Ln)) ?_); conv => whnf) | (refine Exists.intro _ (And.intro (chainI (Tr)) ?_); conv => whnf) | (refine Exists.intro _ (And.intro (Tr) ?_); conv => whnf) | ((with_reducible refine GOr.l ?_); (conv => whnf); refine Exists.intro _ (And.intro (chainI (Tr)) ?_); conv => whnf) | (refine Exists.intro _ (And.intro (chainI (A1)) ?_); conv => whnf) | (refine Exists.intro _ (And.intro (A1) ?_); conv => whnf) | ((with_reducible refine GOr.l ?_); (conv => whnf); refine Exists.intro _ (And.intro (chainI (A1)) ?_); conv => whnf) | (refine Exists.intro _ (And.intro (chainI (L1)) ?_); conv => whnf) | (refine Exists.intro _ (And.intro (L1) ?_); conv => whnf) | ((with_reducible refine GOr.l ?_); (conv => whnf); refine Exists.intro _ (And.intro (chainI (L1)) ?_); conv => whnf) | (refine Exists.intro _ (And.intro (chainI (A2)) ?_); conv => whnf) | (refine Exists.intro _ (And.intro (A2) ?_); conv => whnf) | ((with_reducible refine GOr.l ?_); (conv => whnf); refine Exists.intro _ (And.intro (chainI (A2)) ?_); conv => whnf) | (refine Exists.intro _ (And.intro (chainI (L2)) ?_); conv => whnf) | (refine Exists.intro _ (And.intro (L2) ?_); conv => whnf) | ((with_reducible refine GOr.l ?_); (conv => whnf); refine Exists.intro _ (And.intro (chainI (L2)) ?_); conv => whnf) | (refine Exists.intro _ (And.intro (chainI (U1)) ?_); conv => whnf) | (refine Exists.intro _ (And.intro (U1) ?_); conv => whnf) | ((with_reducible refine GOr.l ?_); (conv => whnf); refine Exists.intro _ (And.intro (chainI (U1)) ?_); conv => whnf) | (refine Exists.intro _ (And.intro (chainI (R1)) ?_); conv => whnf) | (refine Exists.intro _ (And.intro (R1) ?_); conv => whnf) | ((with_reducible refine GOr.l ?_); (conv => whnf); refine Exists.intro _ (And.intro (chainI (R1)) ?_); conv => whnf) | (refine Exists.intro _ (And.intro (chainI (U2)) ?_); conv => whnf) | (refine Exists.intro _ (And.intro (U2) ?_); conv => whnf) | ((with_reducible refine GOr.l ?_); (conv => whnf); refine Exists.intro _ (And.intro (chainI (U2)) ?_); conv => whnf) | (refine Exists.intro _ (And.intro (chainI (R2)) ?_); conv => whnf) | (refine Exists.intro _ (And.intro (R2) ?_); conv => whnf) | ((with_reducible refine GOr.l ?_); (conv => whnf); refine Exists.intro _ (And.intro (chainI (R2)) ?_); conv => whnf) | (refine Exists.intro _ (And.intro (chainI (D1)) ?_); conv => whnf) | (refine Exists.intro _ (And.intro (D1) ?_); conv => whnf) | ((with_reducible refine GOr.l ?_); (conv => whnf); refine Exists.intro _ (And.intro (chainI (D1)) ?_); conv => whnf) | (refine Exists.intro _ (And.intro (chainI (D2)) ?_); conv => whnf) | (refine Exists.intro _ (And.intro (D2) ?_); conv => whnf) | ((with_reducible refine GOr.l ?_); (conv => whnf); refine Exists.intro _ (And.intro (chainI (D2)) ?_); conv => whnf) | (refine Exists.intro _ (And.intro (chainI (T1)) ?_); conv => whnf) | (refine Exists.intro _ (And.intro (T1) ?_); conv => whnf) | ((with_reducible refine GOr.l ?_); (conv => whnf); refine Exists.intro _ (And.intro (chainI (T1)) ?_); conv => whnf) | (refine Exists.intro _ (And.intro (chainI (A3)) ?_); conv => whnf) | (refine Exists.intro _ (And.intro (A3) ?_); conv => whnf) | ((with_reducible refine GOr.l ?_); (conv => whnf); refine Exists.intro _ (And.intro (chainI (A3)) ?_); conv => whnf) | (refine Exists.intro _ (And.intro (chainI (S1)) ?_); conv => whnf) | (refine Exists.intro _ (And.intro (S1) ?_); conv => whnf) | ((with_reducible refine GOr.l ?_); (conv => whnf); refine Exists.intro _ (And.intro (chainI (S1)) ?_); conv => whnf) | (refine Exists.intro _ (And.intro (chainI (S2)) ?_); conv => whnf) | (refine Exists.intro _ (And.intro (S2) ?_); conv => whnf) | ((with_reducible refine GOr.l ?_); (conv => whnf); refine Exists.intro _ (And.intro (chainI (S2)) ?_); conv => whnf) | (refine Exists.intro _ (And.intro (chainI (S3)) ?_); conv => whnf) | (refine Exists.intro _ (And.intro (S3) ?_); conv => whnf) | ((with_reducible refine GOr.l ?_); (conv => whnf); refine Exists.intro _ (And.intro (chainI (S3)) ?_); conv => whnf) | (refine Exists.intro _ (And.intro (chainI (S4)) ?_); conv => whnf) | (refine Exists.intro _ (And.intro (S4) ?_); conv => whnf) | ((with_reducible refine GOr.l ?_); (conv => whnf); refine Exists.intro _ (And.intro (chainI (S4)) ?_); conv => whnf) | (refine Exists.intro _ (And.intro (chainI (S5)) ?_); conv => whnf) | (refine Exists.intro _ (And.intro (S5) ?_); conv => whnf) | ((with_reducible refine GOr.l ?_); (conv => whnf); refine Exists.intro _ (And.intro (chainI (S5)) ?_); conv => whnf) | (refine And.intro (fun h => ?_) (fun h => ?_) <;> (first | (with_reducible have hd : _ < _ := of_decide_eq_true h) | (with_reducible have hd : _ ≤ _ := of_decide_eq_true h) | (with_reducible have hd : ¬ (_ < _) := of_decide_eq_false h) | (with_reducible have hd : ¬ (_ ≤ _) := of_decide_eq_false h) | skip) <;> (first | exact absurd h (by decide) | first | exact Bool.noConfusion (h.symm.trans hne) | (conv => whnf))) | ((with_reducible refine Both.mk ?_ ?_) <;> conv => whnf) | ((with_reducible refine DOr.l ?_); (conv => whnf)) | ((with_reducible refine OwnOr.l ?_); (conv => whnf)) | ((with_reducible apply Drawn.one); conv => whnf) | ((with_reducible refine Then.mk' ?_); conv => whnf) | (first | exact RefS.self rfl | ((with_reducible refine RefS.mk ?_ ?_); (focus (refine And.intro ?_ (And.intro ?_ (And.intro ?_ rfl)) <;> (conv => whnf) <;> repeat' (first | exact trivial | exact LeE.of (Le.refl _) | exact LeE.nil rfl | (with_reducible refine LeE.of ?_) | (first | fail | exact Le.refl _ | exact rfl | exact leI (by first | rfl | omega | (rw [wrap64 (by omega) (by omega)]; omega) | (rw [wrap64 (by omega) (by omega)]; done)) | exact LeCs.refl _ | exact fun i hi => LeCs.refl _ | exact leOwn (by first | rfl | omega)) | ((with_reducible refine And.intro ?_ ?_) <;> conv => whnf)))); exact rfl)) | (refine And.intro ?_ ?_; (focus (first | exact trivial | exact rfl | (first | exact hB | exact chainI hB | assumption) | (refine chainI ?_; (first | (first | exact hB | exact chainI hB | assumption) | decide | omega | (refine And.intro ?_ ?_ <;> first | omega | (simp; omega)) | (simp only [IntKind.wrap_i64]; first | omega | (refine And.intro ?_ ?_ <;> omega)))) | (intro _; (first | (first | exact hB | exact chainI hB | assumption) | decide | omega | (refine And.intro ?_ ?_ <;> first | omega | (simp; omega)) | (simp only [IntKind.wrap_i64]; first | omega | (refine And.intro ?_ ?_ <;> omega)))) | (intro _ _; (first | (first | exact hB | exact chainI hB | assumption) | decide | omega | (refine And.intro ?_ ?_ <;> first | omega | (simp; omega)) | (simp only [IntKind.wrap_i64]; first | omega | (refine And.intro ?_ ?_ <;> omega)))) | (first | decide | omega | (refine And.intro ?_ ?_ <;> first | omega | (simp; omega)) | (simp only [IntKind.wrap_i64]; first | omega | (refine And.intro ?_ ?_ <;> omega))) | ((conv => whnf); intros; (try simp only [decide_eq_true_eq, decide_eq_false_iff_not, Bool.and_eq_true, Bool.or_eq_true, Bool.and_eq_false_imp, Bool.or_eq_false_iff, Bool.not_eq_true', Bool.not_eq_false', beq_iff_eq, bne_iff_ne, ne_eq] at *); (first | (first | exact hB | exact chainI hB | assumption) | decide | omega | (refine And.intro ?_ ?_ <;> first | omega | (simp; omega)) | (simp only [IntKind.wrap_i64]; first | omega | (refine And.intro ?_ ?_ <;> omega)))))); conv => whnf) | (refine And.intro ?_ ?_; (focus (first | exact NoTag.int | exact NoTag.bool | exact NoTag.str | (refine NoTag.of_scalar ?_; rfl))); conv => whnf) | ((with_reducible refine xc_pure ?_); conv => whnf) | (rw [hg]; conv => whnf))
    all_goals exact leB rfl
  · have hne : (grB n rows || decide ((l.length : Int) > 40)) = true := by
      have : decide ((l.length : Int) > 40) = true := by simp; omega
      rw [this, Bool.or_true]
    refine acall_of_vc htb hmix (f := 5) rfl rfl rfl (by kernel_rfl) rfl rfl ?_; conv => whnf
    repeat' (first | (refine Exists.intro _ (And.intro (chainI (aAwake)) ?_); conv => whnf) | (refine Exists.intro _ (And.intro (aAwake) ?_); conv => whnf) | ((with_reducible refine GOr.l ?_); (conv => whnf); refine Exists.intro _ (And.intro (chainI (aAwake)) ?_); conv => whnf) | (refine Exists.intro _ (And.intro (chainI (G)) ?_); conv => whnf) | (refine Exists.intro _ (And.intro (G) ?_); conv => whnf) | ((with_reducible refine GOr.l ?_); (conv => whnf); refine Exists.intro _ (And.intro (chainI (G)) ?_); conv => whnf) | (refine And.intro (fun h => ?_) (fun h => ?_) <;> (first | (with_reducible have hd : _ < _ := of_decide_eq_true h) | (with_reducible have hd : _ ≤ _ := of_decide_eq_true h) | (with_reducible have hd : ¬ (_ < _) := of_decide_eq_false h) | (with_reducible have hd : ¬ (_ ≤ _) := of_decide_eq_false h) | skip) <;> (first | exact absurd h (by decide) | first | exact Bool.noConfusion (h.symm.trans hne) | (conv => whnf))) | ((with_reducible refine Both.mk ?_ ?_) <;> conv => whnf) | ((with_reducible refine DOr.l ?_); (conv => whnf)) | ((with_reducible refine OwnOr.l ?_); (conv => whnf)) | ((with_reducible apply Drawn.one); conv => whnf) | ((with_reducible refine Then.mk' ?_); conv => whnf) | (first | exact RefS.self rfl | ((with_reducible refine RefS.mk ?_ ?_); (focus (refine And.intro ?_ (And.intro ?_ (And.intro ?_ rfl)) <;> (conv => whnf) <;> repeat' (first | exact trivial | exact LeE.of (Le.refl _) | exact LeE.nil rfl | (with_reducible refine LeE.of ?_) | (first | fail | exact Le.refl _ | exact rfl | exact leI (by first | rfl | omega | (rw [wrap64 (by omega) (by omega)]; omega) | (rw [wrap64 (by omega) (by omega)]; done)) | exact LeCs.refl _ | exact fun i hi => LeCs.refl _ | exact leOwn (by first | rfl | omega)) | ((with_reducible refine And.intro ?_ ?_) <;> conv => whnf)))); exact rfl)) | (refine And.intro ?_ ?_; (focus (first | exact trivial | exact rfl | (first | exact hB | exact chainI hB | assumption) | (refine chainI ?_; (first | (first | exact hB | exact chainI hB | assumption) | decide | omega | (refine And.intro ?_ ?_ <;> first | omega | (simp; omega)) | (simp only [IntKind.wrap_i64]; first | omega | (refine And.intro ?_ ?_ <;> omega)))) | (intro _; (first | (first | exact hB | exact chainI hB | assumption) | decide | omega | (refine And.intro ?_ ?_ <;> first | omega | (simp; omega)) | (simp only [IntKind.wrap_i64]; first | omega | (refine And.intro ?_ ?_ <;> omega)))) | (intro _ _; (first | (first | exact hB | exact chainI hB | assumption) | decide | omega | (refine And.intro ?_ ?_ <;> first | omega | (simp; omega)) | (simp only [IntKind.wrap_i64]; first | omega | (refine And.intro ?_ ?_ <;> omega)))) | (first | decide | omega | (refine And.intro ?_ ?_ <;> first | omega | (simp; omega)) | (simp only [IntKind.wrap_i64]; first | omega | (refine And.intro ?_ ?_ <;> omega))) | ((conv => whnf); intros; (try simp only [decide_eq_true_eq, decide_eq_false_iff_not, Bool.and_eq_true, Bool.or_eq_true, Bool.and_eq_false_imp, Bool.or_eq_false_iff, Bool.not_eq_true', Bool.not_eq_false', beq_iff_eq, bne_iff_ne, ne_eq] at *); (first | (first | exact hB | exact chainI hB | assumption) | decide | omega | (refine And.intro ?_ ?_ <;> first | omega | (simp; omega)) | (simp only [IntKind.wrap_i64]; first | omega | (refine And.intro ?_ ?_ <;> omega)))))); conv => whnf) | (refine And.intro ?_ ?_; (focus (first | exact NoTag.int | exact NoTag.bool | exact NoTag.str | (refine NoTag.of_scalar ?_; rfl))); conv => whnf) | ((with_reducible refine xc_pure ?_); conv => whnf))
    all_goals exact leB rfl
end Go.Proofs.YtbddpnohacjjfaaDoor

namespace Go.Proofs.YtbddpnohacjjfaaDoor
set_option linter.unusedSimpArgs false
set_option linter.unusedVariables false
set_option maxRecDepth 100000
set_option maxHeartbeats 8000000
open Go Go.VA Go.RowKit Go.ChangeShapes Go.WideShapes Go.ChangeAt
set_option maxRecDepth 100000 in
theorem graphAsks_lifted (os : Os) (started : os.Started) (H : Type) (enc : TypeId × Value → H) :
    ReturnsInHanded {} Tryd.checked os 5 .any (fun w args => (Rows.graphAsksSpec.pre enc Tryd.prog Tryd.f5 Rows.graphAsksRow.domain false w args ∧ laidMetH Tryd.prog Rows.graphRightRow.laid w) ∧ sizedMet enc Tryd.prog Tryd.f5 (OpenSpec.ofChange Rows.graphAsksSpec) false w args) (Rows.graphAsksSpec.post enc Tryd.prog Tryd.f5 false true false false) := by
  refine law_liftedL Rows.graphRightRow.laid os started own (by kernel_rfl) Tryd.func5 laidOut (by kernel_rfl) rfl rfl rfl (tb := 4) (by kernel_rfl) (fun ds h => ?_)
    (ChangeSpec.witness_shaped (enc := enc) (C := Tryd.checked) (os := os) (X := fun w _ => laidMetH Tryd.prog Rows.graphRightRow.laid w) false (World.doorLaid Tryd.prog 14 os) #[.int .i64 0, .slice none 0 0, .int .i64 0, .slice none 0 0] 8 rfl (World.shaped_of_RefB (by kernel_rfl) (by kernel_rfl)) (by kernel_rfl) (by kernel_rfl) (by kernel_rfl) (door_met os _)) ?_
  · match ds, h with | [_, _, _, _], _ => rfl
  · intro W base args ds ps hval hA0 hs hL
    have hA : DataW.TrodAll enc Tryd.prog W 0 (fun _ => true) true [3, 22, 3, 27] args.toList ds ps := hA0
    obtain ⟨v0, v1, v2, v3, d0, d1, d2, d3, p0, p1, p2, p3, rfl, rfl, rfl, h0, h1, h2, h3⟩ := trodAll_four hA
    obtain ⟨x0, rfl, _⟩ := open_int (k := .i64) (by kernel_rfl) (hval 0 3 v0 rfl rfl) h0
    obtain ⟨x1, e1⟩ := open_rows0 (hval 1 22 v1 rfl rfl) h1 (hs 1 22 d1 rfl rfl)
    obtain ⟨x2, rfl, _⟩ := open_int (k := .i64) (by kernel_rfl) (hval 2 3 v2 rfl rfl) h2
    obtain ⟨x3, e3⟩ := open_ints0 (hval 3 27 v3 rfl rfl) h3 (hs 3 27 d3 rfl rfl)
    exact acall_true (aGAsks false false x0 x1 (fun _ => false) x2 x3) W _ (glOk_laid hL) ⟨_, _, rfl, by show RelV _ _ (.c (.v (.int .i64 x0))) _; simp [RelV, RepC, Value.oneCell'], _, _, rfl, e1, _, _, rfl, by show RelV _ _ (.c (.v (.int .i64 x2))) _; simp [RelV, RepC, Value.oneCell'], _, _, rfl, e3, rfl⟩
theorem graphAsks_holds : Rows.GraphAsksSaid :=
  OpenClaim.holds_of_wide 5 Tryd.f5 rfl rfl rfl rfl rfl rfl rfl ⟨rfl, rfl, rfl, rfl, rfl⟩ rfl rfl rfl rfl rfl (by kernel_rfl) Tryd.func5 (by kernel_rfl)
    (of_decide_eq_true (by kernel_rfl)) (by unfold Func.isWrapper; rw [if_neg (by decide +kernel)]; exact ⟨rfl, rfl⟩)
    (fun os started H enc _ => graphAsks_lifted os started H enc)
theorem graphAsksCard_holds : Rows.GraphAsksCardSaid :=
  Claim7.holds_tied_plain_at .later [] [.data] true (true, "6ac7f7d1aff556a0c37a719837c09040f873abadc64dc78aeef01559949b37b2") false
    graphAsks_holds (fun _ h => by cases h) (by kernel_rfl) (fun _ h => by cases h) graphAsks_row_tie rfl ⟨rfl, rfl⟩ (by kernel_rfl) rfl
    (fun f fn hf hfn => by
      obtain rfl : f = 5 := Option.some.inj ((show Tryd.prog.funcNamed Rows.graphAsksRow.func = some 5 by kernel_rfl).symm.trans hf) |>.symm
      obtain rfl : fn = Tryd.f5 := (Option.some.inj (Tryd.func5.symm.trans hfn)).symm
      exact ⟨by kernel_rfl, fun j t ht => by
        have ht' : (#[3, 22, 3, 27] : Array TypeId)[j]? = some t := ht
        have hm : t ∈ [3, 22, 3, 27] := by simpa using Array.mem_of_getElem? ht'
        have hall : ([3, 22, 3, 27].all fun u => !Tryd.prog.wantsStandIn u) = true := by kernel_rfl
        exact (show Tryd.prog.wantsStandIn t = false by simpa using List.all_eq_true.1 hall t hm)⟩)
    (by kernel_rfl)
#print axioms graphAsksCard_holds
end Go.Proofs.YtbddpnohacjjfaaDoor
