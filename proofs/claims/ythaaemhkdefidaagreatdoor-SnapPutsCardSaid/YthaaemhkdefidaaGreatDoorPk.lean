/- Contracts of functions of the program, and the laws that stand on them: what each function answers, whatever its arguments. -/
import Derived.Test.YthaaemhkdefidaaGreatDoorP5
import Derived.Test.YthaaemhkdefidaaGreatDoorVo2
import Derived.Test.YthaaemhkdefidaaGreatDoorVD
import Derived.ChangeMaps5
import Derived.Carry
import Derived.Test.YthaaemhkdefidaaGreatDoorTie
import Derived.Test.YthaaemhkdefidaaGreatDoorCards
set_option linter.unusedSectionVars false
set_option linter.unnecessarySimpa false
namespace Go.Proofs.YthaaemhkdefidaaGreatDoor
set_option linter.unusedSimpArgs false
set_option linter.unusedVariables false
set_option maxRecDepth 100000
set_option maxHeartbeats 8000000
open Go Go.VA Go.RowKit Go.ChangeShapes Go.WideShapes Go.ChangeAt
theorem own : ownKnob Tryz.prog.godebug = none := by kernel_rfl
theorem laidOut : laidOutB Tryz.prog = true := by kernel_rfl
def kI : List Int := kN.map Int.ofNat
def bI : List Int := bN.map Int.ofNat
abbrev nmP (i : Nat) : String := Rows.snapPutsRow.named.getD i ""
abbrev laid8 : List (String × DataW Unit) := [(nmP 1, .agg [.lit (.int .i64 2), .lit (.int .i64 0)]), (nmP 0, .agg [.lit (.int .i64 3), .lit (.int .i64 0)]), (nmP 2, .agg [.lit (.int .i64 4), .lit (.int .i64 2)]), (nmP 5, .agg [.lit (.int .i64 4), .lit (.int .i64 3)]), (nmP 3, .agg [.lit (.int .i64 5), .lit (.int .i64 3)]), (nmP 4, .agg [.lit (.int .i64 5), .lit (.int .i64 0)]), (nmP 7, .agg (kI.map fun i => .lit (.int .u32 i))), (nmP 6, .agg (bI.map fun i => .lit (.int .u32 i)))]
theorem laid_eq : Rows.snapPutsRow.laid = laid8 := rfl
theorem kN_len : kN.length = 64 := by decide
theorem kN_lt : ∀ i, i < 64 → kN.getD i 0 < 4294967296 := by decide
theorem bN_lt : ∀ i, i < 8 → bN.getD i 0 < 4294967296 := by decide
theorem cells_k : rndC = kI.map fun i => .v (.int .u32 i) := by
 refine List.ext_getElem? fun i => ?_
 by_cases h : i < 64
 ·rw [arrC_get, if_pos h, List.getElem?_map, show kI = kN.map Int.ofNat from rfl, List.getElem?_map, List.getElem?_eq_getElem (by rw [kN_len]; exact h)]
  simp only [Option.map_some, cw, VA.wI_def, kT, BitVec.toNat_ofNat]
  rw [Nat.mod_eq_of_lt (kN_lt i h), List.getD_eq_getElem?_getD, List.getElem?_eq_getElem (by rw [kN_len]; exact h)]
  rfl
 ·rw [List.getElem?_eq_none (by rw [arrC_length]; omega), List.getElem?_eq_none (by simp [kI, kN_len]; omega)]
theorem cells_b : cW8 bT = bI.map fun i => .v (.int .u32 i) := by
 have H : ∀ i, i < 8 → VA.wI (bT i) = (bN.getD i 0 : Nat) := fun i hi => by
  rw [VA.wI_def, bT, BitVec.toNat_ofNat, Nat.mod_eq_of_lt (bN_lt i hi)]
 simp only [cW8, cw, H 0 (by decide), H 1 (by decide), H 2 (by decide), H 3 (by decide), H 4 (by decide), H 5 (by decide), H 6 (by decide), H 7 (by decide)]
 rfl
theorem glOk_laid {W : World} (h : laidMetH Tryz.prog Rows.snapPutsRow.laid W) : GlOk gl (S0 W) := by
 rw [laid_eq, MakeChecks.laidMetH_plain _ _ _ (by kernel_rfl)] at h
 obtain ⟨ps, hl, _⟩ := h
 obtain ⟨h2, q2, hl2⟩ := laid_two htb (k := .i64) (e := 3) (t := 41) (g := 2) rfl rfl rfl (by kernel_rfl) (by kernel_rfl) hl
 obtain ⟨h1, q1, hl1⟩ := laid_two htb (k := .i64) (e := 3) (t := 41) (g := 1) rfl rfl rfl (by kernel_rfl) (by kernel_rfl) hl2
 obtain ⟨h3, q3, hl3⟩ := laid_two htb (k := .i64) (e := 3) (t := 41) (g := 3) rfl rfl rfl (by kernel_rfl) (by kernel_rfl) hl1
 obtain ⟨h6, q6, hl6⟩ := laid_two htb (k := .i64) (e := 3) (t := 41) (g := 6) rfl rfl rfl (by kernel_rfl) (by kernel_rfl) hl3
 obtain ⟨h4, q4, hl4⟩ := laid_two htb (k := .i64) (e := 3) (t := 41) (g := 4) rfl rfl rfl (by kernel_rfl) (by kernel_rfl) hl6
 obtain ⟨h5, q5, hl5⟩ := laid_two htb (k := .i64) (e := 3) (t := 41) (g := 5) rfl rfl rfl (by kernel_rfl) (by kernel_rfl) hl4
 obtain ⟨h7, q7, hl7⟩ := laid_ints htb (k := .u32) (n := 64) (e := 35) (t := 202) (g := 7) rfl rfl rfl (by kernel_rfl) (by kernel_rfl) hl5
 obtain ⟨h0, _⟩ := laid_ints htb (k := .u32) (n := 8) (e := 35) (t := 171) (g := 0) rfl rfl rfl (by kernel_rfl) (by kernel_rfl) hl7
 intro g
 match g with
 | 0 => exact (congrArg (RepCs _ _ 0) cells_b).mpr h0
 | 1 => exact h1
 | 2 => exact h2
 | 3 => exact h3
 | 4 => exact h4
 | 5 => exact h5
 | 6 => exact h6
 | 7 => exact (congrArg (RepCs _ _ 0) cells_k).mpr h7
 | _ + 8 => simp [gl, RepCs]
theorem door_met (os : Os) (args : Array Value) : laidMetH Tryz.prog Rows.snapPutsRow.laid ((World.doorLaid Tryz.prog 49 os).forCall (fun _ _ => 0) ⟨#[], args, []⟩).memory :=
 laidMetH_of_parts3 (fuel := 8) (laidMet_of_run' 8 (by kernel_rfl) (by kernel_rfl)) (by kernel_rfl) (by kernel_rfl)
/-- a state that is none -/
abbrev zStV : Value := .agg #[.int .u64 0, .int .u64 0, .slice none 0 0]
section
variable {H : Type} {enc : TypeId × Value → H} {W : World} {base : Nat} {sp : Nat → Bool} {held : Bool}
theorem open_Ad {fuel : Nat} {cs : List Value} {x : DataW H × List MemPlace} (h : DataW.trod enc Tryz.prog W base sp held fuel 34 cs = some x) : ∃ a : Ad, RepVs (S0 W) (cAd a) cs := by
 obtain ⟨hl, m3, rfl, ha⟩ := tr_struct htb (t := 34) rfl h
 obtain ⟨w0, a0⟩ := ha 0 0 9 rfl rfl
 obtain ⟨w1, a1⟩ := ha 1 1 9 rfl rfl
 obtain ⟨w2, a2⟩ := ha 2 2 3 rfl rfl
 obtain ⟨w3, a3⟩ := ha 3 3 2 rfl rfl
 obtain ⟨w4, a4⟩ := ha 4 4 9 rfl rfl
 obtain ⟨t, e3, _⟩ := tr_str htb (t := 9) rfl a0
 obtain ⟨nm, e4, _⟩ := tr_str htb (t := 9) rfl a1
 obtain ⟨kk, e5, _⟩ := tr_int htb (t := 3) (k := .i64) rfl a2
 obtain ⟨ix, e6, _⟩ := tr_int htb (t := 2) (k := .i64) rfl a3
 obtain ⟨s, e7, _⟩ := tr_str htb (t := 9) rfl a4
 have hl : cs.length = 5 := hl
 match cs, hl with
 | [c0, c1, c2, c3, c4], _ =>
  simp [tb, tbl, VA.look] at e3 e4 e5 e6 e7
  subst e3; subst e4; subst e5; subst e6; subst e7
  refine ⟨⟨t, nm, kk, ix, s⟩, ?_⟩
  simp only [cAd, RepVs]
  exact ⟨_, _, rfl, repV_s, _, _, rfl, repV_s, _, _, rfl, repV_i, _, _, rfl, repV_i, _, _, rfl, repV_s, rfl⟩
theorem open_Ads {fuel : Nat} {cs : List Value} {x : DataW H × List MemPlace} (h : DataW.trod enc Tryz.prog W base sp held fuel 44 cs = some x) (hs : SzW Tryz.prog 44 x.1) : ∃ l : List Ad, ∃ u, cs = [u] ∧ RepC (S0 W) (.sl false 5 l.length (rA l)) u := by
 obtain ⟨a, len, cap, m, rfl, rfl, hlc, hcap0, hrows⟩ := tr_sliceS htb (t := 44) (e := 34) rfl rfl (by decide) h hs
 have hcap : len * 64 ≤ 140737488351232 := hcap0
 rcases hrows with h0 | ⟨b, o, rfl, hr⟩
 ·subst h0
  exact ⟨[], _, rfl, repC_rows ⟨hlc, by simp⟩ (.inl rfl)⟩
 ·have hex : ∀ i : Fin len, ∃ v : Ad, ∃ ce : List Value, ce.length = 5 ∧ (∀ j, j < 5 → W.cell? ⟨b, o + i * 5 + j, none⟩ = ce[j]?) ∧ RepVs (S0 W) (cAd v) ce := by
   intro ⟨i, hi⟩
   obtain ⟨ce, y, hl, hc, ht, hsy⟩ := hr i hi
   obtain ⟨v, hv⟩ := open_Ad ht
   exact ⟨v, ce, hl, hc, hv⟩
  have hf := fun i => Classical.choose_spec (hex i)
  refine ⟨List.ofFn fun i => Classical.choose (hex i), _, rfl, ?_⟩
  rw [List.length_ofFn]
  refine repC_rows ⟨hlc, by omega⟩ (.inr ⟨b, o, rfl, fun i hi => ?_⟩)
  obtain ⟨ce, g1, g2, g3⟩ := hf ⟨i, hi⟩
  have hrow : rA (List.ofFn fun i => Classical.choose (hex i)) i = cAd (Classical.choose (hex ⟨i, hi⟩)) := by
   simp [rowE, List.getD_eq_getElem?_getD, hi]
  rw [hrow]
  refine ⟨ce, g1, fun j hj u hu => ?_, rfl, g3⟩
  have := g2 j hj
  rw [hu] at this
  exact this
theorem len17 {l : List Value} (h : l.length = 17) : ∃ c0 c1 c2 c3 c4 c5 c6 c7 c8 c9 c10 c11 c12 c13 c14 c15 c16, l = [c0, c1, c2, c3, c4, c5, c6, c7, c8, c9, c10, c11, c12, c13, c14, c15, c16] := by
 match l, h with
 | [c0, c1, c2, c3, c4, c5, c6, c7, c8, c9, c10, c11, c12, c13, c14, c15, c16], _ => exact ⟨_, _, _, _, _, _, _, _, _, _, _, _, _, _, _, _, _, rfl⟩
theorem open_Ky {fuel : Nat} {cs : List Value} {x : DataW H × List MemPlace} (h : DataW.trod enc Tryz.prog W base sp held fuel 37 cs = some x) : ∃ k : Ky, RepVs (S0 W) (cKy k) cs ∧ 0 ≤ k.n ∧ k.n ≤ 4294967295 := by
 obtain ⟨hl, m2, rfl, hk⟩ := tr_struct htb (t := 37) rfl h
 obtain ⟨z0, k0⟩ := hk 0 0 34 rfl rfl
 obtain ⟨z1, k1⟩ := hk 1 5 35 rfl rfl
 obtain ⟨g, e2, g0, g1⟩ := tr_int htb (t := 35) (k := .u32) rfl k1
 obtain ⟨a, ha⟩ := open_Ad k0
 have hl : cs.length = 6 := hl
 match cs, hl with
 | [c0, c1, c2, c3, c4, c5], _ =>
  simp [tb, tbl, VA.look] at e2
  subst e2
  refine ⟨⟨a, g⟩, ?_, g0, g1⟩
  have ha : RepVs (S0 W) (cAd a) [c0, c1, c2, c3, c4] := ha
  exact repVs_app ha (repVs_one repV_i)
theorem open_En {fuel : Nat} {cs : List Value} {x : DataW H × List MemPlace} (h : DataW.trod enc Tryz.prog W base sp held fuel 46 cs = some x) (hs : SzW Tryz.prog 46 x.1) : ∃ e : En, RepVs (S0 W) (cEn e) cs ∧ RgEn e := by
 obtain ⟨hl, m, rfl, hx⟩ := tr_structS htb (t := 46) rfl h hs
 obtain ⟨c0, c1, c2, c3, c4, c5, c6, c7, c8, c9, c10, c11, c12, c13, c14, c15, c16, rfl⟩ := len17 hl
 obtain ⟨y0, h0, s0⟩ := hx 0 0 37 rfl rfl
 obtain ⟨y1, h1, s1⟩ := hx 1 6 43 rfl rfl
 obtain ⟨y2, h2, s2⟩ := hx 2 14 4 rfl rfl
 obtain ⟨y3, h3, s3⟩ := hx 3 15 4 rfl rfl
 obtain ⟨y4, h4, s4⟩ := hx 4 16 44 rfl rfl
 obtain ⟨k, hk, k0, k1⟩ := open_Ky h0
 obtain ⟨v, hv, gv⟩ := open_V (m + 1) m (Nat.lt_succ_self _) _ _ h1 s1
 obtain ⟨t, e2⟩ := tr_bool htb (t := 4) rfl h2
 obtain ⟨u, e3⟩ := tr_bool htb (t := 4) rfl h3
 obtain ⟨l, w, e4, r4⟩ := open_Ads h4 s4
 simp [tb, tbl, VA.look] at e2 e3 e4
 subst e2; subst e3; subst e4
 refine ⟨⟨k, v, t, u, l⟩, ?_, ⟨k0, k1, gv⟩⟩
 have hk : RepVs (S0 W) (cKy k) [c0, c1, c2, c3, c4, c5] := hk
 have hv : RepVs (S0 W) (cV v) [c6, c7, c8, c9, c10, c11, c12, c13] := hv
 have hz : RepVs (S0 W) [.v (.bool t), .v (.bool u), .sl false 5 l.length (rA l)] [.bool t, .bool u, c16] := by
  simp only [RepVs]
  exact ⟨_, _, rfl, repV_b, _, _, rfl, repV_b, _, _, rfl, r4, rfl⟩
 exact repVs_app hk (repVs_app hv hz)
theorem open_Ens {fuel : Nat} {cs : List Value} {x : DataW H × List MemPlace} (h : DataW.trod enc Tryz.prog W base sp held fuel 23 cs = some x) (hs : SzW Tryz.prog 23 x.1) : ∃ l : List En, ∃ u, cs = [u] ∧ RepC (S0 W) (.sl false 17 l.length (rE l)) u ∧ ∀ e ∈ l, RgEn e := by
 obtain ⟨a, len, cap, m, rfl, rfl, hlc, hcap0, hrows⟩ := tr_sliceS htb (t := 23) (e := 46) rfl rfl (by decide) h hs
 have hcap : len * 208 ≤ 140737488351232 := hcap0
 rcases hrows with h0 | ⟨b, o, rfl, hr⟩
 ·subst h0
  exact ⟨[], _, rfl, repC_rows ⟨hlc, by simp⟩ (.inl rfl), fun e he => by simp at he⟩
 ·have hex : ∀ i : Fin len, ∃ v : En, ∃ ce : List Value, ce.length = 17 ∧ (∀ j, j < 17 → W.cell? ⟨b, o + i * 17 + j, none⟩ = ce[j]?) ∧ RepVs (S0 W) (cEn v) ce ∧ RgEn v := by
   intro ⟨i, hi⟩
   obtain ⟨ce, y, hl, hc, ht, hsy⟩ := hr i hi
   obtain ⟨v, hv, gv⟩ := open_En ht hsy
   exact ⟨v, ce, hl, hc, hv, gv⟩
  have hf := fun i => Classical.choose_spec (hex i)
  refine ⟨List.ofFn fun i => Classical.choose (hex i), _, rfl, ?_, fun x hx => ?_⟩
  rotate_left
  ·obtain ⟨i, rfl⟩ := List.mem_ofFn.1 hx
   obtain ⟨_, _, _, _, g⟩ := hf i
   exact g
  rw [List.length_ofFn]
  refine repC_rows ⟨hlc, by omega⟩ (.inr ⟨b, o, rfl, fun i hi => ?_⟩)
  obtain ⟨ce, g1, g2, g3, _⟩ := hf ⟨i, hi⟩
  have hrow : rE (List.ofFn fun i => Classical.choose (hex i)) i = cEn (Classical.choose (hex ⟨i, hi⟩)) := by
   simp [rowE, List.getD_eq_getElem?_getD, hi]
  rw [hrow]
  refine ⟨ce, g1, fun j hj u hu => ?_, rfl, g3⟩
  have := g2 j hj
  rw [hu] at this
  exact this
theorem open_state {v : Value} {d : DataW H} {ps : List MemPlace} {r : Reach} {b0 : Nat} (hval : Value.okWide Tryz.prog W r b0 25 v) (hd : DataW.Trod enc Tryz.prog W base sp held 25 v d ps) (hs : SzW Tryz.prog 25 d) :
  ∃ x : St, RelV [] (S0 W) (.ag (cSt x)) v ∧ RgSt x := by
 obtain ⟨arr, rfl, hc⟩ := arg_agg htb (t := 25) rfl hval
 obtain ⟨fuel, hf⟩ := hd
 rw [hc] at hf
 obtain ⟨hl, m, rfl, hx⟩ := tr_structS htb (t := 25) rfl hf hs
 obtain ⟨y0, h0, s0⟩ := hx 0 0 22 rfl rfl
 obtain ⟨y1, h1, s1⟩ := hx 1 1 22 rfl rfl
 obtain ⟨y2, h2, s2⟩ := hx 2 2 23 rfl rfl
 obtain ⟨a, e0, a0, a1⟩ := tr_int htb (t := 22) (k := .u64) rfl h0
 obtain ⟨s, e1, b0, b1⟩ := tr_int htb (t := 22) (k := .u64) rfl h1
 obtain ⟨l, u, e2, r2, g2⟩ := open_Ens h2 s2
 have hrel : ∀ q : St, RepVs (S0 W) (cSt q) arr.toList → RelV [] (S0 W) (.ag (cSt q)) (.agg arr) := fun q h => relV_agg rfl h
 have hl : arr.toList.length = 3 := hl
 generalize arr.toList = c at *
 match c, hl with
 | [c0, c1, c2], _ =>
  simp [tb, tbl, VA.look] at e0 e1 e2
  subst e0; subst e1; subst e2
  refine ⟨⟨a, s, l⟩, hrel _ ?_, ⟨a0, Int.lt_of_le_of_lt a1 (by decide), b0, Int.lt_of_le_of_lt b1 (by decide), g2⟩⟩
  simp only [RepVs]
  exact ⟨_, _, rfl, repV_i, _, _, rfl, repV_i, _, _, rfl, r2, rfl⟩
end
end Go.Proofs.YthaaemhkdefidaaGreatDoor
