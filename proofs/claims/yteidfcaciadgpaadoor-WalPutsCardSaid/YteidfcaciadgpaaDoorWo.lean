/- Contracts of functions of the program, and the laws that stand on them: what each function answers, whatever its arguments. -/
import Derived.Test.YteidfcaciadgpaaDoorWE
import Derived.Test.YteidfcaciadgpaaDoorWk
set_option linter.unusedSectionVars false
set_option linter.unnecessarySimpa false
namespace Go.Proofs.YteidfcaciadgpaaDoor
set_option linter.unusedSimpArgs false
set_option linter.unusedVariables false
set_option maxRecDepth 100000
set_option maxHeartbeats 8000000
open Go Go.VA Go.RowKit Go.ChangeShapes Go.WideShapes Go.ChangeAt
section
variable {H : Type} {enc : TypeId × Value → H} {W : World} {base : Nat} {sp : Nat → Bool} {held : Bool}
theorem lenI8 {l : List Value} (h : l.length = 8) : ∃ a b c d e f g i, l = [a, b, c, d, e, f, g, i] := by
  match l, h with
  | [a, b, c, d, e, f, g, i], _ => exact ⟨_, _, _, _, _, _, _, _, rfl⟩
theorem open_It {fuel : Nat} {cs : List Value} {x : DataW H × List MemPlace} (h : DataW.trod enc Tryd.prog W base sp held fuel 30 cs = some x) : ∃ i : It, (∀ S, RepVs S (cIt i) cs) ∧ RgIt i := by
  obtain ⟨hl, m, rfl, hx⟩ := tr_struct htb (t := 30) rfl h
  obtain ⟨c0, c1, c2, c3, c4, c5, c6, c7, rfl⟩ := lenI8 hl
  obtain ⟨y0, h0⟩ := hx 0 0 23 rfl rfl
  obtain ⟨y1, h1⟩ := hx 1 1 3 rfl rfl
  obtain ⟨y2, h2⟩ := hx 2 2 28 rfl rfl
  obtain ⟨_, m2, rfl, hk⟩ := tr_struct htb (t := 28) rfl h2
  obtain ⟨z0, k0⟩ := hk 0 0 25 rfl rfl
  obtain ⟨z1, k1⟩ := hk 1 5 26 rfl rfl
  obtain ⟨_, m3, rfl, ha⟩ := tr_struct htb (t := 25) rfl k0
  obtain ⟨w0, a0⟩ := ha 0 0 9 rfl rfl
  obtain ⟨w1, a1⟩ := ha 1 1 9 rfl rfl
  obtain ⟨w2, a2⟩ := ha 2 2 3 rfl rfl
  obtain ⟨w3, a3⟩ := ha 3 3 2 rfl rfl
  obtain ⟨w4, a4⟩ := ha 4 4 9 rfl rfl
  obtain ⟨n, e0, n0, n1⟩ := tr_int htb (t := 23) (k := .u64) rfl h0
  obtain ⟨k, e1, _⟩ := tr_int htb (t := 3) (k := .i64) rfl h1
  obtain ⟨g, e2, g0, g1⟩ := tr_int htb (t := 26) (k := .u32) rfl k1
  obtain ⟨t, e3, _⟩ := tr_str htb (t := 9) rfl a0
  obtain ⟨nm, e4, _⟩ := tr_str htb (t := 9) rfl a1
  obtain ⟨kk, e5, _⟩ := tr_int htb (t := 3) (k := .i64) rfl a2
  obtain ⟨ix, e6, _⟩ := tr_int htb (t := 2) (k := .i64) rfl a3
  obtain ⟨s, e7, _⟩ := tr_str htb (t := 9) rfl a4
  simp [tb, tbl, VA.look] at e0 e1 e2 e3 e4 e5 e6 e7
  subst e0; subst e1; subst e2; subst e3; subst e4; subst e5; subst e6; subst e7
  refine ⟨⟨n, k, ⟨⟨t, nm, kk, ix, s⟩, g⟩⟩, fun S => ?_, n0, g0, g1⟩
  simp only [cIt, RepVs]
  exact ⟨_, _, rfl, repV_i, _, _, rfl, repV_i, _, _, rfl, repV_s, _, _, rfl, repV_s, _, _, rfl, repV_i, _, _, rfl, repV_i, _, _, rfl, repV_s, _, _, rfl, repV_i, rfl⟩
theorem open_intent {v : Value} {d : DataW H} {ps : List MemPlace} {r : Reach} {b0 : Nat} (hval : Value.okWide Tryd.prog W r b0 30 v) (hd : DataW.Trod enc Tryd.prog W base sp held 30 v d ps) :
    ∃ i : It, (∀ S, RelV [] S (.ag (cIt i)) v) ∧ RgIt i := by
  obtain ⟨arr, rfl, hc⟩ := arg_agg htb (t := 30) rfl hval
  obtain ⟨fuel, hf⟩ := hd
  rw [hc] at hf
  obtain ⟨i, hi, hr⟩ := open_It hf
  exact ⟨i, fun S => relV_agg rfl (hi S), hr⟩
end
end Go.Proofs.YteidfcaciadgpaaDoor
