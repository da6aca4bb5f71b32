/- Contracts of functions of the program, and the laws that stand on them: what each function answers, whatever its arguments. -/
import Derived.Test.YtldccngnojnhbaaDoorN4
import Derived.Test.YtldccngnojnhbaaDoorVD
import Derived.Test.YtldccngnojnhbaaDoorVo2
import Derived.ChangeMaps5
import Derived.Carry
import Derived.Test.YtldccngnojnhbaaDoorTie
import Derived.Test.YtldccngnojnhbaaDoorCards
set_option linter.unusedSectionVars false
set_option linter.unnecessarySimpa false
namespace Go.Proofs.YtldccngnojnhbaaDoor
set_option linter.unusedSimpArgs false
set_option linter.unusedVariables false
set_option maxRecDepth 100000
set_option maxHeartbeats 8000000
open Go Go.VA Go.RowKit Go.ChangeShapes Go.WideShapes Go.ChangeAt
theorem own : ownKnob Tryd.prog.godebug = none := by kernel_rfl
theorem laidOut : laidOutB Tryd.prog = true := by kernel_rfl
abbrev nmE : String := Rows.wireAsksRow.named.getD 1 ""
abbrev nmD : String := Rows.wireAsksRow.named.getD 2 ""
abbrev nmP : String := Rows.wireAsksRow.named.getD 0 ""
abbrev laid3 : List (String × DataW Unit) := [(nmE, .agg (tabE.map fun i => .lit (.int .u8 i))), (nmD, .agg (tabD.map fun i => .lit (.int .u8 i))), (nmP, .agg (tabP.map fun i => .lit (.int .u64 i)))]
theorem laid_eq : Rows.wireAsksRow.laid = laid3 := rfl
theorem glOk_laid {W : World} (h : laidMetH Tryd.prog Rows.wireAsksRow.laid W) : GlOk gl (S0 W) := by
  rw [laid_eq, MakeChecks.laidMetH_plain _ _ _ (by kernel_rfl)] at h
  obtain ⟨ps, hl, _⟩ := h
  obtain ⟨h1, q, hl2⟩ := laid_ints htb (k := .u8) (n := 32) (e := 5) (t := 73) (g := 1) rfl rfl rfl (by kernel_rfl) (by kernel_rfl) hl
  obtain ⟨h2, q2, hl3⟩ := laid_ints htb (k := .u8) (n := 64) (e := 5) (t := 74) (g := 2) rfl rfl rfl (by kernel_rfl) (by kernel_rfl) hl2
  obtain ⟨h0, _⟩ := laid_ints htb (k := .u64) (n := 20) (e := 54) (t := 67) (g := 0) rfl rfl rfl (by kernel_rfl) (by kernel_rfl) hl3
  intro g
  match g with
  | 0 => exact h0
  | 1 => exact h1
  | 2 => exact h2
  | _ + 3 => simp [gl, RepCs]
theorem door_met (os : Os) (args : Array Value) : laidMetH Tryd.prog Rows.wireAsksRow.laid ((World.doorLaid Tryd.prog 24 os).forCall (fun _ _ => 0) ⟨#[], args, []⟩).memory :=
  laidMetH_of_parts3 (fuel := 8) (laidMet_of_run' 8 (by kernel_rfl) (by kernel_rfl)) (by kernel_rfl) (by kernel_rfl)
abbrev zRpV : Value := .agg #[.int .i64 0, .int .i64 0, .int .i64 0, .string ByteArray.empty, .slice none 0 0, .slice none 0 0, .int .i64 0, .int .i64 0, .bool false]
abbrev zRqV : Value := .agg #[.int .i64 0, .string ByteArray.empty, .string ByteArray.empty, .int .i64 0, .int .i64 0, .string ByteArray.empty, .int .u32 0, .int .i64 0, .int .i64 0, .string ByteArray.empty, .slice none 0 0, .slice none 0 0, .int .i64 0, .int .i64 0, .bool false, .int .i64 0, .int .i64 0, .string ByteArray.empty, .slice none 0 0, .slice none 0 0, .int .i64 0, .int .i64 0, .bool false]
section
variable {H : Type} {enc : TypeId × Value → H} {W : World} {base : Nat} {sp : Nat → Bool} {held : Bool}
theorem len9 {l : List Value} (h : l.length = 9) : ∃ a r, l = a :: r := by
  match l, h with
  | a :: r, _ => exact ⟨_, _, rfl⟩
theorem open_resp {v : Value} {d : DataW H} {ps : List MemPlace} {r : Reach} {b0 : Nat} (hval : Value.okWide Tryd.prog W r b0 37 v) (hd : DataW.Trod enc Tryd.prog W base sp held 37 v d ps) (hs : SzW Tryd.prog 37 d) :
    ∃ x : Rp, RelV [] (S0 W) (.ag (cRp x)) v ∧ rgV x.v = true := by
  obtain ⟨arr, rfl, hc⟩ := arg_agg htb (t := 37) rfl hval
  obtain ⟨fuel, hf⟩ := hd
  rw [hc] at hf
  obtain ⟨hl, m, rfl, hx⟩ := tr_structS htb (t := 37) rfl hf hs
  obtain ⟨y0, h0, s0⟩ := hx 0 0 35 rfl rfl
  obtain ⟨y1, h1, s1⟩ := hx 1 1 32 rfl rfl
  obtain ⟨e, e0, _⟩ := tr_int htb (t := 35) (k := .i64) rfl h0
  obtain ⟨x, hv, hg⟩ := open_V (m + 1) m (Nat.lt_succ_self _) _ _ h1 s1
  refine ⟨⟨e, x⟩, relV_agg rfl ?_, hg⟩
  generalize arr.toList = l at *
  have hl : l.length = 9 := hl
  obtain ⟨a, r, rfl⟩ := len9 hl
  have e0' : a = .int .i64 e := by simpa [tb, tbl, VA.look] using e0
  have hr : RepVs (S0 W) (cV x) r := by
    have : (List.take 8 (List.drop 1 (a :: r))) = r := by
      simp only [List.drop_succ_cons, List.drop_zero]
      exact List.take_of_length_le (by simp at hl; omega)
    rw [← this]
    exact hv
  subst e0'
  show RepVs (S0 W) (.v (.int .i64 e) :: cV x) _
  simp only [RepVs]
  exact ⟨_, _, rfl, repV_i, hr⟩
theorem len23 {l : List Value} (h : l.length = 23) : ∃ c0 c1 c2 c3 c4 c5 c6 c7 c8 c9 c10 c11 c12 c13 c14 c15 c16 c17 c18 c19 c20 c21 c22, l = [c0, c1, c2, c3, c4, c5, c6, c7, c8, c9, c10, c11, c12, c13, c14, c15, c16, c17, c18, c19, c20, c21, c22] := by
  match l, h with
  | [c0, c1, c2, c3, c4, c5, c6, c7, c8, c9, c10, c11, c12, c13, c14, c15, c16, c17, c18, c19, c20, c21, c22], _ => exact ⟨_, _, _, _, _, _, _, _, _, _, _, _, _, _, _, _, _, _, _, _, _, _, _, rfl⟩
theorem open_req {v : Value} {d : DataW H} {ps : List MemPlace} {r : Reach} {b0 : Nat} (hval : Value.okWide Tryd.prog W r b0 34 v) (hd : DataW.Trod enc Tryd.prog W base sp held 34 v d ps) (hs : SzW Tryd.prog 34 d) :
    ∃ x : Rq, RelV [] (S0 W) (.ag (cRq x)) v ∧ RgRq x := by
  obtain ⟨arr, rfl, hc⟩ := arg_agg htb (t := 34) rfl hval
  obtain ⟨fuel, hf⟩ := hd
  rw [hc] at hf
  obtain ⟨hl, m, rfl, hx⟩ := tr_structS htb (t := 34) rfl hf hs
  have hl : arr.toList.length = 23 := hl
  have hrel : ∀ q : Rq, RepVs (S0 W) (cRq q) arr.toList → RelV [] (S0 W) (.ag (cRq q)) (.agg arr) := fun q h => relV_agg rfl h
  generalize arr.toList = l at *
  obtain ⟨c0, c1, c2, c3, c4, c5, c6, c7, c8, c9, c10, c11, c12, c13, c14, c15, c16, c17, c18, c19, c20, c21, c22, rfl⟩ := len23 hl
  obtain ⟨y0, h0, s0⟩ := hx 0 0 3 rfl rfl
  obtain ⟨y1, h1, s1⟩ := hx 1 1 26 rfl rfl
  obtain ⟨y2, h2, s2⟩ := hx 2 7 32 rfl rfl
  obtain ⟨y3, h3, s3⟩ := hx 3 15 32 rfl rfl
  obtain ⟨k, e0, _⟩ := tr_int htb (t := 3) (k := .i64) rfl h0
  obtain ⟨p, hp, gp⟩ := open_V (m + 1) m (Nat.lt_succ_self _) _ _ h2 s2
  obtain ⟨w, hw, gw⟩ := open_V (m + 1) m (Nat.lt_succ_self _) _ _ h3 s3
  obtain ⟨_, m2, rfl, hk⟩ := tr_structS htb (t := 26) rfl h1 s1
  obtain ⟨z0, k0, s4⟩ := hk 0 0 23 rfl rfl
  obtain ⟨z1, k1, s5⟩ := hk 1 5 24 rfl rfl
  obtain ⟨_, m3, rfl, ha⟩ := tr_structS htb (t := 23) rfl k0 s4
  obtain ⟨w0, a0, t0⟩ := ha 0 0 9 rfl rfl
  obtain ⟨w1, a1, t1⟩ := ha 1 1 9 rfl rfl
  obtain ⟨w2, a2, t2⟩ := ha 2 2 3 rfl rfl
  obtain ⟨w3, a3, t3⟩ := ha 3 3 2 rfl rfl
  obtain ⟨w4, a4, t4⟩ := ha 4 4 9 rfl rfl
  obtain ⟨g, e2, g0, g1⟩ := tr_int htb (t := 24) (k := .u32) rfl k1
  obtain ⟨t, e3, u3⟩ := tr_strS htb (t := 9) rfl a0 t0
  obtain ⟨nm, e4, u4⟩ := tr_strS htb (t := 9) rfl a1 t1
  obtain ⟨kk, e5, _⟩ := tr_int htb (t := 3) (k := .i64) rfl a2
  obtain ⟨ix, e6, i0, i1⟩ := tr_int htb (t := 2) (k := .i64) rfl a3
  obtain ⟨s, e7, u7⟩ := tr_strS htb (t := 9) rfl a4 t4
  simp [tb, tbl, VA.look] at e0 e2 e3 e4 e5 e6 e7
  subst e0; subst e2; subst e3; subst e4; subst e5; subst e6; subst e7
  refine ⟨⟨k, ⟨⟨t, nm, kk, ix, s⟩, g⟩, p, w⟩, hrel _ ?_, ⟨g0, g1, ⟨u3, u4, u7, i0, i1⟩⟩⟩
  have hp : RepVs (S0 W) (cV p) [c7, c8, c9, c10, c11, c12, c13, c14] := hp
  have hw : RepVs (S0 W) (cV w) [c15, c16, c17, c18, c19, c20, c21, c22] := hw
  have hy : RepVs (S0 W) (cKy ⟨⟨t, nm, kk, ix, s⟩, g⟩) [.string t, .string nm, .int .i64 kk, .int .i64 ix, .string s, .int .u32 g] := by
    simp only [cKy, RepVs]
    exact ⟨_, _, rfl, repV_s, _, _, rfl, repV_s, _, _, rfl, repV_i, _, _, rfl, repV_i, _, _, rfl, repV_s, _, _, rfl, repV_i, rfl⟩
  have := repVs_app hy (repVs_app hp hw)
  show RepVs (S0 W) (.v (.int .i64 k) :: (cKy _ ++ (cV p ++ cV w))) _
  simp only [RepVs]
  exact ⟨_, _, rfl, repV_i, this⟩
end
end Go.Proofs.YtldccngnojnhbaaDoor
