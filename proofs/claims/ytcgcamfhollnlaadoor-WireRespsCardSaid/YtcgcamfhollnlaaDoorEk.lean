/- Contracts of functions of the program, and the laws that stand on them: what each function answers, whatever its arguments. -/
import Derived.Test.YtcgcamfhollnlaaDoorE1
import Derived.Test.YtcgcamfhollnlaaDoorVo2
import Derived.Test.YtcgcamfhollnlaaDoorVD
import Derived.ChangeMaps5
import Derived.Carry
import Derived.Test.YtcgcamfhollnlaaDoorTie
import Derived.Test.YtcgcamfhollnlaaDoorCards
set_option linter.unusedSectionVars false
set_option linter.unnecessarySimpa false
namespace Go.Proofs.YtcgcamfhollnlaaDoor
set_option linter.unusedSimpArgs false
set_option linter.unusedVariables false
set_option maxRecDepth 100000
set_option maxHeartbeats 8000000
open Go Go.VA Go.RowKit Go.ChangeShapes Go.WideShapes Go.ChangeAt
theorem own : ownKnob Tryd.prog.godebug = none := by kernel_rfl
theorem laidOut : laidOutB Tryd.prog = true := by kernel_rfl
abbrev nmE : String := Rows.wireRespsRow.named.getD 1 ""
abbrev nmD : String := Rows.wireRespsRow.named.getD 2 ""
abbrev nmP : String := Rows.wireRespsRow.named.getD 0 ""
abbrev laid3 : List (String × DataW Unit) := [(nmE, .agg (tabE.map fun i => .lit (.int .u8 i))), (nmD, .agg (tabD.map fun i => .lit (.int .u8 i))), (nmP, .agg (tabP.map fun i => .lit (.int .u64 i)))]
theorem laid_eq : Rows.wireRespsRow.laid = laid3 := rfl
theorem glOk_laid {W : World} (h : laidMetH Tryd.prog Rows.wireRespsRow.laid W) : GlOk gl (S0 W) := by
  rw [laid_eq, MakeChecks.laidMetH_plain _ _ _ (by kernel_rfl)] at h
  obtain ⟨ps, hl, _⟩ := h
  obtain ⟨h1, q, hl2⟩ := laid_ints htb (k := .u8) (n := 32) (e := 5) (t := 152) (g := 1) rfl rfl rfl (by kernel_rfl) (by kernel_rfl) hl
  obtain ⟨h2, q2, hl3⟩ := laid_ints htb (k := .u8) (n := 64) (e := 5) (t := 153) (g := 2) rfl rfl rfl (by kernel_rfl) (by kernel_rfl) hl2
  obtain ⟨h0, _⟩ := laid_ints htb (k := .u64) (n := 20) (e := 80) (t := 145) (g := 0) rfl rfl rfl (by kernel_rfl) (by kernel_rfl) hl3
  intro g
  match g with
  | 0 => exact h0
  | 1 => exact h1
  | 2 => exact h2
  | _ + 3 => simp [gl, RepCs]
theorem door_met (os : Os) (args : Array Value) : laidMetH Tryd.prog Rows.wireRespsRow.laid ((World.doorLaid Tryd.prog 24 os).forCall (fun _ _ => 0) ⟨#[], args, []⟩).memory :=
  laidMetH_of_parts3 (fuel := 8) (laidMet_of_run' 8 (by kernel_rfl) (by kernel_rfl)) (by kernel_rfl) (by kernel_rfl)
abbrev zRpV : Value := .agg #[.int .i64 0, .int .i64 0, .int .i64 0, .string ByteArray.empty, .slice none 0 0, .slice none 0 0, .int .i64 0, .int .i64 0, .bool false]
section
variable {H : Type} {enc : TypeId × Value → H} {W : World} {base : Nat} {sp : Nat → Bool} {held : Bool}
theorem len9 {l : List Value} (h : l.length = 9) : ∃ a r, l = a :: r := by
  match l, h with
  | a :: r, _ => exact ⟨_, _, rfl⟩
theorem open_resp {v : Value} {d : DataW H} {ps : List MemPlace} {r : Reach} {b0 : Nat} (hval : Value.okWide Tryd.prog W r b0 37 v) (hd : DataW.Trod enc Tryd.prog W base sp held 37 v d ps) (hs : SzW Tryd.prog 37 d) :
    ∃ x : Rp, RelV [] (S0 W) (.ag (cRp x)) v ∧ rgV x.v = true := by
  obtain ⟨arr, rfl, hc⟩ := arg_agg htb (t := 37) rfl hval
  obtain ⟨fuel, hf⟩ := hd
  rw [hc] at hf
  obtain ⟨hl, m, rfl, hx⟩ := tr_structS htb (t := 37) rfl hf hs
  obtain ⟨y0, h0, s0⟩ := hx 0 0 35 rfl rfl
  obtain ⟨y1, h1, s1⟩ := hx 1 1 32 rfl rfl
  obtain ⟨e, e0, _⟩ := tr_int htb (t := 35) (k := .i64) rfl h0
  obtain ⟨x, hv, hg⟩ := open_V (m + 1) m (Nat.lt_succ_self _) _ _ h1 s1
  refine ⟨⟨e, x⟩, relV_agg rfl ?_, hg⟩
  generalize arr.toList = l at *
  have hl : l.length = 9 := hl
  obtain ⟨a, r, rfl⟩ := len9 hl
  have e0' : a = .int .i64 e := by simpa [tb, tbl, VA.look] using e0
  have hr : RepVs (S0 W) (cV x) r := by
    have : (List.take 8 (List.drop 1 (a :: r))) = r := by
      simp only [List.drop_succ_cons, List.drop_zero]
      exact List.take_of_length_le (by simp at hl; omega)
    rw [← this]
    exact hv
  subst e0'
  show RepVs (S0 W) (.v (.int .i64 e) :: cV x) _
  simp only [RepVs]
  exact ⟨_, _, rfl, repV_i, hr⟩
end
end Go.Proofs.YtcgcamfhollnlaaDoor
