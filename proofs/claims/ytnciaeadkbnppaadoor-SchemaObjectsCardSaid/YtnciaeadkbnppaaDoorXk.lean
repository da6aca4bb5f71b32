/- Contracts of functions of the program, and the laws that stand on them: what each function answers, whatever its arguments. -/
import Derived.Test.YtnciaeadkbnppaaDoorE7
import Derived.Test.YtnciaeadkbnppaaDoorVo2
import Derived.Test.YtnciaeadkbnppaaDoorVD
import Derived.ChangeMaps5
import Derived.Carry
import Derived.Test.YtnciaeadkbnppaaDoorTie
import Derived.Test.YtnciaeadkbnppaaDoorCards
set_option linter.unusedSectionVars false
set_option linter.unnecessarySimpa false
namespace Go.Proofs.YtnciaeadkbnppaaDoor
set_option linter.unusedSimpArgs false
set_option linter.unusedVariables false
set_option maxRecDepth 100000
set_option maxHeartbeats 8000000
open Go Go.VA Go.RowKit Go.ChangeShapes Go.WideShapes Go.ChangeAt
theorem own : ownKnob Tryd.prog.godebug = none := by kernel_rfl
theorem laidOut : laidOutB Tryd.prog = true := by kernel_rfl
abbrev nmX (i : Nat) : String := Rows.schemaTellsRow.named.getD i ""
abbrev laid6 : List (String × DataW Unit) := [(nmX 1, .agg [.lit (.int .i64 2), .lit (.int .i64 0)]), (nmX 0, .agg [.lit (.int .i64 3), .lit (.int .i64 0)]), (nmX 2, .agg [.lit (.int .i64 4), .lit (.int .i64 2)]), (nmX 5, .agg [.lit (.int .i64 4), .lit (.int .i64 3)]), (nmX 3, .agg [.lit (.int .i64 5), .lit (.int .i64 3)]), (nmX 4, .agg [.lit (.int .i64 5), .lit (.int .i64 0)])]
theorem laid_eq : Rows.schemaTellsRow.laid = laid6 := rfl
theorem glOk_laid {W : World} (h : laidMetH Tryd.prog Rows.schemaTellsRow.laid W) : GlOk gl (S0 W) := by
  rw [laid_eq, MakeChecks.laidMetH_plain _ _ _ (by kernel_rfl)] at h
  obtain ⟨ps, hl, _⟩ := h
  obtain ⟨h1, q1, hl1⟩ := laid_two htb (k := .i64) (e := 3) (t := 29) (g := 1) rfl rfl rfl (by kernel_rfl) (by kernel_rfl) hl
  obtain ⟨h0, q0, hl0⟩ := laid_two htb (k := .i64) (e := 3) (t := 29) (g := 0) rfl rfl rfl (by kernel_rfl) (by kernel_rfl) hl1
  obtain ⟨h2, q2, hl2⟩ := laid_two htb (k := .i64) (e := 3) (t := 29) (g := 2) rfl rfl rfl (by kernel_rfl) (by kernel_rfl) hl0
  obtain ⟨h5, q5, hl5⟩ := laid_two htb (k := .i64) (e := 3) (t := 29) (g := 5) rfl rfl rfl (by kernel_rfl) (by kernel_rfl) hl2
  obtain ⟨h3, q3, hl3⟩ := laid_two htb (k := .i64) (e := 3) (t := 29) (g := 3) rfl rfl rfl (by kernel_rfl) (by kernel_rfl) hl5
  obtain ⟨h4, _⟩ := laid_two htb (k := .i64) (e := 3) (t := 29) (g := 4) rfl rfl rfl (by kernel_rfl) (by kernel_rfl) hl3
  intro g
  match g with
  | 0 => exact h0
  | 1 => exact h1
  | 2 => exact h2
  | 3 => exact h3
  | 4 => exact h4
  | 5 => exact h5
  | _ + 6 => simp [gl, RepCs]
theorem door_met (os : Os) (args : Array Value) : laidMetH Tryd.prog Rows.schemaTellsRow.laid ((World.doorLaid Tryd.prog 39 os).forCall (fun _ _ => 0) ⟨#[], args, []⟩).memory :=
  laidMetH_of_parts3 (fuel := 8) (laidMet_of_run' 8 (by kernel_rfl) (by kernel_rfl)) (by kernel_rfl) (by kernel_rfl)
abbrev zVV : Value := .agg #[.int .i64 0, .int .i64 0, .string ByteArray.empty, .slice none 0 0, .slice none 0 0, .int .i64 0, .int .i64 0, .bool false]
end Go.Proofs.YtnciaeadkbnppaaDoor
