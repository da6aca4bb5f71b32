/-
  DERIVED. GIVEN WITH THE SEED: THE CARDS: each row of YthaaemhkdefidaaGreatDoorRows.lean that lists a variable, with what it lists TIED to the program's text (the seventh form; the later family's looks); each row that meets fmt, with fmt's text TOLD by the authors' own Lean function (tested against real Go, not proved from fmt's source: count such statements apart). THE CARD IS WHAT COUNTS. Prove the row's statement (the work); the ties are given (YthaaemhkdefidaaGreatDoorTie.lean); close each card by the builder's one call (the guide's Derived/Test/ToyasCard.lean, 'card_holds'). Laid BY PROGRAM, IN A SANDBOX (cutbox-door.mjs). By AI agents, Wed Nov 11 2026. No macro, syntax, notation, axiom, sorry.
-/
import Derived.Test.YthaaemhkdefidaaGreatDoorRows
import GoSem.ClaimSeven
namespace Go.Proofs.YthaaemhkdefidaaGreatDoor
namespace Rows

/-- THE TIED CARD OF 'suretylaw18.SnapPuts'. -/
def snapPutsCard : Claim7 := { stood := { row := snapPutsRow, standIns := [], harness := (true, "9b22a9a7e03dc8dd27bd4fa8da657fb6cb021db116b035105ec992cfee2614cd"), looks := false }, kinds := [], alts := [], laidByText := true, laidKinds := [.data, .data, .data, .data, .data, .data, .data, .data], laidTests := true, laidLooks := .later }
def SnapPutsCardSaid : Prop := Claim7.holds Tryz.pinned (.plain (OpenSpec.ofChange snapPutsSpec)) snapPutsCard

/-- THE TIED CARD OF 'suretylaw18.SnapOwn'. -/
def snapOwnCard : Claim7 := { stood := { row := snapOwnRow, standIns := [], harness := (true, "9b22a9a7e03dc8dd27bd4fa8da657fb6cb021db116b035105ec992cfee2614cd"), looks := false }, kinds := [], alts := [], laidByText := true, laidKinds := [.data, .data, .data, .data, .data, .data, .data, .data], laidTests := true, laidLooks := .later }
def SnapOwnCardSaid : Prop := Claim7.holds Tryz.pinned (.plain (OpenSpec.ofChange snapOwnSpec)) snapOwnCard

/-- THE TIED CARD OF 'suretylaw18.SnapTurns'. -/
def snapTurnsCard : Claim7 := { stood := { row := snapTurnsRow, standIns := [], harness := (true, "9b22a9a7e03dc8dd27bd4fa8da657fb6cb021db116b035105ec992cfee2614cd"), looks := false }, kinds := [], alts := [], laidByText := true, laidKinds := [.data, .data, .data, .data, .data, .data, .data, .data], laidTests := true, laidLooks := .later }
def SnapTurnsCardSaid : Prop := Claim7.holds Tryz.pinned (.plain (OpenSpec.ofChange snapTurnsSpec)) snapTurnsCard

/-- THE TIED CARD OF 'suretylaw18.SnapGets'. -/
def snapGetsCard : Claim7 := { stood := { row := snapGetsRow, standIns := [], harness := (true, "9b22a9a7e03dc8dd27bd4fa8da657fb6cb021db116b035105ec992cfee2614cd"), looks := false }, kinds := [], alts := [], laidByText := true, laidKinds := [.data, .data, .data, .data, .data, .data, .data, .data], laidTests := true, laidLooks := .later }
def SnapGetsCardSaid : Prop := Claim7.holds Tryz.pinned (.plain (OpenSpec.ofChange snapGetsSpec)) snapGetsCard

/-- THE TIED CARD OF 'suretylaw18.SnapBack'. -/
def snapBackCard : Claim7 := { stood := { row := snapBackRow, standIns := [], harness := (true, "9b22a9a7e03dc8dd27bd4fa8da657fb6cb021db116b035105ec992cfee2614cd"), looks := false }, kinds := [], alts := [], laidByText := true, laidKinds := [.data, .data, .data, .data, .data, .data, .data, .data], laidTests := true, laidLooks := .later }
def SnapBackCardSaid : Prop := Claim7.holds Tryz.pinned (.plain (OpenSpec.ofChange snapBackSpec)) snapBackCard

/-- THE TIED CARD OF 'suretylaw18.SnapTorn'. -/
def snapTornCard : Claim7 := { stood := { row := snapTornRow, standIns := [], harness := (true, "9b22a9a7e03dc8dd27bd4fa8da657fb6cb021db116b035105ec992cfee2614cd"), looks := false }, kinds := [], alts := [], laidByText := true, laidKinds := [.data, .data, .data, .data, .data, .data, .data, .data], laidTests := true, laidLooks := .later }
def SnapTornCardSaid : Prop := Claim7.holds Tryz.pinned (.plain (OpenSpec.ofChange snapTornSpec)) snapTornCard

/-- THE SECOND FORM's CARD OF 'suretylaw18.SnapPuts'. -/
def snapPutsUptoCard : Claim7 := { stood := { row := snapPutsUptoRow, standIns := [], harness := (true, "9b22a9a7e03dc8dd27bd4fa8da657fb6cb021db116b035105ec992cfee2614cd"), looks := false }, kinds := [], alts := [], laidByText := true, laidKinds := [.data, .data, .data, .data, .data, .data, .data, .data], laidTests := true, laidLooks := .later }
def SnapPutsUptoCardSaid : Prop := Claim7.holds Tryz.pinned (.plain (OpenSpec.upto snapPutsSpec)) snapPutsUptoCard

/-- THE SECOND FORM's CARD OF 'suretylaw18.SnapOwn'. -/
def snapOwnUptoCard : Claim7 := { stood := { row := snapOwnUptoRow, standIns := [], harness := (true, "9b22a9a7e03dc8dd27bd4fa8da657fb6cb021db116b035105ec992cfee2614cd"), looks := false }, kinds := [], alts := [], laidByText := true, laidKinds := [.data, .data, .data, .data, .data, .data, .data, .data], laidTests := true, laidLooks := .later }
def SnapOwnUptoCardSaid : Prop := Claim7.holds Tryz.pinned (.plain (OpenSpec.upto snapOwnSpec)) snapOwnUptoCard

/-- THE SECOND FORM's CARD OF 'suretylaw18.SnapTurns'. -/
def snapTurnsUptoCard : Claim7 := { stood := { row := snapTurnsUptoRow, standIns := [], harness := (true, "9b22a9a7e03dc8dd27bd4fa8da657fb6cb021db116b035105ec992cfee2614cd"), looks := false }, kinds := [], alts := [], laidByText := true, laidKinds := [.data, .data, .data, .data, .data, .data, .data, .data], laidTests := true, laidLooks := .later }
def SnapTurnsUptoCardSaid : Prop := Claim7.holds Tryz.pinned (.plain (OpenSpec.upto snapTurnsSpec)) snapTurnsUptoCard

/-- THE SECOND FORM's CARD OF 'suretylaw18.SnapGets'. -/
def snapGetsUptoCard : Claim7 := { stood := { row := snapGetsUptoRow, standIns := [], harness := (true, "9b22a9a7e03dc8dd27bd4fa8da657fb6cb021db116b035105ec992cfee2614cd"), looks := false }, kinds := [], alts := [], laidByText := true, laidKinds := [.data, .data, .data, .data, .data, .data, .data, .data], laidTests := true, laidLooks := .later }
def SnapGetsUptoCardSaid : Prop := Claim7.holds Tryz.pinned (.plain (OpenSpec.upto snapGetsSpec)) snapGetsUptoCard

/-- THE SECOND FORM's CARD OF 'suretylaw18.SnapBack'. -/
def snapBackUptoCard : Claim7 := { stood := { row := snapBackUptoRow, standIns := [], harness := (true, "9b22a9a7e03dc8dd27bd4fa8da657fb6cb021db116b035105ec992cfee2614cd"), looks := false }, kinds := [], alts := [], laidByText := true, laidKinds := [.data, .data, .data, .data, .data, .data, .data, .data], laidTests := true, laidLooks := .later }
def SnapBackUptoCardSaid : Prop := Claim7.holds Tryz.pinned (.plain (OpenSpec.upto snapBackSpec)) snapBackUptoCard

/-- THE SECOND FORM's CARD OF 'suretylaw18.SnapTorn'. -/
def snapTornUptoCard : Claim7 := { stood := { row := snapTornUptoRow, standIns := [], harness := (true, "9b22a9a7e03dc8dd27bd4fa8da657fb6cb021db116b035105ec992cfee2614cd"), looks := false }, kinds := [], alts := [], laidByText := true, laidKinds := [.data, .data, .data, .data, .data, .data, .data, .data], laidTests := true, laidLooks := .later }
def SnapTornUptoCardSaid : Prop := Claim7.holds Tryz.pinned (.plain (OpenSpec.upto snapTornSpec)) snapTornUptoCard
end Rows
end Go.Proofs.YthaaemhkdefidaaGreatDoor
