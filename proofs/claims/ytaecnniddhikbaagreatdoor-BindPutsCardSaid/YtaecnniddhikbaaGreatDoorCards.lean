/-
  DERIVED. GIVEN WITH THE SEED: THE CARDS: each row of YtaecnniddhikbaaGreatDoorRows.lean that lists a variable, with what it lists TIED to the program's text (the seventh form; the later family's looks); each row that meets fmt, with fmt's text TOLD by the authors' own Lean function (tested against real Go, not proved from fmt's source: count such statements apart). THE CARD IS WHAT COUNTS. Prove the row's statement (the work); the ties are given (YtaecnniddhikbaaGreatDoorTie.lean); close each card by the builder's one call (the guide's Derived/Test/ToyasCard.lean, 'card_holds'). Laid BY PROGRAM, IN A SANDBOX (cutbox-door.mjs). By AI agents, Wed Nov 11 2026. No macro, syntax, notation, axiom, sorry.
-/
import Derived.Test.YtaecnniddhikbaaGreatDoorRows
import GoSem.ClaimSeven
namespace Go.Proofs.YtaecnniddhikbaaGreatDoor
namespace Rows

/-- THE TIED CARD OF 'suretylaw27.BindPuts'. -/
def bindPutsCard : Claim7 := { stood := { row := bindPutsRow, standIns := [], harness := (true, "93e7f3c2f029106c112bfb00ceff755be684bbeaa8556736f0b0d030d69c134c"), looks := false }, kinds := [], alts := [], laidByText := true, laidKinds := [.data, .data, .data, .data, .data, .data, .data, .data], laidTests := true, laidLooks := .later }
def BindPutsCardSaid : Prop := Claim7.holds Tryz.pinned (.plain (OpenSpec.ofChange bindPutsSpec)) bindPutsCard

/-- THE TIED CARD OF 'suretylaw27.BindGets'. -/
def bindGetsCard : Claim7 := { stood := { row := bindGetsRow, standIns := [], harness := (true, "93e7f3c2f029106c112bfb00ceff755be684bbeaa8556736f0b0d030d69c134c"), looks := false }, kinds := [], alts := [], laidByText := true, laidKinds := [.data, .data, .data, .data, .data, .data, .data, .data], laidTests := true, laidLooks := .later }
def BindGetsCardSaid : Prop := Claim7.holds Tryz.pinned (.plain (OpenSpec.ofChange bindGetsSpec)) bindGetsCard

/-- THE TIED CARD OF 'suretylaw27.BindApart'. -/
def bindApartCard : Claim7 := { stood := { row := bindApartRow, standIns := [], harness := (true, "93e7f3c2f029106c112bfb00ceff755be684bbeaa8556736f0b0d030d69c134c"), looks := false }, kinds := [], alts := [], laidByText := true, laidKinds := [.data, .data, .data, .data, .data, .data, .data, .data], laidTests := true, laidLooks := .later }
def BindApartCardSaid : Prop := Claim7.holds Tryz.pinned (.plain (OpenSpec.ofChange bindApartSpec)) bindApartCard

/-- THE SECOND FORM's CARD OF 'suretylaw27.BindPuts'. -/
def bindPutsUptoCard : Claim7 := { stood := { row := bindPutsUptoRow, standIns := [], harness := (true, "93e7f3c2f029106c112bfb00ceff755be684bbeaa8556736f0b0d030d69c134c"), looks := false }, kinds := [], alts := [], laidByText := true, laidKinds := [.data, .data, .data, .data, .data, .data, .data, .data], laidTests := true, laidLooks := .later }
def BindPutsUptoCardSaid : Prop := Claim7.holds Tryz.pinned (.plain (OpenSpec.upto bindPutsSpec)) bindPutsUptoCard

/-- THE SECOND FORM's CARD OF 'suretylaw27.BindGets'. -/
def bindGetsUptoCard : Claim7 := { stood := { row := bindGetsUptoRow, standIns := [], harness := (true, "93e7f3c2f029106c112bfb00ceff755be684bbeaa8556736f0b0d030d69c134c"), looks := false }, kinds := [], alts := [], laidByText := true, laidKinds := [.data, .data, .data, .data, .data, .data, .data, .data], laidTests := true, laidLooks := .later }
def BindGetsUptoCardSaid : Prop := Claim7.holds Tryz.pinned (.plain (OpenSpec.upto bindGetsSpec)) bindGetsUptoCard

/-- THE SECOND FORM's CARD OF 'suretylaw27.BindApart'. -/
def bindApartUptoCard : Claim7 := { stood := { row := bindApartUptoRow, standIns := [], harness := (true, "93e7f3c2f029106c112bfb00ceff755be684bbeaa8556736f0b0d030d69c134c"), looks := false }, kinds := [], alts := [], laidByText := true, laidKinds := [.data, .data, .data, .data, .data, .data, .data, .data], laidTests := true, laidLooks := .later }
def BindApartUptoCardSaid : Prop := Claim7.holds Tryz.pinned (.plain (OpenSpec.upto bindApartSpec)) bindApartUptoCard
end Rows
end Go.Proofs.YtaecnniddhikbaaGreatDoor
