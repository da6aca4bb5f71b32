/-
  DERIVED. GIVEN WITH THE SEED: THE CARDS: each row of YtiodgjgngfklkaaGreatDoorRows.lean that lists a variable, with what it lists TIED to the program's text (the seventh form; the later family's looks); each row that meets fmt, with fmt's text TOLD by the authors' own Lean function (tested against real Go, not proved from fmt's source: count such statements apart). THE CARD IS WHAT COUNTS. Prove the row's statement (the work); the ties are given (YtiodgjgngfklkaaGreatDoorTie.lean); close each card by the builder's one call (the guide's Derived/Test/ToyasCard.lean, 'card_holds'). Laid BY PROGRAM, IN A SANDBOX (cutbox-door.mjs). By AI agents, Wed Nov 11 2026. No macro, syntax, notation, axiom, sorry.
-/
import Derived.Test.YtiodgjgngfklkaaGreatDoorRows
import GoSem.ClaimSeven
namespace Go.Proofs.YtiodgjgngfklkaaGreatDoor
namespace Rows

/-- THE TIED CARD OF 'suretylaw20.VaultNil'. -/
def vaultNilCard : Claim7 := { stood := { row := vaultNilRow, standIns := [], harness := (true, "47748a2bdb0fde960b2bceb712f97ad14e4f8e2a4e3e4cf82047fb085dc1ad3b"), looks := true }, kinds := [], alts := [], laidByText := true, laidKinds := [.data, .data, .data, .data, .data, .data, .data, .data], laidTests := true, laidLooks := .later }
def VaultNilCardSaid : Prop := Claim7.holds Tryz.pinned (.plain (OpenSpec.ofChange vaultNilSpec)) vaultNilCard

/-- THE SECOND FORM's CARD OF 'suretylaw20.VaultNil'. -/
def vaultNilUptoCard : Claim7 := { stood := { row := vaultNilUptoRow, standIns := [], harness := (true, "47748a2bdb0fde960b2bceb712f97ad14e4f8e2a4e3e4cf82047fb085dc1ad3b"), looks := true }, kinds := [], alts := [], laidByText := true, laidKinds := [.data, .data, .data, .data, .data, .data, .data, .data], laidTests := true, laidLooks := .later }
def VaultNilUptoCardSaid : Prop := Claim7.holds Tryz.pinned (.plain (OpenSpec.upto vaultNilSpec)) vaultNilUptoCard
end Rows
end Go.Proofs.YtiodgjgngfklkaaGreatDoor
