/-
  DERIVED. GIVEN WITH THE SEED: THE CARDS: each row of YtcgcamfhollnlaaGreatDoorRows.lean that lists a variable, with what it lists TIED to the program's text (the seventh form; the later family's looks); each row that meets fmt, with fmt's text TOLD by the authors' own Lean function (tested against real Go, not proved from fmt's source: count such statements apart). THE CARD IS WHAT COUNTS. Prove the row's statement (the work); the ties are given (YtcgcamfhollnlaaGreatDoorTie.lean); close each card by the builder's one call (the guide's Derived/Test/ToyasCard.lean, 'card_holds'). Laid BY PROGRAM, IN A SANDBOX (cutbox-door.mjs). By AI agents, Wed Nov 11 2026. No macro, syntax, notation, axiom, sorry.
-/
import Derived.Test.YtcgcamfhollnlaaGreatDoorRows
import GoSem.ClaimSeven
namespace Go.Proofs.YtcgcamfhollnlaaGreatDoor
namespace Rows

/-- THE TIED CARD OF 'suretylaw21.WireReqs'. -/
def wireReqsCard : Claim7 := { stood := { row := wireReqsRow, standIns := [], harness := (true, "7fe25528c63359d9fff8c92f24400e405ebcff2c09a1193f39fc6a1f3be9f8be"), looks := false }, kinds := [], alts := [], laidByText := true, laidKinds := [.data, .data, .data], laidTests := true, laidLooks := .later }
def WireReqsCardSaid : Prop := Claim7.holds Tryz.pinned (.plain (OpenSpec.ofChange wireReqsSpec)) wireReqsCard

/-- THE SECOND FORM's CARD OF 'suretylaw21.WireReqs'. -/
def wireReqsUptoCard : Claim7 := { stood := { row := wireReqsUptoRow, standIns := [], harness := (true, "7fe25528c63359d9fff8c92f24400e405ebcff2c09a1193f39fc6a1f3be9f8be"), looks := false }, kinds := [], alts := [], laidByText := true, laidKinds := [.data, .data, .data], laidTests := true, laidLooks := .later }
def WireReqsUptoCardSaid : Prop := Claim7.holds Tryz.pinned (.plain (OpenSpec.upto wireReqsSpec)) wireReqsUptoCard
end Rows
end Go.Proofs.YtcgcamfhollnlaaGreatDoor
