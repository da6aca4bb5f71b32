/-
  DERIVED. GIVEN WITH THE SEED: THE CARDS: each row of YtbddpnohacjjfaaDoorRows.lean that lists a variable, with what it lists TIED to the program's text (the seventh form; the later family's looks); each row that meets fmt, with fmt's text TOLD by the authors' own Lean function (tested against real Go, not proved from fmt's source: count such statements apart). THE CARD IS WHAT COUNTS. Prove the row's statement (the work); the ties are given (YtbddpnohacjjfaaDoorTie.lean); close each card by the builder's one call (the guide's Derived/Test/ToyasCard.lean, 'card_holds'). Laid BY PROGRAM, IN A SANDBOX (cutbox-door.mjs). By AI agents, Wed Nov 11 2026. No macro, syntax, notation, axiom, sorry.
-/
import Derived.Test.YtbddpnohacjjfaaDoorRows
import GoSem.ClaimSeven
namespace Go.Proofs.YtbddpnohacjjfaaDoor
namespace Rows

/-- THE TIED CARD OF 'suretylaw16.GraphRight'. -/
def graphRightCard : Claim7 := { stood := { row := graphRightRow, standIns := [], harness := (true, "6ac7f7d1aff556a0c37a719837c09040f873abadc64dc78aeef01559949b37b2"), looks := false }, kinds := [], alts := [], laidByText := true, laidKinds := [.data], laidTests := true, laidLooks := .later }
def GraphRightCardSaid : Prop := Claim7.holds Tryd.pinned (.plain (OpenSpec.ofChange graphRightSpec)) graphRightCard

/-- THE TIED CARD OF 'suretylaw16.GraphReach'. -/
def graphReachCard : Claim7 := { stood := { row := graphReachRow, standIns := [], harness := (true, "6ac7f7d1aff556a0c37a719837c09040f873abadc64dc78aeef01559949b37b2"), looks := false }, kinds := [], alts := [], laidByText := true, laidKinds := [.data], laidTests := true, laidLooks := .later }
def GraphReachCardSaid : Prop := Claim7.holds Tryd.pinned (.plain (OpenSpec.ofChange graphReachSpec)) graphReachCard

/-- THE TIED CARD OF 'suretylaw16.GraphAsks'. -/
def graphAsksCard : Claim7 := { stood := { row := graphAsksRow, standIns := [], harness := (true, "6ac7f7d1aff556a0c37a719837c09040f873abadc64dc78aeef01559949b37b2"), looks := false }, kinds := [], alts := [], laidByText := true, laidKinds := [.data], laidTests := true, laidLooks := .later }
def GraphAsksCardSaid : Prop := Claim7.holds Tryd.pinned (.plain (OpenSpec.ofChange graphAsksSpec)) graphAsksCard

/-- THE TIED CARD OF 'suretylaw16.GraphBoth'. -/
def graphBothCard : Claim7 := { stood := { row := graphBothRow, standIns := [], harness := (true, "6ac7f7d1aff556a0c37a719837c09040f873abadc64dc78aeef01559949b37b2"), looks := false }, kinds := [], alts := [], laidByText := true, laidKinds := [.data], laidTests := true, laidLooks := .later }
def GraphBothCardSaid : Prop := Claim7.holds Tryd.pinned (.plain (OpenSpec.ofChange graphBothSpec)) graphBothCard

/-- THE SECOND FORM's CARD OF 'suretylaw16.GraphRight'. -/
def graphRightUptoCard : Claim7 := { stood := { row := graphRightUptoRow, standIns := [], harness := (true, "6ac7f7d1aff556a0c37a719837c09040f873abadc64dc78aeef01559949b37b2"), looks := false }, kinds := [], alts := [], laidByText := true, laidKinds := [.data], laidTests := true, laidLooks := .later }
def GraphRightUptoCardSaid : Prop := Claim7.holds Tryd.pinned (.plain (OpenSpec.upto graphRightSpec)) graphRightUptoCard

/-- THE SECOND FORM's CARD OF 'suretylaw16.GraphReach'. -/
def graphReachUptoCard : Claim7 := { stood := { row := graphReachUptoRow, standIns := [], harness := (true, "6ac7f7d1aff556a0c37a719837c09040f873abadc64dc78aeef01559949b37b2"), looks := false }, kinds := [], alts := [], laidByText := true, laidKinds := [.data], laidTests := true, laidLooks := .later }
def GraphReachUptoCardSaid : Prop := Claim7.holds Tryd.pinned (.plain (OpenSpec.upto graphReachSpec)) graphReachUptoCard

/-- THE SECOND FORM's CARD OF 'suretylaw16.GraphAsks'. -/
def graphAsksUptoCard : Claim7 := { stood := { row := graphAsksUptoRow, standIns := [], harness := (true, "6ac7f7d1aff556a0c37a719837c09040f873abadc64dc78aeef01559949b37b2"), looks := false }, kinds := [], alts := [], laidByText := true, laidKinds := [.data], laidTests := true, laidLooks := .later }
def GraphAsksUptoCardSaid : Prop := Claim7.holds Tryd.pinned (.plain (OpenSpec.upto graphAsksSpec)) graphAsksUptoCard

/-- THE SECOND FORM's CARD OF 'suretylaw16.GraphBoth'. -/
def graphBothUptoCard : Claim7 := { stood := { row := graphBothUptoRow, standIns := [], harness := (true, "6ac7f7d1aff556a0c37a719837c09040f873abadc64dc78aeef01559949b37b2"), looks := false }, kinds := [], alts := [], laidByText := true, laidKinds := [.data], laidTests := true, laidLooks := .later }
def GraphBothUptoCardSaid : Prop := Claim7.holds Tryd.pinned (.plain (OpenSpec.upto graphBothSpec)) graphBothUptoCard
end Rows
end Go.Proofs.YtbddpnohacjjfaaDoor
