/-
  DERIVED. GIVEN WITH THE SEED: THE CARDS: each row of YtcgcamfhollnlaaDoorRows.lean that lists a variable, with what it lists TIED to the program's text (the seventh form; the later family's looks); each row that meets fmt, with fmt's text TOLD by the authors' own Lean function (tested against real Go, not proved from fmt's source: count such statements apart). THE CARD IS WHAT COUNTS. Prove the row's statement (the work); the ties are given (YtcgcamfhollnlaaDoorTie.lean); close each card by the builder's one call (the guide's Derived/Test/ToyasCard.lean, 'card_holds'). Laid BY PROGRAM, IN A SANDBOX (cutbox-door.mjs). By AI agents, Wed Nov 11 2026. No macro, syntax, notation, axiom, sorry.
-/
import Derived.Test.YtcgcamfhollnlaaDoorRows
import GoSem.ClaimSeven
namespace Go.Proofs.YtcgcamfhollnlaaDoor
namespace Rows

/-- THE TIED CARD OF 'suretylaw21.WireAsks'. -/
def wireAsksCard : Claim7 := { stood := { row := wireAsksRow, standIns := [], harness := (true, "26a299ef14c26bcdf6065e80fac8c6dc78fbec8a507c30e359647f29d4058b26"), looks := false }, kinds := [], alts := [], laidByText := true, laidKinds := [.data, .data, .data], laidTests := true, laidLooks := .later }
def WireAsksCardSaid : Prop := Claim7.holds Tryd.pinned (.plain (OpenSpec.ofChange wireAsksSpec)) wireAsksCard

/-- THE TIED CARD OF 'suretylaw21.WireApart'. -/
def wireApartCard : Claim7 := { stood := { row := wireApartRow, standIns := [], harness := (true, "26a299ef14c26bcdf6065e80fac8c6dc78fbec8a507c30e359647f29d4058b26"), looks := false }, kinds := [], alts := [], laidByText := true, laidKinds := [.data, .data, .data], laidTests := true, laidLooks := .later }
def WireApartCardSaid : Prop := Claim7.holds Tryd.pinned (.plain (OpenSpec.ofChange wireApartSpec)) wireApartCard

/-- THE TIED CARD OF 'suretylaw21.WireResps'. -/
def wireRespsCard : Claim7 := { stood := { row := wireRespsRow, standIns := [], harness := (true, "26a299ef14c26bcdf6065e80fac8c6dc78fbec8a507c30e359647f29d4058b26"), looks := false }, kinds := [], alts := [], laidByText := true, laidKinds := [.data, .data, .data], laidTests := true, laidLooks := .later }
def WireRespsCardSaid : Prop := Claim7.holds Tryd.pinned (.plain (OpenSpec.ofChange wireRespsSpec)) wireRespsCard

/-- THE SECOND FORM's CARD OF 'suretylaw21.WireAsks'. -/
def wireAsksUptoCard : Claim7 := { stood := { row := wireAsksUptoRow, standIns := [], harness := (true, "26a299ef14c26bcdf6065e80fac8c6dc78fbec8a507c30e359647f29d4058b26"), looks := false }, kinds := [], alts := [], laidByText := true, laidKinds := [.data, .data, .data], laidTests := true, laidLooks := .later }
def WireAsksUptoCardSaid : Prop := Claim7.holds Tryd.pinned (.plain (OpenSpec.upto wireAsksSpec)) wireAsksUptoCard

/-- THE SECOND FORM's CARD OF 'suretylaw21.WireApart'. -/
def wireApartUptoCard : Claim7 := { stood := { row := wireApartUptoRow, standIns := [], harness := (true, "26a299ef14c26bcdf6065e80fac8c6dc78fbec8a507c30e359647f29d4058b26"), looks := false }, kinds := [], alts := [], laidByText := true, laidKinds := [.data, .data, .data], laidTests := true, laidLooks := .later }
def WireApartUptoCardSaid : Prop := Claim7.holds Tryd.pinned (.plain (OpenSpec.upto wireApartSpec)) wireApartUptoCard

/-- THE SECOND FORM's CARD OF 'suretylaw21.WireResps'. -/
def wireRespsUptoCard : Claim7 := { stood := { row := wireRespsUptoRow, standIns := [], harness := (true, "26a299ef14c26bcdf6065e80fac8c6dc78fbec8a507c30e359647f29d4058b26"), looks := false }, kinds := [], alts := [], laidByText := true, laidKinds := [.data, .data, .data], laidTests := true, laidLooks := .later }
def WireRespsUptoCardSaid : Prop := Claim7.holds Tryd.pinned (.plain (OpenSpec.upto wireRespsSpec)) wireRespsUptoCard
end Rows
end Go.Proofs.YtcgcamfhollnlaaDoor
