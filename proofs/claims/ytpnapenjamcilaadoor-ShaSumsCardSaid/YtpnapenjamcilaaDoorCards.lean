/-
  DERIVED. GIVEN WITH THE SEED: THE CARDS: each row of YtpnapenjamcilaaDoorRows.lean that lists a variable, with what it lists TIED to the program's text (the seventh form; the later family's looks); each row that meets fmt, with fmt's text TOLD by the authors' own Lean function (tested against real Go, not proved from fmt's source: count such statements apart). THE CARD IS WHAT COUNTS. Prove the row's statement (the work); the ties are given (YtpnapenjamcilaaDoorTie.lean); close each card by the builder's one call (the guide's Derived/Test/ToyasCard.lean, 'card_holds'). Laid BY PROGRAM, IN A SANDBOX (cutbox-door.mjs). By AI agents, Wed Nov 11 2026. No macro, syntax, notation, axiom, sorry.
-/
import Derived.Test.YtpnapenjamcilaaDoorRows
import GoSem.ClaimSeven
namespace Go.Proofs.YtpnapenjamcilaaDoor
namespace Rows

/-- THE TIED CARD OF 'suretylaw02.ShaSums'. -/
def shaSumsCard : Claim7 := { stood := { row := shaSumsRow, standIns := [], harness := (true, "4ca3d889da210cb43c6a61a2d049359a7945a6de1e862ab237ab2b0cbaf27429"), looks := false }, kinds := [], alts := [], laidByText := true, laidKinds := [.data, .data], laidTests := true, laidLooks := .later }
def ShaSumsCardSaid : Prop := Claim7.holds Tryd.pinned (.plain (OpenSpec.ofChange shaSumsSpec)) shaSumsCard

/-- THE TIED CARD OF 'suretylaw02.ShaWrites'. -/
def shaWritesCard : Claim7 := { stood := { row := shaWritesRow, standIns := [], harness := (true, "4ca3d889da210cb43c6a61a2d049359a7945a6de1e862ab237ab2b0cbaf27429"), looks := false }, kinds := [], alts := [], laidByText := true, laidKinds := [.data, .data], laidTests := true, laidLooks := .later }
def ShaWritesCardSaid : Prop := Claim7.holds Tryd.pinned (.plain (OpenSpec.ofChange shaWritesSpec)) shaWritesCard

/-- THE TIED CARD OF 'suretylaw02.ShaNil'. -/
def shaNilCard : Claim7 := { stood := { row := shaNilRow, standIns := [], harness := (true, "4ca3d889da210cb43c6a61a2d049359a7945a6de1e862ab237ab2b0cbaf27429"), looks := false }, kinds := [], alts := [], laidByText := true, laidKinds := [.data, .data], laidTests := true, laidLooks := .later }
def ShaNilCardSaid : Prop := Claim7.holds Tryd.pinned (.plain (OpenSpec.ofChange shaNilSpec)) shaNilCard

/-- THE TIED CARD OF 'suretylaw02.ShaTexts'. -/
def shaTextsCard : Claim7 := { stood := { row := shaTextsRow, standIns := [], harness := (true, "4ca3d889da210cb43c6a61a2d049359a7945a6de1e862ab237ab2b0cbaf27429"), looks := false }, kinds := [], alts := [], laidByText := true, laidKinds := [.data, .data], laidTests := true, laidLooks := .later }
def ShaTextsCardSaid : Prop := Claim7.holds Tryd.pinned (.plain (OpenSpec.ofChange shaTextsSpec)) shaTextsCard

/-- THE SECOND FORM's CARD OF 'suretylaw02.ShaSums'. -/
def shaSumsUptoCard : Claim7 := { stood := { row := shaSumsUptoRow, standIns := [], harness := (true, "4ca3d889da210cb43c6a61a2d049359a7945a6de1e862ab237ab2b0cbaf27429"), looks := false }, kinds := [], alts := [], laidByText := true, laidKinds := [.data, .data], laidTests := true, laidLooks := .later }
def ShaSumsUptoCardSaid : Prop := Claim7.holds Tryd.pinned (.plain (OpenSpec.upto shaSumsSpec)) shaSumsUptoCard

/-- THE SECOND FORM's CARD OF 'suretylaw02.ShaWrites'. -/
def shaWritesUptoCard : Claim7 := { stood := { row := shaWritesUptoRow, standIns := [], harness := (true, "4ca3d889da210cb43c6a61a2d049359a7945a6de1e862ab237ab2b0cbaf27429"), looks := false }, kinds := [], alts := [], laidByText := true, laidKinds := [.data, .data], laidTests := true, laidLooks := .later }
def ShaWritesUptoCardSaid : Prop := Claim7.holds Tryd.pinned (.plain (OpenSpec.upto shaWritesSpec)) shaWritesUptoCard

/-- THE SECOND FORM's CARD OF 'suretylaw02.ShaNil'. -/
def shaNilUptoCard : Claim7 := { stood := { row := shaNilUptoRow, standIns := [], harness := (true, "4ca3d889da210cb43c6a61a2d049359a7945a6de1e862ab237ab2b0cbaf27429"), looks := false }, kinds := [], alts := [], laidByText := true, laidKinds := [.data, .data], laidTests := true, laidLooks := .later }
def ShaNilUptoCardSaid : Prop := Claim7.holds Tryd.pinned (.plain (OpenSpec.upto shaNilSpec)) shaNilUptoCard

/-- THE SECOND FORM's CARD OF 'suretylaw02.ShaTexts'. -/
def shaTextsUptoCard : Claim7 := { stood := { row := shaTextsUptoRow, standIns := [], harness := (true, "4ca3d889da210cb43c6a61a2d049359a7945a6de1e862ab237ab2b0cbaf27429"), looks := false }, kinds := [], alts := [], laidByText := true, laidKinds := [.data, .data], laidTests := true, laidLooks := .later }
def ShaTextsUptoCardSaid : Prop := Claim7.holds Tryd.pinned (.plain (OpenSpec.upto shaTextsSpec)) shaTextsUptoCard
end Rows
end Go.Proofs.YtpnapenjamcilaaDoor
