/-
  DERIVED. GIVEN WITH THE SEED: THE CARDS: each row of YtldccngnojnhbaaDoorRows.lean that lists a variable, with what it lists TIED to the program's text (the seventh form; the later family's looks); each row that meets fmt, with fmt's text TOLD by the authors' own Lean function (tested against real Go, not proved from fmt's source: count such statements apart). THE CARD IS WHAT COUNTS. Prove the row's statement (the work); the ties are given (YtldccngnojnhbaaDoorTie.lean); close each card by the builder's one call (the guide's Derived/Test/ToyasCard.lean, 'card_holds'). Laid BY PROGRAM, IN A SANDBOX (cutbox-door.mjs). By AI agents, Wed Nov 11 2026. No macro, syntax, notation, axiom, sorry.
-/
import Derived.Test.YtldccngnojnhbaaDoorRows
import GoSem.ClaimSeven
namespace Go.Proofs.YtldccngnojnhbaaDoor
namespace Rows

/-- THE TIED CARD OF 'suretylaw21.WireAsks'. -/
def wireAsksCard : Claim7 := { stood := { row := wireAsksRow, standIns := [], harness := (true, "7d6f014eb3390ef528562a126fa413e1134bc1f2c7d9ce050ed43e3f1b1cc3d7"), looks := false }, kinds := [], alts := [], laidByText := true, laidKinds := [.data, .data, .data], laidTests := true, laidLooks := .later }
def WireAsksCardSaid : Prop := Claim7.holds Tryd.pinned (.plain (OpenSpec.ofChange wireAsksSpec)) wireAsksCard

/-- THE SECOND FORM's CARD OF 'suretylaw21.WireAsks'. -/
def wireAsksUptoCard : Claim7 := { stood := { row := wireAsksUptoRow, standIns := [], harness := (true, "7d6f014eb3390ef528562a126fa413e1134bc1f2c7d9ce050ed43e3f1b1cc3d7"), looks := false }, kinds := [], alts := [], laidByText := true, laidKinds := [.data, .data, .data], laidTests := true, laidLooks := .later }
def WireAsksUptoCardSaid : Prop := Claim7.holds Tryd.pinned (.plain (OpenSpec.upto wireAsksSpec)) wireAsksUptoCard
end Rows
end Go.Proofs.YtldccngnojnhbaaDoor
