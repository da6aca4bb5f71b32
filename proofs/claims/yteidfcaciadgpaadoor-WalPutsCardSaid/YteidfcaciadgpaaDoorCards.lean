/-
  DERIVED. GIVEN WITH THE SEED: THE CARDS: each row of YteidfcaciadgpaaDoorRows.lean that lists a variable, with what it lists TIED to the program's text (the seventh form; the later family's looks); each row that meets fmt, with fmt's text TOLD by the authors' own Lean function (tested against real Go, not proved from fmt's source: count such statements apart). THE CARD IS WHAT COUNTS. Prove the row's statement (the work); the ties are given (YteidfcaciadgpaaDoorTie.lean); close each card by the builder's one call (the guide's Derived/Test/ToyasCard.lean, 'card_holds'). Laid BY PROGRAM, IN A SANDBOX (cutbox-door.mjs). By AI agents, Wed Nov 11 2026. No macro, syntax, notation, axiom, sorry.
-/
import Derived.Test.YteidfcaciadgpaaDoorRows
import GoSem.ClaimSeven
namespace Go.Proofs.YteidfcaciadgpaaDoor
namespace Rows

/-- THE TIED CARD OF 'suretylaw19.WalPuts'. -/
def walPutsCard : Claim7 := { stood := { row := walPutsRow, standIns := [], harness := (true, "8ca4f6e626e6513e7028ee3e6511272e0a995affafc5503e227c4fcf64079fd9"), looks := false }, kinds := [], alts := [], laidByText := true, laidKinds := [.data, .data], laidTests := true, laidLooks := .later }
def WalPutsCardSaid : Prop := Claim7.holds Tryd.pinned (.plain (OpenSpec.ofChange walPutsSpec)) walPutsCard

/-- THE TIED CARD OF 'suretylaw19.WalTorn'. -/
def walTornCard : Claim7 := { stood := { row := walTornRow, standIns := [], harness := (true, "8ca4f6e626e6513e7028ee3e6511272e0a995affafc5503e227c4fcf64079fd9"), looks := false }, kinds := [], alts := [], laidByText := true, laidKinds := [.data, .data], laidTests := true, laidLooks := .later }
def WalTornCardSaid : Prop := Claim7.holds Tryd.pinned (.plain (OpenSpec.ofChange walTornSpec)) walTornCard

/-- THE TIED CARD OF 'suretylaw19.WalApart'. -/
def walApartCard : Claim7 := { stood := { row := walApartRow, standIns := [], harness := (true, "8ca4f6e626e6513e7028ee3e6511272e0a995affafc5503e227c4fcf64079fd9"), looks := false }, kinds := [], alts := [], laidByText := true, laidKinds := [.data, .data], laidTests := true, laidLooks := .later }
def WalApartCardSaid : Prop := Claim7.holds Tryd.pinned (.plain (OpenSpec.ofChange walApartSpec)) walApartCard

/-- THE TIED CARD OF 'suretylaw19.WalAll'. -/
def walAllCard : Claim7 := { stood := { row := walAllRow, standIns := [], harness := (true, "8ca4f6e626e6513e7028ee3e6511272e0a995affafc5503e227c4fcf64079fd9"), looks := false }, kinds := [], alts := [], laidByText := true, laidKinds := [.data, .data], laidTests := true, laidLooks := .later }
def WalAllCardSaid : Prop := Claim7.holds Tryd.pinned (.plain (OpenSpec.ofChange walAllSpec)) walAllCard

/-- THE SECOND FORM's CARD OF 'suretylaw19.WalPuts'. -/
def walPutsUptoCard : Claim7 := { stood := { row := walPutsUptoRow, standIns := [], harness := (true, "8ca4f6e626e6513e7028ee3e6511272e0a995affafc5503e227c4fcf64079fd9"), looks := false }, kinds := [], alts := [], laidByText := true, laidKinds := [.data, .data], laidTests := true, laidLooks := .later }
def WalPutsUptoCardSaid : Prop := Claim7.holds Tryd.pinned (.plain (OpenSpec.upto walPutsSpec)) walPutsUptoCard

/-- THE SECOND FORM's CARD OF 'suretylaw19.WalTorn'. -/
def walTornUptoCard : Claim7 := { stood := { row := walTornUptoRow, standIns := [], harness := (true, "8ca4f6e626e6513e7028ee3e6511272e0a995affafc5503e227c4fcf64079fd9"), looks := false }, kinds := [], alts := [], laidByText := true, laidKinds := [.data, .data], laidTests := true, laidLooks := .later }
def WalTornUptoCardSaid : Prop := Claim7.holds Tryd.pinned (.plain (OpenSpec.upto walTornSpec)) walTornUptoCard

/-- THE SECOND FORM's CARD OF 'suretylaw19.WalApart'. -/
def walApartUptoCard : Claim7 := { stood := { row := walApartUptoRow, standIns := [], harness := (true, "8ca4f6e626e6513e7028ee3e6511272e0a995affafc5503e227c4fcf64079fd9"), looks := false }, kinds := [], alts := [], laidByText := true, laidKinds := [.data, .data], laidTests := true, laidLooks := .later }
def WalApartUptoCardSaid : Prop := Claim7.holds Tryd.pinned (.plain (OpenSpec.upto walApartSpec)) walApartUptoCard

/-- THE SECOND FORM's CARD OF 'suretylaw19.WalAll'. -/
def walAllUptoCard : Claim7 := { stood := { row := walAllUptoRow, standIns := [], harness := (true, "8ca4f6e626e6513e7028ee3e6511272e0a995affafc5503e227c4fcf64079fd9"), looks := false }, kinds := [], alts := [], laidByText := true, laidKinds := [.data, .data], laidTests := true, laidLooks := .later }
def WalAllUptoCardSaid : Prop := Claim7.holds Tryd.pinned (.plain (OpenSpec.upto walAllSpec)) walAllUptoCard
end Rows
end Go.Proofs.YteidfcaciadgpaaDoor
