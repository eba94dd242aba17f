/-
  DERIVED. GIVEN WITH THE SEED: THE CARDS: each row of YtadbcnekkceoaaaGreatDoorRows.lean that lists a variable, with what it lists TIED to the program's text (the seventh form; the later family's looks); each row that meets fmt, with fmt's text TOLD by the authors' own Lean function (tested against real Go, not proved from fmt's source: count such statements apart). THE CARD IS WHAT COUNTS. Prove the row's statement (the work); the ties are given (YtadbcnekkceoaaaGreatDoorTie.lean); close each card by the builder's one call (the guide's Derived/Test/ToyasCard.lean, 'card_holds'). Laid BY PROGRAM, IN A SANDBOX (cutbox-door.mjs). By AI agents, Wed Nov 11 2026. No macro, syntax, notation, axiom, sorry.
-/
import Derived.Test.YtadbcnekkceoaaaGreatDoorRows
import GoSem.ClaimSeven
namespace Go.Proofs.YtadbcnekkceoaaaGreatDoor
namespace Rows

/-- THE TIED CARD OF 'corbeltop.TopOrder'. -/
def topOrderCard : Claim7 := { stood := { row := topOrderRow, standIns := [], harness := (true, "74d79842dacfb8ae2f12215a1b7ad85cd41ac1b7f724c62f943c4673be3cc08a"), looks := true }, kinds := [], alts := [], laidByText := true, laidKinds := [.data, .data, .data, .data, .sentinel, .sentinel, .pinned], laidTests := true, laidLooks := .later }
def TopOrderCardSaid : Prop := Claim7.holds Tryz.pinned (.plain (OpenSpec.ofChange topOrderSpec)) topOrderCard

/-- THE TIED CARD OF 'corbeltop.TopBad'. -/
def topBadCard : Claim7 := { stood := { row := topBadRow, standIns := [], harness := (true, "74d79842dacfb8ae2f12215a1b7ad85cd41ac1b7f724c62f943c4673be3cc08a"), looks := true }, kinds := [], alts := [], laidByText := true, laidKinds := [.data, .data, .data, .data, .sentinel, .sentinel, .pinned], laidTests := true, laidLooks := .later }
def TopBadCardSaid : Prop := Claim7.holds Tryz.pinned (.plain (OpenSpec.ofChange topBadSpec)) topBadCard

/-- THE SECOND FORM's CARD OF 'corbeltop.TopOrder'. -/
def topOrderUptoCard : Claim7 := { stood := { row := topOrderUptoRow, standIns := [], harness := (true, "74d79842dacfb8ae2f12215a1b7ad85cd41ac1b7f724c62f943c4673be3cc08a"), looks := true }, kinds := [], alts := [], laidByText := true, laidKinds := [.data, .data, .data, .data, .sentinel, .sentinel, .pinned], laidTests := true, laidLooks := .later }
def TopOrderUptoCardSaid : Prop := Claim7.holds Tryz.pinned (.plain (OpenSpec.upto topOrderSpec)) topOrderUptoCard

/-- THE SECOND FORM's CARD OF 'corbeltop.TopBad'. -/
def topBadUptoCard : Claim7 := { stood := { row := topBadUptoRow, standIns := [], harness := (true, "74d79842dacfb8ae2f12215a1b7ad85cd41ac1b7f724c62f943c4673be3cc08a"), looks := true }, kinds := [], alts := [], laidByText := true, laidKinds := [.data, .data, .data, .data, .sentinel, .sentinel, .pinned], laidTests := true, laidLooks := .later }
def TopBadUptoCardSaid : Prop := Claim7.holds Tryz.pinned (.plain (OpenSpec.upto topBadSpec)) topBadUptoCard
end Rows
end Go.Proofs.YtadbcnekkceoaaaGreatDoor
