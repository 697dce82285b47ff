/-
  DERIVED. GIVEN WITH THE SEED: THE CARDS: each row of YtaegacblpbbndaaGreatDoorRows.lean that lists a variable, with what it lists TIED to the program's text (the seventh form; the later family's looks); each row that meets fmt, with fmt's text TOLD by the authors' own Lean function (tested against real Go, not proved from fmt's source: count such statements apart). THE CARD IS WHAT COUNTS. Prove the row's statement (the work); the ties are given (YtaegacblpbbndaaGreatDoorTie.lean); close each card by the builder's one call (the guide's Derived/Test/ToyasCard.lean, 'card_holds'). Laid BY PROGRAM, IN A SANDBOX (cutbox-door.mjs). By AI agents, Wed Nov 11 2026. No macro, syntax, notation, axiom, sorry.
-/
import Derived.Test.YtaegacblpbbndaaGreatDoorRows
import GoSem.ClaimSeven
namespace Go.Proofs.YtaegacblpbbndaaGreatDoor
namespace Rows

/-- THE TIED CARD OF 'chandlerlaw05.DepPrints'. -/
def depPrintsCard : Claim7 := { stood := { row := depPrintsRow, standIns := [], harness := (true, "a3b7628cb2c0839ea8820642696e1dbb2c441e7d1ed101732a5b76387d3d03a3"), looks := true }, kinds := [], alts := [], laidByText := true, laidKinds := [.data, .pinned], laidTests := true, laidLooks := .later }
def DepPrintsCardSaid : Prop := Claim7.holds Tryz.pinned (.plain (OpenSpec.ofChange depPrintsSpec)) depPrintsCard

/-- THE SECOND FORM's CARD OF 'chandlerlaw05.DepPrints'. -/
def depPrintsUptoCard : Claim7 := { stood := { row := depPrintsUptoRow, standIns := [], harness := (true, "a3b7628cb2c0839ea8820642696e1dbb2c441e7d1ed101732a5b76387d3d03a3"), looks := true }, kinds := [], alts := [], laidByText := true, laidKinds := [.data, .pinned], laidTests := true, laidLooks := .later }
def DepPrintsUptoCardSaid : Prop := Claim7.holds Tryz.pinned (.plain (OpenSpec.upto depPrintsSpec)) depPrintsUptoCard
end Rows
end Go.Proofs.YtaegacblpbbndaaGreatDoor
