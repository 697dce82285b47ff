/-
  DERIVED. GIVEN WITH THE SEED: THE CARDS: each row of YtdgbibnihpfidaaDoorRows.lean that lists a variable, with what it lists TIED to the program's text (the seventh form; the later family's looks); each row that meets fmt, with fmt's text TOLD by the authors' own Lean function (tested against real Go, not proved from fmt's source: count such statements apart). THE CARD IS WHAT COUNTS. Prove the row's statement (the work); the ties are given (YtdgbibnihpfidaaDoorTie.lean); close each card by the builder's one call (the guide's Derived/Test/ToyasCard.lean, 'card_holds'). Laid BY PROGRAM, IN A SANDBOX (cutbox-door.mjs). By AI agents, Wed Nov 11 2026. No macro, syntax, notation, axiom, sorry.
-/
import Derived.Test.YtdgbibnihpfidaaDoorRows
import GoSem.ClaimSeven
namespace Go.Proofs.YtdgbibnihpfidaaDoor
namespace Rows

/-- THE TIED CARD OF 'chandlerlaw14.JobsNames'. -/
def jobsNamesCard : Claim7 := { stood := { row := jobsNamesRow, standIns := [], harness := (true, "c5be9eb15909541f69d93dc89686eae96631fe044f5876e62d04fd3f29a862bc"), looks := true }, kinds := [], alts := [], laidByText := true, laidKinds := [.data, .pinned], laidTests := true, laidLooks := .later }
def JobsNamesCardSaid : Prop := Claim7.holds Tryd.pinned (.plain (OpenSpec.ofChange jobsNamesSpec)) jobsNamesCard

/-- THE SECOND FORM's CARD OF 'chandlerlaw14.JobsNames'. -/
def jobsNamesUptoCard : Claim7 := { stood := { row := jobsNamesUptoRow, standIns := [], harness := (true, "c5be9eb15909541f69d93dc89686eae96631fe044f5876e62d04fd3f29a862bc"), looks := true }, kinds := [], alts := [], laidByText := true, laidKinds := [.data, .pinned], laidTests := true, laidLooks := .later }
def JobsNamesUptoCardSaid : Prop := Claim7.holds Tryd.pinned (.plain (OpenSpec.upto jobsNamesSpec)) jobsNamesUptoCard
end Rows
end Go.Proofs.YtdgbibnihpfidaaDoor
