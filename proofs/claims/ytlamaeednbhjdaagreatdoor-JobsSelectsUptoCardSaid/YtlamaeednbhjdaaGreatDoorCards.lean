/-
  DERIVED. GIVEN WITH THE SEED: THE CARDS: each row of YtlamaeednbhjdaaGreatDoorRows.lean that lists a variable, with what it lists TIED to the program's text (the seventh form; the later family's looks); each row that meets fmt, with fmt's text TOLD by the authors' own Lean function (tested against real Go, not proved from fmt's source: count such statements apart). THE CARD IS WHAT COUNTS. Prove the row's statement (the work); the ties are given (YtlamaeednbhjdaaGreatDoorTie.lean); close each card by the builder's one call (the guide's Derived/Test/ToyasCard.lean, 'card_holds'). Laid BY PROGRAM, IN A SANDBOX (cutbox-door.mjs). By AI agents, Wed Nov 11 2026. No macro, syntax, notation, axiom, sorry.
-/
import Derived.Test.YtlamaeednbhjdaaGreatDoorRows
import GoSem.ClaimSeven
namespace Go.Proofs.YtlamaeednbhjdaaGreatDoor
namespace Rows

/-- THE TIED CARD OF 'chandlerlaw14.JobsSelects'. -/
def jobsSelectsCard : Claim7 := { stood := { row := jobsSelectsRow, standIns := [], harness := (true, "3a96dd4d299fc635e8033990c467c385a27c8b1336ad2410e428cceb39a7cb30"), looks := true }, kinds := [], alts := [], laidByText := true, laidKinds := [.data, .pinned], laidTests := true, laidLooks := .later }
def JobsSelectsCardSaid : Prop := Claim7.holds Tryz.pinned (.plain (OpenSpec.ofChange jobsSelectsSpec)) jobsSelectsCard

/-- THE TIED CARD OF 'chandlerlaw14.JobsStars'. -/
def jobsStarsCard : Claim7 := { stood := { row := jobsStarsRow, standIns := [], harness := (true, "3a96dd4d299fc635e8033990c467c385a27c8b1336ad2410e428cceb39a7cb30"), looks := true }, kinds := [], alts := [], laidByText := true, laidKinds := [.data, .pinned], laidTests := true, laidLooks := .later }
def JobsStarsCardSaid : Prop := Claim7.holds Tryz.pinned (.plain (OpenSpec.ofChange jobsStarsSpec)) jobsStarsCard

/-- THE SECOND FORM's CARD OF 'chandlerlaw14.JobsSelects'. -/
def jobsSelectsUptoCard : Claim7 := { stood := { row := jobsSelectsUptoRow, standIns := [], harness := (true, "3a96dd4d299fc635e8033990c467c385a27c8b1336ad2410e428cceb39a7cb30"), looks := true }, kinds := [], alts := [], laidByText := true, laidKinds := [.data, .pinned], laidTests := true, laidLooks := .later }
def JobsSelectsUptoCardSaid : Prop := Claim7.holds Tryz.pinned (.plain (OpenSpec.upto jobsSelectsSpec)) jobsSelectsUptoCard

/-- THE SECOND FORM's CARD OF 'chandlerlaw14.JobsStars'. -/
def jobsStarsUptoCard : Claim7 := { stood := { row := jobsStarsUptoRow, standIns := [], harness := (true, "3a96dd4d299fc635e8033990c467c385a27c8b1336ad2410e428cceb39a7cb30"), looks := true }, kinds := [], alts := [], laidByText := true, laidKinds := [.data, .pinned], laidTests := true, laidLooks := .later }
def JobsStarsUptoCardSaid : Prop := Claim7.holds Tryz.pinned (.plain (OpenSpec.upto jobsStarsSpec)) jobsStarsUptoCard
end Rows
end Go.Proofs.YtlamaeednbhjdaaGreatDoor
