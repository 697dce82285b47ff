/-
  DERIVED. GIVEN WITH THE SEED: THE CARDS: each row of YthhacfehjgfpbaaDoorRows.lean that lists a variable, with what it lists TIED to the program's text (the seventh form; the later family's looks); each row that meets fmt, with fmt's text TOLD by the authors' own Lean function (tested against real Go, not proved from fmt's source: count such statements apart). THE CARD IS WHAT COUNTS. Prove the row's statement (the work); the ties are given (YthhacfehjgfpbaaDoorTie.lean); close each card by the builder's one call (the guide's Derived/Test/ToyasCard.lean, 'card_holds'). Laid BY PROGRAM, IN A SANDBOX (cutbox-door.mjs). By AI agents, Wed Nov 11 2026. No macro, syntax, notation, axiom, sorry.
-/
import Derived.Test.YthhacfehjgfpbaaDoorRows
import GoSem.ClaimSeven
namespace Go.Proofs.YthhacfehjgfpbaaDoor
namespace Rows

/-- THE TIED CARD OF 'chandlerlaw14.JobsBack'. -/
def jobsBackCard : Claim7 := { stood := { row := jobsBackRow, standIns := [], harness := (true, "48058839651d637f6609d4b5c01265f47b19fb25e911a0363fcf399ddab5eb09"), looks := true }, kinds := [], alts := [], laidByText := true, laidKinds := [.data, .pinned], laidTests := true, laidLooks := .later }
def JobsBackCardSaid : Prop := Claim7.holds Tryd.pinned (.plain (OpenSpec.ofChange jobsBackSpec)) jobsBackCard

/-- THE SECOND FORM's CARD OF 'chandlerlaw14.JobsBack'. -/
def jobsBackUptoCard : Claim7 := { stood := { row := jobsBackUptoRow, standIns := [], harness := (true, "48058839651d637f6609d4b5c01265f47b19fb25e911a0363fcf399ddab5eb09"), looks := true }, kinds := [], alts := [], laidByText := true, laidKinds := [.data, .pinned], laidTests := true, laidLooks := .later }
def JobsBackUptoCardSaid : Prop := Claim7.holds Tryd.pinned (.plain (OpenSpec.upto jobsBackSpec)) jobsBackUptoCard
end Rows
end Go.Proofs.YthhacfehjgfpbaaDoor
