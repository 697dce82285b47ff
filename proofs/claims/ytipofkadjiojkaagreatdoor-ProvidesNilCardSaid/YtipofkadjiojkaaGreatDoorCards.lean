/-
  DERIVED. GIVEN WITH THE SEED: THE CARDS: each row of YtipofkadjiojkaaGreatDoorRows.lean that lists a variable, with what it lists TIED to the program's text (the seventh form; the later family's looks); each row that meets fmt, with fmt's text TOLD by the authors' own Lean function (tested against real Go, not proved from fmt's source: count such statements apart). THE CARD IS WHAT COUNTS. Prove the row's statement (the work); the ties are given (YtipofkadjiojkaaGreatDoorTie.lean); close each card by the builder's one call (the guide's Derived/Test/ToyasCard.lean, 'card_holds'). Laid BY PROGRAM, IN A SANDBOX (cutbox-door.mjs). By AI agents, Wed Nov 11 2026. No macro, syntax, notation, axiom, sorry.
-/
import Derived.Test.YtipofkadjiojkaaGreatDoorRows
import GoSem.ClaimSeven
namespace Go.Proofs.YtipofkadjiojkaaGreatDoor
namespace Rows

/-- THE TIED CARD OF 'chandlerlaw07.ProvidesNames'. -/
def providesNamesCard : Claim7 := { stood := { row := providesNamesRow, standIns := [], harness := (true, "1c8ecf81c7ce4dcc844a909be91053d9f4ea842b06a830475d4a59df9d988a14"), looks := true }, kinds := [], alts := [], laidByText := true, laidKinds := [.data, .pinned], laidTests := true, laidLooks := .later }
def ProvidesNamesCardSaid : Prop := Claim7.holds Tryz.pinned (.plain (OpenSpec.ofChange providesNamesSpec)) providesNamesCard

/-- THE TIED CARD OF 'chandlerlaw07.ProvidesNil'. -/
def providesNilCard : Claim7 := { stood := { row := providesNilRow, standIns := [], harness := (true, "1c8ecf81c7ce4dcc844a909be91053d9f4ea842b06a830475d4a59df9d988a14"), looks := true }, kinds := [], alts := [], laidByText := true, laidKinds := [.data, .pinned], laidTests := true, laidLooks := .later }
def ProvidesNilCardSaid : Prop := Claim7.holds Tryz.pinned (.plain (OpenSpec.ofChange providesNilSpec)) providesNilCard

/-- THE TIED CARD OF 'chandlerlaw14.JobsNil'. -/
def jobsNilCard : Claim7 := { stood := { row := jobsNilRow, standIns := [], harness := (true, "1c8ecf81c7ce4dcc844a909be91053d9f4ea842b06a830475d4a59df9d988a14"), looks := true }, kinds := [], alts := [], laidByText := true, laidKinds := [.data, .pinned], laidTests := true, laidLooks := .later }
def JobsNilCardSaid : Prop := Claim7.holds Tryz.pinned (.plain (OpenSpec.ofChange jobsNilSpec)) jobsNilCard

/-- THE TIED CARD OF 'chandlerlaw20.DiffNames'. -/
def diffNamesCard : Claim7 := { stood := { row := diffNamesRow, standIns := [], harness := (true, "1c8ecf81c7ce4dcc844a909be91053d9f4ea842b06a830475d4a59df9d988a14"), looks := true }, kinds := [], alts := [], laidByText := true, laidKinds := [.data, .pinned], laidTests := true, laidLooks := .later }
def DiffNamesCardSaid : Prop := Claim7.holds Tryz.pinned (.plain (OpenSpec.ofChange diffNamesSpec)) diffNamesCard

/-- THE TIED CARD OF 'chandlerlaw20.DiffNil'. -/
def diffNilCard : Claim7 := { stood := { row := diffNilRow, standIns := [], harness := (true, "1c8ecf81c7ce4dcc844a909be91053d9f4ea842b06a830475d4a59df9d988a14"), looks := true }, kinds := [], alts := [], laidByText := true, laidKinds := [.data, .pinned], laidTests := true, laidLooks := .later }
def DiffNilCardSaid : Prop := Claim7.holds Tryz.pinned (.plain (OpenSpec.ofChange diffNilSpec)) diffNilCard

/-- THE TIED CARD OF 'chandlerlaw21.OrderNil'. -/
def orderNilCard : Claim7 := { stood := { row := orderNilRow, standIns := [], harness := (true, "1c8ecf81c7ce4dcc844a909be91053d9f4ea842b06a830475d4a59df9d988a14"), looks := true }, kinds := [], alts := [], laidByText := true, laidKinds := [.data, .pinned], laidTests := true, laidLooks := .later }
def OrderNilCardSaid : Prop := Claim7.holds Tryz.pinned (.plain (OpenSpec.ofChange orderNilSpec)) orderNilCard

/-- THE SECOND FORM's CARD OF 'chandlerlaw07.ProvidesNames'. -/
def providesNamesUptoCard : Claim7 := { stood := { row := providesNamesUptoRow, standIns := [], harness := (true, "1c8ecf81c7ce4dcc844a909be91053d9f4ea842b06a830475d4a59df9d988a14"), looks := true }, kinds := [], alts := [], laidByText := true, laidKinds := [.data, .pinned], laidTests := true, laidLooks := .later }
def ProvidesNamesUptoCardSaid : Prop := Claim7.holds Tryz.pinned (.plain (OpenSpec.upto providesNamesSpec)) providesNamesUptoCard

/-- THE SECOND FORM's CARD OF 'chandlerlaw07.ProvidesNil'. -/
def providesNilUptoCard : Claim7 := { stood := { row := providesNilUptoRow, standIns := [], harness := (true, "1c8ecf81c7ce4dcc844a909be91053d9f4ea842b06a830475d4a59df9d988a14"), looks := true }, kinds := [], alts := [], laidByText := true, laidKinds := [.data, .pinned], laidTests := true, laidLooks := .later }
def ProvidesNilUptoCardSaid : Prop := Claim7.holds Tryz.pinned (.plain (OpenSpec.upto providesNilSpec)) providesNilUptoCard

/-- THE SECOND FORM's CARD OF 'chandlerlaw14.JobsNil'. -/
def jobsNilUptoCard : Claim7 := { stood := { row := jobsNilUptoRow, standIns := [], harness := (true, "1c8ecf81c7ce4dcc844a909be91053d9f4ea842b06a830475d4a59df9d988a14"), looks := true }, kinds := [], alts := [], laidByText := true, laidKinds := [.data, .pinned], laidTests := true, laidLooks := .later }
def JobsNilUptoCardSaid : Prop := Claim7.holds Tryz.pinned (.plain (OpenSpec.upto jobsNilSpec)) jobsNilUptoCard

/-- THE SECOND FORM's CARD OF 'chandlerlaw20.DiffNames'. -/
def diffNamesUptoCard : Claim7 := { stood := { row := diffNamesUptoRow, standIns := [], harness := (true, "1c8ecf81c7ce4dcc844a909be91053d9f4ea842b06a830475d4a59df9d988a14"), looks := true }, kinds := [], alts := [], laidByText := true, laidKinds := [.data, .pinned], laidTests := true, laidLooks := .later }
def DiffNamesUptoCardSaid : Prop := Claim7.holds Tryz.pinned (.plain (OpenSpec.upto diffNamesSpec)) diffNamesUptoCard

/-- THE SECOND FORM's CARD OF 'chandlerlaw20.DiffNil'. -/
def diffNilUptoCard : Claim7 := { stood := { row := diffNilUptoRow, standIns := [], harness := (true, "1c8ecf81c7ce4dcc844a909be91053d9f4ea842b06a830475d4a59df9d988a14"), looks := true }, kinds := [], alts := [], laidByText := true, laidKinds := [.data, .pinned], laidTests := true, laidLooks := .later }
def DiffNilUptoCardSaid : Prop := Claim7.holds Tryz.pinned (.plain (OpenSpec.upto diffNilSpec)) diffNilUptoCard

/-- THE SECOND FORM's CARD OF 'chandlerlaw21.OrderNil'. -/
def orderNilUptoCard : Claim7 := { stood := { row := orderNilUptoRow, standIns := [], harness := (true, "1c8ecf81c7ce4dcc844a909be91053d9f4ea842b06a830475d4a59df9d988a14"), looks := true }, kinds := [], alts := [], laidByText := true, laidKinds := [.data, .pinned], laidTests := true, laidLooks := .later }
def OrderNilUptoCardSaid : Prop := Claim7.holds Tryz.pinned (.plain (OpenSpec.upto orderNilSpec)) orderNilUptoCard
end Rows
end Go.Proofs.YtipofkadjiojkaaGreatDoor
