/-
  DERIVED. GIVEN WITH THE SEED: THE CARDS: each row of YtkcbgibkigdedaaGreatDoorRows.lean that lists a variable, with what it lists TIED to the program's text (the seventh form; the later family's looks); each row that meets fmt, with fmt's text TOLD by the authors' own Lean function (tested against real Go, not proved from fmt's source: count such statements apart). THE CARD IS WHAT COUNTS. Prove the row's statement (the work); the ties are given (YtkcbgibkigdedaaGreatDoorTie.lean); close each card by the builder's one call (the guide's Derived/Test/ToyasCard.lean, 'card_holds'). Laid BY PROGRAM, IN A SANDBOX (cutbox-door.mjs). By AI agents, Wed Nov 11 2026. No macro, syntax, notation, axiom, sorry.
-/
import Derived.Test.YtkcbgibkigdedaaGreatDoorRows
import GoSem.ClaimSeven
namespace Go.Proofs.YtkcbgibkigdedaaGreatDoor
namespace Rows

/-- THE TIED CARD OF 'chandlerlaw07.ProvidesGrows'. -/
def providesGrowsCard : Claim7 := { stood := { row := providesGrowsRow, standIns := [], harness := (true, "63da3eb810e5b6fa81918c32535587b9a39b8ea54f07c95f3c3a995f34ec6821"), looks := true }, kinds := [], alts := [], laidByText := true, laidKinds := [.data, .pinned], laidTests := true, laidLooks := .later }
def ProvidesGrowsCardSaid : Prop := Claim7.holds Tryz.pinned (.plain (OpenSpec.ofChange providesGrowsSpec)) providesGrowsCard

/-- THE TIED CARD OF 'chandlerlaw07.ProvidesIfs'. -/
def providesIfsCard : Claim7 := { stood := { row := providesIfsRow, standIns := [], harness := (true, "63da3eb810e5b6fa81918c32535587b9a39b8ea54f07c95f3c3a995f34ec6821"), looks := true }, kinds := [], alts := [], laidByText := true, laidKinds := [.data, .pinned], laidTests := true, laidLooks := .later }
def ProvidesIfsCardSaid : Prop := Claim7.holds Tryz.pinned (.plain (OpenSpec.ofChange providesIfsSpec)) providesIfsCard

/-- THE TIED CARD OF 'chandlerlaw07.ProvidesOwn'. -/
def providesOwnCard : Claim7 := { stood := { row := providesOwnRow, standIns := [], harness := (true, "63da3eb810e5b6fa81918c32535587b9a39b8ea54f07c95f3c3a995f34ec6821"), looks := true }, kinds := [], alts := [], laidByText := true, laidKinds := [.data, .pinned], laidTests := true, laidLooks := .later }
def ProvidesOwnCardSaid : Prop := Claim7.holds Tryz.pinned (.plain (OpenSpec.ofChange providesOwnSpec)) providesOwnCard

/-- THE TIED CARD OF 'chandlerlaw07.ProvidesTells'. -/
def providesTellsCard : Claim7 := { stood := { row := providesTellsRow, standIns := [], harness := (true, "63da3eb810e5b6fa81918c32535587b9a39b8ea54f07c95f3c3a995f34ec6821"), looks := true }, kinds := [], alts := [], laidByText := true, laidKinds := [.data, .pinned], laidTests := true, laidLooks := .later }
def ProvidesTellsCardSaid : Prop := Claim7.holds Tryz.pinned (.plain (OpenSpec.ofChange providesTellsSpec)) providesTellsCard

/-- THE TIED CARD OF 'chandlerlaw07.ProvidesParts'. -/
def providesPartsCard : Claim7 := { stood := { row := providesPartsRow, standIns := [], harness := (true, "63da3eb810e5b6fa81918c32535587b9a39b8ea54f07c95f3c3a995f34ec6821"), looks := true }, kinds := [], alts := [], laidByText := true, laidKinds := [.data, .pinned], laidTests := true, laidLooks := .later }
def ProvidesPartsCardSaid : Prop := Claim7.holds Tryz.pinned (.plain (OpenSpec.ofChange providesPartsSpec)) providesPartsCard

/-- THE SECOND FORM's CARD OF 'chandlerlaw07.ProvidesGrows'. -/
def providesGrowsUptoCard : Claim7 := { stood := { row := providesGrowsUptoRow, standIns := [], harness := (true, "63da3eb810e5b6fa81918c32535587b9a39b8ea54f07c95f3c3a995f34ec6821"), looks := true }, kinds := [], alts := [], laidByText := true, laidKinds := [.data, .pinned], laidTests := true, laidLooks := .later }
def ProvidesGrowsUptoCardSaid : Prop := Claim7.holds Tryz.pinned (.plain (OpenSpec.upto providesGrowsSpec)) providesGrowsUptoCard

/-- THE SECOND FORM's CARD OF 'chandlerlaw07.ProvidesIfs'. -/
def providesIfsUptoCard : Claim7 := { stood := { row := providesIfsUptoRow, standIns := [], harness := (true, "63da3eb810e5b6fa81918c32535587b9a39b8ea54f07c95f3c3a995f34ec6821"), looks := true }, kinds := [], alts := [], laidByText := true, laidKinds := [.data, .pinned], laidTests := true, laidLooks := .later }
def ProvidesIfsUptoCardSaid : Prop := Claim7.holds Tryz.pinned (.plain (OpenSpec.upto providesIfsSpec)) providesIfsUptoCard

/-- THE SECOND FORM's CARD OF 'chandlerlaw07.ProvidesOwn'. -/
def providesOwnUptoCard : Claim7 := { stood := { row := providesOwnUptoRow, standIns := [], harness := (true, "63da3eb810e5b6fa81918c32535587b9a39b8ea54f07c95f3c3a995f34ec6821"), looks := true }, kinds := [], alts := [], laidByText := true, laidKinds := [.data, .pinned], laidTests := true, laidLooks := .later }
def ProvidesOwnUptoCardSaid : Prop := Claim7.holds Tryz.pinned (.plain (OpenSpec.upto providesOwnSpec)) providesOwnUptoCard

/-- THE SECOND FORM's CARD OF 'chandlerlaw07.ProvidesTells'. -/
def providesTellsUptoCard : Claim7 := { stood := { row := providesTellsUptoRow, standIns := [], harness := (true, "63da3eb810e5b6fa81918c32535587b9a39b8ea54f07c95f3c3a995f34ec6821"), looks := true }, kinds := [], alts := [], laidByText := true, laidKinds := [.data, .pinned], laidTests := true, laidLooks := .later }
def ProvidesTellsUptoCardSaid : Prop := Claim7.holds Tryz.pinned (.plain (OpenSpec.upto providesTellsSpec)) providesTellsUptoCard

/-- THE SECOND FORM's CARD OF 'chandlerlaw07.ProvidesParts'. -/
def providesPartsUptoCard : Claim7 := { stood := { row := providesPartsUptoRow, standIns := [], harness := (true, "63da3eb810e5b6fa81918c32535587b9a39b8ea54f07c95f3c3a995f34ec6821"), looks := true }, kinds := [], alts := [], laidByText := true, laidKinds := [.data, .pinned], laidTests := true, laidLooks := .later }
def ProvidesPartsUptoCardSaid : Prop := Claim7.holds Tryz.pinned (.plain (OpenSpec.upto providesPartsSpec)) providesPartsUptoCard
end Rows
end Go.Proofs.YtkcbgibkigdedaaGreatDoor
