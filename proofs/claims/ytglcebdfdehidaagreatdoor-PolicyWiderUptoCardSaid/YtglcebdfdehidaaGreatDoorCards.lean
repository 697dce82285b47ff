/-
  DERIVED. GIVEN WITH THE SEED: THE CARDS: each row of YtglcebdfdehidaaGreatDoorRows.lean that lists a variable, with what it lists TIED to the program's text (the seventh form; the later family's looks); each row that meets fmt, with fmt's text TOLD by the authors' own Lean function (tested against real Go, not proved from fmt's source: count such statements apart). THE CARD IS WHAT COUNTS. Prove the row's statement (the work); the ties are given (YtglcebdfdehidaaGreatDoorTie.lean); close each card by the builder's one call (the guide's Derived/Test/ToyasCard.lean, 'card_holds'). Laid BY PROGRAM, IN A SANDBOX (cutbox-door.mjs). By AI agents, Wed Nov 11 2026. No macro, syntax, notation, axiom, sorry.
-/
import Derived.Test.YtglcebdfdehidaaGreatDoorRows
import GoSem.ClaimSeven
namespace Go.Proofs.YtglcebdfdehidaaGreatDoor
namespace Rows

/-- THE TIED CARD OF 'chandlerlaw15.PolicyOrder'. -/
def policyOrderCard : Claim7 := { stood := { row := policyOrderRow, standIns := [], harness := (true, "79f4952c8b3decc30aab62fc578d473291ff78812364b4d14b645701382188ff"), looks := true }, kinds := [], alts := [], laidByText := true, laidKinds := [.data, .pinned], laidTests := true, laidLooks := .later }
def PolicyOrderCardSaid : Prop := Claim7.holds Tryz.pinned (.plain (OpenSpec.ofChange policyOrderSpec)) policyOrderCard

/-- THE TIED CARD OF 'chandlerlaw15.PolicyFavors'. -/
def policyFavorsCard : Claim7 := { stood := { row := policyFavorsRow, standIns := [], harness := (true, "79f4952c8b3decc30aab62fc578d473291ff78812364b4d14b645701382188ff"), looks := true }, kinds := [], alts := [], laidByText := true, laidKinds := [.data, .pinned], laidTests := true, laidLooks := .later }
def PolicyFavorsCardSaid : Prop := Claim7.holds Tryz.pinned (.plain (OpenSpec.ofChange policyFavorsSpec)) policyFavorsCard

/-- THE TIED CARD OF 'chandlerlaw15.PolicyWider'. -/
def policyWiderCard : Claim7 := { stood := { row := policyWiderRow, standIns := [], harness := (true, "79f4952c8b3decc30aab62fc578d473291ff78812364b4d14b645701382188ff"), looks := true }, kinds := [], alts := [], laidByText := true, laidKinds := [.data, .pinned], laidTests := true, laidLooks := .later }
def PolicyWiderCardSaid : Prop := Claim7.holds Tryz.pinned (.plain (OpenSpec.ofChange policyWiderSpec)) policyWiderCard

/-- THE SECOND FORM's CARD OF 'chandlerlaw15.PolicyOrder'. -/
def policyOrderUptoCard : Claim7 := { stood := { row := policyOrderUptoRow, standIns := [], harness := (true, "79f4952c8b3decc30aab62fc578d473291ff78812364b4d14b645701382188ff"), looks := true }, kinds := [], alts := [], laidByText := true, laidKinds := [.data, .pinned], laidTests := true, laidLooks := .later }
def PolicyOrderUptoCardSaid : Prop := Claim7.holds Tryz.pinned (.plain (OpenSpec.upto policyOrderSpec)) policyOrderUptoCard

/-- THE SECOND FORM's CARD OF 'chandlerlaw15.PolicyFavors'. -/
def policyFavorsUptoCard : Claim7 := { stood := { row := policyFavorsUptoRow, standIns := [], harness := (true, "79f4952c8b3decc30aab62fc578d473291ff78812364b4d14b645701382188ff"), looks := true }, kinds := [], alts := [], laidByText := true, laidKinds := [.data, .pinned], laidTests := true, laidLooks := .later }
def PolicyFavorsUptoCardSaid : Prop := Claim7.holds Tryz.pinned (.plain (OpenSpec.upto policyFavorsSpec)) policyFavorsUptoCard

/-- THE SECOND FORM's CARD OF 'chandlerlaw15.PolicyWider'. -/
def policyWiderUptoCard : Claim7 := { stood := { row := policyWiderUptoRow, standIns := [], harness := (true, "79f4952c8b3decc30aab62fc578d473291ff78812364b4d14b645701382188ff"), looks := true }, kinds := [], alts := [], laidByText := true, laidKinds := [.data, .pinned], laidTests := true, laidLooks := .later }
def PolicyWiderUptoCardSaid : Prop := Claim7.holds Tryz.pinned (.plain (OpenSpec.upto policyWiderSpec)) policyWiderUptoCard
end Rows
end Go.Proofs.YtglcebdfdehidaaGreatDoor
