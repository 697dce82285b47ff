/-
  DERIVED. GIVEN WITH THE SEED: THE CARDS: each row of YtlmloohlmlahfaaGreatDoorRows.lean that lists a variable, with what it lists TIED to the program's text (the seventh form; the later family's looks); each row that meets fmt, with fmt's text TOLD by the authors' own Lean function (tested against real Go, not proved from fmt's source: count such statements apart). THE CARD IS WHAT COUNTS. Prove the row's statement (the work); the ties are given (YtlmloohlmlahfaaGreatDoorTie.lean); close each card by the builder's one call (the guide's Derived/Test/ToyasCard.lean, 'card_holds'). Laid BY PROGRAM, IN A SANDBOX (cutbox-door.mjs). By AI agents, Wed Nov 11 2026. No macro, syntax, notation, axiom, sorry.
-/
import Derived.Test.YtlmloohlmlahfaaGreatDoorRows
import GoSem.ClaimSeven
namespace Go.Proofs.YtlmloohlmlahfaaGreatDoor
namespace Rows

/-- THE TIED CARD OF 'chandlerlaw07.ProvidesTells'. -/
def providesTellsCard : Claim7 := { stood := { row := providesTellsRow, standIns := [], harness := (true, "340b53c8dbd0163fd044673f04a0044d8310b0016bf2bb61416f3789b73ca97b"), looks := true }, kinds := [], alts := [], laidByText := true, laidKinds := [.data, .pinned], laidTests := true, laidLooks := .later }
def ProvidesTellsCardSaid : Prop := Claim7.holds Tryz.pinned (.plain (OpenSpec.ofChange providesTellsSpec)) providesTellsCard

/-- THE TIED CARD OF 'chandlerlaw21.OrderTells'. -/
def orderTellsCard : Claim7 := { stood := { row := orderTellsRow, standIns := [], harness := (true, "340b53c8dbd0163fd044673f04a0044d8310b0016bf2bb61416f3789b73ca97b"), looks := true }, kinds := [], alts := [], laidByText := true, laidKinds := [.data, .pinned], laidTests := true, laidLooks := .later }
def OrderTellsCardSaid : Prop := Claim7.holds Tryz.pinned (.plain (OpenSpec.ofChange orderTellsSpec)) orderTellsCard

/-- THE TIED CARD OF 'chandlerlaw21.OrderLeads'. -/
def orderLeadsCard : Claim7 := { stood := { row := orderLeadsRow, standIns := [], harness := (true, "340b53c8dbd0163fd044673f04a0044d8310b0016bf2bb61416f3789b73ca97b"), looks := true }, kinds := [], alts := [], laidByText := true, laidKinds := [.data, .pinned], laidTests := true, laidLooks := .later }
def OrderLeadsCardSaid : Prop := Claim7.holds Tryz.pinned (.plain (OpenSpec.ofChange orderLeadsSpec)) orderLeadsCard

/-- THE TIED CARD OF 'chandlerlaw21.OrderFinds'. -/
def orderFindsCard : Claim7 := { stood := { row := orderFindsRow, standIns := [], harness := (true, "340b53c8dbd0163fd044673f04a0044d8310b0016bf2bb61416f3789b73ca97b"), looks := true }, kinds := [], alts := [], laidByText := true, laidKinds := [.data, .pinned], laidTests := true, laidLooks := .later }
def OrderFindsCardSaid : Prop := Claim7.holds Tryz.pinned (.plain (OpenSpec.ofChange orderFindsSpec)) orderFindsCard

/-- THE TIED CARD OF 'chandlerlaw21.OrderChains'. -/
def orderChainsCard : Claim7 := { stood := { row := orderChainsRow, standIns := [], harness := (true, "340b53c8dbd0163fd044673f04a0044d8310b0016bf2bb61416f3789b73ca97b"), looks := true }, kinds := [], alts := [], laidByText := true, laidKinds := [.data, .data, .data, .data, .pinned], laidTests := true, laidLooks := .later }
def OrderChainsCardSaid : Prop := Claim7.holds Tryz.pinned (.plain (OpenSpec.ofChange orderChainsSpec)) orderChainsCard

/-- THE SECOND FORM's CARD OF 'chandlerlaw07.ProvidesTells'. -/
def providesTellsUptoCard : Claim7 := { stood := { row := providesTellsUptoRow, standIns := [], harness := (true, "340b53c8dbd0163fd044673f04a0044d8310b0016bf2bb61416f3789b73ca97b"), looks := true }, kinds := [], alts := [], laidByText := true, laidKinds := [.data, .pinned], laidTests := true, laidLooks := .later }
def ProvidesTellsUptoCardSaid : Prop := Claim7.holds Tryz.pinned (.plain (OpenSpec.upto providesTellsSpec)) providesTellsUptoCard

/-- THE SECOND FORM's CARD OF 'chandlerlaw21.OrderTells'. -/
def orderTellsUptoCard : Claim7 := { stood := { row := orderTellsUptoRow, standIns := [], harness := (true, "340b53c8dbd0163fd044673f04a0044d8310b0016bf2bb61416f3789b73ca97b"), looks := true }, kinds := [], alts := [], laidByText := true, laidKinds := [.data, .pinned], laidTests := true, laidLooks := .later }
def OrderTellsUptoCardSaid : Prop := Claim7.holds Tryz.pinned (.plain (OpenSpec.upto orderTellsSpec)) orderTellsUptoCard

/-- THE SECOND FORM's CARD OF 'chandlerlaw21.OrderLeads'. -/
def orderLeadsUptoCard : Claim7 := { stood := { row := orderLeadsUptoRow, standIns := [], harness := (true, "340b53c8dbd0163fd044673f04a0044d8310b0016bf2bb61416f3789b73ca97b"), looks := true }, kinds := [], alts := [], laidByText := true, laidKinds := [.data, .pinned], laidTests := true, laidLooks := .later }
def OrderLeadsUptoCardSaid : Prop := Claim7.holds Tryz.pinned (.plain (OpenSpec.upto orderLeadsSpec)) orderLeadsUptoCard

/-- THE SECOND FORM's CARD OF 'chandlerlaw21.OrderFinds'. -/
def orderFindsUptoCard : Claim7 := { stood := { row := orderFindsUptoRow, standIns := [], harness := (true, "340b53c8dbd0163fd044673f04a0044d8310b0016bf2bb61416f3789b73ca97b"), looks := true }, kinds := [], alts := [], laidByText := true, laidKinds := [.data, .pinned], laidTests := true, laidLooks := .later }
def OrderFindsUptoCardSaid : Prop := Claim7.holds Tryz.pinned (.plain (OpenSpec.upto orderFindsSpec)) orderFindsUptoCard

/-- THE SECOND FORM's CARD OF 'chandlerlaw21.OrderChains'. -/
def orderChainsUptoCard : Claim7 := { stood := { row := orderChainsUptoRow, standIns := [], harness := (true, "340b53c8dbd0163fd044673f04a0044d8310b0016bf2bb61416f3789b73ca97b"), looks := true }, kinds := [], alts := [], laidByText := true, laidKinds := [.data, .data, .data, .data, .pinned], laidTests := true, laidLooks := .later }
def OrderChainsUptoCardSaid : Prop := Claim7.holds Tryz.pinned (.plain (OpenSpec.upto orderChainsSpec)) orderChainsUptoCard
end Rows
end Go.Proofs.YtlmloohlmlahfaaGreatDoor
