/-
  DERIVED. GIVEN WITH THE SEED: THE CARDS: each row of YtlfjokcbkopfeaaGreatDoorRows.lean that lists a variable, with what it lists TIED to the program's text (the seventh form; the later family's looks); each row that meets fmt, with fmt's text TOLD by the authors' own Lean function (tested against real Go, not proved from fmt's source: count such statements apart). THE CARD IS WHAT COUNTS. Prove the row's statement (the work); the ties are given (YtlfjokcbkopfeaaGreatDoorTie.lean); close each card by the builder's one call (the guide's Derived/Test/ToyasCard.lean, 'card_holds'). Laid BY PROGRAM, IN A SANDBOX (cutbox-door.mjs). By AI agents, Wed Nov 11 2026. No macro, syntax, notation, axiom, sorry.
-/
import Derived.Test.YtlfjokcbkopfeaaGreatDoorRows
import GoSem.ClaimSeven
namespace Go.Proofs.YtlfjokcbkopfeaaGreatDoor
namespace Rows

/-- THE TIED CARD OF 'chandlerlaw07.ProvidesTells'. -/
def providesTellsCard : Claim7 := { stood := { row := providesTellsRow, standIns := [], harness := (true, "62106f5c8cf295152b2c205a86faf5f1cc2f7d67bcc8c55ff513a2ad7e33c4d1"), looks := true }, kinds := [], alts := [], laidByText := true, laidKinds := [.data, .pinned], laidTests := true, laidLooks := .later }
def ProvidesTellsCardSaid : Prop := Claim7.holds Tryz.pinned (.plain (OpenSpec.ofChange providesTellsSpec)) providesTellsCard

/-- THE TIED CARD OF 'chandlerlaw07.ProvidesParts'. -/
def providesPartsCard : Claim7 := { stood := { row := providesPartsRow, standIns := [], harness := (true, "62106f5c8cf295152b2c205a86faf5f1cc2f7d67bcc8c55ff513a2ad7e33c4d1"), looks := true }, kinds := [], alts := [], laidByText := true, laidKinds := [.data, .pinned], laidTests := true, laidLooks := .later }
def ProvidesPartsCardSaid : Prop := Claim7.holds Tryz.pinned (.plain (OpenSpec.ofChange providesPartsSpec)) providesPartsCard

/-- THE TIED CARD OF 'chandlerlaw20.DiffTells'. -/
def diffTellsCard : Claim7 := { stood := { row := diffTellsRow, standIns := [], harness := (true, "62106f5c8cf295152b2c205a86faf5f1cc2f7d67bcc8c55ff513a2ad7e33c4d1"), looks := true }, kinds := [], alts := [], laidByText := true, laidKinds := [.data, .pinned], laidTests := true, laidLooks := .later }
def DiffTellsCardSaid : Prop := Claim7.holds Tryz.pinned (.plain (OpenSpec.ofChange diffTellsSpec)) diffTellsCard

/-- THE TIED CARD OF 'chandlerlaw20.DiffLeads'. -/
def diffLeadsCard : Claim7 := { stood := { row := diffLeadsRow, standIns := [], harness := (true, "62106f5c8cf295152b2c205a86faf5f1cc2f7d67bcc8c55ff513a2ad7e33c4d1"), looks := true }, kinds := [], alts := [], laidByText := true, laidKinds := [.data, .pinned], laidTests := true, laidLooks := .later }
def DiffLeadsCardSaid : Prop := Claim7.holds Tryz.pinned (.plain (OpenSpec.ofChange diffLeadsSpec)) diffLeadsCard

/-- THE TIED CARD OF 'chandlerlaw20.DiffSame'. -/
def diffSameCard : Claim7 := { stood := { row := diffSameRow, standIns := [], harness := (true, "62106f5c8cf295152b2c205a86faf5f1cc2f7d67bcc8c55ff513a2ad7e33c4d1"), looks := true }, kinds := [], alts := [], laidByText := true, laidKinds := [.data, .pinned], laidTests := true, laidLooks := .later }
def DiffSameCardSaid : Prop := Claim7.holds Tryz.pinned (.plain (OpenSpec.ofChange diffSameSpec)) diffSameCard

/-- THE SECOND FORM's CARD OF 'chandlerlaw07.ProvidesTells'. -/
def providesTellsUptoCard : Claim7 := { stood := { row := providesTellsUptoRow, standIns := [], harness := (true, "62106f5c8cf295152b2c205a86faf5f1cc2f7d67bcc8c55ff513a2ad7e33c4d1"), looks := true }, kinds := [], alts := [], laidByText := true, laidKinds := [.data, .pinned], laidTests := true, laidLooks := .later }
def ProvidesTellsUptoCardSaid : Prop := Claim7.holds Tryz.pinned (.plain (OpenSpec.upto providesTellsSpec)) providesTellsUptoCard

/-- THE SECOND FORM's CARD OF 'chandlerlaw07.ProvidesParts'. -/
def providesPartsUptoCard : Claim7 := { stood := { row := providesPartsUptoRow, standIns := [], harness := (true, "62106f5c8cf295152b2c205a86faf5f1cc2f7d67bcc8c55ff513a2ad7e33c4d1"), looks := true }, kinds := [], alts := [], laidByText := true, laidKinds := [.data, .pinned], laidTests := true, laidLooks := .later }
def ProvidesPartsUptoCardSaid : Prop := Claim7.holds Tryz.pinned (.plain (OpenSpec.upto providesPartsSpec)) providesPartsUptoCard

/-- THE SECOND FORM's CARD OF 'chandlerlaw20.DiffTells'. -/
def diffTellsUptoCard : Claim7 := { stood := { row := diffTellsUptoRow, standIns := [], harness := (true, "62106f5c8cf295152b2c205a86faf5f1cc2f7d67bcc8c55ff513a2ad7e33c4d1"), looks := true }, kinds := [], alts := [], laidByText := true, laidKinds := [.data, .pinned], laidTests := true, laidLooks := .later }
def DiffTellsUptoCardSaid : Prop := Claim7.holds Tryz.pinned (.plain (OpenSpec.upto diffTellsSpec)) diffTellsUptoCard

/-- THE SECOND FORM's CARD OF 'chandlerlaw20.DiffLeads'. -/
def diffLeadsUptoCard : Claim7 := { stood := { row := diffLeadsUptoRow, standIns := [], harness := (true, "62106f5c8cf295152b2c205a86faf5f1cc2f7d67bcc8c55ff513a2ad7e33c4d1"), looks := true }, kinds := [], alts := [], laidByText := true, laidKinds := [.data, .pinned], laidTests := true, laidLooks := .later }
def DiffLeadsUptoCardSaid : Prop := Claim7.holds Tryz.pinned (.plain (OpenSpec.upto diffLeadsSpec)) diffLeadsUptoCard

/-- THE SECOND FORM's CARD OF 'chandlerlaw20.DiffSame'. -/
def diffSameUptoCard : Claim7 := { stood := { row := diffSameUptoRow, standIns := [], harness := (true, "62106f5c8cf295152b2c205a86faf5f1cc2f7d67bcc8c55ff513a2ad7e33c4d1"), looks := true }, kinds := [], alts := [], laidByText := true, laidKinds := [.data, .pinned], laidTests := true, laidLooks := .later }
def DiffSameUptoCardSaid : Prop := Claim7.holds Tryz.pinned (.plain (OpenSpec.upto diffSameSpec)) diffSameUptoCard
end Rows
end Go.Proofs.YtlfjokcbkopfeaaGreatDoor
