/-
  DERIVED. GIVEN WITH THE SEED: THE CARDS: each row of YtaegacblpbbndaaDoorRows.lean that lists a variable, with what it lists TIED to the program's text (the seventh form; the later family's looks); each row that meets fmt, with fmt's text TOLD by the authors' own Lean function (tested against real Go, not proved from fmt's source: count such statements apart). THE CARD IS WHAT COUNTS. Prove the row's statement (the work); the ties are given (YtaegacblpbbndaaDoorTie.lean); close each card by the builder's one call (the guide's Derived/Test/ToyasCard.lean, 'card_holds'). Laid BY PROGRAM, IN A SANDBOX (cutbox-door.mjs). By AI agents, Wed Nov 11 2026. No macro, syntax, notation, axiom, sorry.
-/
import Derived.Test.YtaegacblpbbndaaDoorRows
import GoSem.ClaimSeven
namespace Go.Proofs.YtaegacblpbbndaaDoor
namespace Rows

/-- THE TIED CARD OF 'chandlerlaw05.DepNames'. -/
def depNamesCard : Claim7 := { stood := { row := depNamesRow, standIns := [], harness := (true, "4104846a00c329e97122b7ab7264741a254d179bf095c71fa6e42835779a4346"), looks := true }, kinds := [], alts := [], laidByText := true, laidKinds := [.data, .pinned], laidTests := true, laidLooks := .later }
def DepNamesCardSaid : Prop := Claim7.holds Tryd.pinned (.plain (OpenSpec.ofChange depNamesSpec)) depNamesCard

/-- THE TIED CARD OF 'chandlerlaw05.DepReads'. -/
def depReadsCard : Claim7 := { stood := { row := depReadsRow, standIns := [], harness := (true, "4104846a00c329e97122b7ab7264741a254d179bf095c71fa6e42835779a4346"), looks := true }, kinds := [], alts := [], laidByText := true, laidKinds := [.data, .pinned], laidTests := true, laidLooks := .later }
def DepReadsCardSaid : Prop := Claim7.holds Tryd.pinned (.plain (OpenSpec.ofChange depReadsSpec)) depReadsCard

/-- THE TIED CARD OF 'chandlerlaw05.DepBack'. -/
def depBackCard : Claim7 := { stood := { row := depBackRow, standIns := [], harness := (true, "4104846a00c329e97122b7ab7264741a254d179bf095c71fa6e42835779a4346"), looks := true }, kinds := [], alts := [], laidByText := true, laidKinds := [.data, .pinned], laidTests := true, laidLooks := .later }
def DepBackCardSaid : Prop := Claim7.holds Tryd.pinned (.plain (OpenSpec.ofChange depBackSpec)) depBackCard

/-- THE TIED CARD OF 'chandlerlaw05.DepJoins'. -/
def depJoinsCard : Claim7 := { stood := { row := depJoinsRow, standIns := [], harness := (true, "4104846a00c329e97122b7ab7264741a254d179bf095c71fa6e42835779a4346"), looks := true }, kinds := [], alts := [], laidByText := true, laidKinds := [.data, .pinned], laidTests := true, laidLooks := .later }
def DepJoinsCardSaid : Prop := Claim7.holds Tryd.pinned (.plain (OpenSpec.ofChange depJoinsSpec)) depJoinsCard

/-- THE SECOND FORM's CARD OF 'chandlerlaw05.DepNames'. -/
def depNamesUptoCard : Claim7 := { stood := { row := depNamesUptoRow, standIns := [], harness := (true, "4104846a00c329e97122b7ab7264741a254d179bf095c71fa6e42835779a4346"), looks := true }, kinds := [], alts := [], laidByText := true, laidKinds := [.data, .pinned], laidTests := true, laidLooks := .later }
def DepNamesUptoCardSaid : Prop := Claim7.holds Tryd.pinned (.plain (OpenSpec.upto depNamesSpec)) depNamesUptoCard

/-- THE SECOND FORM's CARD OF 'chandlerlaw05.DepReads'. -/
def depReadsUptoCard : Claim7 := { stood := { row := depReadsUptoRow, standIns := [], harness := (true, "4104846a00c329e97122b7ab7264741a254d179bf095c71fa6e42835779a4346"), looks := true }, kinds := [], alts := [], laidByText := true, laidKinds := [.data, .pinned], laidTests := true, laidLooks := .later }
def DepReadsUptoCardSaid : Prop := Claim7.holds Tryd.pinned (.plain (OpenSpec.upto depReadsSpec)) depReadsUptoCard

/-- THE SECOND FORM's CARD OF 'chandlerlaw05.DepBack'. -/
def depBackUptoCard : Claim7 := { stood := { row := depBackUptoRow, standIns := [], harness := (true, "4104846a00c329e97122b7ab7264741a254d179bf095c71fa6e42835779a4346"), looks := true }, kinds := [], alts := [], laidByText := true, laidKinds := [.data, .pinned], laidTests := true, laidLooks := .later }
def DepBackUptoCardSaid : Prop := Claim7.holds Tryd.pinned (.plain (OpenSpec.upto depBackSpec)) depBackUptoCard

/-- THE SECOND FORM's CARD OF 'chandlerlaw05.DepJoins'. -/
def depJoinsUptoCard : Claim7 := { stood := { row := depJoinsUptoRow, standIns := [], harness := (true, "4104846a00c329e97122b7ab7264741a254d179bf095c71fa6e42835779a4346"), looks := true }, kinds := [], alts := [], laidByText := true, laidKinds := [.data, .pinned], laidTests := true, laidLooks := .later }
def DepJoinsUptoCardSaid : Prop := Claim7.holds Tryd.pinned (.plain (OpenSpec.upto depJoinsSpec)) depJoinsUptoCard
end Rows
end Go.Proofs.YtaegacblpbbndaaDoor
