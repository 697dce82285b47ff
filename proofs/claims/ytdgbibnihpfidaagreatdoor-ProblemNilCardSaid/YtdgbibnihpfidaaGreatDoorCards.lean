/-
  DERIVED. GIVEN WITH THE SEED: THE CARDS: each row of YtdgbibnihpfidaaGreatDoorRows.lean that lists a variable, with what it lists TIED to the program's text (the seventh form; the later family's looks); each row that meets fmt, with fmt's text TOLD by the authors' own Lean function (tested against real Go, not proved from fmt's source: count such statements apart). THE CARD IS WHAT COUNTS. Prove the row's statement (the work); the ties are given (YtdgbibnihpfidaaGreatDoorTie.lean); close each card by the builder's one call (the guide's Derived/Test/ToyasCard.lean, 'card_holds'). Laid BY PROGRAM, IN A SANDBOX (cutbox-door.mjs). By AI agents, Wed Nov 11 2026. No macro, syntax, notation, axiom, sorry.
-/
import Derived.Test.YtdgbibnihpfidaaGreatDoorRows
import GoSem.ClaimSeven
namespace Go.Proofs.YtdgbibnihpfidaaGreatDoor
namespace Rows

/-- THE TIED CARD OF 'chandlerlaw14.JobsNil'. -/
def jobsNilCard : Claim7 := { stood := { row := jobsNilRow, standIns := [], harness := (true, "028515f1e9a0456040fea277dc845a218c0da9e830f25695bb57a957f2ba95d9"), looks := true }, kinds := [], alts := [], laidByText := true, laidKinds := [.data, .pinned], laidTests := true, laidLooks := .later }
def JobsNilCardSaid : Prop := Claim7.holds Tryz.pinned (.plain (OpenSpec.ofChange jobsNilSpec)) jobsNilCard

/-- THE TIED CARD OF 'chandlerlaw15.PolicyNames'. -/
def policyNamesCard : Claim7 := { stood := { row := policyNamesRow, standIns := [], harness := (true, "028515f1e9a0456040fea277dc845a218c0da9e830f25695bb57a957f2ba95d9"), looks := true }, kinds := [], alts := [], laidByText := true, laidKinds := [.data, .pinned], laidTests := true, laidLooks := .later }
def PolicyNamesCardSaid : Prop := Claim7.holds Tryz.pinned (.plain (OpenSpec.ofChange policyNamesSpec)) policyNamesCard

/-- THE TIED CARD OF 'chandlerlaw15.PolicyNil'. -/
def policyNilCard : Claim7 := { stood := { row := policyNilRow, standIns := [], harness := (true, "028515f1e9a0456040fea277dc845a218c0da9e830f25695bb57a957f2ba95d9"), looks := true }, kinds := [], alts := [], laidByText := true, laidKinds := [.data, .pinned], laidTests := true, laidLooks := .later }
def PolicyNilCardSaid : Prop := Claim7.holds Tryz.pinned (.plain (OpenSpec.ofChange policyNilSpec)) policyNilCard

/-- THE TIED CARD OF 'chandlerlaw16.RulesNames'. -/
def rulesNamesCard : Claim7 := { stood := { row := rulesNamesRow, standIns := [], harness := (true, "028515f1e9a0456040fea277dc845a218c0da9e830f25695bb57a957f2ba95d9"), looks := true }, kinds := [], alts := [], laidByText := true, laidKinds := [.data, .pinned], laidTests := true, laidLooks := .later }
def RulesNamesCardSaid : Prop := Claim7.holds Tryz.pinned (.plain (OpenSpec.ofChange rulesNamesSpec)) rulesNamesCard

/-- THE TIED CARD OF 'chandlerlaw16.RulesNil'. -/
def rulesNilCard : Claim7 := { stood := { row := rulesNilRow, standIns := [], harness := (true, "028515f1e9a0456040fea277dc845a218c0da9e830f25695bb57a957f2ba95d9"), looks := true }, kinds := [], alts := [], laidByText := true, laidKinds := [.data, .pinned], laidTests := true, laidLooks := .later }
def RulesNilCardSaid : Prop := Claim7.holds Tryz.pinned (.plain (OpenSpec.ofChange rulesNilSpec)) rulesNilCard

/-- THE TIED CARD OF 'chandlerlaw19.ProblemNames'. -/
def problemNamesCard : Claim7 := { stood := { row := problemNamesRow, standIns := [], harness := (true, "028515f1e9a0456040fea277dc845a218c0da9e830f25695bb57a957f2ba95d9"), looks := true }, kinds := [], alts := [], laidByText := true, laidKinds := [.data, .pinned], laidTests := true, laidLooks := .later }
def ProblemNamesCardSaid : Prop := Claim7.holds Tryz.pinned (.plain (OpenSpec.ofChange problemNamesSpec)) problemNamesCard

/-- THE TIED CARD OF 'chandlerlaw19.ProblemNil'. -/
def problemNilCard : Claim7 := { stood := { row := problemNilRow, standIns := [], harness := (true, "028515f1e9a0456040fea277dc845a218c0da9e830f25695bb57a957f2ba95d9"), looks := true }, kinds := [], alts := [], laidByText := true, laidKinds := [.data, .pinned], laidTests := true, laidLooks := .later }
def ProblemNilCardSaid : Prop := Claim7.holds Tryz.pinned (.plain (OpenSpec.ofChange problemNilSpec)) problemNilCard

/-- THE TIED CARD OF 'chandlerlaw18.SolveNil'. -/
def solveNilCard : Claim7 := { stood := { row := solveNilRow, standIns := [], harness := (true, "028515f1e9a0456040fea277dc845a218c0da9e830f25695bb57a957f2ba95d9"), looks := true }, kinds := [], alts := [], laidByText := true, laidKinds := [.data, .pinned], laidTests := true, laidLooks := .later }
def SolveNilCardSaid : Prop := Claim7.holds Tryz.pinned (.plain (OpenSpec.ofChange solveNilSpec)) solveNilCard

/-- THE SECOND FORM's CARD OF 'chandlerlaw14.JobsNil'. -/
def jobsNilUptoCard : Claim7 := { stood := { row := jobsNilUptoRow, standIns := [], harness := (true, "028515f1e9a0456040fea277dc845a218c0da9e830f25695bb57a957f2ba95d9"), looks := true }, kinds := [], alts := [], laidByText := true, laidKinds := [.data, .pinned], laidTests := true, laidLooks := .later }
def JobsNilUptoCardSaid : Prop := Claim7.holds Tryz.pinned (.plain (OpenSpec.upto jobsNilSpec)) jobsNilUptoCard

/-- THE SECOND FORM's CARD OF 'chandlerlaw15.PolicyNames'. -/
def policyNamesUptoCard : Claim7 := { stood := { row := policyNamesUptoRow, standIns := [], harness := (true, "028515f1e9a0456040fea277dc845a218c0da9e830f25695bb57a957f2ba95d9"), looks := true }, kinds := [], alts := [], laidByText := true, laidKinds := [.data, .pinned], laidTests := true, laidLooks := .later }
def PolicyNamesUptoCardSaid : Prop := Claim7.holds Tryz.pinned (.plain (OpenSpec.upto policyNamesSpec)) policyNamesUptoCard

/-- THE SECOND FORM's CARD OF 'chandlerlaw15.PolicyNil'. -/
def policyNilUptoCard : Claim7 := { stood := { row := policyNilUptoRow, standIns := [], harness := (true, "028515f1e9a0456040fea277dc845a218c0da9e830f25695bb57a957f2ba95d9"), looks := true }, kinds := [], alts := [], laidByText := true, laidKinds := [.data, .pinned], laidTests := true, laidLooks := .later }
def PolicyNilUptoCardSaid : Prop := Claim7.holds Tryz.pinned (.plain (OpenSpec.upto policyNilSpec)) policyNilUptoCard

/-- THE SECOND FORM's CARD OF 'chandlerlaw16.RulesNames'. -/
def rulesNamesUptoCard : Claim7 := { stood := { row := rulesNamesUptoRow, standIns := [], harness := (true, "028515f1e9a0456040fea277dc845a218c0da9e830f25695bb57a957f2ba95d9"), looks := true }, kinds := [], alts := [], laidByText := true, laidKinds := [.data, .pinned], laidTests := true, laidLooks := .later }
def RulesNamesUptoCardSaid : Prop := Claim7.holds Tryz.pinned (.plain (OpenSpec.upto rulesNamesSpec)) rulesNamesUptoCard

/-- THE SECOND FORM's CARD OF 'chandlerlaw16.RulesNil'. -/
def rulesNilUptoCard : Claim7 := { stood := { row := rulesNilUptoRow, standIns := [], harness := (true, "028515f1e9a0456040fea277dc845a218c0da9e830f25695bb57a957f2ba95d9"), looks := true }, kinds := [], alts := [], laidByText := true, laidKinds := [.data, .pinned], laidTests := true, laidLooks := .later }
def RulesNilUptoCardSaid : Prop := Claim7.holds Tryz.pinned (.plain (OpenSpec.upto rulesNilSpec)) rulesNilUptoCard

/-- THE SECOND FORM's CARD OF 'chandlerlaw19.ProblemNames'. -/
def problemNamesUptoCard : Claim7 := { stood := { row := problemNamesUptoRow, standIns := [], harness := (true, "028515f1e9a0456040fea277dc845a218c0da9e830f25695bb57a957f2ba95d9"), looks := true }, kinds := [], alts := [], laidByText := true, laidKinds := [.data, .pinned], laidTests := true, laidLooks := .later }
def ProblemNamesUptoCardSaid : Prop := Claim7.holds Tryz.pinned (.plain (OpenSpec.upto problemNamesSpec)) problemNamesUptoCard

/-- THE SECOND FORM's CARD OF 'chandlerlaw19.ProblemNil'. -/
def problemNilUptoCard : Claim7 := { stood := { row := problemNilUptoRow, standIns := [], harness := (true, "028515f1e9a0456040fea277dc845a218c0da9e830f25695bb57a957f2ba95d9"), looks := true }, kinds := [], alts := [], laidByText := true, laidKinds := [.data, .pinned], laidTests := true, laidLooks := .later }
def ProblemNilUptoCardSaid : Prop := Claim7.holds Tryz.pinned (.plain (OpenSpec.upto problemNilSpec)) problemNilUptoCard

/-- THE SECOND FORM's CARD OF 'chandlerlaw18.SolveNil'. -/
def solveNilUptoCard : Claim7 := { stood := { row := solveNilUptoRow, standIns := [], harness := (true, "028515f1e9a0456040fea277dc845a218c0da9e830f25695bb57a957f2ba95d9"), looks := true }, kinds := [], alts := [], laidByText := true, laidKinds := [.data, .pinned], laidTests := true, laidLooks := .later }
def SolveNilUptoCardSaid : Prop := Claim7.holds Tryz.pinned (.plain (OpenSpec.upto solveNilSpec)) solveNilUptoCard
end Rows
end Go.Proofs.YtdgbibnihpfidaaGreatDoor
