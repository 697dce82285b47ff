/-
  NARROWER THAN 'FOR EVERY INPUT', by the rows' own cells (each row's printed sentence says how): JobsNil: laid · PolicyNames: laid · PolicyNil: laid · RulesNames: laid · RulesNil: laid · ProblemNames: laid · ProblemNil: laid · SolveNil: laid.
  DERIVED. THE GIVEN ROWS OF THIS SEAT. 8 by the template 'for every input the law returns true; each argument reads behind the call as it read before'; 0 by the template 'total and deterministic' (their statements: YtdgbibnihpfidaaGreatDoorTotals.lean).
  GIVEN WITH THE SEED: the statements are not yours to turn. If you find one false, say at which input.
  Laid BY PROGRAM, IN A SANDBOX (cutbox-rows.mjs): the forced cells as the released guide's own fill.sh prints them over the translation 6a322f15b1bff684… (all of the seat's roots in one cut). By AI agents, Wed Nov 11 2026. No macro, syntax, notation, axiom, sorry.
-/
import Derived.Test.YtdgbibnihpfidaaGreatDoorChecked
import GoSem.PinnedTables
import GoSem.Claim
import GoSem.ClaimJoined
import GoSem.ClaimMapViews
import Derived.JoinedTies
import Derived.KernelRfl
namespace Go.Proofs.YtdgbibnihpfidaaGreatDoor
/- THE CELL 'sum', in the pinned program and in every row, IS THE sha256 OF THE DUMP (.gsa) THAT YtdgbibnihpfidaaGreatDoorProg.lean LOADS. Nothing in Lean hashes anything: it is a label: what it is worth is what the hold of that sum in a sandbox is worth. -/
noncomputable def Tryz.pinned : Pinned := { name := "ytdgbibnihpfidaagreatdoor", sum := "6a322f15b1bff6843bd7e38ff58fbd2a66d1ac0eb4189638e360d9e660cef750", checked := Tryz.checked }
namespace Rows
def none {H : Type} : Left H := { results := [], args := [] }

/- WHAT THE LISTED PACKAGE-LEVEL VARIABLES READ AS WHEN THE CALL BEGINS. Each datum BY PROGRAM (the guide's laid-datum.mjs) off the statement by which the dump's own 'gosem.cut.vars' lays the variable. In a bare row this is a premise. The card (YtdgbibnihpfidaaGreatDoorCards.lean) ties it to the program's text. -/
def laid_unicode_utf8_acceptRanges {H : Type} : DataW H := .agg [.agg [.lit (.int .u8 128), .lit (.int .u8 191)], .agg [.lit (.int .u8 160), .lit (.int .u8 191)], .agg [.lit (.int .u8 128), .lit (.int .u8 159)], .agg [.lit (.int .u8 144), .lit (.int .u8 191)], .agg [.lit (.int .u8 128), .lit (.int .u8 143)], .agg [.lit (.int .u8 0), .lit (.int .u8 0)], .agg [.lit (.int .u8 0), .lit (.int .u8 0)], .agg [.lit (.int .u8 0), .lit (.int .u8 0)], .agg [.lit (.int .u8 0), .lit (.int .u8 0)], .agg [.lit (.int .u8 0), .lit (.int .u8 0)], .agg [.lit (.int .u8 0), .lit (.int .u8 0)], .agg [.lit (.int .u8 0), .lit (.int .u8 0)], .agg [.lit (.int .u8 0), .lit (.int .u8 0)], .agg [.lit (.int .u8 0), .lit (.int .u8 0)], .agg [.lit (.int .u8 0), .lit (.int .u8 0)], .agg [.lit (.int .u8 0), .lit (.int .u8 0)]]
/-- One of Go's own tables, pinned by name: the form's constant. -/
def laid_unicode_utf8_first : DataW Unit := Go.Pinned.utf8First

/-- 'chandlerlaw14.JobsNil': WHATEVER THE INPUT: true; the input reads as it did. -/
def jobsNilSpec : ChangeSpec := { name := "jobsNil", fn := fun _ => fun
  | [d] => { results := [.lit (.bool true)], args := [d] }
  | _ => none }
def jobsNilRow : OpenClaim := { program := "ytdgbibnihpfidaagreatdoor", sum := "6a322f15b1bff6843bd7e38ff58fbd2a66d1ac0eb4189638e360d9e660cef750", func := "chandler/chandlerlaw14.JobsNil", spec := "jobsNil", inPlace := ["internal/bytealg.CountString", "internal/bytealg.IndexByteString", "internal/bytealg.IndexString", "internal/abi.NoEscape", "internal/bytealg.MakeNoZero", "internal/bytealg.abigen_runtime_cmpstring"], unfollowed := true, recurses := true, named := ["unicode/utf8.first", "unicode/utf8.acceptRanges", "internal/bytealg.MaxLen"], apart := false, laid := [("unicode/utf8.acceptRanges", laid_unicode_utf8_acceptRanges), ("unicode/utf8.first", laid_unicode_utf8_first)] }
def JobsNilSaid : Prop := jobsNilRow.holds Tryz.pinned (OpenSpec.ofChange jobsNilSpec)

/-- ITS FALSE NEIGHBOUR: 'it returns false'. Refute it at one input. -/
def jobsNilWrong : ChangeSpec := { name := "jobsNil", fn := fun _ => fun
  | [d] => { results := [.lit (.bool false)], args := [d] }
  | _ => none }
def JobsNilWrongFalsely : Prop := jobsNilRow.holds Tryz.pinned (OpenSpec.ofChange jobsNilWrong)

/-- 'chandlerlaw15.PolicyNames': WHATEVER THE INPUT: true; the input reads as it did. -/
def policyNamesSpec : ChangeSpec := { name := "policyNames", fn := fun _ => fun
  | [] => { results := [.lit (.bool true)], args := [] }
  | _ => none }
def policyNamesRow : OpenClaim := { program := "ytdgbibnihpfidaagreatdoor", sum := "6a322f15b1bff6843bd7e38ff58fbd2a66d1ac0eb4189638e360d9e660cef750", func := "chandler/chandlerlaw15.PolicyNames", spec := "policyNames", inPlace := ["internal/bytealg.IndexByteString", "internal/bytealg.IndexString", "internal/abi.NoEscape", "internal/bytealg.MakeNoZero", "internal/bytealg.abigen_runtime_cmpstring"], unfollowed := true, recurses := true, named := ["internal/bytealg.MaxLen", "unicode/utf8.first", "unicode/utf8.acceptRanges"], apart := false, laid := [("unicode/utf8.acceptRanges", laid_unicode_utf8_acceptRanges), ("unicode/utf8.first", laid_unicode_utf8_first)] }
def PolicyNamesSaid : Prop := policyNamesRow.holds Tryz.pinned (OpenSpec.ofChange policyNamesSpec)

/-- ITS FALSE NEIGHBOUR: 'it returns false'. Refute it at one input. -/
def policyNamesWrong : ChangeSpec := { name := "policyNames", fn := fun _ => fun
  | [] => { results := [.lit (.bool false)], args := [] }
  | _ => none }
def PolicyNamesWrongFalsely : Prop := policyNamesRow.holds Tryz.pinned (OpenSpec.ofChange policyNamesWrong)

/-- 'chandlerlaw15.PolicyNil': WHATEVER THE INPUT: true; the input reads as it did. -/
def policyNilSpec : ChangeSpec := { name := "policyNil", fn := fun _ => fun
  | [d1, d2, d3] => { results := [.lit (.bool true)], args := [d1, d2, d3] }
  | _ => none }
def policyNilRow : OpenClaim := { program := "ytdgbibnihpfidaagreatdoor", sum := "6a322f15b1bff6843bd7e38ff58fbd2a66d1ac0eb4189638e360d9e660cef750", func := "chandler/chandlerlaw15.PolicyNil", spec := "policyNil", inPlace := ["internal/bytealg.IndexByteString", "internal/bytealg.IndexString", "internal/abi.NoEscape", "internal/bytealg.MakeNoZero", "internal/bytealg.abigen_runtime_cmpstring"], unfollowed := true, recurses := true, named := ["internal/bytealg.MaxLen", "unicode/utf8.first", "unicode/utf8.acceptRanges"], apart := false, laid := [("unicode/utf8.acceptRanges", laid_unicode_utf8_acceptRanges), ("unicode/utf8.first", laid_unicode_utf8_first)] }
def PolicyNilSaid : Prop := policyNilRow.holds Tryz.pinned (OpenSpec.ofChange policyNilSpec)

/-- ITS FALSE NEIGHBOUR: 'it returns false'. Refute it at one input. -/
def policyNilWrong : ChangeSpec := { name := "policyNil", fn := fun _ => fun
  | [d1, d2, d3] => { results := [.lit (.bool false)], args := [d1, d2, d3] }
  | _ => none }
def PolicyNilWrongFalsely : Prop := policyNilRow.holds Tryz.pinned (OpenSpec.ofChange policyNilWrong)

/-- 'chandlerlaw16.RulesNames': WHATEVER THE INPUT: true; the input reads as it did. -/
def rulesNamesSpec : ChangeSpec := { name := "rulesNames", fn := fun _ => fun
  | [] => { results := [.lit (.bool true)], args := [] }
  | _ => none }
def rulesNamesRow : OpenClaim := { program := "ytdgbibnihpfidaagreatdoor", sum := "6a322f15b1bff6843bd7e38ff58fbd2a66d1ac0eb4189638e360d9e660cef750", func := "chandler/chandlerlaw16.RulesNames", spec := "rulesNames", inPlace := ["internal/bytealg.IndexByteString", "internal/bytealg.IndexString", "internal/abi.NoEscape", "internal/bytealg.MakeNoZero", "internal/bytealg.abigen_runtime_cmpstring"], unfollowed := true, recurses := true, named := ["internal/bytealg.MaxLen", "unicode/utf8.first", "unicode/utf8.acceptRanges"], apart := false, laid := [("unicode/utf8.acceptRanges", laid_unicode_utf8_acceptRanges), ("unicode/utf8.first", laid_unicode_utf8_first)] }
def RulesNamesSaid : Prop := rulesNamesRow.holds Tryz.pinned (OpenSpec.ofChange rulesNamesSpec)

/-- ITS FALSE NEIGHBOUR: 'it returns false'. Refute it at one input. -/
def rulesNamesWrong : ChangeSpec := { name := "rulesNames", fn := fun _ => fun
  | [] => { results := [.lit (.bool false)], args := [] }
  | _ => none }
def RulesNamesWrongFalsely : Prop := rulesNamesRow.holds Tryz.pinned (OpenSpec.ofChange rulesNamesWrong)

/-- 'chandlerlaw16.RulesNil': WHATEVER THE INPUT: true; the input reads as it did. -/
def rulesNilSpec : ChangeSpec := { name := "rulesNil", fn := fun _ => fun
  | [d1, d2] => { results := [.lit (.bool true)], args := [d1, d2] }
  | _ => none }
def rulesNilRow : OpenClaim := { program := "ytdgbibnihpfidaagreatdoor", sum := "6a322f15b1bff6843bd7e38ff58fbd2a66d1ac0eb4189638e360d9e660cef750", func := "chandler/chandlerlaw16.RulesNil", spec := "rulesNil", inPlace := ["internal/bytealg.IndexByteString", "internal/bytealg.IndexString", "internal/abi.NoEscape", "internal/bytealg.MakeNoZero", "internal/bytealg.abigen_runtime_cmpstring"], unfollowed := true, recurses := true, named := ["internal/bytealg.MaxLen", "unicode/utf8.first", "unicode/utf8.acceptRanges"], apart := false, laid := [("unicode/utf8.acceptRanges", laid_unicode_utf8_acceptRanges), ("unicode/utf8.first", laid_unicode_utf8_first)] }
def RulesNilSaid : Prop := rulesNilRow.holds Tryz.pinned (OpenSpec.ofChange rulesNilSpec)

/-- ITS FALSE NEIGHBOUR: 'it returns false'. Refute it at one input. -/
def rulesNilWrong : ChangeSpec := { name := "rulesNil", fn := fun _ => fun
  | [d1, d2] => { results := [.lit (.bool false)], args := [d1, d2] }
  | _ => none }
def RulesNilWrongFalsely : Prop := rulesNilRow.holds Tryz.pinned (OpenSpec.ofChange rulesNilWrong)

/-- 'chandlerlaw19.ProblemNames': WHATEVER THE INPUT: true; the input reads as it did. -/
def problemNamesSpec : ChangeSpec := { name := "problemNames", fn := fun _ => fun
  | [] => { results := [.lit (.bool true)], args := [] }
  | _ => none }
def problemNamesRow : OpenClaim := { program := "ytdgbibnihpfidaagreatdoor", sum := "6a322f15b1bff6843bd7e38ff58fbd2a66d1ac0eb4189638e360d9e660cef750", func := "chandler/chandlerlaw19.ProblemNames", spec := "problemNames", inPlace := ["internal/bytealg.IndexByteString", "internal/bytealg.IndexString", "internal/abi.NoEscape", "internal/bytealg.MakeNoZero", "internal/bytealg.abigen_runtime_cmpstring"], unfollowed := true, recurses := true, named := ["internal/bytealg.MaxLen", "unicode/utf8.first", "unicode/utf8.acceptRanges"], apart := false, laid := [("unicode/utf8.acceptRanges", laid_unicode_utf8_acceptRanges), ("unicode/utf8.first", laid_unicode_utf8_first)] }
def ProblemNamesSaid : Prop := problemNamesRow.holds Tryz.pinned (OpenSpec.ofChange problemNamesSpec)

/-- ITS FALSE NEIGHBOUR: 'it returns false'. Refute it at one input. -/
def problemNamesWrong : ChangeSpec := { name := "problemNames", fn := fun _ => fun
  | [] => { results := [.lit (.bool false)], args := [] }
  | _ => none }
def ProblemNamesWrongFalsely : Prop := problemNamesRow.holds Tryz.pinned (OpenSpec.ofChange problemNamesWrong)

/-- 'chandlerlaw19.ProblemNil': WHATEVER THE INPUT: true; the input reads as it did. -/
def problemNilSpec : ChangeSpec := { name := "problemNil", fn := fun _ => fun
  | [d1, d2] => { results := [.lit (.bool true)], args := [d1, d2] }
  | _ => none }
def problemNilRow : OpenClaim := { program := "ytdgbibnihpfidaagreatdoor", sum := "6a322f15b1bff6843bd7e38ff58fbd2a66d1ac0eb4189638e360d9e660cef750", func := "chandler/chandlerlaw19.ProblemNil", spec := "problemNil", inPlace := ["internal/bytealg.IndexByteString", "internal/bytealg.IndexString", "internal/abi.NoEscape", "internal/bytealg.MakeNoZero", "internal/bytealg.abigen_runtime_cmpstring"], unfollowed := true, recurses := true, named := ["internal/bytealg.MaxLen", "unicode/utf8.first", "unicode/utf8.acceptRanges"], apart := false, laid := [("unicode/utf8.acceptRanges", laid_unicode_utf8_acceptRanges), ("unicode/utf8.first", laid_unicode_utf8_first)] }
def ProblemNilSaid : Prop := problemNilRow.holds Tryz.pinned (OpenSpec.ofChange problemNilSpec)

/-- ITS FALSE NEIGHBOUR: 'it returns false'. Refute it at one input. -/
def problemNilWrong : ChangeSpec := { name := "problemNil", fn := fun _ => fun
  | [d1, d2] => { results := [.lit (.bool false)], args := [d1, d2] }
  | _ => none }
def ProblemNilWrongFalsely : Prop := problemNilRow.holds Tryz.pinned (OpenSpec.ofChange problemNilWrong)

/-- 'chandlerlaw18.SolveNil': WHATEVER THE INPUT: true; the input reads as it did. -/
def solveNilSpec : ChangeSpec := { name := "solveNil", fn := fun _ => fun
  | [d] => { results := [.lit (.bool true)], args := [d] }
  | _ => none }
def solveNilRow : OpenClaim := { program := "ytdgbibnihpfidaagreatdoor", sum := "6a322f15b1bff6843bd7e38ff58fbd2a66d1ac0eb4189638e360d9e660cef750", func := "chandler/chandlerlaw18.SolveNil", spec := "solveNil", inPlace := ["internal/bytealg.IndexByteString", "internal/bytealg.IndexString", "internal/abi.NoEscape", "internal/bytealg.MakeNoZero", "internal/bytealg.abigen_runtime_cmpstring"], unfollowed := true, recurses := true, named := ["internal/bytealg.MaxLen", "unicode/utf8.first", "unicode/utf8.acceptRanges"], apart := false, laid := [("unicode/utf8.acceptRanges", laid_unicode_utf8_acceptRanges), ("unicode/utf8.first", laid_unicode_utf8_first)] }
def SolveNilSaid : Prop := solveNilRow.holds Tryz.pinned (OpenSpec.ofChange solveNilSpec)

/-- ITS FALSE NEIGHBOUR: 'it returns false'. Refute it at one input. -/
def solveNilWrong : ChangeSpec := { name := "solveNil", fn := fun _ => fun
  | [d] => { results := [.lit (.bool false)], args := [d] }
  | _ => none }
def SolveNilWrongFalsely : Prop := solveNilRow.holds Tryz.pinned (OpenSpec.ofChange solveNilWrong)

/- THE SECOND FORM. 'bulk': how many values and letters a reading holds, each counted each time it is reached (what is shared counts as often as it is met; a slice's spare places count too). A statement '..UptoSaid' is the law's where the arguments, and the package variables that the reading takes, are together of bulk at most 1048576: NARROWER than '..Said'. Prove '..Said' where nothing that the law and all that it calls make is longer than what came in: it says more and counts as full. Else prove '..UptoSaid'. A law counts once. -/
mutual
def uptoBulk {H : Type} : DataW H → Nat
  | .lit (.string bytes) => bytes.length + 1
  | .lit _ => 1
  | .nil => 1
  | .ptr d => uptoBulk d + 1
  | .slice elems spare => uptoBulkAll elems + uptoBulkAll spare + 1
  | .agg parts => uptoBulkAll parts + 1
  | .iface _ d => uptoBulk d + 1
  | .map entries => uptoBulkEntries entries + 1
  | .held _ => 1
def uptoBulkAll {H : Type} : List (DataW H) → Nat
  | [] => 0
  | d :: r => uptoBulk d + uptoBulkAll r
def uptoBulkEntries {H : Type} : List (Lit × DataW H) → Nat
  | [] => 0
  | x :: r => uptoBulkEntry x + uptoBulkEntries r
def uptoBulkEntry {H : Type} : Lit × DataW H → Nat
  | (.string bytes, d) => bytes.length + uptoBulk d + 1
  | (_, d) => uptoBulk d + 1
 end
def uptoSmall : (H : Type) → List (DataW H) → Bool := fun _ ds => decide (uptoBulkAll ds ≤ 1048576)
def OpenSpec.upto (s : _root_.Go.ChangeSpec) : _root_.Go.OpenSpec := { _root_.Go.OpenSpec.ofChange s with cond := some uptoSmall }

/-- 'chandlerlaw14.JobsNil', WHERE WHAT IT READS IS OF BULK AT MOST 1048576: true; the input reads as it did. -/
def jobsNilUptoRow : OpenClaim := { program := "ytdgbibnihpfidaagreatdoor", sum := "6a322f15b1bff6843bd7e38ff58fbd2a66d1ac0eb4189638e360d9e660cef750", func := "chandler/chandlerlaw14.JobsNil", spec := "jobsNil", inPlace := ["internal/bytealg.CountString", "internal/bytealg.IndexByteString", "internal/bytealg.IndexString", "internal/abi.NoEscape", "internal/bytealg.MakeNoZero", "internal/bytealg.abigen_runtime_cmpstring"], unfollowed := true, recurses := true, named := ["unicode/utf8.first", "unicode/utf8.acceptRanges", "internal/bytealg.MaxLen"], apart := false, laid := [("unicode/utf8.acceptRanges", laid_unicode_utf8_acceptRanges), ("unicode/utf8.first", laid_unicode_utf8_first)], narrowed := true }
def JobsNilUptoSaid : Prop := jobsNilUptoRow.holds Tryz.pinned (OpenSpec.upto jobsNilSpec)

/-- 'chandlerlaw15.PolicyNames', WHERE WHAT IT READS IS OF BULK AT MOST 1048576: true; the input reads as it did. -/
def policyNamesUptoRow : OpenClaim := { program := "ytdgbibnihpfidaagreatdoor", sum := "6a322f15b1bff6843bd7e38ff58fbd2a66d1ac0eb4189638e360d9e660cef750", func := "chandler/chandlerlaw15.PolicyNames", spec := "policyNames", inPlace := ["internal/bytealg.IndexByteString", "internal/bytealg.IndexString", "internal/abi.NoEscape", "internal/bytealg.MakeNoZero", "internal/bytealg.abigen_runtime_cmpstring"], unfollowed := true, recurses := true, named := ["internal/bytealg.MaxLen", "unicode/utf8.first", "unicode/utf8.acceptRanges"], apart := false, laid := [("unicode/utf8.acceptRanges", laid_unicode_utf8_acceptRanges), ("unicode/utf8.first", laid_unicode_utf8_first)], narrowed := true }
def PolicyNamesUptoSaid : Prop := policyNamesUptoRow.holds Tryz.pinned (OpenSpec.upto policyNamesSpec)

/-- 'chandlerlaw15.PolicyNil', WHERE WHAT IT READS IS OF BULK AT MOST 1048576: true; the input reads as it did. -/
def policyNilUptoRow : OpenClaim := { program := "ytdgbibnihpfidaagreatdoor", sum := "6a322f15b1bff6843bd7e38ff58fbd2a66d1ac0eb4189638e360d9e660cef750", func := "chandler/chandlerlaw15.PolicyNil", spec := "policyNil", inPlace := ["internal/bytealg.IndexByteString", "internal/bytealg.IndexString", "internal/abi.NoEscape", "internal/bytealg.MakeNoZero", "internal/bytealg.abigen_runtime_cmpstring"], unfollowed := true, recurses := true, named := ["internal/bytealg.MaxLen", "unicode/utf8.first", "unicode/utf8.acceptRanges"], apart := false, laid := [("unicode/utf8.acceptRanges", laid_unicode_utf8_acceptRanges), ("unicode/utf8.first", laid_unicode_utf8_first)], narrowed := true }
def PolicyNilUptoSaid : Prop := policyNilUptoRow.holds Tryz.pinned (OpenSpec.upto policyNilSpec)

/-- 'chandlerlaw16.RulesNames', WHERE WHAT IT READS IS OF BULK AT MOST 1048576: true; the input reads as it did. -/
def rulesNamesUptoRow : OpenClaim := { program := "ytdgbibnihpfidaagreatdoor", sum := "6a322f15b1bff6843bd7e38ff58fbd2a66d1ac0eb4189638e360d9e660cef750", func := "chandler/chandlerlaw16.RulesNames", spec := "rulesNames", inPlace := ["internal/bytealg.IndexByteString", "internal/bytealg.IndexString", "internal/abi.NoEscape", "internal/bytealg.MakeNoZero", "internal/bytealg.abigen_runtime_cmpstring"], unfollowed := true, recurses := true, named := ["internal/bytealg.MaxLen", "unicode/utf8.first", "unicode/utf8.acceptRanges"], apart := false, laid := [("unicode/utf8.acceptRanges", laid_unicode_utf8_acceptRanges), ("unicode/utf8.first", laid_unicode_utf8_first)], narrowed := true }
def RulesNamesUptoSaid : Prop := rulesNamesUptoRow.holds Tryz.pinned (OpenSpec.upto rulesNamesSpec)

/-- 'chandlerlaw16.RulesNil', WHERE WHAT IT READS IS OF BULK AT MOST 1048576: true; the input reads as it did. -/
def rulesNilUptoRow : OpenClaim := { program := "ytdgbibnihpfidaagreatdoor", sum := "6a322f15b1bff6843bd7e38ff58fbd2a66d1ac0eb4189638e360d9e660cef750", func := "chandler/chandlerlaw16.RulesNil", spec := "rulesNil", inPlace := ["internal/bytealg.IndexByteString", "internal/bytealg.IndexString", "internal/abi.NoEscape", "internal/bytealg.MakeNoZero", "internal/bytealg.abigen_runtime_cmpstring"], unfollowed := true, recurses := true, named := ["internal/bytealg.MaxLen", "unicode/utf8.first", "unicode/utf8.acceptRanges"], apart := false, laid := [("unicode/utf8.acceptRanges", laid_unicode_utf8_acceptRanges), ("unicode/utf8.first", laid_unicode_utf8_first)], narrowed := true }
def RulesNilUptoSaid : Prop := rulesNilUptoRow.holds Tryz.pinned (OpenSpec.upto rulesNilSpec)

/-- 'chandlerlaw19.ProblemNames', WHERE WHAT IT READS IS OF BULK AT MOST 1048576: true; the input reads as it did. -/
def problemNamesUptoRow : OpenClaim := { program := "ytdgbibnihpfidaagreatdoor", sum := "6a322f15b1bff6843bd7e38ff58fbd2a66d1ac0eb4189638e360d9e660cef750", func := "chandler/chandlerlaw19.ProblemNames", spec := "problemNames", inPlace := ["internal/bytealg.IndexByteString", "internal/bytealg.IndexString", "internal/abi.NoEscape", "internal/bytealg.MakeNoZero", "internal/bytealg.abigen_runtime_cmpstring"], unfollowed := true, recurses := true, named := ["internal/bytealg.MaxLen", "unicode/utf8.first", "unicode/utf8.acceptRanges"], apart := false, laid := [("unicode/utf8.acceptRanges", laid_unicode_utf8_acceptRanges), ("unicode/utf8.first", laid_unicode_utf8_first)], narrowed := true }
def ProblemNamesUptoSaid : Prop := problemNamesUptoRow.holds Tryz.pinned (OpenSpec.upto problemNamesSpec)

/-- 'chandlerlaw19.ProblemNil', WHERE WHAT IT READS IS OF BULK AT MOST 1048576: true; the input reads as it did. -/
def problemNilUptoRow : OpenClaim := { program := "ytdgbibnihpfidaagreatdoor", sum := "6a322f15b1bff6843bd7e38ff58fbd2a66d1ac0eb4189638e360d9e660cef750", func := "chandler/chandlerlaw19.ProblemNil", spec := "problemNil", inPlace := ["internal/bytealg.IndexByteString", "internal/bytealg.IndexString", "internal/abi.NoEscape", "internal/bytealg.MakeNoZero", "internal/bytealg.abigen_runtime_cmpstring"], unfollowed := true, recurses := true, named := ["internal/bytealg.MaxLen", "unicode/utf8.first", "unicode/utf8.acceptRanges"], apart := false, laid := [("unicode/utf8.acceptRanges", laid_unicode_utf8_acceptRanges), ("unicode/utf8.first", laid_unicode_utf8_first)], narrowed := true }
def ProblemNilUptoSaid : Prop := problemNilUptoRow.holds Tryz.pinned (OpenSpec.upto problemNilSpec)

/-- 'chandlerlaw18.SolveNil', WHERE WHAT IT READS IS OF BULK AT MOST 1048576: true; the input reads as it did. -/
def solveNilUptoRow : OpenClaim := { program := "ytdgbibnihpfidaagreatdoor", sum := "6a322f15b1bff6843bd7e38ff58fbd2a66d1ac0eb4189638e360d9e660cef750", func := "chandler/chandlerlaw18.SolveNil", spec := "solveNil", inPlace := ["internal/bytealg.IndexByteString", "internal/bytealg.IndexString", "internal/abi.NoEscape", "internal/bytealg.MakeNoZero", "internal/bytealg.abigen_runtime_cmpstring"], unfollowed := true, recurses := true, named := ["internal/bytealg.MaxLen", "unicode/utf8.first", "unicode/utf8.acceptRanges"], apart := false, laid := [("unicode/utf8.acceptRanges", laid_unicode_utf8_acceptRanges), ("unicode/utf8.first", laid_unicode_utf8_first)], narrowed := true }
def SolveNilUptoSaid : Prop := solveNilUptoRow.holds Tryz.pinned (OpenSpec.upto solveNilSpec)

end Rows
end Go.Proofs.YtdgbibnihpfidaaGreatDoor
