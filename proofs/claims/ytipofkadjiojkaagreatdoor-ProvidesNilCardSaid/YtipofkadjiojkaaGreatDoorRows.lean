/-
  NARROWER THAN 'FOR EVERY INPUT', by the rows' own cells (each row's printed sentence says how): ProvidesNames: laid · ProvidesNil: loops, laid · JobsNil: laid · DiffNames: laid · DiffNil: laid · OrderNil: laid.
  DERIVED. THE GIVEN ROWS OF THIS SEAT. 6 by the template 'for every input the law returns true; each argument reads behind the call as it read before'; 0 by the template 'total and deterministic' (their statements: YtipofkadjiojkaaGreatDoorTotals.lean).
  GIVEN WITH THE SEED: the statements are not yours to turn. If you find one false, say at which input.
  Laid BY PROGRAM, IN A SANDBOX (cutbox-rows.mjs): the forced cells as the released guide's own fill.sh prints them over the translation 904a7f565fbf97c3… (all of the seat's roots in one cut). By AI agents, Wed Nov 11 2026. No macro, syntax, notation, axiom, sorry.
-/
import Derived.Test.YtipofkadjiojkaaGreatDoorChecked
import GoSem.PinnedTables
import GoSem.Claim
import GoSem.ClaimJoined
import GoSem.ClaimMapViews
import Derived.JoinedTies
import Derived.KernelRfl
namespace Go.Proofs.YtipofkadjiojkaaGreatDoor
/- THE CELL 'sum', in the pinned program and in every row, IS THE sha256 OF THE DUMP (.gsa) THAT YtipofkadjiojkaaGreatDoorProg.lean LOADS. Nothing in Lean hashes anything: it is a label: what it is worth is what the hold of that sum in a sandbox is worth. -/
noncomputable def Tryz.pinned : Pinned := { name := "ytipofkadjiojkaagreatdoor", sum := "904a7f565fbf97c3e57db00e351aa4d1c1c563779de2da8f663a09965f4c7285", checked := Tryz.checked }
namespace Rows
def none {H : Type} : Left H := { results := [], args := [] }

/- WHAT THE LISTED PACKAGE-LEVEL VARIABLES READ AS WHEN THE CALL BEGINS. Each datum BY PROGRAM (the guide's laid-datum.mjs) off the statement by which the dump's own 'gosem.cut.vars' lays the variable. In a bare row this is a premise. The card (YtipofkadjiojkaaGreatDoorCards.lean) ties it to the program's text. -/
def laid_unicode_utf8_acceptRanges {H : Type} : DataW H := .agg [.agg [.lit (.int .u8 128), .lit (.int .u8 191)], .agg [.lit (.int .u8 160), .lit (.int .u8 191)], .agg [.lit (.int .u8 128), .lit (.int .u8 159)], .agg [.lit (.int .u8 144), .lit (.int .u8 191)], .agg [.lit (.int .u8 128), .lit (.int .u8 143)], .agg [.lit (.int .u8 0), .lit (.int .u8 0)], .agg [.lit (.int .u8 0), .lit (.int .u8 0)], .agg [.lit (.int .u8 0), .lit (.int .u8 0)], .agg [.lit (.int .u8 0), .lit (.int .u8 0)], .agg [.lit (.int .u8 0), .lit (.int .u8 0)], .agg [.lit (.int .u8 0), .lit (.int .u8 0)], .agg [.lit (.int .u8 0), .lit (.int .u8 0)], .agg [.lit (.int .u8 0), .lit (.int .u8 0)], .agg [.lit (.int .u8 0), .lit (.int .u8 0)], .agg [.lit (.int .u8 0), .lit (.int .u8 0)], .agg [.lit (.int .u8 0), .lit (.int .u8 0)]]
/-- One of Go's own tables, pinned by name: the form's constant. -/
def laid_unicode_utf8_first : DataW Unit := Go.Pinned.utf8First

/-- 'chandlerlaw07.ProvidesNames': WHATEVER THE INPUT: true; the input reads as it did. -/
def providesNamesSpec : ChangeSpec := { name := "providesNames", fn := fun _ => fun
  | [] => { results := [.lit (.bool true)], args := [] }
  | _ => none }
def providesNamesRow : OpenClaim := { program := "ytipofkadjiojkaagreatdoor", sum := "904a7f565fbf97c3e57db00e351aa4d1c1c563779de2da8f663a09965f4c7285", func := "chandler/chandlerlaw07.ProvidesNames", spec := "providesNames", inPlace := ["internal/bytealg.IndexByteString", "internal/bytealg.IndexString", "internal/bytealg.abigen_runtime_cmpstring"], unfollowed := true, recurses := true, named := ["internal/bytealg.MaxLen", "unicode/utf8.first", "unicode/utf8.acceptRanges"], apart := false, laid := [("unicode/utf8.acceptRanges", laid_unicode_utf8_acceptRanges), ("unicode/utf8.first", laid_unicode_utf8_first)] }
def ProvidesNamesSaid : Prop := providesNamesRow.holds Tryz.pinned (OpenSpec.ofChange providesNamesSpec)

/-- ITS FALSE NEIGHBOUR: 'it returns false'. Refute it at one input. -/
def providesNamesWrong : ChangeSpec := { name := "providesNames", fn := fun _ => fun
  | [] => { results := [.lit (.bool false)], args := [] }
  | _ => none }
def ProvidesNamesWrongFalsely : Prop := providesNamesRow.holds Tryz.pinned (OpenSpec.ofChange providesNamesWrong)

/-- 'chandlerlaw07.ProvidesNil': WHATEVER THE INPUT: true; the input reads as it did. -/
def providesNilSpec : ChangeSpec := { name := "providesNil", fn := fun _ => fun
  | [d1, d2] => { results := [.lit (.bool true)], args := [d1, d2] }
  | _ => none }
def providesNilRow : OpenClaim := { program := "ytipofkadjiojkaagreatdoor", sum := "904a7f565fbf97c3e57db00e351aa4d1c1c563779de2da8f663a09965f4c7285", func := "chandler/chandlerlaw07.ProvidesNil", spec := "providesNil", inPlace := ["internal/bytealg.IndexByteString", "internal/bytealg.IndexString", "internal/bytealg.abigen_runtime_cmpstring"], unfollowed := true, recurses := true, named := ["internal/bytealg.MaxLen", "unicode/utf8.first", "unicode/utf8.acceptRanges"], loops := true, apart := false, laid := [("unicode/utf8.acceptRanges", laid_unicode_utf8_acceptRanges), ("unicode/utf8.first", laid_unicode_utf8_first)] }
def ProvidesNilSaid : Prop := providesNilRow.holds Tryz.pinned (OpenSpec.ofChange providesNilSpec)

/-- ITS FALSE NEIGHBOUR: 'it returns false'. Refute it at one input. -/
def providesNilWrong : ChangeSpec := { name := "providesNil", fn := fun _ => fun
  | [d1, d2] => { results := [.lit (.bool false)], args := [d1, d2] }
  | _ => none }
def ProvidesNilWrongFalsely : Prop := providesNilRow.holds Tryz.pinned (OpenSpec.ofChange providesNilWrong)

/-- 'chandlerlaw14.JobsNil': WHATEVER THE INPUT: true; the input reads as it did. -/
def jobsNilSpec : ChangeSpec := { name := "jobsNil", fn := fun _ => fun
  | [d] => { results := [.lit (.bool true)], args := [d] }
  | _ => none }
def jobsNilRow : OpenClaim := { program := "ytipofkadjiojkaagreatdoor", sum := "904a7f565fbf97c3e57db00e351aa4d1c1c563779de2da8f663a09965f4c7285", func := "chandler/chandlerlaw14.JobsNil", spec := "jobsNil", inPlace := ["internal/bytealg.CountString", "internal/bytealg.IndexByteString", "internal/bytealg.IndexString", "internal/abi.NoEscape", "internal/bytealg.MakeNoZero", "internal/bytealg.abigen_runtime_cmpstring"], unfollowed := true, recurses := true, named := ["unicode/utf8.first", "unicode/utf8.acceptRanges", "internal/bytealg.MaxLen"], apart := false, laid := [("unicode/utf8.acceptRanges", laid_unicode_utf8_acceptRanges), ("unicode/utf8.first", laid_unicode_utf8_first)] }
def JobsNilSaid : Prop := jobsNilRow.holds Tryz.pinned (OpenSpec.ofChange jobsNilSpec)

/-- ITS FALSE NEIGHBOUR: 'it returns false'. Refute it at one input. -/
def jobsNilWrong : ChangeSpec := { name := "jobsNil", fn := fun _ => fun
  | [d] => { results := [.lit (.bool false)], args := [d] }
  | _ => none }
def JobsNilWrongFalsely : Prop := jobsNilRow.holds Tryz.pinned (OpenSpec.ofChange jobsNilWrong)

/-- 'chandlerlaw20.DiffNames': WHATEVER THE INPUT: true; the input reads as it did. -/
def diffNamesSpec : ChangeSpec := { name := "diffNames", fn := fun _ => fun
  | [] => { results := [.lit (.bool true)], args := [] }
  | _ => none }
def diffNamesRow : OpenClaim := { program := "ytipofkadjiojkaagreatdoor", sum := "904a7f565fbf97c3e57db00e351aa4d1c1c563779de2da8f663a09965f4c7285", func := "chandler/chandlerlaw20.DiffNames", spec := "diffNames", inPlace := ["internal/bytealg.IndexByteString", "internal/bytealg.IndexString", "internal/bytealg.abigen_runtime_cmpstring"], unfollowed := true, recurses := true, named := ["internal/bytealg.MaxLen", "unicode/utf8.first", "unicode/utf8.acceptRanges"], apart := false, laid := [("unicode/utf8.acceptRanges", laid_unicode_utf8_acceptRanges), ("unicode/utf8.first", laid_unicode_utf8_first)] }
def DiffNamesSaid : Prop := diffNamesRow.holds Tryz.pinned (OpenSpec.ofChange diffNamesSpec)

/-- ITS FALSE NEIGHBOUR: 'it returns false'. Refute it at one input. -/
def diffNamesWrong : ChangeSpec := { name := "diffNames", fn := fun _ => fun
  | [] => { results := [.lit (.bool false)], args := [] }
  | _ => none }
def DiffNamesWrongFalsely : Prop := diffNamesRow.holds Tryz.pinned (OpenSpec.ofChange diffNamesWrong)

/-- 'chandlerlaw20.DiffNil': WHATEVER THE INPUT: true; the input reads as it did. -/
def diffNilSpec : ChangeSpec := { name := "diffNil", fn := fun _ => fun
  | [d1, d2] => { results := [.lit (.bool true)], args := [d1, d2] }
  | _ => none }
def diffNilRow : OpenClaim := { program := "ytipofkadjiojkaagreatdoor", sum := "904a7f565fbf97c3e57db00e351aa4d1c1c563779de2da8f663a09965f4c7285", func := "chandler/chandlerlaw20.DiffNil", spec := "diffNil", inPlace := ["internal/bytealg.IndexByteString", "internal/bytealg.IndexString", "internal/bytealg.abigen_runtime_cmpstring"], unfollowed := true, recurses := true, named := ["internal/bytealg.MaxLen", "unicode/utf8.first", "unicode/utf8.acceptRanges"], apart := false, laid := [("unicode/utf8.acceptRanges", laid_unicode_utf8_acceptRanges), ("unicode/utf8.first", laid_unicode_utf8_first)] }
def DiffNilSaid : Prop := diffNilRow.holds Tryz.pinned (OpenSpec.ofChange diffNilSpec)

/-- ITS FALSE NEIGHBOUR: 'it returns false'. Refute it at one input. -/
def diffNilWrong : ChangeSpec := { name := "diffNil", fn := fun _ => fun
  | [d1, d2] => { results := [.lit (.bool false)], args := [d1, d2] }
  | _ => none }
def DiffNilWrongFalsely : Prop := diffNilRow.holds Tryz.pinned (OpenSpec.ofChange diffNilWrong)

/-- 'chandlerlaw21.OrderNil': WHATEVER THE INPUT: true; the input reads as it did. -/
def orderNilSpec : ChangeSpec := { name := "orderNil", fn := fun _ => fun
  | [d1, d2] => { results := [.lit (.bool true)], args := [d1, d2] }
  | _ => none }
def orderNilRow : OpenClaim := { program := "ytipofkadjiojkaagreatdoor", sum := "904a7f565fbf97c3e57db00e351aa4d1c1c563779de2da8f663a09965f4c7285", func := "chandler/chandlerlaw21.OrderNil", spec := "orderNil", inPlace := ["internal/bytealg.IndexByteString", "internal/bytealg.IndexString", "internal/bytealg.abigen_runtime_cmpstring"], unfollowed := true, recurses := true, named := ["internal/bytealg.MaxLen", "unicode/utf8.first", "unicode/utf8.acceptRanges"], apart := false, laid := [("unicode/utf8.acceptRanges", laid_unicode_utf8_acceptRanges), ("unicode/utf8.first", laid_unicode_utf8_first)] }
def OrderNilSaid : Prop := orderNilRow.holds Tryz.pinned (OpenSpec.ofChange orderNilSpec)

/-- ITS FALSE NEIGHBOUR: 'it returns false'. Refute it at one input. -/
def orderNilWrong : ChangeSpec := { name := "orderNil", fn := fun _ => fun
  | [d1, d2] => { results := [.lit (.bool false)], args := [d1, d2] }
  | _ => none }
def OrderNilWrongFalsely : Prop := orderNilRow.holds Tryz.pinned (OpenSpec.ofChange orderNilWrong)

/- THE SECOND FORM. 'bulk': how many values and letters a reading holds, each counted each time it is reached (what is shared counts as often as it is met; a slice's spare places count too). A statement '..UptoSaid' is the law's where the arguments, and the package variables that the reading takes, are together of bulk at most 1048576: NARROWER than '..Said'. Prove '..Said' where nothing that the law and all that it calls make is longer than what came in: it says more and counts as full. Else prove '..UptoSaid'. A law counts once. -/
mutual
def uptoBulk {H : Type} : DataW H → Nat
  | .lit (.string bytes) => bytes.length + 1
  | .lit _ => 1
  | .nil => 1
  | .ptr d => uptoBulk d + 1
  | .slice elems spare => uptoBulkAll elems + uptoBulkAll spare + 1
  | .agg parts => uptoBulkAll parts + 1
  | .iface _ d => uptoBulk d + 1
  | .map entries => uptoBulkEntries entries + 1
  | .held _ => 1
def uptoBulkAll {H : Type} : List (DataW H) → Nat
  | [] => 0
  | d :: r => uptoBulk d + uptoBulkAll r
def uptoBulkEntries {H : Type} : List (Lit × DataW H) → Nat
  | [] => 0
  | x :: r => uptoBulkEntry x + uptoBulkEntries r
def uptoBulkEntry {H : Type} : Lit × DataW H → Nat
  | (.string bytes, d) => bytes.length + uptoBulk d + 1
  | (_, d) => uptoBulk d + 1
 end
def uptoSmall : (H : Type) → List (DataW H) → Bool := fun _ ds => decide (uptoBulkAll ds ≤ 1048576)
def OpenSpec.upto (s : _root_.Go.ChangeSpec) : _root_.Go.OpenSpec := { _root_.Go.OpenSpec.ofChange s with cond := some uptoSmall }

/-- 'chandlerlaw07.ProvidesNames', WHERE WHAT IT READS IS OF BULK AT MOST 1048576: true; the input reads as it did. -/
def providesNamesUptoRow : OpenClaim := { program := "ytipofkadjiojkaagreatdoor", sum := "904a7f565fbf97c3e57db00e351aa4d1c1c563779de2da8f663a09965f4c7285", func := "chandler/chandlerlaw07.ProvidesNames", spec := "providesNames", inPlace := ["internal/bytealg.IndexByteString", "internal/bytealg.IndexString", "internal/bytealg.abigen_runtime_cmpstring"], unfollowed := true, recurses := true, named := ["internal/bytealg.MaxLen", "unicode/utf8.first", "unicode/utf8.acceptRanges"], apart := false, laid := [("unicode/utf8.acceptRanges", laid_unicode_utf8_acceptRanges), ("unicode/utf8.first", laid_unicode_utf8_first)], narrowed := true }
def ProvidesNamesUptoSaid : Prop := providesNamesUptoRow.holds Tryz.pinned (OpenSpec.upto providesNamesSpec)

/-- 'chandlerlaw07.ProvidesNil', WHERE WHAT IT READS IS OF BULK AT MOST 1048576: true; the input reads as it did. -/
def providesNilUptoRow : OpenClaim := { program := "ytipofkadjiojkaagreatdoor", sum := "904a7f565fbf97c3e57db00e351aa4d1c1c563779de2da8f663a09965f4c7285", func := "chandler/chandlerlaw07.ProvidesNil", spec := "providesNil", inPlace := ["internal/bytealg.IndexByteString", "internal/bytealg.IndexString", "internal/bytealg.abigen_runtime_cmpstring"], unfollowed := true, recurses := true, named := ["internal/bytealg.MaxLen", "unicode/utf8.first", "unicode/utf8.acceptRanges"], loops := true, apart := false, laid := [("unicode/utf8.acceptRanges", laid_unicode_utf8_acceptRanges), ("unicode/utf8.first", laid_unicode_utf8_first)], narrowed := true }
def ProvidesNilUptoSaid : Prop := providesNilUptoRow.holds Tryz.pinned (OpenSpec.upto providesNilSpec)

/-- 'chandlerlaw14.JobsNil', WHERE WHAT IT READS IS OF BULK AT MOST 1048576: true; the input reads as it did. -/
def jobsNilUptoRow : OpenClaim := { program := "ytipofkadjiojkaagreatdoor", sum := "904a7f565fbf97c3e57db00e351aa4d1c1c563779de2da8f663a09965f4c7285", func := "chandler/chandlerlaw14.JobsNil", spec := "jobsNil", inPlace := ["internal/bytealg.CountString", "internal/bytealg.IndexByteString", "internal/bytealg.IndexString", "internal/abi.NoEscape", "internal/bytealg.MakeNoZero", "internal/bytealg.abigen_runtime_cmpstring"], unfollowed := true, recurses := true, named := ["unicode/utf8.first", "unicode/utf8.acceptRanges", "internal/bytealg.MaxLen"], apart := false, laid := [("unicode/utf8.acceptRanges", laid_unicode_utf8_acceptRanges), ("unicode/utf8.first", laid_unicode_utf8_first)], narrowed := true }
def JobsNilUptoSaid : Prop := jobsNilUptoRow.holds Tryz.pinned (OpenSpec.upto jobsNilSpec)

/-- 'chandlerlaw20.DiffNames', WHERE WHAT IT READS IS OF BULK AT MOST 1048576: true; the input reads as it did. -/
def diffNamesUptoRow : OpenClaim := { program := "ytipofkadjiojkaagreatdoor", sum := "904a7f565fbf97c3e57db00e351aa4d1c1c563779de2da8f663a09965f4c7285", func := "chandler/chandlerlaw20.DiffNames", spec := "diffNames", inPlace := ["internal/bytealg.IndexByteString", "internal/bytealg.IndexString", "internal/bytealg.abigen_runtime_cmpstring"], unfollowed := true, recurses := true, named := ["internal/bytealg.MaxLen", "unicode/utf8.first", "unicode/utf8.acceptRanges"], apart := false, laid := [("unicode/utf8.acceptRanges", laid_unicode_utf8_acceptRanges), ("unicode/utf8.first", laid_unicode_utf8_first)], narrowed := true }
def DiffNamesUptoSaid : Prop := diffNamesUptoRow.holds Tryz.pinned (OpenSpec.upto diffNamesSpec)

/-- 'chandlerlaw20.DiffNil', WHERE WHAT IT READS IS OF BULK AT MOST 1048576: true; the input reads as it did. -/
def diffNilUptoRow : OpenClaim := { program := "ytipofkadjiojkaagreatdoor", sum := "904a7f565fbf97c3e57db00e351aa4d1c1c563779de2da8f663a09965f4c7285", func := "chandler/chandlerlaw20.DiffNil", spec := "diffNil", inPlace := ["internal/bytealg.IndexByteString", "internal/bytealg.IndexString", "internal/bytealg.abigen_runtime_cmpstring"], unfollowed := true, recurses := true, named := ["internal/bytealg.MaxLen", "unicode/utf8.first", "unicode/utf8.acceptRanges"], apart := false, laid := [("unicode/utf8.acceptRanges", laid_unicode_utf8_acceptRanges), ("unicode/utf8.first", laid_unicode_utf8_first)], narrowed := true }
def DiffNilUptoSaid : Prop := diffNilUptoRow.holds Tryz.pinned (OpenSpec.upto diffNilSpec)

/-- 'chandlerlaw21.OrderNil', WHERE WHAT IT READS IS OF BULK AT MOST 1048576: true; the input reads as it did. -/
def orderNilUptoRow : OpenClaim := { program := "ytipofkadjiojkaagreatdoor", sum := "904a7f565fbf97c3e57db00e351aa4d1c1c563779de2da8f663a09965f4c7285", func := "chandler/chandlerlaw21.OrderNil", spec := "orderNil", inPlace := ["internal/bytealg.IndexByteString", "internal/bytealg.IndexString", "internal/bytealg.abigen_runtime_cmpstring"], unfollowed := true, recurses := true, named := ["internal/bytealg.MaxLen", "unicode/utf8.first", "unicode/utf8.acceptRanges"], apart := false, laid := [("unicode/utf8.acceptRanges", laid_unicode_utf8_acceptRanges), ("unicode/utf8.first", laid_unicode_utf8_first)], narrowed := true }
def OrderNilUptoSaid : Prop := orderNilUptoRow.holds Tryz.pinned (OpenSpec.upto orderNilSpec)

end Rows
end Go.Proofs.YtipofkadjiojkaaGreatDoor
