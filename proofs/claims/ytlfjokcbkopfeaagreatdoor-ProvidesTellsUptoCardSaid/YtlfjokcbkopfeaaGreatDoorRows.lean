/-
  NARROWER THAN 'FOR EVERY INPUT', by the rows' own cells (each row's printed sentence says how): ProvidesTells: loops, laid · ProvidesParts: loops, laid · DiffTells: loops, laid · DiffLeads: loops, laid · DiffSame: loops, laid.
  DERIVED. THE GIVEN ROWS OF THIS SEAT. 5 by the template 'for every input the law returns true; each argument reads behind the call as it read before'; 0 by the template 'total and deterministic' (their statements: YtlfjokcbkopfeaaGreatDoorTotals.lean).
  GIVEN WITH THE SEED: the statements are not yours to turn. If you find one false, say at which input.
  Laid BY PROGRAM, IN A SANDBOX (cutbox-rows.mjs): the forced cells as the released guide's own fill.sh prints them over the translation 3c0bd472601d68be… (all of the seat's roots in one cut). By AI agents, Wed Nov 11 2026. No macro, syntax, notation, axiom, sorry.
-/
import Derived.Test.YtlfjokcbkopfeaaGreatDoorChecked
import GoSem.PinnedTables
import GoSem.Claim
import GoSem.ClaimJoined
import GoSem.ClaimMapViews
import Derived.JoinedTies
import Derived.KernelRfl
namespace Go.Proofs.YtlfjokcbkopfeaaGreatDoor
/- THE CELL 'sum', in the pinned program and in every row, IS THE sha256 OF THE DUMP (.gsa) THAT YtlfjokcbkopfeaaGreatDoorProg.lean LOADS. Nothing in Lean hashes anything: it is a label: what it is worth is what the hold of that sum in a sandbox is worth. -/
noncomputable def Tryz.pinned : Pinned := { name := "ytlfjokcbkopfeaagreatdoor", sum := "3c0bd472601d68be53eecb4c61bae01fa21e19f5c86c0d055ed5b0fb87cdbdf0", checked := Tryz.checked }
namespace Rows
def none {H : Type} : Left H := { results := [], args := [] }

/- WHAT THE LISTED PACKAGE-LEVEL VARIABLES READ AS WHEN THE CALL BEGINS. Each datum BY PROGRAM (the guide's laid-datum.mjs) off the statement by which the dump's own 'gosem.cut.vars' lays the variable. In a bare row this is a premise. The card (YtlfjokcbkopfeaaGreatDoorCards.lean) ties it to the program's text. -/
def laid_unicode_utf8_acceptRanges {H : Type} : DataW H := .agg [.agg [.lit (.int .u8 128), .lit (.int .u8 191)], .agg [.lit (.int .u8 160), .lit (.int .u8 191)], .agg [.lit (.int .u8 128), .lit (.int .u8 159)], .agg [.lit (.int .u8 144), .lit (.int .u8 191)], .agg [.lit (.int .u8 128), .lit (.int .u8 143)], .agg [.lit (.int .u8 0), .lit (.int .u8 0)], .agg [.lit (.int .u8 0), .lit (.int .u8 0)], .agg [.lit (.int .u8 0), .lit (.int .u8 0)], .agg [.lit (.int .u8 0), .lit (.int .u8 0)], .agg [.lit (.int .u8 0), .lit (.int .u8 0)], .agg [.lit (.int .u8 0), .lit (.int .u8 0)], .agg [.lit (.int .u8 0), .lit (.int .u8 0)], .agg [.lit (.int .u8 0), .lit (.int .u8 0)], .agg [.lit (.int .u8 0), .lit (.int .u8 0)], .agg [.lit (.int .u8 0), .lit (.int .u8 0)], .agg [.lit (.int .u8 0), .lit (.int .u8 0)]]
/-- One of Go's own tables, pinned by name: the form's constant. -/
def laid_unicode_utf8_first : DataW Unit := Go.Pinned.utf8First

/-- 'chandlerlaw07.ProvidesTells': WHATEVER THE INPUT: true; the input reads as it did. -/
def providesTellsSpec : ChangeSpec := { name := "providesTells", fn := fun _ => fun
  | [d1, d2, d3, d4] => { results := [.lit (.bool true)], args := [d1, d2, d3, d4] }
  | _ => none }
def providesTellsRow : OpenClaim := { program := "ytlfjokcbkopfeaagreatdoor", sum := "3c0bd472601d68be53eecb4c61bae01fa21e19f5c86c0d055ed5b0fb87cdbdf0", func := "chandler/chandlerlaw07.ProvidesTells", spec := "providesTells", inPlace := ["internal/bytealg.IndexByteString", "internal/bytealg.IndexString", "internal/bytealg.abigen_runtime_cmpstring"], unfollowed := true, recurses := true, named := ["internal/bytealg.MaxLen", "unicode/utf8.first", "unicode/utf8.acceptRanges"], loops := true, apart := false, laid := [("unicode/utf8.acceptRanges", laid_unicode_utf8_acceptRanges), ("unicode/utf8.first", laid_unicode_utf8_first)] }
def ProvidesTellsSaid : Prop := providesTellsRow.holds Tryz.pinned (OpenSpec.ofChange providesTellsSpec)

/-- ITS FALSE NEIGHBOUR: 'it returns false'. Refute it at one input. -/
def providesTellsWrong : ChangeSpec := { name := "providesTells", fn := fun _ => fun
  | [d1, d2, d3, d4] => { results := [.lit (.bool false)], args := [d1, d2, d3, d4] }
  | _ => none }
def ProvidesTellsWrongFalsely : Prop := providesTellsRow.holds Tryz.pinned (OpenSpec.ofChange providesTellsWrong)

/-- 'chandlerlaw07.ProvidesParts': WHATEVER THE INPUT: true; the input reads as it did. -/
def providesPartsSpec : ChangeSpec := { name := "providesParts", fn := fun _ => fun
  | [d1, d2, d3, d4] => { results := [.lit (.bool true)], args := [d1, d2, d3, d4] }
  | _ => none }
def providesPartsRow : OpenClaim := { program := "ytlfjokcbkopfeaagreatdoor", sum := "3c0bd472601d68be53eecb4c61bae01fa21e19f5c86c0d055ed5b0fb87cdbdf0", func := "chandler/chandlerlaw07.ProvidesParts", spec := "providesParts", inPlace := ["internal/bytealg.IndexByteString", "internal/bytealg.IndexString", "internal/bytealg.abigen_runtime_cmpstring"], unfollowed := true, recurses := true, named := ["internal/bytealg.MaxLen", "unicode/utf8.first", "unicode/utf8.acceptRanges"], loops := true, apart := false, laid := [("unicode/utf8.acceptRanges", laid_unicode_utf8_acceptRanges), ("unicode/utf8.first", laid_unicode_utf8_first)] }
def ProvidesPartsSaid : Prop := providesPartsRow.holds Tryz.pinned (OpenSpec.ofChange providesPartsSpec)

/-- ITS FALSE NEIGHBOUR: 'it returns false'. Refute it at one input. -/
def providesPartsWrong : ChangeSpec := { name := "providesParts", fn := fun _ => fun
  | [d1, d2, d3, d4] => { results := [.lit (.bool false)], args := [d1, d2, d3, d4] }
  | _ => none }
def ProvidesPartsWrongFalsely : Prop := providesPartsRow.holds Tryz.pinned (OpenSpec.ofChange providesPartsWrong)

/-- 'chandlerlaw20.DiffTells': WHATEVER THE INPUT: true; the input reads as it did. -/
def diffTellsSpec : ChangeSpec := { name := "diffTells", fn := fun _ => fun
  | [d1, d2, d3, d4, d5] => { results := [.lit (.bool true)], args := [d1, d2, d3, d4, d5] }
  | _ => none }
def diffTellsRow : OpenClaim := { program := "ytlfjokcbkopfeaagreatdoor", sum := "3c0bd472601d68be53eecb4c61bae01fa21e19f5c86c0d055ed5b0fb87cdbdf0", func := "chandler/chandlerlaw20.DiffTells", spec := "diffTells", inPlace := ["internal/bytealg.IndexByteString", "internal/bytealg.IndexString", "internal/bytealg.abigen_runtime_cmpstring"], unfollowed := true, recurses := true, named := ["internal/bytealg.MaxLen", "unicode/utf8.first", "unicode/utf8.acceptRanges"], loops := true, apart := false, laid := [("unicode/utf8.acceptRanges", laid_unicode_utf8_acceptRanges), ("unicode/utf8.first", laid_unicode_utf8_first)] }
def DiffTellsSaid : Prop := diffTellsRow.holds Tryz.pinned (OpenSpec.ofChange diffTellsSpec)

/-- ITS FALSE NEIGHBOUR: 'it returns false'. Refute it at one input. -/
def diffTellsWrong : ChangeSpec := { name := "diffTells", fn := fun _ => fun
  | [d1, d2, d3, d4, d5] => { results := [.lit (.bool false)], args := [d1, d2, d3, d4, d5] }
  | _ => none }
def DiffTellsWrongFalsely : Prop := diffTellsRow.holds Tryz.pinned (OpenSpec.ofChange diffTellsWrong)

/-- 'chandlerlaw20.DiffLeads': WHATEVER THE INPUT: true; the input reads as it did. -/
def diffLeadsSpec : ChangeSpec := { name := "diffLeads", fn := fun _ => fun
  | [d1, d2, d3, d4] => { results := [.lit (.bool true)], args := [d1, d2, d3, d4] }
  | _ => none }
def diffLeadsRow : OpenClaim := { program := "ytlfjokcbkopfeaagreatdoor", sum := "3c0bd472601d68be53eecb4c61bae01fa21e19f5c86c0d055ed5b0fb87cdbdf0", func := "chandler/chandlerlaw20.DiffLeads", spec := "diffLeads", inPlace := ["internal/bytealg.IndexByteString", "internal/bytealg.IndexString", "internal/bytealg.abigen_runtime_cmpstring"], unfollowed := true, recurses := true, named := ["internal/bytealg.MaxLen", "unicode/utf8.first", "unicode/utf8.acceptRanges"], loops := true, apart := false, laid := [("unicode/utf8.acceptRanges", laid_unicode_utf8_acceptRanges), ("unicode/utf8.first", laid_unicode_utf8_first)] }
def DiffLeadsSaid : Prop := diffLeadsRow.holds Tryz.pinned (OpenSpec.ofChange diffLeadsSpec)

/-- ITS FALSE NEIGHBOUR: 'it returns false'. Refute it at one input. -/
def diffLeadsWrong : ChangeSpec := { name := "diffLeads", fn := fun _ => fun
  | [d1, d2, d3, d4] => { results := [.lit (.bool false)], args := [d1, d2, d3, d4] }
  | _ => none }
def DiffLeadsWrongFalsely : Prop := diffLeadsRow.holds Tryz.pinned (OpenSpec.ofChange diffLeadsWrong)

/-- 'chandlerlaw20.DiffSame': WHATEVER THE INPUT: true; the input reads as it did. -/
def diffSameSpec : ChangeSpec := { name := "diffSame", fn := fun _ => fun
  | [d1, d2, d3] => { results := [.lit (.bool true)], args := [d1, d2, d3] }
  | _ => none }
def diffSameRow : OpenClaim := { program := "ytlfjokcbkopfeaagreatdoor", sum := "3c0bd472601d68be53eecb4c61bae01fa21e19f5c86c0d055ed5b0fb87cdbdf0", func := "chandler/chandlerlaw20.DiffSame", spec := "diffSame", inPlace := ["internal/bytealg.IndexByteString", "internal/bytealg.IndexString", "internal/bytealg.abigen_runtime_cmpstring"], unfollowed := true, recurses := true, named := ["internal/bytealg.MaxLen", "unicode/utf8.first", "unicode/utf8.acceptRanges"], loops := true, apart := false, laid := [("unicode/utf8.acceptRanges", laid_unicode_utf8_acceptRanges), ("unicode/utf8.first", laid_unicode_utf8_first)] }
def DiffSameSaid : Prop := diffSameRow.holds Tryz.pinned (OpenSpec.ofChange diffSameSpec)

/-- ITS FALSE NEIGHBOUR: 'it returns false'. Refute it at one input. -/
def diffSameWrong : ChangeSpec := { name := "diffSame", fn := fun _ => fun
  | [d1, d2, d3] => { results := [.lit (.bool false)], args := [d1, d2, d3] }
  | _ => none }
def DiffSameWrongFalsely : Prop := diffSameRow.holds Tryz.pinned (OpenSpec.ofChange diffSameWrong)

/- THE SECOND FORM. 'bulk': how many values and letters a reading holds, each counted each time it is reached (what is shared counts as often as it is met; a slice's spare places count too). A statement '..UptoSaid' is the law's where the arguments, and the package variables that the reading takes, are together of bulk at most 1048576: NARROWER than '..Said'. Prove '..Said' where nothing that the law and all that it calls make is longer than what came in: it says more and counts as full. Else prove '..UptoSaid'. A law counts once. -/
mutual
def uptoBulk {H : Type} : DataW H → Nat
  | .lit (.string bytes) => bytes.length + 1
  | .lit _ => 1
  | .nil => 1
  | .ptr d => uptoBulk d + 1
  | .slice elems spare => uptoBulkAll elems + uptoBulkAll spare + 1
  | .agg parts => uptoBulkAll parts + 1
  | .iface _ d => uptoBulk d + 1
  | .map entries => uptoBulkEntries entries + 1
  | .held _ => 1
def uptoBulkAll {H : Type} : List (DataW H) → Nat
  | [] => 0
  | d :: r => uptoBulk d + uptoBulkAll r
def uptoBulkEntries {H : Type} : List (Lit × DataW H) → Nat
  | [] => 0
  | x :: r => uptoBulkEntry x + uptoBulkEntries r
def uptoBulkEntry {H : Type} : Lit × DataW H → Nat
  | (.string bytes, d) => bytes.length + uptoBulk d + 1
  | (_, d) => uptoBulk d + 1
 end
def uptoSmall : (H : Type) → List (DataW H) → Bool := fun _ ds => decide (uptoBulkAll ds ≤ 1048576)
def OpenSpec.upto (s : _root_.Go.ChangeSpec) : _root_.Go.OpenSpec := { _root_.Go.OpenSpec.ofChange s with cond := some uptoSmall }

/-- 'chandlerlaw07.ProvidesTells', WHERE WHAT IT READS IS OF BULK AT MOST 1048576: true; the input reads as it did. -/
def providesTellsUptoRow : OpenClaim := { program := "ytlfjokcbkopfeaagreatdoor", sum := "3c0bd472601d68be53eecb4c61bae01fa21e19f5c86c0d055ed5b0fb87cdbdf0", func := "chandler/chandlerlaw07.ProvidesTells", spec := "providesTells", inPlace := ["internal/bytealg.IndexByteString", "internal/bytealg.IndexString", "internal/bytealg.abigen_runtime_cmpstring"], unfollowed := true, recurses := true, named := ["internal/bytealg.MaxLen", "unicode/utf8.first", "unicode/utf8.acceptRanges"], loops := true, apart := false, laid := [("unicode/utf8.acceptRanges", laid_unicode_utf8_acceptRanges), ("unicode/utf8.first", laid_unicode_utf8_first)], narrowed := true }
def ProvidesTellsUptoSaid : Prop := providesTellsUptoRow.holds Tryz.pinned (OpenSpec.upto providesTellsSpec)

/-- 'chandlerlaw07.ProvidesParts', WHERE WHAT IT READS IS OF BULK AT MOST 1048576: true; the input reads as it did. -/
def providesPartsUptoRow : OpenClaim := { program := "ytlfjokcbkopfeaagreatdoor", sum := "3c0bd472601d68be53eecb4c61bae01fa21e19f5c86c0d055ed5b0fb87cdbdf0", func := "chandler/chandlerlaw07.ProvidesParts", spec := "providesParts", inPlace := ["internal/bytealg.IndexByteString", "internal/bytealg.IndexString", "internal/bytealg.abigen_runtime_cmpstring"], unfollowed := true, recurses := true, named := ["internal/bytealg.MaxLen", "unicode/utf8.first", "unicode/utf8.acceptRanges"], loops := true, apart := false, laid := [("unicode/utf8.acceptRanges", laid_unicode_utf8_acceptRanges), ("unicode/utf8.first", laid_unicode_utf8_first)], narrowed := true }
def ProvidesPartsUptoSaid : Prop := providesPartsUptoRow.holds Tryz.pinned (OpenSpec.upto providesPartsSpec)

/-- 'chandlerlaw20.DiffTells', WHERE WHAT IT READS IS OF BULK AT MOST 1048576: true; the input reads as it did. -/
def diffTellsUptoRow : OpenClaim := { program := "ytlfjokcbkopfeaagreatdoor", sum := "3c0bd472601d68be53eecb4c61bae01fa21e19f5c86c0d055ed5b0fb87cdbdf0", func := "chandler/chandlerlaw20.DiffTells", spec := "diffTells", inPlace := ["internal/bytealg.IndexByteString", "internal/bytealg.IndexString", "internal/bytealg.abigen_runtime_cmpstring"], unfollowed := true, recurses := true, named := ["internal/bytealg.MaxLen", "unicode/utf8.first", "unicode/utf8.acceptRanges"], loops := true, apart := false, laid := [("unicode/utf8.acceptRanges", laid_unicode_utf8_acceptRanges), ("unicode/utf8.first", laid_unicode_utf8_first)], narrowed := true }
def DiffTellsUptoSaid : Prop := diffTellsUptoRow.holds Tryz.pinned (OpenSpec.upto diffTellsSpec)

/-- 'chandlerlaw20.DiffLeads', WHERE WHAT IT READS IS OF BULK AT MOST 1048576: true; the input reads as it did. -/
def diffLeadsUptoRow : OpenClaim := { program := "ytlfjokcbkopfeaagreatdoor", sum := "3c0bd472601d68be53eecb4c61bae01fa21e19f5c86c0d055ed5b0fb87cdbdf0", func := "chandler/chandlerlaw20.DiffLeads", spec := "diffLeads", inPlace := ["internal/bytealg.IndexByteString", "internal/bytealg.IndexString", "internal/bytealg.abigen_runtime_cmpstring"], unfollowed := true, recurses := true, named := ["internal/bytealg.MaxLen", "unicode/utf8.first", "unicode/utf8.acceptRanges"], loops := true, apart := false, laid := [("unicode/utf8.acceptRanges", laid_unicode_utf8_acceptRanges), ("unicode/utf8.first", laid_unicode_utf8_first)], narrowed := true }
def DiffLeadsUptoSaid : Prop := diffLeadsUptoRow.holds Tryz.pinned (OpenSpec.upto diffLeadsSpec)

/-- 'chandlerlaw20.DiffSame', WHERE WHAT IT READS IS OF BULK AT MOST 1048576: true; the input reads as it did. -/
def diffSameUptoRow : OpenClaim := { program := "ytlfjokcbkopfeaagreatdoor", sum := "3c0bd472601d68be53eecb4c61bae01fa21e19f5c86c0d055ed5b0fb87cdbdf0", func := "chandler/chandlerlaw20.DiffSame", spec := "diffSame", inPlace := ["internal/bytealg.IndexByteString", "internal/bytealg.IndexString", "internal/bytealg.abigen_runtime_cmpstring"], unfollowed := true, recurses := true, named := ["internal/bytealg.MaxLen", "unicode/utf8.first", "unicode/utf8.acceptRanges"], loops := true, apart := false, laid := [("unicode/utf8.acceptRanges", laid_unicode_utf8_acceptRanges), ("unicode/utf8.first", laid_unicode_utf8_first)], narrowed := true }
def DiffSameUptoSaid : Prop := diffSameUptoRow.holds Tryz.pinned (OpenSpec.upto diffSameSpec)

end Rows
end Go.Proofs.YtlfjokcbkopfeaaGreatDoor
