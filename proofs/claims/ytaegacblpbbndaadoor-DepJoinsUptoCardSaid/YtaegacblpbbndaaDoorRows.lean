/-
  NARROWER THAN 'FOR EVERY INPUT', by the rows' own cells (each row's printed sentence says how): DepNames: laid · DepReads: laid · DepBack: loops, laid · DepJoins: loops, laid.
  DERIVED. THE GIVEN ROWS OF THIS SEAT. 4 by the template 'for every input the law returns true; each argument reads behind the call as it read before'; 0 by the template 'total and deterministic' (their statements: YtaegacblpbbndaaDoorTotals.lean).
  GIVEN WITH THE SEED: the statements are not yours to turn. If you find one false, say at which input.
  Laid BY PROGRAM, IN A SANDBOX (cutbox-rows.mjs): the forced cells as the released guide's own fill.sh prints them over the translation 7078df0c2ca26964… (all of the seat's roots in one cut). By AI agents, Wed Nov 11 2026. No macro, syntax, notation, axiom, sorry.
-/
import Derived.Test.YtaegacblpbbndaaDoorChecked
import GoSem.PinnedTables
import GoSem.Claim
import GoSem.ClaimJoined
import GoSem.ClaimMapViews
import Derived.JoinedTies
import Derived.KernelRfl
namespace Go.Proofs.YtaegacblpbbndaaDoor
/- THE CELL 'sum', in the pinned program and in every row, IS THE sha256 OF THE DUMP (.gsa) THAT YtaegacblpbbndaaDoorProg.lean LOADS. Nothing in Lean hashes anything: it is a label: what it is worth is what the hold of that sum in a sandbox is worth. -/
noncomputable def Tryd.pinned : Pinned := { name := "ytaegacblpbbndaadoor", sum := "7078df0c2ca269642aa861361cf3bccd3f34a778bce8c18ee2898e8ccc843b59", checked := Tryd.checked }
namespace Rows
def none {H : Type} : Left H := { results := [], args := [] }

/- WHAT THE LISTED PACKAGE-LEVEL VARIABLES READ AS WHEN THE CALL BEGINS. Each datum BY PROGRAM (the guide's laid-datum.mjs) off the statement by which the dump's own 'gosem.cut.vars' lays the variable. In a bare row this is a premise. The card (YtaegacblpbbndaaDoorCards.lean) ties it to the program's text. -/
def laid_unicode_utf8_acceptRanges {H : Type} : DataW H := .agg [.agg [.lit (.int .u8 128), .lit (.int .u8 191)], .agg [.lit (.int .u8 160), .lit (.int .u8 191)], .agg [.lit (.int .u8 128), .lit (.int .u8 159)], .agg [.lit (.int .u8 144), .lit (.int .u8 191)], .agg [.lit (.int .u8 128), .lit (.int .u8 143)], .agg [.lit (.int .u8 0), .lit (.int .u8 0)], .agg [.lit (.int .u8 0), .lit (.int .u8 0)], .agg [.lit (.int .u8 0), .lit (.int .u8 0)], .agg [.lit (.int .u8 0), .lit (.int .u8 0)], .agg [.lit (.int .u8 0), .lit (.int .u8 0)], .agg [.lit (.int .u8 0), .lit (.int .u8 0)], .agg [.lit (.int .u8 0), .lit (.int .u8 0)], .agg [.lit (.int .u8 0), .lit (.int .u8 0)], .agg [.lit (.int .u8 0), .lit (.int .u8 0)], .agg [.lit (.int .u8 0), .lit (.int .u8 0)], .agg [.lit (.int .u8 0), .lit (.int .u8 0)]]
/-- One of Go's own tables, pinned by name: the form's constant. -/
def laid_unicode_utf8_first : DataW Unit := Go.Pinned.utf8First

/-- 'chandlerlaw05.DepNames': WHATEVER THE INPUT: true; the input reads as it did. -/
def depNamesSpec : ChangeSpec := { name := "depNames", fn := fun _ => fun
  | [] => { results := [.lit (.bool true)], args := [] }
  | _ => none }
def depNamesRow : OpenClaim := { program := "ytaegacblpbbndaadoor", sum := "7078df0c2ca269642aa861361cf3bccd3f34a778bce8c18ee2898e8ccc843b59", func := "chandler/chandlerlaw05.DepNames", spec := "depNames", inPlace := ["internal/bytealg.IndexByteString", "internal/bytealg.IndexString", "internal/abi.NoEscape"], unfollowed := true, recurses := true, named := ["unicode/utf8.first", "unicode/utf8.acceptRanges", "internal/bytealg.MaxLen"], apart := false, laid := [("unicode/utf8.acceptRanges", laid_unicode_utf8_acceptRanges), ("unicode/utf8.first", laid_unicode_utf8_first)] }
def DepNamesSaid : Prop := depNamesRow.holds Tryd.pinned (OpenSpec.ofChange depNamesSpec)

/-- ITS FALSE NEIGHBOUR: 'it returns false'. Refute it at one input. -/
def depNamesWrong : ChangeSpec := { name := "depNames", fn := fun _ => fun
  | [] => { results := [.lit (.bool false)], args := [] }
  | _ => none }
def DepNamesWrongFalsely : Prop := depNamesRow.holds Tryd.pinned (OpenSpec.ofChange depNamesWrong)

/-- 'chandlerlaw05.DepReads': WHATEVER THE INPUT: true; the input reads as it did. -/
def depReadsSpec : ChangeSpec := { name := "depReads", fn := fun _ => fun
  | [d] => { results := [.lit (.bool true)], args := [d] }
  | _ => none }
def depReadsRow : OpenClaim := { program := "ytaegacblpbbndaadoor", sum := "7078df0c2ca269642aa861361cf3bccd3f34a778bce8c18ee2898e8ccc843b59", func := "chandler/chandlerlaw05.DepReads", spec := "depReads", inPlace := ["internal/bytealg.IndexByteString", "internal/bytealg.IndexString", "internal/abi.NoEscape"], unfollowed := true, recurses := true, named := ["unicode/utf8.first", "unicode/utf8.acceptRanges", "internal/bytealg.MaxLen"], apart := false, laid := [("unicode/utf8.acceptRanges", laid_unicode_utf8_acceptRanges), ("unicode/utf8.first", laid_unicode_utf8_first)] }
def DepReadsSaid : Prop := depReadsRow.holds Tryd.pinned (OpenSpec.ofChange depReadsSpec)

/-- ITS FALSE NEIGHBOUR: 'it returns false'. Refute it at one input. -/
def depReadsWrong : ChangeSpec := { name := "depReads", fn := fun _ => fun
  | [d] => { results := [.lit (.bool false)], args := [d] }
  | _ => none }
def DepReadsWrongFalsely : Prop := depReadsRow.holds Tryd.pinned (OpenSpec.ofChange depReadsWrong)

/-- 'chandlerlaw05.DepBack': WHATEVER THE INPUT: true; the input reads as it did. -/
def depBackSpec : ChangeSpec := { name := "depBack", fn := fun _ => fun
  | [d1, d2] => { results := [.lit (.bool true)], args := [d1, d2] }
  | _ => none }
def depBackRow : OpenClaim := { program := "ytaegacblpbbndaadoor", sum := "7078df0c2ca269642aa861361cf3bccd3f34a778bce8c18ee2898e8ccc843b59", func := "chandler/chandlerlaw05.DepBack", spec := "depBack", inPlace := ["internal/bytealg.IndexByteString", "internal/bytealg.IndexString", "internal/abi.NoEscape"], unfollowed := true, recurses := true, named := ["unicode/utf8.first", "unicode/utf8.acceptRanges", "internal/bytealg.MaxLen"], loops := true, apart := false, laid := [("unicode/utf8.acceptRanges", laid_unicode_utf8_acceptRanges), ("unicode/utf8.first", laid_unicode_utf8_first)] }
def DepBackSaid : Prop := depBackRow.holds Tryd.pinned (OpenSpec.ofChange depBackSpec)

/-- ITS FALSE NEIGHBOUR: 'it returns false'. Refute it at one input. -/
def depBackWrong : ChangeSpec := { name := "depBack", fn := fun _ => fun
  | [d1, d2] => { results := [.lit (.bool false)], args := [d1, d2] }
  | _ => none }
def DepBackWrongFalsely : Prop := depBackRow.holds Tryd.pinned (OpenSpec.ofChange depBackWrong)

/-- 'chandlerlaw05.DepJoins': WHATEVER THE INPUT: true; the input reads as it did. -/
def depJoinsSpec : ChangeSpec := { name := "depJoins", fn := fun _ => fun
  | [d1, d2, d3] => { results := [.lit (.bool true)], args := [d1, d2, d3] }
  | _ => none }
def depJoinsRow : OpenClaim := { program := "ytaegacblpbbndaadoor", sum := "7078df0c2ca269642aa861361cf3bccd3f34a778bce8c18ee2898e8ccc843b59", func := "chandler/chandlerlaw05.DepJoins", spec := "depJoins", inPlace := ["internal/bytealg.IndexByteString", "internal/bytealg.IndexString", "internal/abi.NoEscape"], unfollowed := true, recurses := true, named := ["unicode/utf8.first", "unicode/utf8.acceptRanges", "internal/bytealg.MaxLen"], loops := true, apart := false, laid := [("unicode/utf8.acceptRanges", laid_unicode_utf8_acceptRanges), ("unicode/utf8.first", laid_unicode_utf8_first)] }
def DepJoinsSaid : Prop := depJoinsRow.holds Tryd.pinned (OpenSpec.ofChange depJoinsSpec)

/-- ITS FALSE NEIGHBOUR: 'it returns false'. Refute it at one input. -/
def depJoinsWrong : ChangeSpec := { name := "depJoins", fn := fun _ => fun
  | [d1, d2, d3] => { results := [.lit (.bool false)], args := [d1, d2, d3] }
  | _ => none }
def DepJoinsWrongFalsely : Prop := depJoinsRow.holds Tryd.pinned (OpenSpec.ofChange depJoinsWrong)

/- THE SECOND FORM. 'bulk': how many values and letters a reading holds, each counted each time it is reached (what is shared counts as often as it is met; a slice's spare places count too). A statement '..UptoSaid' is the law's where the arguments, and the package variables that the reading takes, are together of bulk at most 1048576: NARROWER than '..Said'. Prove '..Said' where nothing that the law and all that it calls make is longer than what came in: it says more and counts as full. Else prove '..UptoSaid'. A law counts once. -/
mutual
def uptoBulk {H : Type} : DataW H → Nat
  | .lit (.string bytes) => bytes.length + 1
  | .lit _ => 1
  | .nil => 1
  | .ptr d => uptoBulk d + 1
  | .slice elems spare => uptoBulkAll elems + uptoBulkAll spare + 1
  | .agg parts => uptoBulkAll parts + 1
  | .iface _ d => uptoBulk d + 1
  | .map entries => uptoBulkEntries entries + 1
  | .held _ => 1
def uptoBulkAll {H : Type} : List (DataW H) → Nat
  | [] => 0
  | d :: r => uptoBulk d + uptoBulkAll r
def uptoBulkEntries {H : Type} : List (Lit × DataW H) → Nat
  | [] => 0
  | x :: r => uptoBulkEntry x + uptoBulkEntries r
def uptoBulkEntry {H : Type} : Lit × DataW H → Nat
  | (.string bytes, d) => bytes.length + uptoBulk d + 1
  | (_, d) => uptoBulk d + 1
 end
def uptoSmall : (H : Type) → List (DataW H) → Bool := fun _ ds => decide (uptoBulkAll ds ≤ 1048576)
def OpenSpec.upto (s : _root_.Go.ChangeSpec) : _root_.Go.OpenSpec := { _root_.Go.OpenSpec.ofChange s with cond := some uptoSmall }

/-- 'chandlerlaw05.DepNames', WHERE WHAT IT READS IS OF BULK AT MOST 1048576: true; the input reads as it did. -/
def depNamesUptoRow : OpenClaim := { program := "ytaegacblpbbndaadoor", sum := "7078df0c2ca269642aa861361cf3bccd3f34a778bce8c18ee2898e8ccc843b59", func := "chandler/chandlerlaw05.DepNames", spec := "depNames", inPlace := ["internal/bytealg.IndexByteString", "internal/bytealg.IndexString", "internal/abi.NoEscape"], unfollowed := true, recurses := true, named := ["unicode/utf8.first", "unicode/utf8.acceptRanges", "internal/bytealg.MaxLen"], apart := false, laid := [("unicode/utf8.acceptRanges", laid_unicode_utf8_acceptRanges), ("unicode/utf8.first", laid_unicode_utf8_first)], narrowed := true }
def DepNamesUptoSaid : Prop := depNamesUptoRow.holds Tryd.pinned (OpenSpec.upto depNamesSpec)

/-- 'chandlerlaw05.DepReads', WHERE WHAT IT READS IS OF BULK AT MOST 1048576: true; the input reads as it did. -/
def depReadsUptoRow : OpenClaim := { program := "ytaegacblpbbndaadoor", sum := "7078df0c2ca269642aa861361cf3bccd3f34a778bce8c18ee2898e8ccc843b59", func := "chandler/chandlerlaw05.DepReads", spec := "depReads", inPlace := ["internal/bytealg.IndexByteString", "internal/bytealg.IndexString", "internal/abi.NoEscape"], unfollowed := true, recurses := true, named := ["unicode/utf8.first", "unicode/utf8.acceptRanges", "internal/bytealg.MaxLen"], apart := false, laid := [("unicode/utf8.acceptRanges", laid_unicode_utf8_acceptRanges), ("unicode/utf8.first", laid_unicode_utf8_first)], narrowed := true }
def DepReadsUptoSaid : Prop := depReadsUptoRow.holds Tryd.pinned (OpenSpec.upto depReadsSpec)

/-- 'chandlerlaw05.DepBack', WHERE WHAT IT READS IS OF BULK AT MOST 1048576: true; the input reads as it did. -/
def depBackUptoRow : OpenClaim := { program := "ytaegacblpbbndaadoor", sum := "7078df0c2ca269642aa861361cf3bccd3f34a778bce8c18ee2898e8ccc843b59", func := "chandler/chandlerlaw05.DepBack", spec := "depBack", inPlace := ["internal/bytealg.IndexByteString", "internal/bytealg.IndexString", "internal/abi.NoEscape"], unfollowed := true, recurses := true, named := ["unicode/utf8.first", "unicode/utf8.acceptRanges", "internal/bytealg.MaxLen"], loops := true, apart := false, laid := [("unicode/utf8.acceptRanges", laid_unicode_utf8_acceptRanges), ("unicode/utf8.first", laid_unicode_utf8_first)], narrowed := true }
def DepBackUptoSaid : Prop := depBackUptoRow.holds Tryd.pinned (OpenSpec.upto depBackSpec)

/-- 'chandlerlaw05.DepJoins', WHERE WHAT IT READS IS OF BULK AT MOST 1048576: true; the input reads as it did. -/
def depJoinsUptoRow : OpenClaim := { program := "ytaegacblpbbndaadoor", sum := "7078df0c2ca269642aa861361cf3bccd3f34a778bce8c18ee2898e8ccc843b59", func := "chandler/chandlerlaw05.DepJoins", spec := "depJoins", inPlace := ["internal/bytealg.IndexByteString", "internal/bytealg.IndexString", "internal/abi.NoEscape"], unfollowed := true, recurses := true, named := ["unicode/utf8.first", "unicode/utf8.acceptRanges", "internal/bytealg.MaxLen"], loops := true, apart := false, laid := [("unicode/utf8.acceptRanges", laid_unicode_utf8_acceptRanges), ("unicode/utf8.first", laid_unicode_utf8_first)], narrowed := true }
def DepJoinsUptoSaid : Prop := depJoinsUptoRow.holds Tryd.pinned (OpenSpec.upto depJoinsSpec)

end Rows
end Go.Proofs.YtaegacblpbbndaaDoor
