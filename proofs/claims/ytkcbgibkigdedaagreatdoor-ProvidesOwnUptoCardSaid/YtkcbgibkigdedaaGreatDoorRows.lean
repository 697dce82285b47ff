/-
  NARROWER THAN 'FOR EVERY INPUT', by the rows' own cells (each row's printed sentence says how): ProvidesGrows: loops, laid · ProvidesIfs: loops, laid · ProvidesOwn: loops, laid · ProvidesTells: loops, laid · ProvidesParts: loops, laid.
  DERIVED. THE GIVEN ROWS OF THIS SEAT. 5 by the template 'for every input the law returns true; each argument reads behind the call as it read before'; 0 by the template 'total and deterministic' (their statements: YtkcbgibkigdedaaGreatDoorTotals.lean).
  GIVEN WITH THE SEED: the statements are not yours to turn. If you find one false, say at which input.
  Laid BY PROGRAM, IN A SANDBOX (cutbox-rows.mjs): the forced cells as the released guide's own fill.sh prints them over the translation 23f6b96bfbf09557… (all of the seat's roots in one cut). By AI agents, Wed Nov 11 2026. No macro, syntax, notation, axiom, sorry.
-/
import Derived.Test.YtkcbgibkigdedaaGreatDoorChecked
import GoSem.PinnedTables
import GoSem.Claim
import GoSem.ClaimJoined
import GoSem.ClaimMapViews
import Derived.JoinedTies
import Derived.KernelRfl
namespace Go.Proofs.YtkcbgibkigdedaaGreatDoor
/- THE CELL 'sum', in the pinned program and in every row, IS THE sha256 OF THE DUMP (.gsa) THAT YtkcbgibkigdedaaGreatDoorProg.lean LOADS. Nothing in Lean hashes anything: it is a label: what it is worth is what the hold of that sum in a sandbox is worth. -/
noncomputable def Tryz.pinned : Pinned := { name := "ytkcbgibkigdedaagreatdoor", sum := "23f6b96bfbf0955732d0f948fc7f121e10f341ab5873ef3b852456aaf4071987", checked := Tryz.checked }
namespace Rows
def none {H : Type} : Left H := { results := [], args := [] }

/- WHAT THE LISTED PACKAGE-LEVEL VARIABLES READ AS WHEN THE CALL BEGINS. Each datum BY PROGRAM (the guide's laid-datum.mjs) off the statement by which the dump's own 'gosem.cut.vars' lays the variable. In a bare row this is a premise. The card (YtkcbgibkigdedaaGreatDoorCards.lean) ties it to the program's text. -/
def laid_unicode_utf8_acceptRanges {H : Type} : DataW H := .agg [.agg [.lit (.int .u8 128), .lit (.int .u8 191)], .agg [.lit (.int .u8 160), .lit (.int .u8 191)], .agg [.lit (.int .u8 128), .lit (.int .u8 159)], .agg [.lit (.int .u8 144), .lit (.int .u8 191)], .agg [.lit (.int .u8 128), .lit (.int .u8 143)], .agg [.lit (.int .u8 0), .lit (.int .u8 0)], .agg [.lit (.int .u8 0), .lit (.int .u8 0)], .agg [.lit (.int .u8 0), .lit (.int .u8 0)], .agg [.lit (.int .u8 0), .lit (.int .u8 0)], .agg [.lit (.int .u8 0), .lit (.int .u8 0)], .agg [.lit (.int .u8 0), .lit (.int .u8 0)], .agg [.lit (.int .u8 0), .lit (.int .u8 0)], .agg [.lit (.int .u8 0), .lit (.int .u8 0)], .agg [.lit (.int .u8 0), .lit (.int .u8 0)], .agg [.lit (.int .u8 0), .lit (.int .u8 0)], .agg [.lit (.int .u8 0), .lit (.int .u8 0)]]
/-- One of Go's own tables, pinned by name: the form's constant. -/
def laid_unicode_utf8_first : DataW Unit := Go.Pinned.utf8First

/-- 'chandlerlaw07.ProvidesGrows': WHATEVER THE INPUT: true; the input reads as it did. -/
def providesGrowsSpec : ChangeSpec := { name := "providesGrows", fn := fun _ => fun
  | [d1, d2, d3, d4] => { results := [.lit (.bool true)], args := [d1, d2, d3, d4] }
  | _ => none }
def providesGrowsRow : OpenClaim := { program := "ytkcbgibkigdedaagreatdoor", sum := "23f6b96bfbf0955732d0f948fc7f121e10f341ab5873ef3b852456aaf4071987", func := "chandler/chandlerlaw07.ProvidesGrows", spec := "providesGrows", inPlace := ["internal/bytealg.IndexByteString", "internal/bytealg.IndexString", "internal/bytealg.abigen_runtime_cmpstring"], unfollowed := true, recurses := true, named := ["internal/bytealg.MaxLen", "unicode/utf8.first", "unicode/utf8.acceptRanges"], loops := true, apart := false, laid := [("unicode/utf8.acceptRanges", laid_unicode_utf8_acceptRanges), ("unicode/utf8.first", laid_unicode_utf8_first)] }
def ProvidesGrowsSaid : Prop := providesGrowsRow.holds Tryz.pinned (OpenSpec.ofChange providesGrowsSpec)

/-- ITS FALSE NEIGHBOUR: 'it returns false'. Refute it at one input. -/
def providesGrowsWrong : ChangeSpec := { name := "providesGrows", fn := fun _ => fun
  | [d1, d2, d3, d4] => { results := [.lit (.bool false)], args := [d1, d2, d3, d4] }
  | _ => none }
def ProvidesGrowsWrongFalsely : Prop := providesGrowsRow.holds Tryz.pinned (OpenSpec.ofChange providesGrowsWrong)

/-- 'chandlerlaw07.ProvidesIfs': WHATEVER THE INPUT: true; the input reads as it did. -/
def providesIfsSpec : ChangeSpec := { name := "providesIfs", fn := fun _ => fun
  | [d1, d2, d3, d4, d5] => { results := [.lit (.bool true)], args := [d1, d2, d3, d4, d5] }
  | _ => none }
def providesIfsRow : OpenClaim := { program := "ytkcbgibkigdedaagreatdoor", sum := "23f6b96bfbf0955732d0f948fc7f121e10f341ab5873ef3b852456aaf4071987", func := "chandler/chandlerlaw07.ProvidesIfs", spec := "providesIfs", inPlace := ["internal/bytealg.IndexByteString", "internal/bytealg.IndexString", "internal/bytealg.abigen_runtime_cmpstring"], unfollowed := true, recurses := true, named := ["internal/bytealg.MaxLen", "unicode/utf8.first", "unicode/utf8.acceptRanges"], loops := true, apart := false, laid := [("unicode/utf8.acceptRanges", laid_unicode_utf8_acceptRanges), ("unicode/utf8.first", laid_unicode_utf8_first)] }
def ProvidesIfsSaid : Prop := providesIfsRow.holds Tryz.pinned (OpenSpec.ofChange providesIfsSpec)

/-- ITS FALSE NEIGHBOUR: 'it returns false'. Refute it at one input. -/
def providesIfsWrong : ChangeSpec := { name := "providesIfs", fn := fun _ => fun
  | [d1, d2, d3, d4, d5] => { results := [.lit (.bool false)], args := [d1, d2, d3, d4, d5] }
  | _ => none }
def ProvidesIfsWrongFalsely : Prop := providesIfsRow.holds Tryz.pinned (OpenSpec.ofChange providesIfsWrong)

/-- 'chandlerlaw07.ProvidesOwn': WHATEVER THE INPUT: true; the input reads as it did. -/
def providesOwnSpec : ChangeSpec := { name := "providesOwn", fn := fun _ => fun
  | [d] => { results := [.lit (.bool true)], args := [d] }
  | _ => none }
def providesOwnRow : OpenClaim := { program := "ytkcbgibkigdedaagreatdoor", sum := "23f6b96bfbf0955732d0f948fc7f121e10f341ab5873ef3b852456aaf4071987", func := "chandler/chandlerlaw07.ProvidesOwn", spec := "providesOwn", inPlace := ["internal/bytealg.IndexByteString", "internal/bytealg.IndexString", "internal/bytealg.abigen_runtime_cmpstring"], unfollowed := true, recurses := true, named := ["internal/bytealg.MaxLen", "unicode/utf8.first", "unicode/utf8.acceptRanges"], loops := true, apart := false, laid := [("unicode/utf8.acceptRanges", laid_unicode_utf8_acceptRanges), ("unicode/utf8.first", laid_unicode_utf8_first)] }
def ProvidesOwnSaid : Prop := providesOwnRow.holds Tryz.pinned (OpenSpec.ofChange providesOwnSpec)

/-- ITS FALSE NEIGHBOUR: 'it returns false'. Refute it at one input. -/
def providesOwnWrong : ChangeSpec := { name := "providesOwn", fn := fun _ => fun
  | [d] => { results := [.lit (.bool false)], args := [d] }
  | _ => none }
def ProvidesOwnWrongFalsely : Prop := providesOwnRow.holds Tryz.pinned (OpenSpec.ofChange providesOwnWrong)

/-- 'chandlerlaw07.ProvidesTells': WHATEVER THE INPUT: true; the input reads as it did. -/
def providesTellsSpec : ChangeSpec := { name := "providesTells", fn := fun _ => fun
  | [d1, d2, d3, d4] => { results := [.lit (.bool true)], args := [d1, d2, d3, d4] }
  | _ => none }
def providesTellsRow : OpenClaim := { program := "ytkcbgibkigdedaagreatdoor", sum := "23f6b96bfbf0955732d0f948fc7f121e10f341ab5873ef3b852456aaf4071987", func := "chandler/chandlerlaw07.ProvidesTells", spec := "providesTells", inPlace := ["internal/bytealg.IndexByteString", "internal/bytealg.IndexString", "internal/bytealg.abigen_runtime_cmpstring"], unfollowed := true, recurses := true, named := ["internal/bytealg.MaxLen", "unicode/utf8.first", "unicode/utf8.acceptRanges"], loops := true, apart := false, laid := [("unicode/utf8.acceptRanges", laid_unicode_utf8_acceptRanges), ("unicode/utf8.first", laid_unicode_utf8_first)] }
def ProvidesTellsSaid : Prop := providesTellsRow.holds Tryz.pinned (OpenSpec.ofChange providesTellsSpec)

/-- ITS FALSE NEIGHBOUR: 'it returns false'. Refute it at one input. -/
def providesTellsWrong : ChangeSpec := { name := "providesTells", fn := fun _ => fun
  | [d1, d2, d3, d4] => { results := [.lit (.bool false)], args := [d1, d2, d3, d4] }
  | _ => none }
def ProvidesTellsWrongFalsely : Prop := providesTellsRow.holds Tryz.pinned (OpenSpec.ofChange providesTellsWrong)

/-- 'chandlerlaw07.ProvidesParts': WHATEVER THE INPUT: true; the input reads as it did. -/
def providesPartsSpec : ChangeSpec := { name := "providesParts", fn := fun _ => fun
  | [d1, d2, d3, d4] => { results := [.lit (.bool true)], args := [d1, d2, d3, d4] }
  | _ => none }
def providesPartsRow : OpenClaim := { program := "ytkcbgibkigdedaagreatdoor", sum := "23f6b96bfbf0955732d0f948fc7f121e10f341ab5873ef3b852456aaf4071987", func := "chandler/chandlerlaw07.ProvidesParts", spec := "providesParts", inPlace := ["internal/bytealg.IndexByteString", "internal/bytealg.IndexString", "internal/bytealg.abigen_runtime_cmpstring"], unfollowed := true, recurses := true, named := ["internal/bytealg.MaxLen", "unicode/utf8.first", "unicode/utf8.acceptRanges"], loops := true, apart := false, laid := [("unicode/utf8.acceptRanges", laid_unicode_utf8_acceptRanges), ("unicode/utf8.first", laid_unicode_utf8_first)] }
def ProvidesPartsSaid : Prop := providesPartsRow.holds Tryz.pinned (OpenSpec.ofChange providesPartsSpec)

/-- ITS FALSE NEIGHBOUR: 'it returns false'. Refute it at one input. -/
def providesPartsWrong : ChangeSpec := { name := "providesParts", fn := fun _ => fun
  | [d1, d2, d3, d4] => { results := [.lit (.bool false)], args := [d1, d2, d3, d4] }
  | _ => none }
def ProvidesPartsWrongFalsely : Prop := providesPartsRow.holds Tryz.pinned (OpenSpec.ofChange providesPartsWrong)

/- THE SECOND FORM. 'bulk': how many values and letters a reading holds, each counted each time it is reached (what is shared counts as often as it is met; a slice's spare places count too). A statement '..UptoSaid' is the law's where the arguments, and the package variables that the reading takes, are together of bulk at most 1048576: NARROWER than '..Said'. Prove '..Said' where nothing that the law and all that it calls make is longer than what came in: it says more and counts as full. Else prove '..UptoSaid'. A law counts once. -/
mutual
def uptoBulk {H : Type} : DataW H → Nat
  | .lit (.string bytes) => bytes.length + 1
  | .lit _ => 1
  | .nil => 1
  | .ptr d => uptoBulk d + 1
  | .slice elems spare => uptoBulkAll elems + uptoBulkAll spare + 1
  | .agg parts => uptoBulkAll parts + 1
  | .iface _ d => uptoBulk d + 1
  | .map entries => uptoBulkEntries entries + 1
  | .held _ => 1
def uptoBulkAll {H : Type} : List (DataW H) → Nat
  | [] => 0
  | d :: r => uptoBulk d + uptoBulkAll r
def uptoBulkEntries {H : Type} : List (Lit × DataW H) → Nat
  | [] => 0
  | x :: r => uptoBulkEntry x + uptoBulkEntries r
def uptoBulkEntry {H : Type} : Lit × DataW H → Nat
  | (.string bytes, d) => bytes.length + uptoBulk d + 1
  | (_, d) => uptoBulk d + 1
 end
def uptoSmall : (H : Type) → List (DataW H) → Bool := fun _ ds => decide (uptoBulkAll ds ≤ 1048576)
def OpenSpec.upto (s : _root_.Go.ChangeSpec) : _root_.Go.OpenSpec := { _root_.Go.OpenSpec.ofChange s with cond := some uptoSmall }

/-- 'chandlerlaw07.ProvidesGrows', WHERE WHAT IT READS IS OF BULK AT MOST 1048576: true; the input reads as it did. -/
def providesGrowsUptoRow : OpenClaim := { program := "ytkcbgibkigdedaagreatdoor", sum := "23f6b96bfbf0955732d0f948fc7f121e10f341ab5873ef3b852456aaf4071987", func := "chandler/chandlerlaw07.ProvidesGrows", spec := "providesGrows", inPlace := ["internal/bytealg.IndexByteString", "internal/bytealg.IndexString", "internal/bytealg.abigen_runtime_cmpstring"], unfollowed := true, recurses := true, named := ["internal/bytealg.MaxLen", "unicode/utf8.first", "unicode/utf8.acceptRanges"], loops := true, apart := false, laid := [("unicode/utf8.acceptRanges", laid_unicode_utf8_acceptRanges), ("unicode/utf8.first", laid_unicode_utf8_first)], narrowed := true }
def ProvidesGrowsUptoSaid : Prop := providesGrowsUptoRow.holds Tryz.pinned (OpenSpec.upto providesGrowsSpec)

/-- 'chandlerlaw07.ProvidesIfs', WHERE WHAT IT READS IS OF BULK AT MOST 1048576: true; the input reads as it did. -/
def providesIfsUptoRow : OpenClaim := { program := "ytkcbgibkigdedaagreatdoor", sum := "23f6b96bfbf0955732d0f948fc7f121e10f341ab5873ef3b852456aaf4071987", func := "chandler/chandlerlaw07.ProvidesIfs", spec := "providesIfs", inPlace := ["internal/bytealg.IndexByteString", "internal/bytealg.IndexString", "internal/bytealg.abigen_runtime_cmpstring"], unfollowed := true, recurses := true, named := ["internal/bytealg.MaxLen", "unicode/utf8.first", "unicode/utf8.acceptRanges"], loops := true, apart := false, laid := [("unicode/utf8.acceptRanges", laid_unicode_utf8_acceptRanges), ("unicode/utf8.first", laid_unicode_utf8_first)], narrowed := true }
def ProvidesIfsUptoSaid : Prop := providesIfsUptoRow.holds Tryz.pinned (OpenSpec.upto providesIfsSpec)

/-- 'chandlerlaw07.ProvidesOwn', WHERE WHAT IT READS IS OF BULK AT MOST 1048576: true; the input reads as it did. -/
def providesOwnUptoRow : OpenClaim := { program := "ytkcbgibkigdedaagreatdoor", sum := "23f6b96bfbf0955732d0f948fc7f121e10f341ab5873ef3b852456aaf4071987", func := "chandler/chandlerlaw07.ProvidesOwn", spec := "providesOwn", inPlace := ["internal/bytealg.IndexByteString", "internal/bytealg.IndexString", "internal/bytealg.abigen_runtime_cmpstring"], unfollowed := true, recurses := true, named := ["internal/bytealg.MaxLen", "unicode/utf8.first", "unicode/utf8.acceptRanges"], loops := true, apart := false, laid := [("unicode/utf8.acceptRanges", laid_unicode_utf8_acceptRanges), ("unicode/utf8.first", laid_unicode_utf8_first)], narrowed := true }
def ProvidesOwnUptoSaid : Prop := providesOwnUptoRow.holds Tryz.pinned (OpenSpec.upto providesOwnSpec)

/-- 'chandlerlaw07.ProvidesTells', WHERE WHAT IT READS IS OF BULK AT MOST 1048576: true; the input reads as it did. -/
def providesTellsUptoRow : OpenClaim := { program := "ytkcbgibkigdedaagreatdoor", sum := "23f6b96bfbf0955732d0f948fc7f121e10f341ab5873ef3b852456aaf4071987", func := "chandler/chandlerlaw07.ProvidesTells", spec := "providesTells", inPlace := ["internal/bytealg.IndexByteString", "internal/bytealg.IndexString", "internal/bytealg.abigen_runtime_cmpstring"], unfollowed := true, recurses := true, named := ["internal/bytealg.MaxLen", "unicode/utf8.first", "unicode/utf8.acceptRanges"], loops := true, apart := false, laid := [("unicode/utf8.acceptRanges", laid_unicode_utf8_acceptRanges), ("unicode/utf8.first", laid_unicode_utf8_first)], narrowed := true }
def ProvidesTellsUptoSaid : Prop := providesTellsUptoRow.holds Tryz.pinned (OpenSpec.upto providesTellsSpec)

/-- 'chandlerlaw07.ProvidesParts', WHERE WHAT IT READS IS OF BULK AT MOST 1048576: true; the input reads as it did. -/
def providesPartsUptoRow : OpenClaim := { program := "ytkcbgibkigdedaagreatdoor", sum := "23f6b96bfbf0955732d0f948fc7f121e10f341ab5873ef3b852456aaf4071987", func := "chandler/chandlerlaw07.ProvidesParts", spec := "providesParts", inPlace := ["internal/bytealg.IndexByteString", "internal/bytealg.IndexString", "internal/bytealg.abigen_runtime_cmpstring"], unfollowed := true, recurses := true, named := ["internal/bytealg.MaxLen", "unicode/utf8.first", "unicode/utf8.acceptRanges"], loops := true, apart := false, laid := [("unicode/utf8.acceptRanges", laid_unicode_utf8_acceptRanges), ("unicode/utf8.first", laid_unicode_utf8_first)], narrowed := true }
def ProvidesPartsUptoSaid : Prop := providesPartsUptoRow.holds Tryz.pinned (OpenSpec.upto providesPartsSpec)

end Rows
end Go.Proofs.YtkcbgibkigdedaaGreatDoor
