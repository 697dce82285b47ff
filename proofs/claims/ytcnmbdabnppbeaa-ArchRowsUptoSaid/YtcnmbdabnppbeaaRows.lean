/-
  No cell of these rows narrows 'for every input' (looked for: loops, veiled, ifaces, maps, wideKeys, modest, calm, conditions, laid).
  DERIVED. THE GIVEN ROWS OF THIS SEAT. 5 by the template 'for every input the law returns true; each argument reads behind the call as it read before'; 0 by the template 'total and deterministic' (their statements: YtcnmbdabnppbeaaTotals.lean).
  GIVEN WITH THE SEED: the statements are not yours to turn. If you find one false, say at which input.
  Laid BY PROGRAM, IN A SANDBOX (cutbox-rows.mjs): the forced cells as the released guide's own fill.sh prints them over the translation 7c5f43cd7424d040… (all of the seat's roots in one cut). By AI agents, Wed Nov 11 2026. No macro, syntax, notation, axiom, sorry.
-/
import Derived.Test.YtcnmbdabnppbeaaChecked
import GoSem.Claim
import GoSem.ClaimJoined
import GoSem.ClaimMapViews
import Derived.JoinedTies
import Derived.KernelRfl
namespace Go.Proofs.Ytcnmbdabnppbeaa
/- THE CELL 'sum', in the pinned program and in every row, IS THE sha256 OF THE DUMP (.gsa) THAT YtcnmbdabnppbeaaProg.lean LOADS. Nothing in Lean hashes anything: it is a label: what it is worth is what the hold of that sum in a sandbox is worth. -/
noncomputable def Try.pinned : Pinned := { name := "ytcnmbdabnppbeaa", sum := "7c5f43cd7424d040f3d07bca5f72651d9498ed0eb1d9fd3197f0783223e7503f", checked := Try.checked }
namespace Rows
def none {H : Type} : Left H := { results := [], args := [] }

/-- 'chandlerlaw04.ArchNames': WHATEVER THE INPUT: true; the input reads as it did. -/
def archNamesSpec : ChangeSpec := { name := "archNames", fn := fun _ => fun
  | [] => { results := [.lit (.bool true)], args := [] }
  | _ => none }
def archNamesRow : OpenClaim := { program := "ytcnmbdabnppbeaa", sum := "7c5f43cd7424d040f3d07bca5f72651d9498ed0eb1d9fd3197f0783223e7503f", func := "chandler/chandlerlaw04.ArchNames", spec := "archNames", inPlace := ["internal/bytealg.IndexByteString", "internal/bytealg.IndexString"], unfollowed := true, recurses := true, named := ["internal/bytealg.MaxLen"], apart := false }
def ArchNamesSaid : Prop := archNamesRow.holds Try.pinned (OpenSpec.ofChange archNamesSpec)

/-- ITS FALSE NEIGHBOUR: 'it returns false'. Refute it at one input. -/
def archNamesWrong : ChangeSpec := { name := "archNames", fn := fun _ => fun
  | [] => { results := [.lit (.bool false)], args := [] }
  | _ => none }
def ArchNamesWrongFalsely : Prop := archNamesRow.holds Try.pinned (OpenSpec.ofChange archNamesWrong)

/-- 'chandlerlaw04.ArchScores': WHATEVER THE INPUT: true; the input reads as it did. -/
def archScoresSpec : ChangeSpec := { name := "archScores", fn := fun _ => fun
  | [d1, d2, d3] => { results := [.lit (.bool true)], args := [d1, d2, d3] }
  | _ => none }
def archScoresRow : OpenClaim := { program := "ytcnmbdabnppbeaa", sum := "7c5f43cd7424d040f3d07bca5f72651d9498ed0eb1d9fd3197f0783223e7503f", func := "chandler/chandlerlaw04.ArchScores", spec := "archScores", inPlace := ["internal/bytealg.IndexByteString", "internal/bytealg.IndexString"], unfollowed := true, recurses := true, named := ["internal/bytealg.MaxLen"], apart := false }
def ArchScoresSaid : Prop := archScoresRow.holds Try.pinned (OpenSpec.ofChange archScoresSpec)

/-- ITS FALSE NEIGHBOUR: 'it returns false'. Refute it at one input. -/
def archScoresWrong : ChangeSpec := { name := "archScores", fn := fun _ => fun
  | [d1, d2, d3] => { results := [.lit (.bool false)], args := [d1, d2, d3] }
  | _ => none }
def ArchScoresWrongFalsely : Prop := archScoresRow.holds Try.pinned (OpenSpec.ofChange archScoresWrong)

/-- 'chandlerlaw04.ArchOrder': WHATEVER THE INPUT: true; the input reads as it did. -/
def archOrderSpec : ChangeSpec := { name := "archOrder", fn := fun _ => fun
  | [d1, d2, d3, d4] => { results := [.lit (.bool true)], args := [d1, d2, d3, d4] }
  | _ => none }
def archOrderRow : OpenClaim := { program := "ytcnmbdabnppbeaa", sum := "7c5f43cd7424d040f3d07bca5f72651d9498ed0eb1d9fd3197f0783223e7503f", func := "chandler/chandlerlaw04.ArchOrder", spec := "archOrder", inPlace := ["internal/bytealg.IndexByteString", "internal/bytealg.IndexString"], unfollowed := true, recurses := true, named := ["internal/bytealg.MaxLen"], apart := false }
def ArchOrderSaid : Prop := archOrderRow.holds Try.pinned (OpenSpec.ofChange archOrderSpec)

/-- ITS FALSE NEIGHBOUR: 'it returns false'. Refute it at one input. -/
def archOrderWrong : ChangeSpec := { name := "archOrder", fn := fun _ => fun
  | [d1, d2, d3, d4] => { results := [.lit (.bool false)], args := [d1, d2, d3, d4] }
  | _ => none }
def ArchOrderWrongFalsely : Prop := archOrderRow.holds Try.pinned (OpenSpec.ofChange archOrderWrong)

/-- 'chandlerlaw04.ArchNil': WHATEVER THE INPUT: true; the input reads as it did. -/
def archNilSpec : ChangeSpec := { name := "archNil", fn := fun _ => fun
  | [d1, d2] => { results := [.lit (.bool true)], args := [d1, d2] }
  | _ => none }
def archNilRow : OpenClaim := { program := "ytcnmbdabnppbeaa", sum := "7c5f43cd7424d040f3d07bca5f72651d9498ed0eb1d9fd3197f0783223e7503f", func := "chandler/chandlerlaw04.ArchNil", spec := "archNil", inPlace := ["internal/bytealg.IndexByteString", "internal/bytealg.IndexString"], unfollowed := true, recurses := true, named := ["internal/bytealg.MaxLen"], apart := false }
def ArchNilSaid : Prop := archNilRow.holds Try.pinned (OpenSpec.ofChange archNilSpec)

/-- ITS FALSE NEIGHBOUR: 'it returns false'. Refute it at one input. -/
def archNilWrong : ChangeSpec := { name := "archNil", fn := fun _ => fun
  | [d1, d2] => { results := [.lit (.bool false)], args := [d1, d2] }
  | _ => none }
def ArchNilWrongFalsely : Prop := archNilRow.holds Try.pinned (OpenSpec.ofChange archNilWrong)

/-- 'chandlerlaw04.ArchRows': WHATEVER THE INPUT: true; the input reads as it did. -/
def archRowsSpec : ChangeSpec := { name := "archRows", fn := fun _ => fun
  | [d1, d2] => { results := [.lit (.bool true)], args := [d1, d2] }
  | _ => none }
def archRowsRow : OpenClaim := { program := "ytcnmbdabnppbeaa", sum := "7c5f43cd7424d040f3d07bca5f72651d9498ed0eb1d9fd3197f0783223e7503f", func := "chandler/chandlerlaw04.ArchRows", spec := "archRows", inPlace := ["internal/bytealg.IndexByteString", "internal/bytealg.IndexString"], unfollowed := true, recurses := true, named := ["internal/bytealg.MaxLen"], apart := false }
def ArchRowsSaid : Prop := archRowsRow.holds Try.pinned (OpenSpec.ofChange archRowsSpec)

/-- ITS FALSE NEIGHBOUR: 'it returns false'. Refute it at one input. -/
def archRowsWrong : ChangeSpec := { name := "archRows", fn := fun _ => fun
  | [d1, d2] => { results := [.lit (.bool false)], args := [d1, d2] }
  | _ => none }
def ArchRowsWrongFalsely : Prop := archRowsRow.holds Try.pinned (OpenSpec.ofChange archRowsWrong)

/- THE SECOND FORM. 'bulk': how many values and letters a reading holds, each counted each time it is reached (what is shared counts as often as it is met; a slice's spare places count too). A statement '..UptoSaid' is the law's where the arguments, and the package variables that the reading takes, are together of bulk at most 1048576: NARROWER than '..Said'. Prove '..Said' where nothing that the law and all that it calls make is longer than what came in: it says more and counts as full. Else prove '..UptoSaid'. A law counts once. -/
mutual
def uptoBulk {H : Type} : DataW H → Nat
  | .lit (.string bytes) => bytes.length + 1
  | .lit _ => 1
  | .nil => 1
  | .ptr d => uptoBulk d + 1
  | .slice elems spare => uptoBulkAll elems + uptoBulkAll spare + 1
  | .agg parts => uptoBulkAll parts + 1
  | .iface _ d => uptoBulk d + 1
  | .map entries => uptoBulkEntries entries + 1
  | .held _ => 1
def uptoBulkAll {H : Type} : List (DataW H) → Nat
  | [] => 0
  | d :: r => uptoBulk d + uptoBulkAll r
def uptoBulkEntries {H : Type} : List (Lit × DataW H) → Nat
  | [] => 0
  | x :: r => uptoBulkEntry x + uptoBulkEntries r
def uptoBulkEntry {H : Type} : Lit × DataW H → Nat
  | (.string bytes, d) => bytes.length + uptoBulk d + 1
  | (_, d) => uptoBulk d + 1
 end
def uptoSmall : (H : Type) → List (DataW H) → Bool := fun _ ds => decide (uptoBulkAll ds ≤ 1048576)
def OpenSpec.upto (s : _root_.Go.ChangeSpec) : _root_.Go.OpenSpec := { _root_.Go.OpenSpec.ofChange s with cond := some uptoSmall }

/-- 'chandlerlaw04.ArchNames', WHERE WHAT IT READS IS OF BULK AT MOST 1048576: true; the input reads as it did. -/
def archNamesUptoRow : OpenClaim := { program := "ytcnmbdabnppbeaa", sum := "7c5f43cd7424d040f3d07bca5f72651d9498ed0eb1d9fd3197f0783223e7503f", func := "chandler/chandlerlaw04.ArchNames", spec := "archNames", inPlace := ["internal/bytealg.IndexByteString", "internal/bytealg.IndexString"], unfollowed := true, recurses := true, named := ["internal/bytealg.MaxLen"], apart := false, narrowed := true }
def ArchNamesUptoSaid : Prop := archNamesUptoRow.holds Try.pinned (OpenSpec.upto archNamesSpec)

/-- 'chandlerlaw04.ArchScores', WHERE WHAT IT READS IS OF BULK AT MOST 1048576: true; the input reads as it did. -/
def archScoresUptoRow : OpenClaim := { program := "ytcnmbdabnppbeaa", sum := "7c5f43cd7424d040f3d07bca5f72651d9498ed0eb1d9fd3197f0783223e7503f", func := "chandler/chandlerlaw04.ArchScores", spec := "archScores", inPlace := ["internal/bytealg.IndexByteString", "internal/bytealg.IndexString"], unfollowed := true, recurses := true, named := ["internal/bytealg.MaxLen"], apart := false, narrowed := true }
def ArchScoresUptoSaid : Prop := archScoresUptoRow.holds Try.pinned (OpenSpec.upto archScoresSpec)

/-- 'chandlerlaw04.ArchOrder', WHERE WHAT IT READS IS OF BULK AT MOST 1048576: true; the input reads as it did. -/
def archOrderUptoRow : OpenClaim := { program := "ytcnmbdabnppbeaa", sum := "7c5f43cd7424d040f3d07bca5f72651d9498ed0eb1d9fd3197f0783223e7503f", func := "chandler/chandlerlaw04.ArchOrder", spec := "archOrder", inPlace := ["internal/bytealg.IndexByteString", "internal/bytealg.IndexString"], unfollowed := true, recurses := true, named := ["internal/bytealg.MaxLen"], apart := false, narrowed := true }
def ArchOrderUptoSaid : Prop := archOrderUptoRow.holds Try.pinned (OpenSpec.upto archOrderSpec)

/-- 'chandlerlaw04.ArchNil', WHERE WHAT IT READS IS OF BULK AT MOST 1048576: true; the input reads as it did. -/
def archNilUptoRow : OpenClaim := { program := "ytcnmbdabnppbeaa", sum := "7c5f43cd7424d040f3d07bca5f72651d9498ed0eb1d9fd3197f0783223e7503f", func := "chandler/chandlerlaw04.ArchNil", spec := "archNil", inPlace := ["internal/bytealg.IndexByteString", "internal/bytealg.IndexString"], unfollowed := true, recurses := true, named := ["internal/bytealg.MaxLen"], apart := false, narrowed := true }
def ArchNilUptoSaid : Prop := archNilUptoRow.holds Try.pinned (OpenSpec.upto archNilSpec)

/-- 'chandlerlaw04.ArchRows', WHERE WHAT IT READS IS OF BULK AT MOST 1048576: true; the input reads as it did. -/
def archRowsUptoRow : OpenClaim := { program := "ytcnmbdabnppbeaa", sum := "7c5f43cd7424d040f3d07bca5f72651d9498ed0eb1d9fd3197f0783223e7503f", func := "chandler/chandlerlaw04.ArchRows", spec := "archRows", inPlace := ["internal/bytealg.IndexByteString", "internal/bytealg.IndexString"], unfollowed := true, recurses := true, named := ["internal/bytealg.MaxLen"], apart := false, narrowed := true }
def ArchRowsUptoSaid : Prop := archRowsUptoRow.holds Try.pinned (OpenSpec.upto archRowsSpec)

end Rows
end Go.Proofs.Ytcnmbdabnppbeaa
