/- The law ProblemNames, read: it returns true whatever the input, and changes nothing that was there. No condition. -/
import Derived.Test.YtdgbibnihpfidaaGreatDoorEvW
import Derived.Test.YtdgbibnihpfidaaGreatDoorRows
import Derived.WalkKit
namespace Go.Proofs.YtdgbibnihpfidaaGreatDoor
open Go Go.RowKit
open Ev in
set_option maxRecDepth 1000000 in
theorem problemNames_run : isTrue ((readerT Tryz.prog 1000 1000).2 8 [] AH.empty) = true := by kernel_rfl
open Ev in
theorem problemNames_any (W : World) : Calls Tryz.prog 8 #[] W (fun e w' => e = .returned (.bool true) ∧ Below W.heap.size W w') :=
  closed_argsT (by kernel_rfl) (args := []) (vs := []) VRl.nil (problemNames_run ) W

end Go.Proofs.YtdgbibnihpfidaaGreatDoor
