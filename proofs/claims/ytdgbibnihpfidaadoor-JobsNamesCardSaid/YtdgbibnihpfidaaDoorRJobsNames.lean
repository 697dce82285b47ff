/- The law JobsNames, read: it returns true whatever the input, and changes nothing that was there. No condition. -/
import Derived.Test.YtdgbibnihpfidaaDoorEvI
import Derived.Test.YtdgbibnihpfidaaDoorRows
import Derived.WalkKit
namespace Go.Proofs.YtdgbibnihpfidaaDoor
open Go Go.RowKit
open Ev in
set_option maxRecDepth 1000000 in
theorem jobsNames_run : isTrue ((reader Tryd.prog 1000 1000).2 3 [] AH.empty) = true := by kernel_rfl
open Ev in
theorem jobsNames_any (W : World) : Calls Tryd.prog 3 #[] W (fun e w' => e = .returned (.bool true) ∧ Below W.heap.size W w') :=
  closed_args (by kernel_rfl) (args := []) (vs := []) VRl.nil (jobsNames_run ) W

end Go.Proofs.YtdgbibnihpfidaaDoor
