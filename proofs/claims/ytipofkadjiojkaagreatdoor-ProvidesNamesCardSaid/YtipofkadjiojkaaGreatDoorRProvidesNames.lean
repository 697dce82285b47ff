/- The law ProvidesNames, read: it returns true whatever the input, and changes nothing that was there. No condition. -/
import Derived.Test.YtipofkadjiojkaaGreatDoorEvI
import Derived.Test.YtipofkadjiojkaaGreatDoorRows
import Derived.WalkKit
namespace Go.Proofs.YtipofkadjiojkaaGreatDoor
open Go Go.RowKit
open Ev in
set_option maxRecDepth 1000000 in
theorem providesNames_run : isTrue ((reader Tryz.prog 1000 1000).2 3 [] AH.empty) = true := by kernel_rfl
open Ev in
theorem providesNames_any (W : World) : Calls Tryz.prog 3 #[] W (fun e w' => e = .returned (.bool true) ∧ Below W.heap.size W w') :=
  closed_args (by kernel_rfl) (args := []) (vs := []) VRl.nil (providesNames_run ) W

end Go.Proofs.YtipofkadjiojkaaGreatDoor
