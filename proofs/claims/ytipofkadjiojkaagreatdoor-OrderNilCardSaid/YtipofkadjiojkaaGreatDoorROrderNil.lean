/- The law OrderNil, read: it returns true whatever the input, and changes nothing that was there. No condition. -/
import Derived.Test.YtipofkadjiojkaaGreatDoorEvI
import Derived.Test.YtipofkadjiojkaaGreatDoorRows
import Derived.WalkKit
namespace Go.Proofs.YtipofkadjiojkaaGreatDoor
open Go Go.RowKit
open Ev in
set_option maxRecDepth 1000000 in
theorem orderNil_run (v0 v1 : Value) : isTrue ((reader Tryz.prog 1000 1000).2 8 [.raw v0, .raw v1] AH.empty) = true := by kernel_rfl
open Ev in
theorem orderNil_any (v0 v1 : Value) (W : World) : Calls Tryz.prog 8 #[v0, v1] W (fun e w' => e = .returned (.bool true) ∧ Below W.heap.size W w') :=
  closed_args (by kernel_rfl) (args := [.raw v0, .raw v1]) (vs := [v0, v1]) (VRl.cons (by simp [VR]) (VRl.cons (by simp [VR]) VRl.nil)) (orderNil_run v0 v1) W

end Go.Proofs.YtipofkadjiojkaaGreatDoor
