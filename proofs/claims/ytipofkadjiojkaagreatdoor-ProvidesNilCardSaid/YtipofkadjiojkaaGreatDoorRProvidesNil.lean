/- The law ProvidesNil, read: it returns true whatever the input, and changes nothing that was there. No condition. -/
import Derived.Test.YtipofkadjiojkaaGreatDoorEvI
import Derived.Test.YtipofkadjiojkaaGreatDoorRows
import Derived.WalkKit
namespace Go.Proofs.YtipofkadjiojkaaGreatDoor
open Go Go.RowKit
open Ev in
set_option maxRecDepth 1000000 in
theorem providesNil_run (c0_0 c0_1 c0_2 c0_3 c0_4 v1 : Value) : isTrue ((reader Tryz.prog 1000 1000).2 4 [.agg [.raw c0_0, .raw c0_1, .raw c0_2, .raw c0_3, .raw c0_4], .raw v1] AH.empty) = true := by kernel_rfl
open Ev in
theorem providesNil_any (c0_0 c0_1 c0_2 c0_3 c0_4 v1 : Value) (W : World) : Calls Tryz.prog 4 #[Value.agg #[c0_0, c0_1, c0_2, c0_3, c0_4], v1] W (fun e w' => e = .returned (.bool true) ∧ Below W.heap.size W w') :=
  closed_args (by kernel_rfl) (args := [.agg [.raw c0_0, .raw c0_1, .raw c0_2, .raw c0_3, .raw c0_4], .raw v1]) (vs := [Value.agg #[c0_0, c0_1, c0_2, c0_3, c0_4], v1]) (VRl.cons (by simp only [VR]; exact ⟨[c0_0, c0_1, c0_2, c0_3, c0_4], (VRl.cons (by simp [VR]) (VRl.cons (by simp [VR]) (VRl.cons (by simp [VR]) (VRl.cons (by simp [VR]) (VRl.cons (by simp [VR]) VRl.nil))))), rfl⟩) (VRl.cons (by simp [VR]) VRl.nil)) (providesNil_run c0_0 c0_1 c0_2 c0_3 c0_4 v1) W

end Go.Proofs.YtipofkadjiojkaaGreatDoor
