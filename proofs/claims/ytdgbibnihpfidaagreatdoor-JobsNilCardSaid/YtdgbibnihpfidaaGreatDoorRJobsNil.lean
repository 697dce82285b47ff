/- The law JobsNil, read: it returns true whatever the input, and changes nothing that was there. No condition. -/
import Derived.Test.YtdgbibnihpfidaaGreatDoorEvW
import Derived.Test.YtdgbibnihpfidaaGreatDoorRows
import Derived.WalkKit
namespace Go.Proofs.YtdgbibnihpfidaaGreatDoor
open Go Go.RowKit
open Ev in
set_option maxRecDepth 1000000 in
theorem jobsNil_run (c0_0 c0_1 c0_2 : Value) : isTrue ((readerT Tryz.prog 1000 1000).2 3 [.agg [.raw c0_0, .raw c0_1, .raw c0_2]] AH.empty) = true := by kernel_rfl
open Ev in
theorem jobsNil_any (c0_0 c0_1 c0_2 : Value) (W : World) : Calls Tryz.prog 3 #[Value.agg #[c0_0, c0_1, c0_2]] W (fun e w' => e = .returned (.bool true) ∧ Below W.heap.size W w') :=
  closed_argsT (by kernel_rfl) (args := [.agg [.raw c0_0, .raw c0_1, .raw c0_2]]) (vs := [Value.agg #[c0_0, c0_1, c0_2]]) (VRl.cons (by simp only [VR]; exact ⟨[c0_0, c0_1, c0_2], (VRl.cons (by simp [VR]) (VRl.cons (by simp [VR]) (VRl.cons (by simp [VR]) VRl.nil))), rfl⟩) VRl.nil) (jobsNil_run c0_0 c0_1 c0_2) W

end Go.Proofs.YtdgbibnihpfidaaGreatDoor
