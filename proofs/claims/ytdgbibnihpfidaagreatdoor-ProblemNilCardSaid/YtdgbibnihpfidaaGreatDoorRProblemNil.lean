/- The law ProblemNil, read: it returns true whatever the input, and changes nothing that was there. No condition. -/
import Derived.Test.YtdgbibnihpfidaaGreatDoorEvW
import Derived.Test.YtdgbibnihpfidaaGreatDoorRows
import Derived.WalkKit
namespace Go.Proofs.YtdgbibnihpfidaaGreatDoor
open Go Go.RowKit
open Ev in
set_option maxRecDepth 1000000 in
theorem problemNil_run (c0_0 c0_1 c0_2 c0_3 c0_4 c0_5 c0_6 c1_0 : Value) : isTrue ((readerT Tryz.prog 1000 1000).2 9 [.agg [.raw c0_0, .raw c0_1, .raw c0_2, .raw c0_3, .raw c0_4, .raw c0_5, .raw c0_6], .agg [.raw c1_0]] AH.empty) = true := by kernel_rfl
open Ev in
theorem problemNil_any (c0_0 c0_1 c0_2 c0_3 c0_4 c0_5 c0_6 c1_0 : Value) (W : World) : Calls Tryz.prog 9 #[Value.agg #[c0_0, c0_1, c0_2, c0_3, c0_4, c0_5, c0_6], Value.agg #[c1_0]] W (fun e w' => e = .returned (.bool true) ∧ Below W.heap.size W w') :=
  closed_argsT (by kernel_rfl) (args := [.agg [.raw c0_0, .raw c0_1, .raw c0_2, .raw c0_3, .raw c0_4, .raw c0_5, .raw c0_6], .agg [.raw c1_0]]) (vs := [Value.agg #[c0_0, c0_1, c0_2, c0_3, c0_4, c0_5, c0_6], Value.agg #[c1_0]]) (VRl.cons (by simp only [VR]; exact ⟨[c0_0, c0_1, c0_2, c0_3, c0_4, c0_5, c0_6], (VRl.cons (by simp [VR]) (VRl.cons (by simp [VR]) (VRl.cons (by simp [VR]) (VRl.cons (by simp [VR]) (VRl.cons (by simp [VR]) (VRl.cons (by simp [VR]) (VRl.cons (by simp [VR]) VRl.nil))))))), rfl⟩) (VRl.cons (by simp only [VR]; exact ⟨[c1_0], (VRl.cons (by simp [VR]) VRl.nil), rfl⟩) VRl.nil)) (problemNil_run c0_0 c0_1 c0_2 c0_3 c0_4 c0_5 c0_6 c1_0) W

end Go.Proofs.YtdgbibnihpfidaaGreatDoor
