/- The law ProblemNames returns true whatever the input, and changes nothing that was there. No condition. -/
import Derived.Test.YtdgbibnihpfidaaGreatDoorRows
import Derived.Test.YtdgbibnihpfidaaGreatDoorCards
import Derived.Test.YtdgbibnihpfidaaGreatDoorTie
import Derived.Test.YtdgbibnihpfidaaGreatDoorRProblemNames
import Derived.Test.YtdgbibnihpfidaaGreatDoorKProblemNames
import Derived.WalkKit
import Derived.ProofKit
import Derived.OpenShut
import Derived.ShutString
import Derived.ChangeOld
import Derived.Below
import Derived.JoinedCond
import Derived.Deep.DeepHandedRow
import Derived.Lib.LaidTab
namespace Go.Proofs.YtdgbibnihpfidaaGreatDoor
open Go Go.ChangeShapes Go.WideShapes Go.ChangeAt Go.RowKit
set_option linter.unusedVariables false
theorem knob : ownKnob Tryz.prog.godebug = none := by kernel_rfl
theorem laidOk : laidOutB Tryz.prog = true := problemNames_k1
/-- A world for the witness: the settled one, the two tables as their text lays them. -/
noncomputable def laidWorld (os : Os) (args : Array Value) : World :=
  let put (h : Array Obj) (g : Nat) (cs : Array Value) : Array Obj := h.modify g fun
    | .cells _ t frozen => .cells cs t frozen
    | o => o
  { World.holding Tryz.prog os ⟨#[], #[], []⟩ with heap := put (put (World.holding Tryz.prog os ⟨#[], #[], []⟩).heap 1 ((Pinned.utf8FirstZ.map fun (n : Nat) => Value.int .u8 (n : Int)).toArray)) 2 #[.int .u8 128, .int .u8 191, .int .u8 160, .int .u8 191, .int .u8 128, .int .u8 159, .int .u8 144, .int .u8 191, .int .u8 128, .int .u8 143, .int .u8 0, .int .u8 0, .int .u8 0, .int .u8 0, .int .u8 0, .int .u8 0, .int .u8 0, .int .u8 0, .int .u8 0, .int .u8 0, .int .u8 0, .int .u8 0, .int .u8 0, .int .u8 0, .int .u8 0, .int .u8 0, .int .u8 0, .int .u8 0, .int .u8 0, .int .u8 0, .int .u8 0, .int .u8 0] }

theorem problemNames_contract (H : Type) (enc : TypeId × Value → H) (W : World) (base : Nat) (args : Array Value) (ds gs : List (DataW H)) (before : List MemPlace)
    (hval0 : ∀ (j : Nat) t v, Tryz.f8.params[j]? = some t → args[j]? = some v → Value.okWide Tryz.prog W .any base t v)
    (hW : DataW.Whole enc Tryz.prog Tryz.f8.params.toList Rows.problemNamesSpec.vars false W args.toList ds gs before) :
    Calls Tryz.prog 8 args W fun e W' => ∃ v, e = .returned v ∧ Rows.problemNamesSpec.post enc Tryz.prog Tryz.f8 false true false false W args v W' := by
  have hW' := hW
  obtain ⟨p, q, hA0, hV, rfl, hfz, hnd⟩ := hW
  have hA : DataW.TrodAll enc Tryz.prog W 0 (fun _ => true) true Tryz.f8.params.toList args.toList ds p := hA0
  rw [Tryz.params8] at hA
  obtain ⟨rfl, rfl, rfl⟩ := trodAll_none hA
  obtain ⟨rfl, rfl⟩ := trodVars_none hV
  refine (problemNames_any W).mono fun e W' hr => ?_
  obtain ⟨rfl, bel⟩ := hr
  exact ⟨_, rfl, _, _, _, [], _, [], hW', trodAll_mk1 (shut_bool Tryz.underlying4 _), trodAll_mk0, rfl, bel.frame _, fun h => by cases h⟩

theorem problemNames_met (os : Os) : laidMet Tryz.prog Rows.problemNamesRow.laid ((laidWorld os #[]).forCall (fun _ _ => 0) ⟨#[], #[], []⟩).memory :=
  laidMet_of_run' 8 (by kernel_rfl) (by kernel_rfl)
theorem problemNames_reads (os : Os) {H : Type} (enc : TypeId × Value → H) : ∃ places, DataW.whole enc Tryz.prog ((laidWorld os #[]).forCall (fun _ _ => 0) ⟨#[], #[], []⟩).memory Tryz.f8.params.toList Rows.problemNamesSpec.vars false (#[] : Array Value).toList 8 = some ([], [], places) :=
  ⟨[], by kernel_rfl⟩
set_option maxRecDepth 100000 in
theorem problemNames_lifted (os : Os) (started : os.Started) (H : Type) (enc : TypeId × Value → H) (F : Stop.Interp) :
    ReturnsInHanded {} Tryz.checked os 8 .any ((OpenSpec.ofChange Rows.problemNamesSpec).preRow enc Tryz.prog Tryz.f8 Rows.problemNamesRow.domain false Rows.problemNamesRow.laid) (((OpenSpec.ofChange Rows.problemNamesSpec).at F).post enc Tryz.prog Tryz.f8 false true false false) := by
  obtain ⟨places, hx⟩ := problemNames_reads os enc
  refine returnsInHanded_of_row (C := Tryz.checked) (s := OpenSpec.ofChange Rows.problemNamesSpec) knob started problemNames_noInit Tryz.func8
    (witness_row_at (enc := enc) (C := Tryz.checked) false (laidWorld os #[]) #[] rfl (by kernel_rfl) (by kernel_rfl) (by kernel_rfl)
      (OpenSpec.preRow_of_cond 8 hx (by kernel_rfl) (fun k hk => by cases hk) (by kernel_rfl) (problemNames_met os))) ?_
  intro W base args ds gs before hval hW _ _ _ hL _ _
  exact problemNames_contract H enc W base args ds gs before hval hW
theorem problemNames_said : Rows.ProblemNamesSaid :=
  OpenClaim.holds_of_cond 8 Tryz.f8 rfl rfl rfl rfl rfl rfl rfl ⟨rfl, rfl, rfl, rfl, rfl⟩ rfl rfl rfl rfl rfl problemNames_name Tryz.func8 problemNames_facts
    problemNames_inst problemNames_wrap
    (fun os started H enc _ F => by rw [OpenClaim.pre_eq_preRow]; exact problemNames_lifted os started H enc F)
theorem problemNames_goes : false = Rows.problemNamesRow.goesBy Tryz.prog := by kernel_rfl
theorem problemNames_looks : true = Tryz.prog.looks [] := by kernel_rfl
theorem problemNames_plain (f : FuncId) (fn : Func) (hf : Tryz.pinned.checked.prog.funcNamed "chandler/chandlerlaw19.ProblemNames" = some f) (hfn : Tryz.pinned.checked.prog.funcs[f]? = some fn) :
    true = Tryz.pinned.checked.prog.looks [] ∧ ∀ (j : Nat) t, fn.params[j]? = some t → Tryz.pinned.checked.prog.wantsStandIn t = false := by
  obtain rfl : f = 8 := Option.some.inj (problemNames_name.symm.trans hf) |>.symm
  obtain rfl : fn = Tryz.f8 := (Option.some.inj (Tryz.func8.symm.trans hfn)).symm
  refine ⟨problemNames_looks, fun j t ht => ?_⟩
  rw [Tryz.params8] at ht
  simp at ht
/-- The card. -/
theorem problemNames_holds : Rows.ProblemNamesCardSaid :=
  Claim7.holds_tied_plain_at .later [] _ _ _ _ problemNames_said (fun _ h => by cases h) (by kernel_rfl) (fun _ h => by cases h) problemNames_row_tie rfl ⟨rfl, rfl⟩ (by kernel_rfl) rfl problemNames_plain problemNames_goes

end Go.Proofs.YtdgbibnihpfidaaGreatDoor
