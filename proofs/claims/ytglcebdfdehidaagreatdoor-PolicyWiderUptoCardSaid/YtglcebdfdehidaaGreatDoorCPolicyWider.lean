/- The law PolicyWider returns true, and changes nothing that was there, where its arguments are of bulk at most 1048576. -/
import Derived.Test.YtglcebdfdehidaaGreatDoorRows
import Derived.Test.YtglcebdfdehidaaGreatDoorCards
import Derived.Test.YtglcebdfdehidaaGreatDoorTie
import Derived.Test.YtglcebdfdehidaaGreatDoorKPolicyWider
import Derived.Test.YtglcebdfdehidaaGreatDoorVW5
import Derived.WalkKit
import Derived.ProofKit
import Derived.OpenShut
import Derived.ShutString
import Derived.ChangeOld
import Derived.Below
import Derived.JoinedCond
import Derived.Deep.DeepHandedRow
import Derived.Lib.LaidTab
namespace Go.Proofs.YtglcebdfdehidaaGreatDoor
open Go Go.ChangeShapes Go.WideShapes Go.ChangeAt Go.RowKit
set_option linter.unusedVariables false
theorem knob : ownKnob Tryz.prog.godebug = none := by kernel_rfl
theorem laidOk : laidOutB Tryz.prog = true := policyWider_k1
/-- A world for the witness: the settled one, the two tables as their text lays them. -/
noncomputable def laidWorld (os : Go.Os) (args : Array Value) : World :=
  let put (h : Array Obj) (g : Nat) (cs : Array Value) : Array Obj := h.modify g fun
    | .cells _ t frozen => .cells cs t frozen
    | o => o
  { World.holding Tryz.prog os ⟨#[], #[], []⟩ with heap := put (put (World.holding Tryz.prog os ⟨#[], #[], []⟩).heap 1 ((Pinned.utf8FirstZ.map fun (n : Nat) => Value.int .u8 (n : Int)).toArray)) 2 #[.int .u8 128, .int .u8 191, .int .u8 160, .int .u8 191, .int .u8 128, .int .u8 159, .int .u8 144, .int .u8 191, .int .u8 128, .int .u8 143, .int .u8 0, .int .u8 0, .int .u8 0, .int .u8 0, .int .u8 0, .int .u8 0, .int .u8 0, .int .u8 0, .int .u8 0, .int .u8 0, .int .u8 0, .int .u8 0, .int .u8 0, .int .u8 0, .int .u8 0, .int .u8 0, .int .u8 0, .int .u8 0, .int .u8 0, .int .u8 0, .int .u8 0, .int .u8 0] }

theorem policyWider_flat {W : World} {f : FuncId} {args : Array Value} (h : Calls Tryz.prog f args W (Ret fun v w' => v = .bool true ∧ Below W.heap.size W w')) : Calls Tryz.prog f args W fun e w' => e = .returned (.bool true) ∧ Below W.heap.size W w' :=
  h.mono fun _ _ h => by obtain ⟨v, rfl, rfl, b⟩ := h; exact ⟨rfl, b⟩
set_option maxRecDepth 1000000 in
theorem policyWider_contract (H : Type) (enc : TypeId × Value → H) (W : World) (base : Nat) (args : Array Value) (ds gs : List (DataW H)) (before : List MemPlace)
    (hval0 : ∀ (j : Nat) t v, Tryz.f5.params[j]? = some t → args[j]? = some v → Value.okWide Tryz.prog W .any base t v)
    (hW : DataW.Whole enc Tryz.prog Tryz.f5.params.toList Rows.policyWiderSpec.vars false W args.toList ds gs before) (hk : Rows.uptoSmall H (ds ++ gs) = true) :
    Calls Tryz.prog 5 args W fun e W' => ∃ v, e = .returned v ∧ Rows.policyWiderSpec.post enc Tryz.prog Tryz.f5 false true false false W args v W' := by
  have hW' := hW
  obtain ⟨p, q, hA0, hV, rfl, hfz, hnd⟩ := hW
  have hA : DataW.TrodAll enc Tryz.prog W 0 (fun _ => true) true Tryz.f5.params.toList args.toList ds p := hA0
  rw [Tryz.params5] at hA
  obtain ⟨v0, vs0, d0, ds0, p0, q0, hargs, rfl, rfl, h0, r0⟩ := trodAll_cons hA
  obtain ⟨v1, vs1, d1, ds1, p1, q1, rfl, rfl, rfl, h1, r1⟩ := trodAll_cons r0
  obtain ⟨rfl, rfl, rfl⟩ := trodAll_nil r1
  obtain rfl : args = #[v0, v1] := by cases args; simp_all
  obtain ⟨rfl, rfl⟩ := trodVars_none hV
  have lt0 : ∀ x ∈ p0, x.block < W.heap.size := by obtain ⟨m, hm⟩ := h0; exact DataW.trod_lt m _ _ _ hm
  have lt1 : ∀ x ∈ p1, x.block < W.heap.size := by obtain ⟨m, hm⟩ := h1; exact DataW.trod_lt m _ _ _ hm
  have hk' : Rows.uptoBulkAll ([d0, d1] ++ []) ≤ 1048576 := of_decide_eq_true hk
  simp only [Rows.uptoBulkAll, List.append_nil] at hk'
  have k0 := h0
  have k1 := h1
  have hval : ∀ (j : Nat) t v, Tryz.f5.params[j]? = some t → #[v0, v1][j]? = some v → Value.okWide Tryz.prog W .any base t v := hval0
  rw [Tryz.params5] at hval
  obtain ⟨t0, w0, n00, c00⟩ := Sv.open_repos (hval 0 22 v0 rfl rfl) h0
  have n0 : t0.length ≤ 1048576 := by have hk2 := hk'; first | omega | (simp only [Rows.uptoBulk] at hk2; omega)
  have c0 : ∀ i, i < t0.length → (nth t0 i).size ≤ 1048576 := fun i hi => Nat.le_trans (c00 i hi) (by have hk2 := hk'; first | omega | (simp only [Rows.uptoBulk] at hk2; omega))
  obtain ⟨t1, w1, a10, j10, l10, p10⟩ := Sv.open_req (hval 1 28 v1 rfl rfl) h1
  have a1 : t1.arch.length ≤ 1048576 := by have hk2 := hk'; first | omega | (simp only [Rows.uptoBulk] at hk2; omega)
  have j1 : ∀ i, i < t1.jobs.length → (nth t1.jobs i).text.length ≤ 1048576 := fun i hi => Nat.le_trans (j10 i hi) (by have hk2 := hk'; first | omega | (simp only [Rows.uptoBulk] at hk2; omega))
  have l1 : t1.jobs.length ≤ 1048576 := by have hk2 := hk'; first | omega | (simp only [Rows.uptoBulk] at hk2; omega)
  have p1 : t1.permits.length ≤ 1048576 := by have hk2 := hk'; first | omega | (simp only [Rows.uptoBulk] at hk2; omega)
  refine (policyWider_flat (Sv.FnV.calls (Sv.wider_ok t0 n0 c0 t1 a1 j1 l1 p1) (Sv.VRl.cons w0 (Sv.VRl.single w1)))).mono fun e W' hr => ?_
  obtain ⟨rfl, bel⟩ := hr
  exact ⟨_, rfl, _, _, _, [], _, [], hW', trodAll_mk1 (shut_bool Tryz.underlying4 _), (trodAll_cons_mk (Below.trod laidOk (by kernel_rfl) (of_decide_eq_true (by kernel_rfl)) k0 bel lt0) (trodAll_cons_mk (Below.trod laidOk (by kernel_rfl) (of_decide_eq_true (by kernel_rfl)) k1 bel lt1) trodAll_mk0)), rfl, bel.frame _, fun h => by cases h⟩

theorem policyWider_met (os : Go.Os) : laidMet Tryz.prog Rows.policyWiderUptoRow.laid ((laidWorld os #[.slice none 0 0, .agg #[.string ByteArray.empty, .bool false, .bool false, .bool false, .bool false, .slice none 0 0, .slice none 0 0]]).forCall (fun _ _ => 0) ⟨#[], #[.slice none 0 0, .agg #[.string ByteArray.empty, .bool false, .bool false, .bool false, .bool false, .slice none 0 0, .slice none 0 0]], []⟩).memory :=
  laidMet_of_run' 8 (by kernel_rfl) (by kernel_rfl)
theorem policyWider_reads (os : Go.Os) {H : Type} (enc : TypeId × Value → H) : ∃ places, DataW.whole enc Tryz.prog ((laidWorld os #[.slice none 0 0, .agg #[.string ByteArray.empty, .bool false, .bool false, .bool false, .bool false, .slice none 0 0, .slice none 0 0]]).forCall (fun _ _ => 0) ⟨#[], #[.slice none 0 0, .agg #[.string ByteArray.empty, .bool false, .bool false, .bool false, .bool false, .slice none 0 0, .slice none 0 0]], []⟩).memory Tryz.f5.params.toList Rows.policyWiderSpec.vars false (#[.slice none 0 0, .agg #[.string ByteArray.empty, .bool false, .bool false, .bool false, .bool false, .slice none 0 0, .slice none 0 0]] : Array Value).toList 8 = some ([.nil, .agg [.lit (.string []), .agg [.lit (.bool false), .lit (.bool false), .lit (.bool false), .lit (.bool false)], .nil, .nil]], [], places) :=
  ⟨[], by kernel_rfl⟩
set_option maxRecDepth 100000 in
theorem policyWider_lifted (os : Go.Os) (started : os.Started) (H : Type) (enc : TypeId × Value → H) (F : Stop.Interp) :
    ReturnsInHanded {} Tryz.checked os 5 .any ((Rows.OpenSpec.upto Rows.policyWiderSpec).preRow enc Tryz.prog Tryz.f5 Rows.policyWiderUptoRow.domain false Rows.policyWiderUptoRow.laid) (((Rows.OpenSpec.upto Rows.policyWiderSpec).at F).post enc Tryz.prog Tryz.f5 false true false false) := by
  obtain ⟨places, hx⟩ := policyWider_reads os enc
  refine returnsInHanded_of_row (C := Tryz.checked) (s := Rows.OpenSpec.upto Rows.policyWiderSpec) knob started policyWider_noInit Tryz.func5
    (witness_row_at (enc := enc) (C := Tryz.checked) false (laidWorld os #[.slice none 0 0, .agg #[.string ByteArray.empty, .bool false, .bool false, .bool false, .bool false, .slice none 0 0, .slice none 0 0]]) #[.slice none 0 0, .agg #[.string ByteArray.empty, .bool false, .bool false, .bool false, .bool false, .slice none 0 0, .slice none 0 0]] rfl (by kernel_rfl) (by kernel_rfl) (by kernel_rfl)
      (OpenSpec.preRow_of_cond 8 hx (by kernel_rfl) (fun k hk => by cases hk; kernel_rfl) (by kernel_rfl) (policyWider_met os))) ?_
  intro W base args ds gs before hval hW _ hcond _ hL _ _
  exact policyWider_contract H enc W base args ds gs before hval hW (hcond _ rfl)
theorem policyWider_said : Rows.PolicyWiderUptoSaid :=
  OpenClaim.holds_of_cond 5 Tryz.f5 rfl rfl rfl rfl rfl rfl rfl ⟨rfl, rfl, rfl, rfl, rfl⟩ rfl rfl rfl rfl rfl policyWider_name Tryz.func5 policyWider_facts
    policyWider_inst policyWider_wrap
    (fun os started H enc _ F => by rw [OpenClaim.pre_eq_preRow]; exact policyWider_lifted os started H enc F)
theorem policyWider_goes : false = Rows.policyWiderUptoRow.goesBy Tryz.prog := by kernel_rfl
theorem policyWider_looks : true = Tryz.prog.looks [] := by kernel_rfl
theorem policyWider_plain (f : FuncId) (fn : Func) (hf : Tryz.pinned.checked.prog.funcNamed "chandler/chandlerlaw15.PolicyWider" = some f) (hfn : Tryz.pinned.checked.prog.funcs[f]? = some fn) :
    true = Tryz.pinned.checked.prog.looks [] ∧ ∀ (j : Nat) t, fn.params[j]? = some t → Tryz.pinned.checked.prog.wantsStandIn t = false := by
  obtain rfl : f = 5 := Option.some.inj (policyWider_name.symm.trans hf) |>.symm
  obtain rfl : fn = Tryz.f5 := (Option.some.inj (Tryz.func5.symm.trans hfn)).symm
  refine ⟨policyWider_looks, fun j t ht => ?_⟩
  rw [Tryz.params5] at ht
  have ht' := Array.mem_of_getElem? ht
  simp only [List.mem_toArray, List.mem_cons, List.not_mem_nil, or_false] at ht'
  rcases ht' with ht'' | ht'' <;> (rw [ht'']; show _ = _; kernel_rfl)
/-- The card. -/
theorem policyWider_holds : Rows.PolicyWiderUptoCardSaid :=
  Claim7.holds_tied_plain_at .later [] _ _ _ _ policyWider_said (fun _ h => by cases h) (by kernel_rfl) (fun _ h => by cases h) policyWiderUpto_row_tie rfl ⟨rfl, rfl⟩ (by kernel_rfl) rfl policyWider_plain policyWider_goes

end Go.Proofs.YtglcebdfdehidaaGreatDoor
