/- The law DepReads returns true, and changes nothing that was there, where its arguments are of bulk at most 1048576. -/
import Derived.Test.YtaegacblpbbndaaDoorRows
import Derived.Test.YtaegacblpbbndaaDoorCards
import Derived.Test.YtaegacblpbbndaaDoorTie
import Derived.Test.YtaegacblpbbndaaDoorKDepReads
import Derived.Test.YtaegacblpbbndaaDoorJ34
import Derived.WalkKit
import Derived.ProofKit
import Derived.OpenShut
import Derived.ShutString
import Derived.ChangeOld
import Derived.Below
import Derived.JoinedCond
import Derived.Deep.DeepHandedRow
import Derived.Lib.LaidTab
namespace Go.Proofs.YtaegacblpbbndaaDoor
open Go Go.ChangeShapes Go.WideShapes Go.ChangeAt Go.RowKit
set_option linter.unusedVariables false
theorem knob : ownKnob Tryd.prog.godebug = none := by kernel_rfl
theorem laidOk : laidOutB Tryd.prog = true := depReads_k1
/-- A world for the witness: the settled one, the two tables as their text lays them. -/
noncomputable def laidWorld (os : Os) (args : Array Value) : World :=
  let put (h : Array Obj) (g : Nat) (cs : Array Value) : Array Obj := h.modify g fun
    | .cells _ t frozen => .cells cs t frozen
    | o => o
  { World.holding Tryd.prog os ⟨#[], #[], []⟩ with heap := put (put (World.holding Tryd.prog os ⟨#[], #[], []⟩).heap 1 ((Pinned.utf8FirstZ.map fun (n : Nat) => Value.int .u8 (n : Int)).toArray)) 2 #[.int .u8 128, .int .u8 191, .int .u8 160, .int .u8 191, .int .u8 128, .int .u8 159, .int .u8 144, .int .u8 191, .int .u8 128, .int .u8 143, .int .u8 0, .int .u8 0, .int .u8 0, .int .u8 0, .int .u8 0, .int .u8 0, .int .u8 0, .int .u8 0, .int .u8 0, .int .u8 0, .int .u8 0, .int .u8 0, .int .u8 0, .int .u8 0, .int .u8 0, .int .u8 0, .int .u8 0, .int .u8 0, .int .u8 0, .int .u8 0, .int .u8 0, .int .u8 0] }

theorem depReads_flat {W : World} {f : FuncId} {args : Array Value} (h : Calls Tryd.prog f args W (Ret fun v w' => v = .bool true ∧ Below W.heap.size W w')) : Calls Tryd.prog f args W fun e w' => e = .returned (.bool true) ∧ Below W.heap.size W w' :=
  h.mono fun _ _ h => by obtain ⟨v, rfl, rfl, b⟩ := h; exact ⟨rfl, b⟩
set_option maxRecDepth 1000000 in
theorem depReads_contract (H : Type) (enc : TypeId × Value → H) (W : World) (base : Nat) (args : Array Value) (ds gs : List (DataW H)) (before : List MemPlace)
    (hval0 : ∀ (j : Nat) t v, Tryd.f4.params[j]? = some t → args[j]? = some v → Value.okWide Tryd.prog W .any base t v)
    (hW : DataW.Whole enc Tryd.prog Tryd.f4.params.toList Rows.depReadsSpec.vars false W args.toList ds gs before) (hk : Rows.uptoSmall H (ds ++ gs) = true) :
    Calls Tryd.prog 4 args W fun e W' => ∃ v, e = .returned v ∧ Rows.depReadsSpec.post enc Tryd.prog Tryd.f4 false true false false W args v W' := by
  have hW' := hW
  obtain ⟨p, q, hA0, hV, rfl, hfz, hnd⟩ := hW
  have hA : DataW.TrodAll enc Tryd.prog W 0 (fun _ => true) true Tryd.f4.params.toList args.toList ds p := hA0
  rw [Tryd.params4] at hA
  obtain ⟨v0, vs0, d0, ds0, p0, q0, hargs, rfl, rfl, h0, r0⟩ := trodAll_cons hA
  obtain ⟨rfl, rfl, rfl⟩ := trodAll_nil r0
  obtain rfl : args = #[v0] := by cases args; simp_all
  obtain ⟨rfl, rfl⟩ := trodVars_none hV
  have lt0 : ∀ x ∈ p0, x.block < W.heap.size := by obtain ⟨m, hm⟩ := h0; exact DataW.trod_lt m _ _ _ hm
  have hk' : Rows.uptoBulkAll ([d0] ++ []) ≤ 1048576 := of_decide_eq_true hk
  simp only [Rows.uptoBulkAll, List.append_nil] at hk'
  have k0 := h0
  have hval : ∀ (j : Nat) t v, Tryd.f4.params[j]? = some t → #[v0][j]? = some v → Value.okWide Tryd.prog W .any base t v := hval0
  rw [Tryd.params4] at hval
  obtain ⟨a0, rfl, rfl, rfl, w0⟩ := Go.ChangeMaps.open_string Tryd.underlying9 (hval 0 9 v0 rfl rfl) h0
  obtain ⟨l0, rfl⟩ : ∃ l : List UInt8, a0 = ⟨l.toArray⟩ := ⟨a0.data.toList, rfl⟩
  have b0 : l0.length ≤ 1048576 := by simp only [Rows.uptoBulk] at hk'; simp at hk'; omega
  refine (depReads_flat (depReads_any l0 W b0)).mono fun e W' hr => ?_
  obtain ⟨rfl, bel⟩ := hr
  exact ⟨_, rfl, _, _, _, [], _, [], hW', trodAll_mk1 (shut_bool Tryd.underlying4 _), (trodAll_cons_mk (Below.trod laidOk (by kernel_rfl) (of_decide_eq_true (by kernel_rfl)) k0 bel lt0) trodAll_mk0), rfl, bel.frame _, fun h => by cases h⟩

theorem depReads_met (os : Os) : laidMet Tryd.prog Rows.depReadsUptoRow.laid ((laidWorld os #[.string ByteArray.empty]).forCall (fun _ _ => 0) ⟨#[], #[.string ByteArray.empty], []⟩).memory :=
  laidMet_of_run' 8 (by kernel_rfl) (by kernel_rfl)
theorem depReads_reads (os : Os) {H : Type} (enc : TypeId × Value → H) : ∃ places, DataW.whole enc Tryd.prog ((laidWorld os #[.string ByteArray.empty]).forCall (fun _ _ => 0) ⟨#[], #[.string ByteArray.empty], []⟩).memory Tryd.f4.params.toList Rows.depReadsSpec.vars false (#[.string ByteArray.empty] : Array Value).toList 8 = some ([.lit (.string [])], [], places) :=
  ⟨[], by kernel_rfl⟩
set_option maxRecDepth 100000 in
theorem depReads_lifted (os : Os) (started : os.Started) (H : Type) (enc : TypeId × Value → H) (F : Stop.Interp) :
    ReturnsInHanded {} Tryd.checked os 4 .any ((Rows.OpenSpec.upto Rows.depReadsSpec).preRow enc Tryd.prog Tryd.f4 Rows.depReadsUptoRow.domain false Rows.depReadsUptoRow.laid) (((Rows.OpenSpec.upto Rows.depReadsSpec).at F).post enc Tryd.prog Tryd.f4 false true false false) := by
  obtain ⟨places, hx⟩ := depReads_reads os enc
  refine returnsInHanded_of_row (C := Tryd.checked) (s := Rows.OpenSpec.upto Rows.depReadsSpec) knob started depReads_noInit Tryd.func4
    (witness_row_at (enc := enc) (C := Tryd.checked) false (laidWorld os #[.string ByteArray.empty]) #[.string ByteArray.empty] rfl (by kernel_rfl) (by kernel_rfl) (by kernel_rfl)
      (OpenSpec.preRow_of_cond 8 hx (by kernel_rfl) (fun k hk => by cases hk; kernel_rfl) (by kernel_rfl) (depReads_met os))) ?_
  intro W base args ds gs before hval hW _ hcond _ hL _ _
  exact depReads_contract H enc W base args ds gs before hval hW (hcond _ rfl)
theorem depReads_said : Rows.DepReadsUptoSaid :=
  OpenClaim.holds_of_cond 4 Tryd.f4 rfl rfl rfl rfl rfl rfl rfl ⟨rfl, rfl, rfl, rfl, rfl⟩ rfl rfl rfl rfl rfl depReads_name Tryd.func4 depReads_facts
    depReads_inst depReads_wrap
    (fun os started H enc _ F => by rw [OpenClaim.pre_eq_preRow]; exact depReads_lifted os started H enc F)
theorem depReads_goes : false = Rows.depReadsUptoRow.goesBy Tryd.prog := by kernel_rfl
theorem depReads_looks : true = Tryd.prog.looks [] := by kernel_rfl
theorem depReads_plain (f : FuncId) (fn : Func) (hf : Tryd.pinned.checked.prog.funcNamed "chandler/chandlerlaw05.DepReads" = some f) (hfn : Tryd.pinned.checked.prog.funcs[f]? = some fn) :
    true = Tryd.pinned.checked.prog.looks [] ∧ ∀ (j : Nat) t, fn.params[j]? = some t → Tryd.pinned.checked.prog.wantsStandIn t = false := by
  obtain rfl : f = 4 := Option.some.inj (depReads_name.symm.trans hf) |>.symm
  obtain rfl : fn = Tryd.f4 := (Option.some.inj (Tryd.func4.symm.trans hfn)).symm
  refine ⟨depReads_looks, fun j t ht => ?_⟩
  rw [Tryd.params4] at ht
  have ht' := Array.mem_of_getElem? ht
  simp only [List.mem_toArray, List.mem_cons, List.not_mem_nil, or_false] at ht'
  rw [ht']; show _ = _; kernel_rfl
/-- The card. -/
theorem depReads_holds : Rows.DepReadsUptoCardSaid :=
  Claim7.holds_tied_plain_at .later [] _ _ _ _ depReads_said (fun _ h => by cases h) (by kernel_rfl) (fun _ h => by cases h) depReadsUpto_row_tie rfl ⟨rfl, rfl⟩ (by kernel_rfl) rfl depReads_plain depReads_goes

end Go.Proofs.YtaegacblpbbndaaDoor
