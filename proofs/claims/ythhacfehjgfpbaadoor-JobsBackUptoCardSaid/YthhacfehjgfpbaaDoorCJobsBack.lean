/- The law JobsBack returns true, and changes nothing that was there, where its arguments are of bulk at most 1048576. -/
import Derived.Test.YthhacfehjgfpbaaDoorRows
import Derived.Test.YthhacfehjgfpbaaDoorCards
import Derived.Test.YthhacfehjgfpbaaDoorTie
import Derived.Test.YthhacfehjgfpbaaDoorKJobsBack
import Derived.Test.YthhacfehjgfpbaaDoorJ3
import Derived.WalkKit
import Derived.ProofKit
import Derived.OpenShut
import Derived.ShutString
import Derived.ChangeOld
import Derived.Below
import Derived.JoinedCond
import Derived.Deep.DeepHandedRow
import Derived.Lib.LaidTab
namespace Go.Proofs.YthhacfehjgfpbaaDoor
open Go Go.ChangeShapes Go.WideShapes Go.ChangeAt Go.RowKit
set_option linter.unusedVariables false
theorem knob : ownKnob Tryd.prog.godebug = none := by kernel_rfl
theorem laidOk : laidOutB Tryd.prog = true := jobsBack_k1
/-- A world for the witness: the settled one, the two tables as their text lays them. -/
noncomputable def laidWorld (os : Os) (args : Array Value) : World :=
  let put (h : Array Obj) (g : Nat) (cs : Array Value) : Array Obj := h.modify g fun
    | .cells _ t frozen => .cells cs t frozen
    | o => o
  { World.holding Tryd.prog os ⟨#[], #[], []⟩ with heap := put (put (World.holding Tryd.prog os ⟨#[], #[], []⟩).heap 1 ((Pinned.utf8FirstZ.map fun (n : Nat) => Value.int .u8 (n : Int)).toArray)) 2 #[.int .u8 128, .int .u8 191, .int .u8 160, .int .u8 191, .int .u8 128, .int .u8 159, .int .u8 144, .int .u8 191, .int .u8 128, .int .u8 143, .int .u8 0, .int .u8 0, .int .u8 0, .int .u8 0, .int .u8 0, .int .u8 0, .int .u8 0, .int .u8 0, .int .u8 0, .int .u8 0, .int .u8 0, .int .u8 0, .int .u8 0, .int .u8 0, .int .u8 0, .int .u8 0, .int .u8 0, .int .u8 0, .int .u8 0, .int .u8 0, .int .u8 0, .int .u8 0] }

theorem jobsBack_flat {W : World} {f : FuncId} {args : Array Value} (h : Calls Tryd.prog f args W (Ret fun v w' => v = .bool true ∧ Below W.heap.size W w')) : Calls Tryd.prog f args W fun e w' => e = .returned (.bool true) ∧ Below W.heap.size W w' :=
  h.mono fun _ _ h => by obtain ⟨v, rfl, rfl, b⟩ := h; exact ⟨rfl, b⟩
set_option maxRecDepth 1000000 in
theorem jobsBack_contract (H : Type) (enc : TypeId × Value → H) (W : World) (base : Nat) (args : Array Value) (ds gs : List (DataW H)) (before : List MemPlace)
    (hval0 : ∀ (j : Nat) t v, Tryd.f3.params[j]? = some t → args[j]? = some v → Value.okWide Tryd.prog W .any base t v)
    (hW : DataW.Whole enc Tryd.prog Tryd.f3.params.toList Rows.jobsBackSpec.vars false W args.toList ds gs before) (hk : Rows.uptoSmall H (ds ++ gs) = true) (hsh : W.ShapedOpen Tryd.prog) :
    Calls Tryd.prog 3 args W fun e W' => ∃ v, e = .returned v ∧ Rows.jobsBackSpec.post enc Tryd.prog Tryd.f3 false true false false W args v W' := by
  have hW' := hW
  obtain ⟨p, q, hA0, hV, rfl, hfz, hnd⟩ := hW
  have hA : DataW.TrodAll enc Tryd.prog W 0 (fun _ => true) true Tryd.f3.params.toList args.toList ds p := hA0
  rw [Tryd.params3] at hA
  obtain ⟨v0, vs0, d0, ds0, p0, q0, hargs, rfl, rfl, h0, r0⟩ := trodAll_cons hA
  obtain ⟨v1, vs1, d1, ds1, p1, q1, rfl, rfl, rfl, h1, r1⟩ := trodAll_cons r0
  obtain ⟨rfl, rfl, rfl⟩ := trodAll_nil r1
  obtain rfl : args = #[v0, v1] := by cases args; simp_all
  obtain ⟨rfl, rfl⟩ := trodVars_none hV
  have lt0 : ∀ x ∈ p0, x.block < W.heap.size := by obtain ⟨m, hm⟩ := h0; exact DataW.trod_lt m _ _ _ hm
  have lt1 : ∀ x ∈ p1, x.block < W.heap.size := by obtain ⟨m, hm⟩ := h1; exact DataW.trod_lt m _ _ _ hm
  have hk' : Rows.uptoBulkAll ([d0, d1] ++ []) ≤ 1048576 := of_decide_eq_true hk
  simp only [Rows.uptoBulkAll, List.append_nil] at hk'
  have k0 := h0
  have k1 := h1
  have hval : ∀ (j : Nat) t v, Tryd.f3.params[j]? = some t → #[v0, v1][j]? = some v → Value.okWide Tryd.prog W .any base t v := hval0
  rw [Tryd.params3] at hval
  obtain ⟨jk0, jh0, l0, c0, b00⟩ := Sv.open_job (hval 0 23 v0 rfl rfl) h0
  have b0 : l0.length ≤ 1048576 := by have hk2 := hk'; first | omega | (simp only [Rows.uptoBulk] at hk2; omega)
  obtain ⟨a1, rfl, rfl, rfl, w1⟩ := Go.ChangeMaps.open_string Tryd.underlying9 (hval 1 9 v1 rfl rfl) h1
  obtain ⟨l1, rfl⟩ : ∃ l : List UInt8, a1 = ⟨l.toArray⟩ := ⟨a1.data.toList, rfl⟩
  have b1 : l1.length ≤ 1048576 := by simp only [Rows.uptoBulk] at hk'; simp at hk'; omega
  have c1 : Sv.VR (Sv.ofF (Sv.allF W)) (.str l1) (.string ⟨l1.toArray⟩) := by simp only [Sv.VR]
  refine (jobsBack_flat (Sv.FnVG.calls (Sv.jobsBackV ⟨jk0, jh0, l0⟩ l1 b0 b1) (Sv.intAt_of hsh) (Sv.VRl.cons c0 (Sv.VRl.single c1)))).mono fun e W' hr => ?_
  obtain ⟨rfl, bel⟩ := hr
  exact ⟨_, rfl, _, _, _, [], _, [], hW', trodAll_mk1 (shut_bool Tryd.underlying4 _), (trodAll_cons_mk (Below.trod laidOk (by kernel_rfl) (of_decide_eq_true (by kernel_rfl)) k0 bel lt0) (trodAll_cons_mk (Below.trod laidOk (by kernel_rfl) (of_decide_eq_true (by kernel_rfl)) k1 bel lt1) trodAll_mk0)), rfl, bel.frame _, fun h => by cases h⟩

theorem jobsBack_met (os : Os) : laidMet Tryd.prog Rows.jobsBackUptoRow.laid ((laidWorld os #[.agg #[.int .i64 0, .int .i64 0, .string ByteArray.empty], .string ByteArray.empty]).forCall (fun _ _ => 0) ⟨#[], #[.agg #[.int .i64 0, .int .i64 0, .string ByteArray.empty], .string ByteArray.empty], []⟩).memory :=
  laidMet_of_run' 8 (by kernel_rfl) (by kernel_rfl)
theorem jobsBack_reads (os : Os) {H : Type} (enc : TypeId × Value → H) : ∃ places, DataW.whole enc Tryd.prog ((laidWorld os #[.agg #[.int .i64 0, .int .i64 0, .string ByteArray.empty], .string ByteArray.empty]).forCall (fun _ _ => 0) ⟨#[], #[.agg #[.int .i64 0, .int .i64 0, .string ByteArray.empty], .string ByteArray.empty], []⟩).memory Tryd.f3.params.toList Rows.jobsBackSpec.vars false (#[.agg #[.int .i64 0, .int .i64 0, .string ByteArray.empty], .string ByteArray.empty] : Array Value).toList 8 = some ([.agg [.lit (.int .i64 0), .lit (.int .i64 0), .lit (.string [])], .lit (.string [])], [], places) :=
  ⟨[], by kernel_rfl⟩
set_option maxRecDepth 100000 in
theorem jobsBack_lifted (os : Os) (started : os.Started) (H : Type) (enc : TypeId × Value → H) (F : Stop.Interp) :
    ReturnsInHanded {} Tryd.checked os 3 .any ((Rows.OpenSpec.upto Rows.jobsBackSpec).preRow enc Tryd.prog Tryd.f3 Rows.jobsBackUptoRow.domain false Rows.jobsBackUptoRow.laid) (((Rows.OpenSpec.upto Rows.jobsBackSpec).at F).post enc Tryd.prog Tryd.f3 false true false false) := by
  obtain ⟨places, hx⟩ := jobsBack_reads os enc
  refine returnsInHanded_of_row (C := Tryd.checked) (s := Rows.OpenSpec.upto Rows.jobsBackSpec) knob started jobsBack_noInit Tryd.func3
    (witness_row_at (enc := enc) (C := Tryd.checked) false (laidWorld os #[.agg #[.int .i64 0, .int .i64 0, .string ByteArray.empty], .string ByteArray.empty]) #[.agg #[.int .i64 0, .int .i64 0, .string ByteArray.empty], .string ByteArray.empty] rfl (by kernel_rfl) (by kernel_rfl) (by kernel_rfl)
      (OpenSpec.preRow_of_cond 8 hx (by kernel_rfl) (fun k hk => by cases hk; kernel_rfl) (by kernel_rfl) (jobsBack_met os))) ?_
  intro W base args ds gs before hval hW _ hcond _ hL hsh _
  exact jobsBack_contract H enc W base args ds gs before hval hW (hcond _ rfl) hsh
theorem jobsBack_said : Rows.JobsBackUptoSaid :=
  OpenClaim.holds_of_cond 3 Tryd.f3 rfl rfl rfl rfl rfl rfl rfl ⟨rfl, rfl, rfl, rfl, rfl⟩ rfl rfl rfl rfl rfl jobsBack_name Tryd.func3 jobsBack_facts
    jobsBack_inst jobsBack_wrap
    (fun os started H enc _ F => by rw [OpenClaim.pre_eq_preRow]; exact jobsBack_lifted os started H enc F)
theorem jobsBack_goes : false = Rows.jobsBackUptoRow.goesBy Tryd.prog := by kernel_rfl
theorem jobsBack_looks : true = Tryd.prog.looks [] := by kernel_rfl
theorem jobsBack_plain (f : FuncId) (fn : Func) (hf : Tryd.pinned.checked.prog.funcNamed "chandler/chandlerlaw14.JobsBack" = some f) (hfn : Tryd.pinned.checked.prog.funcs[f]? = some fn) :
    true = Tryd.pinned.checked.prog.looks [] ∧ ∀ (j : Nat) t, fn.params[j]? = some t → Tryd.pinned.checked.prog.wantsStandIn t = false := by
  obtain rfl : f = 3 := Option.some.inj (jobsBack_name.symm.trans hf) |>.symm
  obtain rfl : fn = Tryd.f3 := (Option.some.inj (Tryd.func3.symm.trans hfn)).symm
  refine ⟨jobsBack_looks, fun j t ht => ?_⟩
  rw [Tryd.params3] at ht
  have ht' := Array.mem_of_getElem? ht
  simp only [List.mem_toArray, List.mem_cons, List.not_mem_nil, or_false] at ht'
  rcases ht' with ht'' | ht'' <;> (rw [ht'']; show _ = _; kernel_rfl)
/-- The card. -/
theorem jobsBack_holds : Rows.JobsBackUptoCardSaid :=
  Claim7.holds_tied_plain_at .later [] _ _ _ _ jobsBack_said (fun _ h => by cases h) (by kernel_rfl) (fun _ h => by cases h) jobsBackUpto_row_tie rfl ⟨rfl, rfl⟩ (by kernel_rfl) rfl jobsBack_plain jobsBack_goes

end Go.Proofs.YthhacfehjgfpbaaDoor
