/- The law ProvidesNil returns true whatever the input, and changes nothing that was there. No condition. -/
import Derived.Test.YtipofkadjiojkaaGreatDoorRows
import Derived.Test.YtipofkadjiojkaaGreatDoorCards
import Derived.Test.YtipofkadjiojkaaGreatDoorTie
import Derived.Test.YtipofkadjiojkaaGreatDoorRProvidesNil
import Derived.WalkKit
import Derived.ProofKit
import Derived.OpenShut
import Derived.ShutString
import Derived.ChangeOld
import Derived.Below
import Derived.JoinedCond
import Derived.Deep.DeepHandedRow
import Derived.Lib.LaidTab
namespace Go.Proofs.YtipofkadjiojkaaGreatDoor
open Go Go.ChangeShapes Go.WideShapes Go.ChangeAt Go.RowKit
set_option linter.unusedVariables false
theorem knob : ownKnob Tryz.prog.godebug = none := by kernel_rfl
theorem laidOk : laidOutB Tryz.prog = true := by kernel_rfl
/-- A world for the witness: the settled one, the two tables as their text lays them. -/
noncomputable def laidWorld (os : Os) (args : Array Value) : World :=
  let put (h : Array Obj) (g : Nat) (cs : Array Value) : Array Obj := h.modify g fun
    | .cells _ t frozen => .cells cs t frozen
    | o => o
  { World.holding Tryz.prog os ⟨#[], #[], []⟩ with heap := put (put (World.holding Tryz.prog os ⟨#[], #[], []⟩).heap 1 ((Pinned.utf8FirstZ.map fun (n : Nat) => Value.int .u8 (n : Int)).toArray)) 2 #[.int .u8 128, .int .u8 191, .int .u8 160, .int .u8 191, .int .u8 128, .int .u8 159, .int .u8 144, .int .u8 191, .int .u8 128, .int .u8 143, .int .u8 0, .int .u8 0, .int .u8 0, .int .u8 0, .int .u8 0, .int .u8 0, .int .u8 0, .int .u8 0, .int .u8 0, .int .u8 0, .int .u8 0, .int .u8 0, .int .u8 0, .int .u8 0, .int .u8 0, .int .u8 0, .int .u8 0, .int .u8 0, .int .u8 0, .int .u8 0, .int .u8 0, .int .u8 0] }

def isSt (P : Program) (t : TypeId) : Bool := match P.underlying t with | some (.struct _) => true | _ => false
theorem opened {P : Program} {t : TypeId} {w : World} {r : Reach} {base n : Nat} {v : Value} (hs : isSt P t = true) (hc : P.cellsOf t = n) (h : Value.okWide P w r base t v) : ∃ l : List Value, v = .agg l.toArray ∧ l.length = n := by
  unfold isSt at hs
  split at hs
  · rename_i fs hu
    unfold Value.okWide at h
    rw [hu] at h
    simp only at h
    obtain ⟨cs, h1, h2, _⟩ := h
    exact ⟨cs.toList, by simpa using h1, by simpa using h2.trans hc⟩
  · cases hs
theorem list5 {l : List Value} (h : l.length = 5) : ∃ c0 c1 c2 c3 c4, l = [c0, c1, c2, c3, c4] := by
  match l, h with
  | [c0, c1, c2, c3, c4], _ => exact ⟨c0, c1, c2, c3, c4, rfl⟩
set_option maxRecDepth 1000000 in
theorem providesNil_contract (H : Type) (enc : TypeId × Value → H) (W : World) (base : Nat) (args : Array Value) (ds gs : List (DataW H)) (before : List MemPlace)
    (hval0 : ∀ (j : Nat) t v, Tryz.f4.params[j]? = some t → args[j]? = some v → Value.okWide Tryz.prog W .any base t v)
    (hW : DataW.Whole enc Tryz.prog Tryz.f4.params.toList Rows.providesNilSpec.vars false W args.toList ds gs before) :
    Calls Tryz.prog 4 args W fun e W' => ∃ v, e = .returned v ∧ Rows.providesNilSpec.post enc Tryz.prog Tryz.f4 false true false false W args v W' := by
  have hW' := hW
  obtain ⟨p, q, hA0, hV, rfl, hfz, hnd⟩ := hW
  have hA : DataW.TrodAll enc Tryz.prog W 0 (fun _ => true) true Tryz.f4.params.toList args.toList ds p := hA0
  rw [Tryz.params4] at hA
  obtain ⟨v0, vs0, d0, ds0, p0, q0, hargs, rfl, rfl, h0, r0⟩ := trodAll_cons hA
  obtain ⟨v1, vs1, d1, ds1, p1, q1, rfl, rfl, rfl, h1, r1⟩ := trodAll_cons r0
  obtain ⟨rfl, rfl, rfl⟩ := trodAll_nil r1
  obtain rfl : args = #[v0, v1] := by cases args; simp_all
  obtain ⟨rfl, rfl⟩ := trodVars_none hV
  have lt0 : ∀ x ∈ p0, x.block < W.heap.size := by obtain ⟨m, hm⟩ := h0; exact DataW.trod_lt m _ _ _ hm
  have lt1 : ∀ x ∈ p1, x.block < W.heap.size := by obtain ⟨m, hm⟩ := h1; exact DataW.trod_lt m _ _ _ hm
  obtain ⟨l0, rfl, hl0⟩ := opened (n := 5) (by kernel_rfl) (by kernel_rfl) (hval0 0 _ v0 (by rw [Tryz.params4]; rfl) rfl)
  obtain ⟨c0_0, c0_1, c0_2, c0_3, c0_4, rfl⟩ := list5 hl0
  refine (providesNil_any c0_0 c0_1 c0_2 c0_3 c0_4 v1 W).mono fun e W' hr => ?_
  obtain ⟨rfl, bel⟩ := hr
  exact ⟨_, rfl, _, _, _, [], _, [], hW', trodAll_mk1 (shut_bool Tryz.underlying4 _), (trodAll_cons_mk (Below.trod laidOk (by kernel_rfl) (of_decide_eq_true (by kernel_rfl)) h0 bel lt0) (trodAll_cons_mk (Below.trod laidOk (by kernel_rfl) (of_decide_eq_true (by kernel_rfl)) h1 bel lt1) trodAll_mk0)), rfl, bel.frame _, fun h => by cases h⟩

theorem providesNil_met (os : Os) : laidMet Tryz.prog Rows.providesNilRow.laid ((laidWorld os #[.agg #[.int .i64 0, .string ByteArray.empty, .int .i64 0, .string ByteArray.empty, .slice none 0 0], .slice none 0 0]).forCall (fun _ _ => 0) ⟨#[], #[.agg #[.int .i64 0, .string ByteArray.empty, .int .i64 0, .string ByteArray.empty, .slice none 0 0], .slice none 0 0], []⟩).memory :=
  laidMet_of_run' 8 (by kernel_rfl) (by kernel_rfl)
theorem providesNil_reads (os : Os) {H : Type} (enc : TypeId × Value → H) : ∃ places, DataW.whole enc Tryz.prog ((laidWorld os #[.agg #[.int .i64 0, .string ByteArray.empty, .int .i64 0, .string ByteArray.empty, .slice none 0 0], .slice none 0 0]).forCall (fun _ _ => 0) ⟨#[], #[.agg #[.int .i64 0, .string ByteArray.empty, .int .i64 0, .string ByteArray.empty, .slice none 0 0], .slice none 0 0], []⟩).memory Tryz.f4.params.toList Rows.providesNilSpec.vars false (#[.agg #[.int .i64 0, .string ByteArray.empty, .int .i64 0, .string ByteArray.empty, .slice none 0 0], .slice none 0 0] : Array Value).toList 8 = some ([.agg [.lit (.int .i64 0), .lit (.string []), .lit (.int .i64 0), .lit (.string []), .nil], .nil], [], places) :=
  ⟨[], by kernel_rfl⟩
set_option maxRecDepth 100000 in
theorem providesNil_lifted (os : Os) (started : os.Started) (H : Type) (enc : TypeId × Value → H) (F : Stop.Interp) :
    ReturnsInHanded {} Tryz.checked os 4 .any ((OpenSpec.ofChange Rows.providesNilSpec).preRow enc Tryz.prog Tryz.f4 Rows.providesNilRow.domain false Rows.providesNilRow.laid) (((OpenSpec.ofChange Rows.providesNilSpec).at F).post enc Tryz.prog Tryz.f4 false true false false) := by
  obtain ⟨places, hx⟩ := providesNil_reads os enc
  refine returnsInHanded_of_row (C := Tryz.checked) (s := OpenSpec.ofChange Rows.providesNilSpec) knob started (by kernel_rfl) Tryz.func4
    (witness_row_at (enc := enc) (C := Tryz.checked) false (laidWorld os #[.agg #[.int .i64 0, .string ByteArray.empty, .int .i64 0, .string ByteArray.empty, .slice none 0 0], .slice none 0 0]) #[.agg #[.int .i64 0, .string ByteArray.empty, .int .i64 0, .string ByteArray.empty, .slice none 0 0], .slice none 0 0] rfl (by kernel_rfl) (by kernel_rfl) (by kernel_rfl)
      (OpenSpec.preRow_of_cond 8 hx (by kernel_rfl) (fun k hk => by cases hk) (by kernel_rfl) (providesNil_met os))) ?_
  intro W base args ds gs before hval hW _ _ _ hL _ _
  exact providesNil_contract H enc W base args ds gs before hval hW
theorem providesNil_said : Rows.ProvidesNilSaid :=
  OpenClaim.holds_of_cond 4 Tryz.f4 rfl rfl rfl rfl rfl rfl rfl ⟨rfl, rfl, rfl, rfl, rfl⟩ rfl rfl rfl rfl rfl (by kernel_rfl) Tryz.func4 (by kernel_rfl)
    (of_decide_eq_true (by kernel_rfl)) (by unfold Func.isWrapper; first | (rw [if_pos (by decide +kernel)]; kernel_rfl) | (rw [if_neg (by decide +kernel)]; exact ⟨rfl, rfl⟩))
    (fun os started H enc _ F => by rw [OpenClaim.pre_eq_preRow]; exact providesNil_lifted os started H enc F)
theorem providesNil_plain (f : FuncId) (fn : Func) (hf : Tryz.pinned.checked.prog.funcNamed "chandler/chandlerlaw07.ProvidesNil" = some f) (hfn : Tryz.pinned.checked.prog.funcs[f]? = some fn) :
    true = Tryz.pinned.checked.prog.looks [] ∧ ∀ (j : Nat) t, fn.params[j]? = some t → Tryz.pinned.checked.prog.wantsStandIn t = false := by
  obtain rfl : f = 4 := Option.some.inj ((show Tryz.prog.funcNamed "chandler/chandlerlaw07.ProvidesNil" = some 4 by kernel_rfl).symm.trans hf) |>.symm
  obtain rfl : fn = Tryz.f4 := (Option.some.inj (Tryz.func4.symm.trans hfn)).symm
  refine ⟨by kernel_rfl, fun j t ht => ?_⟩
  rw [Tryz.params4] at ht
  have ht' := Array.mem_of_getElem? ht
  simp only [List.mem_toArray, List.mem_cons, List.not_mem_nil, or_false] at ht'
  rcases ht' with ht'' | ht'' <;> (rw [ht'']; show _ = _; kernel_rfl)
/-- The card. -/
theorem providesNil_holds : Rows.ProvidesNilCardSaid :=
  Claim7.holds_tied_plain_at .later [] _ _ _ _ providesNil_said (fun _ h => by cases h) (by kernel_rfl) (fun _ h => by cases h) providesNil_row_tie rfl ⟨rfl, rfl⟩ (by kernel_rfl) rfl providesNil_plain (by kernel_rfl)

end Go.Proofs.YtipofkadjiojkaaGreatDoor
