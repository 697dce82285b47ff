/- The law ProblemNil returns true whatever the input, and changes nothing that was there. No condition. -/
import Derived.Test.YtdgbibnihpfidaaGreatDoorRows
import Derived.Test.YtdgbibnihpfidaaGreatDoorCards
import Derived.Test.YtdgbibnihpfidaaGreatDoorTie
import Derived.Test.YtdgbibnihpfidaaGreatDoorRProblemNil
import Derived.Test.YtdgbibnihpfidaaGreatDoorKProblemNil
import Derived.WalkKit
import Derived.ProofKit
import Derived.OpenShut
import Derived.ShutString
import Derived.ChangeOld
import Derived.Below
import Derived.JoinedCond
import Derived.Deep.DeepHandedRow
import Derived.Lib.LaidTab
namespace Go.Proofs.YtdgbibnihpfidaaGreatDoor
open Go Go.ChangeShapes Go.WideShapes Go.ChangeAt Go.RowKit
set_option linter.unusedVariables false
theorem knob : ownKnob Tryz.prog.godebug = none := by kernel_rfl
theorem laidOk : laidOutB Tryz.prog = true := problemNil_k1
/-- A world for the witness: the settled one, the two tables as their text lays them. -/
noncomputable def laidWorld (os : Os) (args : Array Value) : World :=
  let put (h : Array Obj) (g : Nat) (cs : Array Value) : Array Obj := h.modify g fun
    | .cells _ t frozen => .cells cs t frozen
    | o => o
  { World.holding Tryz.prog os ⟨#[], #[], []⟩ with heap := put (put (World.holding Tryz.prog os ⟨#[], #[], []⟩).heap 1 ((Pinned.utf8FirstZ.map fun (n : Nat) => Value.int .u8 (n : Int)).toArray)) 2 #[.int .u8 128, .int .u8 191, .int .u8 160, .int .u8 191, .int .u8 128, .int .u8 159, .int .u8 144, .int .u8 191, .int .u8 128, .int .u8 143, .int .u8 0, .int .u8 0, .int .u8 0, .int .u8 0, .int .u8 0, .int .u8 0, .int .u8 0, .int .u8 0, .int .u8 0, .int .u8 0, .int .u8 0, .int .u8 0, .int .u8 0, .int .u8 0, .int .u8 0, .int .u8 0, .int .u8 0, .int .u8 0, .int .u8 0, .int .u8 0, .int .u8 0, .int .u8 0] }

def isSt (P : Program) (t : TypeId) : Bool := match P.underlying t with | some (.struct _) => true | _ => false
theorem opened {P : Program} {t : TypeId} {w : World} {r : Reach} {base n : Nat} {v : Value} (hs : isSt P t = true) (hc : P.cellsOf t = n) (h : Value.okWide P w r base t v) : ∃ l : List Value, v = .agg l.toArray ∧ l.length = n := by
  unfold isSt at hs
  split at hs
  · rename_i fs hu
    unfold Value.okWide at h
    rw [hu] at h
    simp only at h
    obtain ⟨cs, h1, h2, _⟩ := h
    exact ⟨cs.toList, by simpa using h1, by simpa using h2.trans hc⟩
  · cases hs
theorem list1 {l : List Value} (h : l.length = 1) : ∃ c0, l = [c0] := by
  match l, h with
  | [c0], _ => exact ⟨c0, rfl⟩
theorem list7 {l : List Value} (h : l.length = 7) : ∃ c0 c1 c2 c3 c4 c5 c6, l = [c0, c1, c2, c3, c4, c5, c6] := by
  match l, h with
  | [c0, c1, c2, c3, c4, c5, c6], _ => exact ⟨c0, c1, c2, c3, c4, c5, c6, rfl⟩
set_option maxRecDepth 1000000 in
theorem problemNil_contract (H : Type) (enc : TypeId × Value → H) (W : World) (base : Nat) (args : Array Value) (ds gs : List (DataW H)) (before : List MemPlace)
    (hval0 : ∀ (j : Nat) t v, Tryz.f9.params[j]? = some t → args[j]? = some v → Value.okWide Tryz.prog W .any base t v)
    (hW : DataW.Whole enc Tryz.prog Tryz.f9.params.toList Rows.problemNilSpec.vars false W args.toList ds gs before) :
    Calls Tryz.prog 9 args W fun e W' => ∃ v, e = .returned v ∧ Rows.problemNilSpec.post enc Tryz.prog Tryz.f9 false true false false W args v W' := by
  have hW' := hW
  obtain ⟨p, q, hA0, hV, rfl, hfz, hnd⟩ := hW
  have hA : DataW.TrodAll enc Tryz.prog W 0 (fun _ => true) true Tryz.f9.params.toList args.toList ds p := hA0
  rw [Tryz.params9] at hA
  obtain ⟨v0, vs0, d0, ds0, p0, q0, hargs, rfl, rfl, h0, r0⟩ := trodAll_cons hA
  obtain ⟨v1, vs1, d1, ds1, p1, q1, rfl, rfl, rfl, h1, r1⟩ := trodAll_cons r0
  obtain ⟨rfl, rfl, rfl⟩ := trodAll_nil r1
  obtain rfl : args = #[v0, v1] := by cases args; simp_all
  obtain ⟨rfl, rfl⟩ := trodVars_none hV
  have lt0 : ∀ x ∈ p0, x.block < W.heap.size := by obtain ⟨m, hm⟩ := h0; exact DataW.trod_lt m _ _ _ hm
  have lt1 : ∀ x ∈ p1, x.block < W.heap.size := by obtain ⟨m, hm⟩ := h1; exact DataW.trod_lt m _ _ _ hm
  obtain ⟨l0, rfl, hl0⟩ := opened (n := 7) (by kernel_rfl) (by kernel_rfl) (hval0 0 _ v0 (by rw [Tryz.params9]; rfl) rfl)
  obtain ⟨c0_0, c0_1, c0_2, c0_3, c0_4, c0_5, c0_6, rfl⟩ := list7 hl0
  obtain ⟨l1, rfl, hl1⟩ := opened (n := 1) (by kernel_rfl) (by kernel_rfl) (hval0 1 _ v1 (by rw [Tryz.params9]; rfl) rfl)
  obtain ⟨c1_0, rfl⟩ := list1 hl1
  refine (problemNil_any c0_0 c0_1 c0_2 c0_3 c0_4 c0_5 c0_6 c1_0 W).mono fun e W' hr => ?_
  obtain ⟨rfl, bel⟩ := hr
  exact ⟨_, rfl, _, _, _, [], _, [], hW', trodAll_mk1 (shut_bool Tryz.underlying4 _), (trodAll_cons_mk (Below.trod laidOk (by kernel_rfl) (of_decide_eq_true (by kernel_rfl)) h0 bel lt0) (trodAll_cons_mk (Below.trod laidOk (by kernel_rfl) (of_decide_eq_true (by kernel_rfl)) h1 bel lt1) trodAll_mk0)), rfl, bel.frame _, fun h => by cases h⟩

theorem problemNil_met (os : Os) : laidMet Tryz.prog Rows.problemNilRow.laid ((laidWorld os #[.agg #[.string ByteArray.empty, .bool false, .bool false, .bool false, .bool false, .slice none 0 0, .slice none 0 0], .agg #[.slice none 0 0]]).forCall (fun _ _ => 0) ⟨#[], #[.agg #[.string ByteArray.empty, .bool false, .bool false, .bool false, .bool false, .slice none 0 0, .slice none 0 0], .agg #[.slice none 0 0]], []⟩).memory :=
  laidMet_of_run' 8 (by kernel_rfl) (by kernel_rfl)
theorem problemNil_reads (os : Os) {H : Type} (enc : TypeId × Value → H) : ∃ places, DataW.whole enc Tryz.prog ((laidWorld os #[.agg #[.string ByteArray.empty, .bool false, .bool false, .bool false, .bool false, .slice none 0 0, .slice none 0 0], .agg #[.slice none 0 0]]).forCall (fun _ _ => 0) ⟨#[], #[.agg #[.string ByteArray.empty, .bool false, .bool false, .bool false, .bool false, .slice none 0 0, .slice none 0 0], .agg #[.slice none 0 0]], []⟩).memory Tryz.f9.params.toList Rows.problemNilSpec.vars false (#[.agg #[.string ByteArray.empty, .bool false, .bool false, .bool false, .bool false, .slice none 0 0, .slice none 0 0], .agg #[.slice none 0 0]] : Array Value).toList 8 = some ([.agg [.lit (.string []), .agg [.lit (.bool false), .lit (.bool false), .lit (.bool false), .lit (.bool false)], .nil, .nil], .agg [.nil]], [], places) :=
  ⟨[], by kernel_rfl⟩
set_option maxRecDepth 100000 in
theorem problemNil_lifted (os : Os) (started : os.Started) (H : Type) (enc : TypeId × Value → H) (F : Stop.Interp) :
    ReturnsInHanded {} Tryz.checked os 9 .any ((OpenSpec.ofChange Rows.problemNilSpec).preRow enc Tryz.prog Tryz.f9 Rows.problemNilRow.domain false Rows.problemNilRow.laid) (((OpenSpec.ofChange Rows.problemNilSpec).at F).post enc Tryz.prog Tryz.f9 false true false false) := by
  obtain ⟨places, hx⟩ := problemNil_reads os enc
  refine returnsInHanded_of_row (C := Tryz.checked) (s := OpenSpec.ofChange Rows.problemNilSpec) knob started problemNil_noInit Tryz.func9
    (witness_row_at (enc := enc) (C := Tryz.checked) false (laidWorld os #[.agg #[.string ByteArray.empty, .bool false, .bool false, .bool false, .bool false, .slice none 0 0, .slice none 0 0], .agg #[.slice none 0 0]]) #[.agg #[.string ByteArray.empty, .bool false, .bool false, .bool false, .bool false, .slice none 0 0, .slice none 0 0], .agg #[.slice none 0 0]] rfl (by kernel_rfl) (by kernel_rfl) (by kernel_rfl)
      (OpenSpec.preRow_of_cond 8 hx (by kernel_rfl) (fun k hk => by cases hk) (by kernel_rfl) (problemNil_met os))) ?_
  intro W base args ds gs before hval hW _ _ _ hL _ _
  exact problemNil_contract H enc W base args ds gs before hval hW
theorem problemNil_said : Rows.ProblemNilSaid :=
  OpenClaim.holds_of_cond 9 Tryz.f9 rfl rfl rfl rfl rfl rfl rfl ⟨rfl, rfl, rfl, rfl, rfl⟩ rfl rfl rfl rfl rfl problemNil_name Tryz.func9 problemNil_facts
    problemNil_inst problemNil_wrap
    (fun os started H enc _ F => by rw [OpenClaim.pre_eq_preRow]; exact problemNil_lifted os started H enc F)
theorem problemNil_goes : false = Rows.problemNilRow.goesBy Tryz.prog := by kernel_rfl
theorem problemNil_looks : true = Tryz.prog.looks [] := by kernel_rfl
theorem problemNil_plain (f : FuncId) (fn : Func) (hf : Tryz.pinned.checked.prog.funcNamed "chandler/chandlerlaw19.ProblemNil" = some f) (hfn : Tryz.pinned.checked.prog.funcs[f]? = some fn) :
    true = Tryz.pinned.checked.prog.looks [] ∧ ∀ (j : Nat) t, fn.params[j]? = some t → Tryz.pinned.checked.prog.wantsStandIn t = false := by
  obtain rfl : f = 9 := Option.some.inj (problemNil_name.symm.trans hf) |>.symm
  obtain rfl : fn = Tryz.f9 := (Option.some.inj (Tryz.func9.symm.trans hfn)).symm
  refine ⟨problemNil_looks, fun j t ht => ?_⟩
  rw [Tryz.params9] at ht
  have ht' := Array.mem_of_getElem? ht
  simp only [List.mem_toArray, List.mem_cons, List.not_mem_nil, or_false] at ht'
  rcases ht' with ht'' | ht'' <;> (rw [ht'']; show _ = _; kernel_rfl)
/-- The card. -/
theorem problemNil_holds : Rows.ProblemNilCardSaid :=
  Claim7.holds_tied_plain_at .later [] _ _ _ _ problemNil_said (fun _ h => by cases h) (by kernel_rfl) (fun _ h => by cases h) problemNil_row_tie rfl ⟨rfl, rfl⟩ (by kernel_rfl) rfl problemNil_plain problemNil_goes

end Go.Proofs.YtdgbibnihpfidaaGreatDoor
