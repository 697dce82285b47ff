/- The texts Defer, Dep18, Dep19, Bld, Dep20, Dep21, Dep22, Trip, Dep23 of the proof, joined. Each says at its theorems what it proves. -/
import Derived.Test.YtaegacblpbbndaaDoorJ1
import Derived.Defers
import Derived.Recover
import Derived.Lib.OthersKept
import Derived.Lib.AppendIntMem
import Derived.Laws.Externs
import Derived.OrdersHeld
set_option linter.unusedSimpArgs false
set_option linter.unusedVariables false
section
namespace Go.Proofs.YtaegacblpbbndaaDoor
open Go Go.RowKit
theorem W_any {P : Program} {n : Nat} {c : Code} {Q : Exit → Act → World → Prop} {σ : Nat → Value} {w : World} (h : W P n c (fun e σ w => Q e (mk n σ) w) σ w) : c.wp P Q (mk n σ) w := by
  unfold W at h
  refine wp_mono h ?_
  rintro e a w ⟨σ', rfl, q⟩; exact q
theorem W_top {P : Program} {n : Nat} {x y : Code} {Q : Exit → Act → World → Prop} {σ : Nat → Value} {w : World} (h : W P n x (seqQ (fun σ w => y.wp P Q (mk n σ) w) (fun _ _ _ => False)) σ w) : (Code.seq x y).wp P Q (mk n σ) w := by
  unfold W at h
  refine wp_seq (wp_mono h ?_)
  rintro e a w ⟨σ', rfl, q⟩
  cases e <;> first | exact q | exact q.elim
namespace D
def mk (ds : List Deferred) (n : Nat) (σ : Nat → Value) : Act := { tmps := Array.ofFn (n := n) (fun i => σ i.1), defers := ds }
def lift (ds : List Deferred) (n : Nat) (Q : Exit → (Nat → Value) → World → Prop) : Exit → Act → World → Prop := fun e a w => ∃ σ, a = mk ds n σ ∧ Q e σ w
def W (P : Program) (ds : List Deferred) (n : Nat) (c : Code) (Q : Exit → (Nat → Value) → World → Prop) (σ : Nat → Value) (w : World) : Prop := c.wp P (lift ds n Q) (mk ds n σ) w
def WO (P : Program) (ds : List Deferred) (n : Nat) (ops : Array Oper) (l : List Oper) (Q : Exit → (Nat → Value) → World → Prop) (σ : Nat → Value) (w : World) : Prop :=
  wpList P ops (lift ds n Q) l (mk ds n σ) w
theorem mk_getD (ds : List Deferred) (n : Nat) (σ : Nat → Value) (t : Nat) : (mk ds n σ).tmps.getD t undef = sl n σ t := by
  simp only [mk, sl, Array.getD_eq_getD_getElem?, Array.getElem?_ofFn]
  by_cases h : t < n
  · have : Nat.blt t n = true := by simpa [Nat.blt_eq] using h
    simp [h, this]
  · have : Nat.blt t n = false := by rw [Bool.eq_false_iff]; intro h'; exact h (by simpa [Nat.blt_eq] using h')
    simp [h, this]
theorem mk_eval (ds : List Deferred) (n : Nat) (σ : Nat → Value) : (mk ds n σ).eval = ev n σ := by
  funext x
  cases x with
  | tmp t => exact mk_getD ds n σ t
  | const v => rfl
  | global g => rfl
  | func f => rfl
theorem mk_put (ds : List Deferred) (n : Nat) (σ : Nat → Value) (d : Option Nat) (v : Value) : (mk ds n σ).put d v = mk ds n (updo σ d v) := by
  cases d with
  | none => rfl
  | some d =>
    simp only [mk, Act.put, updo]
    congr 1
    apply Array.ext
    · simp
    · intro i h1 h2
      simp only [Array.getElem_ofFn, upd]
      rw [Array.getElem_setIfInBounds (by simpa using h1)]
      by_cases h : d = i
      · subst h; simp
      · have : Nat.beq i d = false := by rw [Bool.eq_false_iff]; intro h'; exact h (Nat.eq_of_beq_eq_true h').symm
        simp [h, this]
theorem wanted_mk (ops : Array Oper) (ds : List Deferred) (n : Nat) (σ : Nat → Value) (o : Oper) : Region.wanted o (yielded ops (mk ds n σ).tmps) = gOk ops n σ o.guard := Proofs.YtaegacblpbbndaaDoor.wanted_mk ops n σ o
section
variable {P : Program} {ds : List Deferred} {n : Nat} {Q : Exit → (Nat → Value) → World → Prop} {σ : Nat → Value} {w : World}
theorem W_mono {c : Code} {Q' : Exit → (Nat → Value) → World → Prop} (h : W P ds n c Q σ w) (hq : ∀ e σ w, Q e σ w → Q' e σ w) : W P ds n c Q' σ w :=
  wp_mono h fun _ _ _ ⟨σ', ha, q⟩ => ⟨σ', ha, hq _ _ _ q⟩
theorem W_seq {x y : Code} (h : W P ds n x (seqQ (W P ds n y Q) Q) σ w) : W P ds n (.seq x y) Q σ w := by
  refine wp_seq (wp_mono h ?_)
  rintro e a w ⟨σ', rfl, q⟩
  cases e <;> first | exact q | exact ⟨σ', rfl, q⟩
theorem W_skip (h : Q .normal σ w) : W P ds n .skip Q σ w := wp_skip ⟨σ, rfl, h⟩
theorem W_ret (h : Q .ret σ w) : W P ds n .ret Q σ w := wp_ret ⟨σ, rfl, h⟩
theorem W_cond {c : Operand} {x y : Code} {t : Bool} (hc : ev n σ c = .bool t) (ht : t = true → W P ds n x Q σ w) (hf : t = false → W P ds n y Q σ w) :
    W P ds n (.cond c x y) Q σ w :=
  wp_cond_split (by rw [mk_eval]; exact hc) ht hf
theorem W_true {c : Operand} {x y : Code} (hc : ev n σ c = .bool true) (h : W P ds n x Q σ w) : W P ds n (.cond c x y) Q σ w :=
  wp_cond_true (by rw [mk_eval]; exact hc) h
theorem W_false {c : Operand} {x y : Code} (hc : ev n σ c = .bool false) (h : W P ds n y Q σ w) : W P ds n (.cond c x y) Q σ w :=
  wp_cond_false (by rw [mk_eval]; exact hc) h
theorem W_if {c : Operand} {x y : Code} {p : Prop} [Decidable p] (hc : ev n σ c = .bool (decide p)) (ht : p → W P ds n x Q σ w) (hf : ¬ p → W P ds n y Q σ w) :
    W P ds n (.cond c x y) Q σ w :=
  W_cond hc (fun h => ht (of_decide_eq_true h)) (fun h => hf (of_decide_eq_false h))
theorem W_reg {id : Nat} {l : List Oper} (h : WO P ds n l.toArray l Q σ w) : W P ds n (.region id l.toArray false) Q σ w := wp_region_lit h
theorem WO_nil {ops : Array Oper} (h : Q .normal σ w) : WO P ds n ops [] Q σ w := ⟨σ, rfl, h⟩
theorem WO_val {ops : Array Oper} {o : Oper} {rest : List Oper} {v : Value} {w' : World} (hg : gOk ops n σ o.guard = true)
    (h : (execOp (ev n σ) o).run P w = .ok (.value v) w') (next : WO P ds n ops rest Q (updo σ o.dst v) w') : WO P ds n ops (o :: rest) Q σ w := by
  unfold WO wpList
  rw [wanted_mk, hg, if_pos rfl]
  left
  unfold Oper.wp
  rw [mk_eval, h, Oper.upon_value, mk_put]
  exact next
theorem WO_same {ops : Array Oper} {o : Oper} {rest : List Oper} {v : Value} (hg : gOk ops n σ o.guard = true)
    (h : (execOp (ev n σ) o).run P w = .ok (.value v) w) (next : WO P ds n ops rest Q (updo σ o.dst v) w) : WO P ds n ops (o :: rest) Q σ w := WO_val hg h next
theorem WO_unit {ops : Array Oper} {o : Oper} {rest : List Oper} {w' : World} (hg : gOk ops n σ o.guard = true)
    (h : (execOp (ev n σ) o).run P w = .ok .skip w') (next : WO P ds n ops rest Q (updo σ o.dst undef) w') : WO P ds n ops (o :: rest) Q σ w := by
  unfold WO wpList
  rw [wanted_mk, hg, if_pos rfl]
  left
  unfold Oper.wp
  rw [mk_eval, h, Oper.upon_skip, mk_put]
  exact next
theorem WO_pass {ops : Array Oper} {o : Oper} {rest : List Oper} (hg : gOk ops n σ o.guard = false)
    (next : WO P ds n ops rest Q (updo σ o.dst undef) w) : WO P ds n ops (o :: rest) Q σ w := by
  unfold WO wpList
  rw [wanted_mk, hg, if_neg (by simp)]
  rw [mk_put]
  exact next
theorem WO_enter {ops : Array Oper} {o : Oper} {rest : List Oper} {f : FuncId} {args : Array Value} {w' : World} {R : Ending → World → Prop} (hg : gOk ops n σ o.guard = true)
    (h : (execOp (ev n σ) o).run P w = .ok (.enter f args) w') (hc : Calls P f args w' R)
    (next : ∀ v w'', R (.returned v) w'' → WO P ds n ops rest Q (updo σ o.dst v) w'')
    (nop : ∀ ch w'', R (.panicked ch) w'' → Q (.panic ch) σ w'')
    (noo : ∀ w'', ¬ R .outgrown w'') : WO P ds n ops (o :: rest) Q σ w := by
  unfold WO wpList
  rw [wanted_mk, hg, if_pos rfl]
  left
  unfold Oper.wp
  rw [mk_eval, h, Oper.upon_enter]
  refine hc.mono ?_
  intro e w'' hR
  cases e with
  | returned v => show wpList _ _ _ _ _ _; rw [mk_put]; exact next v w'' hR
  | panicked ch => exact ⟨σ, rfl, nop ch w'' hR⟩
  | outgrown => exact (noo w'' hR).elim
theorem WO_eq {ops : Array Oper} {l : List Oper} (t : Nat) {v v' : Value} (h : σ t = v) (e : v = v') (k : WO P ds n ops l Q (upd σ t v') w) : WO P ds n ops l Q σ w := by
  rw [upd_id (h.trans e)]; exact k
theorem WO_pure {ops : Array Oper} {o : Oper} {rest : List Oper} {v : Value} (hg : gOk ops n σ o.guard = true) (h : pureOp n σ o.op = some v)
    (next : WO P ds n ops rest Q (updo σ o.dst v) w) : WO P ds n ops (o :: rest) Q σ w := WO_val hg (pure_run h) next
theorem W_anchor {c : Code} {d : Nat} {v : Value} (h : σ d = v) (k : W P ds n c Q (upd σ d v) w) : W P ds n c Q σ w := by
  rw [upd_id h]; exact k
theorem WO_call {ops : Array Oper} {rest : List Oper} {f : FuncId} {ar : Array Operand} {ts : Array TypeId} {ty : TypeId} {ps : String} {dst : Option Tmp} {af : Array Edge} {g : Option (Nat × Bool)} {T : Value → World → Prop}
    (hg : gOk ops n σ g = true) (he : Enters P f) (hc : Calls P f (ar.toList.map (ev n σ)).toArray w (Ret T))
    (next : ∀ v w', T v w' → WO P ds n ops rest Q (updo σ dst v) w') :
    WO P ds n ops (⟨dst, .call { callee := .value (.func f), args := ar, argTypes := ts }, ty, ps, af, g⟩ :: rest) Q σ w := by
  refine WO_enter (R := Ret T) (w' := w) (f := f) (args := (ar.toList.map (ev n σ)).toArray) hg ?_ hc ?_ ?_ ?_
  · have : ar.map (ev n σ) = (ar.toList.map (ev n σ)).toArray := by
      apply Array.ext'; simp
    simp only [execOp, resolve, ev, this]
    have := he (List.map (ev n σ) ar.toList).toArray w
    simp [Deferred.ofValue, invoke, go_sem, this]
  · rintro v w'' ⟨v', hv, hT⟩; cases hv; exact next v w'' hT
  · rintro ch w'' ⟨v', hv, hT⟩; cases hv
  · rintro w'' ⟨v', hv, hT⟩; cases hv
theorem WO_seql {ops : Array Oper} {rest : List Oper} {dst : Option Tmp} {x y : Operand} {t t' ty : TypeId} {ps : String} {af : Array Edge} {g : Option (Nat × Bool)} {l1 l2 : List UInt8}
    (hg : gOk ops n σ g = true) (hx : ev n σ x = S l1) (hy : ev n σ y = S l2)
    (next : WO P ds n ops rest Q (updo σ dst ((.bool (decide (l1 = l2))))) w) : WO P ds n ops (⟨dst, .binOp .eql t x y t', ty, ps, af, g⟩ :: rest) Q σ w :=
  WO_val hg (R_seql hx hy) next
theorem WO_sneq {ops : Array Oper} {rest : List Oper} {dst : Option Tmp} {x y : Operand} {t t' ty : TypeId} {ps : String} {af : Array Edge} {g : Option (Nat × Bool)} {l1 l2 : List UInt8}
    (hg : gOk ops n σ g = true) (hx : ev n σ x = S l1) (hy : ev n σ y = S l2)
    (next : WO P ds n ops rest Q (updo σ dst ((.bool (!decide (l1 = l2))))) w) : WO P ds n ops (⟨dst, .binOp .neq t x y t', ty, ps, af, g⟩ :: rest) Q σ w :=
  WO_val hg (R_sneq hx hy) next
theorem WO_callp {ops : Array Oper} {rest : List Oper} {ch : List PanicEntry} {U : World → Prop} {f : FuncId} {ar : Array Operand} {ts : Array TypeId} {ty : TypeId} {ps : String} {dst : Option Tmp} {af : Array Edge} {g : Option (Nat × Bool)} {T : Value → World → Prop}
    (hg : gOk ops n σ g = true) (he : Enters P f) (hc : Calls P f (ar.toList.map (ev n σ)).toArray w (Pan ch T U))
    (pan : ∀ w', U w' → Q (.panic ch) σ w')
    (next : ∀ v w', T v w' → WO P ds n ops rest Q (updo σ dst v) w') :
    WO P ds n ops (⟨dst, .call { callee := .value (.func f), args := ar, argTypes := ts }, ty, ps, af, g⟩ :: rest) Q σ w := by
  refine WO_enter (R := Pan ch T U) (w' := w) (f := f) (args := (ar.toList.map (ev n σ)).toArray) hg ?_ hc ?_ ?_ ?_
  · have : ar.map (ev n σ) = (ar.toList.map (ev n σ)).toArray := by
      apply Array.ext'; simp
    simp only [execOp, resolve, ev, this]
    have := he (List.map (ev n σ) ar.toList).toArray w
    simp [Deferred.ofValue, invoke, go_sem, this]
  · rintro v w'' (⟨v', hv, hT⟩ | ⟨hv, _⟩)
    · cases hv; exact next v w'' hT
    · cases hv
  · rintro ch' w'' (⟨v', hv, hT⟩ | ⟨hv, hU⟩)
    · cases hv
    · cases hv; exact pan w'' hU
  · rintro w'' (⟨v', hv, hT⟩ | ⟨hv, hU⟩) <;> cases hv
end
section
variable {P : Program} {ds : List Deferred} {n : Nat} {Q : Exit → (Nat → Value) → World → Prop} {σ : Nat → Value} {w : World}
variable {ops : Array Oper} {rest : List Oper} {dst : Option Tmp} {ty : TypeId} {ps : String} {af : Array Edge} {g : Option (Nat × Bool)}
theorem WO_box {t : TypeId} {x : Operand} {v : Value} (hg : gOk ops n σ g = true) (hx : ev n σ x = v)
    (next : ∀ w', New w w' (.cells v.cells t) → WO P ds n ops rest Q (updo σ dst (.pointer (some ⟨w.heap.size, 0, none⟩))) w') :
    WO P ds n ops (⟨dst, .box t x, ty, ps, af, g⟩ :: rest) Q σ w := by
  refine WO_val hg ?_ (next _ rfl)
  simp [execOp, Instr.box, hx, newVar, newRow, go_sem]
theorem WO_alloc {t : TypeId} {v : Value} (hg : gOk ops n σ g = true) (hz : ∀ w, (zeroValue t).run P w = .ok v w)
    (next : ∀ w', New w w' (.cells v.cells t) → WO P ds n ops rest Q (updo σ dst (.pointer (some ⟨w.heap.size, 0, none⟩))) w') :
    WO P ds n ops (⟨dst, .alloc t, ty, ps, af, g⟩ :: rest) Q σ w := by
  refine WO_val hg ?_ (next _ rfl)
  simp [execOp, Instr.alloc, hz, newVar, newRow, go_sem]
theorem WO_load {t : TypeId} {d : TypeDesc} {x : Operand} {a : Addr} {v : Value} (hg : gOk ops n σ g = true) (hx : ev n σ x = .pointer (some a)) (ht : P.underlying t = some d) (hd : plainD d = true) (hc : w.cell? a = some v)
    (next : WO P ds n ops rest Q (updo σ dst (v)) w) : WO P ds n ops (⟨dst, .load t x, ty, ps, af, g⟩ :: rest) Q σ w :=
  WO_val hg (R_load hx ht hd hc) next
theorem WO_store {t : TypeId} {x y : Operand} {b o : Nat} {c : Array Value} {e : TypeId} {v : Value} (hg : gOk ops n σ g = true) (hx : ev n σ x = .pointer (some ⟨b, o, none⟩)) (hy : ev n σ y = v)
    (hs : ∀ w, (sizeOf t).run P w = .ok 1 w) (h1 : oneC v = true) (hb : w.heap[b]? = some (.cells c e (0, 0))) (ho : o < c.size)
    (next : ∀ w', Upd w w' b (.cells (c.setIfInBounds o v) e (0, 0)) → WO P ds n ops rest Q (updo σ dst undef) w') : WO P ds n ops (⟨dst, .store t x y, ty, ps, af, g⟩ :: rest) Q σ w := by
  have hcell : w.cell? ⟨b, o, none⟩ = some c[o] := cell_of hb (by simp [ho])
  have hfr : w.frozen? ⟨b, o, none⟩ = false := by simp [World.frozen?, hb]
  have hcs : v.cells = #[v] := by cases v <;> first | rfl | simp [oneC] at h1
  refine WO_unit (w' := w.setCell ⟨b, o, none⟩ v) hg ?_ (next _ ⟨rfl, rfl, rfl, by simp [World.setCell], ?_, ?_⟩)
  · cases v <;> first | (simp [oneC] at h1; done) | simp [execOp, Instr.storeAt, Instr.sureAddr, hx, hy, storeVar, hs, Value.cells, storeCells, store, Sem.run, hcell, hfr, Addr.add, go_sem]
  · have hlt := heap_lt hb
    have := (Array.getElem?_eq_some_iff.1 hb).2
    simp [World.setCell, Array.getElem?_modify, hb]
  · intro j hj
    simp [World.setCell, Array.getElem?_modify, Ne.symm hj]
theorem WO_storerow {t e : TypeId} {x y : Operand} {b o : Nat} {c c' : Array Value} (hg : gOk ops n σ g = true) (hx : ev n σ x = .pointer (some ⟨b, o, none⟩)) (hy : ev n σ y = .agg c')
    (hs : ∀ w, (sizeOf t).run P w = .ok c'.size w) (h1 : c'.all (·.oneCell') = true) (hb : w.heap[b]? = some (.cells c e (0, 0))) (ho : o + c'.size ≤ c.size)
    (next : ∀ w', Upd w w' b (.cells (c.toList.take o ++ c'.toList ++ c.toList.drop (o + c'.size)).toArray e (0, 0)) → WO P ds n ops rest Q (updo σ dst undef) w') : WO P ds n ops (⟨dst, .store t x y, ty, ps, af, g⟩ :: rest) Q σ w := by
  have hr := run_storeCells_at P b o e c'.toList 0 c w hb (by simpa using ho) (fun v hv => by rw [Array.all_eq_true_iff_forall_mem] at h1; exact h1 v (by simpa using hv))
  refine WO_unit (w' := w.setRow b (c.toList.take (o + 0) ++ c'.toList ++ c.toList.drop (o + 0 + c'.toList.length)).toArray) hg ?_ (next _ ⟨rfl, rfl, rfl, by simp [World.setRow], ?_, ?_⟩)
  · have hr' : (storeCells ⟨b, o, none⟩ c'.toList).run P w = .ok () (w.setRow b (c.toList.take (o + 0) ++ c'.toList ++ c.toList.drop (o + 0 + c'.toList.length)).toArray) := hr
    simp [execOp, Instr.storeAt, Instr.sureAddr, hx, hy, storeVar, hs, Value.cells, hr', go_sem]
  · rw [setRow_heap w b c _ e _ hb]; simp
  · intro j hj; exact setRow_other w b j _ hj
theorem WO_loadrow {t e : TypeId} {d : TypeDesc} {x : Operand} {b o m : Nat} {c : Array Value} {fr : Nat × Nat} (hg : gOk ops n σ g = true) (hx : ev n σ x = .pointer (some ⟨b, o, none⟩)) (ht : P.underlying t = some d) (hd : plainD d = false)
    (hs : ∀ w, (sizeOf t).run P w = .ok m w) (hb : w.heap[b]? = some (.cells c e fr)) (ho : o + m ≤ c.size)
    (next : WO P ds n ops rest Q (updo σ dst ((.agg ((c.toList.drop o).take m).toArray))) w) : WO P ds n ops (⟨dst, .load t x, ty, ps, af, g⟩ :: rest) Q σ w :=
  WO_val hg (R_loadrow hx ht hd hs hb ho) next
end
theorem W_any {P : Program} {ds : List Deferred} {n : Nat} {c : Code} {Q : Exit → Act → World → Prop} {σ : Nat → Value} {w : World} (h : W P ds n c (fun e σ w => Q e (mk ds n σ) w) σ w) : c.wp P Q (mk ds n σ) w := by
  refine wp_mono h ?_
  rintro e a w ⟨σ', rfl, q⟩; exact q
theorem wp_defer {P : Program} {n : Nat} {id : Nat} {o1 : Oper} {op : Op} {ty : TypeId} {ps : String} {af : Array Edge} {y : Code} {Q : Exit → Act → World → Prop} {σ : Nat → Value} {w : World} {v : Value} {d : Deferred}
    (hg1 : o1.guard = none) (h1 : (execOp (ev n σ) o1).run P w = .ok (.value v) w) (h2 : (execOp (ev n (updo σ o1.dst v)) ⟨none, op, ty, ps, af, none⟩).run P w = .ok (.defer d) w)
    (h : y.wp P Q (mk [d] n (updo σ o1.dst v)) w) : (Code.seq (.region id [o1, ⟨none, op, ty, ps, af, none⟩].toArray false) y).wp P Q (Proofs.YtaegacblpbbndaaDoor.mk n σ) w := by
  refine wp_seq (wp_region_lit ?_)
  unfold wpList
  rw [Proofs.YtaegacblpbbndaaDoor.wanted_mk, hg1, show ∀ o : Array Oper, gOk o n σ none = true from fun _ => rfl, if_pos rfl]
  left
  unfold Oper.wp
  rw [Proofs.YtaegacblpbbndaaDoor.mk_eval, h1, Oper.upon_value, Proofs.YtaegacblpbbndaaDoor.mk_put]
  unfold wpList
  rw [Proofs.YtaegacblpbbndaaDoor.wanted_mk, show ∀ (o : Array Oper) (σ : Nat → Value), gOk o n σ none = true from fun _ _ => rfl, if_pos rfl]
  left
  unfold Oper.wp
  rw [Proofs.YtaegacblpbbndaaDoor.mk_eval, h2, Oper.upon_defer]
  exact h
theorem leaves_cc {P : Program} {ds : List Deferred} {n : Nat} {σ : Nat → Value} {w : World} {fn : Func} {R : Ending → World → Prop} {t u : Nat} {ty ty2 e e2 : TypeId} {d d2 : TypeDesc} {b b2 : Nat} {c : Array Value} {fr fr2 : Nat × Nat} {v1 : Value}
    (hr : fn.results = #[.cell t ty, .cell u ty2]) (h0 : sl n σ t = .pointer (some ⟨b, 0, none⟩)) (ht : P.underlying ty = some d) (hd : plainD d = false) (hs : ∀ w, (sizeOf ty).run P w = .ok c.size w) (hb : w.heap[b]? = some (.cells c e fr))
    (h1 : sl n σ u = .pointer (some ⟨b2, 0, none⟩)) (ht2 : P.underlying ty2 = some d2) (hd2 : plainD d2 = true) (hb2 : w.heap[b2]? = some (.cells #[v1] e2 fr2)) (h : R (.returned (.tuple #[.agg c, v1])) w) : Leaves P fn (mk ds n σ).tmps R [] .returning w := by
  have ha : (isAgg ty).run P w = .ok true w := by cases d <;> simp_all [isAgg, run_underlying ht, plainD]
  refine ⟨_, ?_, h⟩
  have hl := run_loadCells_list (P := P) w ⟨b, 0, none⟩ c.toList (fun j v hj => by
    have hadd : (⟨b, 0, none⟩ : Addr).add j = ⟨b, 0 + j, none⟩ := by unfold Addr.add; split <;> simp_all
    rw [hadd, Nat.zero_add]; exact cell_of hb (by simpa using hj))
  simp only [loadCells] at hl
  simp only [Array.length_toList] at hl
  have hc : w.cell? ⟨b2, 0, none⟩ = some v1 := cell_of hb2 rfl
  have e0 := mk_getD ds n σ t; have e1 := mk_getD ds n σ u
  rw [Array.getD_eq_getD_getElem?] at e0 e1
  simp only [results, hr]
  simp [e0, e1, h0, h1, asAddr, loadVar, loadCells, ha, hs, hl, run_isAgg ht2 hd2, load, Sem.run, hc, go_sem]
end D
end Go.Proofs.YtaegacblpbbndaaDoor
end
section
namespace Go.Proofs.YtaegacblpbbndaaDoor
open Go Go.RowKit
theorem en_8 : Enters Tryd.prog 8 := enters_of Tryd.func8 (by kernel_rfl) rfl
theorem one_any (ws : List (List UInt8)) (hl : ws.length ≤ 8388608) (hx : ∀ x ∈ ws, x.length ≤ 8388608) : ∀ (n : Nat), n ≤ ws.length + 3 → OneSaid ws n := by
 have key : ∀ (k n : Nat), n ≤ ws.length + 3 → ws.length + 3 - n ≤ k → OneSaid ws n := by
  intro k
  induction k with
  | zero => exact fun n hn hk b txt w hb hR => one_step ws hl hx n hn (fun n' h1 h2 => by omega) b txt w hb hR
  | succ k ih => exact fun n hn hk b txt w hb hR => one_step ws hl hx n hn (fun n' h1 h2 => ih n' h2 (by omega)) b txt w hb hR
 exact fun n hn => key _ n hn (Nat.le_refl _)
theorem wordsN_ne : ∀ (n : Nat) (s : List UInt8), ∀ x ∈ wordsN n s, x ≠ []
 | 0, s => by simp [wordsN]
 | n + 1, s => by
  unfold wordsN
  split
  ·simp
  ·rename_i h
   intro x hx
   rcases List.mem_cons.1 hx with rfl | hx
   ·exact h
   ·exact wordsN_ne n _ x hx
theorem nonempty_word {s : List UInt8} {m : Nat} (h : m < (wordsOf s).length) : atW (wordsOf s) m ≠ [] := by
 rw [atW_lt h]; exact wordsN_ne _ s _ (nth_mem h)
theorem check_bad {t : DepT} (h : formB t = false) : checkE t = 50 := by unfold checkE; rw [if_neg (by rw [h]; simp)]
theorem parse_bad {s : List UInt8} {t : DepT} {m : Nat} (h : readA (wordsOf s) 0 = some (t, m)) (hm : (wordsOf s).length ≤ m) (hc : checkE t ≠ 0) : parseF s = (zeroT, checkE t) := by
 unfold parseF; rw [h]; simp only
 by_cases he : m = (wordsOf s).length
 ·rw [if_pos he, if_neg hc]
 ·rw [if_neg he, check_bad (readF_over h (by omega))]
theorem parse_good {s : List UInt8} {t : DepT} {m : Nat} (h : readA (wordsOf s) 0 = some (t, m)) (hm : (wordsOf s).length ≤ m) (hc : checkE t = 0) : parseF s = (t, 0) := by
 unfold parseF; rw [h]; simp only
 by_cases he : m = (wordsOf s).length
 ·rw [if_pos he, if_pos hc]
 ·rw [check_bad (readF_over h (by omega))] at hc; cases hc
set_option maxHeartbeats 400000 in
set_option maxRecDepth 100000 in
theorem catch_pan {p q : Nat} {x0 x1 x2 x3 x4 y : Value} {w : World} (hp : w.heap[p]? = some (.cells #[x0, x1, x2, x3, x4] 25 (0, 0))) (hq : w.heap[q]? = some (.cells #[y] 26 (0, 0))) (hpq : p ≠ q) :
  CallsD Tryd.prog 18 #[.pointer (some ⟨p, 0, none⟩), .pointer (some ⟨q, 0, none⟩)] (.panicking oddCh) w fun e u' w' => e = .returned (.tuple #[]) ∧ u' = .panicking [{ v := .iface 41 (.agg #[]), recovered := true }] ∧
   w'.heap[p]? = some (.cells #[.int .i64 0, S [], .int .i64 0, S [], .slice none 0 0] 25 (0, 0)) ∧ w'.heap[q]? = some (.cells #[.int .i64 50] 26 (0, 0)) ∧ ∀ B, B ≤ p → B ≤ q → Below B w w' := by
 unfold oddCh
 have hpl := heap_lt hp
 have hql := heap_lt hq
 refine callsD_of_wpS Tryd.func18 rfl fun c₀ cs hu => ?_
 apply wpS_seq
 apply wpS_region
 simp [wpOpsS, go_sem, recoverD, hu, Tryd.ntmps18, Exit.thenS]
 refine wpS_of_wp ?_
 rw [show ({ tmps := #[Value.pointer (some ⟨p, 0, none⟩), Value.pointer (some ⟨q, 0, none⟩)] ++ ((Array.replicate 14 undef).setIfInBounds 3 (.iface 41 (.agg #[]))).setIfInBounds 0 (.iface 41 (.agg #[])), defers := [] } : Act) = mk 16 (upd (upd (argσ [.pointer (some ⟨p, 0, none⟩), .pointer (some ⟨q, 0, none⟩)]) 5 (.iface 41 (.agg #[]))) 2 (.iface 41 (.agg #[]))) from by kernel_rfl]
 refine W_any ?_
 refine W_seq ?_
 refine W_reg ?_
 refine WO_pure (v := ((.iface 41 (.agg #[])))) rfl rfl ?_
 refine WO_same (v := .tuple #[.agg #[], .bool true]) rfl (by kernel_rfl) ?_
 refine WO_pure rfl rfl ?_
 refine WO_pure (v := (.agg #[])) rfl rfl ?_
 refine WO_pure (v := (.bool true)) rfl rfl ?_
 refine WO_alloc (v := (.agg #[])) rfl (fun _ => by kernel_rfl) (fun w1 n1 => ?_)
 have e1 : w1.heap[w.heap.size]? = some (.cells #[] 41 (0, 0)) := n1.here
 have z1 := n1.size
 have p2 := e1
 refine WO_storerow (b := w.heap.size) (o := 0) (c' := #[]) rfl rfl rfl (fun _ => by kernel_rfl) (by simp [Value.oneCell']) p2 (by simp) (fun w2 u2 => ?_)
 have e2 : w2.heap[w.heap.size]? = some (.cells #[] 41 (0, 0)) := u2.here
 have z2 := u2.size
 refine WO_pure (v := (.bool true)) rfl rfl ?_
 refine WO_nil ?_
 refine W_seq ?_
 refine W_reg ?_
 refine WO_pure (v := (.bool true)) rfl rfl ?_
 refine WO_nil ?_
 refine W_true rfl ?_
 refine W_reg ?_
 refine WO_same (v := (.agg #[(.int .i64 0), (S []), (.int .i64 0), (S []), (.slice none 0 0)])) rfl (by kernel_rfl) ?_
 have p3 := (u2.keep (n1.keep hp) (heap_ne (n1.keep hp) p2 (by decide)))
 refine WO_storerow (b := p) (o := 0) (c' := #[(.int .i64 0), (S []), (.int .i64 0), (S []), (.slice none 0 0)]) rfl rfl rfl (fun _ => by kernel_rfl) (by simp [Value.oneCell']) p3 (by simp) (fun w3 u3 => ?_)
 have e3 : w3.heap[p]? = some (.cells #[(.int .i64 0), (S []), (.int .i64 0), (S []), (.slice none 0 0)] 25 (0, 0)) := u3.here
 have z3 := u3.size
 have p4 := (u3.keep (u2.keep (n1.keep hq) (heap_ne (n1.keep hq) p2 (by decide))) (heap_ne (u2.keep (n1.keep hq) (heap_ne (n1.keep hq) p2 (by decide))) p3 (by decide)))
 refine WO_store (b := q) (o := 0) (v := (.int .i64 50)) rfl rfl rfl (fun _ => by kernel_rfl) rfl p4 (by simp) (fun w4 u4 => ?_)
 have e4 : w4.heap[q]? = some (.cells #[(.int .i64 50)] 26 (0, 0)) := u4.here
 have z4 := u4.size
 refine WO_nil ?_
 refine ⟨rfl, .panicking [{ v := .iface 41 (.agg #[]), recovered := true }], rfl, _, results_none rfl _ _ _, rfl, rfl, (u4.keep e3 (heap_ne e3 p4 (by decide))), e4, fun B hB1 hB2 => (u4.below (u3.below (u2.below (n1.below (Below.refl B w) (by omega)) (by omega)) (by omega)) (by omega))⟩
set_option maxHeartbeats 400000 in
set_option maxRecDepth 100000 in
theorem catch_idle (p q : Nat) (w : World) : CallsD Tryd.prog 18 #[.pointer (some ⟨p, 0, none⟩), .pointer (some ⟨q, 0, none⟩)] .returning w fun e u' w' => e = .returned (.tuple #[]) ∧ u' = .returning ∧ Below w.heap.size w w' := by
 refine callsD_of_wpS Tryd.func18 rfl fun c₀ cs hu => ?_
 apply wpS_seq
 apply wpS_region
 simp [wpOpsS, go_sem, recoverD, hu, Tryd.ntmps18, Exit.thenS]
 refine wpS_of_wp ?_
 rw [show ({ tmps := #[Value.pointer (some ⟨p, 0, none⟩), Value.pointer (some ⟨q, 0, none⟩)] ++ ((Array.replicate 14 undef).setIfInBounds 3 .nilIface).setIfInBounds 0 .nilIface, defers := [] } : Act) = mk 16 (upd (upd (argσ [.pointer (some ⟨p, 0, none⟩), .pointer (some ⟨q, 0, none⟩)]) 5 .nilIface) 2 .nilIface) from by kernel_rfl]
 refine W_any ?_
 refine W_seq ?_
 refine W_reg ?_
 refine WO_pure (v := (.nilIface)) rfl rfl ?_
 refine WO_same (v := .tuple #[.agg #[], .bool false]) rfl (by kernel_rfl) ?_
 refine WO_pure rfl rfl ?_
 refine WO_pure (v := (.agg #[])) rfl rfl ?_
 refine WO_pure (v := (.bool false)) rfl rfl ?_
 refine WO_alloc (v := (.agg #[])) rfl (fun _ => by kernel_rfl) (fun w1 n1 => ?_)
 have e1 : w1.heap[w.heap.size]? = some (.cells #[] 41 (0, 0)) := n1.here
 have z1 := n1.size
 have p2 := e1
 refine WO_storerow (b := w.heap.size) (o := 0) (c' := #[]) rfl rfl rfl (fun _ => by kernel_rfl) (by simp [Value.oneCell']) p2 (by simp) (fun w2 u2 => ?_)
 have e2 : w2.heap[w.heap.size]? = some (.cells #[] 41 (0, 0)) := u2.here
 have z2 := u2.size
 refine WO_pure (v := (.bool false)) rfl rfl ?_
 refine WO_nil ?_
 refine W_seq ?_
 refine W_reg ?_
 refine WO_pure (v := (.bool false)) rfl rfl ?_
 refine WO_nil ?_
 refine W_false rfl ?_
 refine W_seq ?_
 refine W_reg ?_
 refine WO_pure (v := (.nilIface)) rfl rfl ?_
 refine WO_same (v := .bool false) rfl (by kernel_rfl) ?_
 refine WO_nil ?_
 refine W_false rfl ?_
 refine W_skip ?_
 refine ⟨rfl, .returning, by cases c₀; simp_all, _, results_none rfl _ _ _, rfl, rfl, (u2.below (n1.below (Below.refl w.heap.size w) (Below.refl w.heap.size w).size) (by omega))⟩
set_option maxHeartbeats 2000000 in
set_option maxRecDepth 100000 in
theorem parse_any (s : List UInt8) (w : World) (hl : s.length ≤ 1048576) : Calls Tryd.prog 8 #[S s] w (Ret fun v w' => ParseIs w' (parseF s) v ∧ Below w.heap.size w w') := by
 have hwl := wordsOf_len s
 refine calls_of_wp_defers Tryd.func8 rfl ?_
 rw [show ({ tmps := #[S s] ++ Array.replicate (Tryd.f8.ntmps - #[S s].size) undef, defers := [] } : Act) = mk 28 (argσ [S s]) from by rw [Tryd.ntmps8]; kernel_rfl]
 refine W_top ?_
 refine W_reg ?_
 refine WO_alloc (v := (.agg #[(.int .i64 0), (S []), (.int .i64 0), (S []), (.slice none 0 0)])) rfl (fun _ => by kernel_rfl) (fun w1 n1 => ?_)
 have z1 := n1.size
 refine WO_alloc (v := .int .i64 0) rfl (fun _ => by kernel_rfl) (fun w2 n2 => ?_)
 have z2 := n2.size
 have e1 : w1.heap[w.heap.size]? = some (.cells #[(.int .i64 0), (S []), (.int .i64 0), (S []), (.slice none 0 0)] 25 (0, 0)) := n1.here
 have e2 : w2.heap[w1.heap.size]? = some (.cells #[.int .i64 0] 26 (0, 0)) := n2.here
 refine WO_nil ?_
 refine D.wp_defer (v := .func (.func 18) #[] #[(.pointer (some ⟨w.heap.size, 0, none⟩)), (.pointer (some ⟨w1.heap.size, 0, none⟩))]) (d := { target := .fn (.func 18) #[(.pointer (some ⟨w.heap.size, 0, none⟩)), (.pointer (some ⟨w1.heap.size, 0, none⟩))], args := #[] }) rfl (by kernel_rfl) (by kernel_rfl) ?_
 refine D.W_any ?_
 refine D.W_seq ?_
 refine D.W_reg ?_
 refine D.WO_pure (v := (S s)) rfl rfl ?_
 refine D.WO_same (v := (.agg #[(S s), (S [])])) rfl (by kernel_rfl) ?_
 refine D.WO_box (v := (.agg #[(S s), (S [])])) rfl rfl (fun w3 n3 => ?_)
 have e3 : w3.heap[w2.heap.size]? = some (.cells #[(S s), (S [])] 45 (0, 0)) := n3.here
 have z3 := n3.size
 refine D.WO_pure (v := (.pointer (some ⟨w2.heap.size, 0, none⟩))) rfl rfl ?_
 refine D.WO_nil ?_
 refine D.W_seq ?_
 refine D.W_reg ?_
 refine D.WO_pure (v := (.pointer (some ⟨w2.heap.size, 0, none⟩))) rfl rfl ?_
 refine D.WO_call rfl (by exact en_19) (next_any w2.heap.size s [] _ e3 (by omega)) ?_
 rintro _ wx ⟨hcx, gx⟩
 have z_x := gx.size
 have hst := Rep.start s (by omega)
 rw [hst.1] at hcx
 have z_wx := gx.size
 refine D.WO_nil ?_
 refine D.W_seq ?_
 refine D.W_reg ?_
 refine D.WO_pure (v := (.pointer (some ⟨w2.heap.size, 0, none⟩))) rfl rfl ?_
 refine D.WO_callp rfl (by exact en_20) (one_any (wordsOf s) (by omega) (fun x hx => by have := wordsOf_each s x hx; omega) 0 (by omega) w2.heap.size (nextW s).2 _ hcx hst.2) (by rintro wp hp; refine leaves_cons (f := 18) (args := #[(.pointer (some ⟨w.heap.size, 0, none⟩)), (.pointer (some ⟨w1.heap.size, 0, none⟩))]) (by simp) (by simp [go_sem]) ?_; refine (catch_pan (grown_keep hp.2 (grown_keep gx (n3.keep (n2.keep e1)) (by first | assumption | omega | (intro e; have e2 := Option.some.inj e; omega) | (simp; omega))) (by intro e; have e2 := Option.some.inj e; omega)) (grown_keep hp.2 (grown_keep gx (n3.keep e2) (by first | assumption | omega | (intro e; have e2 := Option.some.inj e; omega) | (simp; omega))) (by intro e; have e2 := Option.some.inj e; omega)) (by omega)).mono ?_; rintro e u' w'' ⟨rfl, rfl, hh1, hh2, hh3⟩; exact D.leaves_cc rfl rfl Tryd.underlying25 rfl (fun _ => by kernel_rfl) hh1 rfl Tryd.underlying26 rfl hh2 ⟨_, rfl, parseIs_zero (by unfold parseF; rw [hp.1]), (Below.trans (grown_below hp.2 (grown_below gx (n3.below (n2.below (n1.below (Below.refl w.heap.size w) (Below.refl w.heap.size w).size) (n1.below (Below.refl w.heap.size w) (Below.refl w.heap.size w).size).size) (n2.below (n1.below (Below.refl w.heap.size w) (Below.refl w.heap.size w).size) (n1.below (Below.refl w.heap.size w) (Below.refl w.heap.size w).size).size).size) (by intro k hk; cases hk; omega)) (by intro k hk; cases hk; omega)) (hh3 _ (by omega) (by omega)))⟩) ?_
 rintro _ woz ⟨kz, opz, nmz, evz, asz, mz, txz, svz, cssz, hrz, rfl, rxz, axz, htz, hRz, goz⟩
 have z_z := goz.size
 have hmz := readA_le hrz
 have hqz := read_size hrz hl
 have z_woz := goz.size
 refine D.WO_alloc (v := (.agg #[(.int .i64 0), (S []), (.int .i64 0), (S []), (.slice none 0 0)])) rfl (fun _ => by kernel_rfl) (fun w4 n4 => ?_)
 have e4 : w4.heap[woz.heap.size]? = some (.cells #[(.int .i64 0), (S []), (.int .i64 0), (S []), (.slice none 0 0)] 25 (0, 0)) := n4.here
 have z4 := n4.size
 have p5 := e4
 refine D.WO_storerow (b := woz.heap.size) (o := 0) (c' := #[(.int .i64 kz), (S nmz), (.int .i64 opz), (S evz), svz]) rfl rfl rfl (fun _ => by kernel_rfl) (by rw [Array.all_eq_true_iff_forall_mem]; intro v hv; simp only [List.mem_toArray, List.mem_cons, List.not_mem_nil, or_false] at hv; rcases hv with hv | hv | hv | hv | hv <;> (rw [hv]; first | rfl | exact oneCell_is (rxz.1.ext n4.ext))) p5 (by simp) (fun w5 u5 => ?_)
 have e5 : w5.heap[woz.heap.size]? = some (.cells #[(.int .i64 kz), (S nmz), (.int .i64 opz), (S evz), svz] 25 (0, 0)) := u5.here
 have z5 := u5.size
 refine D.WO_nil ?_
 refine D.W_seq ?_
 refine D.W_reg ?_
 refine D.WO_pure (v := (.pointer (some ⟨w2.heap.size, 0, none⟩))) rfl rfl ?_
 refine D.WO_pure (v := (.pointer (some ⟨w2.heap.size, 0, none⟩))) rfl rfl ?_
 refine D.WO_same (v := (.pointer (some ⟨w2.heap.size, 1, none⟩))) rfl (by kernel_rfl) ?_
 refine D.WO_load (a := ⟨w2.heap.size, 1, none⟩) (v := (S ((atW (wordsOf s) mz)))) rfl rfl Tryd.underlying9 rfl (cell_of (u5.keep (n4.keep htz) (heap_ne (n4.keep htz) p5 (by decide))) rfl) ?_
 refine D.WO_seql (l1 := (atW (wordsOf s) mz)) (l2 := []) rfl rfl rfl ?_
 refine D.WO_callp rfl (by exact en_21) (need_any (decide ((atW (wordsOf s) mz) = [])) _) (by rintro wp ⟨w_ok, rfl⟩; refine leaves_cons (f := 18) (args := #[(.pointer (some ⟨w.heap.size, 0, none⟩)), (.pointer (some ⟨w1.heap.size, 0, none⟩))]) (by simp) (by simp [go_sem]) ?_; refine (catch_pan (u5.keep (n4.keep (grown_keep goz (grown_keep gx (n3.keep (n2.keep e1)) (by first | assumption | omega | (intro e; have e2 := Option.some.inj e; omega) | (simp; omega))) (by first | assumption | omega | (intro e; have e2 := Option.some.inj e; omega) | (simp; omega)))) (by first | assumption | omega | (simp; omega))) (u5.keep (n4.keep (grown_keep goz (grown_keep gx (n3.keep e2) (by first | assumption | omega | (intro e; have e2 := Option.some.inj e; omega) | (simp; omega))) (by first | assumption | omega | (intro e; have e2 := Option.some.inj e; omega) | (simp; omega)))) (heap_ne (n4.keep (grown_keep goz (grown_keep gx (n3.keep e2) (by first | assumption | omega | (intro e; have e2 := Option.some.inj e; omega) | (simp; omega))) (by first | assumption | omega | (intro e; have e2 := Option.some.inj e; omega) | (simp; omega)))) p5 (by decide))) (by omega)).mono ?_; rintro e u' w'' ⟨rfl, rfl, hh1, hh2, hh3⟩; exact D.leaves_cc rfl rfl Tryd.underlying25 rfl (fun _ => by kernel_rfl) hh1 rfl Tryd.underlying26 rfl hh2 ⟨_, rfl, parseIs_zero (by unfold parseF; rw [hrz]; simp only; rw [if_neg (fun e => by rw [atW_ge (by omega)] at w_ok; simp at w_ok)]), (Below.trans (u5.below (n4.below (grown_below goz (grown_below gx (n3.below (n2.below (n1.below (Below.refl w.heap.size w) (Below.refl w.heap.size w).size) (n1.below (Below.refl w.heap.size w) (Below.refl w.heap.size w).size).size) (n2.below (n1.below (Below.refl w.heap.size w) (Below.refl w.heap.size w).size) (n1.below (Below.refl w.heap.size w) (Below.refl w.heap.size w).size).size).size) (by intro k hk; cases hk; omega)) (by intro k hk; cases hk; omega)) (grown_below goz (grown_below gx (n3.below (n2.below (n1.below (Below.refl w.heap.size w) (Below.refl w.heap.size w).size) (n1.below (Below.refl w.heap.size w) (Below.refl w.heap.size w).size).size) (n2.below (n1.below (Below.refl w.heap.size w) (Below.refl w.heap.size w).size) (n1.below (Below.refl w.heap.size w) (Below.refl w.heap.size w).size).size).size) (by intro k hk; cases hk; omega)) (by intro k hk; cases hk; omega)).size) (by omega)) (hh3 _ (by omega) (by omega)))⟩) ?_
 rintro _ _ ⟨w_ok, rfl, rfl⟩
 have hge : (wordsOf s).length ≤ mz := Decidable.byContradiction fun h => nonempty_word (s := s) (m := mz) (by omega) (by simpa using w_ok)
 refine D.WO_nil ?_
 refine D.W_seq ?_
 refine D.W_seq ?_
 refine D.W_reg ?_
 refine D.WO_loadrow (b := woz.heap.size) (o := 0) (m := 5) (c := #[(.int .i64 kz), (S nmz), (.int .i64 opz), (S evz), svz]) rfl rfl Tryd.underlying25 rfl (fun _ => by kernel_rfl) e5 (by simp) ?_
 refine D.WO_eq 21 (v' := (.agg #[(.int .i64 kz), (S nmz), (.int .i64 opz), (S evz), svz])) rfl rfl ?_
 refine D.WO_call rfl (by exact en_14) (check_any (DepT.mk kz nmz opz evz asz) _ (DepC.ext (u5.below (n4.below (Below.refl woz.heap.size woz) (Below.refl woz.heap.size woz).size) (by omega)) _ _ (DepX.toC _ _ (DepX.intro (k := kz) (op := opz) (nm := nmz) (ev := evz) rxz axz))) hqz) ?_
 rintro _ wk ⟨rfl, bk⟩
 have z_k := bk.size
 have z_wk := bk.size
 refine D.WO_pure (v := (.int .i64 (checkE (DepT.mk kz nmz opz evz asz)))) rfl rfl ?_
 refine D.WO_nil ?_
 refine D.W_seq ?_
 refine D.W_reg ?_
 refine D.WO_pure (v := (.int .i64 (checkE (DepT.mk kz nmz opz evz asz)))) rfl rfl ?_
 refine D.WO_pure (v := (.bool (!decide ((checkE (DepT.mk kz nmz opz evz asz)) = 0)))) rfl rfl ?_
 refine D.WO_nil ?_
 refine D.W_cond (t := !decide ((checkE (DepT.mk kz nmz opz evz asz)) = 0)) rfl (fun c1 => ?_) (fun c1 => ?_)
 ·refine D.W_seq ?_
  refine D.W_reg ?_
  refine D.WO_same (v := (.agg #[(.int .i64 0), (S []), (.int .i64 0), (S []), (.slice none 0 0)])) rfl (by kernel_rfl) ?_
  refine D.WO_pure (v := (.int .i64 (checkE (DepT.mk kz nmz opz evz asz)))) rfl rfl ?_
  have p6 := (below_keep bk (u5.keep (n4.keep (grown_keep goz (grown_keep gx (n3.keep (n2.keep e1)) (by first | assumption | omega | (intro e; have e2 := Option.some.inj e; omega) | (simp; omega))) (by first | assumption | omega | (intro e; have e2 := Option.some.inj e; omega) | (simp; omega)))) (by first | assumption | omega | (simp; omega))))
  refine D.WO_storerow (b := w.heap.size) (o := 0) (c' := #[(.int .i64 0), (S []), (.int .i64 0), (S []), (.slice none 0 0)]) rfl rfl rfl (fun _ => by kernel_rfl) (by simp [Value.oneCell']) p6 (by simp) (fun w6 u6 => ?_)
  have e6 : w6.heap[w.heap.size]? = some (.cells #[(.int .i64 0), (S []), (.int .i64 0), (S []), (.slice none 0 0)] 25 (0, 0)) := u6.here
  have z6 := u6.size
  have p7 := (u6.keep (below_keep bk (u5.keep (n4.keep (grown_keep goz (grown_keep gx (n3.keep e2) (by first | assumption | omega | (intro e; have e2 := Option.some.inj e; omega) | (simp; omega))) (by first | assumption | omega | (intro e; have e2 := Option.some.inj e; omega) | (simp; omega)))) (heap_ne (n4.keep (grown_keep goz (grown_keep gx (n3.keep e2) (by first | assumption | omega | (intro e; have e2 := Option.some.inj e; omega) | (simp; omega))) (by first | assumption | omega | (intro e; have e2 := Option.some.inj e; omega) | (simp; omega)))) p5 (by decide)))) (heap_ne (below_keep bk (u5.keep (n4.keep (grown_keep goz (grown_keep gx (n3.keep e2) (by first | assumption | omega | (intro e; have e2 := Option.some.inj e; omega) | (simp; omega))) (by first | assumption | omega | (intro e; have e2 := Option.some.inj e; omega) | (simp; omega)))) (heap_ne (n4.keep (grown_keep goz (grown_keep gx (n3.keep e2) (by first | assumption | omega | (intro e; have e2 := Option.some.inj e; omega) | (simp; omega))) (by first | assumption | omega | (intro e; have e2 := Option.some.inj e; omega) | (simp; omega)))) p5 (by decide)))) p6 (by decide)))
  refine D.WO_store (b := w1.heap.size) (o := 0) (v := (.int .i64 (checkE (DepT.mk kz nmz opz evz asz)))) rfl rfl rfl (fun _ => by kernel_rfl) rfl p7 (by simp) (fun w7 u7 => ?_)
  have e7 : w7.heap[w1.heap.size]? = some (.cells #[(.int .i64 (checkE (DepT.mk kz nmz opz evz asz)))] 26 (0, 0)) := u7.here
  have z7 := u7.size
  refine D.WO_nil ?_
  refine D.W_ret ?_
  refine leaves_cons (f := 18) (args := #[(.pointer (some ⟨w.heap.size, 0, none⟩)), (.pointer (some ⟨w1.heap.size, 0, none⟩))]) (by simp) (by simp [go_sem]) ?_
  refine (catch_idle _ _ _).mono ?_
  rintro e u' w'' ⟨rfl, rfl, hh⟩
  exact D.leaves_cc rfl rfl Tryd.underlying25 rfl (fun _ => by kernel_rfl) (below_keep hh (u7.keep e6 (heap_ne e6 p7 (by decide)))) rfl Tryd.underlying26 rfl (below_keep hh e7) ⟨_, rfl, parseIs_zero (parse_bad hrz hge (by simpa using c1)), below_ext (u7.below (u6.below (below_ext (u5.below (n4.below (grown_below goz (grown_below gx (n3.below (n2.below (n1.below (Below.refl w.heap.size w) (Below.refl w.heap.size w).size) (n1.below (Below.refl w.heap.size w) (Below.refl w.heap.size w).size).size) (n2.below (n1.below (Below.refl w.heap.size w) (Below.refl w.heap.size w).size) (n1.below (Below.refl w.heap.size w) (Below.refl w.heap.size w).size).size).size) (by intro k hk; cases hk; omega)) (by intro k hk; cases hk; omega)) (grown_below goz (grown_below gx (n3.below (n2.below (n1.below (Below.refl w.heap.size w) (Below.refl w.heap.size w).size) (n1.below (Below.refl w.heap.size w) (Below.refl w.heap.size w).size).size) (n2.below (n1.below (Below.refl w.heap.size w) (Below.refl w.heap.size w).size) (n1.below (Below.refl w.heap.size w) (Below.refl w.heap.size w).size).size).size) (by intro k hk; cases hk; omega)) (by intro k hk; cases hk; omega)).size) (by omega)) bk) (by omega)) (by omega)) hh⟩
 ·refine D.W_skip ?_
  refine D.W_seq ?_
  refine D.W_reg ?_
  refine D.WO_loadrow (b := woz.heap.size) (o := 0) (m := 5) (c := #[(.int .i64 kz), (S nmz), (.int .i64 opz), (S evz), svz]) rfl rfl Tryd.underlying25 rfl (fun _ => by kernel_rfl) (below_keep bk e5) (by simp) ?_
  refine D.WO_eq 27 (v' := (.agg #[(.int .i64 kz), (S nmz), (.int .i64 opz), (S evz), svz])) rfl rfl ?_
  have p8 := (below_keep bk (u5.keep (n4.keep (grown_keep goz (grown_keep gx (n3.keep (n2.keep e1)) (by first | assumption | omega | (intro e; have e2 := Option.some.inj e; omega) | (simp; omega))) (by first | assumption | omega | (intro e; have e2 := Option.some.inj e; omega) | (simp; omega)))) (by first | assumption | omega | (simp; omega))))
  refine D.WO_storerow (b := w.heap.size) (o := 0) (c' := #[(.int .i64 kz), (S nmz), (.int .i64 opz), (S evz), svz]) rfl rfl rfl (fun _ => by kernel_rfl) (by rw [Array.all_eq_true_iff_forall_mem]; intro v hv; simp only [List.mem_toArray, List.mem_cons, List.not_mem_nil, or_false] at hv; rcases hv with hv | hv | hv | hv | hv <;> (rw [hv]; first | rfl | exact oneCell_is (rxz.1.ext (below_ext (u5.below (n4.below (Below.refl woz.heap.size woz) (Below.refl woz.heap.size woz).size) (by omega)) bk)))) p8 (by simp) (fun w8 u8 => ?_)
  have e8 : w8.heap[w.heap.size]? = some (.cells #[(.int .i64 kz), (S nmz), (.int .i64 opz), (S evz), svz] 25 (0, 0)) := u8.here
  have z8 := u8.size
  have p9 := (u8.keep (below_keep bk (u5.keep (n4.keep (grown_keep goz (grown_keep gx (n3.keep e2) (by first | assumption | omega | (intro e; have e2 := Option.some.inj e; omega) | (simp; omega))) (by first | assumption | omega | (intro e; have e2 := Option.some.inj e; omega) | (simp; omega)))) (heap_ne (n4.keep (grown_keep goz (grown_keep gx (n3.keep e2) (by first | assumption | omega | (intro e; have e2 := Option.some.inj e; omega) | (simp; omega))) (by first | assumption | omega | (intro e; have e2 := Option.some.inj e; omega) | (simp; omega)))) p5 (by decide)))) (heap_ne (below_keep bk (u5.keep (n4.keep (grown_keep goz (grown_keep gx (n3.keep e2) (by first | assumption | omega | (intro e; have e2 := Option.some.inj e; omega) | (simp; omega))) (by first | assumption | omega | (intro e; have e2 := Option.some.inj e; omega) | (simp; omega)))) (heap_ne (n4.keep (grown_keep goz (grown_keep gx (n3.keep e2) (by first | assumption | omega | (intro e; have e2 := Option.some.inj e; omega) | (simp; omega))) (by first | assumption | omega | (intro e; have e2 := Option.some.inj e; omega) | (simp; omega)))) p5 (by decide)))) p8 (by decide)))
  refine D.WO_store (b := w1.heap.size) (o := 0) (v := (.int .i64 0)) rfl rfl rfl (fun _ => by kernel_rfl) rfl p9 (by simp) (fun w9 u9 => ?_)
  have e9 : w9.heap[w1.heap.size]? = some (.cells #[(.int .i64 0)] 26 (0, 0)) := u9.here
  have z9 := u9.size
  refine D.WO_nil ?_
  refine D.W_ret ?_
  refine leaves_cons (f := 18) (args := #[(.pointer (some ⟨w.heap.size, 0, none⟩)), (.pointer (some ⟨w1.heap.size, 0, none⟩))]) (by simp) (by simp [go_sem]) ?_
  refine (catch_idle _ _ _).mono ?_
  rintro e u' w'' ⟨rfl, rfl, hh⟩
  have hpf : parseF s = (DepT.mk kz nmz opz evz asz, 0) := parse_good hrz hge (by simpa using c1)
  exact D.leaves_cc rfl rfl Tryd.underlying25 rfl (fun _ => by kernel_rfl) (below_keep hh (u9.keep e8 (heap_ne e8 p9 (by decide)))) rfl Tryd.underlying26 rfl (below_keep hh e9) ⟨_, rfl, (by rw [hpf]; exact ⟨_, rfl, DepC.ext hh _ _ (DepX.toC _ _ (DepX.go (q := fun _ => True) (fun b hb hp => by change _ ≤ b at hp; exact ⟨trivial, ((u9.block b (by first | assumption | omega | (intro e; have e2 := Option.some.inj e; omega) | (intro e; simp_all; done) | (intro e; simp_all; omega))).trans ((u8.block b (by first | assumption | omega | (intro e; have e2 := Option.some.inj e; omega) | (intro e; simp_all; done) | (intro e; simp_all; omega))).trans ((bk.block b (by omega)).trans ((u5.block b (by first | assumption | omega | (intro e; have e2 := Option.some.inj e; omega) | (intro e; simp_all; done) | (intro e; simp_all; omega))).trans (n4.ext.block b (by omega))))))⟩) (by omega) _ _ (DepX.intro (k := kz) (op := opz) (nm := nmz) (ev := evz) rxz axz)))⟩), below_ext (u9.below (u8.below (below_ext (u5.below (n4.below (grown_below goz (grown_below gx (n3.below (n2.below (n1.below (Below.refl w.heap.size w) (Below.refl w.heap.size w).size) (n1.below (Below.refl w.heap.size w) (Below.refl w.heap.size w).size).size) (n2.below (n1.below (Below.refl w.heap.size w) (Below.refl w.heap.size w).size) (n1.below (Below.refl w.heap.size w) (Below.refl w.heap.size w).size).size).size) (by intro k hk; cases hk; omega)) (by intro k hk; cases hk; omega)) (grown_below goz (grown_below gx (n3.below (n2.below (n1.below (Below.refl w.heap.size w) (Below.refl w.heap.size w).size) (n1.below (Below.refl w.heap.size w) (Below.refl w.heap.size w).size).size) (n2.below (n1.below (Below.refl w.heap.size w) (Below.refl w.heap.size w).size) (n1.below (Below.refl w.heap.size w) (Below.refl w.heap.size w).size).size).size) (by intro k hk; cases hk; omega)) (by intro k hk; cases hk; omega)).size) (by omega)) bk) (by omega)) (by omega)) hh⟩
end Go.Proofs.YtaegacblpbbndaaDoor
end
section
namespace Go.Proofs.YtaegacblpbbndaaDoor
open Go Go.RowKit
theorem parseIs_mk {w : World} {k op er : Int} {nm ev : List UInt8} {args : List DepT} {v : Value} (h : ParseIs w (.mk k nm op ev args, er) v) : ∃ (sv : Value) (css : List (List Value)), v = .tuple #[.agg #[.int .i64 k, S nm, .int .i64 op, S ev, sv], .int .i64 er] ∧ RowIs w sv args.length 5 css.flatten ∧ ArgsC w args css := by
 obtain ⟨cs, rfl, h⟩ := h
 unfold DepC at h
 obtain ⟨sv, css, rfl, h1, h2⟩ := h
 exact ⟨sv, css, rfl, h1, h2⟩
theorem depC_mk {w : World} {k op : Int} {nm ev : List UInt8} {args : List DepT} {sv : Value} {css : List (List Value)} (h1 : RowIs w sv args.length 5 css.flatten) (h2 : ArgsC w args css) : DepC w (.mk k nm op ev args) [.int .i64 k, S nm, .int .i64 op, S ev, sv] := by
 unfold DepC
 exact ⟨sv, css, rfl, h1, h2⟩
theorem zero_size : zeroT.size ≤ 4194304 := by decide
theorem parse_size {s : List UInt8} (hl : s.length ≤ 1048576) : (parseF s).1.size ≤ 4194304 := by
 unfold parseF
 split
 ·exact zero_size
 ·rename_i t m h
  have := read_size h hl
  repeat' split
  all_goals first | exact this | exact zero_size
theorem same_self {w : World} {d : DepT} {cs cs' : List Value} (h : DepC w d cs) (h' : DepC w d cs') (hs : d.size ≤ 4194304) : Calls Tryd.prog 10 #[.agg cs.toArray, .agg cs'.toArray] w (Ret fun v w' => v = .bool true ∧ Below w.heap.size w w') := by
 have h0 := same_any d d w cs cs' h h' hs hs
 rw [(sameB_eq d d).2 rfl] at h0
 exact h0
end Go.Proofs.YtaegacblpbbndaaDoor
end
section
namespace Go.Proofs.YtaegacblpbbndaaDoor
open Go Go.RowKit
def Bld (w : World) (b : Nat) (l : List UInt8) : Prop :=
  ∃ p v, (p = .pointer none ∨ p = .pointer (some ⟨b, 0, none⟩)) ∧ w.heap[b]? = some (.cells #[p, v] 57 (0, 0)) ∧ w.ownsRow b 5 1 v l.length (Lib.byteCells l)
def Kept (b : Nat) (w w' : World) : Prop := Below b w w' ∧ Lib.OthersKept 5 (some b) w w'
section
variable {w w' w0 : World} {b k : Nat} {l : List UInt8} {o : Obj}
theorem Kept.refl (b : Nat) (w : World) : Kept b w w := ⟨Below.refl _ _, Lib.OthersKept.refl _ _ _⟩
theorem Kept.trans (h : Kept b w0 w) (k : Kept b w w') : Kept b w0 w' := ⟨h.1.trans k.1, h.2.trans k.2⟩
theorem Kept.size (h : Kept b w w') : w.heap.size ≤ w'.heap.size := h.1.size
theorem kept_ext (h : Kept b w0 w) (e : Below w.heap.size w w') (hb : b ≤ w.heap.size) : Kept b w0 w' :=
  ⟨h.1.trans (e.mono hb), fun i o hi hne ho => by
    have h1 := h.2 i o hi hne ho
    rw [e.block i (heap_lt h1)]; exact h1⟩
theorem kept_grown (h : Kept b w0 w) (g : w.grownBy w' (some b)) (hb : b ≤ w.heap.size) : Kept b w0 w' :=
  ⟨h.1.grown g hb (fun k hk => by cases hk; exact Nat.le_refl _), fun i o hi hne ho => by
    have h1 := h.2 i o hi hne ho
    rw [g.block i (heap_lt h1) hne]; exact h1⟩
theorem kept_own {v : Value} {m : Nat} {xs : List Value} (h : Kept b w0 w) (ow : w.ownsRow b 5 1 v m xs) (g : w.grownBy w' v.ownBlock) (hb : b ≤ w.heap.size) : Kept b w0 w' :=
  ⟨h.1.grown g hb (fun k hk => (ow.lt k hk).1), h.2.grown g (fun i hi => by
    rcases ow.2 with ⟨rfl, _⟩ | ⟨g', cap, cur, rfl, _, hg, _⟩
    · simp [Value.ownBlock] at hi
    · simp only [Value.ownBlock, Option.some.injEq] at hi
      subst hi; exact ⟨_, _, hg⟩)⟩
theorem kept_updb (h : Kept b w0 w) (u : Upd w w' b o) : Kept b w0 w' :=
  ⟨⟨u.os.trans h.1.os, u.tape.trans h.1.tape, u.output.trans h.1.output, by rw [u.size]; exact h.1.size, fun k hk => (u.block k (by omega)).trans (h.1.block k hk)⟩, fun i o hi hne ho => by
    have h1 := h.2 i o hi hne ho
    rw [u.block i (fun e => hne (by rw [e]))]; exact h1⟩
theorem kept_updo (h : Kept b w0 w) (u : Upd w w' k o) (hk : w0.heap.size ≤ k ∧ b ≤ k) : Kept b w0 w' :=
  ⟨⟨u.os.trans h.1.os, u.tape.trans h.1.tape, u.output.trans h.1.output, by rw [u.size]; exact h.1.size, fun j hj => (u.block j (by omega)).trans (h.1.block j hj)⟩, fun i o hi hne ho => by
    have h1 := h.2 i o hi hne ho
    have := heap_lt hi
    rw [u.block i (by omega)]; exact h1⟩
theorem kept_keep' {c : Array Value} {T : TypeId} {fr : Nat × Nat} (kp : Kept b w w') (h : w.heap[k]? = some (.cells c T fr)) (hT : T ≠ 5) (hne : k ≠ b) : w'.heap[k]? = some (.cells c T fr) :=
  kp.2 k _ h (fun e => hne (Option.some.inj e)) (fun c' fz e => hT (by cases e; rfl))
theorem kept_bel {B : Nat} (H : Below B w0 w) (k : Kept b w w') (hB : B ≤ b) : Below B w0 w' := H.trans (k.1.mono hB)
theorem Bld.lt (h : Bld w b l) : b < w.heap.size := by obtain ⟨p, v, _, h1, _⟩ := h; exact heap_lt h1
theorem Bld.ext (h : Bld w b l) (e : Below w.heap.size w w') : Bld w' b l := by
  obtain ⟨p, v, hp, h1, h2⟩ := h
  exact ⟨p, v, hp, below_keep e h1, below_owns e h2⟩
theorem Bld.kit (h : Bld w b l) : Lib.IsBuilderF 57 5 b b (Lib.byteCells l) w := by
  obtain ⟨p, v, hp, h1, h2⟩ := h
  have hne : v.ownBlock ≠ some b := own_ne_cell h2 h1 (by decide)
  have hl : l.length = (Lib.byteCells l).length := by rw [Lib.byteCells_length]
  rw [hl] at h2
  rcases hp with rfl | rfl
  · exact .inl (Lib.BuilderAtF.of ⟨Nat.le_refl _, v, h1, h2, hne⟩)
  · exact .inr (Lib.BuilderAtF.of ⟨Nat.le_refl _, v, h1, h2, hne⟩)
theorem Bld.fresh (h : w.heap[b]? = some (.cells #[.pointer none, .slice none 0 0] 57 (0, 0))) : Bld w b [] :=
  ⟨_, _, .inl rfl, h, ⟨by simp [Lib.byteCells], .inl ⟨rfl, rfl⟩⟩⟩
end
section
variable {P : Program} {n : Nat} {Q : Exit → (Nat → Value) → World → Prop} {σ : Nat → Value} {w : World}
variable {ops : Array Oper} {rest : List Oper} {dst : Option Tmp} {ty : TypeId} {ps : String} {af : Array Edge} {g : Option (Nat × Bool)}
theorem WO_appendstr {t u e : TypeId} {x y : Operand} {v : Value} {base m : Nat} {xs : List Value} {l : List UInt8}
    (hg : gOk ops n σ g = true) (hx : ev n σ x = v) (hy : ev n σ y = S l) (ht : P.underlying t = some (.slice e)) (hu : P.underlying u = some .string)
    (hi : (P.info? e).map (fun i => (i.zero, i.size, i.bytes)) = some (some (.int .u8 0), 1, 1)) (hown : w.ownsRow base e 1 v m xs)
    (hb : m + l.length ≤ 140737488355328) (hbase : base ≤ w.heap.size)
    (next : ∀ v' w', w'.ownsRow base e 1 v' (m + l.length) (xs ++ Lib.byteCells l) → w.grownBy w' v.ownBlock → WO P n ops rest Q (updo σ dst v') w') :
    WO P n ops (⟨dst, .call { callee := .builtin .append, args := #[x, y], argTypes := #[t, u] }, ty, ps, af, g⟩ :: rest) Q σ w := by
  obtain ⟨i, hi, h'⟩ := Option.map_eq_some_iff.1 hi
  simp only [Prod.mk.injEq] at h'
  obtain ⟨hz, hsize, hby⟩ := h'
  have hs : (⟨l.toArray⟩ : ByteArray).size = l.length := by simp [ByteArray.size]
  obtain ⟨v', w', hr, h2, h3, _⟩ := Lib.run_append_own_string (P := P) w base t u ty e i ht hu hi hz hsize hby v m xs hown ⟨l.toArray⟩ (by unfold maxLen; omega) (by omega) hbase
  rw [hs, Lib.strCells_toArray] at h2
  refine WO_val hg ?_ (next v' w' h2 h3)
  simp only [execOp, resolve, invoke, builtin, Sem.run_bind, Sem.run_pure, Result.andThen_ok, List.map_toArray, List.map_cons, List.map_nil, hx, hy, S, hr]
theorem WO_pnesame {t u te : TypeId} {x y : Operand} {j : TypeInfo} {a : Addr} (hg : gOk ops n σ g = true) (hx : ev n σ x = .pointer (some a)) (hy : ev n σ y = .pointer (some a))
    (hp : P.underlying t = some (.pointer te)) (hte : P.info? te = some j) (next : WO P n ops rest Q (updo σ dst (.bool false)) w) :
    WO P n ops (⟨dst, .binOp .neq t x y u, ty, ps, af, g⟩ :: rest) Q σ w := by
  refine WO_val hg ?_ next
  have h := Lib.run_neq_ptr_same (P := P) w a hp hte
  simp [execOp, hx, hy, h, go_sem]
theorem WO_tounsafe {src d t e : TypeId} {x : Operand} {a : Addr} {j : TypeInfo} {cells : Nat} (hg : gOk ops n σ g = true) (hx : ev n σ x = .pointer (some a)) (hs : P.underlying src = some (.pointer t)) (hd : P.underlying d = some .unsafePointer)
    (ht : P.info? t = some j) (hj : j.size ≠ 0) (hsh : w.shape? a.block = some (e, cells)) (hoff : a.off < cells) (next : WO P n ops rest Q (updo σ dst (.pointer (some a))) w) :
    WO P n ops (⟨dst, .convert src d x, ty, ps, af, g⟩ :: rest) Q σ w := by
  refine WO_val hg ?_ next
  have h := Lib.run_to_unsafe (P := P) w a hs hd ht hj hsh hoff
  simp [execOp, hx, h, go_sem]
theorem WO_fromunsafe {src d u e : TypeId} {x : Operand} {a : Addr} {j : TypeInfo} {cells : Nat} (hg : gOk ops n σ g = true) (hx : ev n σ x = .pointer (some a)) (hs : P.underlying src = some .unsafePointer) (hd : P.underlying d = some (.pointer u))
    (hu : P.info? u = some j) (hsh : w.shape? a.block = some (e, cells)) (hlies : liesAt P P.depth e (cells / P.cellsOf e) a.off u 1 = true) (next : WO P n ops rest Q (updo σ dst (.pointer (some a))) w) :
    WO P n ops (⟨dst, .convert src d x, ty, ps, af, g⟩ :: rest) Q σ w := by
  refine WO_val hg ?_ next
  have h := Lib.run_from_unsafe (P := P) w a hs hd hu hsh hlies
  simp [execOp, hx, h, go_sem]
theorem WO_extern1 {f : FuncId} {x : Operand} {v r : Value} {ts : Array TypeId} (hg : gOk ops n σ g = true) (hx : ev n σ x = v)
    (h : (callFunc f #[v]).run P w = .ok (.value r) w) (next : WO P n ops rest Q (updo σ dst r) w) :
    WO P n ops (⟨dst, .call { callee := .value (.func f), args := #[x], argTypes := ts }, ty, ps, af, g⟩ :: rest) Q σ w := by
  refine WO_val hg ?_ next
  have e : (#[x] : Array Operand).map (ev n σ) = #[v] := by simp [hx]
  simp only [execOp, resolve, ev, e]
  simp [Deferred.ofValue, invoke, go_sem, h]
end
def WS (P : Program) (n : Nat) (ops : Array Oper) (Q : (Nat → Value) → World → Prop) (S0 : World → Prop) (fuel : Nat) (listed : Array Bool) (σ : Nat → Value) (w : World) : Prop :=
  wpAnyH P .any ops (fun e a w => e = .normal ∧ ∃ σ, a = mk n σ ∧ Q σ w) S0 fuel listed (mk n σ) w
section
variable {P : Program} {n : Nat} {σ : Nat → Value} {w : World}
theorem W_orderS {S0 : World → Prop} {Q : Exit → (Nat → Value) → World → Prop} {id : Nat} {l : List Oper} (hm : P.follows .mixedOrders = true)
    (h : ∀ w', Drew w w' → WS P n l.toArray (Q .normal) S0 l.length (Array.replicate l.length false) σ w') : W P n (.region id l.toArray true) Q σ w := by
  unfold W
  refine wp_mono (wp_region_any hm (wpAny_of_held _ _ _ _ (h _ ⟨1, rfl⟩))) ?_
  rintro e a w ⟨rfl, σ', ha, hq⟩
  exact ⟨σ', ha, hq⟩
variable {ops : Array Oper} {Q : (Nat → Value) → World → Prop} {fuel : Nat} {listed : Array Bool} {S0 : World → Prop}
theorem WS_load (hS : S0 w) (i : Nat) {o : Oper} {v : Value} (hi : ops[i]? = some o) (hs : Region.noSelect ops = true) (hf : Region.free .any ops listed i = true) (hr : (Region.ready .any ops listed).contains i = true)
    (hg : gOk ops n σ o.guard = true) (h : ∀ w', S0 w' → (execOp (ev n σ) o).run P w' = .ok (.value v) w') (next : WS P n ops Q S0 fuel (listed.setIfInBounds i true) (updo σ o.dst v) w) : WS P n ops Q S0 (fuel + 1) listed σ w := by
  unfold WS
  refine wpAnyH_take hi hs hf hr (fun c a w h => by cases h.1) (.inl ⟨by rw [wanted_mk]; exact hg, fun w' hw' => by rw [mk_eval]; exact h w' hw'⟩) hS ?_
  rw [mk_put]; exact next
theorem WS_take (hS : S0 w) (i : Nat) {o : Oper} {v : Value} (hi : ops[i]? = some o) (hs : Region.noSelect ops = true) (hf : Region.free .any ops listed i = true) (hr : (Region.ready .any ops listed).contains i = true)
    (hg : gOk ops n σ o.guard = true) (h : ∀ w, (execOp (ev n σ) o).run P w = .ok (.value v) w) (next : WS P n ops Q S0 fuel (listed.setIfInBounds i true) (updo σ o.dst v) w) : WS P n ops Q S0 (fuel + 1) listed σ w :=
  WS_load hS i hi hs hf hr hg (fun w' _ => h w') next
theorem WS_done (hr : Region.ready .any ops listed = []) (h : Q σ w) : WS P n ops Q S0 fuel listed σ w := by
  unfold WS
  exact wpAnyH_done hr ⟨rfl, σ, rfl, h⟩ fuel
theorem WS_only (i : Nat) {o : Oper} (hr : Region.ready .any ops listed = [i]) (hi : ops[i]? = some o)
    (h : WO P n ops [o] (fun e σ' w' => e = .normal ∧ S0 w' ∧ WS P n ops Q S0 fuel (listed.setIfInBounds i true) σ' w') σ w) : WS P n ops Q S0 (fuel + 1) listed σ w := by
  unfold WS
  refine wpAnyH_all hr (by simp) fun j hj => ?_
  obtain rfl : j = i := by simpa using hj
  unfold WO wpList at h
  unfold wpOp
  simp only [hi]
  have ho : ¬ LetsOut (lift n fun e σ' w' => e = .normal ∧ S0 w' ∧ WS P n ops Q S0 fuel (listed.setIfInBounds j true) σ' w') := by
    rintro ⟨a, w, σ', _, h, _⟩; cases h
  have hk : ∀ a w', wpList P ops (lift n fun e σ' w' => e = .normal ∧ S0 w' ∧ WS P n ops Q S0 fuel (listed.setIfInBounds j true) σ' w') [] a w' →
      (S0 w' ∧ wpAnyH P .any ops (fun e a w => e = .normal ∧ ∃ σ, a = mk n σ ∧ Q σ w) S0 fuel (listed.setIfInBounds j true) a w') := by
    rintro a w' ⟨σ', rfl, _, hb, hx⟩; exact ⟨hb, hx⟩
  split at h
  · rename_i hw
    rw [if_pos hw]
    rcases h with h | ⟨_, h⟩
    · exact .inl (wp_two hk (fun c a w hc => by obtain ⟨_, _, hc, _⟩ := hc; cases hc) ho h)
    · exact absurd h ho
  · rename_i hw
    rw [if_neg hw]; exact hk _ _ h
end
end Go.Proofs.YtaegacblpbbndaaDoor
end
section
namespace Go.Proofs.YtaegacblpbbndaaDoor
open Go Go.RowKit
theorem en_58 : Enters Tryd.prog 58 := enters_of Tryd.func58 (by kernel_rfl) rfl
theorem en_45 : Enters Tryd.prog 45 := enters_of Tryd.func45 (by kernel_rfl) rfl
theorem en_46 : Enters Tryd.prog 46 := enters_of Tryd.func46 (by kernel_rfl) rfl
theorem en_31 : Enters Tryd.prog 31 := enters_of Tryd.func31 (by kernel_rfl) rfl
theorem shape_of {w : World} {b : Nat} {c : Array Value} {T : TypeId} (h : w.heap[b]? = some (.cells c T (0, 0))) : w.shape? b = some (T, c.size) := by simp [World.shape?, h]
theorem noesc (x : Value) (w : World) : (callFunc 85 #[x]).run Tryd.prog w = .ok (.value x) w := by
 rw [run_callFunc_extern Tryd.func85 (by kernel_rfl) (by kernel_rfl) (by kernel_rfl) (e := Extern.AbiNoEscape.same) (by kernel_rfl), Lib.run_noEscape]; rfl
theorem info_builder : ∃ j, Tryd.prog.info? 57 = some j ∧ j.size ≠ 0 := by
 have h : (Tryd.prog.info? 57).map (fun j => j.size) = some 2 := by kernel_rfl
 obtain ⟨j, hj, hs⟩ := Option.map_eq_some_iff.1 h
 exact ⟨j, hj, by omega⟩
set_option maxHeartbeats 400000 in
set_option maxRecDepth 100000 in
theorem check_fresh (b : Nat) (u : Value) (w : World) (hb : w.heap[b]? = some (.cells #[.pointer none, u] 57 (0, 0))) :
  Calls Tryd.prog 58 #[(.pointer (some ⟨b, 0, none⟩))] w (Ret fun v w' => w'.heap[b]? = some (.cells #[.pointer (some ⟨b, 0, none⟩), u] 57 (0, 0)) ∧ w.grownBy w' (some b)) := by
 obtain ⟨j, hj, hjs⟩ := info_builder
 refine calls_W Tryd.func58 rfl Tryd.ntmps58 ?_
 refine W_seq ?_
 refine W_reg ?_
 refine WO_pure (v := (.pointer (some ⟨b, 0, none⟩))) rfl rfl ?_
 refine WO_pure (v := (.pointer (some ⟨b, 0, none⟩))) rfl rfl ?_
 refine WO_same (v := (.pointer (some ⟨b, 0, none⟩))) rfl (by kernel_rfl) ?_
 refine WO_load (a := ⟨b, 0, none⟩) (v := (.pointer none)) rfl rfl Tryd.underlying54 rfl (cell_of hb rfl) ?_
 refine WO_peql (a := none) rfl rfl rfl Tryd.underlying54 ?_
 refine WO_nil ?_
 refine W_true rfl ?_
 refine W_reg ?_
 refine WO_pure (v := (.pointer (some ⟨b, 0, none⟩))) rfl rfl ?_
 refine WO_pure (v := (.pointer (some ⟨b, 0, none⟩))) rfl rfl ?_
 refine WO_tounsafe (a := ⟨b, 0, none⟩) rfl rfl Tryd.underlying54 Tryd.underlying114 hj hjs (shape_of hb) (by simp) ?_
 refine WO_extern1 (v := .pointer (some ⟨b, 0, none⟩)) rfl rfl (noesc _ _) ?_
 refine WO_fromunsafe (a := ⟨b, 0, none⟩) rfl rfl Tryd.underlying114 Tryd.underlying54 hj (shape_of hb) (by kernel_rfl) ?_
 refine WO_pure (v := (.pointer (some ⟨b, 0, none⟩))) rfl rfl ?_
 refine WO_same (v := (.pointer (some ⟨b, 0, none⟩))) rfl (by kernel_rfl) ?_
 have p1 := hb
 refine WO_store (b := b) (o := 0) (v := (.pointer (some ⟨b, 0, none⟩))) rfl rfl rfl (fun _ => by kernel_rfl) rfl p1 (by simp) (fun w1 u1 => ?_)
 have e1 : w1.heap[b]? = some (.cells #[(.pointer (some ⟨b, 0, none⟩)), u] 57 (0, 0)) := u1.here
 have z1 := u1.size
 refine WO_nil ?_
 refine body_ret0 (fn := Tryd.f58) (by first | exact .inl rfl | exact .inr rfl) rfl ?_
 exact ⟨e1, (grown_upd (grown_refl w _) u1 (by first | (left; omega) | (right; rfl)))⟩
set_option maxHeartbeats 400000 in
set_option maxRecDepth 100000 in
theorem check_used (b : Nat) (u : Value) (w : World) (hb : w.heap[b]? = some (.cells #[.pointer (some ⟨b, 0, none⟩), u] 57 (0, 0))) :
  Calls Tryd.prog 58 #[(.pointer (some ⟨b, 0, none⟩))] w (Ret fun v w' => w'.heap[b]? = some (.cells #[.pointer (some ⟨b, 0, none⟩), u] 57 (0, 0)) ∧ w.grownBy w' (some b)) := by
 obtain ⟨j, hj, hjs⟩ := info_builder
 refine calls_W Tryd.func58 rfl Tryd.ntmps58 ?_
 refine W_seq ?_
 refine W_reg ?_
 refine WO_pure (v := (.pointer (some ⟨b, 0, none⟩))) rfl rfl ?_
 refine WO_pure (v := (.pointer (some ⟨b, 0, none⟩))) rfl rfl ?_
 refine WO_same (v := (.pointer (some ⟨b, 0, none⟩))) rfl (by kernel_rfl) ?_
 refine WO_load (a := ⟨b, 0, none⟩) (v := (.pointer (some ⟨b, 0, none⟩))) rfl rfl Tryd.underlying54 rfl (cell_of hb rfl) ?_
 refine WO_peql (a := (some ⟨b, 0, none⟩)) rfl rfl rfl Tryd.underlying54 ?_
 refine WO_nil ?_
 refine W_false rfl ?_
 refine W_seq ?_
 refine W_reg ?_
 refine WO_pure (v := (.pointer (some ⟨b, 0, none⟩))) rfl rfl ?_
 refine WO_pure (v := (.pointer (some ⟨b, 0, none⟩))) rfl rfl ?_
 refine WO_same (v := (.pointer (some ⟨b, 0, none⟩))) rfl (by kernel_rfl) ?_
 refine WO_load (a := ⟨b, 0, none⟩) (v := (.pointer (some ⟨b, 0, none⟩))) rfl rfl Tryd.underlying54 rfl (cell_of hb rfl) ?_
 refine WO_pure (v := (.pointer (some ⟨b, 0, none⟩))) rfl rfl ?_
 refine WO_pnesame (a := ⟨b, 0, none⟩) rfl rfl rfl Tryd.underlying54 hj ?_
 refine WO_nil ?_
 refine W_false rfl ?_
 refine W_skip ?_
 refine body_ret0 (fn := Tryd.f58) (by first | exact .inl rfl | exact .inr rfl) rfl ?_
 exact ⟨hb, (grown_refl w _)⟩
theorem copy_any (b : Nat) (p u : Value) (w : World) (hp : p = .pointer none ∨ p = .pointer (some ⟨b, 0, none⟩)) (hb : w.heap[b]? = some (.cells #[p, u] 57 (0, 0))) : Calls Tryd.prog 58 #[.pointer (some ⟨b, 0, none⟩)] w (Ret fun v w' => w'.heap[b]? = some (.cells #[.pointer (some ⟨b, 0, none⟩), u] 57 (0, 0)) ∧ w.grownBy w' (some b)) := by
 rcases hp with rfl | rfl
 ·exact check_fresh b u w hb
 ·exact check_used b u w hb
set_option maxHeartbeats 400000 in
set_option maxRecDepth 100000 in
theorem writeString_step (b : Nat) (p u : Value) (l s : List UInt8) (w : World) (hp : p = .pointer none ∨ p = .pointer (some ⟨b, 0, none⟩)) (hb : w.heap[b]? = some (.cells #[p, u] 57 (0, 0))) (ho : w.ownsRow b 5 1 u l.length (Lib.byteCells l)) (hl : l.length + s.length ≤ 140737488355328) :
  Calls Tryd.prog 45 #[(.pointer (some ⟨b, 0, none⟩)), (S s)] w (Ret fun v w' => Bld w' b (l ++ s) ∧ Kept b w w') := by
 have hbl := heap_lt hb
 have hne2 : u.ownBlock = none ∨ u.ownBlock ≠ some b := .inr (own_ne_cell ho hb (by decide))
 refine calls_W Tryd.func45 rfl Tryd.ntmps45 ?_
 refine W_seq ?_
 refine W_reg ?_
 refine WO_pure (v := (.int .i64 0)) rfl rfl ?_
 refine WO_pure (v := (.nilIface)) rfl rfl ?_
 refine WO_nil ?_
 refine W_seq ?_
 refine W_reg ?_
 refine WO_pure (v := (.pointer (some ⟨b, 0, none⟩))) rfl rfl ?_
 refine WO_call rfl (by exact en_58) (copy_any b p u _ hp hb) ?_
 rintro _ wc ⟨hc1, hc2⟩
 have zc := hc2.size
 refine WO_nil ?_
 refine W_seq ?_
 refine W_reg ?_
 refine WO_pure (v := (.pointer (some ⟨b, 0, none⟩))) rfl rfl ?_
 refine WO_pure (v := (.pointer (some ⟨b, 0, none⟩))) rfl rfl ?_
 refine WO_pure (v := (.pointer (some ⟨b, 0, none⟩))) rfl rfl ?_
 refine WO_same (v := (.pointer (some ⟨b, 1, none⟩))) rfl (by kernel_rfl) ?_
 refine WO_load (a := ⟨b, 1, none⟩) (v := u) rfl rfl Tryd.underlying55 rfl (cell_of hc1 rfl) ?_
 refine WO_pure (v := (S s)) rfl rfl ?_
 have o1a := (World.ownsRow.kept ho hc2 (by first | assumption | (right; intro e; have := (ho.lt _ e).1; omega) | simp_all))
 refine WO_appendstr (v := u) (base := b) (l := s) rfl rfl rfl Tryd.underlying55 Tryd.underlying9 (by kernel_rfl) o1a (by omega) (by omega) (fun a1 w1 o1 g1 => ?_)
 have z1 := g1.size
 refine WO_pure (v := (.pointer (some ⟨b, 0, none⟩))) rfl rfl ?_
 refine WO_same (v := (.pointer (some ⟨b, 1, none⟩))) rfl (by kernel_rfl) ?_
 have p2 := (grown_keep g1 hc1 (cell_ne_own o1a hc1 (by decide)))
 refine WO_store (b := b) (o := 1) (v := a1) rfl rfl rfl (fun _ => by kernel_rfl) (oneC_owned o1) p2 (by simp) (fun w2 u2 => ?_)
 have e2 : w2.heap[b]? = some (.cells #[(.pointer (some ⟨b, 0, none⟩)), a1] 57 (0, 0)) := u2.here
 have z2 := u2.size
 refine WO_nil ?_
 refine W_seq ?_
 refine W_reg ?_
 refine WO_pure (v := (S s)) rfl rfl ?_
 refine WO_slen (l := s) rfl rfl Tryd.underlying9 ?_
 refine WO_pure (v := (.int .i64 ((s.length : Int)))) rfl rfl ?_
 refine WO_pure (v := (.nilIface)) rfl rfl ?_
 refine WO_nil ?_
 refine W_ret ?_
 refine body_ret2 rfl (v0 := (.int .i64 ((s.length : Int)))) (v1 := (.nilIface)) rfl rfl ?_
 exact ⟨⟨_, _, .inr rfl, e2, by rw [Lib.byteCells_append, List.length_append]; exact (u2.owns o1 (own_ne_cell o1 p2 (by decide)))⟩, (by first | exact kept_updb (kept_own (kept_grown (Kept.refl b w) hc2 (by omega)) o1a g1 (by omega)) u2 | exact kept_updo (kept_own (kept_grown (Kept.refl b w) hc2 (by omega)) o1a g1 (by omega)) u2 (by omega))⟩
set_option maxHeartbeats 400000 in
set_option maxRecDepth 100000 in
theorem writeByte_step (b : Nat) (p u : Value) (l : List UInt8) (c : UInt8) (w : World) (hp : p = .pointer none ∨ p = .pointer (some ⟨b, 0, none⟩)) (hb : w.heap[b]? = some (.cells #[p, u] 57 (0, 0))) (ho : w.ownsRow b 5 1 u l.length (Lib.byteCells l)) (hl : l.length + 1 ≤ 140737488355328) :
  Calls Tryd.prog 46 #[(.pointer (some ⟨b, 0, none⟩)), (.int .u8 ((c.toNat : Int)))] w (Ret fun v w' => Bld w' b (l ++ [c]) ∧ Kept b w w') := by
 have hbl := heap_lt hb
 have hne2 : u.ownBlock = none ∨ u.ownBlock ≠ some b := .inr (own_ne_cell ho hb (by decide))
 refine calls_W Tryd.func46 rfl Tryd.ntmps46 ?_
 refine W_seq ?_
 refine W_reg ?_
 refine WO_pure (v := (.nilIface)) rfl rfl ?_
 refine WO_nil ?_
 refine W_seq ?_
 refine W_reg ?_
 refine WO_pure (v := (.pointer (some ⟨b, 0, none⟩))) rfl rfl ?_
 refine WO_call rfl (by exact en_58) (copy_any b p u _ hp hb) ?_
 rintro _ wc ⟨hc1, hc2⟩
 have zc := hc2.size
 refine WO_nil ?_
 refine W_seq ?_
 refine W_reg ?_
 refine WO_pure (v := (.pointer (some ⟨b, 0, none⟩))) rfl rfl ?_
 refine WO_pure (v := (.pointer (some ⟨b, 0, none⟩))) rfl rfl ?_
 refine WO_pure (v := (.pointer (some ⟨b, 0, none⟩))) rfl rfl ?_
 refine WO_same (v := (.pointer (some ⟨b, 1, none⟩))) rfl (by kernel_rfl) ?_
 refine WO_load (a := ⟨b, 1, none⟩) (v := u) rfl rfl Tryd.underlying55 rfl (cell_of hc1 rfl) ?_
 refine WO_pure (v := (.int .u8 ((c.toNat : Int)))) rfl rfl ?_
 refine WO_bslice (k := 1) (cs := #[(.int .u8 ((c.toNat : Int)))]) (e := 5) rfl (fun _ => by kernel_rfl) (fun w1 n1 => ?_)
 have e1 : w1.heap[wc.heap.size]? = some (.cells #[(.int .u8 ((c.toNat : Int)))] 5 (0, 0)) := n1.here
 have z1 := n1.size
 have o1 := n1.owned (base := b) (size := 1) (k := 1) (by omega) (by omega) rfl
 have o2a := (n1.owns (World.ownsRow.kept ho hc2 (by first | assumption | (right; intro e; have := (ho.lt _ e).1; omega) | simp_all)))
 refine WO_append1 (v := u) (sz := 1) (base := b) (bytes := 1) rfl rfl rfl Tryd.underlying55 (by kernel_rfl) (by decide) o2a rfl e1 (by simp [Value.oneCell']) (by omega) (by omega) (by omega) (fun a2 w2 o2 g2 y2 => ?_)
 have z2 := g2.size
 refine WO_pure (v := (.pointer (some ⟨b, 0, none⟩))) rfl rfl ?_
 refine WO_same (v := (.pointer (some ⟨b, 1, none⟩))) rfl (by kernel_rfl) ?_
 have p3 := (grown_keep g2 (n1.keep hc1) (cell_ne_own o2a (n1.keep hc1) (by decide)))
 refine WO_store (b := b) (o := 1) (v := a2) rfl rfl rfl (fun _ => by kernel_rfl) (oneC_owned o2) p3 (by simp) (fun w3 u3 => ?_)
 have e3 : w3.heap[b]? = some (.cells #[(.pointer (some ⟨b, 0, none⟩)), a2] 57 (0, 0)) := u3.here
 have z3 := u3.size
 refine WO_nil ?_
 refine W_seq ?_
 refine W_reg ?_
 refine WO_pure (v := (.nilIface)) rfl rfl ?_
 refine WO_nil ?_
 refine W_ret ?_
 refine body_ret1 rfl (v0 := (.nilIface)) rfl ?_
 exact ⟨⟨_, _, .inr rfl, e3, by rw [Lib.byteCells_append, List.length_append]; exact (u3.owns o2 (own_ne_cell o2 p3 (by decide)))⟩, (by first | exact kept_updb (kept_own (kept_ext (kept_grown (Kept.refl b w) hc2 (by omega)) n1.ext (by omega)) o2a g2 (by omega)) u3 | exact kept_updo (kept_own (kept_ext (kept_grown (Kept.refl b w) hc2 (by omega)) n1.ext (by omega)) o2a g2 (by omega)) u3 (by omega))⟩
theorem writeString_any {b : Nat} {l : List UInt8} {w : World} (s : List UInt8) (h : Bld w b l) (hl : l.length + s.length ≤ 140737488355328) : Calls Tryd.prog 45 #[.pointer (some ⟨b, 0, none⟩), S s] w (Ret fun v w' => Bld w' b (l ++ s) ∧ Kept b w w') := by
 obtain ⟨p, u, hp, hb, ho⟩ := h
 exact writeString_step b p u l s w hp hb ho hl
theorem writeByte_any {b : Nat} {l : List UInt8} {w : World} (c : UInt8) (h : Bld w b l) (hl : l.length + 1 ≤ 140737488355328) : Calls Tryd.prog 46 #[.pointer (some ⟨b, 0, none⟩), .int .u8 (c.toNat : Int)] w (Ret fun v w' => Bld w' b (l ++ [c]) ∧ Kept b w w') := by
 obtain ⟨p, u, hp, hb, ho⟩ := h
 exact writeByte_step b p u l c w hp hb ho hl
theorem string_any {b : Nat} {l : List UInt8} {w : World} (h : Bld w b l) : Calls Tryd.prog 31 #[.pointer (some ⟨b, 0, none⟩)] w (Ret fun v w' => v = S l ∧ Kept b w w') :=
 (Tryd.Builder_String_any_k b b l w h.kit (Nat.le_of_lt h.lt)).mono fun _ _ h => ⟨_, h.1, rfl, h.2.2⟩
end Go.Proofs.YtaegacblpbbndaaDoor
end
section
namespace Go.Proofs.YtaegacblpbbndaaDoor
open Go Go.RowKit
theorem en_30 : Enters Tryd.prog 30 := enters_of Tryd.func30 (by kernel_rfl) rfl
theorem en_13 : Enters Tryd.prog 13 := enters_of Tryd.func13 (by kernel_rfl) rfl
def wordN (k : Int) (i : Nat) : List UInt8 := if k = 4 ∧ i = 2 then [101, 108, 115, 101] else nth wordsL k.toNat
def sepN (k : Int) (i : Nat) : List UInt8 := if 0 < i then [32] ++ wordN k i ++ [32] else []
mutual
def textN : DepT → List UInt8
 | .mk k nm op ev args => if k = 1 then (if 0 < op then nm ++ ([32] ++ nth signsL op.toNat ++ [32] ++ ev) else nm) else [40] ++ joinN k 0 args ++ [41]
def joinN (k : Int) : Nat → List DepT → List UInt8
 | _, [] => []
 | i, a :: r => sepN k i ++ textN a ++ joinN k (i + 1) r
end
theorem word_len (j : Nat) : (nth wordsL j).length ≤ 7 := by
 match j with
 | 0 | 1 | 2 | 3 | 4 | 5 | 6 => decide
 | j + 7 => show ([] : List UInt8).length ≤ 7; decide
theorem sepN_len (k : Int) (i : Nat) : (sepN k i).length ≤ 9 := by
 unfold sepN wordN
 split
 ·split
  ·decide
  ·have := word_len k.toNat
   simp only [List.length_append, List.length_cons, List.length_nil]; omega
 ·simp
theorem sign_len (j : Nat) : (nth signsL j).length ≤ 3 := by
 match j with
 | 0 | 1 | 2 | 3 | 4 | 5 | 6 | 7 => decide
 | j + 8 => show ([] : List UInt8).length ≤ 3; decide
mutual
theorem textN_len : ∀ d : DepT, (textN d).length + 9 ≤ 16 * d.size
 | .mk k nm op ev args => by
  unfold textN DepT.size
  have h1 := joinN_len k 0 args
  have h2 := sign_len op.toNat
  split
  ·split
   ·simp only [List.length_append, List.length_cons, List.length_nil]; omega
   ·omega
  ·simp only [List.length_append, List.length_cons, List.length_nil]; omega
theorem joinN_len : ∀ (k : Int) (i : Nat) (l : List DepT), (joinN k i l).length ≤ 16 * argsSize l
 | k, i, [] => by simp [joinN]
 | k, i, a :: r => by
  unfold joinN argsSize
  have h1 := textN_len a
  have h2 := joinN_len k (i + 1) r
  have h3 := sepN_len k i
  simp only [List.length_append]; omega
end
theorem joinN_snoc (k : Int) : ∀ (j : Nat) (l : List DepT) (a : DepT), joinN k j (l ++ [a]) = joinN k j l ++ (sepN k (j + l.length) ++ textN a)
 | j, [], a => by simp [joinN]
 | j, x :: r, a => by
  rw [List.cons_append, joinN, joinN_snoc k (j + 1) r a, joinN]
  simp only [List.length_cons, List.append_assoc, show j + 1 + r.length = j + (r.length + 1) by omega]
theorem take_snoc {l : List DepT} {i : Nat} (h : i < l.length) : l.take (i + 1) = l.take i ++ [nth l i] := by
 rw [List.take_add_one, nth_eq h]; rfl
theorem joinN_take {k : Int} {l : List DepT} {i : Nat} (h : i < l.length) : joinN k 0 (l.take (i + 1)) = joinN k 0 (l.take i) ++ (sepN k i ++ textN (nth l i)) := by
 rw [take_snoc h, joinN_snoc, List.length_take, Nat.zero_add, Nat.min_eq_left (by omega)]
theorem sepN_else {k : Int} {i : Nat} (h : 0 < i) (h4 : k = 4 ∧ i = 2) : sepN k i = [32] ++ [101, 108, 115, 101] ++ [32] := by unfold sepN wordN; rw [if_pos h, if_pos h4]
theorem sepN_word {k : Int} {i : Nat} (h : 0 < i) (h4 : ¬ (k = 4 ∧ i = 2)) : sepN k i = [32] ++ nth wordsL k.toNat ++ [32] := by unfold sepN wordN; rw [if_pos h, if_neg h4]
theorem sepN_zero {k : Int} {i : Nat} (h : ¬ 0 < i) : sepN k i = [] := by unfold sepN; rw [if_neg h]
theorem argsSize_mono (l : List DepT) (i : Nat) : argsSize (l.take i) ≤ argsSize l := by
 induction l generalizing i with
 | nil => simp
 | cons d r ih =>
  cases i with
  | zero => simp [argsSize]
  | succ i => have := ih i; simp only [List.take_succ_cons, argsSize]; omega
theorem argsSize_take' {l : List DepT} {i : Nat} : i < l.length → argsSize (l.take i) + (nth l i).size ≤ argsSize l := fun h => argsSize_take h
theorem argsForm_nth {k : Int} : ∀ {l : List DepT} {i : Nat}, argsForm k l = true → i < l.length → formB (nth l i) = true
 | [], i, _, h => by simp at h
 | d :: r, i, h, hi => by
  unfold argsForm at h
  simp only [Bool.and_eq_true] at h
  cases i with
  | zero => exact h.2.1
  | succ i => exact argsForm_nth (l := r) h.2.2 (by simpa using hi)
theorem form_nm {k op : Int} {nm ev : List UInt8} {args : List DepT} (h : formB (.mk k nm op ev args) = true) (hk : k = 1) : 0 ≤ op ∧ op ≤ 7 ∧ args = [] ∧ nameB nm = true ∧ (op = 0 → ev = []) ∧ (op ≠ 0 → evrE ev = 0) := by
 unfold formB at h
 rw [if_pos hk] at h
 unfold formName at h
 simp only [Bool.and_eq_true, decide_eq_true_eq] at h
 obtain ⟨h1, h2, h3, h4, h5⟩ := h
 refine ⟨h2, h3, List.length_eq_zero_iff.1 h4, h1, fun e => ?_, fun e => ?_⟩
 ·rw [if_pos e] at h5; simpa using h5
 ·rw [if_neg e] at h5; simpa using h5
theorem form_args {k op : Int} {nm ev : List UInt8} {args : List DepT} (h : formB (.mk k nm op ev args) = true) (hk : k ≠ 1) : 2 ≤ k ∧ k ≤ 6 ∧ nm = [] ∧ op = 0 ∧ ev = [] ∧ 2 ≤ args.length ∧ (k = 4 → args.length ≤ 3) ∧ (k = 6 → args.length ≤ 2) ∧ argsForm k args = true := by
 unfold formB at h
 rw [if_neg hk] at h
 simp only [Bool.and_eq_true, formBad, Bool.not_eq_true', decide_eq_false_iff_not, not_or, Decidable.not_not] at h
 obtain ⟨⟨⟨h1, h2, h3, h4, h5, h6⟩, h7, h8⟩, h9⟩ := h
 refine ⟨by omega, by omega, h3, h4, h5, by omega, fun e => ?_, fun e => ?_, h9⟩
 ·exact Nat.le_of_not_lt fun x => h7 ⟨e, x⟩
 ·exact Nat.le_of_not_lt fun x => h8 ⟨e, x⟩
def PrintSaid (d : DepT) : Prop := ∀ (u w : World) (cs : List Value) (b : Nat) (l : List UInt8), DepC u d cs → Below u.heap.size u w → u.heap.size ≤ b → Bld w b l → formB d = true → d.size ≤ 4194304 → l.length + 16 * d.size ≤ 140737488355328 →
 Calls Tryd.prog 30 #[.pointer (some ⟨b, 0, none⟩), .agg cs.toArray] w (Ret fun v w' => Bld w' b (l ++ textN d) ∧ Kept b w w')
set_option maxHeartbeats 2000000 in
set_option maxRecDepth 100000 in
theorem print_step (k op : Nat) (nm ev : List UInt8) (args : List DepT) (sv : Value) (css : List (List Value)) (u w : World) (b : Nat) (l : List UInt8) (hr : RowIs u sv args.length 5 css.flatten) (ha : ArgsC u args css) (hu : Below u.heap.size u w) (hub : u.heap.size ≤ b) (hB : Bld w b l) (hf : formB (.mk k nm op ev args) = true) (hs : argsSize args + 1 + nm.length + ev.length ≤ 4194304) (hl : l.length + 16 * (argsSize args + 1 + nm.length + ev.length) ≤ 140737488355328) (ih : ∀ i, i < args.length → PrintSaid (nth args i)) :
  Calls Tryd.prog 30 #[(.pointer (some ⟨b, 0, none⟩)), (.agg #[(.int .i64 ((k : Int))), (S nm), (.int .i64 ((op : Int))), (S ev), sv])] w (Ret fun v w' => Bld w' b (l ++ textN (.mk k nm op ev args)) ∧ Kept b w w') := by
 have hal := argsSize_len args
 have hbl := hB.lt
 have hus := hu.size
 have hsl := sign_len op
 have hwl := word_len k
 refine calls_W Tryd.func30 rfl Tryd.ntmps30 ?_
 refine W_seq ?_
 refine W_reg ?_
 refine WO_box (v := (.agg #[(.int .i64 ((k : Int))), (S nm), (.int .i64 ((op : Int))), (S ev), sv])) rfl rfl (fun w1 n1 => ?_)
 have e1 : w1.heap[w.heap.size]? = some (.cells #[(.int .i64 ((k : Int))), (S nm), (.int .i64 ((op : Int))), (S ev), sv] 25 (0, 0)) := n1.here
 have z1 := n1.size
 refine WO_nil ?_
 refine W_seq ?_
 refine W_seq ?_
 refine W_reg ?_
 refine WO_same (v := (.pointer (some ⟨w.heap.size, 0, none⟩))) rfl (by kernel_rfl) ?_
 refine WO_load (a := ⟨w.heap.size, 0, none⟩) (v := (.int .i64 ((k : Int)))) rfl rfl Tryd.underlying3 rfl (cell_of e1 rfl) ?_
 refine WO_pure (v := (.bool (decide ((k : Int) = 1)))) rfl rfl ?_
 refine WO_nil ?_
 refine W_if (p := (k : Int) = 1) rfl (fun c1 => ?_) (fun c1 => ?_)
 ·refine W_seq ?_
  refine W_reg ?_
  have hfn := form_nm hf c1
  have hop := hfn.1
  have hop7 := hfn.2.1
  refine WO_pure (v := (.pointer (some ⟨b, 0, none⟩))) rfl rfl ?_
  refine WO_same (v := (.pointer (some ⟨w.heap.size, 1, none⟩))) rfl (by kernel_rfl) ?_
  refine WO_load (a := ⟨w.heap.size, 1, none⟩) (v := (S nm)) rfl rfl Tryd.underlying9 rfl (cell_of e1 rfl) ?_
  refine WO_call rfl (by exact en_45) (writeString_any (l := l) nm (Bld.ext hB (n1.below (Below.refl w.heap.size w) (Below.refl w.heap.size w).size)) (by first | omega | (simp only [List.length_append, List.length_cons, List.length_nil]; omega))) ?_
  rintro _ ws2 ⟨hs2, ks2⟩
  have zs2 := ks2.size
  refine WO_nil ?_
  refine W_seq ?_
  refine W_seq ?_
  refine W_reg ?_
  refine WO_same (v := (.pointer (some ⟨w.heap.size, 2, none⟩))) rfl (by kernel_rfl) ?_
  refine WO_load (a := ⟨w.heap.size, 2, none⟩) (v := (.int .i64 ((op : Int)))) rfl rfl Tryd.underlying3 rfl (cell_of (kept_keep' ks2 e1 (by decide) (by omega)) rfl) ?_
  refine WO_pure (v := (.bool (decide (0 < (op : Int))))) rfl rfl ?_
  refine WO_nil ?_
  refine W_if (p := 0 < (op : Int)) rfl (fun c2 => ?_) (fun c2 => ?_)
  ·refine W_orderS (by kernel_rfl) (S0 := fun w' => w'.heap[w.heap.size]? = some (.cells #[(.int .i64 ((k : Int))), (S nm), (.int .i64 ((op : Int))), (S ev), sv] 25 (0, 0))) (fun w3 d3 => ?_)
   have z3 := d3.ext.size
   refine WS_take (drew_keep d3 (kept_keep' ks2 e1 (by decide) (by omega))) 0 rfl (by kernel_rfl) (by kernel_rfl) (by kernel_rfl) rfl (fun _ => pure_run (v := (.pointer (some ⟨b, 0, none⟩))) rfl) ?_
   refine WS_take (drew_keep d3 (kept_keep' ks2 e1 (by decide) (by omega))) 2 rfl (by kernel_rfl) (by kernel_rfl) (by kernel_rfl) rfl (v := (.pointer (some ⟨w.heap.size, 2, none⟩))) (fun _ => by kernel_rfl) ?_
   refine WS_load (drew_keep d3 (kept_keep' ks2 e1 (by decide) (by omega))) 3 rfl (by kernel_rfl) (by kernel_rfl) (by kernel_rfl) rfl (fun wq bq => R_load (a := ⟨w.heap.size, 2, none⟩) (v := (.int .i64 ((op : Int)))) rfl Tryd.underlying3 rfl (cell_of bq rfl)) ?_
   refine WS_take (drew_keep d3 (kept_keep' ks2 e1 (by decide) (by omega))) 8 rfl (by kernel_rfl) (by kernel_rfl) (by kernel_rfl) rfl (v := (.pointer (some ⟨w.heap.size, 3, none⟩))) (fun _ => by kernel_rfl) ?_
   refine WS_load (drew_keep d3 (kept_keep' ks2 e1 (by decide) (by omega))) 9 rfl (by kernel_rfl) (by kernel_rfl) (by kernel_rfl) rfl (fun wq bq => R_load (a := ⟨w.heap.size, 3, none⟩) (v := (S ev)) rfl Tryd.underlying9 rfl (cell_of bq rfl)) ?_
   refine WS_only 1 (by kernel_rfl) rfl ?_
   refine WO_call rfl (by exact en_26) (signs_any _) ?_
   rintro v4 w4 ⟨r4, h4⟩
   have z4 := h4.size
   refine WO_nil ⟨rfl, (below_keep h4 (drew_keep d3 (kept_keep' ks2 e1 (by decide) (by omega)))), ?_⟩
   refine WS_only 4 (by kernel_rfl) rfl ?_
   refine WO_idx1 (v := v4) (f := S) (l := signsL) (i := op) rfl rfl rfl r4 Tryd.underlying35 (fun _ => by kernel_rfl) (by first | rfl | omega) (by first | omega | (simp; done) | (simp; omega)) (fun b5 o5 x5 => ?_)
   refine WO_nil ⟨rfl, (below_keep h4 (drew_keep d3 (kept_keep' ks2 e1 (by decide) (by omega)))), ?_⟩
   refine WS_only 5 (by kernel_rfl) rfl ?_
   refine WO_load (v := (S (nth signsL op))) rfl rfl Tryd.underlying9 rfl x5 ?_
   refine WO_nil ⟨rfl, (below_keep h4 (drew_keep d3 (kept_keep' ks2 e1 (by decide) (by omega)))), ?_⟩
   refine WS_take (below_keep h4 (drew_keep d3 (kept_keep' ks2 e1 (by decide) (by omega)))) 6 rfl (by kernel_rfl) (by kernel_rfl) (by kernel_rfl) rfl (fun _ => R_scat (l1 := [32]) (l2 := nth signsL op) rfl rfl (by first | omega | (simp; done) | (simp; omega))) ?_
   refine WS_take (below_keep h4 (drew_keep d3 (kept_keep' ks2 e1 (by decide) (by omega)))) 7 rfl (by kernel_rfl) (by kernel_rfl) (by kernel_rfl) rfl (fun _ => R_scat (l1 := ([32]) ++ (nth signsL op)) (l2 := [32]) rfl rfl (by first | omega | (simp; done) | (simp; omega))) ?_
   refine WS_take (below_keep h4 (drew_keep d3 (kept_keep' ks2 e1 (by decide) (by omega)))) 10 rfl (by kernel_rfl) (by kernel_rfl) (by kernel_rfl) rfl (fun _ => R_scat (l1 := (([32]) ++ (nth signsL op)) ++ ([32])) (l2 := ev) rfl rfl (by first | omega | (simp; done) | (simp; omega))) ?_
   refine WS_only 11 (by kernel_rfl) rfl ?_
   refine WO_call rfl (by exact en_45) (writeString_any (l := (l ++ nm)) (((([32]) ++ (nth signsL op)) ++ ([32])) ++ ev) (Bld.ext hs2 (below_ext (d3.below (Below.refl ws2.heap.size ws2)) h4)) (by first | omega | (simp only [List.length_append, List.length_cons, List.length_nil]; omega))) ?_
   rintro _ ws6 ⟨hs6, ks6⟩
   have zs6 := ks6.size
   refine WO_nil ⟨rfl, (kept_keep' ks6 (below_keep h4 (drew_keep d3 (kept_keep' ks2 e1 (by decide) (by omega)))) (by decide) (by omega)), ?_⟩
   refine WS_done (by kernel_rfl) ?_
   refine W_ret ?_
   refine body_ret0 (fn := Tryd.f30) (by first | exact .inl rfl | exact .inr rfl) rfl ?_
   refine ⟨?_, (Kept.trans (kept_ext (kept_ext (Kept.trans (kept_ext (Kept.refl b w) n1.ext (by omega)) ks2) d3.ext (by omega)) h4 (by omega)) ks6)⟩
   have e := hs6
   unfold textN; rw [if_pos c1, if_pos c2]; simpa using e
  ·refine W_skip ?_
   refine W_ret ?_
   refine body_ret0 (fn := Tryd.f30) (by first | exact .inl rfl | exact .inr rfl) rfl ?_
   refine ⟨?_, (Kept.trans (kept_ext (Kept.refl b w) n1.ext (by omega)) ks2)⟩
   have e := hs2
   unfold textN; rw [if_pos c1, if_neg c2]; exact e
 ·refine W_skip ?_
  refine W_seq ?_
  refine W_reg ?_
  have hfn := form_args hf c1
  have hk2 := hfn.1
  have hk6 := hfn.2.1
  have hfa := fun i (hi : i < args.length) => argsForm_nth hfn.2.2.2.2.2.2.2.2 hi
  refine WO_pure (v := (.pointer (some ⟨b, 0, none⟩))) rfl rfl ?_
  refine WO_call rfl (by exact en_46) (writeByte_any (l := l) 40 (Bld.ext hB (n1.below (Below.refl w.heap.size w) (Below.refl w.heap.size w).size)) (by first | omega | (simp only [List.length_append, List.length_cons, List.length_nil]; omega))) ?_
  rintro _ ws7 ⟨hs7, ks7⟩
  have zs7 := ks7.size
  refine WO_nil ?_
  refine W_seq ?_
  refine W_seq ?_
  refine W_reg ?_
  refine WO_same (v := (.pointer (some ⟨w.heap.size, 4, none⟩))) rfl (by kernel_rfl) ?_
  refine WO_load (a := ⟨w.heap.size, 4, none⟩) (v := sv) rfl rfl Tryd.underlying23 rfl (cell_of (kept_keep' ks7 e1 (by decide) (by omega)) rfl) ?_
  refine WO_lenrow (v := sv) (m := args.length) (sz := 5) rfl rfl (hr.ext (kept_bel (n1.below (below_ext (Below.refl u.heap.size u) hu) (below_ext (Below.refl u.heap.size u) hu).size) ks7 (by omega))) Tryd.underlying23 ?_
  refine WO_pure (v := (.int .i64 0)) rfl rfl ?_
  refine WO_nil ?_
  refine W_block ?_
  refine W_loop (fun g σ' w' => ∃ (i : Nat), σ' 0 = (.pointer (some ⟨b, 0, none⟩)) ∧ σ' 3 = (.pointer (some ⟨w.heap.size, 0, none⟩)) ∧ σ' 32 = sv ∧ σ' 33 = (.int .i64 ((args.length : Int))) ∧ σ' 34 = (.int .i64 ((i : Int))) ∧ w'.heap[w.heap.size]? = some (.cells #[(.int .i64 ((k : Int))), (S nm), (.int .i64 ((op : Int))), (S ev), sv] 25 (0, 0)) ∧ i ≤ args.length ∧ Kept b w w' ∧ Bld w' b (l ++ [40] ++ joinN k 0 (args.take i)) ∧ g = args.length - i) ?_ ?_
  ·refine ⟨_, 0, rfl, rfl, rfl, rfl, rfl, (kept_keep' ks7 e1 (by decide) (by omega)), ?_, ?_, ?_, rfl⟩
   ·omega
   ·exact (Kept.trans (kept_ext (Kept.refl b w) n1.ext (by omega)) ks7)
   ·simpa [joinN] using hs7
  ·rintro g σl1 wl1 ⟨i, l1_0, l1_3, l1_32, l1_33, l1_34, k1_1, f1_1, f1_2, f1_3, rfl⟩
   refine W_anchor (d := 0) l1_0 (W_anchor (d := 3) l1_3 (W_anchor (d := 32) l1_32 (W_anchor (d := 33) l1_33 (W_anchor (d := 34) l1_34 (?_)))))
   have zf := f1_2.size
   have zk := heap_lt k1_1
   have hjl := joinN_len k 0 (args.take i)
   have hjt := argsSize_take' (l := args) (i := i)
   have hjm := argsSize_mono args i
   refine W_seq ?_
   refine W_reg ?_
   refine WO_pure (v := (.bool (decide ((i : Int) < (args.length : Int))))) rfl rfl ?_
   refine WO_nil ?_
   refine W_seq ?_
   refine W_if (p := (i : Int) < (args.length : Int)) rfl (fun c3 => ?_) (fun c3 => ?_)
   ·refine W_skip ?_
    refine W_seq ?_
    refine W_block ?_
    refine W_seq ?_
    refine W_reg ?_
    refine WO_pure (v := (.int .i64 ((i : Int)))) rfl rfl ?_
    refine WO_idxs (v := sv) (css := css) (i := i) rfl rfl rfl (hr.ext (kept_bel (below_ext (Below.refl u.heap.size u) hu) f1_2 (by omega))) ha.each ha.len Tryd.underlying23 (fun _ => by kernel_rfl) (by first | rfl | omega) (by first | omega | (simp; done) | (simp; omega)) (fun b8 o8 x8 => ?_)
    refine WO_loads (vs := nth css i) (sz := 5) rfl rfl Tryd.underlying25 rfl (ha.each _ (nth_mem (by rw [ha.len]; omega))) (fun _ => by kernel_rfl) x8 ?_
    obtain ⟨ki, nmi, opi, evi, svi, bsi, csi, hxi, hri, hdi, hai⟩ := ArgsC.five ha (show i < args.length by omega)
    refine WO_eq 38 (v := .agg (nth css i).toArray) (v' := .agg #[.int .i64 ki, S nmi, .int .i64 opi, S evi, svi]) rfl (by rw [hxi]) ?_
    refine WO_alloc (v := (.agg #[(.int .i64 0), (S []), (.int .i64 0), (S []), (.slice none 0 0)])) rfl (fun _ => by kernel_rfl) (fun w9 n9 => ?_)
    have e9 : w9.heap[wl1.heap.size]? = some (.cells #[(.int .i64 0), (S []), (.int .i64 0), (S []), (.slice none 0 0)] 25 (0, 0)) := n9.here
    have z9 := n9.size
    refine WO_pure (v := (.int .i64 ((i : Int)))) rfl rfl ?_
    have p10 := e9
    refine WO_storerow (b := wl1.heap.size) (o := 0) (c' := #[(.int .i64 ki), (S nmi), (.int .i64 opi), (S evi), svi]) rfl rfl rfl (fun _ => by kernel_rfl) (by rw [Array.all_eq_true_iff_forall_mem]; intro v hv; simp only [List.mem_toArray, List.mem_cons, List.not_mem_nil, or_false] at hv; rcases hv with hv | hv | hv | hv | hv <;> (rw [hv]; first | rfl | exact oneCell_is (hri.ext (n9.below (kept_bel (below_ext (Below.refl u.heap.size u) hu) f1_2 (by omega)) (kept_bel (below_ext (Below.refl u.heap.size u) hu) f1_2 (by omega)).size)))) p10 (by simp) (fun w10 u10 => ?_)
    have e10 : w10.heap[wl1.heap.size]? = some (.cells #[(.int .i64 ki), (S nmi), (.int .i64 opi), (S evi), svi] 25 (0, 0)) := u10.here
    have z10 := u10.size
    refine WO_nil ?_
    refine W_seq ?_
    refine W_orderS (by kernel_rfl) (S0 := fun w' => w'.heap[w.heap.size]? = some (.cells #[(.int .i64 ((k : Int))), (S nm), (.int .i64 ((op : Int))), (S ev), sv] 25 (0, 0))) (fun w11 d11 => ?_)
    have z11 := d11.ext.size
    refine WS_take (drew_keep d11 (u10.keep (n9.keep k1_1) (by first | assumption | omega | (simp; omega)))) 1 rfl (by kernel_rfl) (by kernel_rfl) (by kernel_rfl) rfl (v := (.pointer (some ⟨w.heap.size, 0, none⟩))) (fun _ => by kernel_rfl) ?_
    refine WS_load (drew_keep d11 (u10.keep (n9.keep k1_1) (by first | assumption | omega | (simp; omega)))) 2 rfl (by kernel_rfl) (by kernel_rfl) (by kernel_rfl) rfl (fun wq bq => R_load (a := ⟨w.heap.size, 0, none⟩) (v := (.int .i64 ((k : Int)))) rfl Tryd.underlying3 rfl (cell_of bq rfl)) ?_
    refine WS_only 0 (by kernel_rfl) rfl ?_
    refine WO_call rfl (by exact en_27) (words_any _) ?_
    rintro v12 w12 ⟨r12, h12⟩
    have z12 := h12.size
    refine WO_nil ⟨rfl, (below_keep h12 (drew_keep d11 (u10.keep (n9.keep k1_1) (by first | assumption | omega | (simp; omega))))), ?_⟩
    refine WS_only 3 (by kernel_rfl) rfl ?_
    refine WO_idx1 (v := v12) (f := S) (l := wordsL) (i := k) rfl rfl rfl r12 Tryd.underlying35 (fun _ => by kernel_rfl) (by first | rfl | omega) (by first | omega | (simp; done) | (simp; omega)) (fun b13 o13 x13 => ?_)
    refine WO_nil ⟨rfl, (below_keep h12 (drew_keep d11 (u10.keep (n9.keep k1_1) (by first | assumption | omega | (simp; omega))))), ?_⟩
    refine WS_only 4 (by kernel_rfl) rfl ?_
    refine WO_load (v := (S (nth wordsL k))) rfl rfl Tryd.underlying9 rfl x13 ?_
    refine WO_nil ⟨rfl, (below_keep h12 (drew_keep d11 (u10.keep (n9.keep k1_1) (by first | assumption | omega | (simp; omega))))), ?_⟩
    refine WS_take (below_keep h12 (drew_keep d11 (u10.keep (n9.keep k1_1) (by first | assumption | omega | (simp; omega))))) 5 rfl (by kernel_rfl) (by kernel_rfl) (by kernel_rfl) rfl (fun _ => pure_run (v := (S (nth wordsL k))) rfl) ?_
    refine WS_done (by kernel_rfl) ?_
    refine W_seq ?_
    refine W_cut (fun σ' w' => w12 = w' ∧ σ' 0 = (.pointer (some ⟨b, 0, none⟩)) ∧ σ' 3 = (.pointer (some ⟨w.heap.size, 0, none⟩)) ∧ σ' 4 = (.int .i64 ((i : Int))) ∧ σ' 5 = (.pointer (some ⟨wl1.heap.size, 0, none⟩)) ∧ σ' 6 = (S (nth wordsL k)) ∧ σ' 32 = sv ∧ σ' 33 = (.int .i64 ((args.length : Int))) ∧ σ' 34 = (.int .i64 ((i : Int))) ∧ σ' 50 = (.bool (decide ((k : Int) = 4 ∧ i = 2)))) ?_ ?_
    ·refine W_reg ?_
     refine WO_same (v := (.pointer (some ⟨w.heap.size, 0, none⟩))) rfl (by kernel_rfl) ?_
     refine WO_load (a := ⟨w.heap.size, 0, none⟩) (v := (.int .i64 ((k : Int)))) rfl rfl Tryd.underlying3 rfl (cell_of (below_keep h12 (drew_keep d11 (u10.keep (n9.keep k1_1) (by first | assumption | omega | (simp; omega))))) rfl) ?_
     refine WO_pure (v := (.bool (decide ((k : Int) = 4)))) rfl rfl ?_
     refine WO_pure (v := (.bool (decide ((k : Int) = 4)))) rfl rfl ?_
     refine WO_splitp 47 (p := (k : Int) = 4) (by exact rfl) (fun c4 => ?_) (fun c4 => ?_)
     ·refine WO_pure (v := (.int .i64 ((i : Int)))) rfl rfl ?_
      refine WO_pure (v := (.bool (decide ((i : Int) = 2)))) rfl rfl ?_
      refine WO_pure (v := (.bool (decide ((i : Int) = 2)))) rfl rfl ?_
      refine WO_nil ?_
      exact ⟨rfl, rfl, rfl, rfl, rfl, rfl, rfl, rfl, rfl, (by show ((.bool (decide ((i : Int) = 2))) : Value) = (.bool (decide ((k : Int) = 4 ∧ i = 2))); show Value.bool _ = Value.bool _; rw [Value.bool.injEq, Bool.eq_iff_iff]; first | (simp [c4]; done) | (simp [c4]; omega) | (simp_all []; done) | (simp_all []; omega) | (simp only [Bool.or_eq_true, Bool.and_eq_true, Bool.not_eq_true', decide_eq_true_eq, decide_eq_false_iff_not]; grind))⟩
     ·refine WO_pass rfl ?_
      refine WO_pass rfl ?_
      refine WO_pure (v := (.bool false)) rfl rfl ?_
      refine WO_nil ?_
      exact ⟨rfl, rfl, rfl, rfl, rfl, rfl, rfl, rfl, rfl, (by show ((.bool false) : Value) = (.bool (decide ((k : Int) = 4 ∧ i = 2))); show Value.bool _ = Value.bool _; rw [Value.bool.injEq, Bool.eq_iff_iff]; first | (simp [c4]; done) | (simp [c4]; omega) | (simp_all []; done) | (simp_all []; omega) | (simp only [Bool.or_eq_true, Bool.and_eq_true, Bool.not_eq_true', decide_eq_true_eq, decide_eq_false_iff_not]; grind))⟩
    ·rintro σ1 _ ⟨rfl, h1_0, h1_3, h1_4, h1_5, h1_6, h1_32, h1_33, h1_34, h1_50⟩
     refine W_anchor (d := 0) h1_0 (W_anchor (d := 3) h1_3 (W_anchor (d := 4) h1_4 (W_anchor (d := 5) h1_5 (W_anchor (d := 6) h1_6 (W_anchor (d := 32) h1_32 (W_anchor (d := 33) h1_33 (W_anchor (d := 34) h1_34 (W_anchor (d := 50) h1_50 (?_)))))))))
     refine W_if (p := (k : Int) = 4 ∧ i = 2) rfl (fun c5 => ?_) (fun c5 => ?_)
     ·refine W_reg ?_
      refine WO_pure (v := (S ([101, 108, 115, 101]))) rfl rfl ?_
      refine WO_nil ?_
      refine W_seq ?_
      refine W_seq ?_
      refine W_reg ?_
      refine WO_pure (v := (.int .i64 ((i : Int)))) rfl rfl ?_
      refine WO_pure (v := (.bool (decide (0 < (i : Int))))) rfl rfl ?_
      refine WO_nil ?_
      refine W_if (p := 0 < (i : Int)) rfl (fun c6 => ?_) (fun c6 => ?_)
      ·refine W_reg ?_
       refine WO_pure (v := (.pointer (some ⟨b, 0, none⟩))) rfl rfl ?_
       refine WO_pure (v := (S ([101, 108, 115, 101]))) rfl rfl ?_
       refine WO_scat (l1 := [32]) (l2 := [101, 108, 115, 101]) rfl rfl rfl (by first | omega | (simp; done) | (simp; omega)) ?_
       refine WO_scat (l1 := ([32]) ++ ([101, 108, 115, 101])) (l2 := [32]) rfl rfl rfl (by first | omega | (simp; done) | (simp; omega)) ?_
       refine WO_call rfl (by exact en_45) (writeString_any (l := (l ++ [40] ++ joinN k 0 (args.take i))) ((([32]) ++ ([101, 108, 115, 101])) ++ ([32])) (Bld.ext f1_3 (below_ext (d11.below (u10.below (n9.below (Below.refl wl1.heap.size wl1) (Below.refl wl1.heap.size wl1).size) (by omega))) h12)) (by first | omega | (simp only [List.length_append, List.length_cons, List.length_nil]; omega))) ?_
       rintro _ ws14 ⟨hs14, ks14⟩
       have zs14 := ks14.size
       refine WO_nil ?_
       refine W_reg ?_
       refine WO_pure (v := (.pointer (some ⟨b, 0, none⟩))) rfl rfl ?_
       refine WO_loadrow (b := wl1.heap.size) (o := 0) (m := 5) (c := #[(.int .i64 ki), (S nmi), (.int .i64 opi), (S evi), svi]) rfl rfl Tryd.underlying25 rfl (fun _ => by kernel_rfl) (kept_keep' ks14 (below_keep h12 (drew_keep d11 e10)) (by decide) (by omega)) (by simp) ?_
       refine WO_eq 59 (v' := (.agg #[(.int .i64 ki), (S nmi), (.int .i64 opi), (S evi), svi])) rfl rfl ?_
       refine WO_call rfl (by exact en_30) (ih i (by omega) u _ [.int .i64 ki, S nmi, .int .i64 opi, S evi, svi] b ((l ++ [40] ++ joinN k 0 (args.take i)) ++ ((([32]) ++ ([101, 108, 115, 101])) ++ ([32]))) (by rw [← hxi]; exact ArgsC.at ha i (by omega)) (kept_bel (below_ext (d11.below (u10.below (n9.below (kept_bel (below_ext (Below.refl u.heap.size u) hu) f1_2 (by omega)) (kept_bel (below_ext (Below.refl u.heap.size u) hu) f1_2 (by omega)).size) (by omega))) h12) ks14 (by omega)) hub hs14 (hfa i (by omega)) (by have := argsSize_nth (show i < args.length by omega); omega) (by first | omega | (simp only [List.length_append, List.length_cons, List.length_nil]; omega))) ?_
       rintro _ ws15 ⟨hs15, ks15⟩
       have zs15 := ks15.size
       refine WO_nil ?_
       refine W_reg ?_
       refine WO_add (b := 1) (v := (i : Int) + 1) rfl rfl rfl (by simp only [kLo, kHi]; omega) ?_
       refine WO_pure (v := (.int .i64 ((i : Int) + 1))) rfl rfl ?_
       refine WO_nil ?_
       refine ⟨_, ?_, i + 1, rfl, rfl, rfl, rfl, rfl, (kept_keep' ks15 (kept_keep' ks14 (below_keep h12 (drew_keep d11 (u10.keep (n9.keep k1_1) (by first | assumption | omega | (simp; omega))))) (by decide) (by omega)) (by decide) (by omega)), ?_, ?_, ?_, rfl⟩
       ·omega
       ·omega
       ·exact (Kept.trans (Kept.trans (kept_ext (kept_ext (by first | exact kept_updb (kept_ext (Kept.trans (Kept.refl b w) f1_2) n9.ext (by omega)) u10 | exact kept_updo (kept_ext (Kept.trans (Kept.refl b w) f1_2) n9.ext (by omega)) u10 (by omega)) d11.ext (by omega)) h12 (by omega)) ks14) ks15)
       ·have e := hs15
        rw [joinN_take (show i < args.length by omega)]
        first | rw [sepN_else (k := (k : Int)) (i := i) (by omega) (by omega)] | rw [sepN_word (k := (k : Int)) (i := i) (by omega) (by omega)] | rw [sepN_zero (k := (k : Int)) (i := i) (by omega)]
        first | (simpa only [List.append_assoc, Int.toNat_natCast, List.nil_append] using e) | (exfalso; omega)
      ·refine W_skip ?_
       refine W_reg ?_
       refine WO_pure (v := (.pointer (some ⟨b, 0, none⟩))) rfl rfl ?_
       refine WO_loadrow (b := wl1.heap.size) (o := 0) (m := 5) (c := #[(.int .i64 ki), (S nmi), (.int .i64 opi), (S evi), svi]) rfl rfl Tryd.underlying25 rfl (fun _ => by kernel_rfl) (below_keep h12 (drew_keep d11 e10)) (by simp) ?_
       refine WO_eq 59 (v' := (.agg #[(.int .i64 ki), (S nmi), (.int .i64 opi), (S evi), svi])) rfl rfl ?_
       refine WO_call rfl (by exact en_30) (ih i (by omega) u _ [.int .i64 ki, S nmi, .int .i64 opi, S evi, svi] b (l ++ [40] ++ joinN k 0 (args.take i)) (by rw [← hxi]; exact ArgsC.at ha i (by omega)) (below_ext (d11.below (u10.below (n9.below (kept_bel (below_ext (Below.refl u.heap.size u) hu) f1_2 (by omega)) (kept_bel (below_ext (Below.refl u.heap.size u) hu) f1_2 (by omega)).size) (by omega))) h12) hub (Bld.ext f1_3 (below_ext (d11.below (u10.below (n9.below (Below.refl wl1.heap.size wl1) (Below.refl wl1.heap.size wl1).size) (by omega))) h12)) (hfa i (by omega)) (by have := argsSize_nth (show i < args.length by omega); omega) (by first | omega | (simp only [List.length_append, List.length_cons, List.length_nil]; omega))) ?_
       rintro _ ws16 ⟨hs16, ks16⟩
       have zs16 := ks16.size
       refine WO_nil ?_
       refine W_reg ?_
       refine WO_add (b := 1) (v := (i : Int) + 1) rfl rfl rfl (by simp only [kLo, kHi]; omega) ?_
       refine WO_pure (v := (.int .i64 ((i : Int) + 1))) rfl rfl ?_
       refine WO_nil ?_
       refine ⟨_, ?_, i + 1, rfl, rfl, rfl, rfl, rfl, (kept_keep' ks16 (below_keep h12 (drew_keep d11 (u10.keep (n9.keep k1_1) (by first | assumption | omega | (simp; omega))))) (by decide) (by omega)), ?_, ?_, ?_, rfl⟩
       ·omega
       ·omega
       ·exact (Kept.trans (kept_ext (kept_ext (by first | exact kept_updb (kept_ext (Kept.trans (Kept.refl b w) f1_2) n9.ext (by omega)) u10 | exact kept_updo (kept_ext (Kept.trans (Kept.refl b w) f1_2) n9.ext (by omega)) u10 (by omega)) d11.ext (by omega)) h12 (by omega)) ks16)
       ·have e := hs16
        rw [joinN_take (show i < args.length by omega)]
        first | rw [sepN_else (k := (k : Int)) (i := i) (by omega) (by omega)] | rw [sepN_word (k := (k : Int)) (i := i) (by omega) (by omega)] | rw [sepN_zero (k := (k : Int)) (i := i) (by omega)]
        first | (simpa only [List.append_assoc, Int.toNat_natCast, List.nil_append] using e) | (exfalso; omega)
     ·refine W_skip ?_
      refine W_seq ?_
      refine W_seq ?_
      refine W_reg ?_
      refine WO_pure (v := (.int .i64 ((i : Int)))) rfl rfl ?_
      refine WO_pure (v := (.bool (decide (0 < (i : Int))))) rfl rfl ?_
      refine WO_nil ?_
      refine W_if (p := 0 < (i : Int)) rfl (fun c7 => ?_) (fun c7 => ?_)
      ·refine W_reg ?_
       refine WO_pure (v := (.pointer (some ⟨b, 0, none⟩))) rfl rfl ?_
       refine WO_pure (v := (S (nth wordsL k))) rfl rfl ?_
       refine WO_scat (l1 := [32]) (l2 := nth wordsL k) rfl rfl rfl (by first | omega | (simp; done) | (simp; omega)) ?_
       refine WO_scat (l1 := ([32]) ++ (nth wordsL k)) (l2 := [32]) rfl rfl rfl (by first | omega | (simp; done) | (simp; omega)) ?_
       refine WO_call rfl (by exact en_45) (writeString_any (l := (l ++ [40] ++ joinN k 0 (args.take i))) ((([32]) ++ (nth wordsL k)) ++ ([32])) (Bld.ext f1_3 (below_ext (d11.below (u10.below (n9.below (Below.refl wl1.heap.size wl1) (Below.refl wl1.heap.size wl1).size) (by omega))) h12)) (by first | omega | (simp only [List.length_append, List.length_cons, List.length_nil]; omega))) ?_
       rintro _ ws17 ⟨hs17, ks17⟩
       have zs17 := ks17.size
       refine WO_nil ?_
       refine W_reg ?_
       refine WO_pure (v := (.pointer (some ⟨b, 0, none⟩))) rfl rfl ?_
       refine WO_loadrow (b := wl1.heap.size) (o := 0) (m := 5) (c := #[(.int .i64 ki), (S nmi), (.int .i64 opi), (S evi), svi]) rfl rfl Tryd.underlying25 rfl (fun _ => by kernel_rfl) (kept_keep' ks17 (below_keep h12 (drew_keep d11 e10)) (by decide) (by omega)) (by simp) ?_
       refine WO_eq 59 (v' := (.agg #[(.int .i64 ki), (S nmi), (.int .i64 opi), (S evi), svi])) rfl rfl ?_
       refine WO_call rfl (by exact en_30) (ih i (by omega) u _ [.int .i64 ki, S nmi, .int .i64 opi, S evi, svi] b ((l ++ [40] ++ joinN k 0 (args.take i)) ++ ((([32]) ++ (nth wordsL k)) ++ ([32]))) (by rw [← hxi]; exact ArgsC.at ha i (by omega)) (kept_bel (below_ext (d11.below (u10.below (n9.below (kept_bel (below_ext (Below.refl u.heap.size u) hu) f1_2 (by omega)) (kept_bel (below_ext (Below.refl u.heap.size u) hu) f1_2 (by omega)).size) (by omega))) h12) ks17 (by omega)) hub hs17 (hfa i (by omega)) (by have := argsSize_nth (show i < args.length by omega); omega) (by first | omega | (simp only [List.length_append, List.length_cons, List.length_nil]; omega))) ?_
       rintro _ ws18 ⟨hs18, ks18⟩
       have zs18 := ks18.size
       refine WO_nil ?_
       refine W_reg ?_
       refine WO_add (b := 1) (v := (i : Int) + 1) rfl rfl rfl (by simp only [kLo, kHi]; omega) ?_
       refine WO_pure (v := (.int .i64 ((i : Int) + 1))) rfl rfl ?_
       refine WO_nil ?_
       refine ⟨_, ?_, i + 1, rfl, rfl, rfl, rfl, rfl, (kept_keep' ks18 (kept_keep' ks17 (below_keep h12 (drew_keep d11 (u10.keep (n9.keep k1_1) (by first | assumption | omega | (simp; omega))))) (by decide) (by omega)) (by decide) (by omega)), ?_, ?_, ?_, rfl⟩
       ·omega
       ·omega
       ·exact (Kept.trans (Kept.trans (kept_ext (kept_ext (by first | exact kept_updb (kept_ext (Kept.trans (Kept.refl b w) f1_2) n9.ext (by omega)) u10 | exact kept_updo (kept_ext (Kept.trans (Kept.refl b w) f1_2) n9.ext (by omega)) u10 (by omega)) d11.ext (by omega)) h12 (by omega)) ks17) ks18)
       ·have e := hs18
        rw [joinN_take (show i < args.length by omega)]
        first | rw [sepN_else (k := (k : Int)) (i := i) (by omega) (by omega)] | rw [sepN_word (k := (k : Int)) (i := i) (by omega) (by omega)] | rw [sepN_zero (k := (k : Int)) (i := i) (by omega)]
        first | (simpa only [List.append_assoc, Int.toNat_natCast, List.nil_append] using e) | (exfalso; omega)
      ·refine W_skip ?_
       refine W_reg ?_
       refine WO_pure (v := (.pointer (some ⟨b, 0, none⟩))) rfl rfl ?_
       refine WO_loadrow (b := wl1.heap.size) (o := 0) (m := 5) (c := #[(.int .i64 ki), (S nmi), (.int .i64 opi), (S evi), svi]) rfl rfl Tryd.underlying25 rfl (fun _ => by kernel_rfl) (below_keep h12 (drew_keep d11 e10)) (by simp) ?_
       refine WO_eq 59 (v' := (.agg #[(.int .i64 ki), (S nmi), (.int .i64 opi), (S evi), svi])) rfl rfl ?_
       refine WO_call rfl (by exact en_30) (ih i (by omega) u _ [.int .i64 ki, S nmi, .int .i64 opi, S evi, svi] b (l ++ [40] ++ joinN k 0 (args.take i)) (by rw [← hxi]; exact ArgsC.at ha i (by omega)) (below_ext (d11.below (u10.below (n9.below (kept_bel (below_ext (Below.refl u.heap.size u) hu) f1_2 (by omega)) (kept_bel (below_ext (Below.refl u.heap.size u) hu) f1_2 (by omega)).size) (by omega))) h12) hub (Bld.ext f1_3 (below_ext (d11.below (u10.below (n9.below (Below.refl wl1.heap.size wl1) (Below.refl wl1.heap.size wl1).size) (by omega))) h12)) (hfa i (by omega)) (by have := argsSize_nth (show i < args.length by omega); omega) (by first | omega | (simp only [List.length_append, List.length_cons, List.length_nil]; omega))) ?_
       rintro _ ws19 ⟨hs19, ks19⟩
       have zs19 := ks19.size
       refine WO_nil ?_
       refine W_reg ?_
       refine WO_add (b := 1) (v := (i : Int) + 1) rfl rfl rfl (by simp only [kLo, kHi]; omega) ?_
       refine WO_pure (v := (.int .i64 ((i : Int) + 1))) rfl rfl ?_
       refine WO_nil ?_
       refine ⟨_, ?_, i + 1, rfl, rfl, rfl, rfl, rfl, (kept_keep' ks19 (below_keep h12 (drew_keep d11 (u10.keep (n9.keep k1_1) (by first | assumption | omega | (simp; omega))))) (by decide) (by omega)), ?_, ?_, ?_, rfl⟩
       ·omega
       ·omega
       ·exact (Kept.trans (kept_ext (kept_ext (by first | exact kept_updb (kept_ext (Kept.trans (Kept.refl b w) f1_2) n9.ext (by omega)) u10 | exact kept_updo (kept_ext (Kept.trans (Kept.refl b w) f1_2) n9.ext (by omega)) u10 (by omega)) d11.ext (by omega)) h12 (by omega)) ks19)
       ·have e := hs19
        rw [joinN_take (show i < args.length by omega)]
        first | rw [sepN_else (k := (k : Int)) (i := i) (by omega) (by omega)] | rw [sepN_word (k := (k : Int)) (i := i) (by omega) (by omega)] | rw [sepN_zero (k := (k : Int)) (i := i) (by omega)]
        first | (simpa only [List.append_assoc, Int.toNat_natCast, List.nil_append] using e) | (exfalso; omega)
   ·refine W_exit ?_
    refine W_reg ?_
    refine WO_pure (v := (.pointer (some ⟨b, 0, none⟩))) rfl rfl ?_
    refine WO_call rfl (by exact en_46) (writeByte_any (l := (l ++ [40] ++ joinN k 0 (args.take i))) 41 f1_3 (by first | omega | (simp only [List.length_append, List.length_cons, List.length_nil]; omega))) ?_
    rintro _ ws20 ⟨hs20, ks20⟩
    have zs20 := ks20.size
    refine WO_nil ?_
    refine body_ret0 (fn := Tryd.f30) (by first | exact .inl rfl | exact .inr rfl) rfl ?_
    refine ⟨?_, (Kept.trans (Kept.trans (Kept.refl b w) f1_2) ks20)⟩
    have e := hs20
    unfold textN; rw [if_neg c1]; rw [List.take_of_length_le (by omega)] at e; simpa using e
theorem print_any (d : DepT) : PrintSaid d := by
 refine dep_all (C := PrintSaid) (fun k nm op ev args ih => ?_) d
 intro u w cs b l h hu hub hB hf hs hl
 unfold DepC at h
 obtain ⟨sv, css, rfl, hr, ha⟩ := h
 unfold DepT.size at hs hl
 have hk : 0 ≤ k ∧ 0 ≤ op := by
  by_cases e : k = 1
  ·have := (form_nm hf e).1; omega
  ·have := form_args hf e; have h1 := this.1; have h2 := this.2.2.2.1; omega
 obtain ⟨k, rfl⟩ : ∃ n : Nat, k = n := ⟨k.toNat, by omega⟩
 obtain ⟨op, rfl⟩ : ∃ n : Nat, op = n := ⟨op.toNat, by omega⟩
 exact print_step k op nm ev args sv css u w b l hr ha hu hub hB hf hs hl ih
end Go.Proofs.YtaegacblpbbndaaDoor
end
section
namespace Go.Proofs.YtaegacblpbbndaaDoor
open Go Go.RowKit
def printF (d : DepT) : List UInt8 × Int := if checkE d = 0 then (textN d, 0) else ([], checkE d)
theorem check_form {d : DepT} (h : checkE d = 0) : formB d = true := by
 unfold checkE at h
 split at h
 ·assumption
 ·cases h
set_option maxHeartbeats 400000 in
set_option maxRecDepth 100000 in
theorem Print_step (k op : Int) (nm ev : List UInt8) (args : List DepT) (sv : Value) (css : List (List Value)) (w : World) (hr : RowIs w sv args.length 5 css.flatten) (ha : ArgsC w args css) (hs : argsSize args + 1 + nm.length + ev.length ≤ 4194304) :
  Calls Tryd.prog 13 #[(.agg #[(.int .i64 k), (S nm), (.int .i64 op), (S ev), sv])] w (Ret fun v w' => v = .tuple #[S (printF (DepT.mk k nm op ev args)).1, .int .i64 (printF (DepT.mk k nm op ev args)).2] ∧ Below w.heap.size w w') := by
 have hd0 : DepC w (DepT.mk k nm op ev args) [.int .i64 k, S nm, .int .i64 op, S ev, sv] := depC_mk hr ha
 have hz0 : (DepT.mk k nm op ev args).size ≤ 4194304 := by unfold DepT.size; omega
 refine calls_W Tryd.func13 rfl Tryd.ntmps13 ?_
 refine W_seq ?_
 refine W_reg ?_
 refine WO_box (v := (.agg #[(.int .i64 k), (S nm), (.int .i64 op), (S ev), sv])) rfl rfl (fun w1 n1 => ?_)
 have e1 : w1.heap[w.heap.size]? = some (.cells #[(.int .i64 k), (S nm), (.int .i64 op), (S ev), sv] 25 (0, 0)) := n1.here
 have z1 := n1.size
 refine WO_pure (v := (S [])) rfl rfl ?_
 refine WO_pure (v := (.int .i64 0)) rfl rfl ?_
 refine WO_nil ?_
 refine W_seq ?_
 refine W_seq ?_
 refine W_reg ?_
 refine WO_loadrow (b := w.heap.size) (o := 0) (m := 5) (c := #[(.int .i64 k), (S nm), (.int .i64 op), (S ev), sv]) rfl rfl Tryd.underlying25 rfl (fun _ => by kernel_rfl) e1 (by simp) ?_
 refine WO_eq 6 (v' := (.agg #[(.int .i64 k), (S nm), (.int .i64 op), (S ev), sv])) rfl rfl ?_
 refine WO_call rfl (by exact en_14) (check_any (DepT.mk k nm op ev args) _ (hd0.ext (n1.below (Below.refl w.heap.size w) (Below.refl w.heap.size w).size) _ _) hz0) ?_
 rintro _ wk ⟨rfl, bk⟩
 have z_wk := bk.size
 refine WO_pure (v := (.int .i64 (checkE (DepT.mk k nm op ev args)))) rfl rfl ?_
 refine WO_nil ?_
 refine W_seq ?_
 refine W_reg ?_
 refine WO_pure (v := (.int .i64 (checkE (DepT.mk k nm op ev args)))) rfl rfl ?_
 refine WO_pure (v := (.bool (!decide ((checkE (DepT.mk k nm op ev args)) = 0)))) rfl rfl ?_
 refine WO_nil ?_
 refine W_cond (t := !decide ((checkE (DepT.mk k nm op ev args)) = 0)) rfl (fun c1 => ?_) (fun c1 => ?_)
 ·refine W_seq ?_
  refine W_reg ?_
  refine WO_pure (v := (.int .i64 (checkE (DepT.mk k nm op ev args)))) rfl rfl ?_
  refine WO_pure (v := (S [])) rfl rfl ?_
  refine WO_pure (v := (.int .i64 (checkE (DepT.mk k nm op ev args)))) rfl rfl ?_
  refine WO_nil ?_
  refine W_ret ?_
  refine body_ret2 rfl (v0 := (S [])) (v1 := (.int .i64 (checkE (DepT.mk k nm op ev args)))) rfl rfl ?_
  have hbel := (below_ext (n1.below (Below.refl w.heap.size w) (Below.refl w.heap.size w).size) bk)
  exact ⟨by unfold printF; rw [if_neg (by simpa using c1)], hbel⟩
 ·refine W_skip ?_
  refine W_seq ?_
  refine W_reg ?_
  refine WO_alloc (v := (.agg #[(.pointer none), (.slice none 0 0)])) rfl (fun _ => by kernel_rfl) (fun w2 n2 => ?_)
  have e2 : w2.heap[wk.heap.size]? = some (.cells #[(.pointer none), (.slice none 0 0)] 57 (0, 0)) := n2.here
  have z2 := n2.size
  refine WO_nil ?_
  refine W_seq ?_
  refine W_reg ?_
  have hfo : formB (DepT.mk k nm op ev args) = true := check_form (by simpa using c1)
  refine WO_loadrow (b := w.heap.size) (o := 0) (m := 5) (c := #[(.int .i64 k), (S nm), (.int .i64 op), (S ev), sv]) rfl rfl Tryd.underlying25 rfl (fun _ => by kernel_rfl) (n2.keep (below_keep bk e1)) (by simp) ?_
  refine WO_eq 11 (v' := (.agg #[(.int .i64 k), (S nm), (.int .i64 op), (S ev), sv])) rfl rfl ?_
  refine WO_call rfl (by exact en_30) (print_any (DepT.mk k nm op ev args) w _ _ _ [] hd0 (n2.below (below_ext (n1.below (Below.refl w.heap.size w) (Below.refl w.heap.size w).size) bk) (below_ext (n1.below (Below.refl w.heap.size w) (Below.refl w.heap.size w).size) bk).size) (by omega) (Bld.fresh e2) hfo hz0 (by simp only [List.length_nil]; omega)) ?_
  rintro _ wp ⟨hp, kp⟩
  have zp := kp.size
  have z_wp := kp.size
  refine WO_nil ?_
  refine W_seq ?_
  refine W_reg ?_
  refine WO_call rfl (by exact en_31) (string_any hp) ?_
  rintro _ wt ⟨rfl, kt⟩
  have zt := kt.size
  have z_wt := kt.size
  refine WO_pure (v := (S (textN (DepT.mk k nm op ev args)))) rfl rfl ?_
  refine WO_pure (v := (.int .i64 0)) rfl rfl ?_
  refine WO_nil ?_
  refine W_ret ?_
  refine body_ret2 rfl (v0 := (S (textN (DepT.mk k nm op ev args)))) (v1 := (.int .i64 0)) rfl rfl ?_
  have hbel := (kept_bel (kept_bel (n2.below (below_ext (n1.below (Below.refl w.heap.size w) (Below.refl w.heap.size w).size) bk) (below_ext (n1.below (Below.refl w.heap.size w) (Below.refl w.heap.size w).size) bk).size) kp (by omega)) kt (by omega))
  exact ⟨by unfold printF; rw [if_pos (by simpa using c1)], hbel⟩
theorem Print_any {w : World} (d : DepT) (cs : List Value) (h : DepC w d cs) (hs : d.size ≤ 4194304) : Calls Tryd.prog 13 #[.agg cs.toArray] w (Ret fun v w' => v = .tuple #[S (printF d).1, .int .i64 (printF d).2] ∧ Below w.heap.size w w') := by
 cases d with
 | mk k nm op ev args =>
  unfold DepC at h
  obtain ⟨sv, css, rfl, hr, ha⟩ := h
  unfold DepT.size at hs
  exact Print_step k op nm ev args sv css w hr ha (by omega)
end Go.Proofs.YtaegacblpbbndaaDoor
end
section
namespace Go.Proofs.YtaegacblpbbndaaDoor
open Go Go.RowKit
def Toks : List UInt8 → List (List UInt8) → Prop
  | s, [] => (nextW s).1 = []
  | s, w :: r => (nextW s).1 = w ∧ w ≠ [] ∧ Toks (nextW s).2 r
theorem nextW_drop (s : List UInt8) : (nextW s).2.length + (nextW s).1.length ≤ s.length := by
  unfold nextW
  have h := skipB_le s
  split
  · simp
  · rename_i c r e
    rw [e] at h
    simp only [List.length_cons] at h
    split
    · simp; omega
    · simp only [List.length_take, List.length_drop, List.length_cons]; omega
theorem toks_len : ∀ {ws : List (List UInt8)} {s : List UInt8}, Toks s ws → ws.length ≤ s.length
  | [], _, _ => Nat.zero_le _
  | w :: r, s, h => by
    obtain ⟨h1, h2, h3⟩ := h
    have h4 := toks_len h3
    have h5 := nextW_drop s
    have h6 : 0 < w.length := List.length_pos_iff.2 h2
    rw [h1] at h5
    simp only [List.length_cons]; omega
theorem toks_words : ∀ {ws : List (List UInt8)} {s : List UInt8} (n : Nat), Toks s ws → ws.length ≤ n → wordsN n s = ws
  | [], s, n, h, _ => by
    cases n with
    | zero => rfl
    | succ n => unfold wordsN; rw [if_pos (show (nextW s).1 = [] from h)]
  | w :: r, s, n, h, hn => by
    cases n with
    | zero => simp at hn
    | succ n =>
      obtain ⟨h1, h2, h3⟩ := h
      unfold wordsN
      rw [h1, if_neg h2, toks_words n h3 (by simpa using hn)]
theorem toks_of {ws : List (List UInt8)} {s : List UInt8} (h : Toks s ws) : wordsOf s = ws := toks_words _ h (toks_len h)
theorem nextW_blank (s : List UInt8) : nextW (32 :: s) = nextW s := by unfold nextW; rw [show skipB (32 :: s) = skipB s from rfl]
theorem toks_blank {ws : List (List UInt8)} {s : List UInt8} (h : Toks s ws) : Toks (32 :: s) ws := by
  cases ws with
  | nil => unfold Toks at h ⊢; rw [nextW_blank]; exact h
  | cons w r => unfold Toks at h ⊢; rw [nextW_blank]; exact h
def Stop (t : List UInt8) : Prop := t = [] ∨ ∃ c r, t = c :: r ∧ (c = 32 ∨ c = 41)
theorem scan_word : ∀ (w t : List UInt8) (n : Nat), pairs w n = true → Stop t → scanW (w ++ t) n = w.length
  | [], t, n, h, ht => by
    have hn : n = 0 := by unfold pairs at h; have := of_decide_eq_true h; omega
    subst hn
    rcases ht with rfl | ⟨c, r, rfl, rfl | rfl⟩ <;> rfl
  | c :: w, t, n, h, ht => by
    unfold pairs at h
    split at h
    · cases h
    · rename_i hc
      have h32 : c ≠ 32 := fun e => hc (by rw [e]; decide)
      show (if c = 32 then 0 else if c = 41 then (if n = 0 then 0 else scanW (w ++ t) (n - 1) + 1) else if c = 40 then scanW (w ++ t) (n + 1) + 1 else scanW (w ++ t) n + 1) = w.length + 1
      rw [if_neg h32]
      by_cases h40 : c = 40
      · subst h40
        rw [if_pos (by decide)] at h
        simp only at h
        rw [if_neg (by omega)] at h
        rw [if_neg (by decide), if_pos rfl, scan_word w t (n + 1) h ht]
      · have h40' : ¬ c.toNat = 40 := fun e => h40 (UInt8.toNat_inj.1 e)
        rw [if_neg h40'] at h
        by_cases h41 : c = 41
        · subst h41
          rw [if_pos (by decide)] at h
          simp only at h
          split at h
          · cases h
          · rename_i hn
            rw [if_pos rfl, if_neg (by omega), scan_word w t (n - 1) (by rw [show ((n - 1 : Nat) : Int) = (n : Int) - 1 by omega]; exact h) ht]
        · have h41' : ¬ c.toNat = 41 := fun e => h41 (UInt8.toNat_inj.1 e)
          rw [if_neg h41'] at h
          simp only at h
          rw [if_neg (by omega)] at h
          rw [if_neg h41, if_neg h40, scan_word w t n h ht]
def Word (w : List UInt8) : Prop := pairs w 0 = true ∧ ∃ c r, w = c :: r ∧ c ≠ 40 ∧ c ≠ 41
theorem Word.next {w t : List UInt8} (h : Word w) (ht : Stop t) : nextW (w ++ t) = (w, t) := by
  obtain ⟨h1, c, r, rfl, h40, h41⟩ := h
  have hs := scan_word (c :: r) t 0 h1 ht
  have h32 : c ≠ 32 := by
    rintro rfl
    unfold pairs at h1
    rw [if_pos (by decide)] at h1; cases h1
  unfold nextW
  rw [show skipB (c :: r ++ t) = c :: (r ++ t) by show skipB (c :: (r ++ t)) = _; unfold skipB; rw [if_neg h32]]
  simp only
  rw [if_neg (by rintro (h | h) <;> contradiction)]
  rw [show c :: (r ++ t) = (c :: r) ++ t from rfl, hs, List.take_left, List.drop_left]
theorem Word.ne {w : List UInt8} (h : Word w) : w ≠ [] := by obtain ⟨_, c, r, rfl, _⟩ := h; simp
theorem toks_word {w t : List UInt8} {ws : List (List UInt8)} (h : Word w) (ht : Stop t) (hw : Toks t ws) : Toks (w ++ t) (w :: ws) := by
  unfold Toks
  rw [h.next ht]
  exact ⟨rfl, h.ne, hw⟩
theorem toks_open {t : List UInt8} {ws : List (List UInt8)} (hw : Toks t ws) : Toks (40 :: t) ([40] :: ws) := by
  unfold Toks
  exact ⟨rfl, by simp, hw⟩
theorem toks_close {t : List UInt8} {ws : List (List UInt8)} (hw : Toks t ws) : Toks (41 :: t) ([41] :: ws) := by
  unfold Toks
  exact ⟨rfl, by simp, hw⟩
theorem stop_blank (t : List UInt8) : Stop (32 :: t) := .inr ⟨_, _, rfl, .inl rfl⟩
theorem stop_close (t : List UInt8) : Stop (41 :: t) := .inr ⟨_, _, rfl, .inr rfl⟩
theorem word_name {nm : List UInt8} (h : nameB nm = true) : Word nm := by
  unfold nameB at h
  simp only [Bool.and_eq_true, Bool.not_eq_true'] at h
  refine ⟨h.2, ?_⟩
  have h1 := h.1
  unfold nameHead at h1
  simp only [Bool.or_eq_false_iff, decide_eq_false_iff_not] at h1
  obtain ⟨h2, _, h3, h4, _⟩ := h1
  cases nm with
  | nil => exact absurd rfl h2
  | cons c r => exact ⟨c, r, rfl, fun e => h3 (by rw [e]; rfl), fun e => h4 (by rw [e]; rfl)⟩
theorem pairs_plain : ∀ (l : List UInt8), (∀ c ∈ l, ¬ (c.toNat < 33 ∨ 126 < c.toNat) ∧ c ≠ 40 ∧ c ≠ 41) → pairs l 0 = true
  | [], _ => rfl
  | c :: r, h => by
    have hc := h c (by simp)
    unfold pairs
    rw [if_neg hc.1, if_neg (show ¬ c.toNat = 40 from fun e => hc.2.1 (UInt8.toNat_inj.1 e)), if_neg (show ¬ c.toNat = 41 from fun e => hc.2.2 (UInt8.toNat_inj.1 e))]
    show (if (0 : Int) < 0 then false else pairs r 0) = true
    rw [if_neg (by decide)]
    exact pairs_plain r fun x hx => h x (by simp [hx])
theorem may_plain (c : UInt8) (h : mayC c = true) : ¬ (c.toNat < 33 ∨ 126 < c.toNat) ∧ c ≠ 40 ∧ c ≠ 41 := by
  have key : ∀ n : Fin 256, mayC (UInt8.ofNat n) = true → ¬ ((UInt8.ofNat n).toNat < 33 ∨ 126 < (UInt8.ofNat n).toNat) ∧ UInt8.ofNat n ≠ 40 ∧ UInt8.ofNat n ≠ 41 := by decide +kernel
  have := key ⟨c.toNat, c.toNat_lt⟩
  rw [show UInt8.ofNat (⟨c.toNat, c.toNat_lt⟩ : Fin 256) = c by simp] at this
  exact this h
theorem head_ok {ev : List UInt8} (h : evrE ev = 0) : headB ev = true := by
  unfold evrE at h
  split at h
  · rename_i hb
    unfold evrB at hb
    exact (Bool.and_eq_true _ _ ▸ hb).1
  · cases h
theorem word_evr {ev : List UInt8} (h : evrE ev = 0) : Word ev := by
  have h1 := head_ok h
  unfold headB at h1
  simp only [Bool.and_eq_true, List.all_eq_true, decide_eq_true_eq] at h1
  obtain ⟨h2, h3, _⟩ := h1
  refine ⟨pairs_plain ev fun c hc => may_plain c (h2 c hc), ?_⟩
  cases ev with
  | nil => simp at h3
  | cons c r => exact ⟨c, r, rfl, (may_plain c (h2 c (by simp))).2⟩
theorem evr_len {ev : List UInt8} (h : evrE ev = 0) : ev.length ≤ 60 := by
  have h1 := head_ok h
  unfold headB at h1
  simp only [Bool.and_eq_true, decide_eq_true_eq] at h1
  exact h1.2.2
theorem name_len {nm : List UInt8} (h : nameB nm = true) : nm.length ≤ 60 := by
  unfold nameB at h
  simp only [Bool.and_eq_true, Bool.not_eq_true'] at h
  exact head_len h.1
theorem word_sign {n : Nat} (h1 : 1 ≤ n) (h7 : n ≤ 7) : Word (nth signsL n) ∧ signN (nth signsL n) = n := by
  have key : ∀ n : Fin 8, 1 ≤ n.1 → (pairs (nth signsL n.1) 0 = true ∧ ((nth signsL n.1).head? ≠ none ∧ (nth signsL n.1).head? ≠ some 40 ∧ (nth signsL n.1).head? ≠ some 41)) ∧ signN (nth signsL n.1) = (n.1 : Int) := by decide +kernel
  obtain ⟨⟨h2, h3, h4, h5⟩, h6⟩ := key ⟨n, by omega⟩ h1
  refine ⟨⟨h2, ?_⟩, h6⟩
  generalize nth signsL n = l at *
  cases l with
  | nil => simp at h3
  | cons c r => exact ⟨c, r, rfl, fun e => h4 (by rw [e]; rfl), fun e => h5 (by rw [e]; rfl)⟩
theorem word_kind {n : Nat} (h2 : 2 ≤ n) (h6 : n ≤ 6) : Word (nth wordsL n) ∧ kindW (nth wordsL n) = n ∧ signN (nth wordsL n) = 0 ∧ nth wordsL n ≠ [41] := by
  have key : ∀ n : Fin 7, 2 ≤ n.1 → (pairs (nth wordsL n.1) 0 = true ∧ ((nth wordsL n.1).head? ≠ none ∧ (nth wordsL n.1).head? ≠ some 40 ∧ (nth wordsL n.1).head? ≠ some 41)) ∧ kindW (nth wordsL n.1) = (n.1 : Int) ∧ signN (nth wordsL n.1) = 0 ∧ nth wordsL n.1 ≠ [41] := by decide +kernel
  obtain ⟨⟨h3, h4, h5, h7⟩, h8, h9, h10⟩ := key ⟨n, by omega⟩ h2
  refine ⟨⟨h3, ?_⟩, h8, h9, h10⟩
  generalize nth wordsL n = l at *
  cases l with
  | nil => simp at h4
  | cons c r => exact ⟨c, r, rfl, fun e => h5 (by rw [e]; rfl), fun e => h7 (by rw [e]; rfl)⟩
theorem word_else : Word [101, 108, 115, 101] := ⟨by decide, 101, _, rfl, by decide, by decide⟩
mutual
def wordsD : DepT → List (List UInt8)
  | .mk k nm op ev args => if k = 1 then (if 0 < op then [nm, nth signsL op.toNat, ev] else [nm]) else [40] :: (wordsJ k 0 args ++ [[41]])
def wordsJ (k : Int) : Nat → List DepT → List (List UInt8)
  | _, [] => []
  | i, a :: r => (if 0 < i then [wordN k i] else []) ++ (wordsD a ++ wordsJ k (i + 1) r)
end
theorem wordN_word {k : Int} {i : Nat} (h2 : 2 ≤ k) (h6 : k ≤ 6) : Word (wordN k i) := by
  unfold wordN
  split
  · exact word_else
  · obtain ⟨n, rfl⟩ : ∃ n : Nat, k = n := ⟨k.toNat, by omega⟩
    rw [Int.toNat_natCast]
    exact (word_kind (by omega) (by omega)).1
theorem join_stop {k : Int} {t : List UInt8} (ht : Stop t) : ∀ (i : Nat) (l : List DepT), Stop (joinN k (i + 1) l ++ t)
  | _, [] => by simpa [joinN] using ht
  | i, a :: r => by
    unfold joinN sepN
    rw [if_pos (by omega)]
    exact stop_blank _
mutual
theorem text_toks : ∀ (d : DepT), formB d = true → ∀ (t : List UInt8) (ws : List (List UInt8)), Stop t → Toks t ws → Toks (textN d ++ t) (wordsD d ++ ws)
  | .mk k nm op ev args, h, t, ws, ht, hw => by
    unfold textN wordsD
    by_cases hk : k = 1
    · have hf := form_nm h hk
      rw [if_pos hk, if_pos hk]
      split
      · rename_i hop
        obtain ⟨n, rfl⟩ : ∃ n : Nat, op = n := ⟨op.toNat, by omega⟩
        have hs := (word_sign (n := n) (by omega) (by omega)).1
        have he := word_evr (hf.2.2.2.2.2 (by omega))
        simp only [List.append_assoc, List.cons_append, List.nil_append, Int.toNat_natCast]
        exact toks_word (word_name hf.2.2.2.1) (stop_blank _) (toks_blank (toks_word hs (stop_blank _) (toks_blank (toks_word he ht hw))))
      · exact toks_word (word_name hf.2.2.2.1) ht hw
    · have hf := form_args h hk
      rw [if_neg hk, if_neg hk]
      simp only [List.append_assoc, List.cons_append, List.nil_append]
      refine toks_open ?_
      exact join_toks k (by omega) (by omega) 0 args hf.2.2.2.2.2.2.2.2 _ _ (stop_close t) (toks_close hw)
theorem join_toks : ∀ (k : Int), 2 ≤ k → k ≤ 6 → ∀ (i : Nat) (l : List DepT), argsForm k l = true → ∀ (t : List UInt8) (ws : List (List UInt8)), Stop t → Toks t ws → Toks (joinN k i l ++ t) (wordsJ k i l ++ ws)
  | k, h2, h6, i, [], _, t, ws, _, hw => by simpa [joinN, wordsJ] using hw
  | k, h2, h6, i, a :: r, h, t, ws, ht, hw => by
    unfold argsForm at h
    simp only [Bool.and_eq_true] at h
    have h1 := join_toks k h2 h6 (i + 1) r h.2.2 t ws ht hw
    have h3 := text_toks a h.2.1 _ _ (join_stop ht i r) h1
    unfold joinN wordsJ sepN
    split
    · simp only [List.append_assoc, List.cons_append, List.nil_append]
      exact toks_blank (toks_word (wordN_word h2 h6) (stop_blank _) (toks_blank h3))
    · simpa only [List.append_assoc, List.nil_append] using h3
end
theorem at_mid {pre post : List (List UInt8)} {w : List UInt8} : atW (pre ++ w :: post) pre.length = w := by
  unfold atW; simp
def NoSign (post : List (List UInt8)) : Prop := signN (post.head?.getD []) = 0
theorem at_end {pre post : List (List UInt8)} : atW (pre ++ post) pre.length = post.head?.getD [] := by
  unfold atW
  cases post <;> simp
def Reads (d : DepT) : Prop := ∀ (pre post : List (List UInt8)), NoSign post → readA (pre ++ (wordsD d ++ post)) pre.length = some (d, pre.length + (wordsD d).length)
def wordsK (kw : List UInt8) : List DepT → List (List UInt8)
  | [] => []
  | a :: r => kw :: (wordsD a ++ wordsK kw r)
theorem wordsK_cons (kw : List UInt8) (a : DepT) (r : List DepT) : wordsK kw (a :: r) = kw :: (wordsD a ++ wordsK kw r) := rfl
theorem name_not {nm : List UInt8} (h : nameB nm = true) : nm ≠ [40] := by
  obtain ⟨_, c, r, rfl, h40, _⟩ := word_name h
  intro e
  exact h40 (List.cons.inj e).1
theorem noSign_close {post : List (List UInt8)} : NoSign ([41] :: post) := by show signN [41] = 0; decide
theorem wordsK_noSign {kw : List UInt8} (hk : signN kw = 0) {post : List (List UInt8)} (h : NoSign post) : ∀ r, NoSign (wordsK kw r ++ post)
  | [] => by simpa [wordsK] using h
  | a :: r => by unfold wordsK; exact hk
theorem args_read {kw : List UInt8} (hk : signN kw = 0) (post : List (List UInt8)) (hp : NoSign post) (hpw : post.head?.getD [] ≠ kw) : ∀ (r : List DepT) (pre : List (List UInt8)) (acc : List DepT) (g : Nat),
    (∀ d ∈ r, Reads d) → ((kindW kw = 4 ∨ kindW kw = 6) → acc.length + r.length ≤ 2) → r.length < g →
    argsF (readA (pre ++ (wordsK kw r ++ post))) (pre ++ (wordsK kw r ++ post)) kw g acc pre.length = some (acc ++ r, pre.length + (wordsK kw r).length)
  | [], pre, acc, g, _, _, hg => by
    obtain ⟨g, rfl⟩ : ∃ m, g = m + 1 := ⟨g - 1, by simp at hg; omega⟩
    unfold argsF
    rw [show wordsK kw [] ++ post = post from rfl, at_end, if_neg hpw]
    simp [wordsK]
  | a :: r, pre, acc, g, hr, hl, hg => by
    obtain ⟨g, rfl⟩ : ∃ m, g = m + 1 := ⟨g - 1, by simp at hg; omega⟩
    have e : pre ++ (wordsK kw (a :: r) ++ post) = (pre ++ [kw]) ++ (wordsD a ++ (wordsK kw r ++ post)) := by rw [wordsK_cons]; simp
    have e2 : (pre ++ [kw]) ++ (wordsD a ++ (wordsK kw r ++ post)) = ((pre ++ [kw]) ++ wordsD a) ++ (wordsK kw r ++ post) := by simp
    have hn : (pre ++ [kw]).length = pre.length + 1 := by simp
    unfold argsF
    rw [show wordsK kw (a :: r) ++ post = kw :: (wordsD a ++ wordsK kw r ++ post) from rfl, at_mid, if_pos rfl]
    rw [show pre ++ kw :: (wordsD a ++ wordsK kw r ++ post) = (pre ++ [kw]) ++ (wordsD a ++ (wordsK kw r ++ post)) by simp]
    rw [if_neg (by rintro ⟨h1, h2⟩; have := hl h1; simp only [List.length_cons] at this; omega)]
    rw [← hn, hr a (by simp) _ _ (wordsK_noSign hk hp r)]
    simp only
    rw [e2, ← List.length_append, args_read hk post hp hpw r _ (acc ++ [a]) g (fun d hd => hr d (by simp [hd])) (fun h => by have := hl h; simp only [List.length_append, List.length_cons, List.length_nil] at this ⊢; omega) (by simpa using hg)]
    rw [wordsK_cons]
    simp only [List.append_assoc, List.cons_append, List.nil_append, List.length_append, List.length_cons, List.length_nil, Option.some.injEq, Prod.mk.injEq, true_and]
    omega
theorem wordsJ_K {k : Int} : ∀ (i : Nat) (r : List DepT), 0 < i → (k = 4 → i + r.length ≤ 2) → wordsJ k i r = wordsK (nth wordsL k.toNat) r
  | _, [], _, _ => by rw [wordsJ]; rfl
  | i, a :: r, hi, h4 => by
    rw [wordsJ, if_pos hi, wordsK_cons, wordsJ_K (i + 1) r (by omega) (fun e => by have := h4 e; simp only [List.length_cons] at this; omega)]
    unfold wordN
    rw [if_neg (by rintro ⟨e, h2⟩; have := h4 e; simp only [List.length_cons] at this; omega)]
    rfl
theorem wordsK_len (kw : List UInt8) : ∀ r : List DepT, r.length ≤ (wordsK kw r).length
  | [] => Nat.zero_le _
  | a :: r => by rw [wordsK_cons]; have := wordsK_len kw r; simp only [List.length_cons, List.length_append]; omega
theorem node_read {n : Nat} (h2 : 2 ≤ n) (h6 : n ≤ 6) (a : DepT) (r : List DepT) (ha : Reads a) (hr : ∀ d ∈ r, Reads d) (hl : n = 6 → r.length ≤ 1) (hl4 : n = 4 → r.length ≤ 2) (hr1 : 1 ≤ r.length) (pre post : List (List UInt8)) (hp : NoSign post) :
    readA (pre ++ ([40] :: (wordsJ (n : Int) 0 (a :: r) ++ [[41]]) ++ post)) pre.length = some (.mk n [] 0 [] (a :: r), pre.length + ([40] :: (wordsJ (n : Int) 0 (a :: r) ++ [[41]])).length) := by
  obtain ⟨_, hk, hs, h41⟩ := word_kind h2 h6
  generalize hkw : nth wordsL n = kw at *
  have hkn : nth wordsL (n : Int).toNat = kw := by rw [Int.toNat_natCast, hkw]
  have hj : wordsJ (n : Int) 0 (a :: r) = wordsD a ++ wordsJ (n : Int) 1 r := by rw [wordsJ, if_neg (by omega)]; rfl
  rw [hj]
  obtain ⟨rs, re, hre, hrs, hlen, hel⟩ : ∃ rs re, wordsJ (n : Int) 1 r = wordsK kw rs ++ re ∧ rs.length ≥ 1 ∧ ((n = 4 ∨ n = 6) → 1 + rs.length ≤ 2) ∧
      ((re = [] ∧ rs = r) ∨ (n = 4 ∧ ∃ c, re = [101, 108, 115, 101] :: wordsD c ∧ r = rs ++ [c])) := by
    by_cases h3 : n = 4 ∧ r.length = 2
    · obtain ⟨h4, h5⟩ := h3
      match r, h5 with
      | [b, c], _ =>
        refine ⟨[b], [101, 108, 115, 101] :: wordsD c, ?_, by simp, by simp, .inr ⟨h4, c, rfl, rfl⟩⟩
        rw [wordsJ, wordsJ, wordsJ, if_pos (by omega), if_pos (by omega)]
        unfold wordN
        rw [if_neg (by omega), if_pos ⟨by omega, rfl⟩, hkn]
        simp [wordsK]
    · refine ⟨r, [], ?_, hr1, fun h => ?_, .inl ⟨rfl, rfl⟩⟩
      · rw [List.append_nil, ← hkn]
        exact wordsJ_K 1 r (by omega) (fun e => by have := hl4 (by omega); omega)
      · rcases h with h | h
        · have := hl4 h; omega
        · have := hl h; omega
  rw [hre]
  have hmem : ∀ d ∈ rs, Reads d := by
    rcases hel with ⟨_, e⟩ | ⟨_, c, _, e⟩
    · intro d hd; exact hr d (e ▸ hd)
    · intro d hd; exact hr d (by rw [e]; simp [hd])
  have hre0 : NoSign (re ++ ([41] :: post)) := by
    rcases hel with ⟨e, _⟩ | ⟨_, c, e, _⟩
    · rw [e]; exact noSign_close
    · rw [e]; show signN [101, 108, 115, 101] = 0; decide
  have hrw : (re ++ ([41] :: post)).head?.getD [] ≠ kw := by
    rcases hel with ⟨e, _⟩ | ⟨_, c, e, _⟩
    · rw [e]; exact fun e => h41 e.symm
    · rw [e]; intro e2
      have e3 : kw = [101, 108, 115, 101] := e2.symm
      rw [e3] at hk
      have : kindW [101, 108, 115, 101] = 0 := by decide
      omega
  have eall : pre ++ ([40] :: (wordsD a ++ (wordsK kw rs ++ re) ++ [[41]]) ++ post) = (pre ++ [[40]]) ++ (wordsD a ++ (wordsK kw rs ++ (re ++ ([41] :: post)))) := by simp
  have e1 : (pre ++ [[40]]).length = pre.length + 1 := by simp
  rw [readA_step (by rw [show pre ++ ([40] :: (wordsD a ++ (wordsK kw rs ++ re) ++ [[41]]) ++ post) = pre ++ [40] :: (wordsD a ++ (wordsK kw rs ++ re) ++ [[41]] ++ post) by simp]; exact at_mid)]
  rw [eall, ← e1, ha _ _ (wordsK_noSign hs hre0 rs)]
  have e2 : (pre ++ [[40]]) ++ (wordsD a ++ (wordsK kw rs ++ (re ++ ([41] :: post)))) = ((pre ++ [[40]]) ++ wordsD a) ++ (wordsK kw rs ++ (re ++ ([41] :: post))) := by simp
  unfold restF
  simp only
  rw [e2, ← List.length_append]
  have hat : atW (((pre ++ [[40]]) ++ wordsD a) ++ (wordsK kw rs ++ (re ++ ([41] :: post)))) ((pre ++ [[40]]) ++ wordsD a).length = kw := by
    rw [at_end]
    cases rs with
    | nil => simp at hrs
    | cons b rs => rfl
  rw [hat, if_neg (by omega)]
  rw [args_read hs (re ++ ([41] :: post)) hre0 hrw rs _ [a] _ hmem (fun h => by have := hlen (by omega); simpa using this) (by have := wordsK_len kw rs; simp only [List.length_append] at *; omega)]
  simp only
  have e3 : ((pre ++ [[40]]) ++ wordsD a) ++ (wordsK kw rs ++ (re ++ ([41] :: post))) = (((pre ++ [[40]]) ++ wordsD a) ++ wordsK kw rs) ++ (re ++ ([41] :: post)) := by simp
  rw [e3, ← List.length_append]
  generalize hp2 : ((pre ++ [[40]]) ++ wordsD a) ++ wordsK kw rs = p2
  have hp2l : p2.length = pre.length + 1 + (wordsD a).length + (wordsK kw rs).length := by rw [← hp2]; simp only [List.length_append, List.length_cons, List.length_nil]
  rcases hel with ⟨e, er⟩ | ⟨h4, c, e, er⟩
  · subst e; subst er
    unfold elseF endF
    rw [show ([] ++ ([41] :: post) : List (List UInt8)) = [41] :: post from rfl, at_mid, if_neg (by rintro ⟨_, h⟩; cases h)]
    simp only
    rw [at_mid, if_pos rfl, hk]
    simp only [List.append_assoc, List.cons_append, List.nil_append, List.append_nil, List.length_append, List.length_cons, List.length_nil, Option.some.injEq, Prod.mk.injEq, true_and]
    omega
  · subst e
    have hc : Reads c := hr c (by rw [er]; simp)
    unfold elseF endF
    have e5 : p2 ++ ([101, 108, 115, 101] :: wordsD c ++ ([41] :: post)) = (p2 ++ [[101, 108, 115, 101]]) ++ (wordsD c ++ ([41] :: post)) := by simp
    have e6 : (p2 ++ [[101, 108, 115, 101]]).length = p2.length + 1 := by simp
    have e7 : (p2 ++ [[101, 108, 115, 101]]) ++ (wordsD c ++ ([41] :: post)) = ((p2 ++ [[101, 108, 115, 101]]) ++ wordsD c) ++ ([41] :: post) := by simp
    have hat2 : atW (p2 ++ ([101, 108, 115, 101] :: wordsD c ++ ([41] :: post))) p2.length = [101, 108, 115, 101] := by rw [List.cons_append]; exact at_mid
    rw [hat2, if_pos ⟨by omega, rfl⟩, e5, ← e6, hc _ _ noSign_close]
    simp only
    rw [e7, ← List.length_append, at_mid, if_pos rfl, hk, er]
    simp only [List.append_assoc, List.cons_append, List.nil_append, List.append_nil, List.length_append, List.length_cons, List.length_nil, Option.some.injEq, Prod.mk.injEq, true_and]
    omega
theorem reads_all (d : DepT) : formB d = true → Reads d := by
  refine dep_all (C := fun d => formB d = true → Reads d) (fun k nm op ev args ih h => ?_) d
  intro pre post hp
  by_cases hk : k = 1
  · subst hk
    have hf := form_nm h rfl
    obtain ⟨h0, h7, ha, hn, he0, he⟩ := hf
    subst ha
    unfold wordsD
    rw [if_pos rfl]
    split
    · rename_i hop
      obtain ⟨n, rfl⟩ : ∃ n : Nat, op = n := ⟨op.toNat, by omega⟩
      have hs := (word_sign (n := n) (by omega) (by omega)).2
      rw [Int.toNat_natCast]
      have e1 : atW (pre ++ ([nm, nth signsL n, ev] ++ post)) (pre.length + 1) = nth signsL n := by
        have := at_mid (pre := pre ++ [nm]) (post := ev :: post) (w := nth signsL n)
        simpa using this
      have e2 : atW (pre ++ ([nm, nth signsL n, ev] ++ post)) (pre.length + 2) = ev := by
        have := at_mid (pre := pre ++ [nm, nth signsL n]) (post := post) (w := ev)
        simpa using this
      have e0 : atW (pre ++ ([nm, nth signsL n, ev] ++ post)) pre.length = nm := at_mid (post := [nth signsL n, ev] ++ post)
      rw [readA_name (by rw [e0]; exact name_not hn)]
      unfold nameF
      rw [e0, e1, e2, hn, if_neg (by simp), hs, if_neg (by omega)]
      rfl
    · have hop : op = 0 := by omega
      subst hop
      obtain rfl := he0 rfl
      have e0 : atW (pre ++ ([nm] ++ post)) pre.length = nm := at_mid
      have e1 : atW (pre ++ ([nm] ++ post)) (pre.length + 1) = post.head?.getD [] := by
        have := at_end (pre := pre ++ [nm]) (post := post)
        simpa using this
      rw [readA_name (by rw [e0]; exact name_not hn)]
      unfold nameF
      rw [e0, e1, hn, if_neg (by simp), if_pos (show signN (post.head?.getD []) = 0 from hp)]
      rfl
  · obtain ⟨h2, h6, rfl, rfl, rfl, hl, hl4, hl6, hf⟩ := form_args h hk
    obtain ⟨n, rfl⟩ : ∃ n : Nat, k = n := ⟨k.toNat, by omega⟩
    have hall : ∀ i, i < args.length → Reads (nth args i) := fun i hi => ih i hi (argsForm_nth hf hi)
    have hmem : ∀ d ∈ args, Reads d := fun d hd => by
      obtain ⟨i, hi, e⟩ := List.getElem_of_mem hd
      have := hall i hi
      rw [show nth args i = d by unfold nth; rw [List.getElem?_eq_getElem hi, e]; rfl] at this
      exact this
    unfold wordsD
    rw [if_neg hk]
    match args, hl, hl4, hl6, hmem with
    | [], hl, _, _, _ => simp at hl
    | a :: r, hl, hl4, hl6, hmem =>
      exact node_read (by omega) (by omega) a r (hmem a (by simp)) (fun d hd => hmem d (by simp [hd])) (fun e => by have := hl6 (by omega); simp only [List.length_cons] at this; omega)
        (fun e => by have := hl4 (by omega); simp only [List.length_cons] at this; omega) (by simp only [List.length_cons] at hl; omega) pre post hp
theorem parse_toks {d : DepT} {s : List UInt8} (hc : checkE d = 0) (h : Toks s (wordsD d)) : parseF s = (d, 0) := by
  have hw := toks_of h
  have hr := reads_all d (check_form hc) [] [] rfl
  simp only [List.nil_append, List.append_nil, List.length_nil, Nat.zero_add] at hr
  exact parse_good (t := d) (m := (wordsD d).length) (by rw [hw]; exact hr) (by rw [hw]; exact Nat.le_refl _) hc
theorem toks_text {d : DepT} (hc : checkE d = 0) {t : List UInt8} (ht : Stop t) (h0 : Toks t []) : Toks (textN d ++ t) (wordsD d) := by
  have := text_toks d (check_form hc) t [] ht h0
  simpa using this
theorem parse_text {d : DepT} (hc : checkE d = 0) : parseF (textN d) = (d, 0) := by
  have := toks_text hc (t := []) (.inl rfl) rfl
  rw [List.append_nil] at this
  exact parse_toks hc this
theorem parse_wide {d : DepT} (hc : checkE d = 0) : parseF ([32] ++ textN d ++ [32, 32]) = (d, 0) := by
  refine parse_toks hc ?_
  have := toks_text hc (t := [32, 32]) (stop_blank _) rfl
  exact toks_blank this
theorem parse_ok {s : List UInt8} {x : DepT} (h : parseF s = (x, 0)) : checkE x = 0 := by
  unfold parseF at h
  split at h
  · cases h
  · split at h
    · split at h
      · rename_i hc; cases h; exact hc
      · rename_i hc; simp only [Prod.mk.injEq] at h; exact absurd h.2 hc
    · cases h
theorem parse_no {s : List UInt8} {x : DepT} {e : Int} (h : parseF s = (x, e)) (he : e ≠ 0) : x = zeroT := by
  unfold parseF at h
  split at h
  · cases h; rfl
  · split at h
    · split at h
      · cases h; exact absurd rfl he
      · cases h; rfl
    · cases h; rfl
mutual
theorem text_short : ∀ d : DepT, formB d = true → (textN d).length + 20 ≤ 1000 * partsN d
  | .mk k nm op ev args, h => by
    unfold textN partsN
    by_cases hk : k = 1
    · have hf := form_nm h hk
      have h1 := name_len hf.2.2.2.1
      have h2 := sign_len op.toNat
      rw [if_pos hk, if_pos hk]
      split
      · have h3 := evr_len (hf.2.2.2.2.2 (by omega))
        simp only [List.length_append, List.length_cons, List.length_nil]; omega
      · omega
    · have hf := form_args h hk
      rw [if_neg hk, if_neg hk]
      have h1 := join_short k 0 args hf.2.2.2.2.2.2.2.2
      simp only [List.length_append, List.length_cons, List.length_nil]; omega
theorem join_short : ∀ (k : Int) (i : Nat) (l : List DepT), argsForm k l = true → (joinN k i l).length + 11 * l.length ≤ 1000 * argsParts l
  | k, i, [], _ => by simp [joinN]
  | k, i, a :: r, h => by
    unfold argsForm at h
    simp only [Bool.and_eq_true] at h
    have h1 := text_short a h.2.1
    have h2 := join_short k (i + 1) r h.2.2
    have h3 := sepN_len k i
    unfold joinN argsParts
    simp only [List.length_append, List.length_cons]; omega
end
theorem text_le {d : DepT} (hc : checkE d = 0) : (textN d).length ≤ 16000 := by
  have hf := check_form hc
  have h1 := text_short d hf
  unfold checkE at hc
  rw [if_pos hf] at hc
  split at hc
  · cases hc
  · omega
end Go.Proofs.YtaegacblpbbndaaDoor
end
section
namespace Go.Proofs.YtaegacblpbbndaaDoor
open Go Go.RowKit
theorem en_7 : Enters Tryd.prog 7 := enters_of Tryd.func7 (by kernel_rfl) rfl
theorem parse_is {s : List UInt8} {k op er : Int} {nm ev : List UInt8} {args : List DepT} (h : parseF s = (.mk k nm op ev args, er)) (w : World) (hl : s.length ≤ 1048576) : Calls Tryd.prog 8 #[S s] w (Ret fun v w' =>
  (∃ (sv : Value) (css : List (List Value)), v = .tuple #[.agg #[.int .i64 k, S nm, .int .i64 op, S ev, sv], .int .i64 er] ∧ RowIs w' sv args.length 5 css.flatten ∧ ArgsC w' args css) ∧ Below w.heap.size w w') :=
 (parse_any s w hl).mono fun e w' hh => by
  obtain ⟨v, he, hv, hb⟩ := hh
  rw [h] at hv
  exact ⟨v, he, parseIs_mk hv, hb⟩
theorem Print_ok {w : World} (d : DepT) (cs : List Value) (h : DepC w d cs) (hs : d.size ≤ 4194304) (hc : checkE d = 0) : Calls Tryd.prog 13 #[.agg cs.toArray] w (Ret fun v w' => v = .tuple #[S (textN d), .int .i64 0] ∧ Below w.heap.size w w') := by
 have h1 := Print_any d cs h hs
 rw [show printF d = (textN d, 0) by unfold printF; rw [if_pos hc]] at h1
 exact h1
theorem check_ok {w : World} (d : DepT) (cs : List Value) (h : DepC w d cs) (hs : d.size ≤ 4194304) (hc : checkE d = 0) : Calls Tryd.prog 14 #[.agg cs.toArray] w (Ret fun v w' => v = .int .i64 0 ∧ Below w.heap.size w w') := by
 have h1 := check_any d cs h hs
 rw [hc] at h1; exact h1
theorem awake_parse : parseF [40, 97, 32, 97, 110, 100, 32, 40, 98, 32, 111, 114, 32, 99, 40, 120, 41, 32, 62, 61, 32, 49, 41, 32, 41] = (.mk 2 [] 0 [] [.mk 1 [97] 0 [] [], .mk 3 [] 0 [] [.mk 1 [98] 0 [] [], .mk 1 [99, 40, 120, 41] 6 [49] []]], 0) := by kernel_rfl
theorem awake_odd : parseF [97, 32, 98] = (.mk 0 [] 0 [] [], 50) := by kernel_rfl
theorem awake_text : textN (.mk 2 [] 0 [] [.mk 1 [97] 0 [] [], .mk 3 [] 0 [] [.mk 1 [98] 0 [] [], .mk 1 [99, 40, 120, 41] 6 [49] []]]) = [40, 97, 32, 97, 110, 100, 32, 40, 98, 32, 111, 114, 32, 99, 40, 120, 41, 32, 62, 61, 32, 49, 41, 41] := by kernel_rfl
theorem awake_check : checkE (.mk 2 [] 0 [] [.mk 1 [97] 0 [] [], .mk 3 [] 0 [] [.mk 1 [98] 0 [] [], .mk 1 [99, 40, 120, 41] 6 [49] []]]) = 0 := by kernel_rfl
set_option maxHeartbeats 400000 in
set_option maxRecDepth 100000 in
theorem awake_any (w : World) :
  Calls Tryd.prog 7 #[] w (Ret fun v w' => v = .bool true ∧ Below w.heap.size w w') := by
 refine calls_W Tryd.func7 rfl Tryd.ntmps7 ?_
 refine W_seq ?_
 refine W_reg ?_
 refine WO_pure (v := (.bool false)) rfl rfl ?_
 refine WO_nil ?_
 refine W_seq ?_
 refine W_reg ?_
 refine WO_call rfl (by exact en_8) (parse_is awake_parse _ (by decide)) ?_
 rintro _ wp1 ⟨⟨sv1, css1, rfl, rx1, ax1⟩, bp1⟩
 have z_wp1 := bp1.size
 refine WO_pure rfl rfl ?_
 refine WO_pure (v := (.agg #[(.int .i64 2), (S []), (.int .i64 0), (S []), sv1])) rfl rfl ?_
 refine WO_pure (v := (.int .i64 0)) rfl rfl ?_
 refine WO_alloc (v := (.agg #[(.int .i64 0), (S []), (.int .i64 0), (S []), (.slice none 0 0)])) rfl (fun _ => by kernel_rfl) (fun w1 n1 => ?_)
 have e1 : w1.heap[wp1.heap.size]? = some (.cells #[(.int .i64 0), (S []), (.int .i64 0), (S []), (.slice none 0 0)] 25 (0, 0)) := n1.here
 have z1 := n1.size
 have p2 := e1
 refine WO_storerow (b := wp1.heap.size) (o := 0) (c' := #[(.int .i64 2), (S []), (.int .i64 0), (S []), sv1]) rfl rfl rfl (fun _ => by kernel_rfl) (by rw [Array.all_eq_true_iff_forall_mem]; intro v hv; simp only [List.mem_toArray, List.mem_cons, List.not_mem_nil, or_false] at hv; rcases hv with hv | hv | hv | hv | hv <;> (rw [hv]; first | rfl | exact oneCell_is (rx1.ext n1.ext))) p2 (by simp) (fun w2 u2 => ?_)
 have e2 : w2.heap[wp1.heap.size]? = some (.cells #[(.int .i64 2), (S []), (.int .i64 0), (S []), sv1] 25 (0, 0)) := u2.here
 have z2 := u2.size
 refine WO_pure (v := (.int .i64 0)) rfl rfl ?_
 refine WO_nil ?_
 refine W_seq ?_
 refine W_reg ?_
 refine WO_loadrow (b := wp1.heap.size) (o := 0) (m := 5) (c := #[(.int .i64 2), (S []), (.int .i64 0), (S []), sv1]) rfl rfl Tryd.underlying25 rfl (fun _ => by kernel_rfl) e2 (by simp) ?_
 refine WO_eq 12 (v' := (.agg #[(.int .i64 2), (S []), (.int .i64 0), (S []), sv1])) rfl rfl ?_
 refine WO_call rfl (by exact en_13) (Print_ok (.mk 2 [] 0 [] [.mk 1 [97] 0 [] [], .mk 3 [] 0 [] [.mk 1 [98] 0 [] [], .mk 1 [99, 40, 120, 41] 6 [49] []]]) _ (DepC.ext (u2.below (n1.below (Below.refl wp1.heap.size wp1) (Below.refl wp1.heap.size wp1).size) (by omega)) _ _ (depC_mk rx1 ax1)) (by decide) awake_check) ?_
 rintro _ wr ⟨rfl, br⟩
 rw [awake_text]
 have z_wr := br.size
 refine WO_pure rfl rfl ?_
 refine WO_pure (v := (S ([40, 97, 32, 97, 110, 100, 32, 40, 98, 32, 111, 114, 32, 99, 40, 120, 41, 32, 62, 61, 32, 49, 41, 41]))) rfl rfl ?_
 refine WO_pure (v := (.int .i64 0)) rfl rfl ?_
 refine WO_pure (v := (S ([40, 97, 32, 97, 110, 100, 32, 40, 98, 32, 111, 114, 32, 99, 40, 120, 41, 32, 62, 61, 32, 49, 41, 41]))) rfl rfl ?_
 refine WO_pure (v := (.int .i64 0)) rfl rfl ?_
 refine WO_nil ?_
 refine W_seq ?_
 refine W_reg ?_
 refine WO_call rfl (by exact en_8) (parse_is awake_odd _ (by decide)) ?_
 rintro _ wp2 ⟨⟨sv2, css2, rfl, rx2, ax2⟩, bp2⟩
 have z_wp2 := bp2.size
 refine WO_pure rfl rfl ?_
 refine WO_pure (v := (.agg #[(.int .i64 0), (S []), (.int .i64 0), (S []), sv2])) rfl rfl ?_
 refine WO_pure (v := (.int .i64 50)) rfl rfl ?_
 refine WO_alloc (v := (.agg #[(.int .i64 0), (S []), (.int .i64 0), (S []), (.slice none 0 0)])) rfl (fun _ => by kernel_rfl) (fun w3 n3 => ?_)
 have e3 : w3.heap[wp2.heap.size]? = some (.cells #[(.int .i64 0), (S []), (.int .i64 0), (S []), (.slice none 0 0)] 25 (0, 0)) := n3.here
 have z3 := n3.size
 have p4 := e3
 refine WO_storerow (b := wp2.heap.size) (o := 0) (c' := #[(.int .i64 0), (S []), (.int .i64 0), (S []), sv2]) rfl rfl rfl (fun _ => by kernel_rfl) (by rw [Array.all_eq_true_iff_forall_mem]; intro v hv; simp only [List.mem_toArray, List.mem_cons, List.not_mem_nil, or_false] at hv; rcases hv with hv | hv | hv | hv | hv <;> (rw [hv]; first | rfl | exact oneCell_is (rx2.ext n3.ext))) p4 (by simp) (fun w4 u4 => ?_)
 have e4 : w4.heap[wp2.heap.size]? = some (.cells #[(.int .i64 0), (S []), (.int .i64 0), (S []), sv2] 25 (0, 0)) := u4.here
 have z4 := u4.size
 refine WO_pure (v := (.int .i64 50)) rfl rfl ?_
 refine WO_nil ?_
 refine W_cut (fun σ' w' => w4 = w' ∧ σ' 0 = (.bool ((decide ([40, 97, 32, 97, 110, 100, 32, 40, 98, 32, 111, 114, 32, 99, 40, 120, 41, 32, 62, 61, 32, 49, 41, 41] = [40, 97, 32, 97, 110, 100, 32, 40, 98, 32, 111, 114, 32, 99, 40, 120, 41, 32, 62, 61, 32, 49, 41, 41])) || false))) ?_ ?_
 ·refine W_reg ?_
  refine WO_pure (v := (.int .i64 0)) rfl rfl ?_
  refine WO_pure (v := (.bool true)) rfl rfl ?_
  refine WO_pure (v := (.bool true)) rfl rfl ?_
  refine WO_pure (v := (.int .i64 0)) rfl rfl ?_
  refine WO_pure (v := (.bool true)) rfl rfl ?_
  refine WO_pure (v := (.bool true)) rfl rfl ?_
  refine WO_pure (v := (.bool true)) rfl rfl ?_
  refine WO_pure (v := (S ([40, 97, 32, 97, 110, 100, 32, 40, 98, 32, 111, 114, 32, 99, 40, 120, 41, 32, 62, 61, 32, 49, 41, 41]))) rfl rfl ?_
  refine WO_seql (l1 := [40, 97, 32, 97, 110, 100, 32, 40, 98, 32, 111, 114, 32, 99, 40, 120, 41, 32, 62, 61, 32, 49, 41, 41]) (l2 := [40, 97, 32, 97, 110, 100, 32, 40, 98, 32, 111, 114, 32, 99, 40, 120, 41, 32, 62, 61, 32, 49, 41, 41]) rfl rfl rfl ?_
  refine WO_pure (v := (.bool (decide ([40, 97, 32, 97, 110, 100, 32, 40, 98, 32, 111, 114, 32, 99, 40, 120, 41, 32, 62, 61, 32, 49, 41, 41] = [40, 97, 32, 97, 110, 100, 32, 40, 98, 32, 111, 114, 32, 99, 40, 120, 41, 32, 62, 61, 32, 49, 41, 41])))) rfl rfl ?_
  refine WO_pure (v := (.bool (decide ([40, 97, 32, 97, 110, 100, 32, 40, 98, 32, 111, 114, 32, 99, 40, 120, 41, 32, 62, 61, 32, 49, 41, 41] = [40, 97, 32, 97, 110, 100, 32, 40, 98, 32, 111, 114, 32, 99, 40, 120, 41, 32, 62, 61, 32, 49, 41, 41])))) rfl rfl ?_
  refine WO_splitp 30 (p := [40, 97, 32, 97, 110, 100, 32, 40, 98, 32, 111, 114, 32, 99, 40, 120, 41, 32, 62, 61, 32, 49, 41, 41] = [40, 97, 32, 97, 110, 100, 32, 40, 98, 32, 111, 114, 32, 99, 40, 120, 41, 32, 62, 61, 32, 49, 41, 41]) (by exact rfl) (fun c1 => ?_) (fun c1 => ?_)
  ·refine WO_pure (v := (.int .i64 50)) rfl rfl ?_
   refine WO_pure (v := (.bool true)) rfl rfl ?_
   refine WO_pure (v := (.bool true)) rfl rfl ?_
   refine WO_pure (v := (.bool true)) rfl rfl ?_
   refine WO_nil ?_
   exact ⟨rfl, (by show ((.bool true) : Value) = (.bool ((decide ([40, 97, 32, 97, 110, 100, 32, 40, 98, 32, 111, 114, 32, 99, 40, 120, 41, 32, 62, 61, 32, 49, 41, 41] = [40, 97, 32, 97, 110, 100, 32, 40, 98, 32, 111, 114, 32, 99, 40, 120, 41, 32, 62, 61, 32, 49, 41, 41])) || false)); first | (simp [c1]; done) | (simp [c1]; omega) | (simp_all; done) | (simp_all; omega))⟩
  ·refine WO_pass rfl ?_
   refine WO_pass rfl ?_
   refine WO_pure (v := (.bool false)) rfl rfl ?_
   refine WO_pure (v := (.bool false)) rfl rfl ?_
   refine WO_nil ?_
   exact ⟨rfl, (by show ((.bool false) : Value) = (.bool ((decide ([40, 97, 32, 97, 110, 100, 32, 40, 98, 32, 111, 114, 32, 99, 40, 120, 41, 32, 62, 61, 32, 49, 41, 41] = [40, 97, 32, 97, 110, 100, 32, 40, 98, 32, 111, 114, 32, 99, 40, 120, 41, 32, 62, 61, 32, 49, 41, 41])) || false)); first | (simp [c1]; done) | (simp [c1]; omega) | (simp_all; done) | (simp_all; omega))⟩
 ·rintro σ1 _ ⟨rfl, h1_0⟩
  refine W_anchor (d := 0) h1_0 (?_)
  refine W_ret ?_
  refine body_ret1 rfl (v0 := (.bool ((decide ([40, 97, 32, 97, 110, 100, 32, 40, 98, 32, 111, 114, 32, 99, 40, 120, 41, 32, 62, 61, 32, 49, 41, 41] = [40, 97, 32, 97, 110, 100, 32, 40, 98, 32, 111, 114, 32, 99, 40, 120, 41, 32, 62, 61, 32, 49, 41, 41])) || false))) rfl ?_
  have hbel := (u4.below (n3.below (below_ext (below_ext (u2.below (n1.below (below_ext (Below.refl w.heap.size w) bp1) (below_ext (Below.refl w.heap.size w) bp1).size) (by omega)) br) bp2) (below_ext (below_ext (u2.below (n1.below (below_ext (Below.refl w.heap.size w) bp1) (below_ext (Below.refl w.heap.size w) bp1).size) (by omega)) br) bp2).size) (by omega))
  exact ⟨rfl, hbel⟩
set_option maxHeartbeats 2000000 in
set_option maxRecDepth 100000 in
theorem back_step (w : World) (k op ed k2 op2 er : Int) (nm ev ps s nm2 ev2 : List UInt8) (args args2 : List DepT) (sv : Value) (css : List (List Value)) (hd : DepC w (DepT.mk k nm op ev args) [.int .i64 k, S nm, .int .i64 op, S ev, sv]) (hr0 : RowIs w sv args.length 5 css.flatten) (ha0 : ArgsC w args css) (hz : (DepT.mk k nm op ev args).size ≤ 4194304) (hl : s.length ≤ 1048576) (hpf : printF (DepT.mk k nm op ev args) = (ps, ed)) (hbk : ed = 0 → parseF ps = ((DepT.mk k nm op ev args), 0)) (hps : ed = 0 → ps.length ≤ 16000) (hpt : parseF s = ((DepT.mk k2 nm2 op2 ev2 args2), er)) (hz2 : (DepT.mk k2 nm2 op2 ev2 args2).size ≤ 4194304) (hck0 : er = 0 → checkE (DepT.mk k2 nm2 op2 ev2 args2) = 0) (hk0 : er ≠ 0 → k2 = 0) :
  Calls Tryd.prog 5 #[(.agg #[(.int .i64 k), (S nm), (.int .i64 op), (S ev), sv]), (S s)] w (Ret fun v w' => v = .bool true ∧ Below w.heap.size w w') := by
 refine calls_W Tryd.func5 rfl Tryd.ntmps5 ?_
 refine W_seq ?_
 refine W_reg ?_
 refine WO_box (v := (.agg #[(.int .i64 k), (S nm), (.int .i64 op), (S ev), sv])) rfl rfl (fun w1 n1 => ?_)
 have e1 : w1.heap[w.heap.size]? = some (.cells #[(.int .i64 k), (S nm), (.int .i64 op), (S ev), sv] 25 (0, 0)) := n1.here
 have z1 := n1.size
 refine WO_pure (v := (.bool false)) rfl rfl ?_
 refine WO_nil ?_
 refine W_seq ?_
 refine W_reg ?_
 refine WO_call rfl (by exact en_7) (awake_any _) ?_
 rintro _ wa ⟨rfl, ba⟩
 have z_wa := ba.size
 refine WO_pure (v := (.bool true)) rfl rfl ?_
 refine WO_nil ?_
 refine W_seq ?_
 refine W_reg ?_
 refine WO_loadrow (b := w.heap.size) (o := 0) (m := 5) (c := #[(.int .i64 k), (S nm), (.int .i64 op), (S ev), sv]) rfl rfl Tryd.underlying25 rfl (fun _ => by kernel_rfl) (below_keep ba e1) (by simp) ?_
 refine WO_eq 18 (v' := (.agg #[(.int .i64 k), (S nm), (.int .i64 op), (S ev), sv])) rfl rfl ?_
 refine WO_call rfl (by exact en_13) (Print_any (DepT.mk k nm op ev args) _ (DepC.ext (below_ext (n1.below (Below.refl w.heap.size w) (Below.refl w.heap.size w).size) ba) _ _ hd) hz) ?_
 rintro _ wr ⟨hr, br⟩
 rw [hpf] at hr
 subst hr
 have z_wr := br.size
 refine WO_pure rfl rfl ?_
 refine WO_pure (v := (S ps)) rfl rfl ?_
 refine WO_pure (v := (.int .i64 ed)) rfl rfl ?_
 refine WO_pure (v := (S ps)) rfl rfl ?_
 refine WO_pure (v := (.int .i64 ed)) rfl rfl ?_
 refine WO_nil ?_
 refine W_seq ?_
 refine W_seq ?_
 refine W_reg ?_
 refine WO_pure (v := (.int .i64 ed)) rfl rfl ?_
 refine WO_pure (v := (.bool (decide (ed = 0)))) rfl rfl ?_
 refine WO_nil ?_
 refine W_if (p := ed = 0) rfl (fun c1 => ?_) (fun c1 => ?_)
 ·refine W_seq ?_
  refine W_reg ?_
  refine WO_pure (v := (S ps)) rfl rfl ?_
  refine WO_call rfl (by exact en_8) (parse_is (hbk c1) _ (by have := hps c1; omega)) ?_
  rintro _ wp1 ⟨⟨sv1, css1, rfl, rx1, ax1⟩, bp1⟩
  have z_wp1 := bp1.size
  refine WO_pure rfl rfl ?_
  refine WO_pure (v := (.agg #[(.int .i64 k), (S nm), (.int .i64 op), (S ev), sv1])) rfl rfl ?_
  refine WO_pure (v := (.int .i64 0)) rfl rfl ?_
  refine WO_alloc (v := (.agg #[(.int .i64 0), (S []), (.int .i64 0), (S []), (.slice none 0 0)])) rfl (fun _ => by kernel_rfl) (fun w2 n2 => ?_)
  have e2 : w2.heap[wp1.heap.size]? = some (.cells #[(.int .i64 0), (S []), (.int .i64 0), (S []), (.slice none 0 0)] 25 (0, 0)) := n2.here
  have z2 := n2.size
  have p3 := e2
  refine WO_storerow (b := wp1.heap.size) (o := 0) (c' := #[(.int .i64 k), (S nm), (.int .i64 op), (S ev), sv1]) rfl rfl rfl (fun _ => by kernel_rfl) (by rw [Array.all_eq_true_iff_forall_mem]; intro v hv; simp only [List.mem_toArray, List.mem_cons, List.not_mem_nil, or_false] at hv; rcases hv with hv | hv | hv | hv | hv <;> (rw [hv]; first | rfl | exact oneCell_is (rx1.ext n2.ext))) p3 (by simp) (fun w3 u3 => ?_)
  have e3 : w3.heap[wp1.heap.size]? = some (.cells #[(.int .i64 k), (S nm), (.int .i64 op), (S ev), sv1] 25 (0, 0)) := u3.here
  have z3 := u3.size
  refine WO_pure (v := (.int .i64 0)) rfl rfl ?_
  refine WO_nil ?_
  refine W_seq ?_
  refine W_reg ?_
  refine WO_loadrow (b := wp1.heap.size) (o := 0) (m := 5) (c := #[(.int .i64 k), (S nm), (.int .i64 op), (S ev), sv1]) rfl rfl Tryd.underlying25 rfl (fun _ => by kernel_rfl) e3 (by simp) ?_
  refine WO_eq 29 (v' := (.agg #[(.int .i64 k), (S nm), (.int .i64 op), (S ev), sv1])) rfl rfl ?_
  refine WO_loadrow (b := w.heap.size) (o := 0) (m := 5) (c := #[(.int .i64 k), (S nm), (.int .i64 op), (S ev), sv]) rfl rfl Tryd.underlying25 rfl (fun _ => by kernel_rfl) (u3.keep (n2.keep (below_keep bp1 (below_keep br (below_keep ba e1)))) (by first | assumption | omega | (simp; omega))) (by simp) ?_
  refine WO_eq 30 (v' := (.agg #[(.int .i64 k), (S nm), (.int .i64 op), (S ev), sv])) rfl rfl ?_
  refine WO_call rfl (by exact en_10) (same_self (DepC.ext (u3.below (n2.below (Below.refl wp1.heap.size wp1) (Below.refl wp1.heap.size wp1).size) (by omega)) _ _ (depC_mk rx1 ax1)) (DepC.ext (u3.below (n2.below (below_ext (below_ext (below_ext (n1.below (Below.refl w.heap.size w) (Below.refl w.heap.size w).size) ba) br) bp1) (below_ext (below_ext (below_ext (n1.below (Below.refl w.heap.size w) (Below.refl w.heap.size w).size) ba) br) bp1).size) (by omega)) _ _ hd) hz) ?_
  rintro _ ws1 ⟨rfl, bs1⟩
  have z_ws1 := bs1.size
  refine WO_pure (v := (.bool true)) rfl rfl ?_
  refine WO_nil ?_
  refine W_cut (fun σ' w' => ws1 = w' ∧ σ' 1 = (S s) ∧ σ' 5 = (.bool true) ∧ σ' 37 = (.bool false)) ?_ ?_
  ·refine W_reg ?_
   refine WO_pure (v := (.int .i64 0)) rfl rfl ?_
   refine WO_pure (v := (.bool false)) rfl rfl ?_
   refine WO_pure (v := (.bool false)) rfl rfl ?_
   refine WO_pure (v := (.bool true)) rfl rfl ?_
   refine WO_pure (v := (.bool false)) rfl rfl ?_
   refine WO_pure (v := (.bool false)) rfl rfl ?_
   refine WO_nil ?_
   exact ⟨rfl, rfl, rfl, rfl⟩
  ·rintro σ1 _ ⟨rfl, h1_1, h1_5, h1_37⟩
   refine W_anchor (d := 1) h1_1 (W_anchor (d := 5) h1_5 (W_anchor (d := 37) h1_37 (?_)))
   refine W_false rfl ?_
   refine W_skip ?_
   refine W_seq ?_
   refine W_reg ?_
   refine WO_pure (v := (S s)) rfl rfl ?_
   refine WO_call rfl (by exact en_8) (parse_is hpt _ hl) ?_
   rintro _ wp2 ⟨⟨sv2, css2, rfl, rx2, ax2⟩, bp2⟩
   have z_wp2 := bp2.size
   refine WO_pure rfl rfl ?_
   refine WO_pure (v := (.agg #[(.int .i64 k2), (S nm2), (.int .i64 op2), (S ev2), sv2])) rfl rfl ?_
   refine WO_pure (v := (.int .i64 er)) rfl rfl ?_
   refine WO_alloc (v := (.agg #[(.int .i64 0), (S []), (.int .i64 0), (S []), (.slice none 0 0)])) rfl (fun _ => by kernel_rfl) (fun w4 n4 => ?_)
   have e4 : w4.heap[wp2.heap.size]? = some (.cells #[(.int .i64 0), (S []), (.int .i64 0), (S []), (.slice none 0 0)] 25 (0, 0)) := n4.here
   have z4 := n4.size
   have p5 := e4
   refine WO_storerow (b := wp2.heap.size) (o := 0) (c' := #[(.int .i64 k2), (S nm2), (.int .i64 op2), (S ev2), sv2]) rfl rfl rfl (fun _ => by kernel_rfl) (by rw [Array.all_eq_true_iff_forall_mem]; intro v hv; simp only [List.mem_toArray, List.mem_cons, List.not_mem_nil, or_false] at hv; rcases hv with hv | hv | hv | hv | hv <;> (rw [hv]; first | rfl | exact oneCell_is (rx2.ext n4.ext))) p5 (by simp) (fun w5 u5 => ?_)
   have e5 : w5.heap[wp2.heap.size]? = some (.cells #[(.int .i64 k2), (S nm2), (.int .i64 op2), (S ev2), sv2] 25 (0, 0)) := u5.here
   have z5 := u5.size
   refine WO_pure (v := (.int .i64 er)) rfl rfl ?_
   refine WO_nil ?_
   refine W_seq ?_
   refine W_seq ?_
   refine W_reg ?_
   refine WO_pure (v := (.int .i64 er)) rfl rfl ?_
   refine WO_pure (v := (.bool (!decide (er = 0)))) rfl rfl ?_
   refine WO_nil ?_
   refine W_cond (t := !decide (er = 0)) rfl (fun c2 => ?_) (fun c2 => ?_)
   ·refine W_cut (fun σ' w' => w5 = w' ∧ σ' 4 = (.bool (decide (k2 = 0)))) ?_ ?_
    ·refine W_reg ?_
     refine WO_pure (v := (.bool true)) rfl rfl ?_
     refine WO_pure (v := (.bool true)) rfl rfl ?_
     refine WO_same (v := (.pointer (some ⟨wp2.heap.size, 0, none⟩))) rfl (by kernel_rfl) ?_
     refine WO_load (a := ⟨wp2.heap.size, 0, none⟩) (v := (.int .i64 k2)) rfl rfl Tryd.underlying3 rfl (cell_of e5 rfl) ?_
     refine WO_pure (v := (.bool (decide (k2 = 0)))) rfl rfl ?_
     refine WO_pure (v := (.bool (decide (k2 = 0)))) rfl rfl ?_
     refine WO_pure (v := (.bool (decide (k2 = 0)))) rfl rfl ?_
     refine WO_nil ?_
     exact ⟨rfl, rfl⟩
    ·rintro σ2 _ ⟨rfl, h2_4⟩
     refine W_anchor (d := 4) h2_4 (?_)
     refine W_ret ?_
     refine body_ret1 rfl (v0 := (.bool (decide (k2 = 0)))) rfl ?_
     have hbel := (u5.below (n4.below (below_ext (below_ext (u3.below (n2.below (below_ext (below_ext (below_ext (n1.below (Below.refl w.heap.size w) (Below.refl w.heap.size w).size) ba) br) bp1) (below_ext (below_ext (below_ext (n1.below (Below.refl w.heap.size w) (Below.refl w.heap.size w).size) ba) br) bp1).size) (by omega)) bs1) bp2) (below_ext (below_ext (u3.below (n2.below (below_ext (below_ext (below_ext (n1.below (Below.refl w.heap.size w) (Below.refl w.heap.size w).size) ba) br) bp1) (below_ext (below_ext (below_ext (n1.below (Below.refl w.heap.size w) (Below.refl w.heap.size w).size) ba) br) bp1).size) (by omega)) bs1) bp2).size) (by omega))
     first | exact ⟨rfl, hbel⟩ | exact ⟨by rw [hk0 (by first | (simpa using c2; done) | simpa using c3)]; rfl, hbel⟩
   ·refine W_skip ?_
    refine W_seq ?_
    refine W_reg ?_
    have her : er = 0 := by first | (simpa using c2; done) | simpa using c3
    have hck := hck0 her
    have htl := text_le hck
    refine WO_loadrow (b := wp2.heap.size) (o := 0) (m := 5) (c := #[(.int .i64 k2), (S nm2), (.int .i64 op2), (S ev2), sv2]) rfl rfl Tryd.underlying25 rfl (fun _ => by kernel_rfl) e5 (by simp) ?_
    refine WO_eq 52 (v' := (.agg #[(.int .i64 k2), (S nm2), (.int .i64 op2), (S ev2), sv2])) rfl rfl ?_
    refine WO_call rfl (by exact en_13) (Print_ok (DepT.mk k2 nm2 op2 ev2 args2) _ (DepC.ext (u5.below (n4.below (Below.refl wp2.heap.size wp2) (Below.refl wp2.heap.size wp2).size) (by omega)) _ _ (depC_mk rx2 ax2)) hz2 hck) ?_
    rintro _ wq2 ⟨rfl, bq2⟩
    have z_wq2 := bq2.size
    refine WO_pure rfl rfl ?_
    refine WO_pure (v := (S (textN (DepT.mk k2 nm2 op2 ev2 args2)))) rfl rfl ?_
    refine WO_pure (v := (.int .i64 0)) rfl rfl ?_
    refine WO_pure (v := (S (textN (DepT.mk k2 nm2 op2 ev2 args2)))) rfl rfl ?_
    refine WO_pure (v := (.int .i64 0)) rfl rfl ?_
    refine WO_nil ?_
    refine W_seq ?_
    refine W_reg ?_
    refine WO_pure (v := (S (textN (DepT.mk k2 nm2 op2 ev2 args2)))) rfl rfl ?_
    refine WO_scat (l1 := [32]) (l2 := textN (DepT.mk k2 nm2 op2 ev2 args2)) rfl rfl rfl (by first | omega | (simp; done) | (simp; omega)) ?_
    refine WO_scat (l1 := ([32]) ++ (textN (DepT.mk k2 nm2 op2 ev2 args2))) (l2 := [32, 32]) rfl rfl rfl (by first | omega | (simp; done) | (simp; omega)) ?_
    refine WO_call rfl (by exact en_8) (parse_is (parse_wide hck) _ (by have := text_le hck; simp only [List.length_append, List.length_cons, List.length_nil]; omega)) ?_
    rintro _ wp3 ⟨⟨sv3, css3, rfl, rx3, ax3⟩, bp3⟩
    have z_wp3 := bp3.size
    refine WO_pure rfl rfl ?_
    refine WO_pure (v := (.agg #[(.int .i64 k2), (S nm2), (.int .i64 op2), (S ev2), sv3])) rfl rfl ?_
    refine WO_pure (v := (.int .i64 0)) rfl rfl ?_
    refine WO_alloc (v := (.agg #[(.int .i64 0), (S []), (.int .i64 0), (S []), (.slice none 0 0)])) rfl (fun _ => by kernel_rfl) (fun w6 n6 => ?_)
    have e6 : w6.heap[wp3.heap.size]? = some (.cells #[(.int .i64 0), (S []), (.int .i64 0), (S []), (.slice none 0 0)] 25 (0, 0)) := n6.here
    have z6 := n6.size
    have p7 := e6
    refine WO_storerow (b := wp3.heap.size) (o := 0) (c' := #[(.int .i64 k2), (S nm2), (.int .i64 op2), (S ev2), sv3]) rfl rfl rfl (fun _ => by kernel_rfl) (by rw [Array.all_eq_true_iff_forall_mem]; intro v hv; simp only [List.mem_toArray, List.mem_cons, List.not_mem_nil, or_false] at hv; rcases hv with hv | hv | hv | hv | hv <;> (rw [hv]; first | rfl | exact oneCell_is (rx3.ext n6.ext))) p7 (by simp) (fun w7 u7 => ?_)
    have e7 : w7.heap[wp3.heap.size]? = some (.cells #[(.int .i64 k2), (S nm2), (.int .i64 op2), (S ev2), sv3] 25 (0, 0)) := u7.here
    have z7 := u7.size
    refine WO_pure (v := (.int .i64 0)) rfl rfl ?_
    refine WO_nil ?_
    refine W_seq ?_
    refine W_reg ?_
    refine WO_loadrow (b := wp2.heap.size) (o := 0) (m := 5) (c := #[(.int .i64 k2), (S nm2), (.int .i64 op2), (S ev2), sv2]) rfl rfl Tryd.underlying25 rfl (fun _ => by kernel_rfl) (u7.keep (n6.keep (below_keep bp3 (below_keep bq2 e5))) (by first | assumption | omega | (simp; omega))) (by simp) ?_
    refine WO_eq 63 (v' := (.agg #[(.int .i64 k2), (S nm2), (.int .i64 op2), (S ev2), sv2])) rfl rfl ?_
    refine WO_loadrow (b := wp3.heap.size) (o := 0) (m := 5) (c := #[(.int .i64 k2), (S nm2), (.int .i64 op2), (S ev2), sv3]) rfl rfl Tryd.underlying25 rfl (fun _ => by kernel_rfl) e7 (by simp) ?_
    refine WO_eq 64 (v' := (.agg #[(.int .i64 k2), (S nm2), (.int .i64 op2), (S ev2), sv3])) rfl rfl ?_
    refine WO_call rfl (by exact en_10) (same_self (DepC.ext (u7.below (n6.below (below_ext (below_ext (u5.below (n4.below (Below.refl wp2.heap.size wp2) (Below.refl wp2.heap.size wp2).size) (by omega)) bq2) bp3) (below_ext (below_ext (u5.below (n4.below (Below.refl wp2.heap.size wp2) (Below.refl wp2.heap.size wp2).size) (by omega)) bq2) bp3).size) (by omega)) _ _ (depC_mk rx2 ax2)) (DepC.ext (u7.below (n6.below (Below.refl wp3.heap.size wp3) (Below.refl wp3.heap.size wp3).size) (by omega)) _ _ (depC_mk rx3 ax3)) hz2) ?_
    rintro _ ws2 ⟨rfl, bs2⟩
    have z_ws2 := bs2.size
    refine WO_pure (v := (.bool true)) rfl rfl ?_
    refine WO_nil ?_
    refine W_cut (fun σ' w' => Below ws2.heap.size ws2 w' ∧ σ' 4 = (.bool true)) ?_ ?_
    ·refine W_reg ?_
     refine WO_pure (v := (.bool true)) rfl rfl ?_
     refine WO_pure (v := (.bool true)) rfl rfl ?_
     refine WO_pure (v := (.int .i64 0)) rfl rfl ?_
     refine WO_pure (v := (.bool true)) rfl rfl ?_
     refine WO_pure (v := (.bool true)) rfl rfl ?_
     refine WO_pure (v := (.bool true)) rfl rfl ?_
     refine WO_pure (v := (.int .i64 0)) rfl rfl ?_
     refine WO_pure (v := (.bool true)) rfl rfl ?_
     refine WO_pure (v := (.bool true)) rfl rfl ?_
     refine WO_pure (v := (.bool true)) rfl rfl ?_
     refine WO_pure (v := (.bool true)) rfl rfl ?_
     refine WO_pure (v := (.bool true)) rfl rfl ?_
     refine WO_pure (v := (.bool true)) rfl rfl ?_
     refine WO_loadrow (b := wp2.heap.size) (o := 0) (m := 5) (c := #[(.int .i64 k2), (S nm2), (.int .i64 op2), (S ev2), sv2]) rfl rfl Tryd.underlying25 rfl (fun _ => by kernel_rfl) (below_keep bs2 (u7.keep (n6.keep (below_keep bp3 (below_keep bq2 e5))) (by first | assumption | omega | (simp; omega)))) (by simp) ?_
     refine WO_eq 79 (v' := (.agg #[(.int .i64 k2), (S nm2), (.int .i64 op2), (S ev2), sv2])) rfl rfl ?_
     refine WO_call rfl (by exact en_14) (check_ok (DepT.mk k2 nm2 op2 ev2 args2) _ (DepC.ext (below_ext (u7.below (n6.below (below_ext (below_ext (u5.below (n4.below (Below.refl wp2.heap.size wp2) (Below.refl wp2.heap.size wp2).size) (by omega)) bq2) bp3) (below_ext (below_ext (u5.below (n4.below (Below.refl wp2.heap.size wp2) (Below.refl wp2.heap.size wp2).size) (by omega)) bq2) bp3).size) (by omega)) bs2) _ _ (depC_mk rx2 ax2)) hz2 hck) ?_
     rintro _ wc ⟨rfl, bc⟩
     have z_wc := bc.size
     refine WO_pure (v := (.bool true)) rfl rfl ?_
     refine WO_pure (v := (.bool true)) rfl rfl ?_
     refine WO_pure (v := (.bool true)) rfl rfl ?_
     refine WO_nil ?_
     exact ⟨(below_ext (Below.refl ws2.heap.size ws2) bc), rfl⟩
    ·rintro σ3 wc3 ⟨hc3, h3_4⟩
     have z_wc3 := hc3.size
     refine W_anchor (d := 4) h3_4 (?_)
     refine W_ret ?_
     refine body_ret1 rfl (v0 := (.bool true)) rfl ?_
     have hbel := (below_ext (below_ext (u7.below (n6.below (below_ext (below_ext (u5.below (n4.below (below_ext (below_ext (u3.below (n2.below (below_ext (below_ext (below_ext (n1.below (Below.refl w.heap.size w) (Below.refl w.heap.size w).size) ba) br) bp1) (below_ext (below_ext (below_ext (n1.below (Below.refl w.heap.size w) (Below.refl w.heap.size w).size) ba) br) bp1).size) (by omega)) bs1) bp2) (below_ext (below_ext (u3.below (n2.below (below_ext (below_ext (below_ext (n1.below (Below.refl w.heap.size w) (Below.refl w.heap.size w).size) ba) br) bp1) (below_ext (below_ext (below_ext (n1.below (Below.refl w.heap.size w) (Below.refl w.heap.size w).size) ba) br) bp1).size) (by omega)) bs1) bp2).size) (by omega)) bq2) bp3) (below_ext (below_ext (u5.below (n4.below (below_ext (below_ext (u3.below (n2.below (below_ext (below_ext (below_ext (n1.below (Below.refl w.heap.size w) (Below.refl w.heap.size w).size) ba) br) bp1) (below_ext (below_ext (below_ext (n1.below (Below.refl w.heap.size w) (Below.refl w.heap.size w).size) ba) br) bp1).size) (by omega)) bs1) bp2) (below_ext (below_ext (u3.below (n2.below (below_ext (below_ext (below_ext (n1.below (Below.refl w.heap.size w) (Below.refl w.heap.size w).size) ba) br) bp1) (below_ext (below_ext (below_ext (n1.below (Below.refl w.heap.size w) (Below.refl w.heap.size w).size) ba) br) bp1).size) (by omega)) bs1) bp2).size) (by omega)) bq2) bp3).size) (by omega)) bs2) hc3)
     first | exact ⟨rfl, hbel⟩ | exact ⟨by rw [hk0 (by first | (simpa using c2; done) | simpa using c3)]; rfl, hbel⟩
 ·refine W_skip ?_
  refine W_seq ?_
  refine W_reg ?_
  refine WO_pure (v := (S s)) rfl rfl ?_
  refine WO_call rfl (by exact en_8) (parse_is hpt _ hl) ?_
  rintro _ wp4 ⟨⟨sv4, css4, rfl, rx4, ax4⟩, bp4⟩
  have z_wp4 := bp4.size
  refine WO_pure rfl rfl ?_
  refine WO_pure (v := (.agg #[(.int .i64 k2), (S nm2), (.int .i64 op2), (S ev2), sv4])) rfl rfl ?_
  refine WO_pure (v := (.int .i64 er)) rfl rfl ?_
  refine WO_alloc (v := (.agg #[(.int .i64 0), (S []), (.int .i64 0), (S []), (.slice none 0 0)])) rfl (fun _ => by kernel_rfl) (fun w8 n8 => ?_)
  have e8 : w8.heap[wp4.heap.size]? = some (.cells #[(.int .i64 0), (S []), (.int .i64 0), (S []), (.slice none 0 0)] 25 (0, 0)) := n8.here
  have z8 := n8.size
  have p9 := e8
  refine WO_storerow (b := wp4.heap.size) (o := 0) (c' := #[(.int .i64 k2), (S nm2), (.int .i64 op2), (S ev2), sv4]) rfl rfl rfl (fun _ => by kernel_rfl) (by rw [Array.all_eq_true_iff_forall_mem]; intro v hv; simp only [List.mem_toArray, List.mem_cons, List.not_mem_nil, or_false] at hv; rcases hv with hv | hv | hv | hv | hv <;> (rw [hv]; first | rfl | exact oneCell_is (rx4.ext n8.ext))) p9 (by simp) (fun w9 u9 => ?_)
  have e9 : w9.heap[wp4.heap.size]? = some (.cells #[(.int .i64 k2), (S nm2), (.int .i64 op2), (S ev2), sv4] 25 (0, 0)) := u9.here
  have z9 := u9.size
  refine WO_pure (v := (.int .i64 er)) rfl rfl ?_
  refine WO_nil ?_
  refine W_seq ?_
  refine W_seq ?_
  refine W_reg ?_
  refine WO_pure (v := (.int .i64 er)) rfl rfl ?_
  refine WO_pure (v := (.bool (!decide (er = 0)))) rfl rfl ?_
  refine WO_nil ?_
  refine W_cond (t := !decide (er = 0)) rfl (fun c3 => ?_) (fun c3 => ?_)
  ·refine W_cut (fun σ' w' => w9 = w' ∧ σ' 4 = (.bool (decide (k2 = 0)))) ?_ ?_
   ·refine W_reg ?_
    refine WO_pure (v := (.bool true)) rfl rfl ?_
    refine WO_pure (v := (.bool true)) rfl rfl ?_
    refine WO_same (v := (.pointer (some ⟨wp4.heap.size, 0, none⟩))) rfl (by kernel_rfl) ?_
    refine WO_load (a := ⟨wp4.heap.size, 0, none⟩) (v := (.int .i64 k2)) rfl rfl Tryd.underlying3 rfl (cell_of e9 rfl) ?_
    refine WO_pure (v := (.bool (decide (k2 = 0)))) rfl rfl ?_
    refine WO_pure (v := (.bool (decide (k2 = 0)))) rfl rfl ?_
    refine WO_pure (v := (.bool (decide (k2 = 0)))) rfl rfl ?_
    refine WO_nil ?_
    exact ⟨rfl, rfl⟩
   ·rintro σ4 _ ⟨rfl, h4_4⟩
    refine W_anchor (d := 4) h4_4 (?_)
    refine W_ret ?_
    refine body_ret1 rfl (v0 := (.bool (decide (k2 = 0)))) rfl ?_
    have hbel := (u9.below (n8.below (below_ext (below_ext (below_ext (n1.below (Below.refl w.heap.size w) (Below.refl w.heap.size w).size) ba) br) bp4) (below_ext (below_ext (below_ext (n1.below (Below.refl w.heap.size w) (Below.refl w.heap.size w).size) ba) br) bp4).size) (by omega))
    first | exact ⟨rfl, hbel⟩ | exact ⟨by rw [hk0 (by first | (simpa using c2; done) | simpa using c3)]; rfl, hbel⟩
  ·refine W_skip ?_
   refine W_seq ?_
   refine W_reg ?_
   have her : er = 0 := by first | (simpa using c2; done) | simpa using c3
   have hck := hck0 her
   have htl := text_le hck
   refine WO_loadrow (b := wp4.heap.size) (o := 0) (m := 5) (c := #[(.int .i64 k2), (S nm2), (.int .i64 op2), (S ev2), sv4]) rfl rfl Tryd.underlying25 rfl (fun _ => by kernel_rfl) e9 (by simp) ?_
   refine WO_eq 52 (v' := (.agg #[(.int .i64 k2), (S nm2), (.int .i64 op2), (S ev2), sv4])) rfl rfl ?_
   refine WO_call rfl (by exact en_13) (Print_ok (DepT.mk k2 nm2 op2 ev2 args2) _ (DepC.ext (u9.below (n8.below (Below.refl wp4.heap.size wp4) (Below.refl wp4.heap.size wp4).size) (by omega)) _ _ (depC_mk rx4 ax4)) hz2 hck) ?_
   rintro _ wq3 ⟨rfl, bq3⟩
   have z_wq3 := bq3.size
   refine WO_pure rfl rfl ?_
   refine WO_pure (v := (S (textN (DepT.mk k2 nm2 op2 ev2 args2)))) rfl rfl ?_
   refine WO_pure (v := (.int .i64 0)) rfl rfl ?_
   refine WO_pure (v := (S (textN (DepT.mk k2 nm2 op2 ev2 args2)))) rfl rfl ?_
   refine WO_pure (v := (.int .i64 0)) rfl rfl ?_
   refine WO_nil ?_
   refine W_seq ?_
   refine W_reg ?_
   refine WO_pure (v := (S (textN (DepT.mk k2 nm2 op2 ev2 args2)))) rfl rfl ?_
   refine WO_scat (l1 := [32]) (l2 := textN (DepT.mk k2 nm2 op2 ev2 args2)) rfl rfl rfl (by first | omega | (simp; done) | (simp; omega)) ?_
   refine WO_scat (l1 := ([32]) ++ (textN (DepT.mk k2 nm2 op2 ev2 args2))) (l2 := [32, 32]) rfl rfl rfl (by first | omega | (simp; done) | (simp; omega)) ?_
   refine WO_call rfl (by exact en_8) (parse_is (parse_wide hck) _ (by have := text_le hck; simp only [List.length_append, List.length_cons, List.length_nil]; omega)) ?_
   rintro _ wp5 ⟨⟨sv5, css5, rfl, rx5, ax5⟩, bp5⟩
   have z_wp5 := bp5.size
   refine WO_pure rfl rfl ?_
   refine WO_pure (v := (.agg #[(.int .i64 k2), (S nm2), (.int .i64 op2), (S ev2), sv5])) rfl rfl ?_
   refine WO_pure (v := (.int .i64 0)) rfl rfl ?_
   refine WO_alloc (v := (.agg #[(.int .i64 0), (S []), (.int .i64 0), (S []), (.slice none 0 0)])) rfl (fun _ => by kernel_rfl) (fun w10 n10 => ?_)
   have e10 : w10.heap[wp5.heap.size]? = some (.cells #[(.int .i64 0), (S []), (.int .i64 0), (S []), (.slice none 0 0)] 25 (0, 0)) := n10.here
   have z10 := n10.size
   have p11 := e10
   refine WO_storerow (b := wp5.heap.size) (o := 0) (c' := #[(.int .i64 k2), (S nm2), (.int .i64 op2), (S ev2), sv5]) rfl rfl rfl (fun _ => by kernel_rfl) (by rw [Array.all_eq_true_iff_forall_mem]; intro v hv; simp only [List.mem_toArray, List.mem_cons, List.not_mem_nil, or_false] at hv; rcases hv with hv | hv | hv | hv | hv <;> (rw [hv]; first | rfl | exact oneCell_is (rx5.ext n10.ext))) p11 (by simp) (fun w11 u11 => ?_)
   have e11 : w11.heap[wp5.heap.size]? = some (.cells #[(.int .i64 k2), (S nm2), (.int .i64 op2), (S ev2), sv5] 25 (0, 0)) := u11.here
   have z11 := u11.size
   refine WO_pure (v := (.int .i64 0)) rfl rfl ?_
   refine WO_nil ?_
   refine W_seq ?_
   refine W_reg ?_
   refine WO_loadrow (b := wp4.heap.size) (o := 0) (m := 5) (c := #[(.int .i64 k2), (S nm2), (.int .i64 op2), (S ev2), sv4]) rfl rfl Tryd.underlying25 rfl (fun _ => by kernel_rfl) (u11.keep (n10.keep (below_keep bp5 (below_keep bq3 e9))) (by first | assumption | omega | (simp; omega))) (by simp) ?_
   refine WO_eq 63 (v' := (.agg #[(.int .i64 k2), (S nm2), (.int .i64 op2), (S ev2), sv4])) rfl rfl ?_
   refine WO_loadrow (b := wp5.heap.size) (o := 0) (m := 5) (c := #[(.int .i64 k2), (S nm2), (.int .i64 op2), (S ev2), sv5]) rfl rfl Tryd.underlying25 rfl (fun _ => by kernel_rfl) e11 (by simp) ?_
   refine WO_eq 64 (v' := (.agg #[(.int .i64 k2), (S nm2), (.int .i64 op2), (S ev2), sv5])) rfl rfl ?_
   refine WO_call rfl (by exact en_10) (same_self (DepC.ext (u11.below (n10.below (below_ext (below_ext (u9.below (n8.below (Below.refl wp4.heap.size wp4) (Below.refl wp4.heap.size wp4).size) (by omega)) bq3) bp5) (below_ext (below_ext (u9.below (n8.below (Below.refl wp4.heap.size wp4) (Below.refl wp4.heap.size wp4).size) (by omega)) bq3) bp5).size) (by omega)) _ _ (depC_mk rx4 ax4)) (DepC.ext (u11.below (n10.below (Below.refl wp5.heap.size wp5) (Below.refl wp5.heap.size wp5).size) (by omega)) _ _ (depC_mk rx5 ax5)) hz2) ?_
   rintro _ ws3 ⟨rfl, bs3⟩
   have z_ws3 := bs3.size
   refine WO_pure (v := (.bool true)) rfl rfl ?_
   refine WO_nil ?_
   refine W_cut (fun σ' w' => Below ws3.heap.size ws3 w' ∧ σ' 4 = (.bool true)) ?_ ?_
   ·refine W_reg ?_
    refine WO_pure (v := (.bool true)) rfl rfl ?_
    refine WO_pure (v := (.bool true)) rfl rfl ?_
    refine WO_pure (v := (.int .i64 0)) rfl rfl ?_
    refine WO_pure (v := (.bool true)) rfl rfl ?_
    refine WO_pure (v := (.bool true)) rfl rfl ?_
    refine WO_pure (v := (.bool true)) rfl rfl ?_
    refine WO_pure (v := (.int .i64 0)) rfl rfl ?_
    refine WO_pure (v := (.bool true)) rfl rfl ?_
    refine WO_pure (v := (.bool true)) rfl rfl ?_
    refine WO_pure (v := (.bool true)) rfl rfl ?_
    refine WO_pure (v := (.bool true)) rfl rfl ?_
    refine WO_pure (v := (.bool true)) rfl rfl ?_
    refine WO_pure (v := (.bool true)) rfl rfl ?_
    refine WO_loadrow (b := wp4.heap.size) (o := 0) (m := 5) (c := #[(.int .i64 k2), (S nm2), (.int .i64 op2), (S ev2), sv4]) rfl rfl Tryd.underlying25 rfl (fun _ => by kernel_rfl) (below_keep bs3 (u11.keep (n10.keep (below_keep bp5 (below_keep bq3 e9))) (by first | assumption | omega | (simp; omega)))) (by simp) ?_
    refine WO_eq 79 (v' := (.agg #[(.int .i64 k2), (S nm2), (.int .i64 op2), (S ev2), sv4])) rfl rfl ?_
    refine WO_call rfl (by exact en_14) (check_ok (DepT.mk k2 nm2 op2 ev2 args2) _ (DepC.ext (below_ext (u11.below (n10.below (below_ext (below_ext (u9.below (n8.below (Below.refl wp4.heap.size wp4) (Below.refl wp4.heap.size wp4).size) (by omega)) bq3) bp5) (below_ext (below_ext (u9.below (n8.below (Below.refl wp4.heap.size wp4) (Below.refl wp4.heap.size wp4).size) (by omega)) bq3) bp5).size) (by omega)) bs3) _ _ (depC_mk rx4 ax4)) hz2 hck) ?_
    rintro _ wc ⟨rfl, bc⟩
    have z_wc := bc.size
    refine WO_pure (v := (.bool true)) rfl rfl ?_
    refine WO_pure (v := (.bool true)) rfl rfl ?_
    refine WO_pure (v := (.bool true)) rfl rfl ?_
    refine WO_nil ?_
    exact ⟨(below_ext (Below.refl ws3.heap.size ws3) bc), rfl⟩
   ·rintro σ5 wc5 ⟨hc5, h5_4⟩
    have z_wc5 := hc5.size
    refine W_anchor (d := 4) h5_4 (?_)
    refine W_ret ?_
    refine body_ret1 rfl (v0 := (.bool true)) rfl ?_
    have hbel := (below_ext (below_ext (u11.below (n10.below (below_ext (below_ext (u9.below (n8.below (below_ext (below_ext (below_ext (n1.below (Below.refl w.heap.size w) (Below.refl w.heap.size w).size) ba) br) bp4) (below_ext (below_ext (below_ext (n1.below (Below.refl w.heap.size w) (Below.refl w.heap.size w).size) ba) br) bp4).size) (by omega)) bq3) bp5) (below_ext (below_ext (u9.below (n8.below (below_ext (below_ext (below_ext (n1.below (Below.refl w.heap.size w) (Below.refl w.heap.size w).size) ba) br) bp4) (below_ext (below_ext (below_ext (n1.below (Below.refl w.heap.size w) (Below.refl w.heap.size w).size) ba) br) bp4).size) (by omega)) bq3) bp5).size) (by omega)) bs3) hc5)
    first | exact ⟨rfl, hbel⟩ | exact ⟨by rw [hk0 (by first | (simpa using c2; done) | simpa using c3)]; rfl, hbel⟩
theorem back_any {w : World} (d : DepT) (cs : List Value) (h : DepC w d cs) (hz : d.size ≤ 4194304) (s : List UInt8) (hl : s.length ≤ 1048576) : Calls Tryd.prog 5 #[.agg cs.toArray, S s] w (Ret fun v w' => v = .bool true ∧ Below w.heap.size w w') := by
 cases d with
 | mk k nm op ev args =>
  rcases hpt : parseF s with ⟨⟨k2, nm2, op2, ev2, args2⟩, er⟩
  rcases hpf : printF (.mk k nm op ev args) with ⟨ps, ed⟩
  have hd := h
  unfold DepC at h
  obtain ⟨sv, css, rfl, hr, ha⟩ := h
  have hp0 : ed = 0 → checkE (.mk k nm op ev args) = 0 ∧ ps = textN (.mk k nm op ev args) := by
   intro e; unfold printF at hpf
   split at hpf
   ·rename_i hc; cases hpf; exact ⟨hc, rfl⟩
   ·rename_i hc; cases hpf; exact absurd e hc
  refine back_step w k op ed k2 op2 er nm ev ps s nm2 ev2 args args2 sv css hd hr ha hz hl hpf (fun e => ?_) (fun e => ?_) hpt ?_ (fun e => ?_) (fun e => ?_)
  ·rw [(hp0 e).2]; exact parse_text (hp0 e).1
  ·rw [(hp0 e).2]; exact text_le (hp0 e).1
  ·have := parse_size hl; rw [hpt] at this; exact this
  ·subst e; exact parse_ok hpt
  ·have := parse_no hpt e; cases this; rfl
end Go.Proofs.YtaegacblpbbndaaDoor
end
