/- The texts Defer, Dep18, Dep19 of the proof, joined. Each says at its theorems what it proves. -/
import Derived.Test.YtaegacblpbbndaaDoorJ33
import Derived.Defers
import Derived.Recover
set_option linter.unusedSimpArgs false
set_option linter.unusedVariables false
section
namespace Go.Proofs.YtaegacblpbbndaaDoor
open Go Go.RowKit
theorem W_any {P : Program} {n : Nat} {c : Code} {Q : Exit → Act → World → Prop} {σ : Nat → Value} {w : World} (h : W P n c (fun e σ w => Q e (mk n σ) w) σ w) : c.wp P Q (mk n σ) w := by
  unfold W at h
  refine wp_mono h ?_
  rintro e a w ⟨σ', rfl, q⟩; exact q
theorem W_top {P : Program} {n : Nat} {x y : Code} {Q : Exit → Act → World → Prop} {σ : Nat → Value} {w : World} (h : W P n x (seqQ (fun σ w => y.wp P Q (mk n σ) w) (fun _ _ _ => False)) σ w) : (Code.seq x y).wp P Q (mk n σ) w := by
  unfold W at h
  refine wp_seq (wp_mono h ?_)
  rintro e a w ⟨σ', rfl, q⟩
  cases e <;> first | exact q | exact q.elim
namespace D
def mk (ds : List Deferred) (n : Nat) (σ : Nat → Value) : Act := { tmps := Array.ofFn (n := n) (fun i => σ i.1), defers := ds }
def lift (ds : List Deferred) (n : Nat) (Q : Exit → (Nat → Value) → World → Prop) : Exit → Act → World → Prop := fun e a w => ∃ σ, a = mk ds n σ ∧ Q e σ w
def W (P : Program) (ds : List Deferred) (n : Nat) (c : Code) (Q : Exit → (Nat → Value) → World → Prop) (σ : Nat → Value) (w : World) : Prop := c.wp P (lift ds n Q) (mk ds n σ) w
def WO (P : Program) (ds : List Deferred) (n : Nat) (ops : Array Oper) (l : List Oper) (Q : Exit → (Nat → Value) → World → Prop) (σ : Nat → Value) (w : World) : Prop :=
  wpList P ops (lift ds n Q) l (mk ds n σ) w
theorem mk_getD (ds : List Deferred) (n : Nat) (σ : Nat → Value) (t : Nat) : (mk ds n σ).tmps.getD t undef = sl n σ t := by
  simp only [mk, sl, Array.getD_eq_getD_getElem?, Array.getElem?_ofFn]
  by_cases h : t < n
  · have : Nat.blt t n = true := by simpa [Nat.blt_eq] using h
    simp [h, this]
  · have : Nat.blt t n = false := by rw [Bool.eq_false_iff]; intro h'; exact h (by simpa [Nat.blt_eq] using h')
    simp [h, this]
theorem mk_eval (ds : List Deferred) (n : Nat) (σ : Nat → Value) : (mk ds n σ).eval = ev n σ := by
  funext x
  cases x with
  | tmp t => exact mk_getD ds n σ t
  | const v => rfl
  | global g => rfl
  | func f => rfl
theorem mk_put (ds : List Deferred) (n : Nat) (σ : Nat → Value) (d : Option Nat) (v : Value) : (mk ds n σ).put d v = mk ds n (updo σ d v) := by
  cases d with
  | none => rfl
  | some d =>
    simp only [mk, Act.put, updo]
    congr 1
    apply Array.ext
    · simp
    · intro i h1 h2
      simp only [Array.getElem_ofFn, upd]
      rw [Array.getElem_setIfInBounds (by simpa using h1)]
      by_cases h : d = i
      · subst h; simp
      · have : Nat.beq i d = false := by rw [Bool.eq_false_iff]; intro h'; exact h (Nat.eq_of_beq_eq_true h').symm
        simp [h, this]
theorem wanted_mk (ops : Array Oper) (ds : List Deferred) (n : Nat) (σ : Nat → Value) (o : Oper) : Region.wanted o (yielded ops (mk ds n σ).tmps) = gOk ops n σ o.guard := Proofs.YtaegacblpbbndaaDoor.wanted_mk ops n σ o
section
variable {P : Program} {ds : List Deferred} {n : Nat} {Q : Exit → (Nat → Value) → World → Prop} {σ : Nat → Value} {w : World}
theorem W_mono {c : Code} {Q' : Exit → (Nat → Value) → World → Prop} (h : W P ds n c Q σ w) (hq : ∀ e σ w, Q e σ w → Q' e σ w) : W P ds n c Q' σ w :=
  wp_mono h fun _ _ _ ⟨σ', ha, q⟩ => ⟨σ', ha, hq _ _ _ q⟩
theorem W_seq {x y : Code} (h : W P ds n x (seqQ (W P ds n y Q) Q) σ w) : W P ds n (.seq x y) Q σ w := by
  refine wp_seq (wp_mono h ?_)
  rintro e a w ⟨σ', rfl, q⟩
  cases e <;> first | exact q | exact ⟨σ', rfl, q⟩
theorem W_skip (h : Q .normal σ w) : W P ds n .skip Q σ w := wp_skip ⟨σ, rfl, h⟩
theorem W_ret (h : Q .ret σ w) : W P ds n .ret Q σ w := wp_ret ⟨σ, rfl, h⟩
theorem W_cond {c : Operand} {x y : Code} {t : Bool} (hc : ev n σ c = .bool t) (ht : t = true → W P ds n x Q σ w) (hf : t = false → W P ds n y Q σ w) :
    W P ds n (.cond c x y) Q σ w :=
  wp_cond_split (by rw [mk_eval]; exact hc) ht hf
theorem W_true {c : Operand} {x y : Code} (hc : ev n σ c = .bool true) (h : W P ds n x Q σ w) : W P ds n (.cond c x y) Q σ w :=
  wp_cond_true (by rw [mk_eval]; exact hc) h
theorem W_false {c : Operand} {x y : Code} (hc : ev n σ c = .bool false) (h : W P ds n y Q σ w) : W P ds n (.cond c x y) Q σ w :=
  wp_cond_false (by rw [mk_eval]; exact hc) h
theorem W_if {c : Operand} {x y : Code} {p : Prop} [Decidable p] (hc : ev n σ c = .bool (decide p)) (ht : p → W P ds n x Q σ w) (hf : ¬ p → W P ds n y Q σ w) :
    W P ds n (.cond c x y) Q σ w :=
  W_cond hc (fun h => ht (of_decide_eq_true h)) (fun h => hf (of_decide_eq_false h))
theorem W_reg {id : Nat} {l : List Oper} (h : WO P ds n l.toArray l Q σ w) : W P ds n (.region id l.toArray false) Q σ w := wp_region_lit h
theorem WO_nil {ops : Array Oper} (h : Q .normal σ w) : WO P ds n ops [] Q σ w := ⟨σ, rfl, h⟩
theorem WO_val {ops : Array Oper} {o : Oper} {rest : List Oper} {v : Value} {w' : World} (hg : gOk ops n σ o.guard = true)
    (h : (execOp (ev n σ) o).run P w = .ok (.value v) w') (next : WO P ds n ops rest Q (updo σ o.dst v) w') : WO P ds n ops (o :: rest) Q σ w := by
  unfold WO wpList
  rw [wanted_mk, hg, if_pos rfl]
  left
  unfold Oper.wp
  rw [mk_eval, h, Oper.upon_value, mk_put]
  exact next
theorem WO_same {ops : Array Oper} {o : Oper} {rest : List Oper} {v : Value} (hg : gOk ops n σ o.guard = true)
    (h : (execOp (ev n σ) o).run P w = .ok (.value v) w) (next : WO P ds n ops rest Q (updo σ o.dst v) w) : WO P ds n ops (o :: rest) Q σ w := WO_val hg h next
theorem WO_unit {ops : Array Oper} {o : Oper} {rest : List Oper} {w' : World} (hg : gOk ops n σ o.guard = true)
    (h : (execOp (ev n σ) o).run P w = .ok .skip w') (next : WO P ds n ops rest Q (updo σ o.dst undef) w') : WO P ds n ops (o :: rest) Q σ w := by
  unfold WO wpList
  rw [wanted_mk, hg, if_pos rfl]
  left
  unfold Oper.wp
  rw [mk_eval, h, Oper.upon_skip, mk_put]
  exact next
theorem WO_pass {ops : Array Oper} {o : Oper} {rest : List Oper} (hg : gOk ops n σ o.guard = false)
    (next : WO P ds n ops rest Q (updo σ o.dst undef) w) : WO P ds n ops (o :: rest) Q σ w := by
  unfold WO wpList
  rw [wanted_mk, hg, if_neg (by simp)]
  rw [mk_put]
  exact next
theorem WO_enter {ops : Array Oper} {o : Oper} {rest : List Oper} {f : FuncId} {args : Array Value} {w' : World} {R : Ending → World → Prop} (hg : gOk ops n σ o.guard = true)
    (h : (execOp (ev n σ) o).run P w = .ok (.enter f args) w') (hc : Calls P f args w' R)
    (next : ∀ v w'', R (.returned v) w'' → WO P ds n ops rest Q (updo σ o.dst v) w'')
    (nop : ∀ ch w'', R (.panicked ch) w'' → Q (.panic ch) σ w'')
    (noo : ∀ w'', ¬ R .outgrown w'') : WO P ds n ops (o :: rest) Q σ w := by
  unfold WO wpList
  rw [wanted_mk, hg, if_pos rfl]
  left
  unfold Oper.wp
  rw [mk_eval, h, Oper.upon_enter]
  refine hc.mono ?_
  intro e w'' hR
  cases e with
  | returned v => show wpList _ _ _ _ _ _; rw [mk_put]; exact next v w'' hR
  | panicked ch => exact ⟨σ, rfl, nop ch w'' hR⟩
  | outgrown => exact (noo w'' hR).elim
theorem WO_eq {ops : Array Oper} {l : List Oper} (t : Nat) {v v' : Value} (h : σ t = v) (e : v = v') (k : WO P ds n ops l Q (upd σ t v') w) : WO P ds n ops l Q σ w := by
  rw [upd_id (h.trans e)]; exact k
theorem WO_pure {ops : Array Oper} {o : Oper} {rest : List Oper} {v : Value} (hg : gOk ops n σ o.guard = true) (h : pureOp n σ o.op = some v)
    (next : WO P ds n ops rest Q (updo σ o.dst v) w) : WO P ds n ops (o :: rest) Q σ w := WO_val hg (pure_run h) next
theorem W_anchor {c : Code} {d : Nat} {v : Value} (h : σ d = v) (k : W P ds n c Q (upd σ d v) w) : W P ds n c Q σ w := by
  rw [upd_id h]; exact k
theorem WO_call {ops : Array Oper} {rest : List Oper} {f : FuncId} {ar : Array Operand} {ts : Array TypeId} {ty : TypeId} {ps : String} {dst : Option Tmp} {af : Array Edge} {g : Option (Nat × Bool)} {T : Value → World → Prop}
    (hg : gOk ops n σ g = true) (he : Enters P f) (hc : Calls P f (ar.toList.map (ev n σ)).toArray w (Ret T))
    (next : ∀ v w', T v w' → WO P ds n ops rest Q (updo σ dst v) w') :
    WO P ds n ops (⟨dst, .call { callee := .value (.func f), args := ar, argTypes := ts }, ty, ps, af, g⟩ :: rest) Q σ w := by
  refine WO_enter (R := Ret T) (w' := w) (f := f) (args := (ar.toList.map (ev n σ)).toArray) hg ?_ hc ?_ ?_ ?_
  · have : ar.map (ev n σ) = (ar.toList.map (ev n σ)).toArray := by
      apply Array.ext'; simp
    simp only [execOp, resolve, ev, this]
    have := he (List.map (ev n σ) ar.toList).toArray w
    simp [Deferred.ofValue, invoke, go_sem, this]
  · rintro v w'' ⟨v', hv, hT⟩; cases hv; exact next v w'' hT
  · rintro ch w'' ⟨v', hv, hT⟩; cases hv
  · rintro w'' ⟨v', hv, hT⟩; cases hv
theorem WO_seql {ops : Array Oper} {rest : List Oper} {dst : Option Tmp} {x y : Operand} {t t' ty : TypeId} {ps : String} {af : Array Edge} {g : Option (Nat × Bool)} {l1 l2 : List UInt8}
    (hg : gOk ops n σ g = true) (hx : ev n σ x = S l1) (hy : ev n σ y = S l2)
    (next : WO P ds n ops rest Q (updo σ dst ((.bool (decide (l1 = l2))))) w) : WO P ds n ops (⟨dst, .binOp .eql t x y t', ty, ps, af, g⟩ :: rest) Q σ w :=
  WO_val hg (R_seql hx hy) next
theorem WO_sneq {ops : Array Oper} {rest : List Oper} {dst : Option Tmp} {x y : Operand} {t t' ty : TypeId} {ps : String} {af : Array Edge} {g : Option (Nat × Bool)} {l1 l2 : List UInt8}
    (hg : gOk ops n σ g = true) (hx : ev n σ x = S l1) (hy : ev n σ y = S l2)
    (next : WO P ds n ops rest Q (updo σ dst ((.bool (!decide (l1 = l2))))) w) : WO P ds n ops (⟨dst, .binOp .neq t x y t', ty, ps, af, g⟩ :: rest) Q σ w :=
  WO_val hg (R_sneq hx hy) next
theorem WO_callp {ops : Array Oper} {rest : List Oper} {ch : List PanicEntry} {U : World → Prop} {f : FuncId} {ar : Array Operand} {ts : Array TypeId} {ty : TypeId} {ps : String} {dst : Option Tmp} {af : Array Edge} {g : Option (Nat × Bool)} {T : Value → World → Prop}
    (hg : gOk ops n σ g = true) (he : Enters P f) (hc : Calls P f (ar.toList.map (ev n σ)).toArray w (Pan ch T U))
    (pan : ∀ w', U w' → Q (.panic ch) σ w')
    (next : ∀ v w', T v w' → WO P ds n ops rest Q (updo σ dst v) w') :
    WO P ds n ops (⟨dst, .call { callee := .value (.func f), args := ar, argTypes := ts }, ty, ps, af, g⟩ :: rest) Q σ w := by
  refine WO_enter (R := Pan ch T U) (w' := w) (f := f) (args := (ar.toList.map (ev n σ)).toArray) hg ?_ hc ?_ ?_ ?_
  · have : ar.map (ev n σ) = (ar.toList.map (ev n σ)).toArray := by
      apply Array.ext'; simp
    simp only [execOp, resolve, ev, this]
    have := he (List.map (ev n σ) ar.toList).toArray w
    simp [Deferred.ofValue, invoke, go_sem, this]
  · rintro v w'' (⟨v', hv, hT⟩ | ⟨hv, _⟩)
    · cases hv; exact next v w'' hT
    · cases hv
  · rintro ch' w'' (⟨v', hv, hT⟩ | ⟨hv, hU⟩)
    · cases hv
    · cases hv; exact pan w'' hU
  · rintro w'' (⟨v', hv, hT⟩ | ⟨hv, hU⟩) <;> cases hv
end
section
variable {P : Program} {ds : List Deferred} {n : Nat} {Q : Exit → (Nat → Value) → World → Prop} {σ : Nat → Value} {w : World}
variable {ops : Array Oper} {rest : List Oper} {dst : Option Tmp} {ty : TypeId} {ps : String} {af : Array Edge} {g : Option (Nat × Bool)}
theorem WO_box {t : TypeId} {x : Operand} {v : Value} (hg : gOk ops n σ g = true) (hx : ev n σ x = v)
    (next : ∀ w', New w w' (.cells v.cells t) → WO P ds n ops rest Q (updo σ dst (.pointer (some ⟨w.heap.size, 0, none⟩))) w') :
    WO P ds n ops (⟨dst, .box t x, ty, ps, af, g⟩ :: rest) Q σ w := by
  refine WO_val hg ?_ (next _ rfl)
  simp [execOp, Instr.box, hx, newVar, newRow, go_sem]
theorem WO_alloc {t : TypeId} {v : Value} (hg : gOk ops n σ g = true) (hz : ∀ w, (zeroValue t).run P w = .ok v w)
    (next : ∀ w', New w w' (.cells v.cells t) → WO P ds n ops rest Q (updo σ dst (.pointer (some ⟨w.heap.size, 0, none⟩))) w') :
    WO P ds n ops (⟨dst, .alloc t, ty, ps, af, g⟩ :: rest) Q σ w := by
  refine WO_val hg ?_ (next _ rfl)
  simp [execOp, Instr.alloc, hz, newVar, newRow, go_sem]
theorem WO_load {t : TypeId} {d : TypeDesc} {x : Operand} {a : Addr} {v : Value} (hg : gOk ops n σ g = true) (hx : ev n σ x = .pointer (some a)) (ht : P.underlying t = some d) (hd : plainD d = true) (hc : w.cell? a = some v)
    (next : WO P ds n ops rest Q (updo σ dst (v)) w) : WO P ds n ops (⟨dst, .load t x, ty, ps, af, g⟩ :: rest) Q σ w :=
  WO_val hg (R_load hx ht hd hc) next
theorem WO_store {t : TypeId} {x y : Operand} {b o : Nat} {c : Array Value} {e : TypeId} {v : Value} (hg : gOk ops n σ g = true) (hx : ev n σ x = .pointer (some ⟨b, o, none⟩)) (hy : ev n σ y = v)
    (hs : ∀ w, (sizeOf t).run P w = .ok 1 w) (h1 : oneC v = true) (hb : w.heap[b]? = some (.cells c e (0, 0))) (ho : o < c.size)
    (next : ∀ w', Upd w w' b (.cells (c.setIfInBounds o v) e (0, 0)) → WO P ds n ops rest Q (updo σ dst undef) w') : WO P ds n ops (⟨dst, .store t x y, ty, ps, af, g⟩ :: rest) Q σ w := by
  have hcell : w.cell? ⟨b, o, none⟩ = some c[o] := cell_of hb (by simp [ho])
  have hfr : w.frozen? ⟨b, o, none⟩ = false := by simp [World.frozen?, hb]
  have hcs : v.cells = #[v] := by cases v <;> first | rfl | simp [oneC] at h1
  refine WO_unit (w' := w.setCell ⟨b, o, none⟩ v) hg ?_ (next _ ⟨rfl, rfl, rfl, by simp [World.setCell], ?_, ?_⟩)
  · cases v <;> first | (simp [oneC] at h1; done) | simp [execOp, Instr.storeAt, Instr.sureAddr, hx, hy, storeVar, hs, Value.cells, storeCells, store, Sem.run, hcell, hfr, Addr.add, go_sem]
  · have hlt := heap_lt hb
    have := (Array.getElem?_eq_some_iff.1 hb).2
    simp [World.setCell, Array.getElem?_modify, hb]
  · intro j hj
    simp [World.setCell, Array.getElem?_modify, Ne.symm hj]
theorem WO_storerow {t e : TypeId} {x y : Operand} {b o : Nat} {c c' : Array Value} (hg : gOk ops n σ g = true) (hx : ev n σ x = .pointer (some ⟨b, o, none⟩)) (hy : ev n σ y = .agg c')
    (hs : ∀ w, (sizeOf t).run P w = .ok c'.size w) (h1 : c'.all (·.oneCell') = true) (hb : w.heap[b]? = some (.cells c e (0, 0))) (ho : o + c'.size ≤ c.size)
    (next : ∀ w', Upd w w' b (.cells (c.toList.take o ++ c'.toList ++ c.toList.drop (o + c'.size)).toArray e (0, 0)) → WO P ds n ops rest Q (updo σ dst undef) w') : WO P ds n ops (⟨dst, .store t x y, ty, ps, af, g⟩ :: rest) Q σ w := by
  have hr := run_storeCells_at P b o e c'.toList 0 c w hb (by simpa using ho) (fun v hv => by rw [Array.all_eq_true_iff_forall_mem] at h1; exact h1 v (by simpa using hv))
  refine WO_unit (w' := w.setRow b (c.toList.take (o + 0) ++ c'.toList ++ c.toList.drop (o + 0 + c'.toList.length)).toArray) hg ?_ (next _ ⟨rfl, rfl, rfl, by simp [World.setRow], ?_, ?_⟩)
  · have hr' : (storeCells ⟨b, o, none⟩ c'.toList).run P w = .ok () (w.setRow b (c.toList.take (o + 0) ++ c'.toList ++ c.toList.drop (o + 0 + c'.toList.length)).toArray) := hr
    simp [execOp, Instr.storeAt, Instr.sureAddr, hx, hy, storeVar, hs, Value.cells, hr', go_sem]
  · rw [setRow_heap w b c _ e _ hb]; simp
  · intro j hj; exact setRow_other w b j _ hj
theorem WO_loadrow {t e : TypeId} {d : TypeDesc} {x : Operand} {b o m : Nat} {c : Array Value} {fr : Nat × Nat} (hg : gOk ops n σ g = true) (hx : ev n σ x = .pointer (some ⟨b, o, none⟩)) (ht : P.underlying t = some d) (hd : plainD d = false)
    (hs : ∀ w, (sizeOf t).run P w = .ok m w) (hb : w.heap[b]? = some (.cells c e fr)) (ho : o + m ≤ c.size)
    (next : WO P ds n ops rest Q (updo σ dst ((.agg ((c.toList.drop o).take m).toArray))) w) : WO P ds n ops (⟨dst, .load t x, ty, ps, af, g⟩ :: rest) Q σ w :=
  WO_val hg (R_loadrow hx ht hd hs hb ho) next
end
theorem W_any {P : Program} {ds : List Deferred} {n : Nat} {c : Code} {Q : Exit → Act → World → Prop} {σ : Nat → Value} {w : World} (h : W P ds n c (fun e σ w => Q e (mk ds n σ) w) σ w) : c.wp P Q (mk ds n σ) w := by
  refine wp_mono h ?_
  rintro e a w ⟨σ', rfl, q⟩; exact q
theorem wp_defer {P : Program} {n : Nat} {id : Nat} {o1 : Oper} {op : Op} {ty : TypeId} {ps : String} {af : Array Edge} {y : Code} {Q : Exit → Act → World → Prop} {σ : Nat → Value} {w : World} {v : Value} {d : Deferred}
    (hg1 : o1.guard = none) (h1 : (execOp (ev n σ) o1).run P w = .ok (.value v) w) (h2 : (execOp (ev n (updo σ o1.dst v)) ⟨none, op, ty, ps, af, none⟩).run P w = .ok (.defer d) w)
    (h : y.wp P Q (mk [d] n (updo σ o1.dst v)) w) : (Code.seq (.region id [o1, ⟨none, op, ty, ps, af, none⟩].toArray false) y).wp P Q (Proofs.YtaegacblpbbndaaDoor.mk n σ) w := by
  refine wp_seq (wp_region_lit ?_)
  unfold wpList
  rw [Proofs.YtaegacblpbbndaaDoor.wanted_mk, hg1, show ∀ o : Array Oper, gOk o n σ none = true from fun _ => rfl, if_pos rfl]
  left
  unfold Oper.wp
  rw [Proofs.YtaegacblpbbndaaDoor.mk_eval, h1, Oper.upon_value, Proofs.YtaegacblpbbndaaDoor.mk_put]
  unfold wpList
  rw [Proofs.YtaegacblpbbndaaDoor.wanted_mk, show ∀ (o : Array Oper) (σ : Nat → Value), gOk o n σ none = true from fun _ _ => rfl, if_pos rfl]
  left
  unfold Oper.wp
  rw [Proofs.YtaegacblpbbndaaDoor.mk_eval, h2, Oper.upon_defer]
  exact h
theorem leaves_cc {P : Program} {ds : List Deferred} {n : Nat} {σ : Nat → Value} {w : World} {fn : Func} {R : Ending → World → Prop} {t u : Nat} {ty ty2 e e2 : TypeId} {d d2 : TypeDesc} {b b2 : Nat} {c : Array Value} {fr fr2 : Nat × Nat} {v1 : Value}
    (hr : fn.results = #[.cell t ty, .cell u ty2]) (h0 : sl n σ t = .pointer (some ⟨b, 0, none⟩)) (ht : P.underlying ty = some d) (hd : plainD d = false) (hs : ∀ w, (sizeOf ty).run P w = .ok c.size w) (hb : w.heap[b]? = some (.cells c e fr))
    (h1 : sl n σ u = .pointer (some ⟨b2, 0, none⟩)) (ht2 : P.underlying ty2 = some d2) (hd2 : plainD d2 = true) (hb2 : w.heap[b2]? = some (.cells #[v1] e2 fr2)) (h : R (.returned (.tuple #[.agg c, v1])) w) : Leaves P fn (mk ds n σ).tmps R [] .returning w := by
  have ha : (isAgg ty).run P w = .ok true w := by cases d <;> simp_all [isAgg, run_underlying ht, plainD]
  refine ⟨_, ?_, h⟩
  have hl := run_loadCells_list (P := P) w ⟨b, 0, none⟩ c.toList (fun j v hj => by
    have hadd : (⟨b, 0, none⟩ : Addr).add j = ⟨b, 0 + j, none⟩ := by unfold Addr.add; split <;> simp_all
    rw [hadd, Nat.zero_add]; exact cell_of hb (by simpa using hj))
  simp only [loadCells] at hl
  simp only [Array.length_toList] at hl
  have hc : w.cell? ⟨b2, 0, none⟩ = some v1 := cell_of hb2 rfl
  have e0 := mk_getD ds n σ t; have e1 := mk_getD ds n σ u
  rw [Array.getD_eq_getD_getElem?] at e0 e1
  simp only [results, hr]
  simp [e0, e1, h0, h1, asAddr, loadVar, loadCells, ha, hs, hl, run_isAgg ht2 hd2, load, Sem.run, hc, go_sem]
end D
end Go.Proofs.YtaegacblpbbndaaDoor
end
section
namespace Go.Proofs.YtaegacblpbbndaaDoor
open Go Go.RowKit
theorem en_8 : Enters Tryd.prog 8 := enters_of Tryd.func8 (by kernel_rfl) rfl
theorem one_any (ws : List (List UInt8)) (hl : ws.length ≤ 8388608) (hx : ∀ x ∈ ws, x.length ≤ 8388608) : ∀ (n : Nat), n ≤ ws.length + 3 → OneSaid ws n := by
 have key : ∀ (k n : Nat), n ≤ ws.length + 3 → ws.length + 3 - n ≤ k → OneSaid ws n := by
  intro k
  induction k with
  | zero => exact fun n hn hk b txt w hb hR => one_step ws hl hx n hn (fun n' h1 h2 => by omega) b txt w hb hR
  | succ k ih => exact fun n hn hk b txt w hb hR => one_step ws hl hx n hn (fun n' h1 h2 => ih n' h2 (by omega)) b txt w hb hR
 exact fun n hn => key _ n hn (Nat.le_refl _)
theorem wordsN_ne : ∀ (n : Nat) (s : List UInt8), ∀ x ∈ wordsN n s, x ≠ []
 | 0, s => by simp [wordsN]
 | n + 1, s => by
  unfold wordsN
  split
  ·simp
  ·rename_i h
   intro x hx
   rcases List.mem_cons.1 hx with rfl | hx
   ·exact h
   ·exact wordsN_ne n _ x hx
theorem nonempty_word {s : List UInt8} {m : Nat} (h : m < (wordsOf s).length) : atW (wordsOf s) m ≠ [] := by
 rw [atW_lt h]; exact wordsN_ne _ s _ (nth_mem h)
theorem check_bad {t : DepT} (h : formB t = false) : checkE t = 50 := by unfold checkE; rw [if_neg (by rw [h]; simp)]
theorem parse_bad {s : List UInt8} {t : DepT} {m : Nat} (h : readA (wordsOf s) 0 = some (t, m)) (hm : (wordsOf s).length ≤ m) (hc : checkE t ≠ 0) : parseF s = (zeroT, checkE t) := by
 unfold parseF; rw [h]; simp only
 by_cases he : m = (wordsOf s).length
 ·rw [if_pos he, if_neg hc]
 ·rw [if_neg he, check_bad (readF_over h (by omega))]
theorem parse_good {s : List UInt8} {t : DepT} {m : Nat} (h : readA (wordsOf s) 0 = some (t, m)) (hm : (wordsOf s).length ≤ m) (hc : checkE t = 0) : parseF s = (t, 0) := by
 unfold parseF; rw [h]; simp only
 by_cases he : m = (wordsOf s).length
 ·rw [if_pos he, if_pos hc]
 ·rw [check_bad (readF_over h (by omega))] at hc; cases hc
set_option maxHeartbeats 400000 in
set_option maxRecDepth 100000 in
theorem catch_pan {p q : Nat} {x0 x1 x2 x3 x4 y : Value} {w : World} (hp : w.heap[p]? = some (.cells #[x0, x1, x2, x3, x4] 25 (0, 0))) (hq : w.heap[q]? = some (.cells #[y] 26 (0, 0))) (hpq : p ≠ q) :
  CallsD Tryd.prog 18 #[.pointer (some ⟨p, 0, none⟩), .pointer (some ⟨q, 0, none⟩)] (.panicking oddCh) w fun e u' w' => e = .returned (.tuple #[]) ∧ u' = .panicking [{ v := .iface 41 (.agg #[]), recovered := true }] ∧
   w'.heap[p]? = some (.cells #[.int .i64 0, S [], .int .i64 0, S [], .slice none 0 0] 25 (0, 0)) ∧ w'.heap[q]? = some (.cells #[.int .i64 50] 26 (0, 0)) ∧ ∀ B, B ≤ p → B ≤ q → Below B w w' := by
 unfold oddCh
 have hpl := heap_lt hp
 have hql := heap_lt hq
 refine callsD_of_wpS Tryd.func18 rfl fun c₀ cs hu => ?_
 apply wpS_seq
 apply wpS_region
 simp [wpOpsS, go_sem, recoverD, hu, Tryd.ntmps18, Exit.thenS]
 refine wpS_of_wp ?_
 rw [show ({ tmps := #[Value.pointer (some ⟨p, 0, none⟩), Value.pointer (some ⟨q, 0, none⟩)] ++ ((Array.replicate 14 undef).setIfInBounds 3 (.iface 41 (.agg #[]))).setIfInBounds 0 (.iface 41 (.agg #[])), defers := [] } : Act) = mk 16 (upd (upd (argσ [.pointer (some ⟨p, 0, none⟩), .pointer (some ⟨q, 0, none⟩)]) 5 (.iface 41 (.agg #[]))) 2 (.iface 41 (.agg #[]))) from by kernel_rfl]
 refine W_any ?_
 refine W_seq ?_
 refine W_reg ?_
 refine WO_pure (v := ((.iface 41 (.agg #[])))) rfl rfl ?_
 refine WO_same (v := .tuple #[.agg #[], .bool true]) rfl (by kernel_rfl) ?_
 refine WO_pure rfl rfl ?_
 refine WO_pure (v := (.agg #[])) rfl rfl ?_
 refine WO_pure (v := (.bool true)) rfl rfl ?_
 refine WO_alloc (v := (.agg #[])) rfl (fun _ => by kernel_rfl) (fun w1 n1 => ?_)
 have e1 : w1.heap[w.heap.size]? = some (.cells #[] 41 (0, 0)) := n1.here
 have z1 := n1.size
 have p2 := e1
 refine WO_storerow (b := w.heap.size) (o := 0) (c' := #[]) rfl rfl rfl (fun _ => by kernel_rfl) (by simp [Value.oneCell']) p2 (by simp) (fun w2 u2 => ?_)
 have e2 : w2.heap[w.heap.size]? = some (.cells #[] 41 (0, 0)) := u2.here
 have z2 := u2.size
 refine WO_pure (v := (.bool true)) rfl rfl ?_
 refine WO_nil ?_
 refine W_seq ?_
 refine W_reg ?_
 refine WO_pure (v := (.bool true)) rfl rfl ?_
 refine WO_nil ?_
 refine W_true rfl ?_
 refine W_reg ?_
 refine WO_same (v := (.agg #[(.int .i64 0), (S []), (.int .i64 0), (S []), (.slice none 0 0)])) rfl (by kernel_rfl) ?_
 have p3 := (u2.keep (n1.keep hp) (heap_ne (n1.keep hp) p2 (by decide)))
 refine WO_storerow (b := p) (o := 0) (c' := #[(.int .i64 0), (S []), (.int .i64 0), (S []), (.slice none 0 0)]) rfl rfl rfl (fun _ => by kernel_rfl) (by simp [Value.oneCell']) p3 (by simp) (fun w3 u3 => ?_)
 have e3 : w3.heap[p]? = some (.cells #[(.int .i64 0), (S []), (.int .i64 0), (S []), (.slice none 0 0)] 25 (0, 0)) := u3.here
 have z3 := u3.size
 have p4 := (u3.keep (u2.keep (n1.keep hq) (heap_ne (n1.keep hq) p2 (by decide))) (heap_ne (u2.keep (n1.keep hq) (heap_ne (n1.keep hq) p2 (by decide))) p3 (by decide)))
 refine WO_store (b := q) (o := 0) (v := (.int .i64 50)) rfl rfl rfl (fun _ => by kernel_rfl) rfl p4 (by simp) (fun w4 u4 => ?_)
 have e4 : w4.heap[q]? = some (.cells #[(.int .i64 50)] 26 (0, 0)) := u4.here
 have z4 := u4.size
 refine WO_nil ?_
 refine ⟨rfl, .panicking [{ v := .iface 41 (.agg #[]), recovered := true }], rfl, _, results_none rfl _ _ _, rfl, rfl, (u4.keep e3 (heap_ne e3 p4 (by decide))), e4, fun B hB1 hB2 => (u4.below (u3.below (u2.below (n1.below (Below.refl B w) (by omega)) (by omega)) (by omega)) (by omega))⟩
set_option maxHeartbeats 400000 in
set_option maxRecDepth 100000 in
theorem catch_idle (p q : Nat) (w : World) : CallsD Tryd.prog 18 #[.pointer (some ⟨p, 0, none⟩), .pointer (some ⟨q, 0, none⟩)] .returning w fun e u' w' => e = .returned (.tuple #[]) ∧ u' = .returning ∧ Below w.heap.size w w' := by
 refine callsD_of_wpS Tryd.func18 rfl fun c₀ cs hu => ?_
 apply wpS_seq
 apply wpS_region
 simp [wpOpsS, go_sem, recoverD, hu, Tryd.ntmps18, Exit.thenS]
 refine wpS_of_wp ?_
 rw [show ({ tmps := #[Value.pointer (some ⟨p, 0, none⟩), Value.pointer (some ⟨q, 0, none⟩)] ++ ((Array.replicate 14 undef).setIfInBounds 3 .nilIface).setIfInBounds 0 .nilIface, defers := [] } : Act) = mk 16 (upd (upd (argσ [.pointer (some ⟨p, 0, none⟩), .pointer (some ⟨q, 0, none⟩)]) 5 .nilIface) 2 .nilIface) from by kernel_rfl]
 refine W_any ?_
 refine W_seq ?_
 refine W_reg ?_
 refine WO_pure (v := (.nilIface)) rfl rfl ?_
 refine WO_same (v := .tuple #[.agg #[], .bool false]) rfl (by kernel_rfl) ?_
 refine WO_pure rfl rfl ?_
 refine WO_pure (v := (.agg #[])) rfl rfl ?_
 refine WO_pure (v := (.bool false)) rfl rfl ?_
 refine WO_alloc (v := (.agg #[])) rfl (fun _ => by kernel_rfl) (fun w1 n1 => ?_)
 have e1 : w1.heap[w.heap.size]? = some (.cells #[] 41 (0, 0)) := n1.here
 have z1 := n1.size
 have p2 := e1
 refine WO_storerow (b := w.heap.size) (o := 0) (c' := #[]) rfl rfl rfl (fun _ => by kernel_rfl) (by simp [Value.oneCell']) p2 (by simp) (fun w2 u2 => ?_)
 have e2 : w2.heap[w.heap.size]? = some (.cells #[] 41 (0, 0)) := u2.here
 have z2 := u2.size
 refine WO_pure (v := (.bool false)) rfl rfl ?_
 refine WO_nil ?_
 refine W_seq ?_
 refine W_reg ?_
 refine WO_pure (v := (.bool false)) rfl rfl ?_
 refine WO_nil ?_
 refine W_false rfl ?_
 refine W_seq ?_
 refine W_reg ?_
 refine WO_pure (v := (.nilIface)) rfl rfl ?_
 refine WO_same (v := .bool false) rfl (by kernel_rfl) ?_
 refine WO_nil ?_
 refine W_false rfl ?_
 refine W_skip ?_
 refine ⟨rfl, .returning, by cases c₀; simp_all, _, results_none rfl _ _ _, rfl, rfl, (u2.below (n1.below (Below.refl w.heap.size w) (Below.refl w.heap.size w).size) (by omega))⟩
set_option maxHeartbeats 2000000 in
set_option maxRecDepth 100000 in
theorem parse_any (s : List UInt8) (w : World) (hl : s.length ≤ 1048576) : Calls Tryd.prog 8 #[S s] w (Ret fun v w' => ParseIs w' (parseF s) v ∧ Below w.heap.size w w') := by
 have hwl := wordsOf_len s
 refine calls_of_wp_defers Tryd.func8 rfl ?_
 rw [show ({ tmps := #[S s] ++ Array.replicate (Tryd.f8.ntmps - #[S s].size) undef, defers := [] } : Act) = mk 28 (argσ [S s]) from by rw [Tryd.ntmps8]; kernel_rfl]
 refine W_top ?_
 refine W_reg ?_
 refine WO_alloc (v := (.agg #[(.int .i64 0), (S []), (.int .i64 0), (S []), (.slice none 0 0)])) rfl (fun _ => by kernel_rfl) (fun w1 n1 => ?_)
 have z1 := n1.size
 refine WO_alloc (v := .int .i64 0) rfl (fun _ => by kernel_rfl) (fun w2 n2 => ?_)
 have z2 := n2.size
 have e1 : w1.heap[w.heap.size]? = some (.cells #[(.int .i64 0), (S []), (.int .i64 0), (S []), (.slice none 0 0)] 25 (0, 0)) := n1.here
 have e2 : w2.heap[w1.heap.size]? = some (.cells #[.int .i64 0] 26 (0, 0)) := n2.here
 refine WO_nil ?_
 refine D.wp_defer (v := .func (.func 18) #[] #[(.pointer (some ⟨w.heap.size, 0, none⟩)), (.pointer (some ⟨w1.heap.size, 0, none⟩))]) (d := { target := .fn (.func 18) #[(.pointer (some ⟨w.heap.size, 0, none⟩)), (.pointer (some ⟨w1.heap.size, 0, none⟩))], args := #[] }) rfl (by kernel_rfl) (by kernel_rfl) ?_
 refine D.W_any ?_
 refine D.W_seq ?_
 refine D.W_reg ?_
 refine D.WO_pure (v := (S s)) rfl rfl ?_
 refine D.WO_same (v := (.agg #[(S s), (S [])])) rfl (by kernel_rfl) ?_
 refine D.WO_box (v := (.agg #[(S s), (S [])])) rfl rfl (fun w3 n3 => ?_)
 have e3 : w3.heap[w2.heap.size]? = some (.cells #[(S s), (S [])] 45 (0, 0)) := n3.here
 have z3 := n3.size
 refine D.WO_pure (v := (.pointer (some ⟨w2.heap.size, 0, none⟩))) rfl rfl ?_
 refine D.WO_nil ?_
 refine D.W_seq ?_
 refine D.W_reg ?_
 refine D.WO_pure (v := (.pointer (some ⟨w2.heap.size, 0, none⟩))) rfl rfl ?_
 refine D.WO_call rfl (by exact en_19) (next_any w2.heap.size s [] _ e3 (by omega)) ?_
 rintro _ wx ⟨hcx, gx⟩
 have z_x := gx.size
 have hst := Rep.start s (by omega)
 rw [hst.1] at hcx
 have z_wx := gx.size
 refine D.WO_nil ?_
 refine D.W_seq ?_
 refine D.W_reg ?_
 refine D.WO_pure (v := (.pointer (some ⟨w2.heap.size, 0, none⟩))) rfl rfl ?_
 refine D.WO_callp rfl (by exact en_20) (one_any (wordsOf s) (by omega) (fun x hx => by have := wordsOf_each s x hx; omega) 0 (by omega) w2.heap.size (nextW s).2 _ hcx hst.2) (by rintro wp hp; refine leaves_cons (f := 18) (args := #[(.pointer (some ⟨w.heap.size, 0, none⟩)), (.pointer (some ⟨w1.heap.size, 0, none⟩))]) (by simp) (by simp [go_sem]) ?_; refine (catch_pan (grown_keep hp.2 (grown_keep gx (n3.keep (n2.keep e1)) (by first | assumption | omega | (intro e; have e2 := Option.some.inj e; omega) | (simp; omega))) (by intro e; have e2 := Option.some.inj e; omega)) (grown_keep hp.2 (grown_keep gx (n3.keep e2) (by first | assumption | omega | (intro e; have e2 := Option.some.inj e; omega) | (simp; omega))) (by intro e; have e2 := Option.some.inj e; omega)) (by omega)).mono ?_; rintro e u' w'' ⟨rfl, rfl, hh1, hh2, hh3⟩; exact D.leaves_cc rfl rfl Tryd.underlying25 rfl (fun _ => by kernel_rfl) hh1 rfl Tryd.underlying26 rfl hh2 ⟨_, rfl, parseIs_zero (by unfold parseF; rw [hp.1]), (Below.trans (grown_below hp.2 (grown_below gx (n3.below (n2.below (n1.below (Below.refl w.heap.size w) (Below.refl w.heap.size w).size) (n1.below (Below.refl w.heap.size w) (Below.refl w.heap.size w).size).size) (n2.below (n1.below (Below.refl w.heap.size w) (Below.refl w.heap.size w).size) (n1.below (Below.refl w.heap.size w) (Below.refl w.heap.size w).size).size).size) (by intro k hk; cases hk; omega)) (by intro k hk; cases hk; omega)) (hh3 _ (by omega) (by omega)))⟩) ?_
 rintro _ woz ⟨kz, opz, nmz, evz, asz, mz, txz, svz, cssz, hrz, rfl, rxz, axz, htz, hRz, goz⟩
 have z_z := goz.size
 have hmz := readA_le hrz
 have hqz := read_size hrz hl
 have z_woz := goz.size
 refine D.WO_alloc (v := (.agg #[(.int .i64 0), (S []), (.int .i64 0), (S []), (.slice none 0 0)])) rfl (fun _ => by kernel_rfl) (fun w4 n4 => ?_)
 have e4 : w4.heap[woz.heap.size]? = some (.cells #[(.int .i64 0), (S []), (.int .i64 0), (S []), (.slice none 0 0)] 25 (0, 0)) := n4.here
 have z4 := n4.size
 have p5 := e4
 refine D.WO_storerow (b := woz.heap.size) (o := 0) (c' := #[(.int .i64 kz), (S nmz), (.int .i64 opz), (S evz), svz]) rfl rfl rfl (fun _ => by kernel_rfl) (by rw [Array.all_eq_true_iff_forall_mem]; intro v hv; simp only [List.mem_toArray, List.mem_cons, List.not_mem_nil, or_false] at hv; rcases hv with hv | hv | hv | hv | hv <;> (rw [hv]; first | rfl | exact oneCell_is (rxz.1.ext n4.ext))) p5 (by simp) (fun w5 u5 => ?_)
 have e5 : w5.heap[woz.heap.size]? = some (.cells #[(.int .i64 kz), (S nmz), (.int .i64 opz), (S evz), svz] 25 (0, 0)) := u5.here
 have z5 := u5.size
 refine D.WO_nil ?_
 refine D.W_seq ?_
 refine D.W_reg ?_
 refine D.WO_pure (v := (.pointer (some ⟨w2.heap.size, 0, none⟩))) rfl rfl ?_
 refine D.WO_pure (v := (.pointer (some ⟨w2.heap.size, 0, none⟩))) rfl rfl ?_
 refine D.WO_same (v := (.pointer (some ⟨w2.heap.size, 1, none⟩))) rfl (by kernel_rfl) ?_
 refine D.WO_load (a := ⟨w2.heap.size, 1, none⟩) (v := (S ((atW (wordsOf s) mz)))) rfl rfl Tryd.underlying9 rfl (cell_of (u5.keep (n4.keep htz) (heap_ne (n4.keep htz) p5 (by decide))) rfl) ?_
 refine D.WO_seql (l1 := (atW (wordsOf s) mz)) (l2 := []) rfl rfl rfl ?_
 refine D.WO_callp rfl (by exact en_21) (need_any (decide ((atW (wordsOf s) mz) = [])) _) (by rintro wp ⟨w_ok, rfl⟩; refine leaves_cons (f := 18) (args := #[(.pointer (some ⟨w.heap.size, 0, none⟩)), (.pointer (some ⟨w1.heap.size, 0, none⟩))]) (by simp) (by simp [go_sem]) ?_; refine (catch_pan (u5.keep (n4.keep (grown_keep goz (grown_keep gx (n3.keep (n2.keep e1)) (by first | assumption | omega | (intro e; have e2 := Option.some.inj e; omega) | (simp; omega))) (by first | assumption | omega | (intro e; have e2 := Option.some.inj e; omega) | (simp; omega)))) (by first | assumption | omega | (simp; omega))) (u5.keep (n4.keep (grown_keep goz (grown_keep gx (n3.keep e2) (by first | assumption | omega | (intro e; have e2 := Option.some.inj e; omega) | (simp; omega))) (by first | assumption | omega | (intro e; have e2 := Option.some.inj e; omega) | (simp; omega)))) (heap_ne (n4.keep (grown_keep goz (grown_keep gx (n3.keep e2) (by first | assumption | omega | (intro e; have e2 := Option.some.inj e; omega) | (simp; omega))) (by first | assumption | omega | (intro e; have e2 := Option.some.inj e; omega) | (simp; omega)))) p5 (by decide))) (by omega)).mono ?_; rintro e u' w'' ⟨rfl, rfl, hh1, hh2, hh3⟩; exact D.leaves_cc rfl rfl Tryd.underlying25 rfl (fun _ => by kernel_rfl) hh1 rfl Tryd.underlying26 rfl hh2 ⟨_, rfl, parseIs_zero (by unfold parseF; rw [hrz]; simp only; rw [if_neg (fun e => by rw [atW_ge (by omega)] at w_ok; simp at w_ok)]), (Below.trans (u5.below (n4.below (grown_below goz (grown_below gx (n3.below (n2.below (n1.below (Below.refl w.heap.size w) (Below.refl w.heap.size w).size) (n1.below (Below.refl w.heap.size w) (Below.refl w.heap.size w).size).size) (n2.below (n1.below (Below.refl w.heap.size w) (Below.refl w.heap.size w).size) (n1.below (Below.refl w.heap.size w) (Below.refl w.heap.size w).size).size).size) (by intro k hk; cases hk; omega)) (by intro k hk; cases hk; omega)) (grown_below goz (grown_below gx (n3.below (n2.below (n1.below (Below.refl w.heap.size w) (Below.refl w.heap.size w).size) (n1.below (Below.refl w.heap.size w) (Below.refl w.heap.size w).size).size) (n2.below (n1.below (Below.refl w.heap.size w) (Below.refl w.heap.size w).size) (n1.below (Below.refl w.heap.size w) (Below.refl w.heap.size w).size).size).size) (by intro k hk; cases hk; omega)) (by intro k hk; cases hk; omega)).size) (by omega)) (hh3 _ (by omega) (by omega)))⟩) ?_
 rintro _ _ ⟨w_ok, rfl, rfl⟩
 have hge : (wordsOf s).length ≤ mz := Decidable.byContradiction fun h => nonempty_word (s := s) (m := mz) (by omega) (by simpa using w_ok)
 refine D.WO_nil ?_
 refine D.W_seq ?_
 refine D.W_seq ?_
 refine D.W_reg ?_
 refine D.WO_loadrow (b := woz.heap.size) (o := 0) (m := 5) (c := #[(.int .i64 kz), (S nmz), (.int .i64 opz), (S evz), svz]) rfl rfl Tryd.underlying25 rfl (fun _ => by kernel_rfl) e5 (by simp) ?_
 refine D.WO_eq 21 (v' := (.agg #[(.int .i64 kz), (S nmz), (.int .i64 opz), (S evz), svz])) rfl rfl ?_
 refine D.WO_call rfl (by exact en_14) (check_any (DepT.mk kz nmz opz evz asz) _ (DepC.ext (u5.below (n4.below (Below.refl woz.heap.size woz) (Below.refl woz.heap.size woz).size) (by omega)) _ _ (DepX.toC _ _ (DepX.intro (k := kz) (op := opz) (nm := nmz) (ev := evz) rxz axz))) hqz) ?_
 rintro _ wk ⟨rfl, bk⟩
 have z_k := bk.size
 have z_wk := bk.size
 refine D.WO_pure (v := (.int .i64 (checkE (DepT.mk kz nmz opz evz asz)))) rfl rfl ?_
 refine D.WO_nil ?_
 refine D.W_seq ?_
 refine D.W_reg ?_
 refine D.WO_pure (v := (.int .i64 (checkE (DepT.mk kz nmz opz evz asz)))) rfl rfl ?_
 refine D.WO_pure (v := (.bool (!decide ((checkE (DepT.mk kz nmz opz evz asz)) = 0)))) rfl rfl ?_
 refine D.WO_nil ?_
 refine D.W_cond (t := !decide ((checkE (DepT.mk kz nmz opz evz asz)) = 0)) rfl (fun c1 => ?_) (fun c1 => ?_)
 ·refine D.W_seq ?_
  refine D.W_reg ?_
  refine D.WO_same (v := (.agg #[(.int .i64 0), (S []), (.int .i64 0), (S []), (.slice none 0 0)])) rfl (by kernel_rfl) ?_
  refine D.WO_pure (v := (.int .i64 (checkE (DepT.mk kz nmz opz evz asz)))) rfl rfl ?_
  have p6 := (below_keep bk (u5.keep (n4.keep (grown_keep goz (grown_keep gx (n3.keep (n2.keep e1)) (by first | assumption | omega | (intro e; have e2 := Option.some.inj e; omega) | (simp; omega))) (by first | assumption | omega | (intro e; have e2 := Option.some.inj e; omega) | (simp; omega)))) (by first | assumption | omega | (simp; omega))))
  refine D.WO_storerow (b := w.heap.size) (o := 0) (c' := #[(.int .i64 0), (S []), (.int .i64 0), (S []), (.slice none 0 0)]) rfl rfl rfl (fun _ => by kernel_rfl) (by simp [Value.oneCell']) p6 (by simp) (fun w6 u6 => ?_)
  have e6 : w6.heap[w.heap.size]? = some (.cells #[(.int .i64 0), (S []), (.int .i64 0), (S []), (.slice none 0 0)] 25 (0, 0)) := u6.here
  have z6 := u6.size
  have p7 := (u6.keep (below_keep bk (u5.keep (n4.keep (grown_keep goz (grown_keep gx (n3.keep e2) (by first | assumption | omega | (intro e; have e2 := Option.some.inj e; omega) | (simp; omega))) (by first | assumption | omega | (intro e; have e2 := Option.some.inj e; omega) | (simp; omega)))) (heap_ne (n4.keep (grown_keep goz (grown_keep gx (n3.keep e2) (by first | assumption | omega | (intro e; have e2 := Option.some.inj e; omega) | (simp; omega))) (by first | assumption | omega | (intro e; have e2 := Option.some.inj e; omega) | (simp; omega)))) p5 (by decide)))) (heap_ne (below_keep bk (u5.keep (n4.keep (grown_keep goz (grown_keep gx (n3.keep e2) (by first | assumption | omega | (intro e; have e2 := Option.some.inj e; omega) | (simp; omega))) (by first | assumption | omega | (intro e; have e2 := Option.some.inj e; omega) | (simp; omega)))) (heap_ne (n4.keep (grown_keep goz (grown_keep gx (n3.keep e2) (by first | assumption | omega | (intro e; have e2 := Option.some.inj e; omega) | (simp; omega))) (by first | assumption | omega | (intro e; have e2 := Option.some.inj e; omega) | (simp; omega)))) p5 (by decide)))) p6 (by decide)))
  refine D.WO_store (b := w1.heap.size) (o := 0) (v := (.int .i64 (checkE (DepT.mk kz nmz opz evz asz)))) rfl rfl rfl (fun _ => by kernel_rfl) rfl p7 (by simp) (fun w7 u7 => ?_)
  have e7 : w7.heap[w1.heap.size]? = some (.cells #[(.int .i64 (checkE (DepT.mk kz nmz opz evz asz)))] 26 (0, 0)) := u7.here
  have z7 := u7.size
  refine D.WO_nil ?_
  refine D.W_ret ?_
  refine leaves_cons (f := 18) (args := #[(.pointer (some ⟨w.heap.size, 0, none⟩)), (.pointer (some ⟨w1.heap.size, 0, none⟩))]) (by simp) (by simp [go_sem]) ?_
  refine (catch_idle _ _ _).mono ?_
  rintro e u' w'' ⟨rfl, rfl, hh⟩
  exact D.leaves_cc rfl rfl Tryd.underlying25 rfl (fun _ => by kernel_rfl) (below_keep hh (u7.keep e6 (heap_ne e6 p7 (by decide)))) rfl Tryd.underlying26 rfl (below_keep hh e7) ⟨_, rfl, parseIs_zero (parse_bad hrz hge (by simpa using c1)), below_ext (u7.below (u6.below (below_ext (u5.below (n4.below (grown_below goz (grown_below gx (n3.below (n2.below (n1.below (Below.refl w.heap.size w) (Below.refl w.heap.size w).size) (n1.below (Below.refl w.heap.size w) (Below.refl w.heap.size w).size).size) (n2.below (n1.below (Below.refl w.heap.size w) (Below.refl w.heap.size w).size) (n1.below (Below.refl w.heap.size w) (Below.refl w.heap.size w).size).size).size) (by intro k hk; cases hk; omega)) (by intro k hk; cases hk; omega)) (grown_below goz (grown_below gx (n3.below (n2.below (n1.below (Below.refl w.heap.size w) (Below.refl w.heap.size w).size) (n1.below (Below.refl w.heap.size w) (Below.refl w.heap.size w).size).size) (n2.below (n1.below (Below.refl w.heap.size w) (Below.refl w.heap.size w).size) (n1.below (Below.refl w.heap.size w) (Below.refl w.heap.size w).size).size).size) (by intro k hk; cases hk; omega)) (by intro k hk; cases hk; omega)).size) (by omega)) bk) (by omega)) (by omega)) hh⟩
 ·refine D.W_skip ?_
  refine D.W_seq ?_
  refine D.W_reg ?_
  refine D.WO_loadrow (b := woz.heap.size) (o := 0) (m := 5) (c := #[(.int .i64 kz), (S nmz), (.int .i64 opz), (S evz), svz]) rfl rfl Tryd.underlying25 rfl (fun _ => by kernel_rfl) (below_keep bk e5) (by simp) ?_
  refine D.WO_eq 27 (v' := (.agg #[(.int .i64 kz), (S nmz), (.int .i64 opz), (S evz), svz])) rfl rfl ?_
  have p8 := (below_keep bk (u5.keep (n4.keep (grown_keep goz (grown_keep gx (n3.keep (n2.keep e1)) (by first | assumption | omega | (intro e; have e2 := Option.some.inj e; omega) | (simp; omega))) (by first | assumption | omega | (intro e; have e2 := Option.some.inj e; omega) | (simp; omega)))) (by first | assumption | omega | (simp; omega))))
  refine D.WO_storerow (b := w.heap.size) (o := 0) (c' := #[(.int .i64 kz), (S nmz), (.int .i64 opz), (S evz), svz]) rfl rfl rfl (fun _ => by kernel_rfl) (by rw [Array.all_eq_true_iff_forall_mem]; intro v hv; simp only [List.mem_toArray, List.mem_cons, List.not_mem_nil, or_false] at hv; rcases hv with hv | hv | hv | hv | hv <;> (rw [hv]; first | rfl | exact oneCell_is (rxz.1.ext (below_ext (u5.below (n4.below (Below.refl woz.heap.size woz) (Below.refl woz.heap.size woz).size) (by omega)) bk)))) p8 (by simp) (fun w8 u8 => ?_)
  have e8 : w8.heap[w.heap.size]? = some (.cells #[(.int .i64 kz), (S nmz), (.int .i64 opz), (S evz), svz] 25 (0, 0)) := u8.here
  have z8 := u8.size
  have p9 := (u8.keep (below_keep bk (u5.keep (n4.keep (grown_keep goz (grown_keep gx (n3.keep e2) (by first | assumption | omega | (intro e; have e2 := Option.some.inj e; omega) | (simp; omega))) (by first | assumption | omega | (intro e; have e2 := Option.some.inj e; omega) | (simp; omega)))) (heap_ne (n4.keep (grown_keep goz (grown_keep gx (n3.keep e2) (by first | assumption | omega | (intro e; have e2 := Option.some.inj e; omega) | (simp; omega))) (by first | assumption | omega | (intro e; have e2 := Option.some.inj e; omega) | (simp; omega)))) p5 (by decide)))) (heap_ne (below_keep bk (u5.keep (n4.keep (grown_keep goz (grown_keep gx (n3.keep e2) (by first | assumption | omega | (intro e; have e2 := Option.some.inj e; omega) | (simp; omega))) (by first | assumption | omega | (intro e; have e2 := Option.some.inj e; omega) | (simp; omega)))) (heap_ne (n4.keep (grown_keep goz (grown_keep gx (n3.keep e2) (by first | assumption | omega | (intro e; have e2 := Option.some.inj e; omega) | (simp; omega))) (by first | assumption | omega | (intro e; have e2 := Option.some.inj e; omega) | (simp; omega)))) p5 (by decide)))) p8 (by decide)))
  refine D.WO_store (b := w1.heap.size) (o := 0) (v := (.int .i64 0)) rfl rfl rfl (fun _ => by kernel_rfl) rfl p9 (by simp) (fun w9 u9 => ?_)
  have e9 : w9.heap[w1.heap.size]? = some (.cells #[(.int .i64 0)] 26 (0, 0)) := u9.here
  have z9 := u9.size
  refine D.WO_nil ?_
  refine D.W_ret ?_
  refine leaves_cons (f := 18) (args := #[(.pointer (some ⟨w.heap.size, 0, none⟩)), (.pointer (some ⟨w1.heap.size, 0, none⟩))]) (by simp) (by simp [go_sem]) ?_
  refine (catch_idle _ _ _).mono ?_
  rintro e u' w'' ⟨rfl, rfl, hh⟩
  have hpf : parseF s = (DepT.mk kz nmz opz evz asz, 0) := parse_good hrz hge (by simpa using c1)
  exact D.leaves_cc rfl rfl Tryd.underlying25 rfl (fun _ => by kernel_rfl) (below_keep hh (u9.keep e8 (heap_ne e8 p9 (by decide)))) rfl Tryd.underlying26 rfl (below_keep hh e9) ⟨_, rfl, (by rw [hpf]; exact ⟨_, rfl, DepC.ext hh _ _ (DepX.toC _ _ (DepX.go (q := fun _ => True) (fun b hb hp => by change _ ≤ b at hp; exact ⟨trivial, ((u9.block b (by first | assumption | omega | (intro e; have e2 := Option.some.inj e; omega) | (intro e; simp_all; done) | (intro e; simp_all; omega))).trans ((u8.block b (by first | assumption | omega | (intro e; have e2 := Option.some.inj e; omega) | (intro e; simp_all; done) | (intro e; simp_all; omega))).trans ((bk.block b (by omega)).trans ((u5.block b (by first | assumption | omega | (intro e; have e2 := Option.some.inj e; omega) | (intro e; simp_all; done) | (intro e; simp_all; omega))).trans (n4.ext.block b (by omega))))))⟩) (by omega) _ _ (DepX.intro (k := kz) (op := opz) (nm := nmz) (ev := evz) rxz axz)))⟩), below_ext (u9.below (u8.below (below_ext (u5.below (n4.below (grown_below goz (grown_below gx (n3.below (n2.below (n1.below (Below.refl w.heap.size w) (Below.refl w.heap.size w).size) (n1.below (Below.refl w.heap.size w) (Below.refl w.heap.size w).size).size) (n2.below (n1.below (Below.refl w.heap.size w) (Below.refl w.heap.size w).size) (n1.below (Below.refl w.heap.size w) (Below.refl w.heap.size w).size).size).size) (by intro k hk; cases hk; omega)) (by intro k hk; cases hk; omega)) (grown_below goz (grown_below gx (n3.below (n2.below (n1.below (Below.refl w.heap.size w) (Below.refl w.heap.size w).size) (n1.below (Below.refl w.heap.size w) (Below.refl w.heap.size w).size).size) (n2.below (n1.below (Below.refl w.heap.size w) (Below.refl w.heap.size w).size) (n1.below (Below.refl w.heap.size w) (Below.refl w.heap.size w).size).size).size) (by intro k hk; cases hk; omega)) (by intro k hk; cases hk; omega)).size) (by omega)) bk) (by omega)) (by omega)) hh⟩
end Go.Proofs.YtaegacblpbbndaaDoor
end
section
namespace Go.Proofs.YtaegacblpbbndaaDoor
open Go Go.RowKit
theorem en_7 : Enters Tryd.prog 7 := enters_of Tryd.func7 (by kernel_rfl) rfl
theorem parseIs_mk {w : World} {k op er : Int} {nm ev : List UInt8} {args : List DepT} {v : Value} (h : ParseIs w (.mk k nm op ev args, er) v) : ∃ (sv : Value) (css : List (List Value)), v = .tuple #[.agg #[.int .i64 k, S nm, .int .i64 op, S ev, sv], .int .i64 er] ∧ RowIs w sv args.length 5 css.flatten ∧ ArgsC w args css := by
 obtain ⟨cs, rfl, h⟩ := h
 unfold DepC at h
 obtain ⟨sv, css, rfl, h1, h2⟩ := h
 exact ⟨sv, css, rfl, h1, h2⟩
theorem depC_mk {w : World} {k op : Int} {nm ev : List UInt8} {args : List DepT} {sv : Value} {css : List (List Value)} (h1 : RowIs w sv args.length 5 css.flatten) (h2 : ArgsC w args css) : DepC w (.mk k nm op ev args) [.int .i64 k, S nm, .int .i64 op, S ev, sv] := by
 unfold DepC
 exact ⟨sv, css, rfl, h1, h2⟩
theorem zero_size : zeroT.size ≤ 4194304 := by decide
theorem parse_size {s : List UInt8} (hl : s.length ≤ 1048576) : (parseF s).1.size ≤ 4194304 := by
 unfold parseF
 split
 ·exact zero_size
 ·rename_i t m h
  have := read_size h hl
  repeat' split
  all_goals first | exact this | exact zero_size
theorem same_self {w : World} {d : DepT} {cs cs' : List Value} (h : DepC w d cs) (h' : DepC w d cs') (hs : d.size ≤ 4194304) : Calls Tryd.prog 10 #[.agg cs.toArray, .agg cs'.toArray] w (Ret fun v w' => v = .bool true ∧ Below w.heap.size w w') := by
 have h0 := same_any d d w cs cs' h h' hs hs
 rw [(sameB_eq d d).2 rfl] at h0
 exact h0
set_option maxHeartbeats 400000 in
set_option maxRecDepth 100000 in
theorem reads_step (s : List UInt8) (w : World) (hl : s.length ≤ 1048576) (k op er : Int) (nm ev : List UInt8) (args : List DepT) (hpf : parseF s = (.mk k nm op ev args, er)) (hz : (DepT.mk k nm op ev args).size ≤ 4194304) :
  Calls Tryd.prog 4 #[(S s)] w (Ret fun v w' => v = .bool true ∧ Below w.heap.size w w') := by
 refine calls_W Tryd.func4 rfl Tryd.ntmps4 ?_
 refine W_seq ?_
 refine W_reg ?_
 refine WO_pure (v := (.bool false)) rfl rfl ?_
 refine WO_nil ?_
 refine W_seq ?_
 refine W_reg ?_
 refine WO_call rfl (by exact en_7) (awake_any _) ?_
 rintro _ wa ⟨rfl, ba⟩
 have z_wa := ba.size
 refine WO_pure (v := (.bool true)) rfl rfl ?_
 refine WO_nil ?_
 refine W_seq ?_
 refine W_reg ?_
 refine WO_pure (v := (S s)) rfl rfl ?_
 refine WO_call rfl (by exact en_8) (parse_any s _ hl) ?_
 rintro _ wp1 ⟨hp1, bp1⟩
 rw [hpf] at hp1
 obtain ⟨sv1, css1, rfl, rx1, ax1⟩ := parseIs_mk hp1
 have z_wp1 := bp1.size
 refine WO_pure rfl rfl ?_
 refine WO_pure (v := (.agg #[(.int .i64 k), (S nm), (.int .i64 op), (S ev), sv1])) rfl rfl ?_
 refine WO_pure (v := (.int .i64 er)) rfl rfl ?_
 refine WO_alloc (v := (.agg #[(.int .i64 0), (S []), (.int .i64 0), (S []), (.slice none 0 0)])) rfl (fun _ => by kernel_rfl) (fun w1 n1 => ?_)
 have e1 : w1.heap[wp1.heap.size]? = some (.cells #[(.int .i64 0), (S []), (.int .i64 0), (S []), (.slice none 0 0)] 25 (0, 0)) := n1.here
 have z1 := n1.size
 have p2 := e1
 refine WO_storerow (b := wp1.heap.size) (o := 0) (c' := #[(.int .i64 k), (S nm), (.int .i64 op), (S ev), sv1]) rfl rfl rfl (fun _ => by kernel_rfl) (by rw [Array.all_eq_true_iff_forall_mem]; intro v hv; simp only [List.mem_toArray, List.mem_cons, List.not_mem_nil, or_false] at hv; rcases hv with hv | hv | hv | hv | hv <;> (rw [hv]; first | rfl | exact oneCell_is (rx1.ext n1.ext))) p2 (by simp) (fun w2 u2 => ?_)
 have e2 : w2.heap[wp1.heap.size]? = some (.cells #[(.int .i64 k), (S nm), (.int .i64 op), (S ev), sv1] 25 (0, 0)) := u2.here
 have z2 := u2.size
 refine WO_pure (v := (.int .i64 er)) rfl rfl ?_
 refine WO_nil ?_
 refine W_seq ?_
 refine W_reg ?_
 refine WO_pure (v := (S s)) rfl rfl ?_
 refine WO_call rfl (by exact en_9) (refParse_any s _ hl) ?_
 rintro _ wp2 ⟨hp2, bp2⟩
 rw [hpf] at hp2
 obtain ⟨sv2, css2, rfl, rx2, ax2⟩ := parseIs_mk hp2
 have z_wp2 := bp2.size
 refine WO_pure rfl rfl ?_
 refine WO_pure (v := (.agg #[(.int .i64 k), (S nm), (.int .i64 op), (S ev), sv2])) rfl rfl ?_
 refine WO_pure (v := (.int .i64 er)) rfl rfl ?_
 refine WO_alloc (v := (.agg #[(.int .i64 0), (S []), (.int .i64 0), (S []), (.slice none 0 0)])) rfl (fun _ => by kernel_rfl) (fun w3 n3 => ?_)
 have e3 : w3.heap[wp2.heap.size]? = some (.cells #[(.int .i64 0), (S []), (.int .i64 0), (S []), (.slice none 0 0)] 25 (0, 0)) := n3.here
 have z3 := n3.size
 have p4 := e3
 refine WO_storerow (b := wp2.heap.size) (o := 0) (c' := #[(.int .i64 k), (S nm), (.int .i64 op), (S ev), sv2]) rfl rfl rfl (fun _ => by kernel_rfl) (by rw [Array.all_eq_true_iff_forall_mem]; intro v hv; simp only [List.mem_toArray, List.mem_cons, List.not_mem_nil, or_false] at hv; rcases hv with hv | hv | hv | hv | hv <;> (rw [hv]; first | rfl | exact oneCell_is (rx2.ext n3.ext))) p4 (by simp) (fun w4 u4 => ?_)
 have e4 : w4.heap[wp2.heap.size]? = some (.cells #[(.int .i64 k), (S nm), (.int .i64 op), (S ev), sv2] 25 (0, 0)) := u4.here
 have z4 := u4.size
 refine WO_pure (v := (.int .i64 er)) rfl rfl ?_
 refine WO_nil ?_
 refine W_seq ?_
 refine W_reg ?_
 refine WO_loadrow (b := wp1.heap.size) (o := 0) (m := 5) (c := #[(.int .i64 k), (S nm), (.int .i64 op), (S ev), sv1]) rfl rfl Tryd.underlying25 rfl (fun _ => by kernel_rfl) (u4.keep (n3.keep (below_keep bp2 e2)) (by first | assumption | omega | (simp; omega))) (by simp) ?_
 refine WO_eq 20 (v' := (.agg #[(.int .i64 k), (S nm), (.int .i64 op), (S ev), sv1])) rfl rfl ?_
 refine WO_loadrow (b := wp2.heap.size) (o := 0) (m := 5) (c := #[(.int .i64 k), (S nm), (.int .i64 op), (S ev), sv2]) rfl rfl Tryd.underlying25 rfl (fun _ => by kernel_rfl) e4 (by simp) ?_
 refine WO_eq 21 (v' := (.agg #[(.int .i64 k), (S nm), (.int .i64 op), (S ev), sv2])) rfl rfl ?_
 refine WO_call rfl (by exact en_10) (same_self (DepC.ext (u4.below (n3.below (below_ext (u2.below (n1.below (Below.refl wp1.heap.size wp1) (Below.refl wp1.heap.size wp1).size) (by omega)) bp2) (below_ext (u2.below (n1.below (Below.refl wp1.heap.size wp1) (Below.refl wp1.heap.size wp1).size) (by omega)) bp2).size) (by omega)) _ _ (depC_mk rx1 ax1)) (DepC.ext (u4.below (n3.below (Below.refl wp2.heap.size wp2) (Below.refl wp2.heap.size wp2).size) (by omega)) _ _ (depC_mk rx2 ax2)) hz) ?_
 rintro _ ws ⟨rfl, bs⟩
 have z_ws := bs.size
 refine WO_pure (v := (.bool true)) rfl rfl ?_
 refine WO_nil ?_
 refine W_cut (fun σ' w' => Below ws.heap.size ws w' ∧ σ' 2 = (.bool ((nameB s) == (nameB s)))) ?_ ?_
 ·refine W_reg ?_
  refine WO_pure (v := (.bool true)) rfl rfl ?_
  refine WO_pure (v := (.bool true)) rfl rfl ?_
  refine WO_pure (v := (.bool true)) rfl rfl ?_
  refine WO_pure (v := (.bool true)) rfl rfl ?_
  refine WO_pure (v := (.bool true)) rfl rfl ?_
  refine WO_pure (v := (.int .i64 er)) rfl rfl ?_
  refine WO_pure (v := (.int .i64 er)) rfl rfl ?_
  refine WO_pure (v := .bool true) rfl (by show some (Value.bool (decide (er = er))) = some (Value.bool true); simp) ?_
  refine WO_pure (v := (.bool true)) rfl rfl ?_
  refine WO_pure (v := (.bool true)) rfl rfl ?_
  refine WO_pure (v := (S s)) rfl rfl ?_
  refine WO_call rfl (by exact en_11) (name_any s _ (by omega)) ?_
  rintro _ wn ⟨rfl, bn⟩
  have z_wn := bn.size
  refine WO_pure (v := (S s)) rfl rfl ?_
  refine WO_call rfl (by exact en_12) (refName_any s _ (by omega)) ?_
  rintro _ _ ⟨rfl, rfl⟩
  refine WO_beql (a := nameB s) (b := nameB s) rfl rfl rfl Tryd.underlying4 ?_
  refine WO_pure (v := (.bool ((nameB s) == (nameB s)))) rfl rfl ?_
  refine WO_pure (v := (.bool ((nameB s) == (nameB s)))) rfl rfl ?_
  refine WO_nil ?_
  exact ⟨(below_ext (Below.refl ws.heap.size ws) bn), rfl⟩
 ·rintro σ1 wc1 ⟨hc1, h1_2⟩
  have z_wc1 := hc1.size
  refine W_anchor (d := 2) h1_2 (?_)
  refine W_ret ?_
  refine body_ret1 rfl (v0 := (.bool ((nameB s) == (nameB s)))) rfl ?_
  have hbel := (below_ext (below_ext (u4.below (n3.below (below_ext (u2.below (n1.below (below_ext (below_ext (Below.refl w.heap.size w) ba) bp1) (below_ext (below_ext (Below.refl w.heap.size w) ba) bp1).size) (by omega)) bp2) (below_ext (u2.below (n1.below (below_ext (below_ext (Below.refl w.heap.size w) ba) bp1) (below_ext (below_ext (Below.refl w.heap.size w) ba) bp1).size) (by omega)) bp2).size) (by omega)) bs) hc1)
  exact ⟨by simp, hbel⟩
theorem depReads_any (s : List UInt8) (w : World) (hl : s.length ≤ 1048576) : Calls Tryd.prog 4 #[S s] w (Ret fun v w' => v = .bool true ∧ Below w.heap.size w w') := by
 rcases hpf : parseF s with ⟨⟨k, nm, op, ev, args⟩, er⟩
 exact reads_step s w hl k op er nm ev args hpf (by have := parse_size hl; rw [hpf] at this; exact this)
end Go.Proofs.YtaegacblpbbndaaDoor
end
