/- Slices that are read: a slice's value and the cells of its elements. No condition. -/
import Derived.Test.YtcnmbdabnppbeaaFloat
import Derived.Maps.AppendAt
namespace Go.Proofs.Ytcnmbdabnppbeaa
open Go Go.RowKit

/-- The slice v has n elements of sz cells each, which read as xs. -/
def RowIs (w : World) (v : Value) (n sz : Nat) (xs : List Value) : Prop :=
  xs.length = n * sz ∧ ((n = 0 ∧ ∃ a c, v = .slice a 0 c) ∨ ∃ b o c, v = .slice (some ⟨b, o, none⟩) n c ∧ ∀ j u, xs[j]? = some u → w.cell? ⟨b, o + j, none⟩ = some u)

theorem cell_lt {w : World} {a : Addr} {v : Value} (h : w.cell? a = some v) : a.block < w.heap.size := World.block_lt_of_cell? w a h
theorem RowIs.ext {w w' : World} {v : Value} {n sz : Nat} {xs : List Value} (h : RowIs w v n sz xs) (hb : Below w.heap.size w w') : RowIs w' v n sz xs := by
  obtain ⟨h1, h2⟩ := h
  refine ⟨h1, ?_⟩
  rcases h2 with h2 | ⟨b, o, c, hv, hc⟩
  · exact .inl h2
  · exact .inr ⟨b, o, c, hv, fun j u hu => by rw [hb.cell (p := ⟨b, o + j, none⟩) (cell_lt (hc j u hu))]; exact hc j u hu⟩
theorem RowIs.drew {w w' : World} {v : Value} {n sz : Nat} {xs : List Value} (h : RowIs w v n sz xs) (hd : Drew w w') : RowIs w' v n sz xs := by
  obtain ⟨k, rfl⟩ := hd
  obtain ⟨h1, h2⟩ := h
  refine ⟨h1, ?_⟩
  rcases h2 with h2 | ⟨b, o, c, hv, hc⟩
  · exact .inl h2
  · exact .inr ⟨b, o, c, hv, fun j u hu => hc j u hu⟩
theorem RowIs.owned {w : World} {base : Nat} {e : TypeId} {v : Value} {n sz : Nat} {xs : List Value} (h : w.ownsRow base e sz v n xs) : RowIs w v n sz xs := by
  refine ⟨h.1, ?_⟩
  rcases h.2 with ⟨rfl, rfl⟩ | ⟨g, cap, cur, rfl, _, hg, _, _, _, ht⟩
  · exact .inl ⟨rfl, _, _, rfl⟩
  · refine .inr ⟨g, 0, cap, rfl, fun j u hu => ?_⟩
    have := h.cells (g := g) rfl j u hu
    have hadd : (⟨g, 0, none⟩ : Addr).add j = ⟨g, 0 + j, none⟩ := by unfold Addr.add; split <;> simp_all
    rw [hadd] at this; exact this

section
variable {P : Program} {n : Nat} {Q : Exit → (Nat → Value) → World → Prop} {σ : Nat → Value} {w : World}
variable {ops : Array Oper} {rest : List Oper} {dst : Option Tmp} {ty : TypeId} {ps : String} {af : Array Edge} {g : Option (Nat × Bool)}

theorem R_lenrow {t e : TypeId} {x : Operand} {v : Value} {w0 : World} {m sz : Nat} {xs : List Value} (hx : ev n σ x = v) (hr : RowIs w0 v m sz xs) (ht : P.underlying t = some (.slice e)) :
    (execOp (ev n σ) ⟨dst, .call { callee := .builtin .len, args := #[x], argTypes := #[t] }, ty, ps, af, g⟩).run P w = .ok (.value (.int .i64 (m : Int))) w := by
  rcases hr.2 with ⟨rfl, a, c, rfl⟩ | ⟨b, o, c, rfl, _⟩ <;>
    simp [execOp, resolve, invoke, builtin, Builtin.len_, hx, run_underlying ht, go_sem, goInt]
theorem WO_lenrow {t e : TypeId} {x : Operand} {v : Value} {w0 : World} {m sz : Nat} {xs : List Value} (hg : gOk ops n σ g = true) (hx : ev n σ x = v) (hr : RowIs w0 v m sz xs) (ht : P.underlying t = some (.slice e))
    (next : WO P n ops rest Q (updo σ dst (.int .i64 (m : Int))) w) : WO P n ops (⟨dst, .call { callee := .builtin .len, args := #[x], argTypes := #[t] }, ty, ps, af, g⟩ :: rest) Q σ w :=
  WO_val hg (R_lenrow hx hr ht) next

theorem WO_idx {t e : TypeId} {x y : Operand} {v : Value} {m sz : Nat} {xs : List Value} {k : IntKind} {a : Int} {i : Nat} (hg : gOk ops n σ g = true) (hx : ev n σ x = v) (hy : ev n σ y = .int k a)
    (hr : RowIs w v m sz xs) (ht : P.underlying t = some (.slice e)) (hs : ∀ w, (sizeOf e).run P w = .ok sz w) (ha : a = (i : Int)) (hi : i < m)
    (next : ∀ b o, (∀ j u, j < sz → xs[i * sz + j]? = some u → w.cell? ⟨b, o + j, none⟩ = some u) → WO P n ops rest Q (updo σ dst (.pointer (some ⟨b, o, none⟩))) w) :
    WO P n ops (⟨dst, .indexAddr t x y, ty, ps, af, g⟩ :: rest) Q σ w := by
  subst ha
  rcases hr.2 with ⟨rfl, _⟩ | ⟨b, o, c, rfl, hc⟩
  · omega
  · have hadd : (⟨b, o, none⟩ : Addr).add (i * sz) = ⟨b, o + i * sz, none⟩ := by unfold Addr.add; split <;> simp_all
    refine WO_val hg (v := .pointer (some ⟨b, o + i * sz, none⟩)) ?_ (next b (o + i * sz) fun j u hj hu => by rw [Nat.add_assoc]; exact hc _ u hu)
    have h1 : (0 : Int) ≤ (i : Int) ∧ (i : Int) < (m : Int) := by omega
    simp [execOp, Instr.indexAt, asIntOf, hx, hy, run_underlying ht, hs, h1, hi, hadd, go_sem]
theorem getElem?_map_list {α : Type} (f : α → Value) (l : List α) (i : Nat) (a : α) (h : l[i]? = some a) : (l.map f)[i * 1 + 0]? = some (f a) := by simp [h]
/-- Some cells read as one aggregate. -/
theorem WO_loadagg {t : TypeId} {d : TypeDesc} {x : Operand} {b o : Nat} {vs : List Value} (hg : gOk ops n σ g = true) (hx : ev n σ x = .pointer (some ⟨b, o, none⟩)) (ht : P.underlying t = some d) (hd : plainD d = false)
    (hs : ∀ w, (sizeOf t).run P w = .ok vs.length w) (hc : ∀ j u, vs[j]? = some u → w.cell? ⟨b, o + j, none⟩ = some u)
    (next : WO P n ops rest Q (updo σ dst (.agg vs.toArray)) w) : WO P n ops (⟨dst, .load t x, ty, ps, af, g⟩ :: rest) Q σ w := by
  refine WO_val hg ?_ next
  have ha : (isAgg t).run P w = .ok true w := by cases d <;> simp_all [isAgg, run_underlying ht, plainD]
  have hr := run_loadCells_list (P := P) w ⟨b, o, none⟩ vs (fun j v hj => by
    have hadd : (⟨b, o, none⟩ : Addr).add j = ⟨b, o + j, none⟩ := by unfold Addr.add; split <;> simp_all
    rw [hadd]; exact hc j v hj)
  simp only [loadCells] at hr
  simp [execOp, Instr.loadAt, Instr.sureAddr, hx, loadVar, loadCells, ha, hs, hr, go_sem]

/-- A slice written out: a new row. -/
theorem WO_bslice {t e : TypeId} {k : Nat} {parts : Array (Nat × Operand)} {cs : Array Value} (hg : gOk ops n σ g = true)
    (h : ∀ w, (execOp (ev n σ) ⟨dst, .buildSlice t k parts, ty, ps, af, g⟩).run P w = .ok (.value (.slice (some ⟨w.heap.size, 0, none⟩) k k)) (w.alloc (.cells cs e)))
    (next : ∀ w', New w w' (.cells cs e) → WO P n ops rest Q (updo σ dst (.slice (some ⟨w.heap.size, 0, none⟩) k k)) w') :
    WO P n ops (⟨dst, .buildSlice t k parts, ty, ps, af, g⟩ :: rest) Q σ w := WO_val hg (h w) (next _ rfl)
theorem New.owned {w w' : World} {cs : Array Value} {e : TypeId} {base size k : Nat} (h : New w w' (.cells cs e)) (hb : base ≤ w.heap.size) (hm : k ≤ 9223372036854775807) (hs : cs.size = k * size) :
    w'.ownsRow base e size (.slice (some ⟨w.heap.size, 0, none⟩) k k) k cs.toList := by
  unfold New at h; subst h; exact World.ownsRow_lit w cs k hb (by unfold maxLen; omega) hs
/-- Some elements appended to a row of the call's own. -/
theorem WO_append1 {t e : TypeId} {x y : Operand} {v : Value} {base m sz bytes : Nat} {xs : List Value} {b k c : Nat} {cs : Array Value} {fr : Nat × Nat}
    (hg : gOk ops n σ g = true) (hx : ev n σ x = v) (hy : ev n σ y = .slice (some ⟨b, 0, none⟩) k c) (ht : P.underlying t = some (.slice e))
    (hi : (P.info? e).map (fun i => (i.zero.map fun z => z.cells.size, i.size, i.bytes)) = some (some sz, sz, bytes)) (hsz : 0 < sz) (hown : w.ownsRow base e sz v m xs)
    (hl : cs.size = k * sz) (hnews : w.heap[b]? = some (.cells cs e fr)) (h1 : ∀ u ∈ cs.toList, u.oneCell' = true)
    (h63 : m + k ≤ 9223372036854775807) (hbytes : (m + k) * bytes ≤ 140737488355328) (hbase : base ≤ w.heap.size)
    (next : ∀ v' w', w'.ownsRow base e sz v' (m + k) (xs ++ cs.toList) → w.grownBy w' v.ownBlock → (v'.ownBlock = v.ownBlock ∨ v'.ownBlock = some w.heap.size) → WO P n ops rest Q (updo σ dst v') w') :
    WO P n ops (⟨dst, .call { callee := .builtin .append, args := #[x, y], argTypes := #[t, t] }, ty, ps, af, g⟩ :: rest) Q σ w := by
  have hadd : ∀ j, (⟨b, 0, none⟩ : Addr).add j = ⟨b, 0 + j, none⟩ := fun j => by unfold Addr.add; split <;> simp_all
  obtain ⟨i, hi, z, hz, hzs, hsize, hby⟩ : ∃ i, P.info? e = some i ∧ ∃ z, i.zero = some z ∧ z.cells.size = sz ∧ i.size = sz ∧ i.bytes = bytes := by
    rw [Option.map_eq_some_iff] at hi
    obtain ⟨i, h, h'⟩ := hi
    simp only [Prod.mk.injEq, Option.map_eq_some_iff] at h'
    obtain ⟨⟨z, a, b⟩, c, d⟩ := h'
    exact ⟨i, h, z, a, b, c, d⟩
  obtain ⟨v', w', hr, h2, h3, _, h5⟩ := run_append_own_at (P := P) w base t ty e i z sz bytes ht hi hz hsize hby hzs hsz v m xs hown ⟨b, 0, none⟩ k c cs.toList (by simpa using hl)
    (fun j u hu => by rw [hadd, Nat.zero_add]; exact cell_of hnews (by simpa using hu)) h1 (by unfold maxLen; omega) hbytes hbase
  refine WO_val hg ?_ (next v' w' h2 h3 h5)
  simp only [execOp, resolve, invoke, builtin, Sem.run_bind, Sem.run_pure, Result.andThen_ok, List.map_toArray, List.map_cons, List.map_nil, hx, hy, hr]
end

/-! ### What keeps a fact -/
section
variable {w w' w0 : World} {base base' sz sz' m m' : Nat} {e e' : TypeId} {v v' : Value} {xs xs' : List Value}
theorem grown_keep {k : Nat} {x : Obj} {row : Option Nat} (g : w.grownBy w' row) (h : w.heap[k]? = some x) (hne : some k ≠ row) : w'.heap[k]? = some x := by rw [g.block k (heap_lt h) hne]; exact h
theorem own_ne_cell {b : Nat} {c : Array Value} {t : TypeId} {fr : Nat × Nat} (o : w.ownsRow base e sz v m xs) (h : w.heap[b]? = some (.cells c t fr)) (hne : t ≠ e) : v.ownBlock ≠ some b := by
  rcases o.2 with ⟨rfl, _⟩ | ⟨g, cap, cur, rfl, _, hg, _⟩
  · simp [Value.ownBlock]
  · intro hh
    simp only [Value.ownBlock, Option.some.injEq] at hh
    subst hh; rw [hg] at h; simp at h; exact hne h.2.1.symm
theorem cell_ne_own {b : Nat} {c : Array Value} {t : TypeId} {fr : Nat × Nat} (o : w.ownsRow base e sz v m xs) (h : w.heap[b]? = some (.cells c t fr)) (hne : t ≠ e) : some b ≠ v.ownBlock := (own_ne_cell o h hne).symm
theorem own_ne_own (o : w.ownsRow base e sz v m xs) (o' : w.ownsRow base' e' sz' v' m' xs') (hne : e ≠ e') : v.ownBlock = none ∨ v.ownBlock ≠ v'.ownBlock := by
  rcases o.2 with ⟨rfl, _⟩ | ⟨g, cap, cur, rfl, _, hg, _⟩
  · exact .inl rfl
  · right; intro hh
    exact own_ne_cell o' hg hne hh.symm
theorem grown_below {row : Option Nat} (g : w.grownBy w' row) (hb : Below w0.heap.size w0 w) (hr : ∀ k, row = some k → w0.heap.size ≤ k) : Below w0.heap.size w0 w' := hb.grown g hb.size hr
theorem own_block_ge (o : w.ownsRow base e sz v m xs) : ∀ k, v.ownBlock = some k → base ≤ k := fun k hk => (o.lt k hk).1
theorem oneC_owned (o : w.ownsRow base e sz v m xs) : oneC v = true := by
  rcases o.2 with ⟨rfl, _⟩ | ⟨g, cap, cur, rfl, _⟩ <;> rfl
theorem own_base (o : w.ownsRow base e sz v m xs) (h : base' ≤ base) : w.ownsRow base' e sz v m xs := by
  obtain ⟨h1, h2⟩ := o
  refine ⟨h1, ?_⟩
  rcases h2 with h2 | ⟨g, cap, cur, a, b, c⟩
  · exact .inl h2
  · exact .inr ⟨g, cap, cur, a, Nat.le_trans h b, c⟩
theorem upd_owns {b : Nat} {o' : Obj} (u : Upd w w' b o') (o : w.ownsRow base e sz v m xs) (hne : v.ownBlock ≠ some b) : w'.ownsRow base e sz v m xs := u.owns o hne
end
/-- The element at a place. -/
def nth {α : Type} [Inhabited α] (l : List α) (i : Nat) : α := (l[i]?).getD default
theorem nth_eq {α : Type} [Inhabited α] {l : List α} {i : Nat} (h : i < l.length) : l[i]? = some (nth l i) := by unfold nth; rw [List.getElem?_eq_getElem h]; rfl
section
variable {P : Program} {n : Nat} {Q : Exit → (Nat → Value) → World → Prop} {σ : Nat → Value} {w : World}
variable {ops : Array Oper} {rest : List Oper} {dst : Option Tmp} {ty : TypeId} {ps : String} {af : Array Edge} {g : Option (Nat × Bool)}
/-- The place of an element of one cell. -/
theorem WO_idx1 {α : Type} [Inhabited α] {f : α → Value} {l : List α} {t e : TypeId} {x y : Operand} {v : Value} {m i : Nat} {k : IntKind} {a : Int} (hg : gOk ops n σ g = true) (hx : ev n σ x = v) (hy : ev n σ y = .int k a)
    (hr : RowIs w v m 1 (l.map f)) (ht : P.underlying t = some (.slice e)) (hs : ∀ w, (sizeOf e).run P w = .ok 1 w) (ha : a = (i : Int)) (hi : i < m)
    (next : ∀ b o, w.cell? ⟨b, o, none⟩ = some (f (nth l i)) → WO P n ops rest Q (updo σ dst (.pointer (some ⟨b, o, none⟩))) w) :
    WO P n ops (⟨dst, .indexAddr t x y, ty, ps, af, g⟩ :: rest) Q σ w := by
  have hl : l.length = m := by have := hr.1; simpa using this
  refine WO_idx hg hx hy hr ht hs ha hi fun b o hc => next b o (hc 0 _ (by omega) (getElem?_map_list f l i _ (nth_eq (by omega))))
end
end Go.Proofs.Ytcnmbdabnppbeaa
