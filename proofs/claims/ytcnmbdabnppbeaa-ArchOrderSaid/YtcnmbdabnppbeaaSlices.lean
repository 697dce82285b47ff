/- Slices that are read: a slice's value and the cells of its elements. No condition. -/
import Derived.Test.YtcnmbdabnppbeaaFloat
namespace Go.Proofs.Ytcnmbdabnppbeaa
open Go Go.RowKit

/-- The slice v has n elements of sz cells each, which read as xs. -/
def RowIs (w : World) (v : Value) (n sz : Nat) (xs : List Value) : Prop :=
  xs.length = n * sz ∧ ((n = 0 ∧ ∃ a c, v = .slice a 0 c) ∨ ∃ b o c, v = .slice (some ⟨b, o, none⟩) n c ∧ ∀ j u, xs[j]? = some u → w.cell? ⟨b, o + j, none⟩ = some u)

theorem cell_lt {w : World} {a : Addr} {v : Value} (h : w.cell? a = some v) : a.block < w.heap.size := World.block_lt_of_cell? w a h
theorem RowIs.ext {w w' : World} {v : Value} {n sz : Nat} {xs : List Value} (h : RowIs w v n sz xs) (hb : Below w.heap.size w w') : RowIs w' v n sz xs := by
  obtain ⟨h1, h2⟩ := h
  refine ⟨h1, ?_⟩
  rcases h2 with h2 | ⟨b, o, c, hv, hc⟩
  · exact .inl h2
  · exact .inr ⟨b, o, c, hv, fun j u hu => by rw [hb.cell (p := ⟨b, o + j, none⟩) (cell_lt (hc j u hu))]; exact hc j u hu⟩
theorem RowIs.drew {w w' : World} {v : Value} {n sz : Nat} {xs : List Value} (h : RowIs w v n sz xs) (hd : Drew w w') : RowIs w' v n sz xs := by
  obtain ⟨k, rfl⟩ := hd
  obtain ⟨h1, h2⟩ := h
  refine ⟨h1, ?_⟩
  rcases h2 with h2 | ⟨b, o, c, hv, hc⟩
  · exact .inl h2
  · exact .inr ⟨b, o, c, hv, fun j u hu => hc j u hu⟩
theorem RowIs.owned {w : World} {base : Nat} {e : TypeId} {v : Value} {n sz : Nat} {xs : List Value} (h : w.ownsRow base e sz v n xs) : RowIs w v n sz xs := by
  refine ⟨h.1, ?_⟩
  rcases h.2 with ⟨rfl, rfl⟩ | ⟨g, cap, cur, rfl, _, hg, _, _, _, ht⟩
  · exact .inl ⟨rfl, _, _, rfl⟩
  · refine .inr ⟨g, 0, cap, rfl, fun j u hu => ?_⟩
    have := h.cells (g := g) rfl j u hu
    have hadd : (⟨g, 0, none⟩ : Addr).add j = ⟨g, 0 + j, none⟩ := by unfold Addr.add; split <;> simp_all
    rw [hadd] at this; exact this

section
variable {P : Program} {n : Nat} {Q : Exit → (Nat → Value) → World → Prop} {σ : Nat → Value} {w : World}
variable {ops : Array Oper} {rest : List Oper} {dst : Option Tmp} {ty : TypeId} {ps : String} {af : Array Edge} {g : Option (Nat × Bool)}

theorem R_lenrow {t e : TypeId} {x : Operand} {v : Value} {w0 : World} {m sz : Nat} {xs : List Value} (hx : ev n σ x = v) (hr : RowIs w0 v m sz xs) (ht : P.underlying t = some (.slice e)) :
    (execOp (ev n σ) ⟨dst, .call { callee := .builtin .len, args := #[x], argTypes := #[t] }, ty, ps, af, g⟩).run P w = .ok (.value (.int .i64 (m : Int))) w := by
  rcases hr.2 with ⟨rfl, a, c, rfl⟩ | ⟨b, o, c, rfl, _⟩ <;>
    simp [execOp, resolve, invoke, builtin, Builtin.len_, hx, run_underlying ht, go_sem, goInt]
theorem WO_lenrow {t e : TypeId} {x : Operand} {v : Value} {w0 : World} {m sz : Nat} {xs : List Value} (hg : gOk ops n σ g = true) (hx : ev n σ x = v) (hr : RowIs w0 v m sz xs) (ht : P.underlying t = some (.slice e))
    (next : WO P n ops rest Q (updo σ dst (.int .i64 (m : Int))) w) : WO P n ops (⟨dst, .call { callee := .builtin .len, args := #[x], argTypes := #[t] }, ty, ps, af, g⟩ :: rest) Q σ w :=
  WO_val hg (R_lenrow hx hr ht) next

theorem WO_idx {t e : TypeId} {x y : Operand} {v : Value} {m sz : Nat} {xs : List Value} {k : IntKind} {a : Int} {i : Nat} (hg : gOk ops n σ g = true) (hx : ev n σ x = v) (hy : ev n σ y = .int k a)
    (hr : RowIs w v m sz xs) (ht : P.underlying t = some (.slice e)) (hs : ∀ w, (sizeOf e).run P w = .ok sz w) (ha : a = (i : Int)) (hi : i < m)
    (next : ∀ b o, (∀ j u, j < sz → xs[i * sz + j]? = some u → w.cell? ⟨b, o + j, none⟩ = some u) → WO P n ops rest Q (updo σ dst (.pointer (some ⟨b, o, none⟩))) w) :
    WO P n ops (⟨dst, .indexAddr t x y, ty, ps, af, g⟩ :: rest) Q σ w := by
  subst ha
  rcases hr.2 with ⟨rfl, _⟩ | ⟨b, o, c, rfl, hc⟩
  · omega
  · have hadd : (⟨b, o, none⟩ : Addr).add (i * sz) = ⟨b, o + i * sz, none⟩ := by unfold Addr.add; split <;> simp_all
    refine WO_val hg (v := .pointer (some ⟨b, o + i * sz, none⟩)) ?_ (next b (o + i * sz) fun j u hj hu => by rw [Nat.add_assoc]; exact hc _ u hu)
    have h1 : (0 : Int) ≤ (i : Int) ∧ (i : Int) < (m : Int) := by omega
    simp [execOp, Instr.indexAt, asIntOf, hx, hy, run_underlying ht, hs, h1, hi, hadd, go_sem]
theorem getElem?_map_list {α : Type} (f : α → Value) (l : List α) (i : Nat) (a : α) (h : l[i]? = some a) : (l.map f)[i * 1 + 0]? = some (f a) := by simp [h]
/-- Some cells read as one aggregate. -/
theorem WO_loadagg {t : TypeId} {d : TypeDesc} {x : Operand} {b o : Nat} {vs : List Value} (hg : gOk ops n σ g = true) (hx : ev n σ x = .pointer (some ⟨b, o, none⟩)) (ht : P.underlying t = some d) (hd : plainD d = false)
    (hs : ∀ w, (sizeOf t).run P w = .ok vs.length w) (hc : ∀ j u, vs[j]? = some u → w.cell? ⟨b, o + j, none⟩ = some u)
    (next : WO P n ops rest Q (updo σ dst (.agg vs.toArray)) w) : WO P n ops (⟨dst, .load t x, ty, ps, af, g⟩ :: rest) Q σ w := by
  refine WO_val hg ?_ next
  have ha : (isAgg t).run P w = .ok true w := by cases d <;> simp_all [isAgg, run_underlying ht, plainD]
  have hr := run_loadCells_list (P := P) w ⟨b, o, none⟩ vs (fun j v hj => by
    have hadd : (⟨b, o, none⟩ : Addr).add j = ⟨b, o + j, none⟩ := by unfold Addr.add; split <;> simp_all
    rw [hadd]; exact hc j v hj)
  simp only [loadCells] at hr
  simp [execOp, Instr.loadAt, Instr.sureAddr, hx, loadVar, loadCells, ha, hs, hr, go_sem]

/-- One element appended to a row of the call's own. -/
theorem WO_append1 {t e : TypeId} {i : TypeInfo} {z : Value} {x y : Operand} {v : Value} {base m sz bytes : Nat} {xs : List Value} {b o k c : Nat} {news : List Value}
    (hg : gOk ops n σ g = true) (hx : ev n σ x = v) (hy : ev n σ y = .slice (some ⟨b, o, none⟩) k c) (ht : P.underlying t = some (.slice e)) (hi : P.info? e = some i) (hz : i.zero = some z)
    (hsize : i.size = sz) (hby : i.bytes = bytes) (hzs : z.cells.size = sz) (hsz : 0 < sz) (hown : w.ownsRow base e sz v m xs)
    (hl : news.length = k * sz) (hnews : ∀ j u, news[j]? = some u → w.cell? ⟨b, o + j, none⟩ = some u) (h1 : ∀ u ∈ news, u.oneCell' = true)
    (h63 : m + k ≤ 9223372036854775807) (hbytes : (m + k) * bytes ≤ 140737488355328) (hbase : base ≤ w.heap.size)
    (next : ∀ v' w', w'.ownsRow base e sz v' (m + k) (xs ++ news) → w.grownBy w' v.ownBlock → (v' = .slice none 0 0 ↔ v = .slice none 0 0 ∧ k = 0) → WO P n ops rest Q (updo σ dst v') w') :
    WO P n ops (⟨dst, .call { callee := .builtin .append, args := #[x, y], argTypes := #[t, t] }, ty, ps, af, g⟩ :: rest) Q σ w := by
  have hadd : ∀ j, (⟨b, o, none⟩ : Addr).add j = ⟨b, o + j, none⟩ := fun j => by unfold Addr.add; split <;> simp_all
  obtain ⟨v', w', hr, h2, h3, h4⟩ := run_append_own (P := P) w base t ty e i z sz bytes ht hi hz hsize hby hzs hsz v m xs hown ⟨b, o, none⟩ k c news hl (fun j u hu => by rw [hadd]; exact hnews j u hu) h1 (by unfold maxLen; omega) hbytes hbase
  refine WO_val hg ?_ (next v' w' h2 h3 h4)
  simp only [execOp, resolve, invoke, builtin, Sem.run_bind, Sem.run_pure, Result.andThen_ok, List.map_toArray, List.map_cons, List.map_nil, hx, hy, hr]
end
end Go.Proofs.Ytcnmbdabnppbeaa
