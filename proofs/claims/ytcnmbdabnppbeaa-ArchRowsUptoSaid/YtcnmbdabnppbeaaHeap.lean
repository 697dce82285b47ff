/- Rules of the walk for operations on memory: new blocks, one block written, iterators over strings, maps. No condition. -/
import Derived.Test.YtcnmbdabnppbeaaBase
import Derived.Lib.OthersKept
namespace Go.Proofs.Ytcnmbdabnppbeaa
open Go Go.RowKit

/-- w' is w and one new block. -/
def New (w w' : World) (o : Obj) : Prop := w' = w.alloc o
/-- w' is w but for block k, which holds o. -/
structure Upd (w w' : World) (k : Nat) (o : Obj) : Prop where
  os : w'.os = w.os
  tape : w'.tape = w.tape
  output : w'.output = w.output
  size : w'.heap.size = w.heap.size
  here : w'.heap[k]? = some o
  block : ∀ j, j ≠ k → w'.heap[j]? = w.heap[j]?

theorem heap_lt {w : World} {k : Nat} {o : Obj} (h : w.heap[k]? = some o) : k < w.heap.size := (Array.getElem?_eq_some_iff.1 h).1

section
variable {w w' w0 : World} {o x : Obj} {k j B : Nat}
theorem New.size (h : New w w' o) : w'.heap.size = w.heap.size + 1 := by unfold New at h; subst h; simp
theorem New.here (h : New w w' o) : w'.heap[w.heap.size]? = some o := by unfold New at h; subst h; exact heap_alloc_new w o
theorem New.keep (h : New w w' o) (hk : w.heap[k]? = some x) : w'.heap[k]? = some x := by
  unfold New at h; subst h; exact (heap_alloc_old w o (heap_lt hk)).trans hk
theorem New.below (h : New w w' o) (hb : Below B w0 w) (hB : B ≤ w.heap.size) : Below B w0 w' := by
  unfold New at h; subst h; exact hb.alloc hB o
theorem New.ext (h : New w w' o) : Below w.heap.size w w' := h.below (Below.refl _ _) (Nat.le_refl _)
theorem New.owns {base : Nat} {e : TypeId} {size : Nat} {v : Value} {n : Nat} {xs : List Value} (h : New w w' o) (hw : w.ownsRow base e size v n xs) : w'.ownsRow base e size v n xs := by
  unfold New at h; subst h; exact hw.alloc o

theorem Upd.keep (h : Upd w w' k o) (hj : w.heap[j]? = some x) (hne : j ≠ k) : w'.heap[j]? = some x := by rw [h.block j hne]; exact hj
theorem Upd.below (h : Upd w w' k o) (hb : Below B w0 w) (hB : B ≤ k) : Below B w0 w' :=
  hb.trans ⟨h.os, h.tape, h.output, by rw [h.size]; exact Nat.le_refl _, fun i hi => h.block i (by omega)⟩
theorem Upd.grown (h : Upd w w' k o) : w.grownBy w' (some k) :=
  ⟨h.os, h.tape, h.output, by rw [h.size]; exact Nat.le_refl _, fun i _ hne => h.block i (fun e => hne (by rw [e]))⟩
theorem Upd.owns {base : Nat} {e : TypeId} {size : Nat} {v : Value} {n : Nat} {xs : List Value} (h : Upd w w' k o) (hw : w.ownsRow base e size v n xs) (hne : v.ownBlock ≠ some k) : w'.ownsRow base e size v n xs :=
  hw.kept h.grown (.inr hne)

theorem below_keep (h : Below w.heap.size w w') (hk : w.heap[k]? = some x) : w'.heap[k]? = some x := by rw [h.block k (heap_lt hk)]; exact hk
theorem below_keep' (h : Below B w w') (hk : w.heap[k]? = some x) (hB : k < B) : w'.heap[k]? = some x := by rw [h.block k hB]; exact hk
theorem below_trans (h : Below B w0 w) (h' : Below w.heap.size w w') (hB : B ≤ w.heap.size) : Below B w0 w' := h.trans (h'.mono hB)
theorem below_ext (h : Below w0.heap.size w0 w) (h' : Below w.heap.size w w') : Below w0.heap.size w0 w' := h.trans (h'.mono h.size)
theorem below_owns {base : Nat} {e : TypeId} {size : Nat} {v : Value} {n : Nat} {xs : List Value} (h : Below w.heap.size w w') (hw : w.ownsRow base e size v n xs) : w'.ownsRow base e size v n xs :=
  hw.kept (row := none) ⟨h.os, h.tape, h.output, h.size, fun k hk _ => h.block k hk⟩ (by cases hv : v.ownBlock <;> simp)
end

theorem drew_keep {w w' : World} {k : Nat} {x : Obj} (h : Drew w w') (hk : w.heap[k]? = some x) : w'.heap[k]? = some x := by obtain ⟨m, rfl⟩ := h; exact hk
theorem Drew.ext {w w' : World} (h : Drew w w') : Below w.heap.size w w' := by obtain ⟨m, rfl⟩ := h; exact ⟨rfl, rfl, rfl, Nat.le_refl _, fun _ _ => rfl⟩
theorem Drew.below {w0 w w' : World} {B : Nat} (h : Drew w w') (hb : Below B w0 w) : Below B w0 w' := by obtain ⟨m, rfl⟩ := h; exact ⟨hb.os, hb.tape, hb.output, hb.size, hb.block⟩

/-! ### Strings gone through by runes -/
theorem decode_ascii' {l : List UInt8} {p : Nat} (h : p < l.length) (ha : (byteAt l p).toNat < 128) : Utf8.decode ⟨l.toArray⟩ p = ((byteAt l p).toNat, 1) := by
  have hs : p < (⟨l.toArray⟩ : ByteArray).size := by rw [S_size]; exact h
  have hb : ((⟨l.toArray⟩ : ByteArray)[p]'hs) = byteAt l p := by rw [byteAt_eq h]; rfl
  have := decode_ascii ⟨l.toArray⟩ p hs (by rw [hb]; exact ha)
  rw [this, hb]
theorem decode_high {l : List UInt8} {p : Nat} (h : p < l.length) (ha : 128 ≤ (byteAt l p).toNat) : 128 ≤ (Utf8.decode ⟨l.toArray⟩ p).1 ∧ (Utf8.decode ⟨l.toArray⟩ p).1 ≤ 1114111 ∧ 1 ≤ (Utf8.decode ⟨l.toArray⟩ p).2 := by
  have hg : ((⟨l.toArray⟩ : ByteArray).get! (p + 0)).toNat = (byteAt l p).toNat := by
    simp only [ByteArray.get!, byteAt, Nat.add_zero]
    rw [List.getD_eq_getElem?_getD]
    simp [show (default : UInt8) = 0 from rfl]
  have hlt := byteAt_lt l p
  unfold Utf8.decode
  simp only [hg]
  rw [if_neg (by omega)]
  split
  · split
    · refine ⟨by assumption, ?_, by simp⟩
      simp only
      omega
    · exact ⟨by simp [Utf8.runeError], by simp [Utf8.runeError], by simp⟩
  · split
    · split
      · rename_i h2
        simp only [Bool.and_eq_true, decide_eq_true_eq, ge_iff_le] at h2
        refine ⟨?_, ?_, by simp⟩
        · exact Nat.le_trans (by decide) h2.1
        · simp only
          omega
      · exact ⟨by simp [Utf8.runeError], by simp [Utf8.runeError], by simp⟩
    · split
      · split
        · rename_i h2
          simp only [Bool.and_eq_true, decide_eq_true_eq, ge_iff_le] at h2
          refine ⟨Nat.le_trans (by decide) h2.1, ?_, by simp⟩
          have hv := h2.2
          simp only [Utf8.valid, Bool.or_eq_true, Bool.and_eq_true, decide_eq_true_eq] at hv
          simp only
          omega
        · exact ⟨by simp [Utf8.runeError], by simp [Utf8.runeError], by simp⟩
      · exact ⟨by simp [Utf8.runeError], by simp [Utf8.runeError], by simp⟩

section
variable {P : Program} {n : Nat} {Q : Exit → (Nat → Value) → World → Prop} {σ : Nat → Value} {w : World}
variable {ops : Array Oper} {rest : List Oper} {dst : Option Tmp} {ty : TypeId} {ps : String} {af : Array Edge} {g : Option (Nat × Bool)}

theorem WO_srange {x : Operand} {t : TypeId} {l : List UInt8} (hg : gOk ops n σ g = true) (hx : ev n σ x = S l) (ht : P.underlying t = some .string)
    (next : ∀ w', New w w' (.stringIter ⟨l.toArray⟩ 0) → WO P n ops rest Q (updo σ dst (.pointer (some ⟨w.heap.size, 0, none⟩))) w') :
    WO P n ops (⟨dst, .range t x, ty, ps, af, g⟩ :: rest) Q σ w := by
  refine WO_val hg ?_ (next _ rfl)
  simp [execOp, Instr.range, hx, S, run_underlying ht, go_sem]

theorem WO_snext {x : Operand} {l : List UInt8} {k p : Nat} (hg : gOk ops n σ g = true) (hx : ev n σ x = .pointer (some ⟨k, 0, none⟩)) (hk : w.heap[k]? = some (.stringIter ⟨l.toArray⟩ p))
    (more : p < l.length → ∀ w', Upd w w' k (.stringIter ⟨l.toArray⟩ (p + (Utf8.decode ⟨l.toArray⟩ p).2)) →
      WO P n ops rest Q (updo σ dst (.tuple #[.bool true, .int .i64 (p : Int), .int .i32 ((Utf8.decode ⟨l.toArray⟩ p).1 : Int)])) w')
    (over : ¬ p < l.length → WO P n ops rest Q (updo σ dst (.tuple #[.bool false])) w) :
    WO P n ops (⟨dst, .next x true, ty, ps, af, g⟩ :: rest) Q σ w := by
  by_cases hp : p < l.length
  · have hp' : p < (⟨l.toArray⟩ : ByteArray).size := by rw [S_size]; exact hp
    have hr := Lib.run_next_any_at (P := P) w k ⟨l.toArray⟩ p ty hk hp'
    refine WO_val hg (v := .tuple #[.bool true, .int .i64 (p : Int), .int .i32 ((Utf8.decode ⟨l.toArray⟩ p).1 : Int)]) (w' := w.iterAt k ⟨l.toArray⟩ (p + (Utf8.decode ⟨l.toArray⟩ p).2)) ?_ (more hp _ ?_)
    · simp [execOp, hx, hr, go_sem]
    · exact ⟨rfl, rfl, rfl, Lib.iterAt_size w k _ _, Lib.iterAt_heap w k _ p _ hk, fun j hj => Lib.iterAt_other w k j _ _ hj⟩
  · have hp' : ¬ p < (⟨l.toArray⟩ : ByteArray).size := by rw [S_size]; exact hp
    have hr := Lib.run_next_end_at (P := P) w k ⟨l.toArray⟩ p ty hk hp'
    exact WO_val hg (by simp [execOp, hx, hr, go_sem]) (over hp)
/-- A rune as a string. -/
theorem R_convs {x : Operand} {t t' : TypeId} {k : IntKind} {a : Int} (hx : ev n σ x = .int k a) (ht : P.underlying t = some (.int k)) (ht' : P.underlying t' = some .string) :
    (execOp (ev n σ) ⟨dst, .convert t t' x, ty, ps, af, g⟩).run P w = .ok (.value (.string (Utf8.encode a))) w := by
  simp [execOp, hx, convert, run_underlying ht, run_underlying ht', Conv.intToString, go_sem]
end
end Go.Proofs.Ytcnmbdabnppbeaa
