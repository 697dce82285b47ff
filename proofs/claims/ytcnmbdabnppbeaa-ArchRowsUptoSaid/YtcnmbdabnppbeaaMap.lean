/- Rules of the walk for maps keyed by strings or integers, the map told by the list of its entries. No condition. -/
import Derived.Test.YtcnmbdabnppbeaaHeap
namespace Go.Proofs.Ytcnmbdabnppbeaa
open Go Go.RowKit

/-- Block b is a map with these entries, in their order. -/
def MapIs (w : World) (b : Nat) (l : List (Value × Value)) : Prop := ∃ es clock, w.heap[b]? = some (.map es clock) ∧ es.toList.map (fun e => (e.key, e.val)) = l

theorem MapIs.lt {w : World} {b : Nat} {l : List (Value × Value)} (h : MapIs w b l) : b < w.heap.size := by obtain ⟨es, c, h, _⟩ := h; exact heap_lt h
theorem MapIs.new {w w' : World} {b : Nat} {l : List (Value × Value)} {o : Obj} (h : MapIs w b l) (n : New w w' o) : MapIs w' b l := by
  obtain ⟨es, c, h, e⟩ := h; exact ⟨es, c, n.keep h, e⟩
theorem MapIs.upd {w w' : World} {b k : Nat} {l : List (Value × Value)} {o : Obj} (h : MapIs w b l) (u : Upd w w' k o) (hne : b ≠ k) : MapIs w' b l := by
  obtain ⟨es, c, h, e⟩ := h; exact ⟨es, c, u.keep h hne, e⟩
theorem MapIs.below {w w' : World} {b : Nat} {l : List (Value × Value)} (h : MapIs w b l) (hb : Below w.heap.size w w') : MapIs w' b l := by
  obtain ⟨es, c, h, e⟩ := h; exact ⟨es, c, below_keep hb h, e⟩
theorem MapIs.below' {w w' : World} {B b : Nat} {l : List (Value × Value)} (h : MapIs w b l) (hb : Below B w w') (hB : b < B) : MapIs w' b l := by
  obtain ⟨es, c, h, e⟩ := h; exact ⟨es, c, below_keep' hb h hB, e⟩

structure Key (P : Program) (kt : TypeId) {κ : Type} [DecidableEq κ] (enc : κ → Value) : Prop where
  d : ∃ d, P.underlying kt = some d ∧ ∀ a b, Instr.sameNow d (enc a) (enc b) = some (decide (a = b))
  check : ∀ (e : Bool) (m : Nat) (v : κ) (w : World), (Instr.checkKey e (m + 1) kt (enc v)).run P w = .ok () w
  bits : ∀ v : κ, Instr.sameBits 10000 (enc v) (enc v) = true

theorem beq_bytes (a b : List UInt8) : ((⟨a.toArray⟩ : ByteArray) == ⟨b.toArray⟩) = decide (a = b) := by
  have : ((⟨a.toArray⟩ : ByteArray) == ⟨b.toArray⟩) = (a.toArray == b.toArray) := rfl
  rw [this, Bool.eq_iff_iff]; simp
theorem key_string {P : Program} {kt : TypeId} (h : P.underlying kt = some .string) : Key P kt S where
  d := ⟨_, h, fun a b => by
    simp only [S, Instr.sameNow, beq_bytes]⟩
  check e m v w := by simp [Instr.checkKey, S, run_underlying h]
  bits v := by simp [S, Instr.sameBits, beq_bytes]

abbrev I64 (n : Int) : Value := .int .i64 n
theorem key_int {P : Program} {kt : TypeId} (h : P.underlying kt = some (.int .i64)) : Key P kt I64 where
  d := ⟨_, h, fun a b => by
    simp only [I64, Instr.sameNow]
    simp only [if_true, Option.some.injEq]
    rw [Bool.eq_iff_iff]; simp⟩
  check e m v w := by simp [Instr.checkKey, run_underlying h]
  bits v := by simp [Instr.sameBits]

section
variable {κ α : Type} [DecidableEq κ]
/-- What an association list has at a key. -/
def alook (m : List (κ × α)) (k : κ) : Option α := (m.find? (fun p => decide (k = p.1))).map (·.2)
/-- The list with another value at a key: in its place, or behind all others. -/
def aput (m : List (κ × α)) (k : κ) (a : α) : List (κ × α) := if (alook m k).isSome then m.map (fun p => if k = p.1 then (p.1, a) else p) else m ++ [(k, a)]
def mrows (enc : κ → Value) (val : α → Value) (m : List (κ × α)) : List (Value × Value) := m.map fun p => (enc p.1, val p.2)

theorem findNow_rows {d : TypeDesc} {enc : κ → Value} {val : α → Value} (hd : ∀ a b, Instr.sameNow d (enc a) (enc b) = some (decide (a = b))) (k : κ) :
    ∀ (es : List MapEntry) (m : List (κ × α)) (i : Nat), es.map (fun e => (e.key, e.val)) = mrows enc val m →
      ∃ r, Instr.findNow d (enc k) es i = some r ∧ r.map (·.2) = (alook m k).map val ∧ ∀ j v, r = some (j, v) → i ≤ j ∧ (m[j - i]?).map (·.1) = some k ∧ ∀ q, q < j - i → (m[q]?).map (·.1) ≠ some k := by
  intro es
  induction es with
  | nil =>
    intro m i h
    cases m with
    | nil => exact ⟨none, rfl, rfl, by simp⟩
    | cons p m => simp [mrows] at h
  | cons e es ih =>
    intro m i h
    cases m with
    | nil => simp [mrows] at h
    | cons p m =>
      simp only [mrows, List.map_cons, List.cons.injEq, Prod.mk.injEq] at h
      obtain ⟨⟨hk, hv⟩, hr⟩ := h
      simp only [Instr.findNow, hk, hd]
      by_cases hkp : k = p.1
      · rw [decide_eq_true hkp]
        refine ⟨some (i, e.val), rfl, ?_, ?_⟩
        · simp [alook, hkp, hv]
        · intro j v hj; cases hj; simp [hkp]
      · rw [decide_eq_false hkp]
        obtain ⟨r, h1, h2, h3⟩ := ih m (i + 1) (by simpa [mrows] using hr)
        refine ⟨r, h1, ?_, ?_⟩
        · rw [h2]; simp [alook, List.find?_cons, hkp]
        · intro j v hj
          obtain ⟨a, b, c⟩ := h3 j v hj
          refine ⟨by omega, ?_, ?_⟩
          · rw [show j - i = (j - (i + 1)) + 1 by omega]; simpa using b
          · intro q hq
            cases q with
            | zero => simp; exact fun h => hkp h.symm
            | succ q => simpa using c q (by omega)

theorem run_findKey {P : Program} {kt : TypeId} {enc : κ → Value} {val : α → Value} (hK : Key P kt enc) (k : κ) (es : List MapEntry) (m : List (κ × α)) (h : es.map (fun e => (e.key, e.val)) = mrows enc val m) (w : World) :
    ∃ r, (Instr.findKey kt (enc k) es).run P w = .ok r w ∧ r.map (·.2) = (alook m k).map val ∧ ∀ j v, r = some (j, v) → (m[j]?).map (·.1) = some k ∧ ∀ q, q < j → (m[q]?).map (·.1) ≠ some k := by
  obtain ⟨d, hd, hs⟩ := hK.d
  obtain ⟨r, h1, h2, h3⟩ := findNow_rows hs k es m 0 h
  refine ⟨r, ?_, h2, fun j v hj => ?_⟩
  · simp [Instr.findKey, run_underlying hd, h1]
  · obtain ⟨_, b, c⟩ := h3 j v hj
    exact ⟨by simpa using b, fun q hq => c q (by simpa using hq)⟩

theorem run_lookup {P : Program} {t kt et : TypeId} {enc : κ → Value} {val : α → Value} {z : Value} (hK : Key P kt enc) (ht : P.underlying t = some (.map kt et)) (hz : ∀ w, (zeroValue et).run P w = .ok z w)
    (w : World) (b : Nat) (m : List (κ × α)) (k : κ) (hm : MapIs w b (mrows enc val m)) (ok : Bool) :
    (Instr.lookup t (.map (some b)) (enc k) ok).run P w = .ok (bif ok then .tuple #[((alook m k).map val).getD z, .bool (alook m k).isSome] else ((alook m k).map val).getD z) w := by
  obtain ⟨es, clock, hb, he⟩ := hm
  obtain ⟨r, h1, h2, _⟩ := run_findKey hK k es.toList m he w
  have hc := hK.check es.isEmpty 9999 k w
  simp only [Instr.lookup]
  simp [run_underlying ht, getObj, Sem.run, hb, hc, h1]
  cases r with
  | none =>
    cases hl : alook m k with
    | none => cases ok <;> simp [hz]
    | some a => rw [hl] at h2; simp at h2
  | some p =>
    cases hl : alook m k with
    | none => rw [hl] at h2; simp at h2
    | some a => rw [hl] at h2; simp at h2; cases ok <;> simp [h2]

theorem alook_none_iff (m : List (κ × α)) (k : κ) : alook m k = none ↔ ∀ p ∈ m, p.1 ≠ k := by
  unfold alook
  rw [Option.map_eq_none_iff, List.find?_eq_none]
  simp only [decide_eq_true_eq]
  exact ⟨fun h p hp e => h p hp e.symm, fun h p hp e => h p hp e.symm⟩

/-- Each key once. -/
def Once (m : List (κ × α)) : Prop := (m.map (·.1)).Nodup
theorem aput_keys (m : List (κ × α)) (k : κ) (a : α) : (aput m k a).map (·.1) = if (alook m k).isSome then m.map (·.1) else m.map (·.1) ++ [k] := by
  unfold aput
  split
  · rw [List.map_map]
    refine List.map_congr_left fun p _ => ?_
    simp only [Function.comp]; split <;> rfl
  · simp
theorem Once.put {m : List (κ × α)} (h : Once m) (k : κ) (a : α) : Once (aput m k a) := by
  unfold Once at *
  rw [aput_keys]
  split
  · exact h
  · rename_i hn
    have hn' : alook m k = none := by simpa using hn
    rw [alook_none_iff] at hn'
    rw [List.nodup_append]
    refine ⟨h, by simp, fun x hx y hy => ?_⟩
    simp only [List.mem_singleton] at hy; subst hy
    rw [List.mem_map] at hx
    obtain ⟨p, hp, rfl⟩ := hx
    exact hn' p hp
theorem alook_put_same (m : List (κ × α)) (k : κ) (a : α) : alook (aput m k a) k = some a := by
  unfold aput
  split
  · rename_i h
    unfold alook at h ⊢
    induction m with
    | nil => simp at h
    | cons p m ih =>
      by_cases hk : k = p.1
      · simp [hk]
      · simp only [List.map_cons, if_neg hk, List.find?_cons, decide_eq_false hk] at h ⊢
        exact ih h
  · rename_i h
    have h' : alook m k = none := by simpa using h
    have h2 := h'
    unfold alook at h' ⊢
    rw [List.find?_append]
    simp only [Option.map_eq_none_iff] at h'
    simp [h']
theorem alook_put_other (m : List (κ × α)) (k j : κ) (a : α) (hne : j ≠ k) : alook (aput m k a) j = alook m j := by
  unfold aput
  split
  · unfold alook
    induction m with
    | nil => rfl
    | cons p m ih =>
      simp only [List.map_cons, List.find?_cons]
      by_cases hk : k = p.1
      · rw [if_pos hk]
        have : ¬ j = p.1 := fun e => hne (e.trans hk.symm)
        rename_i hs
        simp only [decide_eq_false this]
        by_cases hm : (alook m k).isSome
        · exact ih hm
        · have hn : alook m k = none := by simpa using hm
          rw [alook_none_iff] at hn
          rw [List.map_congr_left (g := id) (fun q hq => by rw [if_neg (fun e => hn q hq e.symm)]; rfl), List.map_id]
      · rw [if_neg hk]
        by_cases hj : j = p.1
        · simp [hj]
        · simp only [decide_eq_false hj]
          rename_i hs
          refine ih ?_
          unfold alook at hs ⊢
          simpa [List.find?_cons, hk] using hs
  · unfold alook
    rw [List.find?_append]
    simp [hne]

theorem map_modify_key {m : List (κ × α)} {k : κ} {a : α} {j : Nat} (ho : Once m) (hj : (m[j]?).map (·.1) = some k) : m.map (fun p => if k = p.1 then (p.1, a) else p) = m.modify j (fun p => (p.1, a)) := by
  apply List.ext_getElem?
  intro i
  rw [List.getElem?_map, List.getElem?_modify]
  cases hi : m[i]? with
  | none => simp
  | some p =>
    simp only [Option.map_some, Option.map_eq_map]
    by_cases hij : j = i
    · subst hij
      rw [hi] at hj
      simp at hj
      simp [hj]
    · rw [if_neg hij]
      congr 1
      rw [if_neg]
      intro hk
      apply hij
      cases hjj : m[j]? with
      | none => rw [hjj] at hj; simp at hj
      | some q =>
        rw [hjj] at hj; simp at hj
        have h1 : (m.map (·.1))[j]? = some k := by rw [List.getElem?_map, hjj]; simp [hj]
        have h2 : (m.map (·.1))[i]? = some k := by rw [List.getElem?_map, hi]; simp [hk]
        have hlt : j < (m.map (·.1)).length := (List.getElem?_eq_some_iff.1 h1).1
        exact (List.getElem?_inj hlt ho).1 (h1.trans h2.symm)

theorem run_mapUpdate {P : Program} {t kt et : TypeId} {enc : κ → Value} {val : α → Value} (hK : Key P kt enc) (ht : P.underlying t = some (.map kt et))
    (w : World) (b : Nat) (m : List (κ × α)) (k : κ) (a : α) (ho : Once m) (hm : MapIs w b (mrows enc val m)) :
    ∃ w' o, (Instr.mapUpdate t (.map (some b)) (enc k) (val a)).run P w = .ok () w' ∧ Upd w w' b o ∧ MapIs w' b (mrows enc val (aput m k a)) := by
  obtain ⟨es, clock, hb, he⟩ := hm
  obtain ⟨r, h1, h2, h3⟩ := run_findKey hK k es.toList m he w
  have hc := hK.check false 9999 k w
  have hlt := heap_lt hb
  have hupd : ∀ o : Obj, Upd w { w with heap := w.heap.setIfInBounds b o } b o := fun o =>
    ⟨rfl, rfl, rfl, by simp, by simp [hlt], fun j hj => by simp [Array.getElem?_setIfInBounds, Ne.symm hj]⟩
  cases r with
  | none =>
    have hl : alook m k = none := by
      cases hl : alook m k with
      | none => rfl
      | some x => rw [hl] at h2; simp at h2
    refine ⟨_, .map (es.push { key := enc k, val := val a, born := clock }) (clock + 1), ?_, hupd _, ⟨_, _, (hupd _).here, ?_⟩⟩
    · simp [Instr.mapUpdate, run_underlying ht, getObj, setObj, Sem.run, hb, hc, h1]
    · simp [aput, hl, mrows, he]
  | some p =>
    obtain ⟨j, v⟩ := p
    obtain ⟨hj, _⟩ := h3 j v rfl
    have hs : (alook m k).isSome = true := by
      cases hl : alook m k with
      | none => rw [hl] at h2; simp at h2
      | some x => rfl
    have hkey : ((es[j]?).map (·.key)) = some (enc k) := by
      have h4 : (es.toList.map (fun e => (e.key, e.val)))[j]? = (mrows enc val m)[j]? := by rw [he]
      rw [List.getElem?_map] at h4
      simp only [mrows, List.getElem?_map] at h4
      cases hmj : m[j]? with
      | none => rw [hmj] at hj; simp at hj
      | some q =>
        rw [hmj] at hj h4
        simp at hj h4
        obtain ⟨e, he1, he2, _⟩ := h4
        simp [he1, he2, hj]
    refine ⟨_, .map (es.modify j fun e => { e with key := enc k, val := val a }) clock, ?_, hupd _, ⟨_, _, (hupd _).here, ?_⟩⟩
    · simp [Instr.mapUpdate, run_underlying ht, getObj, setObj, Sem.run, hb, hc, h1, hkey, Instr.keyThatStays, hK.bits]
    · have e1 : (aput m k a) = m.modify j (fun p => (p.1, a)) := by
        unfold aput; rw [if_pos hs, map_modify_key ho hj]
      rw [e1]
      have h4 : es.toList.map (fun e => (e.key, e.val)) = mrows enc val m := he
      apply List.ext_getElem?
      intro i
      have h5 := congrArg (·[i]?) h4
      simp only [mrows, List.getElem?_map] at h5 ⊢
      simp only [Array.toList_modify, List.getElem?_modify]
      by_cases hij : j = i
      · subst hij
        cases hmj : m[j]? with
        | none => rw [hmj] at hj; simp at hj
        | some q =>
          rw [hmj] at h5 hj
          simp at h5 hj
          obtain ⟨e, he1, he2, he3⟩ := h5
          simp [he1, hj]
      · simp only [if_neg hij]
        simpa using h5
end

section
variable {P : Program} {n : Nat} {Q : Exit → (Nat → Value) → World → Prop} {σ : Nat → Value} {w : World}
variable {ops : Array Oper} {rest : List Oper} {dst : Option Tmp} {ty : TypeId} {ps : String} {af : Array Edge} {g : Option (Nat × Bool)}
variable {κ α : Type} [DecidableEq κ]

theorem WO_makemap {t : TypeId} (hg : gOk ops n σ g = true)
    (next : ∀ w', New w w' (.map #[] 0) → WO P n ops rest Q (updo σ dst (.map (some w.heap.size))) w') :
    WO P n ops (⟨dst, .makeMap t none, ty, ps, af, g⟩ :: rest) Q σ w := by
  refine WO_val hg ?_ (next _ rfl)
  simp [execOp, Instr.makeMap, go_sem]
theorem MapIs.made {w w' : World} (h : New w w' (.map #[] 0)) : MapIs w' w.heap.size [] := ⟨_, _, h.here, rfl⟩

theorem R_lookup {t kt et : TypeId} {x i : Operand} {enc : κ → Value} {val : α → Value} {z : Value} {b : Nat} {m : List (κ × α)} {k : κ} (hx : ev n σ x = .map (some b)) (hi : ev n σ i = enc k) (hm : MapIs w b (mrows enc val m)) (hK : Key P kt enc) (ht : P.underlying t = some (.map kt et)) (hz : ∀ w, (zeroValue et).run P w = .ok z w)
     :
    (execOp (ev n σ) ⟨dst, .lookup t x i false, ty, ps, af, g⟩).run P w = .ok (.value ((((alook m k).map val).getD z))) w := by
  have := run_lookup hK ht hz w b m k hm false
  simp [execOp, hx, hi, this, go_sem]
theorem WO_lookup {t kt et : TypeId} {x i : Operand} {enc : κ → Value} {val : α → Value} {z : Value} {b : Nat} {m : List (κ × α)} {k : κ} (hg : gOk ops n σ g = true)
    (hx : ev n σ x = .map (some b)) (hi : ev n σ i = enc k) (hm : MapIs w b (mrows enc val m)) (hK : Key P kt enc) (ht : P.underlying t = some (.map kt et)) (hz : ∀ w, (zeroValue et).run P w = .ok z w)
    (next : WO P n ops rest Q (updo σ dst ((((alook m k).map val).getD z))) w) : WO P n ops (⟨dst, .lookup t x i false, ty, ps, af, g⟩ :: rest) Q σ w :=
  WO_val hg (R_lookup hx hi hm hK ht hz) next
theorem R_lookupok {t kt et : TypeId} {x i : Operand} {enc : κ → Value} {val : α → Value} {z : Value} {b : Nat} {m : List (κ × α)} {k : κ} (hx : ev n σ x = .map (some b)) (hi : ev n σ i = enc k) (hm : MapIs w b (mrows enc val m)) (hK : Key P kt enc) (ht : P.underlying t = some (.map kt et)) (hz : ∀ w, (zeroValue et).run P w = .ok z w)
     :
    (execOp (ev n σ) ⟨dst, .lookup t x i true, ty, ps, af, g⟩).run P w = .ok (.value ((.tuple #[((alook m k).map val).getD z, .bool (alook m k).isSome]))) w := by
  have := run_lookup hK ht hz w b m k hm true
  simp [execOp, hx, hi, this, go_sem]
theorem WO_lookupok {t kt et : TypeId} {x i : Operand} {enc : κ → Value} {val : α → Value} {z : Value} {b : Nat} {m : List (κ × α)} {k : κ} (hg : gOk ops n σ g = true)
    (hx : ev n σ x = .map (some b)) (hi : ev n σ i = enc k) (hm : MapIs w b (mrows enc val m)) (hK : Key P kt enc) (ht : P.underlying t = some (.map kt et)) (hz : ∀ w, (zeroValue et).run P w = .ok z w)
    (next : WO P n ops rest Q (updo σ dst ((.tuple #[((alook m k).map val).getD z, .bool (alook m k).isSome]))) w) : WO P n ops (⟨dst, .lookup t x i true, ty, ps, af, g⟩ :: rest) Q σ w :=
  WO_val hg (R_lookupok hx hi hm hK ht hz) next
theorem WO_mapput {t kt et : TypeId} {x i y : Operand} {enc : κ → Value} {val : α → Value} {b : Nat} {m : List (κ × α)} {k : κ} {a : α} (hg : gOk ops n σ g = true)
    (hx : ev n σ x = .map (some b)) (hi : ev n σ i = enc k) (hy : ev n σ y = val a) (hm : MapIs w b (mrows enc val m)) (ho : Once m) (hK : Key P kt enc) (ht : P.underlying t = some (.map kt et))
    (next : ∀ w' o, Upd w w' b o → MapIs w' b (mrows enc val (aput m k a)) → WO P n ops rest Q (updo σ dst undef) w') : WO P n ops (⟨dst, .mapUpdate t x i y, ty, ps, af, g⟩ :: rest) Q σ w := by
  obtain ⟨w', o, h1, h2, h3⟩ := run_mapUpdate hK ht w b m k a ho hm
  refine WO_unit hg ?_ (next w' o h2 h3)
  simp [execOp, hx, hi, hy, h1, go_sem]
theorem WO_mapins {t kt et : TypeId} {x i y : Operand} {enc : κ → Value} {val : α → Value} {b : Nat} {m : List (κ × α)} {k : κ} {a : α} (hg : gOk ops n σ g = true)
    (hx : ev n σ x = .map (some b)) (hi : ev n σ i = enc k) (hy : ev n σ y = val a) (hm : MapIs w b (mrows enc val m)) (ho : Once m) (hK : Key P kt enc) (ht : P.underlying t = some (.map kt et))
    (next : ∀ w' o, Upd w w' b o → MapIs w' b (mrows enc val (aput m k a)) → WO P n ops rest Q (updo σ dst undef) w') : WO P n ops (⟨dst, .insert t x i y, ty, ps, af, g⟩ :: rest) Q σ w := by
  obtain ⟨w', o, h1, h2, h3⟩ := run_mapUpdate hK ht w b m k a ho hm
  refine WO_unit hg ?_ (next w' o h2 h3)
  simp [execOp, hx, hi, hy, h1, go_sem]

/-! ### Cells -/
theorem WO_box {t : TypeId} {x : Operand} {v : Value} (hg : gOk ops n σ g = true) (hx : ev n σ x = v)
    (next : ∀ w', New w w' (.cells v.cells t) → WO P n ops rest Q (updo σ dst (.pointer (some ⟨w.heap.size, 0, none⟩))) w') :
    WO P n ops (⟨dst, .box t x, ty, ps, af, g⟩ :: rest) Q σ w := by
  refine WO_val hg ?_ (next _ rfl)
  simp [execOp, Instr.box, hx, newVar, newRow, go_sem]
theorem WO_alloc {t : TypeId} {v : Value} (hg : gOk ops n σ g = true) (hz : ∀ w, (zeroValue t).run P w = .ok v w)
    (next : ∀ w', New w w' (.cells v.cells t) → WO P n ops rest Q (updo σ dst (.pointer (some ⟨w.heap.size, 0, none⟩))) w') :
    WO P n ops (⟨dst, .alloc t, ty, ps, af, g⟩ :: rest) Q σ w := by
  refine WO_val hg ?_ (next _ rfl)
  simp [execOp, Instr.alloc, hz, newVar, newRow, go_sem]
def plainD : TypeDesc → Bool
  | .struct _ | .array _ _ => false
  | _ => true
theorem run_isAgg {t : TypeId} {d : TypeDesc} (h : P.underlying t = some d) (hd : plainD d = true) (w : World) : (isAgg t).run P w = .ok false w := by
  cases d <;> simp_all [isAgg, run_underlying h, plainD]
theorem cell_of {w : World} {b o : Nat} {c : Array Value} {e : TypeId} {f : Nat × Nat} {v : Value} (hb : w.heap[b]? = some (.cells c e f)) (hc : c[o]? = some v) : w.cell? ⟨b, o, none⟩ = some v := by
  simp [World.cell?, hb, hc]
theorem R_load {t : TypeId} {d : TypeDesc} {x : Operand} {a : Addr} {v : Value} (hx : ev n σ x = .pointer (some a)) (ht : P.underlying t = some d) (hd : plainD d = true) (hc : w.cell? a = some v)
     :
    (execOp (ev n σ) ⟨dst, .load t x, ty, ps, af, g⟩).run P w = .ok (.value (v)) w := by
  simp [execOp, Instr.loadAt, Instr.sureAddr, hx, loadVar, run_isAgg ht hd, load, Sem.run, hc, go_sem]
def oneC : Value → Bool
  | .agg _ | .tuple _ => false
  | _ => true
/-- One cell of a row written. -/
theorem WO_load {t : TypeId} {d : TypeDesc} {x : Operand} {a : Addr} {v : Value} (hg : gOk ops n σ g = true) (hx : ev n σ x = .pointer (some a)) (ht : P.underlying t = some d) (hd : plainD d = true) (hc : w.cell? a = some v)
    (next : WO P n ops rest Q (updo σ dst (v)) w) : WO P n ops (⟨dst, .load t x, ty, ps, af, g⟩ :: rest) Q σ w :=
  WO_val hg (R_load hx ht hd hc) next
theorem WO_store {t : TypeId} {x y : Operand} {b o : Nat} {c : Array Value} {e : TypeId} {v : Value} (hg : gOk ops n σ g = true) (hx : ev n σ x = .pointer (some ⟨b, o, none⟩)) (hy : ev n σ y = v)
    (hs : ∀ w, (sizeOf t).run P w = .ok 1 w) (h1 : oneC v = true) (hb : w.heap[b]? = some (.cells c e (0, 0))) (ho : o < c.size)
    (next : ∀ w', Upd w w' b (.cells (c.setIfInBounds o v) e (0, 0)) → WO P n ops rest Q (updo σ dst undef) w') : WO P n ops (⟨dst, .store t x y, ty, ps, af, g⟩ :: rest) Q σ w := by
  have hcell : w.cell? ⟨b, o, none⟩ = some c[o] := cell_of hb (by simp [ho])
  have hfr : w.frozen? ⟨b, o, none⟩ = false := by simp [World.frozen?, hb]
  have hcs : v.cells = #[v] := by cases v <;> first | rfl | simp [oneC] at h1
  refine WO_unit (w' := w.setCell ⟨b, o, none⟩ v) hg ?_ (next _ ⟨rfl, rfl, rfl, by simp [World.setCell], ?_, ?_⟩)
  · cases v <;> first | (simp [oneC] at h1; done) | simp [execOp, Instr.storeAt, Instr.sureAddr, hx, hy, storeVar, hs, Value.cells, storeCells, store, Sem.run, hcell, hfr, Addr.add, go_sem]
  · have hlt := heap_lt hb
    have := (Array.getElem?_eq_some_iff.1 hb).2
    simp [World.setCell, Array.getElem?_modify, hb]
  · intro j hj
    simp [World.setCell, Array.getElem?_modify, Ne.symm hj]

/-- Several cells of a row written (a struct, an array). -/
theorem WO_storerow {t e : TypeId} {x y : Operand} {b o : Nat} {c c' : Array Value} (hg : gOk ops n σ g = true) (hx : ev n σ x = .pointer (some ⟨b, o, none⟩)) (hy : ev n σ y = .agg c')
    (hs : ∀ w, (sizeOf t).run P w = .ok c'.size w) (h1 : c'.all (·.oneCell') = true) (hb : w.heap[b]? = some (.cells c e (0, 0))) (ho : o + c'.size ≤ c.size)
    (next : ∀ w', Upd w w' b (.cells (c.toList.take o ++ c'.toList ++ c.toList.drop (o + c'.size)).toArray e (0, 0)) → WO P n ops rest Q (updo σ dst undef) w') : WO P n ops (⟨dst, .store t x y, ty, ps, af, g⟩ :: rest) Q σ w := by
  have hr := run_storeCells_at P b o e c'.toList 0 c w hb (by simpa using ho) (fun v hv => by rw [Array.all_eq_true_iff_forall_mem] at h1; exact h1 v (by simpa using hv))
  refine WO_unit (w' := w.setRow b (c.toList.take (o + 0) ++ c'.toList ++ c.toList.drop (o + 0 + c'.toList.length)).toArray) hg ?_ (next _ ⟨rfl, rfl, rfl, by simp [World.setRow], ?_, ?_⟩)
  · have hr' : (storeCells ⟨b, o, none⟩ c'.toList).run P w = .ok () (w.setRow b (c.toList.take (o + 0) ++ c'.toList ++ c.toList.drop (o + 0 + c'.toList.length)).toArray) := hr
    simp [execOp, Instr.storeAt, Instr.sureAddr, hx, hy, storeVar, hs, Value.cells, hr', go_sem]
  · rw [setRow_heap w b c _ e _ hb]; simp
  · intro j hj; exact setRow_other w b j _ hj
/-- Several cells of a row read. -/
theorem R_loadrow {t e : TypeId} {d : TypeDesc} {x : Operand} {b o m : Nat} {c : Array Value} {fr : Nat × Nat} (hx : ev n σ x = .pointer (some ⟨b, o, none⟩)) (ht : P.underlying t = some d) (hd : plainD d = false)
    (hs : ∀ w, (sizeOf t).run P w = .ok m w) (hb : w.heap[b]? = some (.cells c e fr)) (ho : o + m ≤ c.size)
     :
    (execOp (ev n σ) ⟨dst, .load t x, ty, ps, af, g⟩).run P w = .ok (.value ((.agg ((c.toList.drop o).take m).toArray))) w := by
  have ha : (isAgg t).run P w = .ok true w := by cases d <;> simp_all [isAgg, run_underlying ht, plainD]
  have hl : ((c.toList.drop o).take m).length = m := by simp; omega
  have hr := run_loadCells_list (P := P) w ⟨b, o, none⟩ ((c.toList.drop o).take m) (fun j v hj => by
    have hadd : (⟨b, o, none⟩ : Addr).add j = ⟨b, o + j, none⟩ := by unfold Addr.add; split <;> simp_all
    rw [hadd]
    refine cell_of hb ?_
    rw [List.getElem?_take] at hj
    split at hj
    · rw [List.getElem?_drop] at hj; simpa using hj
    · cases hj)
  rw [hl] at hr
  simp only [loadCells] at hr
  simp [execOp, Instr.loadAt, Instr.sureAddr, hx, loadVar, loadCells, ha, hs, hr, go_sem]

/-! ### A pointer against nil -/
theorem run_eqIn_ptr {t e : TypeId} (w : World) (d : Nat) (a : Option Addr) (ht : P.underlying t = some (.pointer e)) : (Op.equalIn (d + 1) t (.pointer a) (.pointer none)).run P w = .ok a.isNone w := by
  cases a <;> simp [Op.equalIn, run_underlying ht]
theorem WO_loadrow {t e : TypeId} {d : TypeDesc} {x : Operand} {b o m : Nat} {c : Array Value} {fr : Nat × Nat} (hg : gOk ops n σ g = true) (hx : ev n σ x = .pointer (some ⟨b, o, none⟩)) (ht : P.underlying t = some d) (hd : plainD d = false)
    (hs : ∀ w, (sizeOf t).run P w = .ok m w) (hb : w.heap[b]? = some (.cells c e fr)) (ho : o + m ≤ c.size)
    (next : WO P n ops rest Q (updo σ dst ((.agg ((c.toList.drop o).take m).toArray))) w) : WO P n ops (⟨dst, .load t x, ty, ps, af, g⟩ :: rest) Q σ w :=
  WO_val hg (R_loadrow hx ht hd hs hb ho) next
theorem R_peql {t t' e : TypeId} {x y : Operand} {a : Option Addr} (hx : ev n σ x = .pointer a) (hy : ev n σ y = .pointer none) (ht : P.underlying t = some (.pointer e))
     :
    (execOp (ev n σ) ⟨dst, .binOp .eql t x y t', ty, ps, af, g⟩).run P w = .ok (.value ((.bool a.isNone))) w := by
  have h := run_eqIn_ptr w 9999 a ht
  have h2 : (binOp .eql t (.pointer a) (.pointer none)).run P w = .ok (.bool a.isNone) w := by
    cases a <;> simp only [binOp] <;> simp [Op.equal, Op.maxDepth, h]
  simp [execOp, hx, hy, eqGuard, h2, go_sem]
theorem WO_peql {t t' e : TypeId} {x y : Operand} {a : Option Addr} (hg : gOk ops n σ g = true) (hx : ev n σ x = .pointer a) (hy : ev n σ y = .pointer none) (ht : P.underlying t = some (.pointer e))
    (next : WO P n ops rest Q (updo σ dst ((.bool a.isNone))) w) : WO P n ops (⟨dst, .binOp .eql t x y t', ty, ps, af, g⟩ :: rest) Q σ w :=
  WO_val hg (R_peql hx hy ht) next
theorem R_pneq {t t' e : TypeId} {x y : Operand} {a : Option Addr} (hx : ev n σ x = .pointer a) (hy : ev n σ y = .pointer none) (ht : P.underlying t = some (.pointer e))
     :
    (execOp (ev n σ) ⟨dst, .binOp .neq t x y t', ty, ps, af, g⟩).run P w = .ok (.value ((.bool (!a.isNone)))) w := by
  have h := run_eqIn_ptr w 9999 a ht
  have h2 : (binOp .neq t (.pointer a) (.pointer none)).run P w = .ok (.bool (!a.isNone)) w := by
    cases a <;> simp only [binOp] <;> simp [Op.equal, Op.maxDepth, h]
  simp [execOp, hx, hy, eqGuard, h2, go_sem]
theorem WO_pneq {t t' e : TypeId} {x y : Operand} {a : Option Addr} (hg : gOk ops n σ g = true) (hx : ev n σ x = .pointer a) (hy : ev n σ y = .pointer none) (ht : P.underlying t = some (.pointer e))
    (next : WO P n ops rest Q (updo σ dst ((.bool (!a.isNone)))) w) : WO P n ops (⟨dst, .binOp .neq t x y t', ty, ps, af, g⟩ :: rest) Q σ w :=
  WO_val hg (R_pneq hx hy ht) next
end
end Go.Proofs.Ytcnmbdabnppbeaa
