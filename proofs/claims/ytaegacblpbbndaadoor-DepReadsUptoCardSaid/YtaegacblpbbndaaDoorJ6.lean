/- The texts Ev7 of the proof, joined. Each says at its theorems what it proves. -/
import Derived.Test.YtaegacblpbbndaaDoorJ5
import Derived.Laws.Tables
set_option linter.unusedSimpArgs false
set_option linter.unusedVariables false
section
namespace Go.Proofs.YtaegacblpbbndaaDoor
open Go Go.RowKit
set_option linter.unusedSimpArgs false
set_option linter.unusedVariables false
namespace Ev
theorem beq_bytes (a b : List UInt8) : ((⟨a.toArray⟩ : ByteArray) == ⟨b.toArray⟩) = decide (a = b) := by
  have : ((⟨a.toArray⟩ : ByteArray) == ⟨b.toArray⟩) = (a.toArray == b.toArray) := rfl
  rw [this, Bool.eq_iff_iff]; simp
section
variable {P : Program} {w0 : Base} {w : World} {φ : Phi} {h : AH}
theorem Rel.row (r : Rel w0 φ h w) {b : Nat} {c : List AV} {e sz : Nat} {op : Bool} (hb : h.get b = some (.row c e sz op)) {x κ : Nat} (hx : φ b = some (x, κ)) :
    ∃ cs vs rest, w.heap[x]? = some (.cells cs e (0, 0)) ∧ VRl φ c vs ∧ cs.toList = vs ++ rest ∧ ((op = true ∧ cs.size = κ * sz) ∨ (op = false ∧ rest = [])) := by
  obtain ⟨_, x', κ', ob, e1, e2, e3⟩ := r.obj _ _ hb
  rw [hx] at e1; cases e1
  obtain ⟨vs, cs, rfl, h1, ⟨h2, ⟨rest, h3⟩, h4⟩ | ⟨h2, h3⟩⟩ := e3
  · exact ⟨cs, vs, rest, e2, h1, h3, .inl ⟨h2, h4⟩⟩
  · exact ⟨cs, vs, [], e2, h1, by simpa using h3, .inr ⟨h2, rfl⟩⟩
theorem cell_at {x i : Nat} {cs : Array Value} {e : Nat} {fr : Nat × Nat} {v : Value} (hb : w.heap[x]? = some (.cells cs e fr)) (hv : cs.toList[i]? = some v) : w.cell? ⟨x, i, none⟩ = some v := by
  simp [World.cell?, hb]; simpa using hv
theorem Rel.cell (r : Rel w0 φ h w) {b i : Nat} {c : List AV} {e sz : Nat} {op : Bool} {a : AV} (hb : h.get b = some (.row c e sz op)) {x κ : Nat} (hx : φ b = some (x, κ)) (ha : c[i]? = some a) :
    ∃ v, w.cell? ⟨x, i, none⟩ = some v ∧ VR φ a v := by
  obtain ⟨cs, vs, rest, e1, e2, e3, _⟩ := r.row hb hx
  obtain ⟨v, hv, hr⟩ := e2.get ha
  refine ⟨v, cell_at e1 ?_, hr⟩
  rw [e3, List.getElem?_append_left (List.getElem?_eq_some_iff.1 hv).1]; exact hv
theorem Rel.cells (r : Rel w0 φ h w) {b o n : Nat} {c : List AV} {e sz : Nat} {op : Bool} (hb : h.get b = some (.row c e sz op)) {x κ : Nat} (hx : φ b = some (x, κ)) (hn : o + n ≤ c.length) :
    ∃ us : List Value, us.length = n ∧ VRl φ ((c.drop o).take n) us ∧ ∀ j v, us[j]? = some v → w.cell? ((⟨x, o, none⟩ : Addr).add j) = some v := by
  obtain ⟨cs, vs, rest, e1, e2, e3, _⟩ := r.row hb hx
  have hl := e2.length
  refine ⟨(vs.drop o).take n, by simp; omega, (e2.drop o).take n, fun j v hv => ?_⟩
  rw [addr_add]
  refine cell_at e1 ?_
  have hj : j < n := by have := (List.getElem?_eq_some_iff.1 hv).1; simp at this; omega
  rw [List.getElem?_take_of_lt hj, List.getElem?_drop] at hv
  rw [e3, List.getElem?_append_left (List.getElem?_eq_some_iff.1 hv).1]; exact hv
theorem Rel.load (r : Rel w0 φ h w) {b o n : Nat} {c : List AV} {e sz : Nat} {op : Bool} (hb : h.get b = some (.row c e sz op)) {x κ : Nat} (hx : φ b = some (x, κ)) (hn : o + n ≤ c.length) :
    ∃ us : List Value, us.length = n ∧ VRl φ ((c.drop o).take n) us ∧ (loadCells ⟨x, o, none⟩ n).run P w = .ok us.toArray w := by
  obtain ⟨us, h1, h2, h3⟩ := r.cells hb hx hn
  refine ⟨us, h1, h2, ?_⟩
  have := run_loadCells_list (P := P) w ⟨x, o, none⟩ us h3
  rw [h1] at this; exact this
end
section
variable (P : Program)
noncomputable def loadA (t : Nat) (a : AV) (h : AH) : Option AV := match a with
  | .ptr b off => match h.get b with
    | some (.row c _ _ _) => match aggT P t with
      | some true => match tsz P t with
        | some n => bif Nat.ble (off + n) c.length then some (.agg ((c.drop off).take n)) else none
        | none => none
      | some false => c[off]?
      | none => none
    | _ => none
  | _ => none
noncomputable def keyEq : AV → AV → Option Bool
  | .int k a, .int k' b => match decEq k k' with
    | .isTrue _ => some (a == b)
    | .isFalse _ => none
  | .str a, .str b => some (strEq a b)
  | .bool a, .bool b => some (a == b)
  | _, _ => none
noncomputable def keyKind : TypeDesc → AV → Bool
  | .int _, .int _ _ => true
  | .string, .str _ => true
  | .bool, .bool _ => true
  | _, _ => false
noncomputable def findA (k : AV) : List (AV × AV × Nat) → Nat → Option (Option (Nat × AV))
  | [], _ => some none
  | (k', v, _) :: es, i => match keyEq k k' with
    | some true => some (some (i, v))
    | some false => findA k es (i + 1)
    | none => none
noncomputable def entriesA (m : AV) (h : AH) : Option (List (AV × AV × Nat)) := match m with
  | .nilm => some []
  | .map b => match h.get b with
    | some (.map es _) => some es
    | _ => none
  | _ => none
noncomputable def lookupA (t : Nat) (m k : AV) (ok : Bool) (h : AH) : Option AV := match P.underlying t with
  | some (.map kt et) => match P.underlying kt with
    | some d => bif keyKind d k then match entriesA m h with
        | some es => match findA k es 0 with
          | some (some (_, v)) => some (bif ok then .tup [v, .bool true] else v)
          | some none => match zeroA P et with
            | some z => some (bif ok then .tup [z, .bool false] else z)
            | none => none
          | none => none
        | none => none
      else none
    | none => none
  | _ => none
noncomputable def rLoad (ev : Operand → Option AV) (t : Nat) (x : Operand) (h : AH) : Option AV := match ev x with
    | some a => loadA P t a h
    | none => none
noncomputable def rLookup (ev : Operand → Option AV) (t : Nat) (m k : Operand) (ok : Bool) (h : AH) : Option AV := match ev m with
    | some a => match ev k with
      | some b => lookupA P t a b ok h
      | none => none
    | none => none
noncomputable def rCall (ev : Operand → Option AV) (c : Call) (h : AH) : Option AV := match c.callee with
    | .builtin .len => match c.args.toList with
      | [x] => match c.argTypes.toList with
        | [t] => match ev x with
          | some (.map b) => match h.get b with
            | some (.map es _) => match P.underlying t with
              | some (.map _ _) => some (.int .i64 (.ofNat es.length))
              | _ => none
            | _ => none
          | _ => none
        | _ => none
      | _ => none
    | _ => none
noncomputable def readA (ev : Operand → Option AV) (o : Oper) (h : AH) : Option AV := match o.op with
  | .load t x => rLoad P ev t x h
  | .lookup t m k ok => rLookup P ev t m k ok h
  | .call c => rCall P ev c h
  | _ => none
end
section
variable {P : Program} {ev : Operand → Option AV} {φ : Phi} {ρ : Operand → Value} {w0 : Base} {w : World} {h : AH}
theorem loadA_ok {t : Nat} {a r : AV} {x : Value} (hl : loadA P t a h = some r) (hx : VR φ a x) (hr : Rel w0 φ h w) : ∃ v, (Instr.loadAt t x).run P w = .ok v w ∧ VR φ r v := by
  unfold loadA at hl
  split at hl
  · rename_i b off
    simp only [VR] at hx
    obtain ⟨y, κ, hφ, rfl⟩ := hx
    split at hl
    · rename_i c e sz op hb
      split at hl
      · rename_i ha
        split at hl
        · rename_i n hn
          cases hc : Nat.ble (off + n) c.length with
          | false => rw [hc] at hl; cases hl
          | true =>
            rw [hc, cond_true] at hl; cases hl
            obtain ⟨us, h1, h2, h3⟩ := hr.load (P := P) hb hφ (ble_of hc)
            exact ⟨.agg us.toArray, by simp only [Instr.loadAt, Instr.sureAddr, Sem.run_bind, Sem.run_pure, Result.andThen_ok, loadVar, aggT_run ha, if_true, tsz_run hn, h3], by simp only [VR]; exact ⟨us, h2, rfl⟩⟩
        · cases hl
      · rename_i ha
        obtain ⟨v, h1, h2⟩ := hr.cell hb hφ hl
        exact ⟨v, by simp [Instr.loadAt, Instr.sureAddr, loadVar, aggT_run ha, h1, go_sem], h2⟩
      · cases hl
    · cases hl
  · cases hl
theorem findA_ok {d : TypeDesc} {k : AV} {kv : Value} (hk : keyKind d k = true) (hv : VR φ k kv) : ∀ {es : List (AV × AV × Nat)} {l : List MapEntry} {i : Nat} {r : Option (Nat × AV)}, findA k es i = some r → MR φ es l →
    ∃ r', Instr.findNow d kv l i = some r' ∧ ((r = none ∧ r' = none) ∨ ∃ j a v, r = some (j, a) ∧ r' = some (j, v) ∧ VR φ a v ∧ i ≤ j ∧ ∃ e, l[j - i]? = some e ∧ e.key = kv)
  | [], l, i, r, h1, h2 => by
    simp only [MR] at h2; subst h2
    simp only [findA, Option.some.injEq] at h1; subst h1
    exact ⟨none, rfl, .inl ⟨rfl, rfl⟩⟩
  | (k', v, n) :: es, l, i, r, h1, h2 => by
    simp only [MR] at h2
    obtain ⟨e, l', rfl, hk', hv', hn, hrest⟩ := h2
    have same : ∀ q, keyEq k k' = some q → Instr.sameNow d kv e.key = some q ∧ (q = true → e.key = kv) := by
      intro q hq
      unfold keyEq at hq
      split at hq
      · rename_i ka a kb b
        split at hq
        · rename_i hkk _
          cases hq
          simp only [VR] at hv hk'
          subst hv; subst hkk
          cases d <;> simp only [keyKind, Bool.false_eq_true] at hk
          rw [hk']
          refine ⟨by simp [Instr.sameNow], fun hq => ?_⟩
          have : a = b := by simpa using hq
          rw [this]
        · cases hq
      · rename_i a b
        cases hq
        simp only [VR] at hv hk'
        subst hv
        cases d <;> simp only [keyKind, Bool.false_eq_true] at hk
        rw [hk']
        refine ⟨?_, fun hq => ?_⟩
        · simp only [Instr.sameNow, Option.some.injEq, strEq_iff, beq_bytes]
        · rw [strEq_iff] at hq
          have : a = b := by simpa using hq
          rw [this]
      · rename_i a b
        cases hq
        simp only [VR] at hv hk'
        subst hv
        cases d <;> simp only [keyKind, Bool.false_eq_true] at hk
        rw [hk']
        refine ⟨by simp [Instr.sameNow], fun hq => ?_⟩
        have : a = b := by simpa using hq
        rw [this]
      · cases hq
    unfold findA at h1
    unfold Instr.findNow
    split at h1
    · rename_i hq
      cases h1
      obtain ⟨h3, h4⟩ := same _ hq
      simp only [h3]
      exact ⟨_, rfl, .inr ⟨i, v, e.val, rfl, rfl, hv', Nat.le_refl _, e, by simp, h4 rfl⟩⟩
    · rename_i hq
      simp only [(same _ hq).1]
      obtain ⟨r', h3, h4⟩ := findA_ok hk hv h1 hrest
      refine ⟨r', h3, h4.imp id ?_⟩
      rintro ⟨j, a, u, e1, e2, e3, e4, e5, e6, e7⟩
      refine ⟨j, a, u, e1, e2, e3, by omega, e5, ?_, e7⟩
      rw [show j - i = (j - (i + 1)) + 1 by omega, List.getElem?_cons_succ]; exact e6
    · cases h1
theorem checkKey_ok {kt : Nat} {d : TypeDesc} {k : AV} {kv : Value} (hu : P.underlying kt = some d) (hk : keyKind d k = true) (hv : VR φ k kv) (e : Bool) (w : World) : (Instr.checkKey e 10000 kt kv).run P w = .ok () w := by
  unfold Instr.checkKey
  unfold keyKind at hk
  split at hk <;> first | (simp only [VR] at hv; subst hv; simp [run_underlying hu, go_sem]; done) | cases hk
theorem findKey_ok {kt : Nat} {d : TypeDesc} {kv : Value} {l : List MapEntry} {r : Option (Nat × Value)} (hu : P.underlying kt = some d) (hf : Instr.findNow d kv l 0 = some r) (w : World) : (Instr.findKey kt kv l).run P w = .ok r w := by
  simp [Instr.findKey, run_underlying hu, hf, go_sem]
theorem Rel.mapAt (r : Rel w0 φ h w) {b : Nat} {es : List (AV × AV × Nat)} {clk : Nat} (hb : h.get b = some (.map es clk)) {x κ : Nat} (hx : φ b = some (x, κ)) :
    ∃ l : List MapEntry, w.heap[x]? = some (.map l.toArray clk) ∧ MR φ es l := by
  obtain ⟨_, x', κ', ob, e1, e2, e3⟩ := r.obj _ _ hb
  rw [hx] at e1; cases e1
  obtain ⟨l, rfl, h1⟩ := e3
  exact ⟨l, e2, h1⟩
theorem MR.length : ∀ {es : List (AV × AV × Nat)} {l : List MapEntry}, MR φ es l → l.length = es.length
  | [], _, k => by simp only [MR] at k; subst k; rfl
  | (_, _, _) :: _, _, k => by simp only [MR] at k; obtain ⟨e, l', rfl, _, _, _, k⟩ := k; simp [MR.length k]
theorem lookupA_ok {t : Nat} {m k r : AV} {ok : Bool} {mv kv : Value} (hl : lookupA P t m k ok h = some r) (hm : VR φ m mv) (hk : VR φ k kv) (hr : Rel w0 φ h w) : ∃ v, (Instr.lookup t mv kv ok).run P w = .ok v w ∧ VR φ r v := by
  unfold lookupA at hl
  split at hl
  · rename_i kt et hu
    split at hl
    · rename_i d hd
      cases hkk : keyKind d k with
      | false => rw [hkk] at hl; cases hl
      | true =>
        rw [hkk, cond_true] at hl
        split at hl
        · rename_i es hes
          have hentries : ∃ l : List MapEntry, MR φ es l ∧ ((mv = .map none ∧ l = []) ∨ ∃ x clk, mv = .map (some x) ∧ w.heap[x]? = some (.map l.toArray clk)) := by
            unfold entriesA at hes
            split at hes
            · cases hes
              simp only [VR] at hm
              exact ⟨[], by simp [MR], .inl ⟨hm, rfl⟩⟩
            · simp only [VR] at hm
              obtain ⟨x, κ, hφ, rfl⟩ := hm
              split at hes
              · rename_i es' clk hb
                cases hes
                obtain ⟨l, h1, h2⟩ := hr.mapAt hb hφ
                exact ⟨l, h2, .inr ⟨x, clk, rfl, h1⟩⟩
              · cases hes
            · cases hes
          obtain ⟨l, hml, hmv⟩ := hentries
          have hlook : ∀ r', Instr.findNow d kv l 0 = some r' → match r' with
              | some (_, v) => (Instr.lookup t mv kv ok).run P w = .ok (if ok then .tuple #[v, .bool true] else v) w
              | none => ∀ z, (zeroValue et).run P w = .ok z w → (Instr.lookup t mv kv ok).run P w = .ok (if ok then .tuple #[z, .bool false] else z) w := by
            intro r' hr'
            have h2 := findKey_ok (P := P) hd hr' w
            rcases hmv with ⟨rfl, rfl⟩ | ⟨x, clk, rfl, hx⟩
            · have h1 := checkKey_ok (P := P) (φ := φ) hd hkk hk true w
              have e0 : (#[] : Array MapEntry).isEmpty = true := rfl
              have e1 : (#[] : Array MapEntry).toList = [] := rfl
              cases r' with
              | none => intro z hz; simp only [Instr.lookup, Sem.run_bind, run_underlying hu, Result.andThen_ok, Sem.run_pure, e0, e1, h1, h2, hz]
              | some p => simp only [Instr.lookup, Sem.run_bind, run_underlying hu, Result.andThen_ok, Sem.run_pure, e0, e1, h1, h2]
            · have h1 := checkKey_ok (P := P) (φ := φ) hd hkk hk l.toArray.isEmpty w
              have h0 : (getObj x).run P w = .ok (.map l.toArray clk) w := by simp [getObj, Sem.run, hx]
              cases r' with
              | none => intro z hz; simp only [Instr.lookup, Sem.run_bind, run_underlying hu, Result.andThen_ok, h0, Sem.run_pure, h1, h2, hz]
              | some p => simp only [Instr.lookup, Sem.run_bind, run_underlying hu, Result.andThen_ok, h0, Sem.run_pure, h1, h2]
          split at hl
          · rename_i j v hf
            cases hl
            obtain ⟨r', h1, h2⟩ := findA_ok hkk hk hf hml
            rcases h2 with ⟨h2, _⟩ | ⟨j', a, u, e1, rfl, e3, _⟩
            · cases h2
            · cases e1
              have := hlook _ h1
              cases ok
              · exact ⟨u, by rw [this]; rfl, by simpa using e3⟩
              · exact ⟨.tuple #[u, .bool true], by rw [this]; rfl, by simp only [cond_true, VR]; exact ⟨[u, .bool true], .cons e3 (.cons (by simp [VR]) .nil), rfl⟩⟩
          · rename_i hf
            obtain ⟨r', h1, h2⟩ := findA_ok hkk hk hf hml
            rcases h2 with ⟨_, rfl⟩ | ⟨j', a, u, e1, _⟩
            · have := hlook _ h1
              split at hl
              · rename_i z hz
                cases hl
                obtain ⟨zv, hzv, hzr⟩ := zeroA_run (φ := φ) hz
                have this := this zv (hzv w)
                cases ok
                · exact ⟨zv, by rw [this]; rfl, by simpa using hzr⟩
                · exact ⟨.tuple #[zv, .bool false], by rw [this]; rfl, by simp only [cond_true, VR]; exact ⟨[zv, .bool false], .cons hzr (.cons (by simp [VR]) .nil), rfl⟩⟩
              · cases hl
            · cases e1
          · cases hl
        · cases hl
    · cases hl
  · cases hl
def ReadOK (P : Program) (φ : Phi) (ρ : Operand → Value) (o : Oper) (a : AV) (w : World) : Prop := ∃ v, (execOp ρ o).run P w = .ok (.value v) w ∧ VR φ a v
theorem readA_ok (hev : EVR φ ev ρ) {o : Oper} {a : AV} (hl : readA P ev o h = some a) (hr : Rel w0 φ h w) : ReadOK P φ ρ o a w := by
  obtain ⟨dst, op, type, pos, after, guard⟩ := o
  cases op <;> simp only [readA, rLoad, rLookup, rCall, reduceCtorEq] at hl
  case load t x =>
    split at hl
    · rename_i a1 ha
      obtain ⟨v, h1, h2⟩ := loadA_ok (P := P) hl (hev _ _ ha) hr
      exact ⟨v, by simp only [execOp]; exact run_v h1, h2⟩
    · cases hl
  case lookup t m k ok =>
    split at hl
    · rename_i a1 ha
      split at hl
      · rename_i b1 hb
        obtain ⟨v, h1, h2⟩ := lookupA_ok (P := P) hl (hev _ _ ha) (hev _ _ hb) hr
        exact ⟨v, by simp only [execOp]; exact run_v h1, h2⟩
      · cases hl
    · cases hl
  case call c =>
    obtain ⟨callee, args, argTypes⟩ := c
    simp only at hl
    split at hl
    · split at hl
      · rename_i x hxs
        split at hl
        · rename_i t hts
          split at hl
          · rename_i b hb
            split at hl
            · rename_i es clk hg
              split at hl
              · rename_i kt et hu
                cases hl
                have hx := hev _ _ hb
                simp only [VR] at hx
                obtain ⟨y, κ, hφ, hx⟩ := hx
                obtain ⟨l, h1, h2⟩ := hr.mapAt hg hφ
                have ha : args = #[x] := by apply Array.ext'; simpa using hxs
                have ht : argTypes = #[t] := by apply Array.ext'; simpa using hts
                subst ha; subst ht
                refine ⟨.int .i64 (es.length : Int), ?_, by simp [VR]⟩
                have h0 : (getObj y).run P w = .ok (.map l.toArray clk) w := by simp [getObj, Sem.run, h1]
                simp [execOp, resolve, invoke, builtin, Builtin.len_, hx, run_underlying hu, h0, goInt, h2.length, go_sem]
              · cases hl
            · cases hl
          · cases hl
        · cases hl
      · cases hl
    · cases hl
end
end Ev
end Go.Proofs.YtaegacblpbbndaaDoor
end
