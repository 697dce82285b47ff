/- The texts Ev9 of the proof, joined. Each says at its theorems what it proves. -/
import Derived.Test.YtaegacblpbbndaaDoorJ7
import Derived.Laws.Append
set_option linter.unusedSimpArgs false
set_option linter.unusedVariables false
section
namespace Go.Proofs.YtaegacblpbbndaaDoor
open Go Go.RowKit
set_option linter.unusedSimpArgs false
set_option linter.unusedVariables false
namespace Ev
section
variable (P : Program)
noncomputable def mapEntryA (t : Nat) (m k : AV) (h : AH) : Option (AV × AH) := match P.underlying t with
  | some (.map kt et) => match P.underlying kt with
    | some d => match m with
      | .map b => match h.get b with
        | some (.map es clk) => bif keyKind d k && h.mayPut b then (match findA k es 0 with
            | some (some (i, v)) => match es[i]? with
              | some (_, _, n) => some (.tup [v, .int .i64 (.ofNat n)], h.put b (.map (es.set i (k, v, n)) clk))
              | none => none
            | some none => match zeroA P et with
              | some z => some (.tup [z, .int .i64 (.ofNat clk)], h.put b (.map (es ++ [(k, z, clk)]) (clk + 1)))
              | none => none
            | none => none) else none
        | _ => none
      | _ => none
    | none => none
  | _ => none
noncomputable def bornAt (s : Nat) : List (AV × AV × Nat) → Option Nat
  | [] => none
  | (_, _, n) :: es => bif Nat.beq n s then some 0 else match bornAt s es with
    | some i => some (i + 1)
    | none => none
noncomputable def entryStoreA (m s v : AV) (h : AH) : Option AH := match m with
  | .map b => match h.get b with
    | some (.map es clk) => match natOf s with
      | some n => match bornAt n es with
        | some i => match es[i]? with
          | some (k, _, n') => bif h.mayPut b then some (h.put b (.map (es.set i (k, v, n')) clk)) else none
          | none => none
        | none => none
      | none => none
    | _ => none
  | _ => none
noncomputable def rangeA (t : Nat) (a : AV) (h : AH) : Option (AV × AH) := match P.underlying t with
  | some .string => match a with
    | .str l => bif h.roomy then some (.ptr h.nx 0, h.add (.siter l 0)) else none
    | _ => none
  | _ => none
noncomputable def nextA (a : AV) (h : AH) : Option (AV × AH) := match a with
  | .ptr b 0 => match h.get b with
    | some (.siter s p) => bif Nat.blt p s.length then (bif h.mayPut b then some (.tup [.bool true, .int .i64 (.ofNat p), .int .i32 (.ofNat (Utf8.decode ⟨s.toArray⟩ p).1)], h.put b (.siter s (p + (Utf8.decode ⟨s.toArray⟩ p).2))) else none) else some (.tup [.bool false], h)
    | _ => none
  | _ => none
end
section
variable {P : Program} {φ : Phi} {w0 : Base} {w : World} {h : AH}
theorem MR.modify {k v : AV} {n : Nat} {f : MapEntry → MapEntry} : ∀ {es : List (AV × AV × Nat)} {l : List MapEntry} {i : Nat} {k0 v0 : AV}, MR φ es l → es[i]? = some (k0, v0, n) →
    (∀ e, l[i]? = some e → VR φ k0 e.key → VR φ v0 e.val → VR φ k (f e).key ∧ VR φ v (f e).val ∧ (f e).born = e.born) → MR φ (es.set i (k, v, n)) (l.modify i f)
  | [], _, _, _, _, _, h2, _ => by simp at h2
  | (_, _, _) :: es, _, 0, k0, v0, h1, h2, h3 => by
    simp only [MR] at h1
    obtain ⟨e, l', rfl, a, b, c, d⟩ := h1
    simp at h2
    obtain ⟨rfl, rfl, rfl⟩ := h2
    obtain ⟨q1, q2, q3⟩ := h3 e (by simp) a b
    simp only [List.set_cons_zero, List.modify_zero_cons, MR]
    exact ⟨f e, l', rfl, q1, q2, q3.trans c, d⟩
  | (_, _, _) :: es, _, i + 1, k0, v0, h1, h2, h3 => by
    simp only [MR] at h1
    obtain ⟨e, l', rfl, a, b, c, d⟩ := h1
    simp only [List.getElem?_cons_succ] at h2
    simp only [List.set_cons_succ, List.modify_succ_cons, MR]
    exact ⟨e, _, rfl, a, b, c, MR.modify d h2 (fun e' he' => h3 e' (by simpa using he'))⟩
theorem MR.push {k v : AV} {e : MapEntry} (hk : VR φ k e.key) (hv : VR φ v e.val) : ∀ {es : List (AV × AV × Nat)} {l : List MapEntry}, MR φ es l → MR φ (es ++ [(k, v, e.born)]) (l ++ [e])
  | [], _, h1 => by simp only [MR] at h1; subst h1; simp only [List.nil_append, MR]; exact ⟨e, [], rfl, hk, hv, rfl, rfl⟩
  | (_, _, _) :: es, _, h1 => by
    simp only [MR] at h1
    obtain ⟨e', l', rfl, a, b, c, d⟩ := h1
    simp only [List.cons_append, MR]
    exact ⟨e', _, rfl, a, b, c, MR.push hk hv d⟩
theorem MR.at : ∀ {es : List (AV × AV × Nat)} {l : List MapEntry} {i : Nat} {k v : AV} {n : Nat}, MR φ es l → es[i]? = some (k, v, n) → ∃ e, l[i]? = some e ∧ VR φ k e.key ∧ VR φ v e.val ∧ e.born = n
  | [], _, _, _, _, _, _, h2 => by simp at h2
  | (_, _, _) :: es, _, 0, _, _, _, h1, h2 => by
    simp only [MR] at h1
    obtain ⟨e, l', rfl, a, b, c, d⟩ := h1
    simp at h2
    obtain ⟨rfl, rfl, rfl⟩ := h2
    exact ⟨e, by simp, a, b, c⟩
  | (_, _, _) :: es, _, i + 1, _, _, _, h1, h2 => by
    simp only [MR] at h1
    obtain ⟨e, l', rfl, a, b, c, d⟩ := h1
    simp only [List.getElem?_cons_succ] at h2
    obtain ⟨e', he, r⟩ := MR.at d h2
    exact ⟨e', by simpa using he, r⟩
theorem findA_at {k : AV} : ∀ {es : List (AV × AV × Nat)} {i j : Nat} {v : AV}, findA k es i = some (some (j, v)) → i ≤ j ∧ ∃ k' n, es[j - i]? = some (k', v, n)
  | [], _, _, _, h1 => by simp [findA] at h1
  | (k', u, n) :: es, i, j, v, h1 => by
    unfold findA at h1
    split at h1
    · cases h1; exact ⟨Nat.le_refl _, k', n, by simp⟩
    · obtain ⟨h2, k'', n', h3⟩ := findA_at h1
      refine ⟨by omega, k'', n', ?_⟩
      rw [show j - i = (j - (i + 1)) + 1 by omega, List.getElem?_cons_succ]; exact h3
    · cases h1
theorem stays {d : TypeDesc} {k : AV} {kv : Value} (hk : keyKind d k = true) (hv : VR φ k kv) (w : World) : (Instr.keyThatStays kv kv).run P w = .ok kv w := by
  unfold keyKind at hk
  split at hk <;> first | (simp only [VR] at hv; subst hv; simp [Instr.keyThatStays, Instr.sameBits, beq_bytes, go_sem]; done) | cases hk
theorem setMap {w : World} {x : Nat} {ob ob' : Obj} (hb : w.heap[x]? = some ob) (hn : ∀ c e f, ob ≠ .cells c e f) : (setObj x ob').run P w = .ok () { w with heap := w.heap.setIfInBounds x ob' } := by
  cases ob <;> first | (simp [setObj, Sem.run, hb]; done) | exact absurd rfl (hn _ _ _)
theorem Rel.setAt (r : Rel w0 φ h w) {b : Nat} {o o' : AO} {x κ : Nat} {ob ob' : Obj} (k : h.mayPut b = true) (hb : h.get b = some o) (he : φ b = some (x, κ)) (hx : w.heap[x]? = some ob) (ho : objR φ κ o' ob') :
    Rel w0 φ (h.put b o') { w with heap := w.heap.setIfInBounds x ob' } := by
  have hlt : x < w.heap.size := (Array.getElem?_eq_some_iff.1 hx).1
  exact r.set k hb he ho rfl rfl rfl (by simp) (by simp [hlt]) (fun j hj => by simp [Array.getElem?_setIfInBounds, Ne.symm hj])
theorem mapPutA_ok {t : Nat} {m k v : AV} {mv kv vv : Value} {h' : AH} (hp : mapPutA P t m k v h = some h') (hm : VR φ m mv) (hk : VR φ k kv) (hv : VR φ v vv) (r : Rel w0 φ h w) : UnitOK P w0 φ h w (Instr.mapUpdate t mv kv vv) h' := by
  unfold mapPutA at hp
  split at hp
  · rename_i kt et hu
    split at hp
    · rename_i d hd
      split at hp
      · rename_i b
        simp only [VR] at hm
        obtain ⟨x, κ, hφ, rfl⟩ := hm
        split at hp
        · rename_i es clk hb
          cases hc : (keyKind d k && h.mayPut b) with
          | false => rw [hc] at hp; cases hp
          | true =>
            rw [hc, cond_true] at hp
            simp only [Bool.and_eq_true] at hc
            obtain ⟨l, hx, hml⟩ := r.mapAt hb hφ
            have h0 : (getObj x).run P w = .ok (.map l.toArray clk) w := by simp [getObj, Sem.run, hx]
            have h1 := checkKey_ok (P := P) (φ := φ) hd hc.1 hk false w
            split at hp
            · rename_i i v0 hf
              split at hp
              · rename_i k0 v1 n hes
                cases hp
                obtain ⟨r', f1, f2⟩ := findA_ok hc.1 hk hf hml
                rcases f2 with ⟨q, _⟩ | ⟨j, a, u, e1, rfl, e3, e4, e, e5, e6⟩
                · cases q
                · cases e1
                  rw [Nat.sub_zero] at e5
                  have h2 := findKey_ok (P := P) hd f1 w
                  have h3 := stays (P := P) hc.1 hk w
                  have e5' : (l.toArray[i]?).map (fun e : MapEntry => e.key) = some kv := by simp [e5, e6]
                  refine ⟨φ, { w with heap := w.heap.setIfInBounds x (.map (l.modify i fun e => { e with key := kv, val := vv }).toArray clk) }, Phi.le_refl _, ?_, r.setAt hc.2 hb hφ hx ⟨_, rfl, ?_⟩, AH.put_keep hc.2⟩
                  · have h4 := fun o' => setMap (P := P) (ob' := o') hx (by simp)
                    simp only [Instr.mapUpdate, Sem.run_bind, run_underlying hu, Result.andThen_ok, h0, h1, h2, e5', Option.getD_some, h3, h4, List.modify_toArray]
                  · refine MR.modify hml hes fun e' _ _ _ => ⟨hk, hv, rfl⟩
              · cases hp
            · rename_i hf
              cases hp
              obtain ⟨r', f1, f2⟩ := findA_ok hc.1 hk hf hml
              rcases f2 with ⟨_, rfl⟩ | ⟨j, a, u, e1, _⟩
              · have h2 := findKey_ok (P := P) hd f1 w
                refine ⟨φ, { w with heap := w.heap.setIfInBounds x (.map (l ++ [({ key := kv, val := vv, born := clk } : MapEntry)]).toArray (clk + 1)) }, Phi.le_refl _, ?_, r.setAt hc.2 hb hφ hx ⟨_, rfl, ?_⟩, AH.put_keep hc.2⟩
                · have h4 := fun o' => setMap (P := P) (ob' := o') hx (by simp)
                  simp only [Instr.mapUpdate, Sem.run_bind, run_underlying hu, Result.andThen_ok, h0, h1, h2, h4, List.push_toArray]
                · exact MR.push (e := { key := kv, val := vv, born := clk }) hk hv hml
              · cases e1
            · cases hp
        · cases hp
      · cases hp
    · cases hp
  · cases hp
theorem mapEntryA_ok {t : Nat} {m k a : AV} {mv kv : Value} {h' : AH} (hp : mapEntryA P t m k h = some (a, h')) (hm : VR φ m mv) (hk : VR φ k kv) (r : Rel w0 φ h w) : SemOK P w0 φ h w (Instr.mapEntry t mv kv) a h' := by
  unfold mapEntryA at hp
  split at hp
  · rename_i kt et hu
    split at hp
    · rename_i d hd
      split at hp
      · rename_i b
        simp only [VR] at hm
        obtain ⟨x, κ, hφ, rfl⟩ := hm
        split at hp
        · rename_i es clk hb
          cases hc : (keyKind d k && h.mayPut b) with
          | false => rw [hc] at hp; cases hp
          | true =>
            rw [hc, cond_true] at hp
            simp only [Bool.and_eq_true] at hc
            obtain ⟨l, hx, hml⟩ := r.mapAt hb hφ
            have h0 : (getObj x).run P w = .ok (.map l.toArray clk) w := by simp [getObj, Sem.run, hx]
            have h1 := checkKey_ok (P := P) (φ := φ) hd hc.1 hk false w
            have h4 := fun o' => setMap (P := P) (ob' := o') hx (by simp)
            split at hp
            · rename_i i v0 hf
              split at hp
              · rename_i k0 v1 n hes
                cases hp
                obtain ⟨r', f1, f2⟩ := findA_ok hc.1 hk hf hml
                obtain ⟨_, k9, n9, f3⟩ := findA_at hf
                rw [Nat.sub_zero, hes] at f3
                cases f3
                rcases f2 with ⟨q, _⟩ | ⟨j, a, u, e1, rfl, e3, e4, e, e5, e6⟩
                · cases q
                · cases e1
                  rw [Nat.sub_zero] at e5
                  have h2 := findKey_ok (P := P) hd f1 w
                  have h3 := stays (P := P) hc.1 hk w
                  have e5' : (l.toArray[i]?).map (fun e : MapEntry => e.key) = some kv := by simp [e5, e6]
                  obtain ⟨e9, g1, g2, g3, g4⟩ := MR.at hml hes
                  have e5'' : (l.toArray[i]?).map (fun e : MapEntry => (e.born : Int)) = some (n : Int) := by simp [g1, g4]
                  refine ⟨φ, .tuple #[u, .int .i64 (n : Int)], { w with heap := w.heap.setIfInBounds x (.map (l.modify i fun e => { e with key := kv }).toArray clk) }, Phi.le_refl _, ?_, ?_, r.setAt hc.2 hb hφ hx ⟨_, rfl, ?_⟩, AH.put_keep hc.2⟩
                  · simp only [Instr.mapEntry, Sem.run_bind, run_underlying hu, Result.andThen_ok, h0, h1, h2, e5', e5'', Option.getD_some, h3, h4, List.modify_toArray, Sem.run_pure, goInt]
                  · simp only [VR]; exact ⟨[u, .int .i64 (n : Int)], .cons e3 (.cons (by simp [VR]) .nil), rfl⟩
                  · refine MR.modify hml hes fun e' _ _ q => ⟨hk, q, rfl⟩
              · cases hp
            · rename_i hf
              split at hp
              · rename_i z hz
                cases hp
                obtain ⟨zv, z1, z2⟩ := zeroA_run (φ := φ) hz
                obtain ⟨r', f1, f2⟩ := findA_ok hc.1 hk hf hml
                rcases f2 with ⟨_, rfl⟩ | ⟨j, a, u, e1, _⟩
                · have h2 := findKey_ok (P := P) hd f1 w
                  refine ⟨φ, .tuple #[zv, .int .i64 (clk : Int)], { w with heap := w.heap.setIfInBounds x (.map (l ++ [({ key := kv, val := zv, born := clk } : MapEntry)]).toArray (clk + 1)) }, Phi.le_refl _, ?_, ?_, r.setAt hc.2 hb hφ hx ⟨_, rfl, ?_⟩, AH.put_keep hc.2⟩
                  · simp only [Instr.mapEntry, Sem.run_bind, run_underlying hu, Result.andThen_ok, h0, h1, h2, z1, h4, List.push_toArray, Sem.run_pure, goInt]
                  · simp only [VR]; exact ⟨[zv, .int .i64 (clk : Int)], .cons z2 (.cons (by simp [VR]) .nil), rfl⟩
                  · exact MR.push (e := { key := kv, val := zv, born := clk }) hk z2 hml
                · cases e1
              · cases hp
            · cases hp
        · cases hp
      · cases hp
    · cases hp
  · cases hp
theorem bornAt_ok {s : Nat} : ∀ {es : List (AV × AV × Nat)} {l : List MapEntry} {i : Nat}, bornAt s es = some i → MR φ es l → l.findIdx? (fun e => (e.born : Int) == (s : Int)) = some i
  | [], _, _, h1, _ => by simp [bornAt] at h1
  | (_, _, n) :: es, _, i, h1, h2 => by
    simp only [MR] at h2
    obtain ⟨e, l', rfl, _, _, c, d⟩ := h2
    unfold bornAt at h1
    rw [List.findIdx?_cons]
    rcases beq_cases n s with ⟨q, q'⟩ | ⟨q, q'⟩
    · rw [q, cond_true] at h1; cases h1
      have : ((e.born : Int) == (s : Int)) = true := by simp; omega
      rw [this]; rfl
    · rw [q, cond_false] at h1
      split at h1
      · rename_i j hj
        cases h1
        have : ((e.born : Int) == (s : Int)) = false := by simp; omega
        rw [this, bornAt_ok hj d]; rfl
      · cases h1
theorem entryStoreA_ok {t : Nat} {m s v : AV} {mv sv vv : Value} {h' : AH} (hp : entryStoreA m s v h = some h') (hm : VR φ m mv) (hs : VR φ s sv) (hv : VR φ v vv) (r : Rel w0 φ h w) : UnitOK P w0 φ h w (Instr.entryStore t mv sv vv) h' := by
  unfold entryStoreA at hp
  split at hp
  · rename_i b
    simp only [VR] at hm
    obtain ⟨x, κ, hφ, rfl⟩ := hm
    split at hp
    · rename_i es clk hb
      obtain ⟨l, hx, hml⟩ := r.mapAt hb hφ
      split at hp
      · rename_i n hn
        obtain ⟨ks, rfl⟩ := natOf_VR hn hs
        split at hp
        · rename_i i hi
          split at hp
          · rename_i k0 v0 n' hes
            cases hc : h.mayPut b with
            | false => rw [hc] at hp; cases hp
            | true =>
              rw [hc, cond_true] at hp; cases hp
              have h0 : (getObj x).run P w = .ok (.map l.toArray clk) w := by simp [getObj, Sem.run, hx]
              have h1 : l.toArray.findIdx? (fun e => (e.born : Int) == (n : Int)) = some i := by rw [List.findIdx?_toArray]; exact bornAt_ok hi hml
              refine ⟨φ, { w with heap := w.heap.setIfInBounds x (.map (l.modify i fun e => { e with val := vv }).toArray clk) }, Phi.le_refl _, ?_, r.setAt hc hb hφ hx ⟨_, rfl, ?_⟩, AH.put_keep hc⟩
              · have h4 := fun o' => setMap (P := P) (ob' := o') hx (by simp)
                simp only [Instr.entryStore, Sem.run_bind, Result.andThen_ok, h0, asInt, asIntOf, Sem.run_pure, h1, h4, List.modify_toArray]
              · refine MR.modify hml hes fun e' _ q _ => ⟨q, hv, rfl⟩
          · cases hp
        · cases hp
      · cases hp
    · cases hp
  · cases hp
theorem rangeA_ok {t : Nat} {a r : AV} {v : Value} {h' : AH} (hp : rangeA P t a h = some (r, h')) (hv : VR φ a v) (rl : Rel w0 φ h w) : SemOK P w0 φ h w (Instr.range t v) r h' := by
  unfold rangeA at hp
  split at hp
  · rename_i hu
    split at hp
    · rename_i l
      cases hc : h.roomy with
      | false => rw [hc] at hp; cases hp
      | true =>
        rw [hc, cond_true] at hp; cases hp
        simp only [VR] at hv; subst hv
        refine ⟨ext φ h.nx (w.heap.size, 0), .pointer (some ⟨w.heap.size, 0, none⟩), w.alloc (.stringIter ⟨l.toArray⟩ 0), ext_le (rl.dom _ (Nat.le_refl _)), ?_, ?_, rl.alloc hc (by simp [objR]), AH.add_keep hc⟩
        · simp [Instr.range, run_underlying hu, go_sem]
        · simp only [VR]; exact ⟨_, _, ext_same _ _ _, rfl⟩
    · cases hp
  · cases hp
theorem nextA_ok {t : Nat} {a r : AV} {v : Value} {h' : AH} (hp : nextA a h = some (r, h')) (hv : VR φ a v) (rl : Rel w0 φ h w) : SemOK P w0 φ h w (Instr.next v true t) r h' := by
  unfold nextA at hp
  split at hp
  · rename_i b
    simp only [VR] at hv
    obtain ⟨x, κ, hφ, rfl⟩ := hv
    split at hp
    · rename_i s p hb
      obtain ⟨_, x', κ', ob, e1, e2, e3⟩ := rl.obj _ _ hb
      rw [hφ] at e1; cases e1
      simp only [objR] at e3; subst e3
      have h0 : (getObj x).run P w = .ok (.stringIter ⟨s.toArray⟩ p) w := by simp [getObj, Sem.run, e2]
      cases hb' : Nat.blt p s.length with
      | false =>
        rw [hb', cond_false] at hp; cases hp
        have hge : ¬ p < s.length := by rw [← Nat.blt_eq]; simp [hb']
        refine ⟨φ, .tuple #[.bool false], w, Phi.le_refl _, ?_, by simp only [VR]; exact ⟨[.bool false], .single (by simp [VR]), rfl⟩, rl, Keep.refl _⟩
        simp only [Instr.next, Sem.run_bind, h0, Result.andThen_ok, S_size]
        rw [if_neg hge]; rfl
      | true =>
        rw [hb', cond_true] at hp
        have hlt : p < s.length := by simpa [Nat.blt_eq] using hb'
        cases hc : h.mayPut b with
        | false => rw [hc] at hp; cases hp
        | true =>
          rw [hc, cond_true] at hp; cases hp
          refine ⟨φ, .tuple #[.bool true, .int .i64 (p : Int), .int .i32 ((Utf8.decode ⟨s.toArray⟩ p).1 : Int)], { w with heap := w.heap.setIfInBounds x (.stringIter ⟨s.toArray⟩ (p + (Utf8.decode ⟨s.toArray⟩ p).2)) }, Phi.le_refl _, ?_, ?_, rl.setAt hc hb hφ e2 (by simp [objR]), AH.put_keep hc⟩
          · have h4 := fun o' => setMap (P := P) (ob' := o') e2 (by simp)
            simp only [Instr.next, Sem.run_bind, h0, Result.andThen_ok, S_size]
            rw [if_pos hlt]
            simp only [Sem.run_bind, h4, Result.andThen_ok, goInt, Sem.run_pure]
          · simp only [VR]; exact ⟨[.bool true, .int .i64 (p : Int), .int .i32 ((Utf8.decode ⟨s.toArray⟩ p).1 : Int)], .cons (by simp [VR]) (.cons (by simp [VR]) (.single (by simp [VR]))), rfl⟩
    · cases hp
  · cases hp
end
end Ev
end Go.Proofs.YtaegacblpbbndaaDoor
end
