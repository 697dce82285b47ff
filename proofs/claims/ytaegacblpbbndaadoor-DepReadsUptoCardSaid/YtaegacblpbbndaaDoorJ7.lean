/- The texts Ev8 of the proof, joined. Each says at its theorems what it proves. -/
import Derived.Test.YtaegacblpbbndaaDoorJ6
set_option linter.unusedSimpArgs false
set_option linter.unusedVariables false
section
namespace Go.Proofs.YtaegacblpbbndaaDoor
open Go Go.RowKit
set_option linter.unusedSimpArgs false
set_option linter.unusedVariables false
namespace Ev
section
variable (P : Program)
noncomputable def tby (t : Nat) : Option Nat := match P.info? t with
  | some i => some i.bytes
  | none => none
noncomputable def zeroRowA (z : List AV) (n : Nat) : List AV := (List.range n).map fun i => (z[i % z.length]?).getD (.tup [])
noncomputable def addRow (h : AH) (c : List AV) (e : Nat) : Option AH := bif h.roomy then some (h.add (.row c e 0 false)) else none
noncomputable def buildSliceA (t len : Nat) (ps : List (Nat × AV)) (h : AH) : Option (AV × AH) := match P.underlying t with
  | some (.slice e) => match tsz P e with
    | some size => match zeroA P e with
      | some z => bif Nat.beq (cellsOf z).length size && !aggd z && Nat.blt 0 size && Nat.ble (len * size) 1000000 then (match fillA (fun i => some (i * size, size)) (zeroRowA (cellsOf z) (len * size)) ps with
          | some c => match addRow h c e with
            | some h' => some (.sl h.nx 0 len len false, h')
            | none => none
          | none => none) else none
      | none => none
    | none => none
  | _ => none
noncomputable def makeSliceA (t : Nat) (l c : AV) (h : AH) : Option (AV × AH) := match P.underlying t with
  | some (.slice e) => match tsz P e with
    | some size => match zeroA P e with
      | some z => match tby P e with
        | some by_ => match natOf l with
          | some n => match natOf c with
            | some m => bif Nat.beq (cellsOf z).length size && !aggd z && Nat.blt 0 size && Nat.ble n m && Nat.ble m 1000000 && Nat.ble (by_ * m) 1000000000 then (match addRow h (zeroRowA (cellsOf z) (m * size)) e with
                | some h' => some (.sl h.nx 0 n m false, h')
                | none => none) else none
            | none => none
          | none => none
        | none => none
      | none => none
    | none => none
  | _ => none
noncomputable def writeA (h : AH) (b off : Nat) (as : List AV) : Option AH := match h.get b with
  | some (.row c e sz op) => bif Nat.ble (off + as.length) c.length && ones as && h.mayPut b then some (h.put b (.row (c.take off ++ as ++ c.drop (off + as.length)) e sz op)) else none
  | _ => none
noncomputable def storeA (t : Nat) (a v : AV) (h : AH) : Option AH := match a with
  | .ptr b off => match tsz P t with
    | some n => bif Nat.beq (cellsOf v).length n && !aggd v then writeA h b off (cellsOf v) else none
    | none => none
  | _ => none
noncomputable def mapPutA (t : Nat) (m k v : AV) (h : AH) : Option AH := match P.underlying t with
  | some (.map kt _) => match P.underlying kt with
    | some d => match m with
      | .map b => match h.get b with
        | some (.map es clk) => bif keyKind d k && h.mayPut b then (match findA k es 0 with
            | some (some (i, _)) => match es[i]? with
              | some (_, _, n) => some (h.put b (.map (es.set i (k, v, n)) clk))
              | none => none
            | some none => some (h.put b (.map (es ++ [(k, v, clk)]) (clk + 1)))
            | none => none) else none
        | _ => none
      | _ => none
    | none => none
  | _ => none
end
section
variable {P : Program} {φ : Phi} {w0 : Base} {w : World} {h : AH}
theorem tby_info {t n m : Nat} (h1 : tby P t = some n) (h2 : tsz P t = some m) : ∃ i, P.info? t = some i ∧ i.bytes = n ∧ i.size = m := by
  unfold tby at h1
  unfold tsz at h2
  split at h1
  · rename_i i hi
    rw [hi] at h2
    cases h1; cases h2; exact ⟨i, hi, rfl, rfl⟩
  · cases h1
theorem VRl.of_map {f : Nat → AV} {g : Nat → Value} : ∀ {l : List Nat}, (∀ i ∈ l, VR φ (f i) (g i)) → VRl φ (l.map f) (l.map g)
  | [], _ => .nil
  | a :: l, k => .cons (k a (by simp)) (VRl.of_map fun i hi => k i (by simp [hi]))
theorem zeroRowA_ok {z : List AV} {zs : Array Value} (hz : VRl φ z zs.toList) (hp : 0 < z.length) (n : Nat) : VRl φ (zeroRowA z n) ((Array.range n).map fun i => zs[i % zs.size]!).toList := by
  rw [Array.toList_map, Array.toList_range]
  refine VRl.of_map fun i _ => ?_
  have hl : zs.size = z.length := by have := hz.length; simpa using this
  have hlt : i % z.length < z.length := Nat.mod_lt _ hp
  rw [hl, List.getElem?_eq_getElem hlt]
  obtain ⟨v, hv, hr⟩ := hz.get (i := i % z.length) (List.getElem?_eq_getElem hlt)
  have hv' : zs[i % z.length]! = v := by
    rw [getElem!_def]
    have : zs[i % z.length]? = some v := by simpa using hv
    rw [this]
  rw [hv']; exact hr
theorem addRow_ok {c : List AV} {e : Nat} {h' : AH} (ha : addRow h c e = some h') {cs : Array Value} (hc : VRl φ c cs.toList) (r : Rel w0 φ h w) :
    ∃ κ, φ.le (ext φ h.nx (w.heap.size, κ)) ∧ Rel w0 (ext φ h.nx (w.heap.size, κ)) h' (w.alloc (.cells cs e)) ∧ Keep h h' := by
  unfold addRow at ha
  cases hr : h.roomy with
  | false => rw [hr] at ha; cases ha
  | true =>
    rw [hr, cond_true] at ha; cases ha
    exact ⟨0, ext_le (r.dom _ (Nat.le_refl _)), r.alloc hr ⟨cs.toList, cs, rfl, hc, .inr ⟨rfl, rfl⟩⟩, AH.add_keep hr⟩
theorem run_newRow (e : Nat) (cs : Array Value) (w : World) : (newRow e cs).run P w = .ok ⟨w.heap.size, 0, none⟩ (w.alloc (.cells cs e)) := rfl
def SemOK (P : Program) (w0 : Base) (φ : Phi) (h : AH) (w : World) (s : Sem Value) (a : AV) (h' : AH) : Prop :=
  ∃ φ' v w', φ.le φ' ∧ s.run P w = .ok v w' ∧ VR φ' a v ∧ Rel w0 φ' h' w' ∧ Keep h h'
def UnitOK (P : Program) (w0 : Base) (φ : Phi) (h : AH) (w : World) (s : Sem Unit) (h' : AH) : Prop :=
  ∃ φ' w', φ.le φ' ∧ s.run P w = .ok () w' ∧ Rel w0 φ' h' w' ∧ Keep h h'
theorem alloc_ok {t : Nat} {z : AV} {h' : AH} (hz : zeroA P t = some z) (hd : aggd z = false) (ha : addRow h (cellsOf z) t = some h') (r : Rel w0 φ h w) :
    SemOK P w0 φ h w (Instr.alloc t true (.tuple #[])) (.ptr h.nx 0) h' := by
  obtain ⟨zv, h1, h2⟩ := zeroA_run (φ := φ) hz
  obtain ⟨κ, k1, k2, k3⟩ := addRow_ok ha (h2.cells hd) r
  refine ⟨_, .pointer (some ⟨w.heap.size, 0, none⟩), _, k1, ?_, by simp only [VR]; exact ⟨_, _, ext_same _ _ _, rfl⟩, k2, k3⟩
  simp only [Instr.alloc, Sem.run_bind, h1, Result.andThen_ok, newVar, run_newRow, Sem.run_pure]
theorem box_ok {t : Nat} {a : AV} {v : Value} {h' : AH} (hv : VR φ a v) (hd : aggd a = false) (ha : addRow h (cellsOf a) t = some h') (r : Rel w0 φ h w) :
    SemOK P w0 φ h w (Instr.box t v) (.ptr h.nx 0) h' := by
  obtain ⟨κ, k1, k2, k3⟩ := addRow_ok ha (hv.cells hd) r
  refine ⟨_, .pointer (some ⟨w.heap.size, 0, none⟩), _, k1, ?_, by simp only [VR]; exact ⟨_, _, ext_same _ _ _, rfl⟩, k2, k3⟩
  simp only [Instr.box, Sem.run_bind, Result.andThen_ok, newVar, run_newRow, Sem.run_pure]
theorem buildSliceA_ok {t len : Nat} {ps : List (Nat × AV)} {qs : Array (Nat × Value)} {a : AV} {h' : AH} (hb : buildSliceA P t len ps h = some (a, h')) (hp : NR φ ps qs.toList) (r : Rel w0 φ h w) :
    SemOK P w0 φ h w (Instr.buildSlice t len qs) a h' := by
  unfold buildSliceA at hb
  split at hb
  · rename_i e hu
    split at hb
    · rename_i size hs
      split at hb
      · rename_i z hz
        cases hc : (Nat.beq (cellsOf z).length size && !aggd z && Nat.blt 0 size && Nat.ble (len * size) 1000000) with
        | false => rw [hc] at hb; cases hb
        | true =>
          rw [hc, cond_true] at hb
          simp only [Bool.and_eq_true, Bool.not_eq_true'] at hc
          obtain ⟨⟨⟨c1, c2⟩, c3⟩, c4⟩ := hc
          have c1' := Nat.eq_of_beq_eq_true c1
          have c3' : 0 < size := by simpa [Nat.blt_eq] using c3
          have c4' := ble_of c4
          split at hb
          · rename_i c hf
            split at hb
            · rename_i h2 ha
              cases hb
              obtain ⟨zv, h1, h3⟩ := zeroA_run (φ := φ) hz
              have hzr := zeroRowA_ok (h3.cells c2) (by omega) (len * size)
              obtain ⟨rs, f1, f2⟩ := fillA_run _ ps qs.toList _ ((Array.range (len * size)).map fun i => zv.cells[i % zv.cells.size]!) c hf hp hzr
              obtain ⟨κ, k1, k2, k3⟩ := addRow_ok ha f2 r
              refine ⟨_, .slice (some ⟨w.heap.size, 0, none⟩) len len, _, k1, ?_, by simp only [VR]; exact ⟨_, _, ext_same _ _ _, .inr ⟨trivial, rfl⟩⟩, k2, k3⟩
              by_cases h0 : len * size = 0
              · have hl0 : len = 0 := by rcases Nat.mul_eq_zero.1 h0 with q | q <;> omega
                subst hl0
                have hr0 : ∀ f : Nat → Value, (Array.range (0 * size)).map f = #[] := fun f => by rw [Nat.zero_mul]; simp
                rw [hr0] at f1
                simp only [Instr.buildSlice, Sem.run_bind, run_underlying hu, Result.andThen_ok, tsz_run hs, Sem.run_pure]
                rw [if_neg (by omega), if_pos h0]
                simp only [Sem.run_pure, Result.andThen_ok, Sem.run_bind, hr0, f1, run_newRow]
              · simp only [Instr.buildSlice, Sem.run_bind, run_underlying hu, Result.andThen_ok, tsz_run hs, if_neg h0, Sem.run_pure]
                rw [if_neg (by omega)]
                simp only [Sem.run_pure, Result.andThen_ok, Sem.run_bind, h1, f1, run_newRow]
            · cases hb
          · cases hb
      · cases hb
    · cases hb
  · cases hb
theorem wrap_small {n : Nat} (h : n ≤ 1000000) : IntKind.i64.wrap (n : Int) = (n : Int) := by
  simp only [IntKind.wrap, IntKind.signed, IntKind.bits]
  simp
  omega
theorem makeSliceA_ok {t : Nat} {l c a : AV} {lv cv : Value} {h' : AH} (hb : makeSliceA P t l c h = some (a, h')) (hl : VR φ l lv) (hc : VR φ c cv) (r : Rel w0 φ h w) :
    SemOK P w0 φ h w (Instr.makeSlice t lv cv) a h' := by
  unfold makeSliceA at hb
  split at hb
  · rename_i e hu
    split at hb
    · rename_i size hs
      split at hb
      · rename_i z hz
        split at hb
        · rename_i by_ hby
          split at hb
          · rename_i n hn
            split at hb
            · rename_i m hm
              cases hcc : (Nat.beq (cellsOf z).length size && !aggd z && Nat.blt 0 size && Nat.ble n m && Nat.ble m 1000000 && Nat.ble (by_ * m) 1000000000) with
              | false => rw [hcc] at hb; cases hb
              | true =>
                rw [hcc, cond_true] at hb
                simp only [Bool.and_eq_true, Bool.not_eq_true'] at hcc
                obtain ⟨⟨⟨⟨⟨c1, c2⟩, c3⟩, c4⟩, c5⟩, c6⟩ := hcc
                have c1' := Nat.eq_of_beq_eq_true c1
                have c3' : 0 < size := by simpa [Nat.blt_eq] using c3
                have c4' := ble_of c4; have c5' := ble_of c5; have c6' := ble_of c6
                split at hb
                · rename_i h2 ha
                  cases hb
                  obtain ⟨zv, h1, h3⟩ := zeroA_run (φ := φ) hz
                  have hzr := zeroRowA_ok (h3.cells c2) (by omega) (m * size)
                  obtain ⟨κ, k1, k2, k3⟩ := addRow_ok ha hzr r
                  obtain ⟨kl, rfl⟩ := natOf_VR hn hl
                  obtain ⟨kc, rfl⟩ := natOf_VR hm hc
                  obtain ⟨i, hi, hib, hisz⟩ := tby_info hby hs
                  have ht : (typeInfo e).run P w = .ok i w := by simp [typeInfo, hi, go_sem]
                  refine ⟨_, .slice (some ⟨w.heap.size, 0, none⟩) n m, _, k1, ?_, by simp only [VR]; exact ⟨_, _, ext_same _ _ _, .inr ⟨trivial, rfl⟩⟩, k2, k3⟩
                  have w1 := wrap_small c5'
                  have w2 := wrap_small (Nat.le_trans c4' c5')
                  have g1 : ¬ ((i.bytes : Int) * (m : Int) > 2 ^ 48) := by
                    rw [hib]
                    have h5 : ((by_ * m : Nat) : Int) ≤ ((1000000000 : Nat) : Int) := Int.ofNat_le.2 c6'
                    rw [Int.natCast_mul] at h5
                    have h6 : (2 : Int) ^ 48 = 281474976710656 := rfl
                    omega
                  have g2 : ¬ ((m : Int) < 0) := by omega
                  have g3 : ¬ ((n : Int) < 0) := by omega
                  have g4 : ¬ ((n : Int) > (m : Int)) := by omega
                  have cnd : ((decide ((m : Int) < 0) || decide ((i.bytes : Int) * (m : Int) > 2 ^ 48)) || decide ((n : Int) < 0) || decide ((n : Int) > (m : Int))) = false := by
                    rw [decide_eq_false g1, decide_eq_false g2, decide_eq_false g3, decide_eq_false g4]; rfl
                  by_cases q : m * size = 0
                  · have hr0 : ∀ f : Nat → Value, (Array.range (m * size)).map f = #[] := fun f => by rw [q]; simp
                    simp only [Instr.makeSlice, asInt, asIntOf, Sem.run_bind, run_underlying hu, Result.andThen_ok, Sem.run_pure, ht, w1, w2]
                    rw [if_neg (by rw [cnd]; simp)]
                    simp only [Sem.run_bind, run_askRoom, Int.toNat_natCast, tsz_run hs, Result.andThen_ok, if_pos q, Sem.run_pure, hr0, run_newRow]
                  · simp only [Instr.makeSlice, asInt, asIntOf, Sem.run_bind, run_underlying hu, Result.andThen_ok, Sem.run_pure, ht, w1, w2]
                    rw [if_neg (by rw [cnd]; simp)]
                    simp only [Sem.run_bind, run_askRoom, Int.toNat_natCast, tsz_run hs, Result.andThen_ok, if_neg q, h1, Sem.run_pure, run_newRow]
                · cases hb
            · cases hb
          · cases hb
        · cases hb
      · cases hb
    · cases hb
  · cases hb
theorem take_append_le {α : Type} {l m : List α} {n : Nat} (h : n ≤ l.length) : (l ++ m).take n = l.take n := by rw [List.take_append_of_le_length h]
theorem writeA_ok {b off : Nat} {as : List AV} {us : List Value} {h' : AH} (hw : writeA h b off as = some h') (hu : VRl φ as us) {x κ : Nat} (hx : φ b = some (x, κ)) (r : Rel w0 φ h w) :
    ∃ w', (storeCells ⟨x, off, none⟩ us).run P w = .ok () w' ∧ Rel w0 φ h' w' ∧ Keep h h' := by
  unfold writeA at hw
  split at hw
  · rename_i c e sz op hb
    cases hc : (Nat.ble (off + as.length) c.length && ones as && h.mayPut b) with
    | false => rw [hc] at hw; cases hw
    | true =>
      rw [hc, cond_true] at hw; cases hw
      simp only [Bool.and_eq_true] at hc
      obtain ⟨⟨c1, c2⟩, c3⟩ := hc
      have c1' := ble_of c1
      obtain ⟨cs, vs, rest, e1, e2, e3, e4⟩ := r.row hb hx
      have hlu := hu.length
      have hlv := e2.length
      have hcs : cs.size = vs.length + rest.length := by have := congrArg List.length e3; simpa using this
      have hrun := run_storeCells_at P x off e us 0 cs w e1 (by omega) (hu.ones c2)
      refine ⟨_, hrun, ?_, AH.put_keep c3⟩
      have hnew : (cs.toList.take (off + 0) ++ us ++ cs.toList.drop (off + 0 + us.length)) = (vs.take off ++ us ++ vs.drop (off + us.length)) ++ rest := by
        rw [e3, Nat.add_zero, take_append_le (by omega), List.drop_append_of_le_length (by omega)]
        simp
      rw [hnew]
      refine r.set c3 hb hx (κ := κ) (ob' := .cells ((vs.take off ++ us ++ vs.drop (off + us.length)) ++ rest).toArray e (0, 0)) ?_ rfl rfl rfl (by simp) (setRow_heap w x cs _ e _ e1) (fun j hj => setRow_other w x j _ hj)
      refine ⟨vs.take off ++ us ++ vs.drop (off + us.length), _, rfl, ?_, ?_⟩
      · rw [hlu]
        exact ((e2.take off).append hu).append (e2.drop _)
      · rcases e4 with ⟨q1, q2⟩ | ⟨q1, q2⟩
        · refine .inl ⟨q1, ⟨rest, rfl⟩, ?_⟩
          rw [← q2, hcs]
          simp
          omega
        · refine .inr ⟨q1, ?_⟩
          subst q2; simp
  · cases hw
theorem storeA_ok {t : Nat} {a v : AV} {av vv : Value} {h' : AH} (hs : storeA P t a v h = some h') (ha : VR φ a av) (hv : VR φ v vv) (r : Rel w0 φ h w) : UnitOK P w0 φ h w (Instr.storeAt t av vv) h' := by
  unfold storeA at hs
  split at hs
  · rename_i b off
    simp only [VR] at ha
    obtain ⟨x, κ, hφ, rfl⟩ := ha
    split at hs
    · rename_i n hn
      cases hc : (Nat.beq (cellsOf v).length n && !aggd v) with
      | false => rw [hc] at hs; cases hs
      | true =>
        rw [hc, cond_true] at hs
        simp only [Bool.and_eq_true, Bool.not_eq_true'] at hc
        have hcells := hv.cells hc.2
        obtain ⟨w', h1, h2, h3⟩ := writeA_ok (P := P) hs hcells hφ r
        refine ⟨φ, w', Phi.le_refl _, ?_, h2, h3⟩
        have hlen : vv.cells.size = n := by have := hcells.length; simp only [Array.length_toList] at this; rw [this]; exact Nat.eq_of_beq_eq_true hc.1
        simp only [Instr.storeAt, Instr.sureAddr, Sem.run_bind, Sem.run_pure, Result.andThen_ok, storeVar, tsz_run hn]
        rw [if_neg (by simp [hlen])]
        exact h1
    · cases hs
  · cases hs
end
end Ev
end Go.Proofs.YtaegacblpbbndaaDoor
end
