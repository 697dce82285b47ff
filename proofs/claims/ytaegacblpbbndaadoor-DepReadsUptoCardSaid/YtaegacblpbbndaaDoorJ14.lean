/- The texts EvM of the proof, joined. Each says at its theorems what it proves. -/
import Derived.Test.YtaegacblpbbndaaDoorJ13
set_option linter.unusedSimpArgs false
set_option linter.unusedVariables false
section
namespace Go.Proofs.YtaegacblpbbndaaDoor
open Go Go.RowKit
set_option linter.unusedSimpArgs false
set_option linter.unusedVariables false
namespace Ev
inductive NK where
  | ptr
  | sl (n c : Nat)
  | map
noncomputable def NK.av (k : NK) (b : Nat) : AV := match k with
  | .ptr => .ptr b 0
  | .sl n c => .sl b 0 n c false
  | .map => .map b
def NK.val (k : NK) (x : Nat) : Value := match k with
  | .ptr => .pointer (some ⟨x, 0, none⟩)
  | .sl n c => .slice (some ⟨x, 0, none⟩) n c
  | .map => .map (some x)
theorem NK.vr {φ : Phi} {k : NK} {b x κ : Nat} (h : φ b = some (x, κ)) : VR φ (k.av b) (k.val x) := by
  cases k <;> simp only [NK.av, NK.val, VR]
  · exact ⟨x, κ, h, rfl⟩
  · exact ⟨x, κ, h, .inr ⟨trivial, rfl⟩⟩
  · exact ⟨x, κ, h, rfl⟩
section
variable (P : Program)
noncomputable def bsliceN (t len : Nat) (ps : List (Nat × AV)) : Option (NK × AO) := match P.underlying t with
  | some (.slice e) => match tsz P e with
    | some size => match zeroA P e with
      | some z => bif Nat.beq (cellsOf z).length size && !aggd z && Nat.blt 0 size && Nat.ble (len * size) 1000000 then (match fillA (fun i => some (i * size, size)) (zeroRowA (cellsOf z) (len * size)) ps with
          | some c => some (.sl len len, .row c e 0 false)
          | none => none) else none
      | none => none
    | none => none
  | _ => none
noncomputable def mksliceN (t : Nat) (l c : AV) : Option (NK × AO) := match P.underlying t with
  | some (.slice e) => match tsz P e with
    | some size => match zeroA P e with
      | some z => match tby P e with
        | some by_ => match natOf l with
          | some n => match natOf c with
            | some m => bif Nat.beq (cellsOf z).length size && !aggd z && Nat.blt 0 size && Nat.ble n m && Nat.ble m 1000000 && Nat.ble (by_ * m) 1000000000 then some (.sl n m, .row (zeroRowA (cellsOf z) (m * size)) e 0 false) else none
            | none => none
          | none => none
        | none => none
      | none => none
    | none => none
  | _ => none
noncomputable def newA (ev : Operand → Option AV) (o : Oper) : Option (NK × AO) := match o.op with
  | .alloc t => match zeroA P t with
    | some z => bif aggd z then none else some (.ptr, .row (cellsOf z) t 0 false)
    | none => none
  | .box t x => match ev x with
    | some a => bif aggd a then none else some (.ptr, .row (cellsOf a) t 0 false)
    | none => none
  | .buildSlice t n parts => match evp ev parts.toList with
    | some ps => bsliceN P t n ps
    | none => none
  | .makeSlice t l c => match ev l with
    | some a => match ev c with
      | some b => mksliceN P t a b
      | none => none
    | none => none
  | .makeMap _ r => match r with
    | none => some (.map, .map [] 0)
    | some _ => none
  | _ => none
end
section
variable {P : Program} {φ : Phi} {ρ : Operand → Value} {ev : Operand → Option AV}
def NewOK (P : Program) (φ : Phi) (s : Sem Value) (k : NK) (ao : AO) : Prop := ∃ ob, objR φ 0 ao ob ∧ ∀ w : World, s.run P w = .ok (k.val w.heap.size) (w.alloc ob)
theorem objR_row {c : List AV} {e : Nat} {cs : Array Value} (h : VRl φ c cs.toList) : objR φ 0 (.row c e 0 false) (.cells cs e) := ⟨cs.toList, cs, rfl, h, .inr ⟨rfl, rfl⟩⟩
theorem bsliceN_ok {t len : Nat} {ps : List (Nat × AV)} {qs : Array (Nat × Value)} {k : NK} {ao : AO} (hb : bsliceN P t len ps = some (k, ao)) (hp : NR φ ps qs.toList) : NewOK P φ (Instr.buildSlice t len qs) k ao := by
  unfold bsliceN at hb
  split at hb
  · rename_i e hu
    split at hb
    · rename_i size hs
      split at hb
      · rename_i z hz
        cases hc : (Nat.beq (cellsOf z).length size && !aggd z && Nat.blt 0 size && Nat.ble (len * size) 1000000) with
        | false => rw [hc] at hb; cases hb
        | true =>
          rw [hc, cond_true] at hb
          simp only [Bool.and_eq_true, Bool.not_eq_true'] at hc
          obtain ⟨⟨⟨c1, c2⟩, c3⟩, c4⟩ := hc
          have c1' := Nat.eq_of_beq_eq_true c1
          have c3' : 0 < size := by simpa [Nat.blt_eq] using c3
          have c4' := ble_of c4
          split at hb
          · rename_i c hf
            cases hb
            obtain ⟨zv, h1, h3⟩ := zeroA_run (φ := φ) hz
            have hzr := zeroRowA_ok (h3.cells c2) (by omega) (len * size)
            obtain ⟨rs, f1, f2⟩ := fillA_run _ ps qs.toList _ ((Array.range (len * size)).map fun i => zv.cells[i % zv.cells.size]!) c hf hp hzr
            refine ⟨_, objR_row f2, fun w => ?_⟩
            show _ = Result.ok (Value.slice (some ⟨w.heap.size, 0, none⟩) len len) _
            by_cases h0 : len * size = 0
            · have hl0 : len = 0 := by rcases Nat.mul_eq_zero.1 h0 with q | q <;> omega
              subst hl0
              have hr0 : ∀ f : Nat → Value, (Array.range (0 * size)).map f = #[] := fun f => by rw [Nat.zero_mul]; simp
              rw [hr0] at f1
              simp only [Instr.buildSlice, Sem.run_bind, run_underlying hu, Result.andThen_ok, tsz_run hs, Sem.run_pure]
              rw [if_neg (by omega), if_pos h0]
              simp only [Sem.run_pure, Result.andThen_ok, Sem.run_bind, hr0, f1, run_newRow]
            · simp only [Instr.buildSlice, Sem.run_bind, run_underlying hu, Result.andThen_ok, tsz_run hs, if_neg h0, Sem.run_pure]
              rw [if_neg (by omega)]
              simp only [Sem.run_pure, Result.andThen_ok, Sem.run_bind, h1, f1, run_newRow]
          · cases hb
      · cases hb
    · cases hb
  · cases hb
theorem mksliceN_ok {t : Nat} {l c : AV} {lv cv : Value} {k : NK} {ao : AO} (hb : mksliceN P t l c = some (k, ao)) (hl : VR φ l lv) (hc : VR φ c cv) : NewOK P φ (Instr.makeSlice t lv cv) k ao := by
  unfold mksliceN at hb
  split at hb
  · rename_i e hu
    split at hb
    · rename_i size hs
      split at hb
      · rename_i z hz
        split at hb
        · rename_i by_ hby
          split at hb
          · rename_i n hn
            split at hb
            · rename_i m hm
              cases hcc : (Nat.beq (cellsOf z).length size && !aggd z && Nat.blt 0 size && Nat.ble n m && Nat.ble m 1000000 && Nat.ble (by_ * m) 1000000000) with
              | false => rw [hcc] at hb; cases hb
              | true =>
                rw [hcc, cond_true] at hb
                simp only [Bool.and_eq_true, Bool.not_eq_true'] at hcc
                obtain ⟨⟨⟨⟨⟨c1, c2⟩, c3⟩, c4⟩, c5⟩, c6⟩ := hcc
                have c1' := Nat.eq_of_beq_eq_true c1
                have c3' : 0 < size := by simpa [Nat.blt_eq] using c3
                have c4' := ble_of c4; have c5' := ble_of c5; have c6' := ble_of c6
                cases hb
                obtain ⟨zv, h1, h3⟩ := zeroA_run (φ := φ) hz
                have hzr := zeroRowA_ok (h3.cells c2) (by omega) (m * size)
                obtain ⟨kl, rfl⟩ := natOf_VR hn hl
                obtain ⟨kc, rfl⟩ := natOf_VR hm hc
                obtain ⟨i, hi, hib, hisz⟩ := tby_info hby hs
                have ht : ∀ w : World, (typeInfo e).run P w = .ok i w := fun w => by simp [typeInfo, hi, go_sem]
                refine ⟨_, objR_row hzr, fun w => ?_⟩
                show _ = Result.ok (Value.slice (some ⟨w.heap.size, 0, none⟩) n m) _
                have w1 := wrap_small c5'
                have w2 := wrap_small (Nat.le_trans c4' c5')
                have g1 : ¬ ((i.bytes : Int) * (m : Int) > 2 ^ 48) := by
                  rw [hib]
                  have h5 : ((by_ * m : Nat) : Int) ≤ ((1000000000 : Nat) : Int) := Int.ofNat_le.2 c6'
                  rw [Int.natCast_mul] at h5
                  have h6 : (2 : Int) ^ 48 = 281474976710656 := rfl
                  omega
                have g2 : ¬ ((m : Int) < 0) := by omega
                have g3 : ¬ ((n : Int) < 0) := by omega
                have g4 : ¬ ((n : Int) > (m : Int)) := by omega
                have cnd : ((decide ((m : Int) < 0) || decide ((i.bytes : Int) * (m : Int) > 2 ^ 48)) || decide ((n : Int) < 0) || decide ((n : Int) > (m : Int))) = false := by
                  rw [decide_eq_false g1, decide_eq_false g2, decide_eq_false g3, decide_eq_false g4]; rfl
                by_cases q : m * size = 0
                · have hr0 : ∀ f : Nat → Value, (Array.range (m * size)).map f = #[] := fun f => by rw [q]; simp
                  simp only [Instr.makeSlice, asInt, asIntOf, Sem.run_bind, run_underlying hu, Result.andThen_ok, Sem.run_pure, ht, w1, w2]
                  rw [if_neg (by rw [cnd]; simp)]
                  simp only [Sem.run_bind, run_askRoom, Int.toNat_natCast, tsz_run hs, Result.andThen_ok, if_pos q, Sem.run_pure, hr0, run_newRow]
                · simp only [Instr.makeSlice, asInt, asIntOf, Sem.run_bind, run_underlying hu, Result.andThen_ok, Sem.run_pure, ht, w1, w2]
                  rw [if_neg (by rw [cnd]; simp)]
                  simp only [Sem.run_bind, run_askRoom, Int.toNat_natCast, tsz_run hs, Result.andThen_ok, if_neg q, h1, Sem.run_pure, run_newRow]
            · cases hb
          · cases hb
        · cases hb
      · cases hb
    · cases hb
  · cases hb
theorem newA_ok (hev : EVR φ ev ρ) {o : Oper} {k : NK} {ao : AO} (h : newA P ev o = some (k, ao)) :
    ∃ ob, objR φ 0 ao ob ∧ ∀ w : World, (execOp ρ o).run P w = .ok (.value (k.val w.heap.size)) (w.alloc ob) := by
  have fin : ∀ {s : Sem Value}, execOp ρ o = (do pure (.value (← s)) : Sem Next) → NewOK P φ s k ao → ∃ ob, objR φ 0 ao ob ∧ ∀ w : World, (execOp ρ o).run P w = .ok (.value (k.val w.heap.size)) (w.alloc ob) := by
    rintro s he ⟨ob, h1, h2⟩
    exact ⟨ob, h1, fun w => by rw [he]; exact run_v' (h2 w)⟩
  obtain ⟨dst, op, type, pos, after, guard⟩ := o
  cases op <;> simp only [newA, reduceCtorEq] at h
  case alloc t =>
    split at h
    · rename_i z hz
      cases hd : aggd z with
      | true => rw [hd] at h; cases h
      | false =>
        rw [hd, cond_false] at h
        cases h
        obtain ⟨zv, h1, h2⟩ := zeroA_run (φ := φ) hz
        refine fin (s := Instr.alloc t true (.tuple #[])) rfl ⟨_, objR_row (h2.cells hd), fun w => ?_⟩
        simp only [Instr.alloc, Sem.run_bind, h1, Result.andThen_ok, newVar, run_newRow, Sem.run_pure]
        rfl
    · cases h
  case box t x =>
    split at h
    · rename_i z hz
      cases hd : aggd z with
      | true => rw [hd] at h; cases h
      | false =>
        rw [hd, cond_false] at h
        cases h
        refine fin (s := Instr.box t (ρ x)) rfl ⟨_, objR_row ((hev _ _ hz).cells hd), fun w => ?_⟩
        simp only [Instr.box, Sem.run_bind, Result.andThen_ok, newVar, run_newRow, Sem.run_pure]
        rfl
    · cases h
  case buildSlice t n parts =>
    split at h
    · rename_i ps hps
      have hp := evp_ok hev hps
      refine fin (s := Instr.buildSlice t n (parts.map fun (i, x) => (i, ρ x))) ?_ (bsliceN_ok h (by simpa using hp))
      simp only [execOp]
    · cases h
  case makeMap t r =>
    split at h
    · cases h
      refine ⟨.map #[] 0, ⟨[], rfl, by simp [MR]⟩, fun w => ?_⟩
      simp [execOp, Instr.makeMap, go_sem]
      rfl
    · cases h
  case makeSlice t l c =>
    split at h
    · rename_i a1 ha
      split at h
      · rename_i b1 hb
        exact fin (s := Instr.makeSlice t (ρ l) (ρ c)) rfl (mksliceN_ok h (hev _ _ ha) (hev _ _ hb))
      · cases h
    · cases h
end
end Ev
end Go.Proofs.YtaegacblpbbndaaDoor
end
