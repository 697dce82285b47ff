/- The texts Ev4 of the proof, joined. Each says at its theorems what it proves. -/
import Derived.Test.YtaegacblpbbndaaDoorJ2
set_option linter.unusedSimpArgs false
set_option linter.unusedVariables false
section
namespace Go.Proofs.YtaegacblpbbndaaDoor
open Go Go.RowKit
set_option linter.unusedSimpArgs false
set_option linter.unusedVariables false
namespace Ev
section
variable (P : Program)
noncomputable def boundLo : Option (Option AV) → Option Nat
  | none => some 0
  | some (some a) => natOf a
  | some none => none
noncomputable def boundHi (d : Nat) : Option (Option AV) → Option Nat
  | none => some d
  | some (some a) => natOf a
  | some none => none
noncomputable def sliceStr (l : List UInt8) (lo hi : Option (Option AV)) : Option AV := match boundLo lo, boundHi l.length hi with
  | some i, some j => bif Nat.ble i j && Nat.ble j l.length then some (.str ((l.take j).drop i)) else none
  | _, _ => none
noncomputable def okMx : Option (Option AV) → Option (Option AV) → Bool
  | some _, none => false
  | _, _ => true
noncomputable def sliceEx (b off len cap size : Nat) (lo hi mx : Option (Option AV)) : Option AV := match boundLo lo, boundHi len hi, boundHi cap mx with
  | some i, some j, some m => bif Nat.ble i j && Nat.ble j m && Nat.ble m cap && okMx mx hi then some (.sl b (bif Nat.beq m i then off else off + i * size) (j - i) (m - i) false) else none
  | _, _, _ => none
noncomputable def sliceOp (b off len d size : Nat) (lo hi mx : Option (Option AV)) : Option AV := match mx with
  | none => match boundLo lo, boundHi len hi with
    | some i, some j => bif Nat.ble i j && Nat.ble j len then (bif Nat.beq i 0 then some (.sl b off j d true) else bif Nat.beq i len then some .sle else some (.sl b (off + i * size) (j - i) (d + i) true)) else none
    | _, _ => none
  | some _ => match hi with
    | none => none
    | some _ => match boundLo lo, boundHi len hi, boundHi len mx with
      | some i, some j, some m => bif Nat.ble i j && Nat.ble j m && Nat.ble m len then some (.sl b (bif Nat.beq m i then off else off + i * size) (j - i) (m - i) false) else none
      | _, _, _ => none
noncomputable def sliceA (t : Nat) (a : AV) (lo hi mx : Option (Option AV)) : Option AV := match P.underlying t with
  | some .string => match a, mx with
    | .str l, none => sliceStr l lo hi
    | _, _ => none
  | some (.slice e) => match tsz P e with
    | some size => match a with
      | .sl b off len cap false => sliceEx b off len cap size lo hi mx
      | .sl b off len d true => sliceOp b off len d size lo hi mx
      | .nils => match boundLo lo, boundHi 0 hi, boundHi 0 mx with
        | some 0, some 0, some 0 => match mx, hi with
          | some _, none => none
          | _, _ => some .nils
        | _, _, _ => none
      | _ => none
    | none => none
  | some (.array n e) => match tsz P e with
    | some size => match a with
      | .ptr b off => sliceEx b off n n size lo hi mx
      | _ => none
    | none => none
  | _ => none
end
section
variable {P : Program} {φ : Phi}
def BR (φ : Phi) : Option (Option AV) → Option Value → Prop
  | none, v => v = none
  | some (some a), v => ∃ u, v = some u ∧ VR φ a u
  | some none, _ => True
theorem boundHi_ok {d n cap : Nat} {x : Option (Option AV)} {v : Option Value} (h : boundHi d x = some n) (k : BR φ x v) : (x = none ∧ v = none ∧ n = d) ∨ (x ≠ none ∧ ∃ kd, v = some (.int kd (n : Int))) := by
  unfold boundHi at h
  split at h
  · cases h; simp only [BR] at k; exact .inl ⟨rfl, k, rfl⟩
  · simp only [BR] at k
    obtain ⟨u, rfl, hu⟩ := k
    obtain ⟨kd, rfl⟩ := natOf_VR h hu
    exact .inr ⟨by simp, kd, rfl⟩
  · cases h
theorem boundLo_ok {n : Nat} {x : Option (Option AV)} {v : Option Value} (h : boundLo x = some n) (k : BR φ x v) : (x = none ∧ v = none ∧ n = 0) ∨ (x ≠ none ∧ ∃ kd, v = some (.int kd (n : Int))) := by
  unfold boundLo at h
  split at h
  · cases h; simp only [BR] at k; exact .inl ⟨rfl, k, rfl⟩
  · simp only [BR] at k
    obtain ⟨u, rfl, hu⟩ := k
    obtain ⟨kd, rfl⟩ := natOf_VR h hu
    exact .inr ⟨by simp, kd, rfl⟩
  · cases h
theorem run_bounds {isS : Bool} {len cap i j m : Nat} {lo hi mx : Option Value} (h1 : (lo = none ∧ i = 0) ∨ ∃ k, lo = some (.int k (i : Int))) (h2 : (hi = none ∧ j = len) ∨ ∃ k, hi = some (.int k (j : Int))) (h3 : (mx = none ∧ m = cap) ∨ ((∃ k, mx = some (.int k (m : Int))) ∧ hi ≠ none))
    (hij : i ≤ j) (hjm : j ≤ m) (hm : m ≤ cap) (w : World) : (Instr.sliceBounds isS len cap lo hi mx).run P w = .ok (i, j, m) w := by
  have e1 : (0 : Int) ≤ (i : Int) ∧ (i : Int) ≤ (j : Int) := by omega
  have e2 : (0 : Int) ≤ (j : Int) ∧ (j : Int) ≤ (m : Int) := by omega
  have e3 : (0 : Int) ≤ (m : Int) ∧ (m : Int) ≤ (cap : Int) := by omega
  rcases h1 with ⟨rfl, rfl⟩ | ⟨k1, rfl⟩ <;> rcases h2 with ⟨rfl, rfl⟩ | ⟨k2, rfl⟩ <;> rcases h3 with ⟨rfl, rfl⟩ | ⟨⟨k3, rfl⟩, hne⟩ <;>
    first
      | exact absurd rfl hne
      | (simp [Instr.sliceBounds, Instr.sliceBound, asIntOf, e1.2, e2.2, e3.2, go_sem]; done)
      | (simp [Instr.sliceBounds, Instr.sliceBound, asIntOf, e1, e2, e3, go_sem]; done)
      | (simp [Instr.sliceBounds, Instr.sliceBound, asIntOf, hij, hjm, hm, Nat.not_lt.2 hij, Nat.not_lt.2 hjm, Nat.not_lt.2 hm, go_sem]; done)
theorem ble_of {a b : Nat} (h : Nat.ble a b = true) : a ≤ b := Nat.le_of_ble_eq_true h
theorem sliceA_ok {t : Nat} {a r : AV} {x : Value} {lo hi mx : Option (Option AV)} {vl vh vm : Option Value} (h : sliceA P t a lo hi mx = some r) (hx : VR φ a x) (hl : BR φ lo vl) (hh : BR φ hi vh) (hm : BR φ mx vm) :
    ∃ v, (∀ w, (Instr.sliceAt t x vl vh vm).run P w = .ok v w) ∧ VR φ r v := by
  have lo' : ∀ {n}, boundLo lo = some n → (vl = none ∧ n = 0) ∨ ∃ k, vl = some (.int k (n : Int)) := fun e => (boundLo_ok e hl).imp (fun q => q.2) (fun q => q.2)
  have hi' : ∀ {d n}, boundHi d hi = some n → (vh = none ∧ n = d) ∨ ∃ k, vh = some (.int k (n : Int)) := fun e => (boundHi_ok (cap := 0) e hh).imp (fun q => q.2) (fun q => q.2)
  have hi'' : hi ≠ none → ∀ {d n}, boundHi d hi = some n → vh ≠ none := by
    intro hne d n e
    rcases boundHi_ok (cap := 0) e hh with ⟨q, _⟩ | ⟨_, k, q⟩
    · exact absurd q hne
    · rw [q]; simp
  unfold sliceA at h
  split at h
  · rename_i hu
    split at h
    · rename_i l
      simp only [VR] at hx; subst hx
      have hm' : vm = none := by simpa only [BR] using hm
      subst hm'
      unfold sliceStr at h
      split at h
      · rename_i i j hi1 hj1
        cases hc : (Nat.ble i j && Nat.ble j l.length) with
        | false => rw [hc] at h; cases h
        | true =>
          rw [hc, cond_true] at h; cases h
          simp only [Bool.and_eq_true] at hc
          have hb := fun w => run_bounds (P := P) (isS := false) (cap := l.length) (m := l.length) (mx := none) (lo' hi1) (hi' hj1) (.inl ⟨rfl, rfl⟩) (ble_of hc.1) (ble_of hc.2) (Nat.le_refl _) w
          refine ⟨.string ⟨((l.take j).drop i).toArray⟩, fun w => ?_, by simp [VR]⟩
          have he : (⟨l.toArray⟩ : ByteArray).extract i j = ⟨((l.take j).drop i).toArray⟩ := by
            apply ByteArray.ext; simp [ByteArray.data_extract, List.drop_take]
          simp only [Instr.sliceAt, Instr.slice, Sem.run_bind, Sem.run_pure, run_underlying hu, Result.andThen_ok, S_size, hb, he, Option.isSome_none, Bool.false_eq_true, if_false]
      · cases h
    · cases h
  · rename_i e hu
    split at h
    · rename_i size hs
      split at h
      · rename_i b off len cap
        simp only [VR] at hx
        obtain ⟨y, κ, hφ, ⟨h0, _⟩ | ⟨_, rfl⟩⟩ := hx
        · cases h0
        unfold sliceEx at h
        split at h
        · rename_i i j m hi1 hj1 hm1
          cases hc : (Nat.ble i j && Nat.ble j m && Nat.ble m cap && okMx mx hi) with
          | false => rw [hc] at h; cases h
          | true =>
            rw [hc, cond_true] at h; cases h
            simp only [Bool.and_eq_true] at hc
            obtain ⟨⟨⟨c1, c2⟩, c3⟩, c4⟩ := hc
            have hmx : (vm = none ∧ m = cap) ∨ ((∃ k, vm = some (.int k (m : Int))) ∧ vh ≠ none) := by
              rcases boundHi_ok (cap := 0) hm1 hm with ⟨q1, q2, q3⟩ | ⟨q1, q2⟩
              · exact .inl ⟨q2, q3⟩
              · refine .inr ⟨q2, ?_⟩
                cases mx with
                | none => exact absurd rfl q1
                | some z => cases hi with
                  | none => cases c4
                  | some u => exact hi'' (by simp) hj1
            have hb := fun w => run_bounds (P := P) (isS := true) (lo' hi1) (hi' hj1) hmx (ble_of c1) (ble_of c2) (ble_of c3) w
            refine ⟨.slice (some (if m = i then ⟨y, off, none⟩ else (⟨y, off, none⟩ : Addr).add (i * size))) (j - i) (m - i), fun w => ?_, ?_⟩
            · simp only [Instr.sliceAt, Instr.slice, Sem.run_bind, Sem.run_pure, run_underlying hu, Result.andThen_ok, hb, tsz_run hs] <;> (try split) <;> rfl
            · simp only [VR]
              refine ⟨y, κ, hφ, .inr ⟨by trivial, ?_⟩⟩
              rcases beq_cases m i with ⟨q, q'⟩ | ⟨q, q'⟩
              · simp [q, q']
              · simp [q, q', addr_add]
        · cases h
      · rename_i b off len d
        simp only [VR] at hx
        obtain ⟨y, κ, hφ, ⟨_, hκ, rfl⟩ | ⟨h0, _⟩⟩ := hx
        case inr => cases h0
        unfold sliceOp at h
        split at h
        · have hm' : vm = none := by simpa only [BR] using hm
          subst hm'
          split at h
          · rename_i i j hi1 hj1
            cases hc : (Nat.ble i j && Nat.ble j len) with
            | false => rw [hc] at h; cases h
            | true =>
              rw [hc, cond_true] at h
              simp only [Bool.and_eq_true] at hc
              have c1 := ble_of hc.1; have c2 := ble_of hc.2
              have hb := fun w => run_bounds (P := P) (isS := true) (cap := κ - d) (m := κ - d) (mx := none) (lo' hi1) (hi' hj1) (.inl ⟨rfl, rfl⟩) c1 (by omega) (Nat.le_refl _) w
              refine ⟨.slice (some (if κ - d = i then ⟨y, off, none⟩ else (⟨y, off, none⟩ : Addr).add (i * size))) (j - i) (κ - d - i), fun w => ?_, ?_⟩
              · simp only [Instr.sliceAt, Instr.slice, Sem.run_bind, Sem.run_pure, run_underlying hu, Result.andThen_ok, hb, tsz_run hs] <;> (try split) <;> rfl
              · rcases beq_cases i 0 with ⟨q, rfl⟩ | ⟨q, q'⟩
                · rw [q, cond_true] at h; cases h
                  simp only [VR]
                  refine ⟨y, κ, hφ, .inl ⟨by trivial, by omega, ?_⟩⟩
                  by_cases h0 : κ - d = 0
                  · simp [h0]
                  · simp [h0, Addr.add]
                · rw [q, cond_false] at h
                  rcases beq_cases i len with ⟨p, rfl⟩ | ⟨p, p'⟩
                  · rw [p, cond_true] at h; cases h
                    simp only [VR]
                    exact ⟨_, _, by rw [show j - i = 0 by omega]⟩
                  · rw [p, cond_false] at h; cases h
                    simp only [VR]
                    refine ⟨y, κ, hφ, .inl ⟨by trivial, by omega, ?_⟩⟩
                    rw [if_neg (by omega), addr_add, show κ - d - i = κ - (d + i) by omega]
          · cases h
        · split at h
          · cases h
          · split at h
            · rename_i i j m hi1 hj1 hm1
              cases hc : (Nat.ble i j && Nat.ble j m && Nat.ble m len) with
              | false => rw [hc] at h; cases h
              | true =>
                rw [hc, cond_true] at h; cases h
                simp only [Bool.and_eq_true] at hc
                obtain ⟨⟨c1, c2⟩, c3⟩ := hc
                have hmx : (vm = none ∧ m = κ - d) ∨ ((∃ k, vm = some (.int k (m : Int))) ∧ vh ≠ none) := by
                  rcases boundHi_ok (cap := 0) hm1 hm with ⟨q1, q2, q3⟩ | ⟨q1, q2⟩
                  · cases q1
                  · exact .inr ⟨q2, hi'' (by simp) hj1⟩
                have hb := fun w => run_bounds (P := P) (isS := true) (lo' hi1) (hi' hj1) hmx (ble_of c1) (ble_of c2) (by have := ble_of c3; omega) w
                refine ⟨.slice (some (if m = i then ⟨y, off, none⟩ else (⟨y, off, none⟩ : Addr).add (i * size))) (j - i) (m - i), fun w => ?_, ?_⟩
                · simp only [Instr.sliceAt, Instr.slice, Sem.run_bind, Sem.run_pure, run_underlying hu, Result.andThen_ok, hb, tsz_run hs] <;> (try split) <;> rfl
                · simp only [VR]
                  refine ⟨y, κ, hφ, .inr ⟨by trivial, ?_⟩⟩
                  rcases beq_cases m i with ⟨q, q'⟩ | ⟨q, q'⟩
                  · simp [q, q']
                  · simp [q, q', addr_add]
            · cases h
      · simp only [VR] at hx; subst hx
        split at h
        · rename_i hi1 hj1 hm1
          have key : r = .nils ∧ ((vm = none ∧ (0 : Nat) = 0) ∨ ((∃ k, vm = some (.int k ((0 : Nat) : Int))) ∧ vh ≠ none)) := by
            rcases boundHi_ok (cap := 0) hm1 hm with ⟨q1, q2, q3⟩ | ⟨q1, q2⟩
            · subst q1; simp only [Option.some.injEq] at h; exact ⟨h.symm, .inl ⟨q2, rfl⟩⟩
            · cases mx with
              | none => exact absurd rfl q1
              | some z => cases hi with
                | none => simp at h
                | some u => simp only [Option.some.injEq] at h; exact ⟨h.symm, .inr ⟨q2, hi'' (by simp) hj1⟩⟩
          obtain ⟨rfl, hmx⟩ := key
          have hb := fun w => run_bounds (P := P) (isS := true) (lo' hi1) (hi' hj1) hmx (Nat.le_refl _) (Nat.le_refl _) (Nat.le_refl _) w
          refine ⟨.slice none 0 0, fun w => ?_, by simp [VR]⟩
          simp only [Instr.sliceAt, Instr.slice, Sem.run_bind, Sem.run_pure, run_underlying hu, Result.andThen_ok, hb, tsz_run hs] <;> (try split) <;> rfl
        · cases h
      · cases h
    · cases h
  · rename_i n e hu
    split at h
    · rename_i size hs
      split at h
      · rename_i b off
        simp only [VR] at hx
        obtain ⟨y, κ, hφ, rfl⟩ := hx
        unfold sliceEx at h
        split at h
        · rename_i i j m hi1 hj1 hm1
          cases hc : (Nat.ble i j && Nat.ble j m && Nat.ble m n && okMx mx hi) with
          | false => rw [hc] at h; cases h
          | true =>
            rw [hc, cond_true] at h; cases h
            simp only [Bool.and_eq_true] at hc
            obtain ⟨⟨⟨c1, c2⟩, c3⟩, c4⟩ := hc
            have hmx : (vm = none ∧ m = n) ∨ ((∃ k, vm = some (.int k (m : Int))) ∧ vh ≠ none) := by
              rcases boundHi_ok (cap := 0) hm1 hm with ⟨q1, q2, q3⟩ | ⟨q1, q2⟩
              · exact .inl ⟨q2, q3⟩
              · refine .inr ⟨q2, ?_⟩
                cases mx with
                | none => exact absurd rfl q1
                | some z => cases hi with
                  | none => cases c4
                  | some u => exact hi'' (by simp) hj1
            have hb := fun w => run_bounds (P := P) (isS := false) (lo' hi1) (hi' hj1) hmx (ble_of c1) (ble_of c2) (ble_of c3) w
            refine ⟨.slice (some (if m = i then ⟨y, off, none⟩ else (⟨y, off, none⟩ : Addr).add (i * size))) (j - i) (m - i), fun w => ?_, ?_⟩
            · simp only [Instr.sliceAt, Instr.sureAddr, Sem.run_bind, Sem.run_pure, run_underlying hu, Result.andThen_ok, hb, tsz_run hs]
            · simp only [VR]
              refine ⟨y, κ, hφ, .inr ⟨by trivial, ?_⟩⟩
              rcases beq_cases m i with ⟨q, q'⟩ | ⟨q, q'⟩
              · simp [q, q']
              · simp [q, q', addr_add]
        · cases h
      · cases h
    · cases h
  · cases h
end
end Ev
end Go.Proofs.YtaegacblpbbndaaDoor
end
