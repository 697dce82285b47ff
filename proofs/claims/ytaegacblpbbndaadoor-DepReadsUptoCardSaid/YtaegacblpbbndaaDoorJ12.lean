/- The texts EvD of the proof, joined. Each says at its theorems what it proves. -/
import Derived.Test.YtaegacblpbbndaaDoorJ11
set_option linter.unusedSimpArgs false
set_option linter.unusedVariables false
section
namespace Go.Proofs.YtaegacblpbbndaaDoor
open Go Go.RowKit
set_option linter.unusedSimpArgs false
set_option linter.unusedVariables false
namespace Ev
mutual
noncomputable def avEq : AV → AV → Bool
  | .bool a, .bool b => a == b
  | .int k a, .int k' b => match decEq k k' with
    | .isTrue _ => a == b
    | .isFalse _ => false
  | .str a, .str b => strEq a b
  | .ptr b o, .ptr b' o' => Nat.beq b b' && Nat.beq o o'
  | .nilp, .nilp => true
  | .sl b o l c op, .sl b' o' l' c' op' => Nat.beq b b' && Nat.beq o o' && Nat.beq l l' && Nat.beq c c' && (op == op')
  | .nils, .nils => true
  | .map b, .map b' => Nat.beq b b'
  | .nilm, .nilm => true
  | .fn f x c, .fn f' x' c' => Nat.beq f f' && avsEq x x' && avsEq c c'
  | .nilf, .nilf => true
  | .ifc t a, .ifc t' a' => Nat.beq t t' && avEq a a'
  | .nili, .nili => true
  | .agg l, .agg l' => avsEq l l'
  | .tup l, .tup l' => avsEq l l'
  | _, _ => false
noncomputable def avsEq : List AV → List AV → Bool
  | [], [] => true
  | a :: l, b :: m => avEq a b && avsEq l m
  | _, _ => false
end
theorem beq_eq {a b : Nat} (h : Nat.beq a b = true) : a = b := Nat.eq_of_beq_eq_true h
mutual
theorem avEq_val {φ φ' : Phi} (hle : φ.le φ') : ∀ {a b : AV} {u v : Value}, avEq a b = true → VR φ a u → VR φ' b v → v = u
  | .bool a, b, u, v, h, h1, h2 => by
    cases b <;> simp only [avEq, Bool.false_eq_true] at h
    simp only [VR] at h1 h2
    rw [h1, h2, (by simpa using h : a = _)]
  | .int k a, b, u, v, h, h1, h2 => by
    cases b <;> simp only [avEq, Bool.false_eq_true] at h
    rename_i k' a'
    split at h
    · rename_i hk _
      simp only [VR] at h1 h2
      rw [h1, h2, hk, (by simpa using h : a = a')]
    · cases h
  | .str a, b, u, v, h, h1, h2 => by
    cases b <;> simp only [avEq, Bool.false_eq_true] at h
    simp only [VR] at h1 h2
    rw [strEq_iff] at h
    rw [h1, h2, (by simpa using h : a = _)]
  | .ptr x o, b, u, v, h, h1, h2 => by
    cases b <;> simp only [avEq, Bool.false_eq_true] at h
    simp only [Bool.and_eq_true] at h
    simp only [VR] at h1 h2
    obtain ⟨y, κ, e, rfl⟩ := h1
    obtain ⟨y', κ', e', rfl⟩ := h2
    rw [← beq_eq h.1, hle _ _ e] at e'
    cases e'
    rw [beq_eq h.2]
  | .nilp, b, u, v, h, h1, h2 => by
    cases b <;> simp only [avEq, Bool.false_eq_true] at h
    simp only [VR] at h1 h2; rw [h1, h2]
  | .sl x o l c op, b, u, v, h, h1, h2 => by
    cases b <;> simp only [avEq, Bool.false_eq_true] at h
    rename_i b1 o1 l1 c1 op1
    simp only [Bool.and_eq_true] at h
    obtain ⟨⟨⟨⟨q1, q2⟩, q3⟩, q4⟩, q5⟩ := h
    have q5' : op = op1 := by simpa using q5
    simp only [VR] at h1 h2
    obtain ⟨y, κ, e, h1⟩ := h1
    obtain ⟨y', κ', e', h2⟩ := h2
    rw [← beq_eq q1, hle _ _ e] at e'
    cases e'
    rw [← beq_eq q2, ← beq_eq q3, ← beq_eq q4, ← q5'] at h2
    rcases h1 with ⟨a1, a2, a3⟩ | ⟨a1, a3⟩ <;> rcases h2 with ⟨b1, b2, b3⟩ | ⟨b1, b3⟩ <;> first | (rw [a3, b3]; done) | (rw [a1] at b1; cases b1)
  | .nils, b, u, v, h, h1, h2 => by
    cases b <;> simp only [avEq, Bool.false_eq_true] at h
    simp only [VR] at h1 h2; rw [h1, h2]
  | .sle, b, u, v, h, h1, h2 => by
    cases b <;> simp only [avEq, Bool.false_eq_true] at h
  | .map x, b, u, v, h, h1, h2 => by
    cases b <;> simp only [avEq, Bool.false_eq_true] at h
    simp only [VR] at h1 h2
    obtain ⟨y, κ, e, rfl⟩ := h1
    obtain ⟨y', κ', e', rfl⟩ := h2
    rw [← beq_eq h, hle _ _ e] at e'
    cases e'; rfl
  | .nilm, b, u, v, h, h1, h2 => by
    cases b <;> simp only [avEq, Bool.false_eq_true] at h
    simp only [VR] at h1 h2; rw [h1, h2]
  | .fn f x c, b, u, v, h, h1, h2 => by
    cases b <;> simp only [avEq, Bool.false_eq_true] at h
    simp only [Bool.and_eq_true] at h
    simp only [VR] at h1 h2
    obtain ⟨a1, a2, a3, a4, rfl⟩ := h1
    obtain ⟨b1, b2, b3, b4, rfl⟩ := h2
    rw [beq_eq h.1.1, avsEq_val hle h.1.2 a3 b3, avsEq_val hle h.2 a4 b4]
  | .nilf, b, u, v, h, h1, h2 => by
    cases b <;> simp only [avEq, Bool.false_eq_true] at h
    simp only [VR] at h1 h2; rw [h1, h2]
  | .ifc t a, b, u, v, h, h1, h2 => by
    cases b <;> simp only [avEq, Bool.false_eq_true] at h
    simp only [Bool.and_eq_true] at h
    simp only [VR] at h1 h2
    obtain ⟨a1, a2, rfl⟩ := h1
    obtain ⟨b1, b2, rfl⟩ := h2
    rw [beq_eq h.1, avEq_val hle h.2 a2 b2]
  | .nili, b, u, v, h, h1, h2 => by
    cases b <;> simp only [avEq, Bool.false_eq_true] at h
    simp only [VR] at h1 h2; rw [h1, h2]
  | .agg l, b, u, v, h, h1, h2 => by
    cases b <;> simp only [avEq, Bool.false_eq_true] at h
    simp only [VR] at h1 h2
    obtain ⟨a1, a2, rfl⟩ := h1
    obtain ⟨b1, b2, rfl⟩ := h2
    rw [avsEq_val hle h a2 b2]
  | .tup l, b, u, v, h, h1, h2 => by
    cases b <;> simp only [avEq, Bool.false_eq_true] at h
    simp only [VR] at h1 h2
    obtain ⟨a1, a2, rfl⟩ := h1
    obtain ⟨b1, b2, rfl⟩ := h2
    rw [avsEq_val hle h a2 b2]
  | .raw x, b, u, v, h, h1, h2 => by
    cases b <;> simp only [avEq, Bool.false_eq_true] at h
theorem avsEq_val {φ φ' : Phi} (hle : φ.le φ') : ∀ {l m : List AV} {us vs : List Value}, avsEq l m = true → VRl φ l us → VRl φ' m vs → vs = us
  | [], m, us, vs, h, h1, h2 => by
    cases m with
    | nil => rw [h1.nil_inv, h2.nil_inv]
    | cons b m => simp [avsEq] at h
  | a :: l, m, us, vs, h, h1, h2 => by
    cases m with
    | nil => simp [avsEq] at h
    | cons b m =>
      simp only [avsEq, Bool.and_eq_true] at h
      obtain ⟨u, us', rfl, g1, g2⟩ := h1.cons_inv
      obtain ⟨v, vs', rfl, k1, k2⟩ := h2.cons_inv
      rw [avEq_val hle h.1 g1 k1, avsEq_val hle h.2 g2 k2]
end
inductive Rs (α : Type) where
  | ok (a : α)
  | bad (code at_ : Nat)
inductive CR where
  | ret (a : AV)
  | pan (a : AV)
section
variable (P : Program)
noncomputable def unit (x : Option AH) : Option (AV × AH) := match x with
  | some h => some (.tup [], h)
  | none => none
noncomputable def mAlloc (ev : Operand → Option AV) (t : Nat) (h : AH) : Option (AV × AH) := match zeroA P t with
    | some z => bif aggd z then none else match addRow h (cellsOf z) t with
      | some h' => some (.ptr h.nx 0, h')
      | none => none
    | none => none
noncomputable def mBox (ev : Operand → Option AV) (t : Nat) (x : Operand) (h : AH) : Option (AV × AH) := match ev x with
    | some a => bif aggd a then none else match addRow h (cellsOf a) t with
      | some h' => some (.ptr h.nx 0, h')
      | none => none
    | none => none
noncomputable def mBSlice (ev : Operand → Option AV) (t n : Nat) (parts : Array (Nat × Operand)) (h : AH) : Option (AV × AH) := match evp ev parts.toList with
    | some ps => buildSliceA P t n ps h
    | none => none
noncomputable def mStore (ev : Operand → Option AV) (t : Nat) (x y : Operand) (h : AH) : Option (AV × AH) := match ev x with
    | some a => match ev y with
      | some b => unit (storeA P t a b h)
      | none => none
    | none => none
noncomputable def mPut (ev : Operand → Option AV) (t : Nat) (m k x : Operand) (h : AH) : Option (AV × AH) := match ev m with
    | some a => match ev k with
      | some b => match ev x with
        | some c => unit (mapPutA P t a b c h)
        | none => none
      | none => none
    | none => none
noncomputable def mPut2 (ev : Operand → Option AV) (t : Nat) (m k x : Operand) (h : AH) : Option (AV × AH) := match ev m with
    | some a => match ev k with
      | some b => match ev x with
        | some c => unit (mapPutA P t a b c h)
        | none => none
      | none => none
    | none => none
noncomputable def mEntry (ev : Operand → Option AV) (t : Nat) (m k : Operand) (h : AH) : Option (AV × AH) := match ev m with
    | some a => match ev k with
      | some b => mapEntryA P t a b h
      | none => none
    | none => none
noncomputable def mEStore (ev : Operand → Option AV) (m s x : Operand) (h : AH) : Option (AV × AH) := match ev m with
    | some a => match ev s with
      | some b => match ev x with
        | some c => unit (entryStoreA a b c h)
        | none => none
      | none => none
    | none => none
noncomputable def mMap (ev : Operand → Option AV) (r : Option Operand) (h : AH) : Option (AV × AH) := match r with
    | none => bif h.roomy then some (.map h.nx, h.add (.map [] 0)) else none
    | some _ => none
noncomputable def mSlice (ev : Operand → Option AV) (t : Nat) (l c : Operand) (h : AH) : Option (AV × AH) := match ev l with
    | some a => match ev c with
      | some b => makeSliceA P t a b h
      | none => none
    | none => none
noncomputable def mRange (ev : Operand → Option AV) (t : Nat) (x : Operand) (h : AH) : Option (AV × AH) := match ev x with
    | some a => rangeA P t a h
    | none => none
noncomputable def mNext (ev : Operand → Option AV) (x : Operand) (s : Bool) (h : AH) : Option (AV × AH) := match ev x with
    | some a => bif s then nextA a h else none
    | none => none
noncomputable def mCall (ev : Operand → Option AV) (c : Call) (h : AH) : Option (AV × AH) := match c.callee with
    | .builtin .append => match c.args.toList with
      | [x, y] => match c.argTypes.toList with
        | [t, u] => match ev x with
          | some a => match ev y with
            | some b => appendA P t u a b h
            | none => none
          | none => none
        | _ => none
      | _ => none
    | .builtin .copy => match c.args.toList with
      | [x, y] => match c.argTypes.toList with
        | [t, _] => match ev x with
          | some a => match ev y with
            | some b => copyA P t a b h
            | none => none
          | none => none
        | _ => none
      | _ => none
    | .builtin .clear => match c.args.toList with
      | [x] => match c.argTypes.toList with
        | [t] => match ev x with
          | some a => clearA P t a h
          | none => none
        | _ => none
      | _ => none
    | _ => none
noncomputable def mutA (ev : Operand → Option AV) (o : Oper) (h : AH) : Option (AV × AH) := match o.op with
  | .alloc t => mAlloc P ev t h
  | .box t x => mBox ev t x h
  | .buildSlice t n parts => mBSlice P ev t n parts h
  | .store t x y => mStore P ev t x y h
  | .insert t m k x => mPut P ev t m k x h
  | .mapUpdate t m k x => mPut2 P ev t m k x h
  | .mapEntry t m k => mEntry P ev t m k h
  | .entryStore _ m s x => mEStore ev m s x h
  | .makeMap _ r => mMap ev r h
  | .makeSlice t l c => mSlice P ev t l c h
  | .range t x => mRange P ev t x h
  | .next x s => mNext ev x s h
  | .call c => mCall P ev c h
  | _ => none
noncomputable def callA (ev : Operand → Option AV) (o : Oper) : Option (Nat × List AV) := match o.op with
  | .call c => match c.callee with
    | .value x => match ev x with
      | some (.fn f first cap) => match evs ev c.args.toList with
        | some l => match P.funcs[f]? with
          | some fn => bif fn.body.isSome && !(fn.name == "runtime.NumGoroutine") then some (f, first ++ l ++ cap) else none
          | none => none
        | none => none
      | _ => none
    | _ => none
  | _ => none
noncomputable def panA (ev : Operand → Option AV) (o : Oper) : Option AV := match o.op with
  | .panic x => match ev x with
    | some (.ifc t a) => some (.ifc t a)
    | _ => none
  | _ => none
noncomputable def opVal0 (call : Nat → List AV → AH → Rs (CR × AH)) (ev : Operand → Option AV) (o : Oper) (h : AH) : Rs (CR × AH) := match pureA P ev o with
  | some a => .ok (.ret a, h)
  | none => match readA P ev o h with
    | some a => .ok (.ret a, h)
    | none => match mutA P ev o h with
      | some (a, h') => .ok (.ret a, h')
      | none => match callA P ev o with
        | some (f, args) => call f args h
        | none => match panA ev o with
          | some a => .ok (.pan a, h)
          | none => .bad 1 0
end
section
variable {P : Program} {w0 : Base} {w : World} {φ : Phi} {ρ : Operand → Value} {h : AH} {ev : Operand → Option AV}
def MutOK (P : Program) (w0 : Base) (φ : Phi) (ρ : Operand → Value) (h : AH) (w : World) (o : Oper) (a : AV) (h' : AH) : Prop :=
  ∃ φ' w', φ.le φ' ∧ Rel w0 φ' h' w' ∧ Keep h h' ∧ ((∃ v, (execOp ρ o).run P w = .ok (.value v) w' ∧ VR φ' a v) ∨ ((execOp ρ o).run P w = .ok .skip w' ∧ a = .tup []))
theorem run_u {s : Sem Unit} {w w' : World} (h : s.run P w = .ok () w') : ((do s; pure .skip : Sem Next)).run P w = .ok .skip w' := by
  simp only [Sem.run_bind, h, Result.andThen_ok, Sem.run_pure]
theorem run_v' {s : Sem Value} {w w' : World} {v : Value} (h : s.run P w = .ok v w') : ((do pure (.value (← s)) : Sem Next)).run P w = .ok (.value v) w' := by
  simp only [Sem.run_bind, h, Result.andThen_ok, Sem.run_pure]
theorem mut_v {o : Oper} {s : Sem Value} {a : AV} {h' : AH} (he : execOp ρ o = (do pure (.value (← s)) : Sem Next)) (k : SemOK P w0 φ h w s a h') : MutOK P w0 φ ρ h w o a h' := by
  obtain ⟨φ', v, w', k1, k2, k3, k4, k5⟩ := k
  exact ⟨φ', w', k1, k4, k5, .inl ⟨v, by rw [he]; exact run_v' k2, k3⟩⟩
theorem mut_u {o : Oper} {s : Sem Unit} {x : Option AH} {a : AV} {h' : AH} (hx : unit x = some (a, h')) (he : execOp ρ o = (do s; pure .skip : Sem Next)) (k : ∀ h', x = some h' → UnitOK P w0 φ h w s h') : MutOK P w0 φ ρ h w o a h' := by
  unfold unit at hx
  split at hx
  · rename_i h1
    cases hx
    obtain ⟨φ', w', k1, k2, k4, k5⟩ := k _ rfl
    exact ⟨φ', w', k1, k4, k5, .inr ⟨by rw [he]; exact run_u k2, rfl⟩⟩
  · cases hx
theorem mutA_ok (hev : EVR φ ev ρ) {o : Oper} {a : AV} {h' : AH} (hm : mutA P ev o h = some (a, h')) (r : Rel w0 φ h w) : MutOK P w0 φ ρ h w o a h' := by
  obtain ⟨dst, op, type, pos, after, guard⟩ := o
  cases op <;> simp only [mutA, mAlloc, mBox, mBSlice, mStore, mPut, mPut2, mEntry, mEStore, mMap, mSlice, mRange, mNext, mCall, reduceCtorEq] at hm
  case alloc t =>
    split at hm
    · rename_i z hz
      cases hd : aggd z with
      | true => rw [hd] at hm; cases hm
      | false =>
        rw [hd, cond_false] at hm
        split at hm
        · rename_i h1 ha
          cases hm
          exact mut_v (s := Instr.alloc t true (.tuple #[])) rfl (alloc_ok hz hd ha r)
        · cases hm
    · cases hm
  case box t x =>
    split at hm
    · rename_i z hz
      cases hd : aggd z with
      | true => rw [hd] at hm; cases hm
      | false =>
        rw [hd, cond_false] at hm
        split at hm
        · rename_i h1 ha
          cases hm
          exact mut_v (s := Instr.box t (ρ x)) rfl (box_ok (hev _ _ hz) hd ha r)
        · cases hm
    · cases hm
  case buildSlice t n parts =>
    split at hm
    · rename_i ps hps
      have hp := evp_ok hev hps
      have k := buildSliceA_ok (qs := parts.map fun (i, x) => (i, ρ x)) hm (by simpa using hp) r
      refine mut_v ?_ k
      simp only [execOp]
    · cases hm
  case store t x y =>
    split at hm
    · rename_i a1 ha
      split at hm
      · rename_i b1 hb
        exact mut_u (s := Instr.storeAt t (ρ x) (ρ y)) hm rfl fun h1 hs => storeA_ok hs (hev _ _ ha) (hev _ _ hb) r
      · cases hm
    · cases hm
  case insert t m k x =>
    split at hm
    · rename_i a1 ha
      split at hm
      · rename_i b1 hb
        split at hm
        · rename_i c1 hc
          exact mut_u (s := Instr.mapUpdate t (ρ m) (ρ k) (ρ x)) hm rfl fun h1 hs => mapPutA_ok hs (hev _ _ ha) (hev _ _ hb) (hev _ _ hc) r
        · cases hm
      · cases hm
    · cases hm
  case mapUpdate t m k x =>
    split at hm
    · rename_i a1 ha
      split at hm
      · rename_i b1 hb
        split at hm
        · rename_i c1 hc
          exact mut_u (s := Instr.mapUpdate t (ρ m) (ρ k) (ρ x)) hm rfl fun h1 hs => mapPutA_ok hs (hev _ _ ha) (hev _ _ hb) (hev _ _ hc) r
        · cases hm
      · cases hm
    · cases hm
  case mapEntry t m k =>
    split at hm
    · rename_i a1 ha
      split at hm
      · rename_i b1 hb
        exact mut_v (s := Instr.mapEntry t (ρ m) (ρ k)) rfl (mapEntryA_ok hm (hev _ _ ha) (hev _ _ hb) r)
      · cases hm
    · cases hm
  case entryStore t m s x =>
    split at hm
    · rename_i a1 ha
      split at hm
      · rename_i b1 hb
        split at hm
        · rename_i c1 hc
          exact mut_u (s := Instr.entryStore t (ρ m) (ρ s) (ρ x)) hm rfl fun h1 hs => entryStoreA_ok hs (hev _ _ ha) (hev _ _ hb) (hev _ _ hc) r
        · cases hm
      · cases hm
    · cases hm
  case makeMap t rr =>
    split at hm
    · cases hc : h.roomy with
      | false => rw [hc] at hm; cases hm
      | true =>
        rw [hc, cond_true] at hm; cases hm
        refine ⟨ext φ h.nx (w.heap.size, 0), w.alloc (.map #[] 0), ext_le (r.dom _ (Nat.le_refl _)), r.alloc hc ⟨[], rfl, by simp [MR]⟩, AH.add_keep hc, .inl ⟨.map (some w.heap.size), ?_, ?_⟩⟩
        · simp [execOp, Instr.makeMap, go_sem]
        · simp only [VR]; exact ⟨_, _, ext_same _ _ _, rfl⟩
    · cases hm
  case makeSlice t l c =>
    split at hm
    · rename_i a1 ha
      split at hm
      · rename_i b1 hb
        exact mut_v (s := Instr.makeSlice t (ρ l) (ρ c)) rfl (makeSliceA_ok hm (hev _ _ ha) (hev _ _ hb) r)
      · cases hm
    · cases hm
  case range t x =>
    split at hm
    · rename_i a1 ha
      exact mut_v (s := Instr.range t (ρ x)) rfl (rangeA_ok hm (hev _ _ ha) r)
    · cases hm
  case next x s =>
    split at hm
    · rename_i a1 ha
      cases s with
      | false => cases hm
      | true => exact mut_v (s := Instr.next (ρ x) true type) rfl (nextA_ok hm (hev _ _ ha) r)
    · cases hm
  case call c =>
    obtain ⟨callee, args, argTypes⟩ := c
    simp only at hm
    split at hm
    · split at hm
      · rename_i x y hxs
        split at hm
        · rename_i t u hts
          have h1 : args = #[x, y] := by apply Array.ext'; simpa using hxs
          have h2 : argTypes = #[t, u] := by apply Array.ext'; simpa using hts
          subst h1; subst h2
          split at hm
          · rename_i a1 ha
            split at hm
            · rename_i b1 hb
              refine mut_v (s := Builtin.append_ #[t, u] type #[ρ x, ρ y]) ?_ (appendA_ok hm (hev _ _ ha) (hev _ _ hb) r)
              simp only [execOp, resolve, List.map_toArray, List.map_cons, List.map_nil]
              rfl
            · cases hm
          · cases hm
        · cases hm
      · cases hm
    · split at hm
      · rename_i x y hxs
        split at hm
        · rename_i t u hts
          have h1 : args = #[x, y] := by apply Array.ext'; simpa using hxs
          have h2 : argTypes = #[t, u] := by apply Array.ext'; simpa using hts
          subst h1; subst h2
          split at hm
          · rename_i a1 ha
            split at hm
            · rename_i b1 hb
              refine mut_v (s := Builtin.copy_ #[t, u] type #[ρ x, ρ y]) ?_ (copyA_ok hm (hev _ _ ha) (hev _ _ hb) r)
              simp only [execOp, resolve, List.map_toArray, List.map_cons, List.map_nil]
              rfl
            · cases hm
          · cases hm
        · cases hm
      · cases hm
    · split at hm
      · rename_i x hxs
        split at hm
        · rename_i t hts
          have h1 : args = #[x] := by apply Array.ext'; simpa using hxs
          have h2 : argTypes = #[t] := by apply Array.ext'; simpa using hts
          subst h1; subst h2
          split at hm
          · rename_i a1 ha
            refine mut_v (s := Builtin.clear_ #[t] type #[ρ x]) ?_ (clearA_ok hm (hev _ _ ha) r)
            simp only [execOp, resolve, List.map_toArray, List.map_cons, List.map_nil]
            rfl
          · cases hm
        · cases hm
      · cases hm
    · cases hm
def CallSound1 (P : Program) (w0 : Base) (call : Nat → List AV → AH → Rs (CR × AH)) : Prop :=
  ∀ f args h r h' φ w vs, call f args h = .ok (r, h') → Rel w0 φ h w → VRl φ args vs → Calls P f vs.toArray w (fun e w' => ∃ φ', φ.le φ' ∧ Rel w0 φ' h' w' ∧ Keep h h' ∧
    ((∃ a v, r = .ret a ∧ e = .returned v ∧ VR φ' a v) ∨ (∃ a v, r = .pan a ∧ e = .panicked [{ v, recovered := false }] ∧ VR φ' a v)))
def CallSound (P : Program) (w0 : Base) (call : Nat → List AV → AH → Rs (CR × AH)) : Prop := ∀ fz, CallSound1 P ⟨w0.w, fz⟩ call
theorem callA_ok (hev : EVR φ ev ρ) {o : Oper} {f : Nat} {args : List AV} (hc : callA P ev o = some (f, args)) : ∃ vs, VRl φ args vs ∧ ∀ w, (execOp ρ o).run P w = .ok (.enter f vs.toArray) w := by
  obtain ⟨dst, op, type, pos, after, guard⟩ := o
  unfold callA at hc
  cases op <;> simp only [reduceCtorEq] at hc
  case call c =>
    obtain ⟨callee, ar, argTypes⟩ := c
    simp only at hc
    split at hc
    · rename_i x
      split at hc
      · rename_i g first cap hx
        split at hc
        · rename_i l hl
          split at hc
          · rename_i fn hf
            cases hb : (fn.body.isSome && !(fn.name == "runtime.NumGoroutine")) with
            | false => rw [hb] at hc; cases hc
            | true =>
              rw [hb, cond_true] at hc; cases hc
              simp only [Bool.and_eq_true, Bool.not_eq_true'] at hb
              have hv := hev _ _ hx
              simp only [VR] at hv
              obtain ⟨vf, vc, h1, h2, hv⟩ := hv
              have h3 := evs_ok hev hl
              refine ⟨vf ++ ar.toList.map ρ ++ vc, (h1.append h3).append h2, fun w => ?_⟩
              have e1 : fn.body.isNone = false := by cases hfb : fn.body <;> simp [hfb] at hb ⊢
              have e2 : (vf.toArray ++ ar.map ρ ++ vc.toArray) = (vf ++ ar.toList.map ρ ++ vc).toArray := by apply Array.ext'; simp
              simp only [execOp, resolve, hv, Deferred.ofValue, Sem.run_bind, Sem.run_pure, Result.andThen_ok, invoke, callFunc, run_program, hf, hb.2, e1, Bool.false_eq_true, if_false, e2]
          · cases hc
        · cases hc
      · cases hc
    · cases hc
theorem panA_ok (hev : EVR φ ev ρ) {o : Oper} {a : AV} (hc : panA ev o = some a) : ∃ v, VR φ a v ∧ ∀ w, (execOp ρ o).run P w = .halt (.panic v) w := by
  obtain ⟨dst, op, type, pos, after, guard⟩ := o
  unfold panA at hc
  cases op <;> simp only [reduceCtorEq] at hc
  case panic x =>
    split at hc
    · rename_i t b hx
      cases hc
      have hv := hev _ _ hx
      refine ⟨_, hv, fun w => ?_⟩
      simp only [VR] at hv
      obtain ⟨u, _, hv⟩ := hv
      simp [execOp, Instr.panic, hv, go_sem]
    · cases hc
theorem opVal0_ok {call : Nat → List AV → AH → Rs (CR × AH)} (hcall : CallSound P w0 call) {act : Act} (hev : EVR φ ev act.eval) {o : Oper} {r : CR} {h' : AH} (ho : opVal0 P call ev o h = .ok (r, h')) (rl : Rel w0 φ h w)
    {K : Act → World → Prop} {Q : Exit → Act → World → Prop} (hK : ∀ a φ' v w', r = .ret a → φ.le φ' → VR φ' a v → Rel w0 φ' h' w' → Keep h h' → K (act.put o.dst v) w')
    (hP : ∀ a φ' v w', r = .pan a → φ.le φ' → VR φ' a v → Rel w0 φ' h' w' → Keep h h' → Q (.panic [{ v, recovered := false }]) act w') : o.wp P act w K Q := by
  unfold Oper.wp
  unfold opVal0 at ho
  split at ho
  · rename_i a ha
    cases ho
    obtain ⟨v, h1, h2⟩ := pureA_ok hev ha
    rw [h1 w, Oper.upon_value]
    exact hK a φ v w rfl (Phi.le_refl _) h2 rl (Keep.refl _)
  · split at ho
    · rename_i a ha
      cases ho
      obtain ⟨v, h1, h2⟩ := readA_ok (P := P) hev ha rl
      rw [h1, Oper.upon_value]
      exact hK a φ v w rfl (Phi.le_refl _) h2 rl (Keep.refl _)
    · split at ho
      · rename_i a h1 ha
        cases ho
        obtain ⟨φ', w', k1, k2, k3, ⟨v, k4, k5⟩ | ⟨k4, k5⟩⟩ := mutA_ok (P := P) hev ha rl
        · rw [k4, Oper.upon_value]
          exact hK a φ' v w' rfl k1 k5 k2 k3
        · rw [k4, Oper.upon_skip]
          exact hK a φ' undef w' rfl k1 (by rw [k5]; simp only [VR]; exact ⟨[], .nil, rfl⟩) k2 k3
      · split at ho
        · rename_i f args hc
          obtain ⟨vs, k1, k2⟩ := callA_ok (P := P) hev hc
          rw [k2 w, Oper.upon_enter]
          refine (hcall w0.fz f args h r h' φ w vs ho rl k1).mono ?_
          rintro e w' ⟨φ', g1, g2, g3, ⟨a, v, rfl, rfl, g4⟩ | ⟨a, v, rfl, rfl, g4⟩⟩
          · exact hK a φ' v w' rfl g1 g4 g2 g3
          · exact hP a φ' v w' rfl g1 g4 g2 g3
        · split at ho
          · rename_i a ha
            cases ho
            obtain ⟨v, k1, k2⟩ := panA_ok (P := P) hev ha
            rw [k2 w, Oper.upon_panic]
            exact hP a φ v w rfl (Phi.le_refl _) k1 rl (Keep.refl _)
          · cases ho
end
noncomputable def okV (x : Option AV) (h : AH) : Rs (CR × AH) := Option.casesOn x (.bad 1 0) (fun a => .ok (.ret a, h))
noncomputable def okM (x : Option (AV × AH)) : Rs (CR × AH) := Option.casesOn x (.bad 1 0) (fun p => .ok (.ret p.1, p.2))
noncomputable def callQ (P : Program) (call : Nat → List AV → AH → Rs (CR × AH)) (ev : Operand → Option AV) (o : Oper) (c : Call) (h : AH) : Rs (CR × AH) := match callA P ev o with
  | some (f, args) => call f args h
  | none => okV (pCall P ev o c) h
noncomputable def callB (P : Program) (ev : Operand → Option AV) (o : Oper) (c : Call) (h : AH) : Rs (CR × AH) := match pCall P ev o c with
  | some a => .ok (.ret a, h)
  | none => match rCall P ev c h with
    | some a => .ok (.ret a, h)
    | none => okM (mCall P ev c h)
noncomputable def isVal (c : Call) : Bool := match c.callee with
  | .value _ => true
  | _ => false
noncomputable def panQ (ev : Operand → Option AV) (o : Oper) (h : AH) : Rs (CR × AH) := Option.casesOn (panA ev o) (.bad 1 0) (fun a => .ok (.pan a, h))
noncomputable def opVal (P : Program) (call : Nat → List AV → AH → Rs (CR × AH)) (ev : Operand → Option AV) (o : Oper) (h : AH) : Rs (CR × AH) := match o.op with
  | .move x => okV (ev x) h
  | .assign x => okV (ev x) h
  | .pick c a b => okV (pPick ev c a b) h
  | .binOp op t x y _ => okV (pBin P ev o op t x y) h
  | .unOp _ _ _ => okV (scal P ev o) h
  | .convert s d x => okV (pConv P ev o s d x) h
  | .makeInterface t x => okV (pIface P ev t x) h
  | .makeFunc fn first cap => okV (pFunc ev fn first cap) h
  | .extract x i => okV (pExtract ev x i) h
  | .nilCheck x => okV (pNil ev x) h
  | .fieldAddr s x f => okV (pFieldAddr P ev s x f) h
  | .field s x f => okV (pField P ev s x f) h
  | .indexAddr t x i => okV (pIndexAddr P ev t x i) h
  | .index t x i => okV (pIndex P ev t x i) h
  | .slice t x lo hi mx => okV (pSlice P ev t x lo hi mx) h
  | .build t parts => okV (pBuild P ev t parts) h
  | .typeAssert x _ t ok => okV (pAssert P ev x t ok) h
  | .load t x => okV (rLoad P ev t x h) h
  | .lookup t m k ok => okV (rLookup P ev t m k ok h) h
  | .alloc t => okM (mAlloc P ev t h)
  | .box t x => okM (mBox ev t x h)
  | .buildSlice t n parts => okM (mBSlice P ev t n parts h)
  | .store t x y => okM (mStore P ev t x y h)
  | .insert t m k x => okM (mPut P ev t m k x h)
  | .mapUpdate t m k x => okM (mPut2 P ev t m k x h)
  | .mapEntry t m k => okM (mEntry P ev t m k h)
  | .entryStore _ m s x => okM (mEStore ev m s x h)
  | .makeMap _ r => okM (mMap ev r h)
  | .makeSlice t l c => okM (mSlice P ev t l c h)
  | .range t x => okM (mRange P ev t x h)
  | .next x s => okM (mNext ev x s h)
  | .call c => bif isVal c then callQ P call ev o c h else callB P ev o c h
  | .panic _ => panQ ev o h
  | _ => .bad 1 0
theorem okV_eq {P : Program} {call : Nat → List AV → AH → Rs (CR × AH)} {ev : Operand → Option AV} {o : Oper} {h : AH} {x : Option AV} (h1 : pureA P ev o = x) (h2 : readA P ev o h = none) (h3 : mutA P ev o h = none) (h4 : callA P ev o = none) (h5 : panA ev o = none) : okV x h = opVal0 P call ev o h := by
  unfold opVal0
  rw [h1, h2, h3, h4, h5]
  cases x <;> rfl
theorem okR_eq {P : Program} {call : Nat → List AV → AH → Rs (CR × AH)} {ev : Operand → Option AV} {o : Oper} {h : AH} {x : Option AV} (h1 : pureA P ev o = none) (h2 : readA P ev o h = x) (h3 : mutA P ev o h = none) (h4 : callA P ev o = none) (h5 : panA ev o = none) : okV x h = opVal0 P call ev o h := by
  unfold opVal0
  rw [h1, h2, h3, h4, h5]
  cases x <;> rfl
theorem okM_eq {P : Program} {call : Nat → List AV → AH → Rs (CR × AH)} {ev : Operand → Option AV} {o : Oper} {h : AH} {x : Option (AV × AH)} (h1 : pureA P ev o = none) (h2 : readA P ev o h = none) (h3 : mutA P ev o h = x) (h4 : callA P ev o = none) (h5 : panA ev o = none) : okM x = opVal0 P call ev o h := by
  unfold opVal0
  rw [h1, h2, h3, h4, h5]
  rcases x with _ | ⟨a, h'⟩ <;> rfl
theorem bad_eq {P : Program} {call : Nat → List AV → AH → Rs (CR × AH)} {ev : Operand → Option AV} {o : Oper} {h : AH} (h1 : pureA P ev o = none) (h2 : readA P ev o h = none) (h3 : mutA P ev o h = none) (h4 : callA P ev o = none) (h5 : panA ev o = none) : Rs.bad 1 0 = opVal0 P call ev o h := by
  unfold opVal0
  rw [h1, h2, h3, h4, h5]
theorem pCall_callA {P : Program} {ev : Operand → Option AV} {o : Oper} {c : Call} {fa : Nat × List AV} (ho : o.op = .call c) (hv : isVal c = true) (h : callA P ev o = some fa) : pCall P ev o c = none := by
  unfold isVal at hv
  split at hv
  · rename_i x hx
    unfold callA at h
    rw [ho] at h
    simp only [hx] at h
    unfold pCall
    simp only [hx]
    unfold externA
    rw [ho]
    simp only [hx]
    split at h
    · rename_i f first cap hev
      split at h
      · rename_i l hl
        split at h
        · rename_i fn hfn
          cases hb : (fn.body.isSome && !(fn.name == "runtime.NumGoroutine")) with
          | false => rw [hb] at h; cases h
          | true =>
            simp only [Bool.and_eq_true] at hb
            have hn : bodyless P f = false := by
              unfold bodyless
              rw [hfn]
              cases hfb : fn.body <;> simp [hfb] at hb ⊢
            rw [hev]
            split
            · rename_i g hg
              cases hg
              rw [hn]; rfl
            · rfl
        · cases h
      · cases h
    · cases h
  · cases hv
theorem opVal_eq {P : Program} {call : Nat → List AV → AH → Rs (CR × AH)} {ev : Operand → Option AV} (o : Oper) (h : AH) : opVal P call ev o h = opVal0 P call ev o h := by
  obtain ⟨dst, op, type, pos, after, guard⟩ := o
  cases op
  case call c =>
    show (bif isVal c then callQ P call ev _ c h else callB P ev _ c h) = _
    cases hv : isVal c with
    | true =>
      show callQ P call ev _ c h = _
      unfold callQ
      have hx : ∃ x, c.callee = .value x := by
        unfold isVal at hv
        split at hv
        · rename_i x hx; exact ⟨x, hx⟩
        · cases hv
      obtain ⟨x, hx⟩ := hx
      obtain ⟨callee, args, ats⟩ := c
      simp only at hx
      subst hx
      split
      · rename_i f args' hc
        have hp := pCall_callA (o := ⟨dst, .call ⟨.value x, args, ats⟩, type, pos, after, guard⟩) rfl hv hc
        unfold opVal0
        have h1 : pureA P ev ⟨dst, .call ⟨.value x, args, ats⟩, type, pos, after, guard⟩ = none := hp
        rw [h1]
        have h2 : readA P ev ⟨dst, .call ⟨.value x, args, ats⟩, type, pos, after, guard⟩ h = none := rfl
        have h3 : mutA P ev ⟨dst, .call ⟨.value x, args, ats⟩, type, pos, after, guard⟩ h = none := rfl
        rw [h2, h3, hc]
      · rename_i hc
        exact okV_eq rfl rfl rfl hc rfl
    | false =>
      show callB P ev _ c h = _
      have hc : callA P ev ⟨dst, .call c, type, pos, after, guard⟩ = none := by
        obtain ⟨callee, args, ats⟩ := c
        cases callee with
        | value x => cases hv
        | _ => rfl
      unfold callB opVal0
      have h1 : pureA P ev ⟨dst, .call c, type, pos, after, guard⟩ = pCall P ev ⟨dst, .call c, type, pos, after, guard⟩ c := rfl
      have h2 : readA P ev ⟨dst, .call c, type, pos, after, guard⟩ h = rCall P ev c h := rfl
      have h3 : mutA P ev ⟨dst, .call c, type, pos, after, guard⟩ h = mCall P ev c h := rfl
      have h5 : panA ev ⟨dst, .call c, type, pos, after, guard⟩ = none := rfl
      rw [h1, h2, h3, hc, h5]
      cases pCall P ev ⟨dst, .call c, type, pos, after, guard⟩ c with
      | some a => rfl
      | none =>
        show (match rCall P ev c h with | some a => _ | none => okM (mCall P ev c h)) = _
        cases rCall P ev c h with
        | some a => rfl
        | none => rcases mCall P ev c h with _ | ⟨a, h'⟩ <;> rfl
  case panic x =>
    show panQ ev _ h = _
    unfold panQ opVal0
    have h1 : pureA P ev ⟨dst, .panic x, type, pos, after, guard⟩ = none := rfl
    have h2 : readA P ev ⟨dst, .panic x, type, pos, after, guard⟩ h = none := rfl
    have h3 : mutA P ev ⟨dst, .panic x, type, pos, after, guard⟩ h = none := rfl
    have h4 : callA P ev ⟨dst, .panic x, type, pos, after, guard⟩ = none := rfl
    rw [h1, h2, h3, h4]
    cases panA ev ⟨dst, .panic x, type, pos, after, guard⟩ <;> rfl
  all_goals first
    | exact okV_eq rfl rfl rfl rfl rfl
    | exact okR_eq rfl rfl rfl rfl rfl
    | exact okM_eq rfl rfl rfl rfl rfl
    | exact bad_eq rfl rfl rfl rfl rfl
theorem opVal_ok {P : Program} {w0 : Base} {w : World} {φ : Phi} {h : AH} {ev : Operand → Option AV} {call : Nat → List AV → AH → Rs (CR × AH)} (hcall : CallSound P w0 call) {act : Act} (hev : EVR φ ev act.eval) {o : Oper} {r : CR} {h' : AH} (ho : opVal P call ev o h = .ok (r, h')) (rl : Rel w0 φ h w)
    {K : Act → World → Prop} {Q : Exit → Act → World → Prop} (hK : ∀ a φ' v w', r = .ret a → φ.le φ' → VR φ' a v → Rel w0 φ' h' w' → Keep h h' → K (act.put o.dst v) w')
    (hP : ∀ a φ' v w', r = .pan a → φ.le φ' → VR φ' a v → Rel w0 φ' h' w' → Keep h h' → Q (.panic [{ v, recovered := false }]) act w') : o.wp P act w K Q :=
  opVal0_ok hcall hev (by rw [← opVal_eq]; exact ho) rl hK hP
end Ev
end Go.Proofs.YtaegacblpbbndaaDoor
end
