/- The texts EvE of the proof, joined. Each says at its theorems what it proves. -/
import Derived.Test.YtaegacblpbbndaaDoorJ15
set_option linter.unusedSimpArgs false
set_option linter.unusedVariables false
section
namespace Go.Proofs.YtaegacblpbbndaaDoor
open Go Go.RowKit
set_option linter.unusedSimpArgs false
set_option linter.unusedVariables false
namespace Ev
structure AF where
  tm : Fr
  n : Nat
  df : List (Nat × List AV × List AV)
inductive AX where
  | normal
  | exit (id : Nat)
  | goto (l : Nat)
  | ret
  | panic (a : AV)
noncomputable def AF.get (F : AF) (t : Nat) : AV := bif Nat.ble 256 t then .tup [] else Fr.get F.tm t
theorem AF.get_lt {F : AF} {t : Nat} (h : t < 256) : F.get t = Fr.get F.tm t := by
  have : Nat.ble 256 t = false := by
    cases hb : Nat.ble 256 t with
    | false => rfl
    | true => have := Nat.le_of_ble_eq_true hb; omega
  unfold AF.get; rw [this]; rfl
theorem AF.get_ge {F : AF} {t : Nat} (h : 256 ≤ t) : F.get t = .tup [] := by unfold AF.get; rw [Nat.ble_eq_true_of_le h]; rfl
theorem AF.get_of {F F' : AF} {t : Nat} (h : t < 256 → Fr.get F.tm t = Fr.get F'.tm t) : F.get t = F'.get t := by
  by_cases ht : t < 256
  · rw [AF.get_lt ht, AF.get_lt ht, h ht]
  · rw [AF.get_ge (by omega), AF.get_ge (by omega)]
noncomputable def evF (F : AF) : Operand → Option AV
  | .tmp t => bif Nat.blt t F.n then some (F.get t) else none
  | .const v => ofV v
  | .func f => some (.fn f [] [])
  | .global _ => none
noncomputable def AF.put (F : AF) (dst : Option Nat) (a : AV) : Option AF := match dst with
  | none => some F
  | some d => bif Nat.blt d F.n && Nat.ble F.n 256 then some { tm := Fr.set a F.tm d, n := F.n, df := F.df } else none
def DR (φ : Phi) : List (Nat × List AV × List AV) → List Deferred → Prop
  | [], l => l = []
  | (f, as, cs) :: r, l => ∃ vs vc l', l = { target := .fn (.func f) vc.toArray, args := vs.toArray } :: l' ∧ VRl φ as vs ∧ VRl φ cs vc ∧ DR φ r l'
theorem DR.mono {φ φ' : Phi} (h : φ.le φ') : ∀ {r : List (Nat × List AV × List AV)} {l : List Deferred}, DR φ r l → DR φ' r l
  | [], _, k => k
  | (_, _, _) :: _, _, k => by
    simp only [DR] at k ⊢
    obtain ⟨vs, vc, l', e, a, b, c⟩ := k
    exact ⟨vs, vc, l', e, a.mono h, b.mono h, DR.mono h c⟩
structure FR (φ : Phi) (F : AF) (a : Act) : Prop where
  size : a.tmps.size = F.n
  tm : ∀ t, t < F.n → VR φ (F.get t) (a.tmps.getD t undef)
  df : DR φ F.df a.defers
theorem FR.mono {φ φ' : Phi} (h : φ.le φ') {F : AF} {a : Act} (k : FR φ F a) : FR φ' F a := ⟨k.size, fun t ht => (k.tm t ht).mono h, k.df.mono h⟩
theorem FR.ev {φ : Phi} {F : AF} {a : Act} (k : FR φ F a) : EVR φ (evF F) a.eval := by
  intro x b h
  cases x with
  | tmp t =>
    unfold evF at h
    cases hb : Nat.blt t F.n with
    | false => simp only [hb, cond_false, reduceCtorEq] at h
    | true =>
      simp only [hb, cond_true, Option.some.injEq] at h
      subst h
      exact k.tm t (by simpa [Nat.blt_eq] using hb)
  | const v => exact ofV_VR h
  | func f =>
    simp only [evF, Option.some.injEq] at h
    subst h
    simp only [VR]
    exact ⟨[], [], .nil, .nil, rfl⟩
  | global g => simp [evF] at h
theorem AF.put_ok {φ : Phi} {F F' : AF} {dst : Option Nat} {b : AV} {v : Value} {a : Act} (h : F.put dst b = some F') (hv : VR φ b v) (k : FR φ F a) : FR φ F' (a.put dst v) := by
  unfold AF.put at h
  split at h
  · cases h; exact k
  · rename_i d
    cases hb : (Nat.blt d F.n && Nat.ble F.n 256) with
    | false => rw [hb] at h; cases h
    | true =>
      rw [hb, cond_true] at h; cases h
      simp only [Bool.and_eq_true] at hb
      have hd : d < F.n := by simpa [Nat.blt_eq] using hb.1
      have hn := ble_of hb.2
      refine ⟨by simp [Act.put, k.size], fun t ht => ?_, k.df⟩
      have htn : t < F.n := ht
      rw [AF.get_lt (by omega)]
      by_cases htd : t = d
      · subst htd
        rw [Fr.get_set_same b F.tm t (by omega)]
        have hs : t < a.tmps.size := by rw [k.size]; exact hd
        simp [Act.put, hs, hv]
      · rw [Fr.get_set_other b F.tm d t (by omega) (by have : t < F.n := ht; omega) htd]
        have := k.tm t ht
        rw [AF.get_lt (by omega)] at this
        simpa [Act.put, Array.getElem?_setIfInBounds_ne (Ne.symm htd)] using this
theorem undefVR {φ : Phi} : VR φ (.tup []) undef := by simp only [VR]; exact ⟨[], .nil, rfl⟩
noncomputable def guardA (ops : Array Oper) (F : AF) : Option (Nat × Bool) → Option Bool
  | none => some true
  | some (j, want) => match ops.toList[j]? with
    | some o => match o.dst with
      | some t => bif Nat.blt t F.n then (match F.get t with
        | .bool b => some (b == want)
        | .tup [] => some false
        | _ => none) else none
      | none => none
    | none => none
theorem guardA_ok {φ : Phi} {F : AF} {a : Act} {ops : Array Oper} {o : Oper} {b : Bool} (h : guardA ops F o.guard = some b) (k : FR φ F a) : Region.wanted o (yielded ops a.tmps) = b := by
  unfold guardA at h
  unfold Region.wanted
  split at h
  · rename_i hg; rw [hg]; cases h; rfl
  · rename_i j want hg
    rw [hg]
    split at h
    · rename_i o' ho
      split at h
      · rename_i t ht
        cases hb : Nat.blt t F.n with
        | false => rw [hb] at h; cases h
        | true =>
          rw [hb, cond_true] at h
          have hlt : t < F.n := by simpa [Nat.blt_eq] using hb
          have hv := k.tm t hlt
          have hs : t < a.tmps.size := by rw [k.size]; exact hlt
          have hy : yielded ops a.tmps j = match a.tmps.getD t undef with | .bool b => some b | _ => none := by
            have ho' : ops[j]? = some o' := by simpa using ho
            simp only [yielded, ho', Option.bind_some, ht]
            rw [Array.getElem?_eq_getElem hs]
            simp [hs]
            cases a.tmps[t] <;> rfl
          simp only [hy]
          split at h
          · rename_i c hc
            rw [hc] at hv; simp only [VR] at hv
            cases h
            rw [hv]
            cases c <;> cases want <;> rfl
          · rename_i hc
            rw [hc] at hv; simp only [VR] at hv
            obtain ⟨vs, h1, hv⟩ := hv
            cases h
            rw [hv]; rfl
          · cases h
      · cases h
    · cases h
noncomputable def deferA (ev : Operand → Option AV) (c : Call) : Option (Nat × List AV × List AV) := match c.callee with
  | .value x => match ev x with
    | some (.fn f first cap) => match evs ev c.args.toList with
      | some l => some (f, first ++ l, cap)
      | none => none
    | _ => none
  | _ => none
noncomputable def opsRun (P : Program) (call : Nat → List AV → AH → Rs (CR × AH)) (ops : Array Oper) : List Oper → AF → AH → Rs (AX × AF × AH)
  | [], F, H => .ok (.normal, F, H)
  | o :: rest, F, H => match guardA ops F o.guard with
    | none => .bad 2 0
    | some false => match F.put o.dst (.tup []) with
      | some F' => opsRun P call ops rest F' H
      | none => .bad 3 0
    | some true => match o.op with
      | .defer c => match deferA (evF F) c with
        | some d => match F.put o.dst (.tup []) with
          | some F' => opsRun P call ops rest { tm := F'.tm, n := F'.n, df := d :: F'.df } H
          | none => .bad 3 0
        | none => .bad 4 0
      | _ => match opValX P call (evF F) o H with
        | .ok (.ret a, H') => match F.put o.dst a with
          | some F' => opsRun P call ops rest F' H'
          | none => .bad 3 0
        | .ok (.pan a, H') => .ok (.panic a, F, H')
        | .bad c x => .bad c (bif Nat.beq x 0 then rest.length + 1 else x)
def XR (φ : Phi) : AX → Exit → Prop
  | .normal, e => e = .normal
  | .exit i, e => e = .exit i
  | .goto l, e => e = .goto l
  | .ret, e => e = .ret
  | .panic a, e => ∃ v, e = .panic [{ v, recovered := false }] ∧ VR φ a v
def Post (w0 : Base) (φ : Phi) (H : AH) (x : AX) (F' : AF) (H' : AH) : Exit → Act → World → Prop := fun e a w =>
  ∃ φ', φ.le φ' ∧ Rel w0 φ' H' w ∧ Keep H H' ∧ FR φ' F' a ∧ XR φ' x e
theorem Post.step {w0 : Base} {φ φ1 : Phi} {H H1 : AH} {x : AX} {F' : AF} {H' : AH} {e : Exit} {a : Act} {w : World} (h1 : φ.le φ1) (h2 : Keep H H1) (k : Post w0 φ1 H1 x F' H' e a w) : Post w0 φ H x F' H' e a w := by
  obtain ⟨φ', a1, a2, a3, a4, a5⟩ := k
  exact ⟨φ', Phi.le_trans h1 a1, a2, h2.trans a3, a4, a5⟩
theorem wpList_imp {P : Program} {ops : Array Oper} {Q Q' : Exit → Act → World → Prop} (hq : ∀ e a w, Q e a w → Q' e a w) : ∀ (l : List Oper) (a : Act) (w : World), wpList P ops Q l a w → wpList P ops Q' l a w
  | [], a, w, h => hq _ _ _ h
  | o :: rest, a, w, h => by
    unfold wpList at h ⊢
    split
    · rename_i hw
      rw [if_pos hw] at h
      rcases h with h | ⟨h1, h2⟩
      · left
        unfold Oper.wp at h ⊢
        generalize (execOp a.eval o).run P w = r at *
        cases r with
        | ok n w' =>
          cases n <;> simp only [Oper.upon] at h ⊢ <;>
            first
              | exact wpList_imp hq rest _ _ h
              | exact Calls.mono h (fun e w'' he => by cases e <;> first | exact wpList_imp hq rest _ _ he | exact hq _ _ _ he | (obtain ⟨a0, w1, he⟩ := he; exact ⟨a0, w1, hq _ _ _ he⟩))
              | exact Rows.mono h (fun _ _ he => wpList_imp hq rest _ _ he)
        | halt x w' => cases x <;> simp only [Oper.upon] at h ⊢ <;> first | exact hq _ _ _ h | exact h
      · right
        obtain ⟨a0, w1, h2⟩ := h2
        exact ⟨h1, a0, w1, hq _ _ _ h2⟩
    · rename_i hw
      rw [if_neg hw] at h
      exact wpList_imp hq rest _ _ h
section
variable {P : Program} {w0 : Base} {call : Nat → List AV → AH → Rs (CR × AH)}
theorem opsRun_ok (hcall : CallSound P w0 call) {ops : Array Oper} : ∀ (l : List Oper) {F F' : AF} {H H' : AH} {x : AX} {φ : Phi} {a : Act} {w : World}, opsRun P call ops l F H = .ok (x, F', H') → Rel w0 φ H w → FR φ F a →
    wpList P ops (Post w0 φ H x F' H') l a w
  | [], F, F', H, H', x, φ, a, w, h, r, k => by
    simp only [opsRun, Rs.ok.injEq, Prod.mk.injEq] at h
    obtain ⟨rfl, rfl, rfl⟩ := h
    exact ⟨φ, Phi.le_refl _, r, Keep.refl _, k, rfl⟩
  | o :: rest, F, F', H, H', x, φ, a, w, h, r, k => by
    unfold opsRun at h
    unfold wpList
    split at h
    · cases h
    · rename_i hg
      rw [guardA_ok hg k, if_neg (by simp)]
      split at h
      · rename_i F1 hp
        exact opsRun_ok hcall rest h r (AF.put_ok hp undefVR k)
      · cases h
    · rename_i hg
      rw [guardA_ok hg k, if_pos rfl]
      left
      split at h
      · rename_i c hop
        split at h
        · rename_i d hd
          split at h
          · rename_i F1 hp
            unfold deferA at hd
            split at hd
            · rename_i y hy
              split at hd
              · rename_i f first cap hev
                split at hd
                · rename_i l hl
                  cases hd
                  have hv := k.ev _ _ hev
                  simp only [VR] at hv
                  obtain ⟨vf, vc, h1, h2, hv⟩ := hv
                  have h3 := evs_ok k.ev hl
                  have hrun : (execOp a.eval o).run P w = .ok (.defer { target := .fn (.func f) vc.toArray, args := (vf ++ c.args.toList.map a.eval).toArray }) w := by
                    obtain ⟨dst, op, type, pos, after, guard⟩ := o
                    simp only at hop
                    subst hop
                    have e2 : vf.toArray ++ c.args.map a.eval = (vf ++ c.args.toList.map a.eval).toArray := by apply Array.ext'; simp
                    simp only [execOp, resolve, hy, hv, Deferred.ofValue, Sem.run_bind, Sem.run_pure, Result.andThen_ok, e2]
                  unfold Oper.wp
                  rw [hrun, Oper.upon_defer]
                  have k1 := AF.put_ok hp undefVR k
                  refine wpList_imp (fun e a w q => q) rest _ _ (opsRun_ok hcall rest h r ⟨?_, ?_, ?_⟩)
                  · rw [← k1.size]; cases o.dst <;> rfl
                  · intro t ht
                    have := k1.tm t ht
                    cases hdst : o.dst <;> rw [hdst] at this <;> exact this
                  · have hdf : ∀ (b : Act) (z : Option Tmp), (b.put z undef).defers = b.defers := fun b z => by cases z <;> rfl
                    rw [hdf]
                    simp only [DR]
                    refine ⟨_, _, _, rfl, h1.append h3, h2, ?_⟩
                    have := k1.df
                    rw [hdf] at this; exact this
                · cases hd
              · cases hd
            · cases hd
          · cases h
        · cases h
      · split at h
        · rename_i b H1 ho
          split at h
          · rename_i F1 hp
            refine opValX_ok hcall k.ev ho r ?_ ?_
            · intro c φ1 v w1 hc hle hv hr hk
              cases hc
              exact wpList_imp (fun e a w q => Post.step hle hk q) rest _ _ (opsRun_ok hcall rest h hr (AF.put_ok hp hv (k.mono hle)))
            · intro c φ1 v w1 hc; cases hc
          · cases h
        · rename_i b H1 ho
          simp only [Rs.ok.injEq, Prod.mk.injEq] at h
          obtain ⟨rfl, rfl, rfl⟩ := h
          refine opValX_ok hcall k.ev ho r ?_ ?_
          · intro c φ1 v w1 hc; cases hc
          · intro c φ1 v w1 hc hle hv hr hk
            cases hc
            exact ⟨φ1, hle, hr, hk, k.mono hle, v, rfl, hv⟩
        · cases h
end
end Ev
end Go.Proofs.YtaegacblpbbndaaDoor
end
