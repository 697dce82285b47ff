/- The texts EvI of the proof, joined. Each says at its theorems what it proves. -/
import Derived.Test.YtaegacblpbbndaaDoorJ25
set_option linter.unusedSimpArgs false
set_option linter.unusedVariables false
section
namespace Go.Proofs.YtaegacblpbbndaaDoor
open Go Go.RowKit
set_option linter.unusedSimpArgs false
set_option linter.unusedVariables false
namespace Ev
noncomputable def fnOk (fn : Func) : Bool := fn.body.isSome && !(fn.name == "runtime.NumGoroutine")
noncomputable def dcall (P : Program) (call : Nat → List AV → AH → Rs (CR × AH)) (f : Code → Cf) (g : Nat) (args : List AV) (u : U) (H : AH) : Rs (U × AH) := match P.funcs[g]? with
  | some fn => match fn.body with
    | some c => bif fnOk fn && Nat.ble args.length fn.ntmps && Nat.ble fn.ntmps 256 then (match exD P call f c (frame0 args fn.ntmps) H u with
        | .ok (x, F', H', u') => match x with
          | .normal => (match F'.df with
            | [] => match resA P fn F' H' with
              | some _ => .ok (u', H')
              | none => .bad 50 g
            | _ => .bad 51 g)
          | .ret => (match F'.df with
            | [] => match resA P fn F' H' with
              | some _ => .ok (u', H')
              | none => .bad 50 g
            | _ => .bad 51 g)
          | _ => .bad 52 g
        | .bad c x => .bad c x) else .bad 53 g
    | none => .bad 54 g
  | none => .bad 55 g
noncomputable def settleU : U → U
  | .done => .ret
  | u => u
noncomputable def leavesRun (P : Program) (call : Nat → List AV → AH → Rs (CR × AH)) (f : Code → Cf) (fn : Func) (F : AF) : List (Nat × List AV × List AV) → U → AH → Rs (CR × AH)
  | [], .ret, H => match resA P fn F H with
    | some b => .ok (.ret b, H)
    | none => .bad 60 0
  | [], .pan a, H => .ok (.pan a, H)
  | [], .done, _ => .bad 61 0
  | (g, as, cs) :: ds, u, H => match dcall P call f g (as ++ cs) u H with
    | .ok (u', H') => leavesRun P call f fn F ds (settleU u') H'
    | .bad c x => .bad c (x * 1000 + g)
noncomputable def callRun (P : Program) (call : Nat → List AV → AH → Rs (CR × AH)) (f : Code → Cf) (g : Nat) (args : List AV) (H : AH) : Rs (CR × AH) := match P.funcs[g]? with
  | some fn => match fn.body with
    | some c => bif Nat.ble args.length fn.ntmps && Nat.ble fn.ntmps 256 then (match f c (frame0 args fn.ntmps) H with
        | .ok (x, F', H') => match x with
          | .normal => leavesRun P call f fn F' F'.df .ret H'
          | .ret => leavesRun P call f fn F' F'.df .ret H'
          | .panic a => leavesRun P call f fn F' F'.df (.pan a) H'
          | _ => .bad 70 g
        | .bad c x => .bad c (x * 1000 + g)) else .bad 71 g
    | none => .bad 72 g
  | none => .bad 73 g
section
variable {P : Program} {w0 : Base} {call : Nat → List AV → AH → Rs (CR × AH)} {f : Code → Cf}
theorem dcall_ok (hcall : CallSound P w0 call) (hf : CodeSound P w0 f) {g : Nat} {args : List AV} {vs : List Value} {u u' : U} {H H' : AH} {φ : Phi} {w : World} {m : FrameMode} (h : dcall P call f g args u H = .ok (u', H')) (r : Rel w0 φ H w) (hv : VRl φ args vs) (hu : UR φ u m) :
    (∃ fn, P.funcs[g]? = some fn ∧ fnOk fn = true) ∧ CallsD P g vs.toArray m w (fun e m' w' => ∃ v φ', e = .returned v ∧ φ.le φ' ∧ Rel w0 φ' H' w' ∧ Keep H H' ∧ UR φ' u' m') := by
  unfold dcall at h
  split at h
  · rename_i fn hfn
    split at h
    · rename_i c hb
      cases hc : (fnOk fn && Nat.ble args.length fn.ntmps && Nat.ble fn.ntmps 256) with
      | false => rw [hc] at h; cases h
      | true =>
        rw [hc, cond_true] at h
        simp only [Bool.and_eq_true] at hc
        refine ⟨⟨fn, hfn, hc.1.1⟩, callsD_of_wpS hfn hb fun c₀ cs hmode => ?_⟩
        have hc0 : ({ c₀ with mode := m } : Frame) = c₀ := by subst hmode; rfl
        have k := frame0_ok hv (ble_of hc.1.2) (ble_of hc.2)
        split at h
        · rename_i x F1 H1 u1 h1
          have hx := exD_ok (c0 := c₀) (cs := cs) hcall hf c h1 r k hu
          rw [hc0] at hx
          have fin : (x = .normal ∨ x = .ret) → (match F1.df with
              | [] => match resA P fn F1 H1 with
                | some _ => Rs.ok (u1, H1)
                | none => .bad 50 g
              | _ => .bad 51 g) = .ok (u', H') → c.wpS P (bodyPostS P fn c₀ cs (fun e m' w' => ∃ v φ', e = .returned v ∧ φ.le φ' ∧ Rel w0 φ' H' w' ∧ Keep H H' ∧ UR φ' u' m')) { tmps := vs.toArray ++ Array.replicate (fn.ntmps - vs.toArray.size) undef, defers := [] } (c₀ :: cs) w := by
            intro hxx h
            split at h
            · rename_i hdf
              split at h
              · rename_i b hres
                simp only [Rs.ok.injEq, Prod.mk.injEq] at h
                obtain ⟨rfl, rfl⟩ := h
                refine wpS_mono hx ?_
                rintro e a cs' w' ⟨φ1, m1, g1, g2, g3, g4, g5, g6, rfl⟩
                obtain ⟨v, hv1, hv2⟩ := resA_ok (P := P) hres g4 g2
                have hd : a.defers = [] := by have := g4.df; rw [hdf] at this; exact this
                rcases hxx with rfl | rfl
                · simp only [XR] at g5; subst g5
                  exact ⟨hd, m1, rfl, v, hv1, v, φ1, rfl, g1, g2, g3, g6⟩
                · simp only [XR] at g5; subst g5
                  exact ⟨hd, m1, rfl, v, hv1, v, φ1, rfl, g1, g2, g3, g6⟩
              · cases h
            · cases h
          split at h
          · exact fin (.inl rfl) h
          · exact fin (.inr rfl) h
          · cases h
        · cases h
    · cases h
  · cases h
theorem UR.not_run {φ : Phi} {u : U} {m : FrameMode} (h : UR φ u m) : m ≠ .run := by
  cases u <;> simp only [UR] at h
  · subst h; simp
  · obtain ⟨v, rfl, _⟩ := h; simp
  · obtain ⟨v, rfl⟩ := h; simp
theorem UR.settle {φ : Phi} {u : U} {m : FrameMode} (h : UR φ u m) : UR φ (settleU u) (Go.settle m) := by
  cases u <;> simp only [UR] at h
  · subst h; exact rfl
  · obtain ⟨v, rfl, hv⟩ := h; exact ⟨v, rfl, hv⟩
  · obtain ⟨v, rfl⟩ := h; exact rfl
def CallPost (w0 : Base) (φ : Phi) (H : AH) (r : CR) (H' : AH) : Ending → World → Prop := fun e w' => ∃ φ', φ.le φ' ∧ Rel w0 φ' H' w' ∧ Keep H H' ∧
    ((∃ a v, r = .ret a ∧ e = .returned v ∧ VR φ' a v) ∨ (∃ a v, r = .pan a ∧ e = .panicked [{ v, recovered := false }] ∧ VR φ' a v))
theorem leavesRun_ok (hcall : CallSound P w0 call) (hf : CodeSound P w0 f) {fn : Func} {F : AF} {φ0 : Phi} {H0 H' : AH} {rr : CR} {a : Act} : ∀ (ds : List (Nat × List AV × List AV)) {l : List Deferred} {u : U} {H : AH} {φ : Phi} {w : World} {m : FrameMode},
    leavesRun P call f fn F ds u H = .ok (rr, H') → φ0.le φ → Keep H0 H → Rel w0 φ H w → FR φ F a → DR φ ds l → UR φ u m → Leaves P fn a.tmps (CallPost w0 φ0 H0 rr H') l m w
  | [], l, u, H, φ, w, m, h, hle, hk, r, k, hd, hu => by
    simp only [DR] at hd; subst hd
    cases u with
    | ret =>
      simp only [UR] at hu; subst hu
      simp only [leavesRun] at h
      split at h
      · rename_i b hb
        simp only [Rs.ok.injEq, Prod.mk.injEq] at h
        obtain ⟨rfl, rfl⟩ := h
        obtain ⟨v, h1, h2⟩ := resA_ok (P := P) hb k r
        exact ⟨v, h1, φ, hle, r, hk, .inl ⟨b, v, rfl, rfl, h2⟩⟩
      · cases h
    | pan b =>
      simp only [UR] at hu
      obtain ⟨v, rfl, hv⟩ := hu
      simp only [leavesRun, Rs.ok.injEq, Prod.mk.injEq] at h
      obtain ⟨rfl, rfl⟩ := h
      exact ⟨φ, hle, r, hk, .inr ⟨b, v, rfl, rfl, hv⟩⟩
    | done => cases h
  | (g, as, cs) :: ds, l, u, H, φ, w, m, h, hle, hk, r, k, hd, hu => by
    simp only [DR] at hd
    obtain ⟨vs, vc, l', rfl, h1, h2, h3⟩ := hd
    have h' : (match dcall P call f g (as ++ cs) u H with
      | .ok (u', H') => leavesRun P call f fn F ds (settleU u') H'
      | .bad c x => .bad c (x * 1000 + g)) = .ok (rr, H') := by
      cases u <;> exact h
    split at h'
    · rename_i u1 H1 hdc
      obtain ⟨⟨fn', hfn, hok⟩, hcd⟩ := dcall_ok hcall hf hdc r (h1.append h2) hu
      have hinv : (invoke (.fn (.func g) vc.toArray) vs.toArray).run P w = .ok (.enter g (vs ++ vc).toArray) w := by
        unfold fnOk at hok
        simp only [Bool.and_eq_true, Bool.not_eq_true'] at hok
        have e1 : fn'.body.isNone = false := by cases hfb : fn'.body <;> simp [hfb] at hok ⊢
        have e2 : vs.toArray ++ vc.toArray = (vs ++ vc).toArray := by apply Array.ext'; simp
        simp only [invoke, callFunc, Sem.run_bind, run_program, Result.andThen_ok, hfn, hok.2, e1, Bool.false_eq_true, if_false, Sem.run_pure, e2]
      have body : ∀ m, m ≠ .run → CallsD P g (vs ++ vc).toArray m w (fun
          | .returned _, u', w' => Leaves P fn a.tmps (CallPost w0 φ0 H0 rr H') l' (Go.settle u') w'
          | .panicked chain, u', w' => Leaves P fn a.tmps (CallPost w0 φ0 H0 rr H') l' (raised u' chain) w'
          | .outgrown, _, w' => CallPost w0 φ0 H0 rr H' .outgrown w') → Leaves P fn a.tmps (CallPost w0 φ0 H0 rr H') ({ target := .fn (.func g) vc.toArray, args := vs.toArray } :: l') m w := by
        intro m hm hc
        cases m with
        | run => exact absurd rfl hm
        | returning => exact ⟨hm, _, _, g, (vs ++ vc).toArray, rfl, hinv, hc⟩
        | panicking ch => exact ⟨hm, _, _, g, (vs ++ vc).toArray, rfl, hinv, hc⟩
      refine body m hu.not_run (hcd.mono ?_)
      rintro e m' w' ⟨v, φ1, rfl, g1, g2, g3, g4⟩
      exact leavesRun_ok hcall hf ds h' (Phi.le_trans hle g1) (hk.trans g3) g2 (k.mono g1) (h3.mono g1) g4.settle
    · cases h'
theorem callRun_ok (hcall : CallSound P w0 call) (hf : CodeSound P w0 f) : CallSound1 P w0 (callRun P call f) := by
  intro g args H rr H' φ w vs h r hv
  unfold callRun at h
  split at h
  · rename_i fn hfn
    split at h
    · rename_i c hb
      cases hc : (Nat.ble args.length fn.ntmps && Nat.ble fn.ntmps 256) with
      | false => rw [hc] at h; cases h
      | true =>
        rw [hc, cond_true] at h
        simp only [Bool.and_eq_true] at hc
        have k := frame0_ok hv (ble_of hc.1) (ble_of hc.2)
        refine calls_of_wp_defers hfn hb ?_
        split at h
        · rename_i x F1 H1 h1
          refine wp_mono (hf _ _ _ _ _ _ _ _ _ h1 r k) ?_
          rintro e a w' ⟨φ1, g1, g2, g3, g4, g5⟩
          split at h
          · simp only [XR] at g5; subst g5
            exact leavesRun_ok hcall hf _ h g1 g3 g2 g4 g4.df rfl
          · simp only [XR] at g5; subst g5
            exact leavesRun_ok hcall hf _ h g1 g3 g2 g4 g4.df rfl
          · simp only [XR] at g5
            obtain ⟨v, rfl, g6⟩ := g5
            exact leavesRun_ok hcall hf _ h g1 g3 g2 g4 g4.df ⟨v, rfl, g6⟩
          · cases h
        · cases h
    · cases h
  · cases h
end
noncomputable def AH.empty : AH := { m := .nil, nx := 0, gd := 0 }
theorem Rel.empty (w : World) : Rel ⟨w, []⟩ (fun _ => none) AH.empty w := ⟨Below.refl _ _, fun _ _ => rfl, fun _ _ _ h => (by cases h), fun _ _ _ _ _ _ _ h => (by cases h), fun _ _ h => (by cases h), fun _ h => (by cases h), fun _ _ _ h => (by cases h)⟩
noncomputable def isTrue : Rs (CR × AH) → Bool
  | .ok (.ret (.bool true), _) => true
  | _ => false
end Ev
end Go.Proofs.YtaegacblpbbndaaDoor
end
