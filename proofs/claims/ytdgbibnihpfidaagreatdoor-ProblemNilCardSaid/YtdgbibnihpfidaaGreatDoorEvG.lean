/- A reader of closed runs, part 16: code, calls, deferred calls. No condition. -/
import Derived.Test.YtdgbibnihpfidaaGreatDoorEvS
import Derived.Deep.LoopGhost
namespace Go.Proofs.YtdgbibnihpfidaaGreatDoor
open Go Go.RowKit
set_option linter.unusedSimpArgs false
set_option linter.unusedVariables false
namespace Ev

abbrev Cf := AF → AH → Rs (AX × AF × AH)
noncomputable def loopN (f : Cf) : Nat → Cf
  | 0, _, _ => .bad 20 0
  | n + 1, F, H => match f F H with
    | .ok (.normal, F', H') => loopN f n F' H'
    | r => r
noncomputable def scopeN (f : Code → Cf) (c : Code) : Nat → Code → Cf
  | 0, _, _, _ => .bad 21 0
  | n + 1, r, F, H => match f r F H with
    | .ok (.goto l, F', H') => match findLabel c l with
      | some r' => scopeN f c n r' F' H'
      | none => .bad 22 l
    | x => x
noncomputable def stepC (P : Program) (call : Nat → List AV → AH → Rs (CR × AH)) (f : Code → Cf) (m : Nat) : Code → Cf
  | .skip, F, H => .ok (.normal, F, H)
  | .label _, F, H => .ok (.normal, F, H)
  | .region _ ops draw, F, H => bif draw then drawnAny P call ops F H else opsRun P call ops ops.toList F H
  | .seq a b, F, H => match f a F H with
    | .ok (.normal, F', H') => f b F' H'
    | r => r
  | .cond c x y, F, H => match evF F c with
    | some (.bool true) => f x F H
    | some (.bool false) => f y F H
    | _ => .bad 23 0
  | .block id c, F, H => match f c F H with
    | .ok (.exit i, F', H') => bif Nat.beq i id then .ok (.normal, F', H') else .ok (.exit i, F', H')
    | r => r
  | .loop c, F, H => loopN (f c) m F H
  | .scope c, F, H => scopeN f c m c F H
  | .exit id, F, H => .ok (.exit id, F, H)
  | .goto l, F, H => .ok (.goto l, F, H)
  | .ret, F, H => .ok (.ret, F, H)
  | _, _, _ => .bad 24 0

/-! ### A scope: jumps to its own labels -/
theorem wp_scope_ghost {P : Program} {Q : Exit → Act → World → Prop} {c : Code} {a : Act} {w : World} (I : Nat → Code → Act → World → Prop) (n₀ : Nat) (h₀ : I n₀ c a w)
    (pass : ∀ n r a w, I n r a w → r.wp P (fun e a' w' => match e with
      | .goto l => ∃ r', findLabel c l = some r' ∧ ∃ n', n' < n ∧ I n' r' a' w'
      | e => Q e a' w') a w) : (Code.scope c).wp P Q a w := by
  intro b k cs
  have key : ∀ n r a w, I n r a w → ∃ e a' w', Q e a' w' ∧ Arrives P (lone (b.at a (.code r :: .inScope c :: k)) cs w) b k cs e a' w' := by
    intro n
    induction n using Nat.strongRecOn with
    | _ n ih =>
      intro r a w hI
      obtain ⟨e, a₁, w₁, hq, harr⟩ := pass n r a w hI b (.inScope c :: k) cs
      cases e with
      | normal => exact ⟨.normal, a₁, w₁, hq, Steps.trans harr (.one step_inScope)⟩
      | exit id => exact ⟨.exit id, a₁, w₁, hq, fun k' hk => harr k' (by simp [exitTo, hk])⟩
      | goto l =>
        obtain ⟨r', hf, n', hlt, hI'⟩ := hq
        obtain ⟨e₂, a₂, w₂, hq₂, harr₂⟩ := ih n' hlt r' a₁ w₁ hI'
        exact ⟨e₂, a₂, w₂, hq₂, .of_steps (harr _ (by simp [gotoIn, hf])) harr₂⟩
      | ret => exact ⟨_, a₁, w₁, hq, harr⟩
      | panic ch => exact ⟨_, a₁, w₁, hq, harr⟩
      | outgrown => exact ⟨_, a₁, w₁, hq, harr⟩
  obtain ⟨e, a₁, w₁, hq, harr⟩ := key n₀ c a w h₀
  exact ⟨e, a₁, w₁, hq, .of_steps (.one step_scope) harr⟩

def CodeSound (P : Program) (w0 : Base) (f : Code → Cf) : Prop :=
  ∀ c F H x F' H' φ a w, f c F H = .ok (x, F', H') → Rel w0 φ H w → FR φ F a → c.wp P (Post w0 φ H x F' H') a w
section
variable {P : Program} {w0 : Base} {f : Code → Cf}
theorem XR.not {φ : Phi} {x : AX} {e : Exit} (h : XR φ x e) : (e = .normal ↔ x = .normal) := by
  cases x <;> simp only [XR] at h <;> first | (subst h; simp; done) | (obtain ⟨v, rfl, _⟩ := h; simp)
theorem loopN_ok (hf : CodeSound P w0 f) {c : Code} : ∀ (n : Nat) {F F' : AF} {H H' : AH} {x : AX} {φ : Phi} {a : Act} {w : World}, loopN (f c) n F H = .ok (x, F', H') → Rel w0 φ H w → FR φ F a → (Code.loop c).wp P (Post w0 φ H x F' H') a w := by
  intro n F F' H H' x φ a w h r k
  refine wp_loop_ghost (fun n a w => ∃ F1 H1 φ1, φ.le φ1 ∧ Keep H H1 ∧ Rel w0 φ1 H1 w ∧ FR φ1 F1 a ∧ loopN (f c) n F1 H1 = .ok (x, F', H')) n ⟨F, H, φ, Phi.le_refl _, Keep.refl _, r, k, h⟩ ?_
  rintro n a w ⟨F1, H1, φ1, hle, hk, r1, k1, h1⟩
  cases n with
  | zero => cases h1
  | succ n =>
    simp only [loopN] at h1
    split at h1
    · rename_i F2 H2 h2
      refine wp_mono (hf _ _ _ _ _ _ _ _ _ h2 r1 k1) ?_
      rintro e a w ⟨φ2, g1, g2, g3, g4, g5⟩
      simp only [XR] at g5; subst g5
      exact ⟨n, Nat.lt_succ_self n, F2, H2, φ2, Phi.le_trans hle g1, hk.trans g3, g2, g4, h1⟩
    · rename_i hne
      have h2 : f c F1 H1 = .ok (x, F', H') := h1
      refine wp_mono (hf _ _ _ _ _ _ _ _ _ h2 r1 k1) ?_
      rintro e a w ⟨φ2, g1, g2, g3, g4, g5⟩
      have hx : x ≠ .normal := by rintro rfl; exact hne _ _ h2
      have he : e ≠ .normal := fun q => hx ((XR.not g5).1 q)
      have post : Post w0 φ H x F' H' e a w := ⟨φ2, Phi.le_trans hle g1, g2, hk.trans g3, g4, g5⟩
      cases e <;> first | exact absurd rfl he | exact post
theorem scopeN_ok (hf : CodeSound P w0 f) {c : Code} (n : Nat) {F F' : AF} {H H' : AH} {x : AX} {φ : Phi} {a : Act} {w : World} (h : scopeN f c n c F H = .ok (x, F', H')) (r : Rel w0 φ H w) (k : FR φ F a) : (Code.scope c).wp P (Post w0 φ H x F' H') a w := by
  refine wp_scope_ghost (fun n rr a w => ∃ F1 H1 φ1, φ.le φ1 ∧ Keep H H1 ∧ Rel w0 φ1 H1 w ∧ FR φ1 F1 a ∧ scopeN f c n rr F1 H1 = .ok (x, F', H')) n ⟨F, H, φ, Phi.le_refl _, Keep.refl _, r, k, h⟩ ?_
  rintro n rr a w ⟨F1, H1, φ1, hle, hk, r1, k1, h1⟩
  cases n with
  | zero => cases h1
  | succ n =>
    simp only [scopeN] at h1
    split at h1
    · rename_i l F2 H2 h2
      split at h1
      · rename_i r' hl
        refine wp_mono (hf _ _ _ _ _ _ _ _ _ h2 r1 k1) ?_
        rintro e a w ⟨φ2, g1, g2, g3, g4, g5⟩
        simp only [XR] at g5; subst g5
        exact ⟨r', hl, n, Nat.lt_succ_self n, F2, H2, φ2, Phi.le_trans hle g1, hk.trans g3, g2, g4, h1⟩
      · cases h1
    · rename_i hne
      have h2 : f rr F1 H1 = .ok (x, F', H') := h1
      refine wp_mono (hf _ _ _ _ _ _ _ _ _ h2 r1 k1) ?_
      rintro e a w ⟨φ2, g1, g2, g3, g4, g5⟩
      have hx : ∀ l, x ≠ .goto l := by rintro l rfl; exact hne _ _ _ h2
      have post : Post w0 φ H x F' H' e a w := ⟨φ2, Phi.le_trans hle g1, g2, hk.trans g3, g4, g5⟩
      cases e with
      | goto l =>
        exfalso
        cases x <;> simp only [XR] at g5 <;> first | (obtain ⟨v, q, _⟩ := g5; cases q; done) | (cases g5; done) | cases g5
        exact hx _ rfl
      | _ => exact post
theorem stepC_ok {call : Nat → List AV → AH → Rs (CR × AH)} (hcall : CallSound P w0 call) (hf : CodeSound P w0 f) (hm : P.follows .mixedOrders = true) (m : Nat) : CodeSound P w0 (stepC P call f m) := by
  intro c F H x F' H' φ a w h r k
  cases c with
  | skip =>
    simp only [stepC, Rs.ok.injEq, Prod.mk.injEq] at h
    obtain ⟨rfl, rfl, rfl⟩ := h
    exact wp_skip ⟨φ, Phi.le_refl _, r, Keep.refl _, k, rfl⟩
  | label l =>
    simp only [stepC, Rs.ok.injEq, Prod.mk.injEq] at h
    obtain ⟨rfl, rfl, rfl⟩ := h
    exact wp_label ⟨φ, Phi.le_refl _, r, Keep.refl _, k, rfl⟩
  | exit l =>
    simp only [stepC, Rs.ok.injEq, Prod.mk.injEq] at h
    obtain ⟨rfl, rfl, rfl⟩ := h
    exact wp_exit ⟨φ, Phi.le_refl _, r, Keep.refl _, k, rfl⟩
  | goto l =>
    simp only [stepC, Rs.ok.injEq, Prod.mk.injEq] at h
    obtain ⟨rfl, rfl, rfl⟩ := h
    exact wp_goto ⟨φ, Phi.le_refl _, r, Keep.refl _, k, rfl⟩
  | ret =>
    simp only [stepC, Rs.ok.injEq, Prod.mk.injEq] at h
    obtain ⟨rfl, rfl, rfl⟩ := h
    exact wp_ret ⟨φ, Phi.le_refl _, r, Keep.refl _, k, rfl⟩
  | region id ops draw =>
    simp only [stepC] at h
    cases draw with
    | true => exact drawnAny_ok hcall hm h r k
    | false => exact wp_region_list (opsRun_ok hcall _ h r k)
  | seq y z =>
    simp only [stepC] at h
    refine wp_seq ?_
    split at h
    · rename_i F1 H1 h1
      refine wp_mono (hf _ _ _ _ _ _ _ _ _ h1 r k) ?_
      rintro e a w ⟨φ1, g1, g2, g3, g4, g5⟩
      simp only [XR] at g5; subst g5
      exact wp_mono (hf _ _ _ _ _ _ _ _ _ h g2 g4) fun e a w q => Post.step g1 g3 q
    · rename_i hne
      refine wp_mono (hf _ _ _ _ _ _ _ _ _ h r k) ?_
      intro e a w q
      have hx : x ≠ .normal := by rintro rfl; exact hne _ _ h
      have he : e ≠ .normal := by
        obtain ⟨φ1, g1, g2, g3, g4, g5⟩ := q
        exact fun q => hx ((XR.not g5).1 q)
      cases e <;> first | exact absurd rfl he | exact q
  | cond c y z =>
    simp only [stepC] at h
    split at h
    · rename_i hc
      have hv := k.ev _ _ hc
      simp only [VR] at hv
      exact wp_cond_true hv (hf _ _ _ _ _ _ _ _ _ h r k)
    · rename_i hc
      have hv := k.ev _ _ hc
      simp only [VR] at hv
      exact wp_cond_false hv (hf _ _ _ _ _ _ _ _ _ h r k)
    · cases h
  | block id y =>
    simp only [stepC] at h
    refine wp_block ?_
    split at h
    · rename_i i F1 H1 h1
      refine wp_mono (hf _ _ _ _ _ _ _ _ _ h1 r k) ?_
      rintro e a w ⟨φ1, g1, g2, g3, g4, g5⟩
      simp only [XR] at g5; subst g5
      rcases beq_cases i id with ⟨q, rfl⟩ | ⟨q, q'⟩
      · rw [q, cond_true] at h
        simp only [Rs.ok.injEq, Prod.mk.injEq] at h
        obtain ⟨rfl, rfl, rfl⟩ := h
        simp only [Exit.inBlock, if_true]
        exact ⟨φ1, g1, g2, g3, g4, rfl⟩
      · rw [q, cond_false] at h
        simp only [Rs.ok.injEq, Prod.mk.injEq] at h
        obtain ⟨rfl, rfl, rfl⟩ := h
        simp only [Exit.inBlock, if_neg q']
        exact ⟨φ1, g1, g2, g3, g4, rfl⟩
    · rename_i hne
      refine wp_mono (hf _ _ _ _ _ _ _ _ _ h r k) ?_
      intro e a w q
      have q' := q
      obtain ⟨φ1, g1, g2, g3, g4, g5⟩ := q
      cases e with
      | exit i =>
        exfalso
        cases x <;> simp only [XR] at g5 <;> first | (obtain ⟨v, q, _⟩ := g5; cases q; done) | (cases g5; done) | cases g5
        exact hne _ _ _ h
      | _ => exact q'
  | loop y => exact loopN_ok hf m (by simpa only [stepC] using h) r k
  | scope y => exact scopeN_ok hf m (by simpa only [stepC] using h) r k
  | rangeFunc _ _ _ _ => cases h
  | refuse _ => cases h
end
end Ev
end Go.Proofs.YtdgbibnihpfidaaGreatDoor
