/- The texts EvV of the proof, joined. Each says at its theorems what it proves. -/
import Derived.Test.YtaegacblpbbndaaDoorJ28
set_option linter.unusedSimpArgs false
set_option linter.unusedVariables false
section
namespace Go.Proofs.YtaegacblpbbndaaDoor
open Go Go.RowKit
set_option linter.unusedSimpArgs false
set_option linter.unusedVariables false
namespace Ev
abbrev RF := Fr → Df → AH → RX
abbrev CB := Bx (CallF → (Code → RF) → RF)
noncomputable def seqK (x : RX) (k : RF) : RX := RX.rec k (fun x T D H => .esc x T D H) (fun c y => .bad c y) x
noncomputable def loopT (f : RF) (n : Nat) : RF := Nat.rec (fun _ _ _ => .bad 20 0) (fun _ ih T D H => seqK (f T D H) ih) n
noncomputable def condK (x y : RX) (b : Option AV) : RX := Option.rec (.bad 23 0) (fun a => onBool (.bad 23 1) (fun q => Bool.rec (motive := fun _ => RX) y x q) a) b
noncomputable def blockK (id : Nat) (x : RX) : RX := RX.rec (fun T D H => .nor T D H) (fun x T D H => AX.rec (.bad 25 0) (fun i => Bool.rec (motive := fun _ => RX) (.esc (.exit i) T D H) (.nor T D H) (Nat.beq i id)) (fun l => .esc (.goto l) T D H) (.esc .ret T D H) (fun a => .esc (.panic a) T D H) x) (fun c y => .bad c y) x
noncomputable def scopeK (f : Code → RF) (c : Code) (ih : Code → RF) (x : RX) : RX := RX.rec (fun T D H => .nor T D H) (fun x T D H => AX.rec (.bad 25 1) (fun i => .esc (.exit i) T D H) (fun l => Option.rec (.bad 22 l) (fun r => ih r T D H) (findLabel c l)) (.esc .ret T D H) (fun a => .esc (.panic a) T D H) x) (fun c y => .bad c y) x
noncomputable def scopeT (f : Code → RF) (c : Code) (n : Nat) : Code → RF := Nat.rec (fun _ _ _ _ => .bad 21 0) (fun _ ih r T D H => scopeK f c ih (f r T D H)) n
noncomputable def codeT (P : Program) (n m : Nat) (c : Code) : CB := Code.rec
  ⟨fun _ _ T D H => .nor T D H⟩
  (fun _ ops draw => bif draw then (fun b => ⟨fun call _ T D H => b.run call T D H⟩) (drawnT P n ops) else (fun b => ⟨fun call _ T D H => b.run call T D [] H⟩) (opsT P n ops ops.toList []))
  (fun _ _ a b => ⟨fun call slow T D H => seqK (a.run call slow T D H) (b.run call slow)⟩)
  (fun c _ _ a b => (fun e => ⟨fun call slow T D H => condK (a.run call slow T D H) (b.run call slow T D H) (e.run T [])⟩) (evB n [] c))
  (fun id _ a => ⟨fun call slow T D H => blockK id (a.run call slow T D H)⟩)
  (fun _ a => ⟨fun call slow T D H => loopT (a.run call slow) m T D H⟩)
  (fun _ _ _ _ _ _ => ⟨fun _ _ _ _ _ => .bad 24 0⟩)
  (fun id => ⟨fun _ _ T D H => .esc (.exit id) T D H⟩)
  (fun c _ => ⟨fun _ slow T D H => scopeT slow c m c T D H⟩)
  (fun _ => ⟨fun _ _ T D H => .nor T D H⟩)
  (fun l => ⟨fun _ _ T D H => .esc (.goto l) T D H⟩)
  ⟨fun _ _ T D H => .esc .ret T D H⟩
  (fun _ => ⟨fun _ _ _ _ _ => .bad 24 1⟩) c
def SoundAt (P : Program) (w0 : Base) (n : Nat) (g : RF) (c : Code) : Prop :=
  ∀ T D H x F' H' φ a w, (g T D H).to n = .ok (x, F', H') → Rel w0 φ H w → FR φ ⟨T, n, D⟩ a → c.wp P (Post w0 φ H x F' H') a w
section
variable {P : Program} {w0 : Base} {n : Nat}
theorem RX.to_inv {x : RX} {q : AX × AF × AH} (h : x.to n = .ok q) : (∃ T D H, x = .nor T D H ∧ q = (.normal, ⟨T, n, D⟩, H)) ∨ (∃ e T D H, x = .esc e T D H ∧ e ≠ .normal ∧ q = (e, ⟨T, n, D⟩, H)) := by
  cases x with
  | nor T D H => cases h; exact .inl ⟨T, D, H, rfl, rfl⟩
  | esc e T D H => cases e <;> cases h <;> exact .inr ⟨_, T, D, H, rfl, by simp, rfl⟩
  | bad c y => cases h
theorem seqK_inv {x : RX} {k : RF} {q : AX × AF × AH} (h : (seqK x k).to n = .ok q) : (∃ T D H, x = .nor T D H ∧ (k T D H).to n = .ok q) ∨ (x.to n = .ok q ∧ q.1 ≠ .normal) := by
  cases x with
  | nor T D H => exact .inl ⟨T, D, H, rfl, h⟩
  | esc e T D H =>
    have h' : (RX.esc e T D H).to n = .ok q := h
    refine .inr ⟨h', ?_⟩
    rcases RX.to_inv h' with ⟨_, _, _, hx, _⟩ | ⟨_, _, _, _, hx, hne, rfl⟩
    · cases hx
    · exact hne
  | bad c y => cases h
theorem esc_not {φ : Phi} {x : AX} {e : Exit} (h : XR φ x e) (hx : x ≠ .normal) : e ≠ .normal := fun q => hx ((XR.not h).1 q)
theorem loopT_ok {f : RF} {c : Code} (hf : SoundAt P w0 n f c) (m : Nat) {T : Fr} {D : Df} {F' : AF} {H H' : AH} {x : AX} {φ : Phi} {a : Act} {w : World} (h : (loopT f m T D H).to n = .ok (x, F', H')) (r : Rel w0 φ H w) (k : FR φ ⟨T, n, D⟩ a) : (Code.loop c).wp P (Post w0 φ H x F' H') a w := by
  refine wp_loop_ghost (fun m a w => ∃ T1 D1 H1 φ1, φ.le φ1 ∧ Keep H H1 ∧ Rel w0 φ1 H1 w ∧ FR φ1 ⟨T1, n, D1⟩ a ∧ (loopT f m T1 D1 H1).to n = .ok (x, F', H')) m ⟨T, D, H, φ, Phi.le_refl _, Keep.refl _, r, k, h⟩ ?_
  rintro m a w ⟨T1, D1, H1, φ1, hle, hk, r1, k1, h1⟩
  cases m with
  | zero => cases h1
  | succ m =>
    have h1' : (seqK (f T1 D1 H1) (loopT f m)).to n = .ok (x, F', H') := h1
    rcases seqK_inv h1' with ⟨T2, D2, H2, h2, h3⟩ | ⟨h2, hx⟩
    · refine wp_mono (hf _ _ _ _ _ _ _ _ _ (by rw [h2]; rfl) r1 k1) ?_
      rintro e a w ⟨φ2, g1, g2, g3, g4, g5⟩
      simp only [XR] at g5; subst g5
      exact ⟨m, Nat.lt_succ_self m, T2, D2, H2, φ2, Phi.le_trans hle g1, hk.trans g3, g2, g4, h3⟩
    · refine wp_mono (hf _ _ _ _ _ _ _ _ _ h2 r1 k1) ?_
      rintro e a w ⟨φ2, g1, g2, g3, g4, g5⟩
      have he : e ≠ .normal := esc_not g5 hx
      have post : Post w0 φ H x F' H' e a w := ⟨φ2, Phi.le_trans hle g1, g2, hk.trans g3, g4, g5⟩
      cases e <;> first | exact absurd rfl he | exact post
theorem scopeT_ok {f : Code → RF} (hf : ∀ c, SoundAt P w0 n (f c) c) {c : Code} (m : Nat) {T : Fr} {D : Df} {F' : AF} {H H' : AH} {x : AX} {φ : Phi} {a : Act} {w : World} (h : (scopeT f c m c T D H).to n = .ok (x, F', H')) (r : Rel w0 φ H w) (k : FR φ ⟨T, n, D⟩ a) : (Code.scope c).wp P (Post w0 φ H x F' H') a w := by
  refine wp_scope_ghost (fun m rr a w => ∃ T1 D1 H1 φ1, φ.le φ1 ∧ Keep H H1 ∧ Rel w0 φ1 H1 w ∧ FR φ1 ⟨T1, n, D1⟩ a ∧ (scopeT f c m rr T1 D1 H1).to n = .ok (x, F', H')) m ⟨T, D, H, φ, Phi.le_refl _, Keep.refl _, r, k, h⟩ ?_
  rintro m rr a w ⟨T1, D1, H1, φ1, hle, hk, r1, k1, h1⟩
  cases m with
  | zero => cases h1
  | succ m =>
    have h1' : (scopeK f c (scopeT f c m) (f rr T1 D1 H1)).to n = .ok (x, F', H') := h1
    cases hx : f rr T1 D1 H1 with
    | bad c y => rw [hx] at h1'; cases h1'
    | nor T2 D2 H2 =>
      rw [hx] at h1'
      have e : (RX.nor T2 D2 H2).to n = .ok (x, F', H') := h1'
      refine wp_mono (hf _ _ _ _ _ _ _ _ _ _ (by rw [hx]; exact e) r1 k1) ?_
      rintro e a w ⟨φ2, g1, g2, g3, g4, g5⟩
      have post : Post w0 φ H x F' H' e a w := ⟨φ2, Phi.le_trans hle g1, g2, hk.trans g3, g4, g5⟩
      cases h1'
      simp only [XR] at g5; subst g5
      exact post
    | esc y T2 D2 H2 =>
      rw [hx] at h1'
      have other : (∀ l, y ≠ .goto l) → (RX.esc y T2 D2 H2).to n = .ok (x, F', H') → (rr.wp P (fun e a' w' => match e with
          | .goto l => ∃ r', findLabel c l = some r' ∧ ∃ n', n' < m + 1 ∧ ∃ T1 D1 H1 φ1, φ.le φ1 ∧ Keep H H1 ∧ Rel w0 φ1 H1 w' ∧ FR φ1 ⟨T1, n, D1⟩ a' ∧ (scopeT f c n' r' T1 D1 H1).to n = .ok (x, F', H')
          | e => Post w0 φ H x F' H' e a' w') a w) := by
        intro hng e0
        refine wp_mono (hf _ _ _ _ _ _ _ _ _ _ (by rw [hx]; exact e0) r1 k1) ?_
        rintro e a w ⟨φ2, g1, g2, g3, g4, g5⟩
        have post : Post w0 φ H x F' H' e a w := ⟨φ2, Phi.le_trans hle g1, g2, hk.trans g3, g4, g5⟩
        have hxy : x = y := by
          rcases RX.to_inv e0 with ⟨_, _, _, q, _⟩ | ⟨_, _, _, _, q, _, q'⟩
          · cases q
          · cases q; cases q'; rfl
        cases e with
        | goto l =>
          exfalso
          rw [hxy] at g5
          cases y <;> simp only [XR] at g5 <;> first | (obtain ⟨v, q, _⟩ := g5; cases q; done) | (cases g5; done) | (cases g5; exact hng _ rfl)
        | _ => exact post
      cases y with
      | normal => cases h1'
      | exit i => exact other (by simp) h1'
      | ret => exact other (by simp) h1'
      | panic b => exact other (by simp) h1'
      | goto l =>
        have h2 : (Option.rec (motive := fun _ => RX) (.bad 22 l) (fun r => scopeT f c m r T2 D2 H2) (findLabel c l)).to n = .ok (x, F', H') := h1'
        cases hl : findLabel c l with
        | none => rw [hl] at h2; cases h2
        | some r' =>
          rw [hl] at h2
          refine wp_mono (hf _ _ _ _ _ _ _ _ _ _ (by rw [hx]; rfl) r1 k1) ?_
          rintro e a w ⟨φ2, g1, g2, g3, g4, g5⟩
          simp only [XR] at g5; subst g5
          exact ⟨r', hl, m, Nat.lt_succ_self m, T2, D2, H2, φ2, Phi.le_trans hle g1, hk.trans g3, g2, g4, h2⟩
theorem codeT_ok {call : CallF} {slow : Code → RF} (hn : n ≤ 256) (hcall : CallSound P w0 call) (hslow : ∀ c, SoundAt P w0 n (slow c) c) (hm : P.follows .mixedOrders = true) (m : Nat) : ∀ c : Code, SoundAt P w0 n ((codeT P n m c).run call slow) c
  | .skip => by
    intro T D H x F' H' φ a w h r k
    have h' : (RX.nor T D H).to n = .ok (x, F', H') := h
    cases h'
    exact wp_skip ⟨φ, Phi.le_refl _, r, Keep.refl _, k, rfl⟩
  | .label l => by
    intro T D H x F' H' φ a w h r k
    have h' : (RX.nor T D H).to n = .ok (x, F', H') := h
    cases h'
    exact wp_label ⟨φ, Phi.le_refl _, r, Keep.refl _, k, rfl⟩
  | .exit l => by
    intro T D H x F' H' φ a w h r k
    have h' : (RX.esc (.exit l) T D H).to n = .ok (x, F', H') := h
    cases h'
    exact wp_exit ⟨φ, Phi.le_refl _, r, Keep.refl _, k, rfl⟩
  | .goto l => by
    intro T D H x F' H' φ a w h r k
    have h' : (RX.esc (.goto l) T D H).to n = .ok (x, F', H') := h
    cases h'
    exact wp_goto ⟨φ, Phi.le_refl _, r, Keep.refl _, k, rfl⟩
  | .ret => by
    intro T D H x F' H' φ a w h r k
    have h' : (RX.esc .ret T D H).to n = .ok (x, F', H') := h
    cases h'
    exact wp_ret ⟨φ, Phi.le_refl _, r, Keep.refl _, k, rfl⟩
  | .region id ops draw => by
    intro T D H x F' H' φ a w h r k
    cases draw with
    | true =>
      have h' : ((drawnT P n ops).run call T D H).to n = .ok (x, F', H') := h
      exact drawnAny_ok hcall hm (drawnT_ok hn h') r k
    | false =>
      have h' : ((opsT P n ops ops.toList []).run call T D [] H).to n = .ok (x, F', H') := h
      exact wp_region_list (opsRun_ok hcall _ (opsT_ok _ _ _ _ _ _ _ (Ag.nil hn T D) h') r k)
  | .seq y z => by
    intro T D H x F' H' φ a w h r k
    have h' : (seqK ((codeT P n m y).run call slow T D H) ((codeT P n m z).run call slow)).to n = .ok (x, F', H') := h
    refine wp_seq ?_
    rcases seqK_inv h' with ⟨T2, D2, H2, h2, h3⟩ | ⟨h2, hx⟩
    · refine wp_mono (codeT_ok hn hcall hslow hm m y _ _ _ _ _ _ _ _ _ (by rw [h2]; rfl) r k) ?_
      rintro e a w ⟨φ1, g1, g2, g3, g4, g5⟩
      simp only [XR] at g5; subst g5
      exact wp_mono (codeT_ok hn hcall hslow hm m z _ _ _ _ _ _ _ _ _ h3 g2 g4) fun e a w q => Post.step g1 g3 q
    · refine wp_mono (codeT_ok hn hcall hslow hm m y _ _ _ _ _ _ _ _ _ h2 r k) ?_
      intro e a w q
      have he : e ≠ .normal := by
        obtain ⟨φ1, g1, g2, g3, g4, g5⟩ := q
        exact esc_not g5 hx
      cases e <;> first | exact absurd rfl he | exact q
  | .cond c y z => by
    intro T D H x F' H' φ a w h r k
    have h' : (condK ((codeT P n m y).run call slow T D H) ((codeT P n m z).run call slow T D H) ((evB n [] c).run T [])).to n = .ok (x, F', H') := h
    rw [evB_eq (Ag.nil hn T D)] at h'
    cases hc : evF ⟨T, n, D⟩ c with
    | none => rw [hc] at h'; cases h'
    | some b =>
      rw [hc] at h'
      cases b <;> try cases h'
      rename_i q
      have hv := k.ev _ _ hc
      simp only [VR] at hv
      cases q with
      | true => exact wp_cond_true hv (codeT_ok hn hcall hslow hm m y _ _ _ _ _ _ _ _ _ h' r k)
      | false => exact wp_cond_false hv (codeT_ok hn hcall hslow hm m z _ _ _ _ _ _ _ _ _ h' r k)
  | .block id y => by
    intro T D H x F' H' φ a w h r k
    have h' : (blockK id ((codeT P n m y).run call slow T D H)).to n = .ok (x, F', H') := h
    refine wp_block ?_
    cases hy : (codeT P n m y).run call slow T D H with
    | bad c e => rw [hy] at h'; cases h'
    | nor T1 D1 H1 =>
      rw [hy] at h'; cases h'
      refine wp_mono (codeT_ok hn hcall hslow hm m y _ _ _ _ _ _ _ _ _ (by rw [hy]; rfl) r k) ?_
      rintro e a w ⟨φ1, g1, g2, g3, g4, g5⟩
      simp only [XR] at g5; subst g5
      exact ⟨φ1, g1, g2, g3, g4, rfl⟩
    | esc e T1 D1 H1 =>
      rw [hy] at h'
      have other : (∀ i, e ≠ .exit i) → (RX.esc e T1 D1 H1).to n = .ok (x, F', H') → y.wp P (Exit.inBlock id (Post w0 φ H x F' H')) a w := by
        intro hne e0
        refine wp_mono (codeT_ok hn hcall hslow hm m y _ _ _ _ _ _ _ _ _ (by rw [hy]; exact e0) r k) ?_
        rintro e' a w ⟨φ1, g1, g2, g3, g4, g5⟩
        have hxy : x = e := by
          rcases RX.to_inv e0 with ⟨_, _, _, q, _⟩ | ⟨_, _, _, _, q, _, q'⟩
          · cases q
          · cases q; cases q'; rfl
        have post : Post w0 φ H x F' H' e' a w := ⟨φ1, g1, g2, g3, g4, g5⟩
        cases e' with
        | exit i =>
          exfalso
          rw [hxy] at g5
          cases e <;> simp only [XR] at g5 <;> first | (obtain ⟨v, q, _⟩ := g5; cases q; done) | (cases g5; done) | (cases g5; exact hne _ rfl)
        | _ => exact post
      cases e with
      | normal => cases h'
      | goto l => exact other (by simp) h'
      | ret => exact other (by simp) h'
      | panic b => exact other (by simp) h'
      | exit i =>
        refine wp_mono (codeT_ok hn hcall hslow hm m y _ _ _ _ _ _ _ _ _ (by rw [hy]; rfl) r k) ?_
        rintro e a w ⟨φ1, g1, g2, g3, g4, g5⟩
        simp only [XR] at g5; subst g5
        have h2 : (Bool.rec (motive := fun _ => RX) (.esc (.exit i) T1 D1 H1) (.nor T1 D1 H1) (Nat.beq i id)).to n = .ok (x, F', H') := h'
        rcases beq_cases i id with ⟨q, rfl⟩ | ⟨q, q'⟩
        · rw [q] at h2
          cases h2
          simp only [Exit.inBlock, if_true]
          exact ⟨φ1, g1, g2, g3, g4, rfl⟩
        · rw [q] at h2
          cases h2
          simp only [Exit.inBlock, if_neg q']
          exact ⟨φ1, g1, g2, g3, g4, rfl⟩
  | .loop y => by
    intro T D H x F' H' φ a w h r k
    exact loopT_ok (codeT_ok hn hcall hslow hm m y) m h r k
  | .scope y => by
    intro T D H x F' H' φ a w h r k
    exact scopeT_ok hslow m h r k
  | .rangeFunc _ _ _ _ => by intro T D H x F' H' φ a w h r k; cases h
  | .refuse _ => by intro T D H x F' H' φ a w h r k; cases h
end
end Ev
end Go.Proofs.YtaegacblpbbndaaDoor
end
