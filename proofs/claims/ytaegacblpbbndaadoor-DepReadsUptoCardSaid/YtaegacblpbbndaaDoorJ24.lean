/- The texts EvG of the proof, joined. Each says at its theorems what it proves. -/
import Derived.Test.YtaegacblpbbndaaDoorJ23
import Derived.Deep.LoopGhost
set_option linter.unusedSimpArgs false
set_option linter.unusedVariables false
section
namespace Go.Proofs.YtaegacblpbbndaaDoor
open Go Go.RowKit
set_option linter.unusedSimpArgs false
set_option linter.unusedVariables false
namespace Ev
abbrev Cf := AF → AH → Rs (AX × AF × AH)
theorem wp_scope_ghost {P : Program} {Q : Exit → Act → World → Prop} {c : Code} {a : Act} {w : World} (I : Nat → Code → Act → World → Prop) (n₀ : Nat) (h₀ : I n₀ c a w)
    (pass : ∀ n r a w, I n r a w → r.wp P (fun e a' w' => match e with
      | .goto l => ∃ r', findLabel c l = some r' ∧ ∃ n', n' < n ∧ I n' r' a' w'
      | e => Q e a' w') a w) : (Code.scope c).wp P Q a w := by
  intro b k cs
  have key : ∀ n r a w, I n r a w → ∃ e a' w', Q e a' w' ∧ Arrives P (lone (b.at a (.code r :: .inScope c :: k)) cs w) b k cs e a' w' := by
    intro n
    induction n using Nat.strongRecOn with
    | _ n ih =>
      intro r a w hI
      obtain ⟨e, a₁, w₁, hq, harr⟩ := pass n r a w hI b (.inScope c :: k) cs
      cases e with
      | normal => exact ⟨.normal, a₁, w₁, hq, Steps.trans harr (.one step_inScope)⟩
      | exit id => exact ⟨.exit id, a₁, w₁, hq, fun k' hk => harr k' (by simp [exitTo, hk])⟩
      | goto l =>
        obtain ⟨r', hf, n', hlt, hI'⟩ := hq
        obtain ⟨e₂, a₂, w₂, hq₂, harr₂⟩ := ih n' hlt r' a₁ w₁ hI'
        exact ⟨e₂, a₂, w₂, hq₂, .of_steps (harr _ (by simp [gotoIn, hf])) harr₂⟩
      | ret => exact ⟨_, a₁, w₁, hq, harr⟩
      | panic ch => exact ⟨_, a₁, w₁, hq, harr⟩
      | outgrown => exact ⟨_, a₁, w₁, hq, harr⟩
  obtain ⟨e, a₁, w₁, hq, harr⟩ := key n₀ c a w h₀
  exact ⟨e, a₁, w₁, hq, .of_steps (.one step_scope) harr⟩
def CodeSound (P : Program) (w0 : Base) (f : Code → Cf) : Prop :=
  ∀ c F H x F' H' φ a w, f c F H = .ok (x, F', H') → Rel w0 φ H w → FR φ F a → c.wp P (Post w0 φ H x F' H') a w
section
variable {P : Program} {w0 : Base} {f : Code → Cf}
theorem XR.not {φ : Phi} {x : AX} {e : Exit} (h : XR φ x e) : (e = .normal ↔ x = .normal) := by
  cases x <;> simp only [XR] at h <;> first | (subst h; simp; done) | (obtain ⟨v, rfl, _⟩ := h; simp)
end
end Ev
end Go.Proofs.YtaegacblpbbndaaDoor
end
