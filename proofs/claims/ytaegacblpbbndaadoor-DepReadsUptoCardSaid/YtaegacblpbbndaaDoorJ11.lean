/- The texts EvC of the proof, joined. Each says at its theorems what it proves. -/
import Derived.Test.YtaegacblpbbndaaDoorJ10
set_option linter.unusedSimpArgs false
set_option linter.unusedVariables false
section
namespace Go.Proofs.YtaegacblpbbndaaDoor
open Go Go.RowKit
set_option linter.unusedSimpArgs false
set_option linter.unusedVariables false
namespace Ev
section
variable {P : Program} {ops : Array Oper} {Q : Exit → Act → World → Prop}
def wpAnyG (P : Program) (ops : Array Oper) (Q : Exit → Act → World → Prop) (G : Array Bool → Act → World → Prop) : Nat → Array Bool → Act → World → Prop
  | 0, L, a, w => Region.ready .any ops L = [] ∧ Q .normal a w
  | f + 1, L, a, w => (Region.ready .any ops L = [] → Q .normal a w) ∧ ∀ i ∈ Region.ready .any ops L, wpOp P ops Q i (fun a' w' => G (L.setIfInBounds i true) a' w' ∧ wpAnyG P ops Q G f (L.setIfInBounds i true) a' w') a w
theorem wpAnyG_any {G : Array Bool → Act → World → Prop} : ∀ (f : Nat) (L : Array Bool) (a : Act) (w : World), wpAnyG P ops Q G f L a w → wpAny P .any ops Q f L a w
  | 0, _, _, _, h => h
  | f + 1, _, _, _, h => ⟨h.1, fun i hi => wpOp_mono (fun a' w' k => wpAnyG_any f _ a' w' k.2) (h.2 i hi)⟩
theorem wpAnyG_mono {G G' : Array Bool → Act → World → Prop} (hg : ∀ L a w, G L a w → G' L a w) : ∀ (f : Nat) (L : Array Bool) (a : Act) (w : World), wpAnyG P ops Q G f L a w → wpAnyG P ops Q G' f L a w
  | 0, _, _, _, h => h
  | f + 1, _, _, _, h => ⟨h.1, fun i hi => wpOp_mono (fun a' w' k => ⟨hg _ _ _ k.1, wpAnyG_mono hg f _ a' w' k.2⟩) (h.2 i hi)⟩
def YieldsW (P : Program) (ops : Array Oper) (o : Oper) (v : Value) (a : Act) (w : World) : Prop :=
  (Region.wanted o (yielded ops a.tmps) = true ∧ (execOp a.eval o).run P w = .ok (.value v) w) ∨ (Region.wanted o (yielded ops a.tmps) = false ∧ v = undef)
theorem YieldsW.wpOp {i : Nat} {o : Oper} {v : Value} {a : Act} {w : World} (hi : ops[i]? = some o) (hy : YieldsW P ops o v a w) {K : Act → World → Prop} (h : K (a.put o.dst v) w) : wpOp P ops Q i K a w := by
  unfold Go.wpOp
  simp only [hi]
  rcases hy with ⟨hw, hv⟩ | ⟨hw, rfl⟩
  · simp only [hw, if_true, Oper.wp, hv, Oper.upon]; exact .inl h
  · simp only [hw, Bool.false_eq_true, if_false]; exact h
theorem YieldsW.put {o : Oper} {v u : Value} {a : Act} {w : World} {dst : Option Tmp} (hs : ∀ cs b, o.op ≠ .select cs b) (hd : ∀ d, dst = some d → d ∉ o.looksAt ops) : YieldsW P ops o v (a.put dst u) w ↔ YieldsW P ops o v a w := by
  unfold YieldsW
  rw [execOp_put (ops := ops) o hs a dst u hd, wanted_put o a dst u hd]
theorem wpOp_put' {j : Nat} {oi oj : Oper} {v : Value} (hj : ops[j]? = some oj) (hap : oi.apart ops oj = true) (hsj : ∀ cs b, oj.op ≠ .select cs b)
    (hQ : ∀ c a w, Q (.panic c) (a.put oi.dst v) w → Q (.panic c) a w) {K : Act → World → Prop} {a : Act} {w : World} (h : wpOp P ops Q j K (a.put oi.dst v) w) :
    wpOp P ops Q j (fun a' w' => K (a'.put oi.dst v) w') a w := by
  obtain ⟨h1, h2, h3⟩ := Oper.apart_spec hap
  unfold wpOp at *
  simp only [hj] at *
  rw [wanted_put oj a oi.dst v h1] at h
  split
  · rename_i hw
    simp only [hw, if_true] at h
    rcases h with h | ⟨hasks, hlets⟩
    case inr => exact .inr ⟨by unfold Oper.asks at *; rw [execOp_put oj hsj a oi.dst v h1] at hasks; exact hasks, hlets⟩
    refine .inl ?_
    unfold Oper.wp at *
    rw [execOp_put oj hsj a oi.dst v h1] at h
    generalize (execOp a.eval oj).run P w = r at *
    cases r with
    | ok n w' =>
      cases n <;> simp only [Oper.upon] at h ⊢
      case value u => rw [← Act.put_comm a v u h2]; exact h
      case skip => rw [← Act.put_comm a v undef h2]; exact h
      case defer d =>
        rw [← Act.put_comm _ v undef h2, ← Act.put_defers]
        exact h
      case enter f args =>
        refine Calls.mono h fun e w'' he => ?_
        cases e with
        | returned u => show K ((a.put oj.dst u).put oi.dst v) w''; rw [← Act.put_comm a v u h2]; exact he
        | panicked c => exact hQ _ _ _ he
        | outgrown => exact he
      case row row args => exact Rows.mono h fun u w'' he => by rw [← Act.put_comm a v u h2]; exact he
    | halt x w' =>
      cases x <;> simp only [Oper.upon] at h ⊢
      case panic u => exact hQ _ _ _ h
  · rename_i hw
    simp only [hw] at h
    show K ((a.put oj.dst undef).put oi.dst v) w
    rw [← Act.put_comm a v undef h2]; exact h
theorem wpAnyG_free {i : Nat} {oi : Oper} {v : Value} (hi : ops[i]? = some oi) (hsel : ∀ (j : Nat) (o : Oper) cs b, ops[j]? = some o → o.op ≠ .select cs b)
    (hQ : ∀ c a w, Q (.panic c) (a.put oi.dst v) w → Q (.panic c) a w) {G : Array Bool → Act → World → Prop} (hG : ∀ L a w, G (L.setIfInBounds i true) (a.put oi.dst v) w → G L a w) :
    ∀ (fuel : Nat) (L : Array Bool) (a : Act) (w : World),
      (∀ j oj, ops[j]? = some oj → j ≠ i → L.getD j true = false → (∀ e ∈ oj.after, Region.binds .any e = true → e.on ≠ i) → oi.apart ops oj = true) →
      i ∈ Region.ready .any ops L → Yields P ops oi v a → G (L.setIfInBounds i true) (a.put oi.dst v) w →
      wpAnyG P ops Q G fuel (L.setIfInBounds i true) (a.put oi.dst v) w → wpAnyG P ops Q G (fuel + 1) L a w := by
  intro fuel
  induction fuel with
  | zero =>
    intro L a w _ hr hy hg H
    refine ⟨fun h => (by rw [h] at hr; cases hr), fun j hj => ?_⟩
    by_cases hji : j = i
    · subst hji; exact hy.wpOp hi ⟨hg, H⟩
    · have := ready_mono hj hji
      rw [H.1] at this
      cases this
  | succ fuel ih =>
    intro L a w hfree hr hy hg H
    refine ⟨fun h => (by rw [h] at hr; cases hr), fun j hj => ?_⟩
    by_cases hji : j = i
    · subst hji; exact hy.wpOp hi ⟨hg, H⟩
    · have h1 := H.2 j (ready_mono hj hji)
      obtain ⟨hjun, oj, hoj, hall⟩ := mem_ready.1 hj
      have hnot : ∀ e ∈ oj.after, Region.binds .any e = true → e.on ≠ i := fun e he hb heq => by
        have h1 := hall e he hb
        have h0 := (mem_ready.1 hr).1
        rw [heq] at h1
        rcases Nat.lt_or_ge i L.size with h' | h'
        · simp [h'] at h0 h1; rw [h0] at h1; cases h1
        · simp [Array.getElem?_eq_none h'] at h1
      have h2 := wpOp_put hoj (hfree j oj hoj hji hjun hnot) (fun cs b => hsel i oi cs b hi) (fun cs b => hsel j oj cs b hoj) hQ hy h1
      have hfree' : ∀ k ok, ops[k]? = some ok → k ≠ i → (L.setIfInBounds j true).getD k true = false →
          (∀ e ∈ ok.after, Region.binds .any e = true → e.on ≠ i) → oi.apart ops ok = true := fun k ok hk hki hun hno => by
        refine hfree k ok hk hki ?_ hno
        by_cases hjk : j = k
        · subst hjk; exact hjun
        · rw [getD_set_ne true hjk] at hun; exact hun
      refine wpOp_mono (fun a' w' h3 => ?_) h2
      obtain ⟨h4, h5, h6⟩ := h3
      rw [Array.setIfInBounds_comm _ _ (Ne.symm hji)] at h5 h6
      exact ⟨hG _ _ _ h5, ih (L.setIfInBounds j true) a' w' hfree' (ready_mono hr (Ne.symm hji)) h4 h5 h6⟩
theorem wpAnyG_read {i : Nat} {oi : Oper} {v : Value} (hi : ops[i]? = some oi) (hsel : ∀ (j : Nat) (o : Oper) cs b, ops[j]? = some o → o.op ≠ .select cs b)
    (hQ : ∀ c a w, Q (.panic c) (a.put oi.dst v) w → Q (.panic c) a w) {E : List Nat} (hE : ∀ x ∈ E, ∀ o, ops[x]? = some o → ∃ e ∈ o.after, Region.binds .any e = true ∧ (e.on = i ∨ e.on ∈ E))
    {G1 G2 : Array Bool → Act → World → Prop} (hmono : ∀ L a w, G1 L a w → G2 L a w)
    (hstep : ∀ L a w, (∀ x ∈ E, L.getD x false = false) → G1 (L.setIfInBounds i true) (a.put oi.dst v) w → G2 L a w ∧ YieldsW P ops oi v a w) :
    ∀ (fuel : Nat) (L : Array Bool) (a : Act) (w : World),
      (∀ j oj, ops[j]? = some oj → j ≠ i → L.getD j true = false → (∀ e ∈ oj.after, Region.binds .any e = true → e.on ≠ i) → oi.apart ops oj = true) →
      i ∈ Region.ready .any ops L → (∀ x ∈ E, L.getD x false = false) → YieldsW P ops oi v a w → G2 (L.setIfInBounds i true) (a.put oi.dst v) w →
      wpAnyG P ops Q G1 fuel (L.setIfInBounds i true) (a.put oi.dst v) w → wpAnyG P ops Q G2 (fuel + 1) L a w := by
  intro fuel
  induction fuel with
  | zero =>
    intro L a w _ hr _ hy hg H
    refine ⟨fun h => (by rw [h] at hr; cases hr), fun j hj => ?_⟩
    by_cases hji : j = i
    · subst hji; exact hy.wpOp hi ⟨hg, H⟩
    · have := ready_mono hj hji
      rw [H.1] at this
      cases this
  | succ fuel ih =>
    intro L a w hfree hr hcl hy hg H
    refine ⟨fun h => (by rw [h] at hr; cases hr), fun j hj => ?_⟩
    by_cases hji : j = i
    · subst hji; exact hy.wpOp hi ⟨hg, wpAnyG_mono hmono _ _ _ _ H⟩
    · have h1 := H.2 j (ready_mono hj hji)
      obtain ⟨hjun, oj, hoj, hall⟩ := mem_ready.1 hj
      have hnot : ∀ e ∈ oj.after, Region.binds .any e = true → e.on ≠ i := fun e he hb heq => by
        have h1 := hall e he hb
        have h0 := (mem_ready.1 hr).1
        rw [heq] at h1
        rcases Nat.lt_or_ge i L.size with h' | h'
        · simp [h'] at h0 h1; rw [h0] at h1; cases h1
        · simp [Array.getElem?_eq_none h'] at h1
      have hjE : j ∉ E := by
        intro hjE
        obtain ⟨e, he, hb, hon⟩ := hE j hjE oj hoj
        have h1 := hall e he hb
        rcases hon with hon | hon
        · exact hnot e he hb hon
        · rw [hcl _ hon] at h1; cases h1
      have h2 := wpOp_put' hoj (hfree j oj hoj hji hjun hnot) (fun cs b => hsel j oj cs b hoj) hQ h1
      have hfree' : ∀ k ok, ops[k]? = some ok → k ≠ i → (L.setIfInBounds j true).getD k true = false →
          (∀ e ∈ ok.after, Region.binds .any e = true → e.on ≠ i) → oi.apart ops ok = true := fun k ok hk hki hun hno => by
        refine hfree k ok hk hki ?_ hno
        by_cases hjk : j = k
        · subst hjk; exact hjun
        · rw [getD_set_ne true hjk] at hun; exact hun
      have hcl' : ∀ x ∈ E, (L.setIfInBounds j true).getD x false = false := fun x hx => by
        rw [getD_set_ne false (by rintro rfl; exact hjE hx)]; exact hcl x hx
      refine wpOp_mono (fun a' w' h3 => ?_) h2
      obtain ⟨h5, h6⟩ := h3
      rw [Array.setIfInBounds_comm _ _ (Ne.symm hji)] at h5 h6
      obtain ⟨h7, h8⟩ := hstep _ _ _ hcl' h5
      exact ⟨h7, ih (L.setIfInBounds j true) a' w' hfree' (ready_mono hr (Ne.symm hji)) hcl' h8 (hmono _ _ _ h5) h6⟩
theorem wpAnyG_act {i : Nat} {fuel : Nat} {L : Array Bool} {a : Act} {w : World} {G : Array Bool → Act → World → Prop} (hr : Region.ready .any ops L = [i])
    (h : wpOp P ops Q i (fun a' w' => G (L.setIfInBounds i true) a' w' ∧ wpAnyG P ops Q G fuel (L.setIfInBounds i true) a' w') a w) : wpAnyG P ops Q G (fuel + 1) L a w :=
  ⟨fun h0 => (by rw [hr] at h0; cases h0), fun j hj => (by rw [hr] at hj; simp only [List.mem_singleton] at hj; subst hj; exact h)⟩
theorem wpAnyG_done {L : Array Bool} {a : Act} {w : World} {G : Array Bool → Act → World → Prop} (hr : Region.ready .any ops L = []) (h : Q .normal a w) : ∀ f, wpAnyG P ops Q G f L a w
  | 0 => ⟨hr, h⟩
  | _ + 1 => ⟨fun _ => h, fun i hi => (by rw [hr] at hi; cases hi)⟩
end
end Ev
end Go.Proofs.YtaegacblpbbndaaDoor
end
