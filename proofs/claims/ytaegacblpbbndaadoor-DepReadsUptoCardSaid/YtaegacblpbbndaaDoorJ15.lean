/- The texts EvP of the proof, joined. Each says at its theorems what it proves. -/
import Derived.Test.YtaegacblpbbndaaDoorJ14
set_option linter.unusedSimpArgs false
set_option linter.unusedVariables false
section
namespace Go.Proofs.YtaegacblpbbndaaDoor
open Go Go.RowKit
set_option linter.unusedSimpArgs false
set_option linter.unusedVariables false
namespace Ev
structure N16 (α : Type) where
  mk :: (a0 a1 a2 a3 a4 a5 a6 a7 a8 a9 a10 a11 a12 a13 a14 a15 : α)
noncomputable def N16.get {α : Type} (t : N16 α) (i : Nat) : α := match i with
  | 0 => t.a0
  | 1 => t.a1
  | 2 => t.a2
  | 3 => t.a3
  | 4 => t.a4
  | 5 => t.a5
  | 6 => t.a6
  | 7 => t.a7
  | 8 => t.a8
  | 9 => t.a9
  | 10 => t.a10
  | 11 => t.a11
  | 12 => t.a12
  | 13 => t.a13
  | 14 => t.a14
  | _ => t.a15
noncomputable def N16.set {α : Type} (t : N16 α) (i : Nat) (x : α) : N16 α := match t with
  | ⟨a0, a1, a2, a3, a4, a5, a6, a7, a8, a9, a10, a11, a12, a13, a14, a15⟩ => match i with
    | 0 => ⟨x, a1, a2, a3, a4, a5, a6, a7, a8, a9, a10, a11, a12, a13, a14, a15⟩
    | 1 => ⟨a0, x, a2, a3, a4, a5, a6, a7, a8, a9, a10, a11, a12, a13, a14, a15⟩
    | 2 => ⟨a0, a1, x, a3, a4, a5, a6, a7, a8, a9, a10, a11, a12, a13, a14, a15⟩
    | 3 => ⟨a0, a1, a2, x, a4, a5, a6, a7, a8, a9, a10, a11, a12, a13, a14, a15⟩
    | 4 => ⟨a0, a1, a2, a3, x, a5, a6, a7, a8, a9, a10, a11, a12, a13, a14, a15⟩
    | 5 => ⟨a0, a1, a2, a3, a4, x, a6, a7, a8, a9, a10, a11, a12, a13, a14, a15⟩
    | 6 => ⟨a0, a1, a2, a3, a4, a5, x, a7, a8, a9, a10, a11, a12, a13, a14, a15⟩
    | 7 => ⟨a0, a1, a2, a3, a4, a5, a6, x, a8, a9, a10, a11, a12, a13, a14, a15⟩
    | 8 => ⟨a0, a1, a2, a3, a4, a5, a6, a7, x, a9, a10, a11, a12, a13, a14, a15⟩
    | 9 => ⟨a0, a1, a2, a3, a4, a5, a6, a7, a8, x, a10, a11, a12, a13, a14, a15⟩
    | 10 => ⟨a0, a1, a2, a3, a4, a5, a6, a7, a8, a9, x, a11, a12, a13, a14, a15⟩
    | 11 => ⟨a0, a1, a2, a3, a4, a5, a6, a7, a8, a9, a10, x, a12, a13, a14, a15⟩
    | 12 => ⟨a0, a1, a2, a3, a4, a5, a6, a7, a8, a9, a10, a11, x, a13, a14, a15⟩
    | 13 => ⟨a0, a1, a2, a3, a4, a5, a6, a7, a8, a9, a10, a11, a12, x, a14, a15⟩
    | 14 => ⟨a0, a1, a2, a3, a4, a5, a6, a7, a8, a9, a10, a11, a12, a13, x, a15⟩
    | _ => ⟨a0, a1, a2, a3, a4, a5, a6, a7, a8, a9, a10, a11, a12, a13, a14, x⟩
theorem N16.cases16 {P : Nat → Prop} (i : Nat) (h : i < 16) (h0 : P 0) (h1 : P 1) (h2 : P 2) (h3 : P 3) (h4 : P 4) (h5 : P 5) (h6 : P 6) (h7 : P 7) (h8 : P 8) (h9 : P 9) (h10 : P 10) (h11 : P 11) (h12 : P 12) (h13 : P 13) (h14 : P 14) (h15 : P 15) : P i := by
  match i, h with
  | 0, _ => exact h0
  | 1, _ => exact h1
  | 2, _ => exact h2
  | 3, _ => exact h3
  | 4, _ => exact h4
  | 5, _ => exact h5
  | 6, _ => exact h6
  | 7, _ => exact h7
  | 8, _ => exact h8
  | 9, _ => exact h9
  | 10, _ => exact h10
  | 11, _ => exact h11
  | 12, _ => exact h12
  | 13, _ => exact h13
  | 14, _ => exact h14
  | 15, _ => exact h15
  | n + 16, h => omega
theorem N16.get_set_same {α : Type} (t : N16 α) (i : Nat) (x : α) (h : i < 16) : (t.set i x).get i = x := by
  cases t
  refine N16.cases16 (P := fun i => (N16.set _ i x).get i = x) i h rfl rfl rfl rfl rfl rfl rfl rfl rfl rfl rfl rfl rfl rfl rfl rfl
theorem N16.get_set_other {α : Type} (t : N16 α) (i j : Nat) (x : α) (h : i < 16) (hj : j < 16) : j ≠ i → (t.set i x).get j = t.get j := by
  cases t
  refine N16.cases16 (P := fun i => j ≠ i → (N16.set _ i x).get j = N16.get _ j) i h ?_ ?_ ?_ ?_ ?_ ?_ ?_ ?_ ?_ ?_ ?_ ?_ ?_ ?_ ?_ ?_ <;>
    refine N16.cases16 (P := fun j => j ≠ _ → (N16.set _ _ x).get j = N16.get _ j) j hj ?_ ?_ ?_ ?_ ?_ ?_ ?_ ?_ ?_ ?_ ?_ ?_ ?_ ?_ ?_ ?_ <;> intro hne <;> first | rfl | exact absurd rfl hne
noncomputable def N16.all {α : Type} (x : α) : N16 α := ⟨x, x, x, x, x, x, x, x, x, x, x, x, x, x, x, x⟩
theorem N16.get_all {α : Type} (x : α) (i : Nat) : (N16.all x).get i = x := by
  unfold N16.get N16.all; split <;> rfl
abbrev Fr := N16 (N16 AV)
noncomputable def Fr.get (t : Fr) (i : Nat) : AV := N16.get (N16.get t (Nat.div i 16)) (Nat.mod i 16)
noncomputable def Fr.set (a : AV) (t : Fr) (i : Nat) : Fr := N16.set t (Nat.div i 16) (N16.set (N16.get t (Nat.div i 16)) (Nat.mod i 16) a)
noncomputable def Fr.nil : Fr := N16.all (N16.all (.tup []))
theorem Fr.get_nil (i : Nat) : Fr.get Fr.nil i = .tup [] := by unfold Fr.get Fr.nil; rw [N16.get_all, N16.get_all]
theorem Fr.get_set_same (a : AV) (t : Fr) (i : Nat) (h : i < 256) : Fr.get (Fr.set a t i) i = a := by
  have h1 : Nat.div i 16 < 16 := by show i / 16 < 16; omega
  have h2 : Nat.mod i 16 < 16 := by show i % 16 < 16; omega
  unfold Fr.get Fr.set
  rw [N16.get_set_same _ _ _ h1, N16.get_set_same _ _ _ h2]
theorem Fr.get_set_other (a : AV) (t : Fr) (i j : Nat) (hi : i < 256) (hj : j < 256) (h : j ≠ i) : Fr.get (Fr.set a t i) j = Fr.get t j := by
  have h1 : Nat.div i 16 < 16 := by show i / 16 < 16; omega
  have h2 : Nat.mod i 16 < 16 := by show i % 16 < 16; omega
  have h3 : Nat.div j 16 < 16 := by show j / 16 < 16; omega
  have h4 : Nat.mod j 16 < 16 := by show j % 16 < 16; omega
  unfold Fr.get Fr.set
  by_cases hd : Nat.div j 16 = Nat.div i 16
  · rw [hd, N16.get_set_same _ _ _ h1, N16.get_set_other _ _ _ _ h2 h4]
    intro hm
    have e1 : j / 16 = i / 16 := hd
    have e2 : j % 16 = i % 16 := hm
    omega
  · rw [N16.get_set_other _ _ _ _ h1 h3 hd]
structure Bx (α : Type) where
  run : α
noncomputable def sel16 {α : Type} (i : Nat) : Bx (N16 α → α) := match i with
  | 0 => ⟨fun t => t.a0⟩
  | 1 => ⟨fun t => t.a1⟩
  | 2 => ⟨fun t => t.a2⟩
  | 3 => ⟨fun t => t.a3⟩
  | 4 => ⟨fun t => t.a4⟩
  | 5 => ⟨fun t => t.a5⟩
  | 6 => ⟨fun t => t.a6⟩
  | 7 => ⟨fun t => t.a7⟩
  | 8 => ⟨fun t => t.a8⟩
  | 9 => ⟨fun t => t.a9⟩
  | 10 => ⟨fun t => t.a10⟩
  | 11 => ⟨fun t => t.a11⟩
  | 12 => ⟨fun t => t.a12⟩
  | 13 => ⟨fun t => t.a13⟩
  | 14 => ⟨fun t => t.a14⟩
  | _ => ⟨fun t => t.a15⟩
noncomputable def set16 {α : Type} (i : Nat) : Bx (α → N16 α → N16 α) := match i with
  | 0 => ⟨fun x t => N16.rec (fun a0 a1 a2 a3 a4 a5 a6 a7 a8 a9 a10 a11 a12 a13 a14 a15 => ⟨x, a1, a2, a3, a4, a5, a6, a7, a8, a9, a10, a11, a12, a13, a14, a15⟩) t⟩
  | 1 => ⟨fun x t => N16.rec (fun a0 a1 a2 a3 a4 a5 a6 a7 a8 a9 a10 a11 a12 a13 a14 a15 => ⟨a0, x, a2, a3, a4, a5, a6, a7, a8, a9, a10, a11, a12, a13, a14, a15⟩) t⟩
  | 2 => ⟨fun x t => N16.rec (fun a0 a1 a2 a3 a4 a5 a6 a7 a8 a9 a10 a11 a12 a13 a14 a15 => ⟨a0, a1, x, a3, a4, a5, a6, a7, a8, a9, a10, a11, a12, a13, a14, a15⟩) t⟩
  | 3 => ⟨fun x t => N16.rec (fun a0 a1 a2 a3 a4 a5 a6 a7 a8 a9 a10 a11 a12 a13 a14 a15 => ⟨a0, a1, a2, x, a4, a5, a6, a7, a8, a9, a10, a11, a12, a13, a14, a15⟩) t⟩
  | 4 => ⟨fun x t => N16.rec (fun a0 a1 a2 a3 a4 a5 a6 a7 a8 a9 a10 a11 a12 a13 a14 a15 => ⟨a0, a1, a2, a3, x, a5, a6, a7, a8, a9, a10, a11, a12, a13, a14, a15⟩) t⟩
  | 5 => ⟨fun x t => N16.rec (fun a0 a1 a2 a3 a4 a5 a6 a7 a8 a9 a10 a11 a12 a13 a14 a15 => ⟨a0, a1, a2, a3, a4, x, a6, a7, a8, a9, a10, a11, a12, a13, a14, a15⟩) t⟩
  | 6 => ⟨fun x t => N16.rec (fun a0 a1 a2 a3 a4 a5 a6 a7 a8 a9 a10 a11 a12 a13 a14 a15 => ⟨a0, a1, a2, a3, a4, a5, x, a7, a8, a9, a10, a11, a12, a13, a14, a15⟩) t⟩
  | 7 => ⟨fun x t => N16.rec (fun a0 a1 a2 a3 a4 a5 a6 a7 a8 a9 a10 a11 a12 a13 a14 a15 => ⟨a0, a1, a2, a3, a4, a5, a6, x, a8, a9, a10, a11, a12, a13, a14, a15⟩) t⟩
  | 8 => ⟨fun x t => N16.rec (fun a0 a1 a2 a3 a4 a5 a6 a7 a8 a9 a10 a11 a12 a13 a14 a15 => ⟨a0, a1, a2, a3, a4, a5, a6, a7, x, a9, a10, a11, a12, a13, a14, a15⟩) t⟩
  | 9 => ⟨fun x t => N16.rec (fun a0 a1 a2 a3 a4 a5 a6 a7 a8 a9 a10 a11 a12 a13 a14 a15 => ⟨a0, a1, a2, a3, a4, a5, a6, a7, a8, x, a10, a11, a12, a13, a14, a15⟩) t⟩
  | 10 => ⟨fun x t => N16.rec (fun a0 a1 a2 a3 a4 a5 a6 a7 a8 a9 a10 a11 a12 a13 a14 a15 => ⟨a0, a1, a2, a3, a4, a5, a6, a7, a8, a9, x, a11, a12, a13, a14, a15⟩) t⟩
  | 11 => ⟨fun x t => N16.rec (fun a0 a1 a2 a3 a4 a5 a6 a7 a8 a9 a10 a11 a12 a13 a14 a15 => ⟨a0, a1, a2, a3, a4, a5, a6, a7, a8, a9, a10, x, a12, a13, a14, a15⟩) t⟩
  | 12 => ⟨fun x t => N16.rec (fun a0 a1 a2 a3 a4 a5 a6 a7 a8 a9 a10 a11 a12 a13 a14 a15 => ⟨a0, a1, a2, a3, a4, a5, a6, a7, a8, a9, a10, a11, x, a13, a14, a15⟩) t⟩
  | 13 => ⟨fun x t => N16.rec (fun a0 a1 a2 a3 a4 a5 a6 a7 a8 a9 a10 a11 a12 a13 a14 a15 => ⟨a0, a1, a2, a3, a4, a5, a6, a7, a8, a9, a10, a11, a12, x, a14, a15⟩) t⟩
  | 14 => ⟨fun x t => N16.rec (fun a0 a1 a2 a3 a4 a5 a6 a7 a8 a9 a10 a11 a12 a13 a14 a15 => ⟨a0, a1, a2, a3, a4, a5, a6, a7, a8, a9, a10, a11, a12, a13, x, a15⟩) t⟩
  | _ => ⟨fun x t => N16.rec (fun a0 a1 a2 a3 a4 a5 a6 a7 a8 a9 a10 a11 a12 a13 a14 a15 => ⟨a0, a1, a2, a3, a4, a5, a6, a7, a8, a9, a10, a11, a12, a13, a14, x⟩) t⟩
noncomputable def mod16 {α : Type} (i : Nat) : Bx ((α → α) → N16 α → N16 α) := match i with
  | 0 => ⟨fun f t => N16.rec (fun a0 a1 a2 a3 a4 a5 a6 a7 a8 a9 a10 a11 a12 a13 a14 a15 => ⟨f a0, a1, a2, a3, a4, a5, a6, a7, a8, a9, a10, a11, a12, a13, a14, a15⟩) t⟩
  | 1 => ⟨fun f t => N16.rec (fun a0 a1 a2 a3 a4 a5 a6 a7 a8 a9 a10 a11 a12 a13 a14 a15 => ⟨a0, f a1, a2, a3, a4, a5, a6, a7, a8, a9, a10, a11, a12, a13, a14, a15⟩) t⟩
  | 2 => ⟨fun f t => N16.rec (fun a0 a1 a2 a3 a4 a5 a6 a7 a8 a9 a10 a11 a12 a13 a14 a15 => ⟨a0, a1, f a2, a3, a4, a5, a6, a7, a8, a9, a10, a11, a12, a13, a14, a15⟩) t⟩
  | 3 => ⟨fun f t => N16.rec (fun a0 a1 a2 a3 a4 a5 a6 a7 a8 a9 a10 a11 a12 a13 a14 a15 => ⟨a0, a1, a2, f a3, a4, a5, a6, a7, a8, a9, a10, a11, a12, a13, a14, a15⟩) t⟩
  | 4 => ⟨fun f t => N16.rec (fun a0 a1 a2 a3 a4 a5 a6 a7 a8 a9 a10 a11 a12 a13 a14 a15 => ⟨a0, a1, a2, a3, f a4, a5, a6, a7, a8, a9, a10, a11, a12, a13, a14, a15⟩) t⟩
  | 5 => ⟨fun f t => N16.rec (fun a0 a1 a2 a3 a4 a5 a6 a7 a8 a9 a10 a11 a12 a13 a14 a15 => ⟨a0, a1, a2, a3, a4, f a5, a6, a7, a8, a9, a10, a11, a12, a13, a14, a15⟩) t⟩
  | 6 => ⟨fun f t => N16.rec (fun a0 a1 a2 a3 a4 a5 a6 a7 a8 a9 a10 a11 a12 a13 a14 a15 => ⟨a0, a1, a2, a3, a4, a5, f a6, a7, a8, a9, a10, a11, a12, a13, a14, a15⟩) t⟩
  | 7 => ⟨fun f t => N16.rec (fun a0 a1 a2 a3 a4 a5 a6 a7 a8 a9 a10 a11 a12 a13 a14 a15 => ⟨a0, a1, a2, a3, a4, a5, a6, f a7, a8, a9, a10, a11, a12, a13, a14, a15⟩) t⟩
  | 8 => ⟨fun f t => N16.rec (fun a0 a1 a2 a3 a4 a5 a6 a7 a8 a9 a10 a11 a12 a13 a14 a15 => ⟨a0, a1, a2, a3, a4, a5, a6, a7, f a8, a9, a10, a11, a12, a13, a14, a15⟩) t⟩
  | 9 => ⟨fun f t => N16.rec (fun a0 a1 a2 a3 a4 a5 a6 a7 a8 a9 a10 a11 a12 a13 a14 a15 => ⟨a0, a1, a2, a3, a4, a5, a6, a7, a8, f a9, a10, a11, a12, a13, a14, a15⟩) t⟩
  | 10 => ⟨fun f t => N16.rec (fun a0 a1 a2 a3 a4 a5 a6 a7 a8 a9 a10 a11 a12 a13 a14 a15 => ⟨a0, a1, a2, a3, a4, a5, a6, a7, a8, a9, f a10, a11, a12, a13, a14, a15⟩) t⟩
  | 11 => ⟨fun f t => N16.rec (fun a0 a1 a2 a3 a4 a5 a6 a7 a8 a9 a10 a11 a12 a13 a14 a15 => ⟨a0, a1, a2, a3, a4, a5, a6, a7, a8, a9, a10, f a11, a12, a13, a14, a15⟩) t⟩
  | 12 => ⟨fun f t => N16.rec (fun a0 a1 a2 a3 a4 a5 a6 a7 a8 a9 a10 a11 a12 a13 a14 a15 => ⟨a0, a1, a2, a3, a4, a5, a6, a7, a8, a9, a10, a11, f a12, a13, a14, a15⟩) t⟩
  | 13 => ⟨fun f t => N16.rec (fun a0 a1 a2 a3 a4 a5 a6 a7 a8 a9 a10 a11 a12 a13 a14 a15 => ⟨a0, a1, a2, a3, a4, a5, a6, a7, a8, a9, a10, a11, a12, f a13, a14, a15⟩) t⟩
  | 14 => ⟨fun f t => N16.rec (fun a0 a1 a2 a3 a4 a5 a6 a7 a8 a9 a10 a11 a12 a13 a14 a15 => ⟨a0, a1, a2, a3, a4, a5, a6, a7, a8, a9, a10, a11, a12, a13, f a14, a15⟩) t⟩
  | _ => ⟨fun f t => N16.rec (fun a0 a1 a2 a3 a4 a5 a6 a7 a8 a9 a10 a11 a12 a13 a14 a15 => ⟨a0, a1, a2, a3, a4, a5, a6, a7, a8, a9, a10, a11, a12, a13, a14, f a15⟩) t⟩
theorem sel16_eq {α : Type} (i : Nat) (t : N16 α) : (sel16 i).run t = t.get i := by
  unfold sel16 N16.get; split <;> rfl
theorem set16_eq {α : Type} (i : Nat) (x : α) (t : N16 α) : (set16 i).run x t = t.set i x := by
  cases t
  match i with
  | 0 => rfl
  | 1 => rfl
  | 2 => rfl
  | 3 => rfl
  | 4 => rfl
  | 5 => rfl
  | 6 => rfl
  | 7 => rfl
  | 8 => rfl
  | 9 => rfl
  | 10 => rfl
  | 11 => rfl
  | 12 => rfl
  | 13 => rfl
  | 14 => rfl
  | n + 15 => rfl
theorem mod16_eq {α : Type} (i : Nat) (f : α → α) (t : N16 α) : (mod16 i).run f t = t.set i (f (t.get i)) := by
  cases t
  match i with
  | 0 => rfl
  | 1 => rfl
  | 2 => rfl
  | 3 => rfl
  | 4 => rfl
  | 5 => rfl
  | 6 => rfl
  | 7 => rfl
  | 8 => rfl
  | 9 => rfl
  | 10 => rfl
  | 11 => rfl
  | 12 => rfl
  | 13 => rfl
  | 14 => rfl
  | n + 15 => rfl
noncomputable def getB (i : Nat) : Bx (Fr → AV) := (fun a b => ⟨fun t => b.run (a.run t)⟩) (sel16 (α := N16 AV) (Nat.div i 16)) (sel16 (α := AV) (Nat.mod i 16))
theorem getB_eq (i : Nat) (t : Fr) : (getB i).run t = Fr.get t i := by
  show (sel16 (Nat.mod i 16)).run ((sel16 (Nat.div i 16)).run t) = _
  rw [sel16_eq, sel16_eq]; rfl
noncomputable def setB (i : Nat) : Bx (AV → Fr → Fr) := (fun a b => ⟨fun x t => a.run (b.run x) t⟩) (mod16 (α := N16 AV) (Nat.div i 16)) (set16 (α := AV) (Nat.mod i 16))
theorem setB_eq (i : Nat) (x : AV) (t : Fr) : (setB i).run x t = Fr.set x t i := by
  show (mod16 (Nat.div i 16)).run ((set16 (Nat.mod i 16)).run x) t = _
  rw [mod16_eq, set16_eq]; rfl
noncomputable def nth {α : Type} (l : List α) : Nat → Option α := List.rec (fun _ => none) (fun a _ ih i => Nat.rec (some a) (fun j _ => ih j) i) l
theorem nth_eq {α : Type} : ∀ (l : List α) (i : Nat), nth l i = l[i]?
  | [], i => by show none = _; simp
  | a :: l, 0 => by show some a = _; simp
  | a :: l, i + 1 => by show nth l i = _; rw [nth_eq l i]; simp
noncomputable def lenN {α : Type} (l : List α) : Nat := List.rec 0 (fun _ _ ih => Nat.succ ih) l
theorem lenN_eq {α : Type} : ∀ (l : List α), lenN l = l.length
  | [] => rfl
  | a :: l => by show Nat.succ (lenN l) = _; rw [lenN_eq l]; rfl
noncomputable def takeN {α : Type} (l : List α) : Nat → List α := List.rec (fun _ => []) (fun a _ ih i => Nat.rec [] (fun j _ => a :: ih j) i) l
theorem takeN_eq {α : Type} : ∀ (l : List α) (i : Nat), takeN l i = l.take i
  | [], i => by show [] = _; simp
  | a :: l, 0 => by show [] = _; simp
  | a :: l, i + 1 => by show a :: takeN l i = _; rw [takeN_eq l i]; simp
noncomputable def dropN {α : Type} (l : List α) : Nat → List α := List.rec (fun _ => []) (fun a l ih i => Nat.rec (a :: l) (fun j _ => ih j) i) l
theorem dropN_eq {α : Type} : ∀ (l : List α) (i : Nat), dropN l i = l.drop i
  | [], i => by show [] = _; simp
  | a :: l, 0 => by show a :: l = _; simp
  | a :: l, i + 1 => by show dropN l i = _; rw [dropN_eq l i]; simp
noncomputable def setN {α : Type} (x : α) (l : List α) : Nat → List α := List.rec (fun _ => []) (fun a l ih i => Nat.rec (x :: l) (fun j _ => a :: ih j) i) l
theorem setN_eq {α : Type} (x : α) : ∀ (l : List α) (i : Nat), setN x l i = l.set i x
  | [], i => by show [] = _; simp
  | a :: l, 0 => by show x :: l = _; simp
  | a :: l, i + 1 => by show a :: setN x l i = _; rw [setN_eq x l i]; simp
end Ev
end Go.Proofs.YtaegacblpbbndaaDoor
end
