/- The texts Ev3 of the proof, joined. Each says at its theorems what it proves. -/
import Derived.Test.YtaegacblpbbndaaDoorJ1
set_option linter.unusedSimpArgs false
set_option linter.unusedVariables false
section
namespace Go.Proofs.YtaegacblpbbndaaDoor
open Go Go.RowKit
set_option linter.unusedSimpArgs false
set_option linter.unusedVariables false
namespace Ev
theorem S_size (l : List UInt8) : (⟨l.toArray⟩ : ByteArray).size = l.length := by simp [ByteArray.size]
theorem S_toList (l : List UInt8) : (⟨l.toArray⟩ : ByteArray).toList = l := by rw [Lib.toList_data]
theorem addr_add (b o j : Nat) : (⟨b, o, none⟩ : Addr).add j = ⟨b, o + j, none⟩ := by unfold Addr.add; split <;> simp_all
noncomputable def natOf : AV → Option Nat
  | .int _ (.ofNat n) => some n
  | _ => none
theorem natOf_VR {φ : Phi} {a : AV} {n : Nat} {v : Value} (h : natOf a = some n) (k : VR φ a v) : ∃ kd, v = .int kd (n : Int) := by
  unfold natOf at h
  split at h
  · cases h; simp only [VR] at k; exact ⟨_, k⟩
  · cases h
section
variable (P : Program)
noncomputable def strEq : List UInt8 → List UInt8 → Bool
  | [], [] => true
  | a :: l, b :: m => Nat.beq a.toNat b.toNat && strEq l m
  | _, _ => false
theorem strEq_iff : ∀ (l m : List UInt8), strEq l m = decide (l = m)
  | [], [] => rfl
  | [], _ :: _ => by simp [strEq]
  | _ :: _, [] => by simp [strEq]
  | a :: l, b :: m => by
    simp only [strEq, strEq_iff l m, List.cons.injEq, Bool.decide_and]
    congr 1
    by_cases h : a = b
    · subst h; simp
    · have : a.toNat ≠ b.toNat := fun e => h (UInt8.toNat_inj.1 e)
      rw [beq_false this]; simp [h]
noncomputable def binA (op : BinOp) (t : Nat) (a b : AV) : Option AV := match op, a, b with
  | .eql, .str x, .str y => some (.bool (strEq x y))
  | .neq, .str x, .str y => some (.bool (!strEq x y))
  | .lss, .str x, .str y => some (.bool (Op.bytesLess x y))
  | .gtr, .str x, .str y => some (.bool (!(Op.bytesLess x y || strEq x y)))
  | .leq, .str x, .str y => some (.bool (Op.bytesLess x y || strEq x y))
  | .geq, .str x, .str y => some (.bool (!Op.bytesLess x y))
  | .add, .str x, .str y => bif Nat.ble (x.length + y.length) 1000000 then some (.str (x ++ y)) else none
  | op, a, b => match op with
    | .eql => nilEq a b
    | .neq => match nilEq a b with
      | some (.bool r) => some (.bool (!r))
      | _ => none
    | _ => none
where nilEq (a b : AV) : Option AV := match P.underlying t, a, b with
  | some (.pointer _), .ptr _ _, .nilp => some (.bool false)
  | some (.pointer _), .nilp, .ptr _ _ => some (.bool false)
  | some (.pointer _), .nilp, .nilp => some (.bool true)
  | some (.slice _), .nils, .sl _ _ _ _ _ => some (.bool false)
  | some (.slice _), .sl _ _ _ _ _, .nils => some (.bool false)
  | some (.slice _), .nils, .nils => some (.bool true)
  | some (.slice _), .sle, .nils => some (.bool false)
  | some (.slice _), .nils, .sle => some (.bool false)
  | some (.interface _), .ifc _ _, .nili => some (.bool false)
  | some (.interface _), .nili, .ifc _ _ => some (.bool false)
  | some (.func _ _ _), .fn _ _ _, .nilf => some (.bool false)
  | some (.func _ _ _), .nilf, .nilf => some (.bool true)
  | _, _, _ => none
end
section
variable {P : Program} {φ : Phi}
theorem nilEq_ok {t : Nat} {a b r : AV} {x y : Value} (h : binA.nilEq P t a b = some r) (hx : VR φ a x) (hy : VR φ b y) : ∃ q, r = .bool q ∧ ∀ w, (Op.equal t x y).run P w = .ok q w := by
  unfold binA.nilEq at h
  split at h <;> first | cases h | skip
  all_goals
    rename_i hu
    refine ⟨_, rfl, fun w => ?_⟩
    simp only [VR] at hx hy
    unfold Op.equal Op.maxDepth Op.equalIn
    first
      | (obtain ⟨x1, κ1, e1, rfl⟩ := hx; subst hy; simp [run_underlying hu, go_sem]; done)
      | (obtain ⟨x1, κ1, e1, rfl⟩ := hy; subst hx; simp [run_underlying hu, go_sem]; done)
      | (obtain ⟨x1, κ1, e1, ⟨_, _, rfl⟩ | ⟨_, rfl⟩⟩ := hx <;> subst hy <;> simp [run_underlying hu, go_sem]; done)
      | (obtain ⟨x1, κ1, e1, ⟨_, _, rfl⟩ | ⟨_, rfl⟩⟩ := hy <;> subst hx <;> simp [run_underlying hu, go_sem]; done)
      | (obtain ⟨x1, e1, rfl⟩ := hx; subst hy; simp [run_underlying hu, go_sem]; done)
      | (obtain ⟨x1, e1, rfl⟩ := hy; subst hx; simp [run_underlying hu, go_sem]; done)
      | (obtain ⟨x1, x2, rfl⟩ := hx; subst hy; simp [run_underlying hu, go_sem]; done)
      | (obtain ⟨x1, x2, rfl⟩ := hy; subst hx; simp [run_underlying hu, go_sem]; done)
      | (obtain ⟨x1, x2, e1, e2, rfl⟩ := hx; subst hy; simp [run_underlying hu, go_sem]; done)
      | (subst hx; subst hy; simp [run_underlying hu, go_sem]; done)
end
end Ev
end Go.Proofs.YtaegacblpbbndaaDoor
end
