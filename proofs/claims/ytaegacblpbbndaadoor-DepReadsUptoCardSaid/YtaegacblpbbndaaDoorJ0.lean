/- The texts Ev1 of the proof, joined. Each says at its theorems what it proves. -/
import Derived.WalkKit
import Derived.WalkSpells
import Derived.ScopeJumps
import Derived.Orders
import Derived.Recover
import Derived.Laws.CopyRow
import Derived.Below
import Derived.Deep.Quiet
set_option linter.unusedSimpArgs false
set_option linter.unusedVariables false
section
namespace Go.Proofs.YtaegacblpbbndaaDoor
open Go Go.RowKit
set_option linter.unusedSimpArgs false
set_option linter.unusedVariables false
namespace Ev
inductive AV where
  | bool (b : Bool)
  | int (k : IntKind) (n : Int)
  | str (l : List UInt8)
  | ptr (b off : Nat)
  | nilp
  | sl (b off len cap : Nat) (op : Bool)
  | nils
  | sle
  | map (b : Nat)
  | nilm
  | fn (f : Nat) (first cap : List AV)
  | nilf
  | ifc (t : Nat) (v : AV)
  | nili
  | agg (l : List AV)
  | tup (l : List AV)
  | raw (v : Value)
abbrev Phi := Nat → Option (Nat × Nat)
def Phi.le (φ φ' : Phi) : Prop := ∀ b x, φ b = some x → φ' b = some x
theorem Phi.le_refl (φ : Phi) : φ.le φ := fun _ _ h => h
theorem Phi.le_trans {a b c : Phi} (h : a.le b) (k : b.le c) : a.le c := fun x y e => k x y (h x y e)
mutual
def VR (φ : Phi) : AV → Value → Prop
  | .bool b, v => v = .bool b
  | .int k n, v => v = .int k n
  | .str l, v => v = .string ⟨l.toArray⟩
  | .ptr b o, v => ∃ x κ, φ b = some (x, κ) ∧ v = .pointer (some ⟨x, o, none⟩)
  | .nilp, v => v = .pointer none
  | .sl b o len cap op, v => ∃ x κ, φ b = some (x, κ) ∧ ((op = true ∧ cap + len ≤ κ ∧ v = .slice (some ⟨x, o, none⟩) len (κ - cap)) ∨ (op = false ∧ v = .slice (some ⟨x, o, none⟩) len cap))
  | .nils, v => v = .slice none 0 0
  | .sle, v => ∃ a c, v = .slice (some a) 0 c
  | .map b, v => ∃ x κ, φ b = some (x, κ) ∧ v = .map (some x)
  | .nilm, v => v = .map none
  | .fn f first cap, v => ∃ vf vc, VRl φ first vf ∧ VRl φ cap vc ∧ v = .func (.func f) vf.toArray vc.toArray
  | .nilf, v => v = .nilFunc
  | .ifc t a, v => ∃ u, VR φ a u ∧ v = .iface t u
  | .nili, v => v = .nilIface
  | .agg l, v => ∃ vs, VRl φ l vs ∧ v = .agg vs.toArray
  | .tup l, v => ∃ vs, VRl φ l vs ∧ v = .tuple vs.toArray
  | .raw u, v => v = u
def VRl (φ : Phi) : List AV → List Value → Prop
  | [], vs => vs = []
  | a :: l, vs => ∃ v vs', vs = v :: vs' ∧ VR φ a v ∧ VRl φ l vs'
end
mutual
theorem VR.mono {φ φ' : Phi} (h : φ.le φ') : ∀ {a : AV} {v : Value}, VR φ a v → VR φ' a v
  | .bool _, _, k => k
  | .int _ _, _, k => k
  | .str _, _, k => k
  | .ptr _ _, _, k => by
    simp only [VR] at k ⊢
    obtain ⟨x, κ, e, r⟩ := k; exact ⟨x, κ, h _ _ e, r⟩
  | .nilp, _, k => k
  | .sl _ _ _ _ _, _, k => by
    simp only [VR] at k ⊢
    obtain ⟨x, κ, e, r⟩ := k; exact ⟨x, κ, h _ _ e, r⟩
  | .nils, _, k => k
  | .sle, _, k => k
  | .map _, _, k => by
    simp only [VR] at k ⊢
    obtain ⟨x, κ, e, r⟩ := k; exact ⟨x, κ, h _ _ e, r⟩
  | .nilm, _, k => k
  | .fn _ _ _, _, k => by
    simp only [VR] at k ⊢
    obtain ⟨a, b, e1, e2, r⟩ := k; exact ⟨a, b, VRl.mono h e1, VRl.mono h e2, r⟩
  | .nilf, _, k => k
  | .ifc _ _, _, k => by
    simp only [VR] at k ⊢
    obtain ⟨u, e, r⟩ := k; exact ⟨u, VR.mono h e, r⟩
  | .nili, _, k => k
  | .agg _, _, k => by
    simp only [VR] at k ⊢
    obtain ⟨u, e, r⟩ := k; exact ⟨u, VRl.mono h e, r⟩
  | .tup _, _, k => by
    simp only [VR] at k ⊢
    obtain ⟨u, e, r⟩ := k; exact ⟨u, VRl.mono h e, r⟩
  | .raw _, _, k => k
theorem VRl.mono {φ φ' : Phi} (h : φ.le φ') : ∀ {l : List AV} {vs : List Value}, VRl φ l vs → VRl φ' l vs
  | [], _, k => k
  | _ :: _, _, k => by
    simp only [VRl] at k ⊢
    obtain ⟨v, vs', e, e1, e2⟩ := k; exact ⟨v, vs', e, VR.mono h e1, VRl.mono h e2⟩
end
section
variable {φ : Phi}
theorem VR.ofBool (q : Bool) : VR φ (.bool q) (.bool q) := by simp [VR]
theorem VR.ofStr (l : List UInt8) : VR φ (.str l) (.string ⟨l.toArray⟩) := by simp [VR]
theorem VRl.nil : VRl φ [] [] := by simp [VRl]
theorem VRl.cons {a : AV} {v : Value} {l : List AV} {vs : List Value} (h : VR φ a v) (k : VRl φ l vs) : VRl φ (a :: l) (v :: vs) := by
  simp only [VRl]; exact ⟨v, vs, rfl, h, k⟩
theorem VRl.cons_inv {a : AV} {l : List AV} {vs : List Value} (h : VRl φ (a :: l) vs) : ∃ v vs', vs = v :: vs' ∧ VR φ a v ∧ VRl φ l vs' := by
  simpa only [VRl] using h
theorem VRl.nil_inv {vs : List Value} (h : VRl φ [] vs) : vs = [] := by simpa only [VRl] using h
theorem VRl.length : ∀ {l : List AV} {vs : List Value}, VRl φ l vs → vs.length = l.length
  | [], _, h => by rw [h.nil_inv]; rfl
  | _ :: _, _, h => by obtain ⟨v, vs', rfl, _, k⟩ := h.cons_inv; simp [VRl.length k]
theorem VRl.append : ∀ {l l' : List AV} {vs vs' : List Value}, VRl φ l vs → VRl φ l' vs' → VRl φ (l ++ l') (vs ++ vs')
  | [], _, _, _, h, k => by rw [h.nil_inv]; exact k
  | _ :: _, _, _, _, h, k => by obtain ⟨v, vs', rfl, h1, h2⟩ := h.cons_inv; exact .cons h1 (VRl.append h2 k)
theorem VRl.take : ∀ {l : List AV} {vs : List Value} (n : Nat), VRl φ l vs → VRl φ (l.take n) (vs.take n)
  | _, _, 0, _ => by simp only [List.take_zero]; exact .nil
  | [], _, n + 1, h => by rw [h.nil_inv]; simp only [List.take_nil]; exact .nil
  | _ :: _, _, n + 1, h => by obtain ⟨v, vs', rfl, h1, h2⟩ := h.cons_inv; simp only [List.take_succ_cons]; exact .cons h1 (VRl.take n h2)
theorem VRl.drop : ∀ {l : List AV} {vs : List Value} (n : Nat), VRl φ l vs → VRl φ (l.drop n) (vs.drop n)
  | _, _, 0, h => by simpa only [List.drop_zero] using h
  | [], _, n + 1, h => by rw [h.nil_inv]; simp only [List.drop_nil]; exact .nil
  | _ :: _, _, n + 1, h => by obtain ⟨v, vs', rfl, h1, h2⟩ := h.cons_inv; simp only [List.drop_succ_cons]; exact VRl.drop n h2
theorem VRl.get : ∀ {l : List AV} {vs : List Value} {i : Nat} {a : AV}, VRl φ l vs → l[i]? = some a → ∃ v, vs[i]? = some v ∧ VR φ a v
  | [], _, _, _, _, e => by simp at e
  | _ :: _, _, 0, _, h, e => by obtain ⟨v, vs', rfl, h1, _⟩ := h.cons_inv; simp at e; subst e; exact ⟨v, by simp, h1⟩
  | _ :: _, _, i + 1, _, h, e => by obtain ⟨v, vs', rfl, _, h2⟩ := h.cons_inv; simp only [List.getElem?_cons_succ] at e ⊢; exact VRl.get h2 e
theorem VRl.single {a : AV} {v : Value} (h : VR φ a v) : VRl φ [a] [v] := .cons h .nil
end
noncomputable def one : AV → Bool
  | .agg _ => false
  | .tup _ => false
  | .raw (.agg _) => false
  | .raw (.tuple _) => false
  | _ => true
noncomputable def ones : List AV → Bool
  | [] => true
  | a :: l => one a && ones l
theorem VR.one {φ : Phi} : ∀ {a : AV} {v : Value}, VR φ a v → Ev.one a = true → v.oneCell' = true ∧ v.cells = #[v] := by
  intro a v h h1
  cases a <;> simp only [VR] at h <;> (try simp only [Ev.one, Bool.false_eq_true] at h1)
  case raw u =>
    subst h
    cases v <;> first | exact ⟨rfl, rfl⟩ | simp [Ev.one] at h1
  case ptr => obtain ⟨x, κ, _, rfl⟩ := h; exact ⟨rfl, rfl⟩
  case sl => obtain ⟨x, κ, _, ⟨_, _, rfl⟩ | ⟨_, rfl⟩⟩ := h <;> exact ⟨rfl, rfl⟩
  case map => obtain ⟨x, κ, _, rfl⟩ := h; exact ⟨rfl, rfl⟩
  case sle => obtain ⟨x, κ, rfl⟩ := h; exact ⟨rfl, rfl⟩
  case fn => obtain ⟨x, κ, _, _, rfl⟩ := h; exact ⟨rfl, rfl⟩
  case ifc => obtain ⟨x, _, rfl⟩ := h; exact ⟨rfl, rfl⟩
  all_goals (subst h; exact ⟨rfl, rfl⟩)
theorem VRl.ones {φ : Phi} : ∀ {l : List AV} {vs : List Value}, VRl φ l vs → Ev.ones l = true → ∀ v ∈ vs, v.oneCell' = true
  | [], _, h, _ => by rw [h.nil_inv]; simp
  | a :: l, _, h, k => by
    obtain ⟨v, vs', rfl, h1, h2⟩ := h.cons_inv
    simp only [Ev.ones, Bool.and_eq_true] at k
    intro u hu
    rcases List.mem_cons.1 hu with rfl | hu
    · exact (h1.one k.1).1
    · exact VRl.ones h2 k.2 u hu
noncomputable def cellsOf : AV → List AV
  | .agg l => l
  | a => [a]
noncomputable def aggd : AV → Bool
  | .raw (.agg _) => true
  | _ => false
theorem VR.cells {φ : Phi} {a : AV} {v : Value} (h : VR φ a v) (hr : aggd a = false) : VRl φ (cellsOf a) v.cells.toList := by
  by_cases h1 : Ev.one a = true
  · have : cellsOf a = [a] := by cases a <;> first | rfl | simp [Ev.one] at h1
    rw [this, (h.one h1).2]; exact .single h
  · cases a <;> simp only [Ev.one, not_true_eq_false] at h1
    case agg l => simp only [VR] at h; obtain ⟨vs, h, rfl⟩ := h; simpa [cellsOf, Value.cells] using h
    case tup l =>
      have h' := h
      simp only [VR] at h; obtain ⟨vs, _, rfl⟩ := h; exact .single h'
    case raw u =>
      have h' := h
      simp only [VR] at h; subst h
      cases v <;> simp [Ev.one, aggd] at h1 hr
      exact .single h'
inductive Tr (α : Type) where
  | nil
  | node (v : Option α) (l r : Tr α)
noncomputable def Tr.get {α : Type} (t : Tr α) : Nat → Option α := Tr.rec (motive := fun _ => Nat → Option α) (fun _ => none) (fun v _ _ gl gr i => bif Nat.beq i 0 then v else bif Nat.beq (Nat.mod i 2) 1 then gl (Nat.div (Nat.sub i 1) 2) else gr (Nat.div (Nat.sub i 1) 2)) t
noncomputable def Tr.set {α : Type} (x : Option α) (f : Nat) : Tr α → Nat → Tr α := Nat.rec (motive := fun _ => Tr α → Nat → Tr α) (fun t _ => t) (fun _ ih t i => Tr.casesOn t
    (bif Nat.beq i 0 then .node x .nil .nil else bif Nat.beq (Nat.mod i 2) 1 then .node none (ih .nil (Nat.div (Nat.sub i 1) 2)) .nil else .node none .nil (ih .nil (Nat.div (Nat.sub i 1) 2)))
    (fun v l r => bif Nat.beq i 0 then .node x l r else bif Nat.beq (Nat.mod i 2) 1 then .node v (ih l (Nat.div (Nat.sub i 1) 2)) r else .node v l (ih r (Nat.div (Nat.sub i 1) 2)))) f
theorem Tr.get_nil {α : Type} (i : Nat) : (Tr.nil : Tr α).get i = none := rfl
theorem Tr.get_node {α : Type} (v : Option α) (l r : Tr α) (i : Nat) : (Tr.node v l r).get i = bif Nat.beq i 0 then v else bif Nat.beq (Nat.mod i 2) 1 then l.get (Nat.div (i - 1) 2) else r.get (Nat.div (i - 1) 2) := rfl
theorem Tr.set_nil {α : Type} (x : Option α) (f i : Nat) : Tr.set x (f + 1) .nil i = bif Nat.beq i 0 then .node x .nil .nil else bif Nat.beq (Nat.mod i 2) 1 then .node none (Tr.set x f .nil (Nat.div (i - 1) 2)) .nil else .node none .nil (Tr.set x f .nil (Nat.div (i - 1) 2)) := rfl
theorem Tr.set_node {α : Type} (x : Option α) (f i : Nat) (v : Option α) (l r : Tr α) : Tr.set x (f + 1) (.node v l r) i = bif Nat.beq i 0 then .node x l r else bif Nat.beq (Nat.mod i 2) 1 then .node v (Tr.set x f l (Nat.div (i - 1) 2)) r else .node v l (Tr.set x f r (Nat.div (i - 1) 2)) := rfl
theorem beq_false {a b : Nat} (h : a ≠ b) : Nat.beq a b = false := by rw [Bool.eq_false_iff]; intro h'; exact h (Nat.eq_of_beq_eq_true h')
theorem beq_cases (a b : Nat) : (Nat.beq a b = true ∧ a = b) ∨ (Nat.beq a b = false ∧ a ≠ b) := by
  by_cases h : a = b
  · subst h; exact .inl ⟨Nat.beq_refl a, rfl⟩
  · exact .inr ⟨beq_false h, h⟩
theorem Tr.get_set_same {α : Type} (x : Option α) : ∀ (f : Nat) (t : Tr α) (i : Nat), i < 2 ^ f - 1 → (Tr.set x f t i).get i = x
  | 0, _, _, h => by simp at h
  | f + 1, t, i, h => by
    have hp : 0 < 2 ^ f := Nat.pow_pos (by omega)
    have hd : Nat.div (i - 1) 2 = (i - 1) / 2 := rfl
    rcases beq_cases i 0 with ⟨e, rfl⟩ | ⟨e, hi⟩
    · cases t <;> simp [Tr.set_nil, Tr.set_node, e, Tr.get_node]
    · have hj : (i - 1) / 2 < 2 ^ f - 1 := by rw [Nat.pow_succ] at h; omega
      rcases beq_cases (Nat.mod i 2) 1 with ⟨e1, h1⟩ | ⟨e1, h1⟩ <;> cases t <;> simp only [Tr.set_nil, Tr.set_node, e, e1, cond_false, cond_true, Tr.get_node, hd] <;> exact Tr.get_set_same x f _ _ hj
theorem Tr.get_set_other {α : Type} (x : Option α) : ∀ (f : Nat) (t : Tr α) (i j : Nat), j ≠ i → (Tr.set x f t i).get j = t.get j
  | 0, _, _, _, _ => rfl
  | f + 1, t, i, j, h => by
    have hd : ∀ i, Nat.div (i - 1) 2 = (i - 1) / 2 := fun _ => rfl
    have hm : ∀ i, Nat.mod i 2 = i % 2 := fun _ => rfl
    rcases beq_cases i 0 with ⟨e, rfl⟩ | ⟨e, hi⟩
    · cases t <;> simp [Tr.set_nil, Tr.set_node, e, Tr.get_node, Tr.get_nil, beq_false h]
    · rcases beq_cases (Nat.mod i 2) 1 with ⟨e1, h1⟩ | ⟨e1, h1⟩ <;> rcases beq_cases j 0 with ⟨e2, h2⟩ | ⟨e2, h2⟩ <;> rcases beq_cases (Nat.mod j 2) 1 with ⟨e3, h3⟩ | ⟨e3, h3⟩ <;>
        cases t <;> simp only [Tr.set_nil, Tr.set_node, e, e1, e2, e3, cond_false, cond_true, Tr.get_node, Tr.get_nil, hd] <;>
        first
          | done
          | (rw [Tr.get_set_other x f _ _ _ (by rw [hm] at h1 h3; omega)]; done)
          | (rw [Tr.get_set_other x f _ _ _ (by rw [hm] at h1 h3; omega)]; rfl)
          | rfl
inductive AO where
  | row (c : List AV) (e sz : Nat) (op : Bool)
  | map (es : List (AV × AV × Nat)) (clk : Nat)
  | siter (s : List UInt8) (p : Nat)
structure AH where
  m : Tr AO
  nx : Nat
  gd : Nat
noncomputable def AH.get (h : AH) (b : Nat) : Option AO := h.m.get b
def MR (φ : Phi) : List (AV × AV × Nat) → List MapEntry → Prop
  | [], l => l = []
  | (k, v, n) :: es, l => ∃ e l', l = e :: l' ∧ VR φ k e.key ∧ VR φ v e.val ∧ e.born = n ∧ MR φ es l'
theorem MR.mono {φ φ' : Phi} (h : φ.le φ') : ∀ {es : List (AV × AV × Nat)} {l : List MapEntry}, MR φ es l → MR φ' es l
  | [], _, k => k
  | (_, _, _) :: _, _, k => by
    simp only [MR] at k ⊢
    obtain ⟨e, l', r, a, b, c, d⟩ := k
    exact ⟨e, l', r, a.mono h, b.mono h, c, MR.mono h d⟩
def objR (φ : Phi) (κ : Nat) : AO → Obj → Prop
  | .row c e sz op, o => ∃ vs cs, o = .cells cs e (0, 0) ∧ VRl φ c vs ∧ ((op = true ∧ (∃ rest, cs.toList = vs ++ rest) ∧ cs.size = κ * sz) ∨ (op = false ∧ cs.toList = vs))
  | .map es clk, o => ∃ l : List MapEntry, o = .map l.toArray clk ∧ MR φ es l
  | .siter s p, o => o = .stringIter ⟨s.toArray⟩ p
theorem objR.mono {φ φ' : Phi} (h : φ.le φ') {κ : Nat} {o : AO} {x : Obj} (k : objR φ κ o x) : objR φ' κ o x := by
  cases o with
  | row c e sz op => obtain ⟨vs, cs, a, b, r⟩ := k; exact ⟨vs, cs, a, b.mono h, r⟩
  | map es clk => obtain ⟨l, a, b⟩ := k; exact ⟨l, a, b.mono h⟩
  | siter s p => exact k
structure Base where
  w : World
  fz : List (Nat × Obj)
structure Rel (w0 : Base) (φ : Phi) (h : AH) (w : World) : Prop where
  below : Below w0.w.heap.size w0.w w
  dom : ∀ b, h.nx ≤ b → φ b = none
  ge : ∀ b x κ, φ b = some (x, κ) → w0.w.heap.size ≤ x ∧ x < w.heap.size
  inj : ∀ b b' x κ κ' o o', h.get b = some o → h.get b' = some o' → φ b = some (x, κ) → φ b' = some (x, κ') → b = b'
  obj : ∀ b o, h.get b = some o → b < h.nx ∧ ∃ x κ ob, φ b = some (x, κ) ∧ w.heap[x]? = some ob ∧ objR φ κ o ob
  fro : ∀ p ∈ w0.fz, w.heap[p.1]? = some p.2
  gf : ∀ b x κ, φ b = some (x, κ) → ∀ p ∈ w0.fz, p.1 ≠ x
structure Keep (h h' : AH) : Prop where
  gd : h'.gd = h.gd
  nx : h.nx ≤ h'.nx
  old : ∀ b, b < h.gd → h'.get b = h.get b
theorem Keep.refl (h : AH) : Keep h h := ⟨rfl, Nat.le_refl _, fun _ _ => rfl⟩
theorem Keep.trans {a b c : AH} (h : Keep a b) (k : Keep b c) : Keep a c :=
  ⟨k.gd.trans h.gd, Nat.le_trans h.nx k.nx, fun x hx => (k.old x (by rw [h.gd]; exact hx)).trans (h.old x hx)⟩
noncomputable def AH.add (h : AH) (o : AO) : AH := { m := Tr.set (some o) 20 h.m h.nx, nx := h.nx + 1, gd := h.gd }
noncomputable def AH.roomy (h : AH) : Bool := Nat.ble (h.nx + 1) 1000000 && Nat.ble h.gd h.nx
noncomputable def ext (φ : Phi) (b : Nat) (x : Nat × Nat) : Phi := fun i => if i = b then some x else φ i
theorem ext_le {φ : Phi} {b : Nat} {x : Nat × Nat} (h : φ b = none) : φ.le (ext φ b x) := by
  intro i y e
  unfold ext
  split
  · rename_i hi; rw [hi, h] at e; cases e
  · exact e
theorem ext_same (φ : Phi) (b : Nat) (x : Nat × Nat) : ext φ b x b = some x := by simp [ext]
theorem AH.roomy_lt {h : AH} (k : h.roomy = true) : h.nx < 1000000 ∧ h.gd ≤ h.nx := by
  simp only [AH.roomy, Bool.and_eq_true] at k
  exact ⟨Nat.le_of_ble_eq_true k.1, Nat.le_of_ble_eq_true k.2⟩
theorem AH.add_new {h : AH} {o : AO} (k : h.roomy = true) : (h.add o).get h.nx = some o :=
  Tr.get_set_same _ 20 _ _ (by have := (AH.roomy_lt k).1; omega)
theorem AH.add_old {h : AH} {o : AO} {b : Nat} (k : b ≠ h.nx) : (h.add o).get b = h.get b := Tr.get_set_other _ 20 _ _ _ k
theorem AH.add_keep {h : AH} {o : AO} (k : h.roomy = true) : Keep h (h.add o) :=
  ⟨rfl, Nat.le_succ _, fun b hb => AH.add_old (by have := (AH.roomy_lt k).2; omega)⟩
theorem fz_lt {w0 : Base} {φ : Phi} {h : AH} {w : World} (r : Rel w0 φ h w) {p : Nat × Obj} (hp : p ∈ w0.fz) : p.1 < w.heap.size := (Array.getElem?_eq_some_iff.1 (r.fro p hp)).1
theorem Rel.alloc {w0 : Base} {φ : Phi} {h : AH} {w : World} (r : Rel w0 φ h w) (k : h.roomy = true) {o : AO} {ob : Obj} {κ : Nat} (ho : objR φ κ o ob) :
    Rel w0 (ext φ h.nx (w.heap.size, κ)) (h.add o) (w.alloc ob) := by
  have hle : φ.le (ext φ h.nx (w.heap.size, κ)) := ext_le (r.dom _ (Nat.le_refl _))
  have hsz : (w.alloc ob).heap.size = w.heap.size + 1 := by simp
  refine ⟨r.below.alloc r.below.size ob, ?_, ?_, ?_, ?_, fun p hp => (heap_alloc_old w ob (fz_lt r hp)).trans (r.fro p hp), ?_⟩
  · intro b hb
    have hb' : h.nx + 1 ≤ b := hb
    unfold ext
    rw [if_neg (by omega)]; exact r.dom _ (by omega)
  · intro b x κ' e
    unfold ext at e
    split at e
    · cases e; exact ⟨r.below.size, by rw [hsz]; omega⟩
    · have := r.ge _ _ _ e; exact ⟨this.1, by rw [hsz]; omega⟩
  · intro b b' x κ1 κ2 o1 o2 h1 h2 e1 e2
    unfold ext at e1 e2
    by_cases hb : b = h.nx <;> by_cases hb' : b' = h.nx
    · omega
    · rw [if_pos hb] at e1; rw [if_neg hb'] at e2
      cases e1; have := (r.ge _ _ _ e2).2; omega
    · rw [if_neg hb] at e1; rw [if_pos hb'] at e2
      cases e2; have := (r.ge _ _ _ e1).2; omega
    · rw [if_neg hb] at e1; rw [if_neg hb'] at e2
      rw [AH.add_old hb] at h1; rw [AH.add_old hb'] at h2
      exact r.inj _ _ _ _ _ _ _ h1 h2 e1 e2
  · intro b o' e
    by_cases hb : b = h.nx
    · subst hb
      rw [AH.add_new k] at e; cases e
      exact ⟨Nat.lt_succ_self _, w.heap.size, κ, ob, ext_same _ _ _, heap_alloc_new w ob, ho.mono hle⟩
    · rw [AH.add_old hb] at e
      obtain ⟨hl, x, κ', ob', e1, e2, e3⟩ := r.obj _ _ e
      exact ⟨Nat.lt_succ_of_lt hl, x, κ', ob', hle _ _ e1, (heap_alloc_old w ob (r.ge _ _ _ e1).2).trans e2, e3.mono hle⟩
  · intro b x κ' e p hp
    unfold ext at e
    split at e
    · cases e; have := fz_lt r hp; omega
    · exact r.gf _ _ _ e p hp
noncomputable def AH.put (h : AH) (b : Nat) (o : AO) : AH := { m := Tr.set (some o) 20 h.m b, nx := h.nx, gd := h.gd }
noncomputable def AH.mayPut (h : AH) (b : Nat) : Bool := Nat.ble h.gd b && Nat.ble (b + 1) 1000000
theorem AH.mayPut_lt {h : AH} {b : Nat} (k : h.mayPut b = true) : h.gd ≤ b ∧ b < 1000000 := by
  simp only [AH.mayPut, Bool.and_eq_true] at k
  exact ⟨Nat.le_of_ble_eq_true k.1, Nat.le_of_ble_eq_true k.2⟩
theorem AH.put_here {h : AH} {b : Nat} {o : AO} (k : h.mayPut b = true) : (h.put b o).get b = some o :=
  Tr.get_set_same _ 20 _ _ (by have := (AH.mayPut_lt k).2; omega)
theorem AH.put_other {h : AH} {b c : Nat} {o : AO} (k : c ≠ b) : (h.put b o).get c = h.get c := Tr.get_set_other _ 20 _ _ _ k
theorem AH.put_keep {h : AH} {b : Nat} {o : AO} (k : h.mayPut b = true) : Keep h (h.put b o) :=
  ⟨rfl, Nat.le_refl _, fun c hc => AH.put_other (by have := (AH.mayPut_lt k).1; omega)⟩
theorem Rel.set {w0 : Base} {φ : Phi} {h : AH} {w w' : World} (r : Rel w0 φ h w) {b : Nat} (k : h.mayPut b = true) {o o' : AO} {x κ : Nat} {ob' : Obj} (hb : h.get b = some o) (he : φ b = some (x, κ)) (ho : objR φ κ o' ob')
    (hos : w'.os = w.os) (htape : w'.tape = w.tape) (hout : w'.output = w.output) (hsize : w'.heap.size = w.heap.size) (hhere : w'.heap[x]? = some ob') (hother : ∀ j, j ≠ x → w'.heap[j]? = w.heap[j]?) :
    Rel w0 φ (h.put b o') w' := by
  have hx := r.ge _ _ _ he
  refine ⟨r.below.trans ⟨hos, htape, hout, by rw [hsize]; exact Nat.le_refl _, fun j hj => hother j (by omega)⟩, r.dom, ?_, ?_, ?_, fun p hp => (hother _ (r.gf _ _ _ he p hp)).trans (r.fro p hp), r.gf⟩
  · intro c y κ' e; rw [hsize]; exact r.ge _ _ _ e
  · intro c c' y κ1 κ2 o1 o2 h1 h2 e1 e2
    have g1 : ∃ o1', h.get c = some o1' := by
      by_cases hc : c = b
      · subst hc; exact ⟨_, hb⟩
      · rw [AH.put_other hc] at h1; exact ⟨_, h1⟩
    have g2 : ∃ o2', h.get c' = some o2' := by
      by_cases hc : c' = b
      · subst hc; exact ⟨_, hb⟩
      · rw [AH.put_other hc] at h2; exact ⟨_, h2⟩
    obtain ⟨_, g1⟩ := g1; obtain ⟨_, g2⟩ := g2
    exact r.inj _ _ _ _ _ _ _ g1 g2 e1 e2
  · intro c o1 e
    by_cases hc : c = b
    · subst hc
      rw [AH.put_here k] at e; cases e
      exact ⟨(r.obj _ _ hb).1, x, κ, ob', he, hhere, ho⟩
    · rw [AH.put_other hc] at e
      obtain ⟨hl, y, κ', ob, e1, e2, e3⟩ := r.obj _ _ e
      refine ⟨hl, y, κ', ob, e1, ?_, e3⟩
      rw [hother y ?_]; exact e2
      rintro rfl
      exact hc (r.inj _ _ _ _ _ _ _ e hb e1 he)
theorem Rel.drew {w0 : Base} {φ : Phi} {h : AH} {w w' : World} (r : Rel w0 φ h w) (hw : ∃ k, w' = w.drewN k) : Rel w0 φ h w' := by
  obtain ⟨k, rfl⟩ := hw
  exact ⟨⟨r.below.os, r.below.tape, r.below.output, r.below.size, r.below.block⟩, r.dom, r.ge, r.inj, r.obj, r.fro, r.gf⟩
noncomputable def AH.kill (h : AH) (b : Nat) : AH := { m := Tr.set none 20 h.m b, nx := h.nx, gd := h.gd }
theorem AH.kill_here {h : AH} {b : Nat} (k : h.mayPut b = true) : (h.kill b).get b = none :=
  Tr.get_set_same _ 20 _ _ (by have := (AH.mayPut_lt k).2; omega)
theorem AH.kill_other {h : AH} {b c : Nat} (k : c ≠ b) : (h.kill b).get c = h.get c := Tr.get_set_other _ 20 _ _ _ k
theorem AH.kill_keep {h : AH} {b : Nat} (k : h.mayPut b = true) : Keep h (h.kill b) :=
  ⟨rfl, Nat.le_refl _, fun c hc => AH.kill_other (by have := (AH.mayPut_lt k).1; omega)⟩
theorem AH.kill_get {h : AH} {b c : Nat} {o : AO} (k : h.mayPut b = true) (e : (h.kill b).get c = some o) : c ≠ b ∧ h.get c = some o := by
  by_cases hc : c = b
  · subst hc; rw [AH.kill_here k] at e; cases e
  · rw [AH.kill_other hc] at e; exact ⟨hc, e⟩
end Ev
end Go.Proofs.YtaegacblpbbndaaDoor
end
