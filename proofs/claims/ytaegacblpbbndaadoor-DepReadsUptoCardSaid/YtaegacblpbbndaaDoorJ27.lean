/- The texts EvT of the proof, joined. Each says at its theorems what it proves. -/
import Derived.Test.YtaegacblpbbndaaDoorJ26
set_option linter.unusedSimpArgs false
set_option linter.unusedVariables false
section
namespace Go.Proofs.YtaegacblpbbndaaDoor
open Go Go.RowKit
set_option linter.unusedSimpArgs false
set_option linter.unusedVariables false
namespace Ev
noncomputable def eqN (l : List UInt8) : List UInt8 → Bool := List.rec (fun m => List.rec true (fun _ _ _ => false) m) (fun a _ ih m => List.rec false (fun b m _ => bif Nat.beq a.toNat b.toNat then ih m else false) m) l
theorem eqN_eq : ∀ (l m : List UInt8), eqN l m = strEq l m
  | [], [] => rfl
  | [], _ :: _ => rfl
  | _ :: _, [] => rfl
  | a :: l, b :: m => by
    show (bif Nat.beq a.toNat b.toNat then eqN l m else false) = _
    rw [eqN_eq l m, strEq]
    cases Nat.beq a.toNat b.toNat <;> rfl
noncomputable def onInt {β : Type} (d : β) (f : IntKind → Int → β) (a : AV) : β := AV.rec (motive_1 := fun _ => β) (motive_2 := fun _ => PUnit) (fun _ => d) (fun k n => f k n) (fun _ => d) (fun _ _ => d) d (fun _ _ _ _ _ => d) d d (fun _ => d) d (fun _ _ _ _ _ => d) d (fun _ _ _ => d) d (fun _ _ => d) (fun _ _ => d) (fun _ => d) PUnit.unit (fun _ _ _ _ => PUnit.unit) a
noncomputable def onIS {β : Type} (d : β) (f : IntKind → Int → β) (g : List UInt8 → β) (a : AV) : β := AV.rec (motive_1 := fun _ => β) (motive_2 := fun _ => PUnit) (fun _ => d) (fun k n => f k n) (fun l => g l) (fun _ _ => d) d (fun _ _ _ _ _ => d) d d (fun _ => d) d (fun _ _ _ _ _ => d) d (fun _ _ _ => d) d (fun _ _ => d) (fun _ _ => d) (fun _ => d) PUnit.unit (fun _ _ _ _ => PUnit.unit) a
noncomputable def onStr {β : Type} (d : β) (f : List UInt8 → β) (a : AV) : β := AV.rec (motive_1 := fun _ => β) (motive_2 := fun _ => PUnit) (fun _ => d) (fun _ _ => d) (fun l => f l) (fun _ _ => d) d (fun _ _ _ _ _ => d) d d (fun _ => d) d (fun _ _ _ _ _ => d) d (fun _ _ _ => d) d (fun _ _ => d) (fun _ _ => d) (fun _ => d) PUnit.unit (fun _ _ _ _ => PUnit.unit) a
noncomputable def onPtr {β : Type} (d : β) (f : Nat → Nat → β) (a : AV) : β := AV.rec (motive_1 := fun _ => β) (motive_2 := fun _ => PUnit) (fun _ => d) (fun _ _ => d) (fun _ => d) (fun b o => f b o) d (fun _ _ _ _ _ => d) d d (fun _ => d) d (fun _ _ _ _ _ => d) d (fun _ _ _ => d) d (fun _ _ => d) (fun _ _ => d) (fun _ => d) PUnit.unit (fun _ _ _ _ => PUnit.unit) a
noncomputable def onSl {β : Type} (d : β) (f : Nat → Nat → Nat → Nat → Bool → β) (a : AV) : β := AV.rec (motive_1 := fun _ => β) (motive_2 := fun _ => PUnit) (fun _ => d) (fun _ _ => d) (fun _ => d) (fun _ _ => d) d (fun b o n c p => f b o n c p) d d (fun _ => d) d (fun _ _ _ _ _ => d) d (fun _ _ _ => d) d (fun _ _ => d) (fun _ _ => d) (fun _ => d) PUnit.unit (fun _ _ _ _ => PUnit.unit) a
noncomputable def onAgg {β : Type} (d : β) (f : List AV → β) (a : AV) : β := AV.rec (motive_1 := fun _ => β) (motive_2 := fun _ => PUnit) (fun _ => d) (fun _ _ => d) (fun _ => d) (fun _ _ => d) d (fun _ _ _ _ _ => d) d d (fun _ => d) d (fun _ _ _ _ _ => d) d (fun _ _ _ => d) d (fun l _ => f l) (fun _ _ => d) (fun _ => d) PUnit.unit (fun _ _ _ _ => PUnit.unit) a
noncomputable def onTup {β : Type} (d : β) (f : List AV → β) (a : AV) : β := AV.rec (motive_1 := fun _ => β) (motive_2 := fun _ => PUnit) (fun _ => d) (fun _ _ => d) (fun _ => d) (fun _ _ => d) d (fun _ _ _ _ _ => d) d d (fun _ => d) d (fun _ _ _ _ _ => d) d (fun _ _ _ => d) d (fun _ _ => d) (fun l _ => f l) (fun _ => d) PUnit.unit (fun _ _ _ _ => PUnit.unit) a
noncomputable def onBool {β : Type} (d : β) (f : Bool → β) (a : AV) : β := AV.rec (motive_1 := fun _ => β) (motive_2 := fun _ => PUnit) (fun b => f b) (fun _ _ => d) (fun _ => d) (fun _ _ => d) d (fun _ _ _ _ _ => d) d d (fun _ => d) d (fun _ _ _ _ _ => d) d (fun _ _ _ => d) d (fun _ _ => d) (fun _ _ => d) (fun _ => d) PUnit.unit (fun _ _ _ _ => PUnit.unit) a
noncomputable def idxN (l : List Nat) (t : Nat) : Option Nat := List.rec none (fun a _ ih => bif Nat.beq a t then some 0 else Option.rec none (fun k => some (Nat.succ k)) ih) l
noncomputable def nthB (k : Nat) : Bx (List AV → Option AV) := Nat.rec ⟨fun E => List.rec none (fun a _ _ => some a) E⟩ (fun _ ih => ⟨fun E => List.rec none (fun _ E' _ => ih.run E') E⟩) k
theorem nthB_eq : ∀ (k : Nat) (E : List AV), (nthB k).run E = E[k]?
  | 0, [] => rfl
  | 0, a :: E => rfl
  | k + 1, [] => rfl
  | k + 1, a :: E => by show (nthB k).run E = _; rw [nthB_eq k E]; simp
noncomputable def slotB (n t : Nat) : Bx (Fr → List AV → Option AV) := bif Nat.blt t n && Nat.ble n 256 then (fun g => ⟨fun T _ => some (g.run T)⟩) (getB t) else ⟨fun _ _ => none⟩
noncomputable def evB (n : Nat) (vs : List Nat) : Operand → Bx (Fr → List AV → Option AV)
  | .tmp t => (match idxN vs t with
    | some k => (fun g => ⟨fun _ E => g.run E⟩) (nthB k)
    | none => slotB n t)
  | .const v => ⟨fun _ _ => ofV v⟩
  | .func f => ⟨fun _ _ => some (.fn f [] [])⟩
  | .global _ => ⟨fun _ _ => none⟩
structure Ag (n : Nat) (vs : List Nat) (T : Fr) (E : List AV) (F : AF) : Prop where
  tm : F.tm = T
  sz : F.n = n
  le : n ≤ 256
  at_ : ∀ t k, idxN vs t = some k → t < n ∧ E[k]? = some (F.get t)
noncomputable def evW (n : Nat) (vs : List Nat) (T : Fr) (E : List AV) (x : Operand) : Option AV := (evB n vs x).run T E
section
variable {n : Nat} {vs : List Nat} {T : Fr} {E : List AV} {F : AF}
theorem evB_eq (hA : Ag n vs T E F) (x : Operand) : (evB n vs x).run T E = evF F x := by
  cases x with
  | tmp t =>
    show (match idxN vs t with
      | some k => (⟨fun _ E => (nthB k).run E⟩ : Bx (Fr → List AV → Option AV))
      | none => slotB n t).run T E = bif Nat.blt t F.n then some (F.get t) else none
    cases hi : idxN vs t with
    | some k =>
      obtain ⟨h1, h2⟩ := hA.at_ t k hi
      have hb : Nat.blt t F.n = true := by rw [hA.sz]; simpa [Nat.blt_eq] using h1
      rw [hb]
      show (nthB k).run E = _
      rw [nthB_eq, h2]; rfl
    | none =>
      show (slotB n t).run T E = _
      unfold slotB
      have hle : Nat.ble n 256 = true := Nat.ble_eq_true_of_le hA.le
      rw [hle, Bool.and_true, hA.sz]
      cases hb : Nat.blt t n with
      | false => rfl
      | true =>
        have hlt : t < n := by simpa [Nat.blt_eq] using hb
        have hle := hA.le
        show some ((getB t).run T) = some (F.get t)
        rw [getB_eq, AF.get_lt (Nat.lt_of_lt_of_le hlt hA.le), hA.tm]
  | const v => rfl
  | func f => rfl
  | global g => rfl
theorem evW_eq (hA : Ag n vs T E F) : Ev.evW n vs T E = evF F := funext fun x => evB_eq hA x
end
noncomputable def evsB (n : Nat) (vs : List Nat) : List Operand → Bx (Fr → List AV → Option (List AV)) := List.rec ⟨fun _ _ => some []⟩ (fun x _ ih => (fun b => ⟨fun T E => Option.rec none (fun a => Option.rec none (fun r => some (a :: r)) (ih.run T E)) (b.run T E)⟩) (evB n vs x))
theorem evsB_eq {n : Nat} {vs : List Nat} {T : Fr} {E : List AV} {F : AF} (hA : Ag n vs T E F) : ∀ (l : List Operand), (evsB n vs l).run T E = evs (evF F) l
  | [] => rfl
  | x :: l => by
    show Option.rec (motive := fun _ => Option (List AV)) none (fun a => Option.rec (motive := fun _ => Option (List AV)) none (fun r => some (a :: r)) ((evsB n vs l).run T E)) ((evB n vs x).run T E) = _
    rw [evsB_eq hA l, evB_eq hA]
    conv => rhs; unfold evs
    cases evF F x with
    | none => rfl
    | some a => cases h : evs (evF F) l <;> simp only [h]
noncomputable def kn (k : IntKind) : Nat := IntKind.rec 0 1 2 3 4 5 6 7 k
theorem kn_inj : ∀ {a b : IntKind}, kn a = kn b → a = b := by intro a b; cases a <;> cases b <;> simp [kn]
noncomputable def top (k : IntKind) : Nat := IntKind.rec 127 32767 2147483647 9223372036854775807 255 65535 4294967295 18446744073709551615 k
theorem wrap_top {k : IntKind} {n : Nat} (h : n ≤ top k) : k.wrap (n : Int) = n := by
  cases k <;> simp only [top] at h <;> simp only [IntKind.wrap, IntKind.bits, IntKind.signed, Bool.true_and, Bool.false_and, Bool.false_eq_true, if_false]
  case i8 => split <;> rename_i q <;> simp at q <;> omega
  case i16 => split <;> rename_i q <;> simp at q <;> omega
  case i32 => split <;> rename_i q <;> simp at q <;> omega
  case i64 => split <;> rename_i q <;> simp at q <;> omega
  all_goals omega
noncomputable def strict {α : Type} (n : Nat) (k : Nat → α) : α := Nat.rec (k 0) (fun p _ => k (Nat.succ p)) n
theorem strict_eq {α : Type} (n : Nat) (k : Nat → α) : strict n k = k n := by cases n <;> rfl
noncomputable def cmpF : BinOp → Option (Bx (Nat → Nat → Bool))
  | .eql => some ⟨fun a b => Nat.beq a b⟩
  | .neq => some ⟨fun a b => Bool.rec (motive := fun _ => Bool) true false (Nat.beq a b)⟩
  | .lss => some ⟨fun a b => Nat.ble (Nat.succ a) b⟩
  | .leq => some ⟨fun a b => Nat.ble a b⟩
  | .gtr => some ⟨fun a b => Nat.ble (Nat.succ b) a⟩
  | .geq => some ⟨fun a b => Nat.ble b a⟩
  | _ => none
noncomputable def ariF : BinOp → Option (Bx (Nat → Nat → Option Nat))
  | .add => some ⟨fun a b => some (Nat.add a b)⟩
  | .sub => some ⟨fun a b => Bool.rec (motive := fun _ => Option Nat) none (some (Nat.sub a b)) (Nat.ble b a)⟩
  | .mul => some ⟨fun a b => some (Nat.mul a b)⟩
  | _ => none
noncomputable def strF : BinOp → Option (Bx (List UInt8 → List UInt8 → Bool))
  | .eql => some ⟨fun a b => eqN a b⟩
  | .neq => some ⟨fun a b => Bool.rec (motive := fun _ => Bool) true false (eqN a b)⟩
  | _ => none
noncomputable def both (f : IntKind → Nat → Nat → Option AV) (g : List UInt8 → List UInt8 → Option AV) (d : Option AV) (b a : Option AV) : Option AV :=
  Option.rec d (fun a => Option.rec d (fun b => onIS d (fun k i => Int.rec (fun n => onInt d (fun k' j => Int.rec (fun m => Bool.rec (motive := fun _ => Option AV) d (f k n m) (Nat.beq (kn k) (kn k'))) (fun _ => d) j) b) (fun _ => d) i) (fun l => onStr d (fun m => g l m) b) a) b) a
theorem both_eq {f : IntKind → Nat → Nat → Option AV} {g : List UInt8 → List UInt8 → Option AV} {d a b : Option AV} (hf : ∀ k n m, a = some (.int k (.ofNat n)) → b = some (.int k (.ofNat m)) → f k n m = d) (hg : ∀ l m, a = some (.str l) → b = some (.str m) → g l m = d) : both f g d b a = d := by
  cases a with
  | none => rfl
  | some a =>
    cases b with
    | none => rfl
    | some b =>
      cases a <;> try rfl
      · rename_i k i
        cases i with
        | negSucc i => rfl
        | ofNat n =>
          cases b <;> try rfl
          rename_i k' j
          cases j with
          | negSucc j => rfl
          | ofNat m =>
            show Bool.rec (motive := fun _ => Option AV) d (f k n m) (Nat.beq (kn k) (kn k')) = d
            rcases beq_cases (kn k) (kn k') with ⟨q, e⟩ | ⟨q, _⟩
            · rw [q]; have := kn_inj e; subst this; exact hf k n m rfl rfl
            · rw [q]
      · rename_i l
        cases b <;> try rfl
        rename_i m
        exact hg l m rfl rfl
noncomputable def bothC (f : IntKind → Nat → Option AV) (c : Nat) (d : Option AV) (a : Option AV) : Option AV :=
  Option.rec d (fun a => onInt d (fun k i => Int.rec (fun n => Bool.rec (motive := fun _ => Option AV) d (f k n) (Nat.beq (kn k) c)) (fun _ => d) i) a) a
theorem bothC_eq {f : IntKind → Nat → Option AV} {k' : IntKind} {d a : Option AV} (hf : ∀ n, a = some (.int k' (.ofNat n)) → f k' n = d) : bothC f (kn k') d a = d := by
  cases a with
  | none => rfl
  | some a =>
    cases a <;> try rfl
    rename_i k i
    cases i with
    | negSucc i => rfl
    | ofNat n =>
      show Bool.rec (motive := fun _ => Option AV) d (f k n) (Nat.beq (kn k) (kn k')) = d
      rcases beq_cases (kn k) (kn k') with ⟨q, e⟩ | ⟨q, _⟩
      · rw [q]; have := kn_inj e; subst this; exact hf n rfl
      · rw [q]
noncomputable def constN : Operand → Option (IntKind × Nat)
  | .const (.int k (.ofNat m)) => some (k, m)
  | _ => none
theorem constN_eq {y : Operand} {k : IntKind} {m : Nat} (h : constN y = some (k, m)) : y = .const (.int k (.ofNat m)) := by
  unfold constN at h
  split at h
  · cases h; rfl
  · cases h
noncomputable def opN (op : BinOp) : Option (Bx (Option AV → IntKind → Nat → Nat → Option AV)) := match cmpF op with
  | some f => some ⟨fun _ _ n m => some (.bool (f.run n m))⟩
  | none => match ariF op with
    | some f => some ⟨fun d k n m => Option.rec d (fun r => Bool.rec (motive := fun _ => Option AV) d (strict r (fun r => some (.int k (.ofNat r)))) (Nat.ble r (top k))) (f.run n m)⟩
    | none => none
noncomputable def binB (P : Program) (n : Nat) (vs : List Nat) (o : Oper) (op : BinOp) (t : Nat) (x y : Operand) : Bx (Fr → List AV → Option AV) := match opN op with
  | some f => (match constN y with
    | some c => (fun a k => ⟨fun T E => (fun d => bothC (fun k n => f.run d k n c.2) k d (a.run T E)) (pBin P (evW n vs T E) o op t x y)⟩) (evB n vs x) (kn c.1)
    | none => (match strF op with
      | some g => (fun a b => ⟨fun T E => (fun d => both (f.run d) (fun l m => some (.bool (g.run l m))) d (b.run T E) (a.run T E)) (pBin P (evW n vs T E) o op t x y)⟩) (evB n vs x) (evB n vs y)
      | none => (fun a b => ⟨fun T E => (fun d => both (f.run d) (fun _ _ => d) d (b.run T E) (a.run T E)) (pBin P (evW n vs T E) o op t x y)⟩) (evB n vs x) (evB n vs y)))
  | none => ⟨fun T E => pBin P (evW n vs T E) o op t x y⟩
section
variable {P : Program}
theorem pBin_scal {ev : Operand → Option AV} {o : Oper} {op : BinOp} {t : Nat} {x y : Operand} {k : IntKind} {n : Int} {b : AV} (hx : ev x = some (.int k n)) (hy : ev y = some b) : pBin P ev o op t x y = scal P ev o := by
  unfold pBin; rw [hx, hy]; rfl
theorem scal_bin {ev : Operand → Option AV} {o : Oper} {op : BinOp} {t : Nat} {x y : Operand} {c : TypeId} {k : IntKind} {n m : Int} {v : Value} {r : AV} (ho : o.op = .binOp op t x y c) (hx : ev x = some (.int k n)) (hy : ev y = some (.int k m)) (hg : eqGuard op t x y (.int k n) (.int k m) = pure ()) (hv : binOp op t (.int k n) (.int k m) = pure v) (hr : ofScal v = some r) : scal P ev o = some r := by
  have h1 : isSc ev x = true := by simp [isSc, hx, toV]
  have h2 : isSc ev y = true := by simp [isSc, hy, toV]
  have s1 : sc ev x = .int k n := by simp [sc, hx, toV]
  have s2 : sc ev y = .int k m := by simp [sc, hy, toV]
  have hn : notSel o.op = true := by rw [ho]; rfl
  have ha : allSc ev o.op.operands.toList = true := by rw [ho]; simp [Op.operands, allSc, h1, h2]
  have he : pr P (execOp (sc ev) o) = some (.value v) := by
    unfold execOp; rw [ho]; simp only [s1, s2, hg, hv]; rfl
  unfold scal
  rw [hn, ha, he]
  exact hr
theorem eqGuard_int {op : BinOp} {t : Nat} {x y : Operand} {k : IntKind} {n m : Int} : eqGuard op t x y (.int k n) (.int k m) = pure () := by
  cases op <;> rfl
theorem opN_eq {o : Oper} {op : BinOp} {t : Nat} {x y : Operand} {c : TypeId} {ev : Operand → Option AV} (ho : o.op = .binOp op t x y c) {f : Bx (Option AV → IntKind → Nat → Nat → Option AV)} (hf : opN op = some f) {k : IntKind} {n m : Nat} (hx : ev x = some (.int k (.ofNat n))) (hy : ev y = some (.int k (.ofNat m))) : f.run (pBin P ev o op t x y) k n m = pBin P ev o op t x y := by
  have key : ∀ {v : Value} {r : AV}, binOp op t (.int k (.ofNat n)) (.int k (.ofNat m)) = pure v → ofScal v = some r → some r = pBin P ev o op t x y := by
    intro v r hv hr
    rw [pBin_scal hx hy, scal_bin ho hx hy eqGuard_int hv hr]
  have cmp : ∀ (f : Nat → Nat → Bool) (q : Bool), binOp op t (.int k (.ofNat n)) (.int k (.ofNat m)) = pure (.bool q) → f n m = q → some (.bool (f n m)) = pBin P ev o op t x y := by
    intro f q hv hf
    rw [hf]; exact key hv rfl
  cases op
  case eql =>
    cases hf
    refine cmp (fun a b => Nat.beq a b) ((n : Int) == (m : Int)) (by simp [binOp, Op.intCmp]) ?_
    rcases beq_cases n m with ⟨q, e⟩ | ⟨q, e⟩ <;> simp [q, e] <;> omega
  case neq =>
    cases hf
    refine cmp (fun a b => Bool.rec (motive := fun _ => Bool) true false (Nat.beq a b)) ((n : Int) != (m : Int)) (by simp [binOp, Op.intCmp]) ?_
    rcases beq_cases n m with ⟨q, e⟩ | ⟨q, e⟩ <;> simp [q, e] <;> omega
  case lss =>
    cases hf
    refine cmp (fun a b => Nat.ble (Nat.succ a) b) (decide ((n : Int) < (m : Int))) (by simp [binOp, Op.intCmp]) ?_
    cases h : Nat.ble (Nat.succ n) m
    · have hn : ¬ (Nat.succ n ≤ m) := fun h' => Bool.noConfusion (h.symm.trans (Nat.ble_eq_true_of_le h'))
      simp; omega
    · have := Nat.le_of_ble_eq_true h; simp; omega
  case leq =>
    cases hf
    refine cmp (fun a b => Nat.ble a b) (decide ((n : Int) ≤ (m : Int))) (by simp [binOp, Op.intCmp]) ?_
    cases h : Nat.ble n m
    · have hn : ¬ (n ≤ m) := fun h' => Bool.noConfusion (h.symm.trans (Nat.ble_eq_true_of_le h'))
      simp; omega
    · have := Nat.le_of_ble_eq_true h; simp; omega
  case gtr =>
    cases hf
    refine cmp (fun a b => Nat.ble (Nat.succ b) a) (decide ((n : Int) > (m : Int))) (by simp [binOp, Op.intCmp]) ?_
    cases h : Nat.ble (Nat.succ m) n
    · have hn : ¬ (Nat.succ m ≤ n) := fun h' => Bool.noConfusion (h.symm.trans (Nat.ble_eq_true_of_le h'))
      simp; omega
    · have := Nat.le_of_ble_eq_true h; simp; omega
  case geq =>
    cases hf
    refine cmp (fun a b => Nat.ble b a) (decide ((n : Int) ≥ (m : Int))) (by simp [binOp, Op.intCmp]) ?_
    cases h : Nat.ble m n
    · have hn : ¬ (m ≤ n) := fun h' => Bool.noConfusion (h.symm.trans (Nat.ble_eq_true_of_le h'))
      simp; omega
    · have := Nat.le_of_ble_eq_true h; simp; omega
  case add =>
    cases hf
    show Bool.rec (motive := fun _ => Option AV) _ (strict (Nat.add n m) (fun r => some (AV.int k (.ofNat r)))) (Nat.ble (Nat.add n m) (top k)) = _
    cases hb : Nat.ble (Nat.add n m) (top k) with
    | false => rfl
    | true =>
      show strict _ _ = _
      rw [strict_eq]
      refine key (v := .int k (.ofNat (Nat.add n m))) ?_ rfl
      have e0 : binOp .add t (.int k (.ofNat n)) (.int k (.ofNat m)) = pure (Value.int k (k.wrap ((n : Int) + (m : Int)))) := by simp [binOp, Op.intArith]
      rw [e0]
      have := wrap_top (Nat.le_of_ble_eq_true hb)
      have e : ((Nat.add n m : Nat) : Int) = (n : Int) + (m : Int) := by simp
      rw [← e, this]; rfl
  case sub =>
    cases hf
    show Option.rec (motive := fun _ => Option AV) _ (fun r => Bool.rec (motive := fun _ => Option AV) _ (strict r (fun r => some (AV.int k (.ofNat r)))) (Nat.ble r (top k))) (Bool.rec (motive := fun _ => Option Nat) none (some (Nat.sub n m)) (Nat.ble m n)) = _
    cases hc : Nat.ble m n with
    | false => rfl
    | true =>
      show Bool.rec (motive := fun _ => Option AV) _ (strict (Nat.sub n m) (fun r => some (AV.int k (.ofNat r)))) (Nat.ble (Nat.sub n m) (top k)) = _
      cases hb : Nat.ble (Nat.sub n m) (top k) with
      | false => rfl
      | true =>
        show strict _ _ = _
        rw [strict_eq]
        refine key (v := .int k (.ofNat (Nat.sub n m))) ?_ rfl
        have e0 : binOp .sub t (.int k (.ofNat n)) (.int k (.ofNat m)) = pure (Value.int k (k.wrap ((n : Int) - (m : Int)))) := by simp [binOp, Op.intArith]
        rw [e0]
        have := wrap_top (Nat.le_of_ble_eq_true hb)
        have e : ((Nat.sub n m : Nat) : Int) = (n : Int) - (m : Int) := by have := Nat.le_of_ble_eq_true hc; show ((n - m : Nat) : Int) = _; omega
        rw [← e, this]; rfl
  case mul =>
    cases hf
    show Bool.rec (motive := fun _ => Option AV) _ (strict (Nat.mul n m) (fun r => some (AV.int k (.ofNat r)))) (Nat.ble (Nat.mul n m) (top k)) = _
    cases hb : Nat.ble (Nat.mul n m) (top k) with
    | false => rfl
    | true =>
      show strict _ _ = _
      rw [strict_eq]
      refine key (v := .int k (.ofNat (Nat.mul n m))) ?_ rfl
      have e0 : binOp .mul t (.int k (.ofNat n)) (.int k (.ofNat m)) = pure (Value.int k (k.wrap ((n : Int) * (m : Int)))) := by simp [binOp, Op.intArith]
      rw [e0]
      have := wrap_top (Nat.le_of_ble_eq_true hb)
      have e : ((Nat.mul n m : Nat) : Int) = (n : Int) * (m : Int) := by show ((n * m : Nat) : Int) = _; simp
      rw [← e, this]; rfl
  all_goals cases hf
theorem strF_eq {o : Oper} {op : BinOp} {t : Nat} {x y : Operand} {ev : Operand → Option AV} {g : Bx (List UInt8 → List UInt8 → Bool)} (hg : strF op = some g) {l m : List UInt8} (hx : ev x = some (.str l)) (hy : ev y = some (.str m)) : some (AV.bool (g.run l m)) = pBin P ev o op t x y := by
  cases op
  case eql =>
    cases hg
    show some (AV.bool (eqN l m)) = _
    rw [eqN_eq]; unfold pBin; rw [hx, hy]; rfl
  case neq =>
    cases hg
    show some (AV.bool (Bool.rec (motive := fun _ => Bool) true false (eqN l m))) = _
    rw [eqN_eq]; unfold pBin; rw [hx, hy]
    show _ = some (AV.bool (!strEq l m))
    cases strEq l m <;> rfl
  all_goals cases hg
theorem binB_eq {n : Nat} {vs : List Nat} {T : Fr} {E : List AV} {F : AF} (hA : Ag n vs T E F) {o : Oper} {op : BinOp} {t : Nat} {x y : Operand} {c : TypeId} (ho : o.op = .binOp op t x y c) : (binB P n vs o op t x y).run T E = pBin P (evF F) o op t x y := by
  unfold binB
  split
  · rename_i f hf
    split
    · rename_i c' hc
      obtain ⟨k, m⟩ := c'
      have hy := constN_eq hc
      show bothC (fun k i => f.run (pBin P (evW n vs T E) o op t x y) k i m) (kn k) (pBin P (evW n vs T E) o op t x y) ((evB n vs x).run T E) = _
      rw [evW_eq hA, evB_eq hA]
      exact bothC_eq fun i hx => opN_eq ho hf hx (by rw [hy]; rfl)
    · split
      · rename_i g hg
        show both (f.run (pBin P (evW n vs T E) o op t x y)) (fun l m => some (.bool (g.run l m))) (pBin P (evW n vs T E) o op t x y) ((evB n vs y).run T E) ((evB n vs x).run T E) = _
        rw [evW_eq hA, evB_eq hA, evB_eq hA]
        exact both_eq (fun k i j hx hy => opN_eq ho hf hx hy) (fun l m hx hy => strF_eq hg hx hy)
      · show both (f.run (pBin P (evW n vs T E) o op t x y)) (fun _ _ => pBin P (evW n vs T E) o op t x y) (pBin P (evW n vs T E) o op t x y) ((evB n vs y).run T E) ((evB n vs x).run T E) = _
        rw [evW_eq hA, evB_eq hA, evB_eq hA]
        exact both_eq (fun k i j hx hy => opN_eq ho hf hx hy) (fun l m hx hy => rfl)
  · show pBin P (evW n vs T E) o op t x y = _
    rw [evW_eq hA]
end
noncomputable def idxS (a i : Option AV) : Option AV := Option.rec none (fun a => onStr none (fun l => Option.rec none (fun i => onInt none (fun _ i => Int.rec (fun n => Option.rec none (fun u => strict (UInt8.toNat u) (fun r => some (.int .u8 (.ofNat r)))) (nth l n)) (fun _ => none) i) i) i) a) a
theorem idxS_eq' (a i : Option AV) : idxS a i = (match a, i with
  | some (.str l), some (.int _ (.ofNat n)) => (match nth l n with
    | some u => some (.int .u8 (.ofNat u.toNat))
    | none => none)
  | _, _ => none) := by
  cases a with
  | none => rfl
  | some a =>
    cases a <;> try rfl
    cases i with
    | none => rfl
    | some i =>
      cases i <;> try rfl
      rename_i i
      cases i with
      | negSucc i => rfl
      | ofNat m =>
        rename_i l _
        show Option.rec (motive := fun _ => Option AV) none (fun u => strict (UInt8.toNat u) (fun r => some (.int .u8 (.ofNat r)))) (nth l m) = _
        cases h : nth l m with
        | none => simp only [h]
        | some u => simp only [h]; exact strict_eq _ _
noncomputable def idxB (P : Program) (n : Nat) (vs : List Nat) (t : Nat) (x i : Operand) : Bx (Fr → List AV → Option AV) := match P.underlying t with
  | some .string => ⟨fun T E => idxS ((evB n vs x).run T E) ((evB n vs i).run T E)⟩
  | _ => ⟨fun T E => pIndex P (evW n vs T E) t x i⟩
theorem idxB_ok {P : Program} {n : Nat} {vs : List Nat} {T : Fr} {E : List AV} {F : AF} (hA : Ag n vs T E F) {t : Nat} {x i : Operand} {a : AV} (h : (idxB P n vs t x i).run T E = some a) : pIndex P (evF F) t x i = some a := by
  unfold idxB at h
  split at h
  · rename_i ht
    simp only [evB_eq hA, evW_eq hA] at h
    rw [idxS_eq'] at h
    split at h
    · rename_i l k n hx hi
      unfold pIndex
      rw [hx, hi]
      simp only [natOf, ht]
      rw [nth_eq] at h
      exact h
    · cases h
  · simp only [evW_eq hA] at h; exact h
noncomputable def strLen (a : Option AV) : Option AV := Option.rec none (fun a => onStr none (fun l => strict (lenN l) (fun n => some (.int .i64 (.ofNat n)))) a) a
theorem strLen_eq' (a : Option AV) : strLen a = (match a with
  | some (.str l) => strict (lenN l) (fun n => some (.int .i64 (.ofNat n)))
  | _ => none) := by
  cases a with
  | none => rfl
  | some a => cases a <;> rfl
noncomputable def slLen : Option AV → Option AV
  | some (.sl _ _ len _ _) => some (.int .i64 (.ofNat len))
  | some .nils => some (.int .i64 (.ofNat 0))
  | _ => none
noncomputable def lenB (P : Program) (n : Nat) (vs : List Nat) (c : Call) : Option (Bx (Fr → List AV → Option AV)) := match c.callee with
  | .builtin .len => (match c.args.toList with
    | [x] => (match c.argTypes.toList with
      | [t] => (match P.underlying t with
        | some .string => some ⟨fun T E => strLen ((evB n vs x).run T E)⟩
        | some (.slice _) => some ⟨fun T E => slLen ((evB n vs x).run T E)⟩
        | _ => none)
      | _ => none)
    | _ => none)
  | _ => none
theorem lenB_ok {P : Program} {n : Nat} {vs : List Nat} {T : Fr} {E : List AV} {F : AF} (hA : Ag n vs T E F) {o : Oper} {c : Call} {f : Bx (Fr → List AV → Option AV)} {a : AV} (hf : lenB P n vs c = some f) (h : f.run T E = some a) : pCall P (evF F) o c = some a := by
  unfold lenB at hf
  split at hf
  · rename_i hc
    split at hf
    · rename_i x hx
      split at hf
      · rename_i t ht
        split at hf
        · rename_i hu
          cases hf
          simp only [evB_eq hA, evW_eq hA] at h
          rw [strLen_eq'] at h
          split at h
          · rename_i l hl
            rw [strict_eq, lenN_eq] at h
            unfold pCall; simp only [hc, hx, ht, hl, hu]; exact h
          · cases h
        · rename_i hu
          cases hf
          simp only [evB_eq hA, evW_eq hA] at h
          unfold slLen at h
          split at h
          · rename_i hl
            unfold pCall; simp only [hc, hx, ht, hl, hu]; exact h
          · rename_i hl
            unfold pCall; simp only [hc, hx, ht, hl, hu]; exact h
          · cases h
        · cases hf
      · cases hf
    · cases hf
  · cases hf
noncomputable def offA (k : Nat) (a : Option AV) : Option AV := Option.rec none (fun a => onPtr none (fun b off => strict (Nat.add off k) (fun r => some (.ptr b r))) a) a
theorem offA_eq' (k : Nat) (a : Option AV) : offA k a = (match a with
  | some (.ptr b off) => some (.ptr b (off + k))
  | _ => none) := by
  cases a with
  | none => rfl
  | some a =>
    cases a <;> try rfl
    rename_i b off
    show strict (Nat.add off k) (fun r => some (AV.ptr b r)) = _
    exact strict_eq _ _
noncomputable def fieldOf (P : Program) (s f : Nat) : Option (Field × Nat) := match P.underlying s with
  | some (.struct fields) => (match fields.toList[f]? with
    | some fd => (match tsz P fd.type with
      | some n => some (fd, n)
      | none => none)
    | none => none)
  | _ => none
noncomputable def fadB (P : Program) (n : Nat) (vs : List Nat) (s : Nat) (x : Operand) (f : Nat) : Bx (Fr → List AV → Option AV) := match fieldOf P s f with
  | some (fd, _ + 1) => ⟨fun T E => offA fd.offset ((evB n vs x).run T E)⟩
  | _ => ⟨fun T E => pFieldAddr P (evW n vs T E) s x f⟩
theorem fadB_ok {P : Program} {n : Nat} {vs : List Nat} {T : Fr} {E : List AV} {F : AF} (hA : Ag n vs T E F) {s f : Nat} {x : Operand} {a : AV} (h : (fadB P n vs s x f).run T E = some a) : pFieldAddr P (evF F) s x f = some a := by
  unfold fadB at h
  split at h
  · rename_i fd n hfd
    simp only [evB_eq hA, evW_eq hA] at h
    rw [offA_eq'] at h
    split at h
    · rename_i b off hx
      unfold fieldOf at hfd
      split at hfd
      · rename_i fields hu
        split at hfd
        · rename_i fd' hf
          split at hfd
          · rename_i m hm
            cases hfd
            unfold pFieldAddr
            simp only [hx, hu, hf, hm]; exact h
          · cases hfd
        · cases hfd
      · cases hfd
    · cases h
  · simp only [evW_eq hA] at h; exact h
noncomputable def cutN {α : Type} (l : List α) (off n : Nat) : List α := takeN (dropN l off) n
noncomputable def aggAt (off n : Nat) : Option AV → Option AV
  | some (.agg l) => some (.agg (cutN l off n))
  | _ => none
noncomputable def aggNth (off : Nat) (a : Option AV) : Option AV := Option.rec none (fun a => onAgg none (fun l => nth l off) a) a
theorem aggNth_eq' (off : Nat) (a : Option AV) : aggNth off a = (match a with
  | some (.agg l) => nth l off
  | _ => none) := by
  cases a with
  | none => rfl
  | some a => cases a <;> rfl
noncomputable def fldB (P : Program) (n : Nat) (vs : List Nat) (s : Nat) (x : Operand) (f : Nat) : Bx (Fr → List AV → Option AV) := match fieldOf P s f with
  | some (fd, k) => (match aggT P fd.type with
    | some true => ⟨fun T E => aggAt fd.offset k ((evB n vs x).run T E)⟩
    | some false => ⟨fun T E => aggNth fd.offset ((evB n vs x).run T E)⟩
    | none => ⟨fun T E => pField P (evW n vs T E) s x f⟩)
  | none => ⟨fun T E => pField P (evW n vs T E) s x f⟩
theorem fldB_ok {P : Program} {n : Nat} {vs : List Nat} {T : Fr} {E : List AV} {F : AF} (hA : Ag n vs T E F) {s f : Nat} {x : Operand} {a : AV} (h : (fldB P n vs s x f).run T E = some a) : pField P (evF F) s x f = some a := by
  unfold fldB at h
  split at h
  · rename_i fd k hfd
    unfold fieldOf at hfd
    split at hfd
    · rename_i fields hu
      split at hfd
      · rename_i fd' hf
        split at hfd
        · rename_i m hm
          cases hfd
          split at h
          · rename_i ha
            simp only [evB_eq hA, evW_eq hA] at h
            unfold aggAt at h
            split at h
            · rename_i l hx
              unfold pField
              unfold cutN at h
              rw [takeN_eq, dropN_eq] at h
              simp only [hx, hu, hf, partA, ha, hm]; exact h
            · cases h
          · rename_i ha
            simp only [evB_eq hA, evW_eq hA] at h
            rw [aggNth_eq'] at h
            split at h
            · rename_i l hx
              unfold pField
              rw [nth_eq] at h
              simp only [hx, hu, hf, partA, ha]; exact h
            · cases h
          · simp only [evW_eq hA] at h; exact h
        · cases hfd
      · cases hfd
    · cases hfd
  · simp only [evW_eq hA] at h; exact h
noncomputable def slAt (size : Nat) (a i : Option AV) : Option AV := Option.rec none (fun a => onSl none (fun b off len _ _ => Option.rec none (fun i => onInt none (fun _ i => Int.rec (fun n => Bool.rec (motive := fun _ => Option AV) none (strict (Nat.add off (Nat.mul n size)) (fun r => some (.ptr b r))) (Nat.ble (Nat.succ n) len)) (fun _ => none) i) i) i) a) a
theorem slAt_eq' (size : Nat) (a i : Option AV) : slAt size a i = (match a, i with
  | some (.sl b off len _ _), some (.int _ (.ofNat n)) => bif Nat.ble (Nat.succ n) len then strict (Nat.add off (Nat.mul n size)) (fun r => some (.ptr b r)) else none
  | _, _ => none) := by
  cases a with
  | none => rfl
  | some a =>
    cases a <;> try rfl
    cases i with
    | none => rfl
    | some i =>
      cases i <;> try rfl
      rename_i i
      cases i with
      | negSucc i => rfl
      | ofNat m =>
        rename_i b off len _ _ _
        show Bool.rec (motive := fun _ => Option AV) none _ (Nat.ble (Nat.succ m) len) = bif Nat.ble (Nat.succ m) len then _ else none
        cases Nat.ble (Nat.succ m) len <;> rfl
noncomputable def iadB (P : Program) (n : Nat) (vs : List Nat) (t : Nat) (x i : Operand) : Bx (Fr → List AV → Option AV) := match P.underlying t with
  | some (.slice e) => (match tsz P e with
    | some size => ⟨fun T E => slAt size ((evB n vs x).run T E) ((evB n vs i).run T E)⟩
    | none => ⟨fun T E => pIndexAddr P (evW n vs T E) t x i⟩)
  | _ => ⟨fun T E => pIndexAddr P (evW n vs T E) t x i⟩
theorem iadB_ok {P : Program} {n : Nat} {vs : List Nat} {T : Fr} {E : List AV} {F : AF} (hA : Ag n vs T E F) {t : Nat} {x i : Operand} {a : AV} (h : (iadB P n vs t x i).run T E = some a) : pIndexAddr P (evF F) t x i = some a := by
  unfold iadB at h
  split at h
  · rename_i e hu
    split at h
    · rename_i size hs
      simp only [evB_eq hA, evW_eq hA] at h
      rw [slAt_eq'] at h
      split at h
      · rename_i b off len cap op k n hx hi
        unfold pIndexAddr
        simp only [hx, hi, natOf, hu, hs]
        rw [strict_eq] at h
        exact h
      · cases h
    · simp only [evW_eq hA] at h; exact h
  · simp only [evW_eq hA] at h; exact h
noncomputable def tupAt (off : Nat) (a : Option AV) : Option AV := Option.rec none (fun a => onTup none (fun l => nth l off) a) a
theorem tupAt_eq {n : Nat} {vs : List Nat} {T : Fr} {E : List AV} {F : AF} (hA : Ag n vs T E F) {x : Operand} {i : Nat} : tupAt i ((evB n vs x).run T E) = pExtract (evF F) x i := by
  rw [evB_eq hA]; unfold tupAt pExtract
  cases evF F x with
  | none => rfl
  | some a => cases a <;> first | rfl | exact nth_eq _ _
noncomputable def natO (a : Option AV) : Option Nat := Option.rec none (fun a => onInt none (fun _ i => Int.rec (fun m => some m) (fun _ => none) i) a) a
theorem natO_eq (a : Option AV) : natO a = (match a with | some a => natOf a | none => none) := by
  cases a with
  | none => rfl
  | some a => cases a <;> first | rfl | (rename_i k i; cases i <;> rfl)
noncomputable def obB (n : Nat) (vs : List Nat) (x : Option Operand) : Option (Bx (Fr → List AV → Option AV)) := match x with
  | none => none
  | some x => some (evB n vs x)
noncomputable def loN (x : Option (Bx (Fr → List AV → Option AV))) (T : Fr) (E : List AV) : Option Nat := Option.rec (some 0) (fun f => natO (f.run T E)) x
noncomputable def hiN (d : Nat) (x : Option (Bx (Fr → List AV → Option AV))) (T : Fr) (E : List AV) : Option Nat := Option.rec (some d) (fun f => natO (f.run T E)) x
theorem loN_eq {n : Nat} {vs : List Nat} {T : Fr} {E : List AV} {F : AF} (hA : Ag n vs T E F) (x : Option Operand) : loN (obB n vs x) T E = boundLo (ob (evF F) x) := by
  cases x with
  | none => rfl
  | some x =>
    show natO ((evB n vs x).run T E) = boundLo (some (evF F x))
    rw [evB_eq hA, natO_eq]; cases evF F x <;> rfl
theorem hiN_eq {n : Nat} {vs : List Nat} {T : Fr} {E : List AV} {F : AF} (hA : Ag n vs T E F) (d : Nat) (x : Option Operand) : hiN d (obB n vs x) T E = boundHi d (ob (evF F) x) := by
  cases x with
  | none => rfl
  | some x =>
    show natO ((evB n vs x).run T E) = boundHi d (some (evF F x))
    rw [evB_eq hA, natO_eq]; cases evF F x <;> rfl
noncomputable def cutS (lo hi : Option (Bx (Fr → List AV → Option AV))) (T : Fr) (E : List AV) (a : Option AV) : Option AV :=
  Option.rec none (fun a => onStr none (fun l => Option.rec none (fun i => Option.rec none (fun j => Bool.rec (motive := fun _ => Option AV) none (some (.str (dropN (takeN l j) i))) (and (Nat.ble i j) (Nat.ble j (lenN l)))) (hiN (lenN l) hi T E)) (loN lo T E)) a) a
noncomputable def sliB (P : Program) (n : Nat) (vs : List Nat) (t : Nat) (x : Operand) (lo hi mx : Option Operand) : Bx (Fr → List AV → Option AV) := match mx with
  | none => (match P.underlying t with
    | some .string => (fun a lo hi => ⟨fun T E => cutS lo hi T E (a.run T E)⟩) (evB n vs x) (obB n vs lo) (obB n vs hi)
    | _ => ⟨fun T E => pSlice P (evW n vs T E) t x lo hi none⟩)
  | some m => ⟨fun T E => pSlice P (evW n vs T E) t x lo hi (some m)⟩
theorem sliB_ok {P : Program} {n : Nat} {vs : List Nat} {T : Fr} {E : List AV} {F : AF} (hA : Ag n vs T E F) {t : Nat} {x : Operand} {lo hi mx : Option Operand} {a : AV} (h : (sliB P n vs t x lo hi mx).run T E = some a) : pSlice P (evF F) t x lo hi mx = some a := by
  unfold sliB at h
  split at h
  · split at h
    · rename_i hu
      have h' : cutS (obB n vs lo) (obB n vs hi) T E ((evB n vs x).run T E) = some a := h
      rw [evB_eq hA] at h'
      unfold cutS at h'
      cases hx : evF F x with
      | none => rw [hx] at h'; cases h'
      | some q =>
        rw [hx] at h'
        cases q <;> try cases h'
        rename_i l
        have h2 : Option.rec (motive := fun _ => Option AV) none (fun i => Option.rec none (fun j => Bool.rec (motive := fun _ => Option AV) none (some (.str (dropN (takeN l j) i))) (and (Nat.ble i j) (Nat.ble j (lenN l)))) (hiN (lenN l) (obB n vs hi) T E)) (loN (obB n vs lo) T E) = some a := h'
        rw [loN_eq hA, hiN_eq hA, lenN_eq] at h2
        unfold pSlice
        simp only [hx, sliceA, hu]
        show sliceStr l (ob (evF F) lo) (ob (evF F) hi) = _
        unfold sliceStr
        cases h1 : boundLo (ob (evF F) lo) with
        | none => rw [h1] at h2; cases h2
        | some i =>
          rw [h1] at h2
          cases h3 : boundHi l.length (ob (evF F) hi) with
          | none => rw [h3] at h2; cases h2
          | some j =>
            rw [h3] at h2
            simp only [takeN_eq, dropN_eq] at h2 ⊢
            cases hb : (Nat.ble i j && Nat.ble j l.length) with
            | false => rw [show (and (Nat.ble i j) (Nat.ble j l.length)) = false from hb] at h2; cases h2
            | true => rw [show (and (Nat.ble i j) (Nat.ble j l.length)) = true from hb] at h2; exact h2
    · simp only [evW_eq hA] at h; exact h
  · simp only [evW_eq hA] at h; exact h
noncomputable def loadC (off : Nat) (o : Option AO) : Option AV := Option.rec none (fun o => AO.rec (fun c _ _ _ => nth c off) (fun _ _ => none) (fun _ _ => none) o) o
theorem loadC_eq' (off : Nat) (o : Option AO) : loadC off o = (match o with
  | some (.row c _ _ _) => nth c off
  | _ => none) := by
  cases o with
  | none => rfl
  | some o => cases o <;> rfl
noncomputable def loadR (off n : Nat) : Option AO → Option AV
  | some (.row c _ _ _) => bif Nat.ble (off + n) (lenN c) then some (.agg (cutN c off n)) else none
  | _ => none
noncomputable def load1 (H : AH) (a : Option AV) : Option AV := Option.rec none (fun a => onPtr none (fun b off => loadC off (AH.rec (fun m _ _ => m.get b) H)) a) a
theorem load1_eq' (H : AH) (a : Option AV) : load1 H a = (match a with
  | some (.ptr b off) => loadC off (H.m.get b)
  | _ => none) := by
  cases H
  cases a with
  | none => rfl
  | some a => cases a <;> rfl
noncomputable def loadN (n : Nat) (H : AH) : Option AV → Option AV
  | some (.ptr b off) => loadR off n (H.m.get b)
  | _ => none
noncomputable def lodB (P : Program) (n : Nat) (vs : List Nat) (t : Nat) (x : Operand) : Bx (Fr → List AV → AH → Option AV) := match aggT P t with
  | some true => (match tsz P t with
    | some k => ⟨fun T E H => loadN k H ((evB n vs x).run T E)⟩
    | none => ⟨fun T E H => rLoad P (evW n vs T E) t x H⟩)
  | some false => ⟨fun T E H => load1 H ((evB n vs x).run T E)⟩
  | none => ⟨fun T E H => rLoad P (evW n vs T E) t x H⟩
theorem lodB_ok {P : Program} {n : Nat} {vs : List Nat} {T : Fr} {E : List AV} {F : AF} (hA : Ag n vs T E F) {t : Nat} {x : Operand} {H : AH} {a : AV} (h : (lodB P n vs t x).run T E H = some a) : rLoad P (evF F) t x H = some a := by
  unfold lodB at h
  split at h
  · rename_i ha
    split at h
    · rename_i n hn
      simp only [evB_eq hA, evW_eq hA] at h
      unfold loadN at h
      split at h
      · rename_i b off hx
        unfold rLoad; rw [hx]; simp only [loadA]
        unfold loadR at h
        unfold AH.get
        split at h
        · rename_i c e sz op hb
          rw [hb]; simp only [ha, hn]
          unfold cutN at h
          rw [lenN_eq, takeN_eq, dropN_eq] at h; exact h
        · cases h
      · cases h
    · simp only [evW_eq hA] at h; exact h
  · rename_i ha
    simp only [evB_eq hA, evW_eq hA] at h
    rw [load1_eq'] at h
    split at h
    · rename_i b off hx
      unfold rLoad; rw [hx]; simp only [loadA]
      rw [loadC_eq'] at h
      unfold AH.get
      split at h
      · rename_i c e sz op hb
        rw [hb]; simp only [ha]
        rw [nth_eq] at h; exact h
      · cases h
    · cases h
  · simp only [evW_eq hA] at h; exact h
noncomputable def putC (H : AH) (b off : Nat) (a : AV) : Option AO → Option AH
  | some (.row c e sz op) => AH.rec (fun m nx gd => bif Nat.ble (Nat.succ off) (lenN c) && one a && Nat.ble gd b && Nat.ble (b + 1) 1000000 then some ⟨Tr.set (some (.row (setN a c off) e sz op)) 20 m b, nx, gd⟩ else none) H
  | _ => none
noncomputable def putAt (H : AH) (a : AV) : Option AV → Option AH
  | some (.ptr b off) => putC H b off a (H.m.get b)
  | _ => none
noncomputable def stoB (P : Program) (n : Nat) (vs : List Nat) (t : Nat) (x y : Operand) : Bx (Fr → List AV → AH → Option (AV × AH)) := match tsz P t with
  | some 1 => ⟨fun T E H => Option.rec none (fun a => bif one a then Option.rec none (fun H' => some (.tup [], H')) (putAt H a ((evB n vs x).run T E)) else mStore P (evW n vs T E) t x y H) ((evB n vs y).run T E)⟩
  | _ => ⟨fun T E H => mStore P (evW n vs T E) t x y H⟩
theorem take_set_drop {α : Type} (a : α) : ∀ (c : List α) (off : Nat), off + 1 ≤ c.length → c.take off ++ [a] ++ c.drop (off + 1) = c.set off a
  | [], off, h => by simp at h
  | b :: c, 0, h => by simp
  | b :: c, off + 1, h => by
    simp only [List.take_succ_cons, List.cons_append, List.drop_succ_cons, List.set_cons_succ]
    rw [take_set_drop a c off (by simpa using h)]
theorem one_cells {a : AV} (h : one a = true) : cellsOf a = [a] ∧ aggd a = false := by
  cases a <;> simp [one] at h <;> try exact ⟨rfl, rfl⟩
  rename_i v
  refine ⟨rfl, ?_⟩
  cases v <;> simp [one, aggd] at h ⊢
theorem stoB_ok {P : Program} {n : Nat} {vs : List Nat} {T : Fr} {E : List AV} {F : AF} (hA : Ag n vs T E F) {t : Nat} {x y : Operand} {H : AH} {p : AV × AH} (h : (stoB P n vs t x y).run T E H = some p) : mStore P (evF F) t x y H = some p := by
  unfold stoB at h
  split at h
  · rename_i hs
    simp only [evB_eq hA, evW_eq hA] at h
    cases hy : evF F y with
    | none => rw [hy] at h; cases h
    | some a =>
      rw [hy] at h
      cases ho : one a with
      | false => simp only [ho, cond_false] at h; exact h
      | true =>
        simp only [ho, cond_true] at h
        unfold mStore
        cases hx : evF F x with
        | none => rw [hx] at h; cases h
        | some q =>
          rw [hx] at h
          unfold putAt at h
          split at h
          · rename_i b off hq
            cases hq
            obtain ⟨hc, hg⟩ := one_cells ho
            unfold putC at h
            split at h
            · rename_i c e sz op hb
              obtain ⟨m, nx, gd⟩ := H
              simp only at h hb
              cases hcd : (Nat.ble (Nat.succ off) (lenN c) && one a && Nat.ble gd b && Nat.ble (b + 1) 1000000) with
              | false => rw [hcd] at h; cases h
              | true =>
                rw [hcd] at h
                simp only [Bool.and_eq_true] at hcd
                have hlen : Nat.ble (off + 1) c.length = true := by rw [← lenN_eq]; exact hcd.1.1.1
                simp only [hy, storeA, hs, hc, hg]
                have e1 : (Nat.beq [a].length 1 && !false) = true := rfl
                rw [e1]
                simp only [cond_true, writeA, AH.get, hb]
                have e2 : (Nat.ble (off + [a].length) c.length && ones [a] && AH.mayPut { m := m, nx := nx, gd := gd } b) = true := by
                  simp only [List.length_singleton, hlen, ones, ho, AH.mayPut, hcd.1.2, hcd.2, Bool.and_self]
                rw [e2]
                simp only [cond_true] at h ⊢
                unfold unit
                simp only [AH.put]
                rw [setN_eq] at h
                rw [show off + [a].length = off + 1 from rfl, take_set_drop a c off (Nat.le_of_ble_eq_true hlen)]
                exact h
            · cases h
          · cases h
  · simp only [evW_eq hA] at h; exact h
end Ev
end Go.Proofs.YtaegacblpbbndaaDoor
end
