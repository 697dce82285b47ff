/- The texts Base, Heap, Map, Float, Slices, Shelf, Util, Dep1, Dep2, Dep3, Dep4, Dep5, DepT, Dep6, Ord, Dep7, Dep8, Dep9 of the proof, joined. Each says at its theorems what it proves. -/
import Derived.Test.YthhacfehjgfpbaaDoorProg
import Derived.WalkKit
import Derived.WalkSpells
import Derived.WalkLawsBesides
import Derived.Deep.LoopGhost
import Derived.Deep.Quiet
import Derived.ScopeJumps
import Derived.Lib.Strings
import Derived.Lib.OthersKept
import Derived.Maps.AppendAt
import Derived.Shelf.Strings.Builder1
import Derived.Shelf.Strings.Builder2
import Derived.Shelf.Strings.OnBuilder
import Derived.Shelf.Strings.Trim
import Derived.Shelf.Small.Utf8
import Derived.Shelf.Small.Strs
import Derived.Shelf.Strings.BuilderF
import Derived.Shelf.Strings.BuilderK
import Derived.Shelf.Strings.Search1
import Derived.Shelf.Strings.Search2
import Derived.Shelf.Strings.Search3
import Derived.Shelf.Strings.Cut
import Derived.Shelf.Strings.Count
import Derived.Shelf.LaysM
import Derived.Shelf.Strings.Shaped
import Derived.Shelf.GgClosure.StringsIndexFunc
import Derived.Ground.GgwProg
import Derived.Shelf.GgClosure.StringsIndexFuncTop
import Derived.Shelf.GgClosure.StringsRunes
import Derived.Shelf.Strings.Prefix
import Derived.Shelf.Strings.Split
import Derived.Shelf.Strings.SplitShaped
import Derived.Shelf.Strings.Runes
import Derived.Shelf.Strings.AsciiSet
import Derived.Shelf.Unicode.DecodeSlow
import Derived.Shelf.Unicode.DecodeAny
import Derived.Shelf.Strings.FuncGrows
import Derived.Shelf.Slices.Turned
import Derived.Laws.ResultCell
import Derived.Lib.IndexLaws
import Derived.OrdersHeld
set_option linter.unusedSimpArgs false
set_option linter.unusedVariables false
section
namespace Go.Proofs.YthhacfehjgfpbaaDoor
open Go Go.RowKit
def upd (σ : Nat → Value) (d : Nat) (v : Value) : Nat → Value := fun i => bif Nat.beq i d then v else σ i
def updo (σ : Nat → Value) (d : Option Nat) (v : Value) : Nat → Value := match d with | some d => upd σ d v | none => σ
def mk (n : Nat) (σ : Nat → Value) : Act := { tmps := Array.ofFn (n := n) (fun i => σ i.1), defers := [] }
def sl (n : Nat) (σ : Nat → Value) (t : Nat) : Value := bif Nat.blt t n then σ t else undef
def ev (n : Nat) (σ : Nat → Value) : Operand → Value
  | .tmp t => sl n σ t
  | .const v => v
  | .global g => .pointer (some ⟨g, 0, none⟩)
  | .func f => .func (.func f) #[] #[]
def argσ (l : List Value) : Nat → Value := fun i => l.getD i undef
theorem mk_getD (n : Nat) (σ : Nat → Value) (t : Nat) : (mk n σ).tmps.getD t undef = sl n σ t := by
  simp only [mk, sl, Array.getD_eq_getD_getElem?, Array.getElem?_ofFn]
  by_cases h : t < n
  · have : Nat.blt t n = true := by simpa [Nat.blt_eq] using h
    simp [h, this]
  · have : Nat.blt t n = false := by rw [Bool.eq_false_iff]; intro h'; exact h (by simpa [Nat.blt_eq] using h')
    simp [h, this]
theorem mk_eval (n : Nat) (σ : Nat → Value) : (mk n σ).eval = ev n σ := by
  funext x
  cases x with
  | tmp t => exact mk_getD n σ t
  | const v => rfl
  | global g => rfl
  | func f => rfl
theorem mk_put (n : Nat) (σ : Nat → Value) (d : Option Nat) (v : Value) : (mk n σ).put d v = mk n (updo σ d v) := by
  cases d with
  | none => rfl
  | some d =>
    simp only [mk, Act.put, updo]
    congr 1
    apply Array.ext
    · simp
    · intro i h1 h2
      simp only [Array.getElem_ofFn, upd]
      rw [Array.getElem_setIfInBounds (by simpa using h1)]
      by_cases h : d = i
      · subst h; simp
      · have : Nat.beq i d = false := by rw [Bool.eq_false_iff]; intro h'; exact h (Nat.eq_of_beq_eq_true h').symm
        simp [h, this]
theorem upd_same (σ : Nat → Value) (d : Nat) (v : Value) : upd σ d v d = v := by simp [upd]
theorem upd_other (σ : Nat → Value) (d i : Nat) (v : Value) (h : i ≠ d) : upd σ d v i = σ i := by
  have : Nat.beq i d = false := by rw [Bool.eq_false_iff]; intro h'; exact h (Nat.eq_of_beq_eq_true h')
  simp [upd, this]
theorem upd_id {σ : Nat → Value} {d : Nat} {v : Value} (h : σ d = v) : σ = upd σ d v := by
  funext i
  by_cases hi : i = d
  · rw [hi, upd_same, h]
  · rw [upd_other _ _ _ _ hi]
def gdst : List Oper → Nat → Option Nat
  | [], _ => none
  | o :: _, 0 => o.dst
  | _ :: r, j + 1 => gdst r j
theorem gdst_eq (l : List Oper) (j : Nat) : gdst l j = (l[j]?).bind (·.dst) := by
  induction l generalizing j with
  | nil => simp [gdst]
  | cons o r ih => cases j with
    | zero => simp [gdst]
    | succ j => simp [gdst, ih]
def isB (want : Bool) : Value → Bool
  | .bool b => bif want then b else !b
  | _ => false
def gOk (ops : Array Oper) (n : Nat) (σ : Nat → Value) (g : Option (Nat × Bool)) : Bool :=
  match g with
  | none => true
  | some (j, want) => match gdst ops.toList j with
    | some t => isB want (sl n σ t)
    | none => false
theorem wanted_mk (ops : Array Oper) (n : Nat) (σ : Nat → Value) (o : Oper) : Region.wanted o (yielded ops (mk n σ).tmps) = gOk ops n σ o.guard := by
  unfold Region.wanted gOk
  cases o.guard with
  | none => rfl
  | some g =>
    obtain ⟨j, want⟩ := g
    simp only [yielded, gdst_eq, Array.getElem?_toList]
    cases (ops[j]?).bind (·.dst) with
    | none => simp
    | some t =>
      have h := mk_getD n σ t
      simp only [Option.bind_some]
      rw [Array.getD_eq_getD_getElem?] at h
      cases hx : (mk n σ).tmps[t]? with
      | none => rw [hx] at h; simp only [Option.getD_none] at h; rw [← h]; simp [isB, undef]
      | some v => rw [hx] at h; simp only [Option.getD_some] at h; rw [← h]; cases v <;> simp [isB] <;> cases want <;> simp
def lift (n : Nat) (Q : Exit → (Nat → Value) → World → Prop) : Exit → Act → World → Prop := fun e a w => ∃ σ, a = mk n σ ∧ Q e σ w
def W (P : Program) (n : Nat) (c : Code) (Q : Exit → (Nat → Value) → World → Prop) (σ : Nat → Value) (w : World) : Prop := c.wp P (lift n Q) (mk n σ) w
def seqQ (K : (Nat → Value) → World → Prop) (Q : Exit → (Nat → Value) → World → Prop) : Exit → (Nat → Value) → World → Prop
  | .normal, σ, w => K σ w
  | e, σ, w => Q e σ w
def blockQ (id : Nat) (Q : Exit → (Nat → Value) → World → Prop) : Exit → (Nat → Value) → World → Prop
  | .exit i, σ, w => bif Nat.beq i id then Q .normal σ w else Q (.exit i) σ w
  | e, σ, w => Q e σ w
def WO (P : Program) (n : Nat) (ops : Array Oper) (l : List Oper) (Q : Exit → (Nat → Value) → World → Prop) (σ : Nat → Value) (w : World) : Prop :=
  wpList P ops (lift n Q) l (mk n σ) w
section
variable {P : Program} {n : Nat} {Q : Exit → (Nat → Value) → World → Prop} {σ : Nat → Value} {w : World}
theorem W_mono {c : Code} {Q' : Exit → (Nat → Value) → World → Prop} (h : W P n c Q σ w) (hq : ∀ e σ w, Q e σ w → Q' e σ w) : W P n c Q' σ w :=
  wp_mono h fun _ _ _ ⟨σ', ha, q⟩ => ⟨σ', ha, hq _ _ _ q⟩
theorem W_seq {x y : Code} (h : W P n x (seqQ (W P n y Q) Q) σ w) : W P n (.seq x y) Q σ w := by
  refine wp_seq (wp_mono h ?_)
  rintro e a w ⟨σ', rfl, q⟩
  cases e <;> first | exact q | exact ⟨σ', rfl, q⟩
theorem W_cut {x y : Code} (J : (Nat → Value) → World → Prop) (h : W P n x (seqQ J Q) σ w) (r : ∀ σ w, J σ w → W P n y Q σ w) : W P n (.seq x y) Q σ w := by
  refine W_seq (W_mono h ?_)
  intro e σ w q
  cases e <;> first | exact q | exact r _ _ q
theorem W_skip (h : Q .normal σ w) : W P n .skip Q σ w := wp_skip ⟨σ, rfl, h⟩
theorem W_ret (h : Q .ret σ w) : W P n .ret Q σ w := wp_ret ⟨σ, rfl, h⟩
theorem W_exit {id : Nat} (h : Q (.exit id) σ w) : W P n (.exit id) Q σ w := wp_exit ⟨σ, rfl, h⟩
theorem W_label {l : Nat} (h : Q .normal σ w) : W P n (.label l) Q σ w := wp_label ⟨σ, rfl, h⟩
theorem W_goto {l : Nat} (h : Q (.goto l) σ w) : W P n (.goto l) Q σ w := wp_goto ⟨σ, rfl, h⟩
theorem W_block {id : Nat} {c : Code} (h : W P n c (blockQ id Q) σ w) : W P n (.block id c) Q σ w := by
  refine wp_block (wp_mono h ?_)
  rintro e a w ⟨σ', rfl, q⟩
  cases e with
  | exit i =>
    simp only [Exit.inBlock]
    simp only [blockQ] at q
    by_cases hi : i = id
    · subst hi
      have : Nat.beq i i = true := Nat.beq_refl i
      rw [this] at q
      rw [if_pos rfl]; exact ⟨σ', rfl, q⟩
    · have : Nat.beq i id = false := by rw [Bool.eq_false_iff]; intro h'; exact hi (Nat.eq_of_beq_eq_true h')
      rw [this] at q
      rw [if_neg hi]; exact ⟨σ', rfl, q⟩
  | _ => exact ⟨σ', rfl, q⟩
theorem W_true {c : Operand} {x y : Code} (hc : ev n σ c = .bool true) (h : W P n x Q σ w) : W P n (.cond c x y) Q σ w :=
  wp_cond_true (by rw [mk_eval]; exact hc) h
theorem W_false {c : Operand} {x y : Code} (hc : ev n σ c = .bool false) (h : W P n y Q σ w) : W P n (.cond c x y) Q σ w :=
  wp_cond_false (by rw [mk_eval]; exact hc) h
theorem W_cond {c : Operand} {x y : Code} {t : Bool} (hc : ev n σ c = .bool t) (ht : t = true → W P n x Q σ w) (hf : t = false → W P n y Q σ w) :
    W P n (.cond c x y) Q σ w :=
  wp_cond_split (by rw [mk_eval]; exact hc) ht hf
theorem W_if {c : Operand} {x y : Code} {p : Prop} [Decidable p] (hc : ev n σ c = .bool (decide p)) (ht : p → W P n x Q σ w) (hf : ¬ p → W P n y Q σ w) :
    W P n (.cond c x y) Q σ w :=
  W_cond hc (fun h => ht (of_decide_eq_true h)) (fun h => hf (of_decide_eq_false h))
theorem W_loop {c : Code} (I : Nat → (Nat → Value) → World → Prop) (h0 : ∃ g, I g σ w)
    (round : ∀ g σ w, I g σ w → W P n c (seqQ (fun σ w => ∃ g', g' < g ∧ I g' σ w) Q) σ w) : W P n (.loop c) Q σ w := by
  obtain ⟨g, h0⟩ := h0
  refine wp_loop_ghost (fun g a w => ∃ σ, a = mk n σ ∧ I g σ w) g ⟨σ, rfl, h0⟩ ?_
  rintro g a w ⟨σ, rfl, hI⟩
  refine wp_mono (round g σ w hI) ?_
  rintro e a w ⟨σ', rfl, q⟩
  cases e with
  | normal => obtain ⟨g', hg, hI⟩ := q; exact ⟨g', hg, σ', rfl, hI⟩
  | _ => exact ⟨σ', rfl, q⟩
def jumpQ (l : Nat) (J : (Nat → Value) → World → Prop) (Q : Exit → (Nat → Value) → World → Prop) : Exit → (Nat → Value) → World → Prop
  | .goto l', σ, w => l' = l ∧ J σ w
  | e, σ, w => Q e σ w
def noGotoQ (Q : Exit → (Nat → Value) → World → Prop) : Exit → (Nat → Value) → World → Prop
  | .goto _, _, _ => False
  | e, σ, w => Q e σ w
theorem W_reg {id : Nat} {l : List Oper} (h : WO P n l.toArray l Q σ w) : W P n (.region id l.toArray false) Q σ w := wp_region_lit h
theorem WO_nil {ops : Array Oper} (h : Q .normal σ w) : WO P n ops [] Q σ w := ⟨σ, rfl, h⟩
theorem WO_val {ops : Array Oper} {o : Oper} {rest : List Oper} {v : Value} {w' : World} (hg : gOk ops n σ o.guard = true)
    (h : (execOp (ev n σ) o).run P w = .ok (.value v) w') (next : WO P n ops rest Q (updo σ o.dst v) w') : WO P n ops (o :: rest) Q σ w := by
  unfold WO wpList
  rw [wanted_mk, hg, if_pos rfl]
  left
  unfold Oper.wp
  rw [mk_eval, h, Oper.upon_value, mk_put]
  exact next
theorem WO_same {ops : Array Oper} {o : Oper} {rest : List Oper} {v : Value} (hg : gOk ops n σ o.guard = true)
    (h : (execOp (ev n σ) o).run P w = .ok (.value v) w) (next : WO P n ops rest Q (updo σ o.dst v) w) : WO P n ops (o :: rest) Q σ w := WO_val hg h next
theorem WO_unit {ops : Array Oper} {o : Oper} {rest : List Oper} {w' : World} (hg : gOk ops n σ o.guard = true)
    (h : (execOp (ev n σ) o).run P w = .ok .skip w') (next : WO P n ops rest Q (updo σ o.dst undef) w') : WO P n ops (o :: rest) Q σ w := by
  unfold WO wpList
  rw [wanted_mk, hg, if_pos rfl]
  left
  unfold Oper.wp
  rw [mk_eval, h, Oper.upon_skip, mk_put]
  exact next
theorem WO_pass {ops : Array Oper} {o : Oper} {rest : List Oper} (hg : gOk ops n σ o.guard = false)
    (next : WO P n ops rest Q (updo σ o.dst undef) w) : WO P n ops (o :: rest) Q σ w := by
  unfold WO wpList
  rw [wanted_mk, hg, if_neg (by simp)]
  rw [mk_put]
  exact next
theorem WO_panic {ops : Array Oper} {o : Oper} {rest : List Oper} {v : Value} {w' : World} (hg : gOk ops n σ o.guard = true)
    (h : (execOp (ev n σ) o).run P w = .halt (.panic v) w') (next : Q (.panic [{ v, recovered := false }]) σ w') : WO P n ops (o :: rest) Q σ w := by
  unfold WO wpList
  rw [wanted_mk, hg, if_pos rfl]
  left
  unfold Oper.wp
  rw [mk_eval, h, Oper.upon_panic]
  exact ⟨σ, rfl, next⟩
theorem WO_enter {ops : Array Oper} {o : Oper} {rest : List Oper} {f : FuncId} {args : Array Value} {w' : World} {R : Ending → World → Prop} (hg : gOk ops n σ o.guard = true)
    (h : (execOp (ev n σ) o).run P w = .ok (.enter f args) w') (hc : Calls P f args w' R)
    (next : ∀ v w'', R (.returned v) w'' → WO P n ops rest Q (updo σ o.dst v) w'')
    (nop : ∀ ch w'', R (.panicked ch) w'' → Q (.panic ch) σ w'')
    (noo : ∀ w'', ¬ R .outgrown w'') : WO P n ops (o :: rest) Q σ w := by
  unfold WO wpList
  rw [wanted_mk, hg, if_pos rfl]
  left
  unfold Oper.wp
  rw [mk_eval, h, Oper.upon_enter]
  refine hc.mono ?_
  intro e w'' hR
  cases e with
  | returned v => show wpList _ _ _ _ _ _; rw [mk_put]; exact next v w'' hR
  | panicked ch => exact ⟨σ, rfl, nop ch w'' hR⟩
  | outgrown => exact (noo w'' hR).elim
theorem WO_split {ops : Array Oper} {l : List Oper} (t : Nat) {b : Bool} (h : σ t = .bool b) (ht : b = true → WO P n ops l Q (upd σ t (.bool true)) w)
    (hf : b = false → WO P n ops l Q (upd σ t (.bool false)) w) : WO P n ops l Q σ w := by
  rw [upd_id h]
  cases b
  · exact hf rfl
  · exact ht rfl
theorem WO_splitp {ops : Array Oper} {l : List Oper} (t : Nat) {p : Prop} [Decidable p] (h : σ t = .bool (decide p)) (ht : p → WO P n ops l Q (upd σ t (.bool true)) w)
    (hf : ¬ p → WO P n ops l Q (upd σ t (.bool false)) w) : WO P n ops l Q σ w :=
  WO_split t h (fun h => ht (of_decide_eq_true h)) (fun h => hf (of_decide_eq_false h))
theorem WO_eq {ops : Array Oper} {l : List Oper} (t : Nat) {v v' : Value} (h : σ t = v) (e : v = v') (k : WO P n ops l Q (upd σ t v') w) : WO P n ops l Q σ w := by
  rw [upd_id (h.trans e)]; exact k
end
abbrev S (l : List UInt8) : Value := .string ⟨l.toArray⟩
def pureBin (op : BinOp) (x y : Value) : Option Value :=
  match x, y with
  | .int k a, .int k' b => if k = k' then (match op with
      | .eql => some (.bool (decide (a = b)))
      | .neq => some (.bool (!decide (a = b)))
      | .lss => some (.bool (decide (a < b)))
      | .leq => some (.bool (decide (a ≤ b)))
      | .gtr => some (.bool (decide (b < a)))
      | .geq => some (.bool (decide (b ≤ a)))
      | .add => some (.int k (k.wrap (a + b)))
      | .sub => some (.int k (k.wrap (a - b)))
      | .mul => some (.int k (k.wrap (a * b)))
      | _ => none) else none
  | _, _ => none
def pureOp (n : Nat) (σ : Nat → Value) : Op → Option Value
  | .move x => some (ev n σ x)
  | .assign x => some (ev n σ x)
  | .pick c a b => match ev n σ c with
    | .bool t => some (bif t then ev n σ a else ev n σ b)
    | _ => none
  | .binOp op _ x y _ => pureBin op (ev n σ x) (ev n σ y)
  | .unOp .not _ x => match ev n σ x with
    | .bool b => some (.bool (!b))
    | _ => none
  | .unOp .neg _ x => match ev n σ x with
    | .int k a => some (.int k (k.wrap (0 - a)))
    | _ => none
  | .extract x i => match ev n σ x with
    | .tuple vs => vs[i]?
    | _ => none
  | .nilCheck x => match ev n σ x with
    | .pointer (some a) => some (.pointer (some a))
    | _ => none
  | _ => none
theorem pure_run {P : Program} {n : Nat} {σ : Nat → Value} {w : World} {o : Oper} {v : Value} (h : pureOp n σ o.op = some v) : (execOp (ev n σ) o).run P w = .ok (.value v) w := by
  obtain ⟨dst, op, type, pos, after, guard⟩ := o
  cases op <;> simp only [pureOp, reduceCtorEq] at h
  case move x => simp only [Option.some.injEq] at h; subst h; rfl
  case assign x => simp only [Option.some.injEq] at h; subst h; rfl
  case pick c a b =>
    cases hc : ev n σ c <;> rw [hc] at h <;> simp only [reduceCtorEq, Option.some.injEq] at h
    rename_i t
    subst h
    cases t <;> simp [execOp, hc, go_sem]
  case binOp op xt x y yt =>
    cases hx : ev n σ x <;> cases hy : ev n σ y <;> rw [hx, hy] at h <;> simp only [pureBin, reduceCtorEq] at h
    rename_i k a k' b
    split at h
    · rename_i hk; subst hk
      cases op <;> simp only [reduceCtorEq, Option.some.injEq] at h <;> subst h <;> simp [execOp, hx, hy, eqGuard, binOp, go_sem] <;> first | rfl | (rw [Bool.eq_iff_iff]; simp)
    · simp at h
  case unOp op xt x =>
    cases op <;> cases hx : ev n σ x <;> simp only [hx, reduceCtorEq, Option.some.injEq] at h <;> subst h <;> simp [execOp, hx, go_sem]
  case extract x i =>
    cases hx : ev n σ x <;> simp only [hx, reduceCtorEq] at h
    simp [execOp, hx, Instr.extract, h, go_sem]
  case nilCheck x =>
    cases hx : ev n σ x <;> simp only [hx, reduceCtorEq] at h
    rename_i a
    cases a <;> simp only [reduceCtorEq, Option.some.injEq] at h
    subst h
    simp [execOp, hx, go_sem]
section
variable {P : Program} {n : Nat} {Q : Exit → (Nat → Value) → World → Prop} {σ : Nat → Value} {w : World}
theorem WO_pure {ops : Array Oper} {o : Oper} {rest : List Oper} {v : Value} (hg : gOk ops n σ o.guard = true) (h : pureOp n σ o.op = some v)
    (next : WO P n ops rest Q (updo σ o.dst v) w) : WO P n ops (o :: rest) Q σ w := WO_val hg (pure_run h) next
end
section
variable {P : Program} {n : Nat} {Q : Exit → (Nat → Value) → World → Prop} {σ : Nat → Value} {w : World}
theorem W_anchor {c : Code} {d : Nat} {v : Value} (h : σ d = v) (k : W P n c Q (upd σ d v) w) : W P n c Q σ w := by
  rw [upd_id h]; exact k
def Ret (T : Value → World → Prop) (e : Ending) (w : World) : Prop := ∃ v, e = .returned v ∧ T v w
theorem Ret.intro {T : Value → World → Prop} {v : Value} {w : World} (h : T v w) : Ret T (.returned v) w := ⟨v, rfl, h⟩
theorem Ret.mono {T T' : Value → World → Prop} {e : Ending} {w : World} (h : Ret T e w) (f : ∀ v w, T v w → T' v w) : Ret T' e w := by
  obtain ⟨v, he, hv⟩ := h; exact ⟨v, he, f _ _ hv⟩
def bodyQ (P : Program) (n : Nat) (fn : Func) (R : Ending → World → Prop) : Exit → (Nat → Value) → World → Prop
  | .normal, σ, w | .ret, σ, w => ∃ v, (results fn (mk n σ).tmps).run P w = .ok v w ∧ R (.returned v) w
  | .panic ch, _, w => R (.panicked ch) w
  | .outgrown, _, w => R .outgrown w
  | _, _, _ => False
theorem calls_W {f : FuncId} {fn : Func} {c : Code} {args : List Value} {R : Ending → World → Prop} (hf : P.funcs[f]? = some fn) (hb : fn.body = some c) (hn : fn.ntmps = n)
    (h : W P n c (bodyQ P n fn R) (argσ args) w) (hl : Nat.ble args.length n = true := by rfl) : Calls P f args.toArray w R := by
  have ha : args.length ≤ n := Nat.le_of_ble_eq_true hl
  refine calls_of_wp hf hb ?_
  have e : ({ tmps := args.toArray ++ Array.replicate (fn.ntmps - args.toArray.size) undef, defers := [] } : Act) = mk n (argσ args) := by
    unfold mk
    congr 1
    apply Array.ext
    · simp; omega
    · intro i h1 h2
      simp only [Array.getElem_ofFn, argσ]
      rw [Array.getElem_append]
      by_cases hi : i < args.length
      · simp [hi, List.getD_eq_getElem?_getD]
      · simp [hi, List.getD_eq_getElem?_getD]
  rw [e]
  refine wp_mono h ?_
  rintro e a w ⟨σ', rfl, q⟩
  cases e with
  | normal => exact ⟨rfl, q⟩
  | ret => exact ⟨rfl, q⟩
  | panic ch => exact ⟨rfl, q⟩
  | outgrown => exact q
  | exit id => exact q.elim
  | goto l => exact q.elim
theorem body_ret1 {fn : Func} {T : Value → World → Prop} {t : Nat} {v0 : Value} (hr : fn.results = #[.tmp t]) (h0 : sl n σ t = v0) (h : T v0 w) :
    bodyQ P n fn (Ret T) .ret σ w := by
  refine ⟨v0, ?_, ⟨v0, rfl, h⟩⟩
  rw [results_tmp hr, mk_getD, h0]
theorem body_ret2 {fn : Func} {T : Value → World → Prop} {t u : Nat} {v0 v1 : Value} (hr : fn.results = #[.tmp t, .tmp u]) (h0 : sl n σ t = v0) (h1 : sl n σ u = v1)
    (h : T (.tuple #[v0, v1]) w) : bodyQ P n fn (Ret T) .ret σ w := by
  refine ⟨_, ?_, ⟨_, rfl, h⟩⟩
  rw [results_tmp2 hr, mk_getD, mk_getD, h0, h1]
theorem body_ret3 {fn : Func} {T : Value → World → Prop} {t u s : Nat} {v0 v1 v2 : Value} (hr : fn.results = #[.tmp t, .tmp u, .tmp s]) (h0 : sl n σ t = v0) (h1 : sl n σ u = v1) (h2 : sl n σ s = v2)
    (h : T (.tuple #[v0, v1, v2]) w) : bodyQ P n fn (Ret T) .ret σ w := by
  refine ⟨_, ?_, ⟨_, rfl, h⟩⟩
  have e0 := mk_getD n σ t; have e1 := mk_getD n σ u; have e2 := mk_getD n σ s
  rw [Array.getD_eq_getD_getElem?] at e0 e1 e2
  simp only [results, hr]
  simp [e0, e1, e2, h0, h1, h2]
theorem body_ret0 {fn : Func} {T : Value → World → Prop} {e : Exit} (he : e = .normal ∨ e = .ret) (hr : fn.results = #[]) (h : T (.tuple #[]) w) : bodyQ P n fn (Ret T) e σ w := by
  rcases he with rfl | rfl <;> exact ⟨_, results_none hr _ _ _, ⟨_, rfl, h⟩⟩
def Enters (P : Program) (f : FuncId) : Prop := ∀ args w, (callFunc f args).run P w = .ok (.enter f args) w
theorem enters_of {P : Program} {f : FuncId} {fn : Func} {c : Code} (hf : P.funcs[f]? = some fn) (hname : (fn.name == "runtime.NumGoroutine") = false) (hb : fn.body = some c) : Enters P f := by
  intro args w
  have h1 : fn.name ≠ "runtime.NumGoroutine" := by simpa using hname
  simp [callFunc, hf, h1, hb, mark, go_sem]
theorem ret_of {P : Program} {f : FuncId} {args : Array Value} {w : World} {v : Value} (h : Calls P f args w fun e w' => e = .returned v ∧ w' = w) : Calls P f args w (Ret fun v' w' => v' = v ∧ w = w') :=
  h.mono fun _ _ ⟨he, hw⟩ => ⟨v, he, rfl, hw.symm⟩
theorem WO_call {ops : Array Oper} {rest : List Oper} {f : FuncId} {ar : Array Operand} {ts : Array TypeId} {ty : TypeId} {ps : String} {dst : Option Tmp} {af : Array Edge} {g : Option (Nat × Bool)} {T : Value → World → Prop}
    (hg : gOk ops n σ g = true) (he : Enters P f) (hc : Calls P f (ar.toList.map (ev n σ)).toArray w (Ret T))
    (next : ∀ v w', T v w' → WO P n ops rest Q (updo σ dst v) w') :
    WO P n ops (⟨dst, .call { callee := .value (.func f), args := ar, argTypes := ts }, ty, ps, af, g⟩ :: rest) Q σ w := by
  refine WO_enter (R := Ret T) (w' := w) (f := f) (args := (ar.toList.map (ev n σ)).toArray) hg ?_ hc ?_ ?_ ?_
  · have : ar.map (ev n σ) = (ar.toList.map (ev n σ)).toArray := by
      apply Array.ext'; simp
    simp only [execOp, resolve, ev, this]
    have := he (List.map (ev n σ) ar.toList).toArray w
    simp [Deferred.ofValue, invoke, go_sem, this]
  · rintro v w'' ⟨v', hv, hT⟩; cases hv; exact next v w'' hT
  · rintro ch w'' ⟨v', hv, hT⟩; cases hv
  · rintro w'' ⟨v', hv, hT⟩; cases hv
theorem WO_callv {ops : Array Oper} {rest : List Oper} {x : Operand} {f : FuncId} {cap : Array Value} {ar : Array Operand} {ts : Array TypeId} {ty : TypeId} {ps : String} {dst : Option Tmp} {af : Array Edge} {g : Option (Nat × Bool)} {T : Value → World → Prop}
    (hg : gOk ops n σ g = true) (hx : ev n σ x = .func (.func f) #[] cap) (he : Enters P f) (hc : Calls P f (ar.toList.map (ev n σ) ++ cap.toList).toArray w (Ret T))
    (next : ∀ v w', T v w' → WO P n ops rest Q (updo σ dst v) w') :
    WO P n ops (⟨dst, .call { callee := .value x, args := ar, argTypes := ts }, ty, ps, af, g⟩ :: rest) Q σ w := by
  refine WO_enter (R := Ret T) (w' := w) (f := f) (args := (ar.toList.map (ev n σ) ++ cap.toList).toArray) hg ?_ hc ?_ ?_ ?_
  · have h1 : ar.map (ev n σ) = (ar.toList.map (ev n σ)).toArray := by
      apply Array.ext'; simp
    have h2 : (ar.toList.map (ev n σ) ++ cap.toList).toArray = (ar.toList.map (ev n σ)).toArray ++ cap := by
      apply Array.ext'; simp
    have := he ((List.map (ev n σ) ar.toList).toArray ++ cap) w
    simp only [execOp, resolve, hx, h1, h2]
    simp [Deferred.ofValue, invoke, go_sem, this]
  · rintro v w'' ⟨v', hv, hT⟩; cases hv; exact next v w'' hT
  · rintro ch w'' ⟨v', hv, hT⟩; cases hv
  · rintro w'' ⟨v', hv, hT⟩; cases hv
def kLo : IntKind → Int
  | .i8 => -128 | .i16 => -32768 | .i32 => -2147483648 | .i64 => -9223372036854775808
  | .u8 | .u16 | .u32 | .u64 => 0
def kHi : IntKind → Int
  | .i8 => 127 | .i16 => 32767 | .i32 => 2147483647 | .i64 => 9223372036854775807
  | .u8 => 255 | .u16 => 65535 | .u32 => 4294967295 | .u64 => 18446744073709551615
theorem wrap_id (k : IntKind) (a : Int) (h : kLo k ≤ a ∧ a ≤ kHi k) : k.wrap a = a := by
  obtain ⟨h1, h2⟩ := h
  cases k <;> simp only [kLo, kHi] at h1 h2 <;> simp [IntKind.wrap, IntKind.signed, IntKind.bits] <;> omega
theorem R_add {dst : Option Tmp} {x y : Operand} {t t' ty : TypeId} {ps : String} {af : Array Edge} {g : Option (Nat × Bool)} {k : IntKind} {a b v : Int}
    (hx : ev n σ x = .int k a) (hy : ev n σ y = .int k b) (hr : kLo k ≤ a + b ∧ a + b ≤ kHi k) (hv : a + b = v := by rfl) : (execOp (ev n σ) ⟨dst, .binOp .add t x y t', ty, ps, af, g⟩).run P w = .ok (.value (.int k v)) w :=
  pure_run (by subst hv; simp [pureOp, hx, hy, pureBin, wrap_id k _ hr])
theorem WO_add {ops : Array Oper} {rest : List Oper} {dst : Option Tmp} {x y : Operand} {t t' ty : TypeId} {ps : String} {af : Array Edge} {g : Option (Nat × Bool)} {k : IntKind} {a b v : Int}
    (hg : gOk ops n σ g = true) (hx : ev n σ x = .int k a) (hy : ev n σ y = .int k b) (hr : kLo k ≤ a + b ∧ a + b ≤ kHi k)
    (next : WO P n ops rest Q (updo σ dst (.int k v)) w) (hv : a + b = v := by rfl) : WO P n ops (⟨dst, .binOp .add t x y t', ty, ps, af, g⟩ :: rest) Q σ w :=
  WO_val hg (R_add hx hy hr hv) next
theorem R_sub {dst : Option Tmp} {x y : Operand} {t t' ty : TypeId} {ps : String} {af : Array Edge} {g : Option (Nat × Bool)} {k : IntKind} {a b v : Int}
    (hx : ev n σ x = .int k a) (hy : ev n σ y = .int k b) (hr : kLo k ≤ a - b ∧ a - b ≤ kHi k) (hv : a - b = v := by rfl) : (execOp (ev n σ) ⟨dst, .binOp .sub t x y t', ty, ps, af, g⟩).run P w = .ok (.value (.int k v)) w :=
  pure_run (by subst hv; simp [pureOp, hx, hy, pureBin, wrap_id k _ hr])
theorem WO_sub {ops : Array Oper} {rest : List Oper} {dst : Option Tmp} {x y : Operand} {t t' ty : TypeId} {ps : String} {af : Array Edge} {g : Option (Nat × Bool)} {k : IntKind} {a b v : Int}
    (hg : gOk ops n σ g = true) (hx : ev n σ x = .int k a) (hy : ev n σ y = .int k b) (hr : kLo k ≤ a - b ∧ a - b ≤ kHi k)
    (next : WO P n ops rest Q (updo σ dst (.int k v)) w) (hv : a - b = v := by rfl) : WO P n ops (⟨dst, .binOp .sub t x y t', ty, ps, af, g⟩ :: rest) Q σ w :=
  WO_val hg (R_sub hx hy hr hv) next
theorem R_neg {dst : Option Tmp} {x : Operand} {t ty : TypeId} {ps : String} {af : Array Edge} {g : Option (Nat × Bool)} {k : IntKind} {a v : Int}
    (hx : ev n σ x = .int k a) (hr : kLo k ≤ 0 - a ∧ 0 - a ≤ kHi k) (hv : 0 - a = v := by omega) : (execOp (ev n σ) ⟨dst, .unOp .neg t x, ty, ps, af, g⟩).run P w = .ok (.value (.int k v)) w :=
  pure_run (by subst hv; simp only [pureOp, hx, wrap_id k _ hr])
theorem R_mul {dst : Option Tmp} {x y : Operand} {t t' ty : TypeId} {ps : String} {af : Array Edge} {g : Option (Nat × Bool)} {k : IntKind} {a b v : Int}
    (hx : ev n σ x = .int k a) (hy : ev n σ y = .int k b) (hr : kLo k ≤ a * b ∧ a * b ≤ kHi k) (hv : a * b = v := by rfl) : (execOp (ev n σ) ⟨dst, .binOp .mul t x y t', ty, ps, af, g⟩).run P w = .ok (.value (.int k v)) w :=
  pure_run (by subst hv; simp [pureOp, hx, hy, pureBin, wrap_id k _ hr])
theorem R_conv {dst : Option Tmp} {x : Operand} {t t' ty : TypeId} {ps : String} {af : Array Edge} {g : Option (Nat × Bool)} {k k' : IntKind} {a v : Int}
    (hx : ev n σ x = .int k a) (h1 : P.underlying t = some (.int k)) (h2 : P.underlying t' = some (.int k')) (hr : kLo k' ≤ a ∧ a ≤ kHi k')
    (hv : a = v := by rfl) :
    (execOp (ev n σ) ⟨dst, .convert t t' x, ty, ps, af, g⟩).run P w = .ok (.value ((.int k' v))) w := by
  subst hv
  simp [execOp, hx, convert, run_underlying h1, run_underlying h2, Conv.intToInt, wrap_id k' _ hr, go_sem]
theorem run_equalIn_bool {P : Program} {t : TypeId} (w : World) (d : Nat) (a b : Bool) (ht : P.underlying t = some .bool) : (Op.equalIn (d + 1) t (.bool a) (.bool b)).run P w = .ok (a == b) w := by
  simp [Op.equalIn, run_underlying ht]
theorem run_beql {P : Program} {t : TypeId} (w : World) (a b : Bool) (ht : P.underlying t = some .bool) : (binOp .eql t (.bool a) (.bool b)).run P w = .ok (.bool (a == b)) w := by
  simp only [binOp]
  simp [Op.equal, Op.maxDepth, run_equalIn_bool w 9999 a b ht]
theorem run_bneq {P : Program} {t : TypeId} (w : World) (a b : Bool) (ht : P.underlying t = some .bool) : (binOp .neq t (.bool a) (.bool b)).run P w = .ok (.bool (!(a == b))) w := by
  simp only [binOp]
  simp [Op.equal, Op.maxDepth, run_equalIn_bool w 9999 a b ht]
theorem R_beql {dst : Option Tmp} {x y : Operand} {t t' ty : TypeId} {ps : String} {af : Array Edge} {g : Option (Nat × Bool)} {a b : Bool}
    (hx : ev n σ x = .bool a) (hy : ev n σ y = .bool b) (ht : P.underlying t = some .bool)
     :
    (execOp (ev n σ) ⟨dst, .binOp .eql t x y t', ty, ps, af, g⟩).run P w = .ok (.value ((.bool (a == b)))) w := by
  simp [execOp, hx, hy, eqGuard, run_beql w a b ht, go_sem]
theorem R_bneq {dst : Option Tmp} {x y : Operand} {t t' ty : TypeId} {ps : String} {af : Array Edge} {g : Option (Nat × Bool)} {a b : Bool}
    (hx : ev n σ x = .bool a) (hy : ev n σ y = .bool b) (ht : P.underlying t = some .bool)
     :
    (execOp (ev n σ) ⟨dst, .binOp .neq t x y t', ty, ps, af, g⟩).run P w = .ok (.value ((.bool (!(a == b))))) w := by
  simp [execOp, hx, hy, eqGuard, run_bneq w a b ht, go_sem]
theorem S_toList (l : List UInt8) : (⟨l.toArray⟩ : ByteArray).toList = l := by rw [Lib.toList_data]
theorem S_size (l : List UInt8) : (⟨l.toArray⟩ : ByteArray).size = l.length := by simp [ByteArray.size]
def byteAt (l : List UInt8) (j : Nat) : UInt8 := l.getD j 0
theorem byteAt_eq {l : List UInt8} {j : Nat} (h : j < l.length) : byteAt l j = l[j] := by
  unfold byteAt; rw [List.getD_eq_getElem?_getD, List.getElem?_eq_getElem h]; rfl
theorem R_slen {dst : Option Tmp} {x : Operand} {t ty : TypeId} {ps : String} {af : Array Edge} {g : Option (Nat × Bool)} {l : List UInt8}
    (hx : ev n σ x = S l) (ht : P.underlying t = some .string)
     :
    (execOp (ev n σ) ⟨dst, .call { callee := .builtin .len, args := #[x], argTypes := #[t] }, ty, ps, af, g⟩).run P w = .ok (.value ((.int .i64 (l.length : Int)))) w := by
  simp [execOp, resolve, invoke, builtin, Builtin.len_, hx, S, run_underlying ht, go_sem, S_size, goInt]
theorem WO_slen {ops : Array Oper} {rest : List Oper} {dst : Option Tmp} {x : Operand} {t ty : TypeId} {ps : String} {af : Array Edge} {g : Option (Nat × Bool)} {l : List UInt8}
    (hg : gOk ops n σ g = true) (hx : ev n σ x = S l) (ht : P.underlying t = some .string)
    (next : WO P n ops rest Q (updo σ dst ((.int .i64 (l.length : Int)))) w) : WO P n ops (⟨dst, .call { callee := .builtin .len, args := #[x], argTypes := #[t] }, ty, ps, af, g⟩ :: rest) Q σ w :=
  WO_val hg (R_slen hx ht) next
theorem R_sidx {dst : Option Tmp} {x i : Operand} {t ty : TypeId} {ps : String} {af : Array Edge} {g : Option (Nat × Bool)} {l : List UInt8} {k : IntKind} {a : Int} {j : Nat}
    (hx : ev n σ x = S l) (hi : ev n σ i = .int k a) (ht : P.underlying t = some .string) (hj : a = (j : Int)) (hlt : j < l.length)
     :
    (execOp (ev n σ) ⟨dst, .index t x i, ty, ps, af, g⟩).run P w = .ok (.value ((.int .u8 ((byteAt l j).toNat : Int)))) w := by
  subst hj
  have h : (⟨l.toArray⟩ : ByteArray)[j]? = some (byteAt l j) := by
    have hs : j < (⟨l.toArray⟩ : ByteArray).size := by rw [S_size]; exact hlt
    rw [getElem?_pos (⟨l.toArray⟩ : ByteArray) j hs]
    simp only [Option.some.injEq]
    rw [byteAt_eq hlt]
    rfl
  simp [execOp, Instr.index, hx, hi, S, run_underlying ht, go_sem, h]
theorem WO_sidx {ops : Array Oper} {rest : List Oper} {dst : Option Tmp} {x i : Operand} {t ty : TypeId} {ps : String} {af : Array Edge} {g : Option (Nat × Bool)} {l : List UInt8} {k : IntKind} {a : Int} {j : Nat}
    (hg : gOk ops n σ g = true) (hx : ev n σ x = S l) (hi : ev n σ i = .int k a) (ht : P.underlying t = some .string) (hj : a = (j : Int)) (hlt : j < l.length)
    (next : WO P n ops rest Q (updo σ dst ((.int .u8 ((byteAt l j).toNat : Int)))) w) : WO P n ops (⟨dst, .index t x i, ty, ps, af, g⟩ :: rest) Q σ w :=
  WO_val hg (R_sidx hx hi ht hj hlt) next
theorem R_seql {dst : Option Tmp} {x y : Operand} {t t' ty : TypeId} {ps : String} {af : Array Edge} {g : Option (Nat × Bool)} {l1 l2 : List UInt8}
    (hx : ev n σ x = S l1) (hy : ev n σ y = S l2)
     :
    (execOp (ev n σ) ⟨dst, .binOp .eql t x y t', ty, ps, af, g⟩).run P w = .ok (.value ((.bool (decide (l1 = l2))))) w := by
  simp [execOp, hx, hy, S, eqGuard, binOp, Op.stringOp, S_toList, go_sem]
  rw [Bool.eq_iff_iff]; simp
theorem WO_seql {ops : Array Oper} {rest : List Oper} {dst : Option Tmp} {x y : Operand} {t t' ty : TypeId} {ps : String} {af : Array Edge} {g : Option (Nat × Bool)} {l1 l2 : List UInt8}
    (hg : gOk ops n σ g = true) (hx : ev n σ x = S l1) (hy : ev n σ y = S l2)
    (next : WO P n ops rest Q (updo σ dst ((.bool (decide (l1 = l2))))) w) : WO P n ops (⟨dst, .binOp .eql t x y t', ty, ps, af, g⟩ :: rest) Q σ w :=
  WO_val hg (R_seql hx hy) next
theorem R_sneq {dst : Option Tmp} {x y : Operand} {t t' ty : TypeId} {ps : String} {af : Array Edge} {g : Option (Nat × Bool)} {l1 l2 : List UInt8}
    (hx : ev n σ x = S l1) (hy : ev n σ y = S l2)
     :
    (execOp (ev n σ) ⟨dst, .binOp .neq t x y t', ty, ps, af, g⟩).run P w = .ok (.value ((.bool (!decide (l1 = l2))))) w := by
  simp [execOp, hx, hy, S, eqGuard, binOp, Op.stringOp, S_toList, go_sem]
  rw [Bool.eq_iff_iff]; simp
theorem WO_sneq {ops : Array Oper} {rest : List Oper} {dst : Option Tmp} {x y : Operand} {t t' ty : TypeId} {ps : String} {af : Array Edge} {g : Option (Nat × Bool)} {l1 l2 : List UInt8}
    (hg : gOk ops n σ g = true) (hx : ev n σ x = S l1) (hy : ev n σ y = S l2)
    (next : WO P n ops rest Q (updo σ dst ((.bool (!decide (l1 = l2))))) w) : WO P n ops (⟨dst, .binOp .neq t x y t', ty, ps, af, g⟩ :: rest) Q σ w :=
  WO_val hg (R_sneq hx hy) next
theorem R_slss {dst : Option Tmp} {x y : Operand} {t t' ty : TypeId} {ps : String} {af : Array Edge} {g : Option (Nat × Bool)} {l1 l2 : List UInt8}
    (hx : ev n σ x = S l1) (hy : ev n σ y = S l2)
     :
    (execOp (ev n σ) ⟨dst, .binOp .lss t x y t', ty, ps, af, g⟩).run P w = .ok (.value ((.bool (Op.bytesLess l1 l2)))) w := by
  simp [execOp, hx, hy, S, eqGuard, binOp, Op.stringOp, S_toList, go_sem]
theorem R_scat {dst : Option Tmp} {x y : Operand} {t t' ty : TypeId} {ps : String} {af : Array Edge} {g : Option (Nat × Bool)} {l1 l2 : List UInt8}
    (hx : ev n σ x = S l1) (hy : ev n σ y = S l2) (hl : l1.length + l2.length ≤ 9223372036854775807)
     :
    (execOp (ev n σ) ⟨dst, .binOp .add t x y t', ty, ps, af, g⟩).run P w = .ok (.value ((S (l1 ++ l2)))) w := by
  have h1 : ¬ (((l1.length + l2.length : Nat) : Int) > IntKind.i64.max) := by
    have : IntKind.i64.max = 9223372036854775807 := by decide
    rw [this]; omega
  have h2 : (⟨l1.toArray⟩ : ByteArray) ++ ⟨l2.toArray⟩ = ⟨(l1 ++ l2).toArray⟩ := by
    apply ByteArray.ext; simp [ByteArray.data_append]
  simp only [execOp, hx, hy, S, eqGuard, binOp, Op.stringOp, S_size, h2]
  rw [if_neg h1]
  simp [go_sem]
theorem run_sslice {P : Program} {t : TypeId} (w : World) (l : List UInt8) (lo hi : Option Value) (i j : Nat) (ht : P.underlying t = some .string)
    (h1 : (lo = none ∧ i = 0) ∨ ∃ k, lo = some (.int k (i : Int))) (h2 : (hi = none ∧ j = l.length) ∨ ∃ k, hi = some (.int k (j : Int))) (hij : i ≤ j) (hj : j ≤ l.length) :
    (Instr.slice t (S l) lo hi none).run P w = .ok (S ((l.take j).drop i)) w := by
  have he : (⟨l.toArray⟩ : ByteArray).extract i j = ⟨((l.take j).drop i).toArray⟩ := by
    apply ByteArray.ext
    simp [ByteArray.data_extract, List.drop_take]
  have e1 : (0 : Int) ≤ (j : Int) ∧ (j : Int) ≤ (l.length : Int) := by omega
  have e2 : (0 : Int) ≤ (i : Int) ∧ (i : Int) ≤ (j : Int) := by omega
  rcases h1 with ⟨rfl, rfl⟩ | ⟨k1, rfl⟩ <;> rcases h2 with ⟨rfl, rfl⟩ | ⟨k2, rfl⟩ <;>
    simp [Instr.slice, S, run_underlying ht, Instr.sliceBounds, Instr.sliceBound, asIntOf, S_size, he, e1, e2, go_sem] <;> first | done | (intro h; exfalso; omega) | (split <;> first | (exfalso; omega) | simp_all) | simp_all
theorem WO_scat {ops : Array Oper} {rest : List Oper} {dst : Option Tmp} {x y : Operand} {t t' ty : TypeId} {ps : String} {af : Array Edge} {g : Option (Nat × Bool)} {l1 l2 : List UInt8}
    (hg : gOk ops n σ g = true) (hx : ev n σ x = S l1) (hy : ev n σ y = S l2) (hl : l1.length + l2.length ≤ 9223372036854775807)
    (next : WO P n ops rest Q (updo σ dst ((S (l1 ++ l2)))) w) : WO P n ops (⟨dst, .binOp .add t x y t', ty, ps, af, g⟩ :: rest) Q σ w :=
  WO_val hg (R_scat hx hy hl) next
theorem R_sslo {dst : Option Tmp} {x y : Operand} {t ty : TypeId} {ps : String} {af : Array Edge} {g : Option (Nat × Bool)} {l : List UInt8} {k : IntKind} {a : Int} {i : Nat}
    (hx : ev n σ x = S l) (hy : ev n σ y = .int k a) (ht : P.underlying t = some .string) (ha : a = (i : Int)) (hi : i ≤ l.length)
     :
    (execOp (ev n σ) ⟨dst, .slice t x (some y) none none, ty, ps, af, g⟩).run P w = .ok (.value ((S (l.drop i)))) w := by
  subst ha
  have hr := run_sslice (P := P) w l (some (.int k (i : Int))) none i l.length ht (.inr ⟨k, rfl⟩) (.inl ⟨rfl, rfl⟩) hi (Nat.le_refl _)
  rw [List.take_length] at hr
  simp [execOp, Instr.sliceAt, run_underlying ht, hx, hy, hr, go_sem]
theorem WO_sslo {ops : Array Oper} {rest : List Oper} {dst : Option Tmp} {x y : Operand} {t ty : TypeId} {ps : String} {af : Array Edge} {g : Option (Nat × Bool)} {l : List UInt8} {k : IntKind} {a : Int} {i : Nat}
    (hg : gOk ops n σ g = true) (hx : ev n σ x = S l) (hy : ev n σ y = .int k a) (ht : P.underlying t = some .string) (ha : a = (i : Int)) (hi : i ≤ l.length)
    (next : WO P n ops rest Q (updo σ dst ((S (l.drop i)))) w) : WO P n ops (⟨dst, .slice t x (some y) none none, ty, ps, af, g⟩ :: rest) Q σ w :=
  WO_val hg (R_sslo hx hy ht ha hi) next
theorem R_sshi {dst : Option Tmp} {x y : Operand} {t ty : TypeId} {ps : String} {af : Array Edge} {g : Option (Nat × Bool)} {l : List UInt8} {k : IntKind} {a : Int} {j : Nat}
    (hx : ev n σ x = S l) (hy : ev n σ y = .int k a) (ht : P.underlying t = some .string) (ha : a = (j : Int)) (hj : j ≤ l.length)
     :
    (execOp (ev n σ) ⟨dst, .slice t x none (some y) none, ty, ps, af, g⟩).run P w = .ok (.value ((S (l.take j)))) w := by
  subst ha
  have hr := run_sslice (P := P) w l none (some (.int k (j : Int))) 0 j ht (.inl ⟨rfl, rfl⟩) (.inr ⟨k, rfl⟩) (Nat.zero_le _) hj
  rw [List.drop_zero] at hr
  simp [execOp, Instr.sliceAt, run_underlying ht, hx, hy, hr, go_sem]
theorem WO_sshi {ops : Array Oper} {rest : List Oper} {dst : Option Tmp} {x y : Operand} {t ty : TypeId} {ps : String} {af : Array Edge} {g : Option (Nat × Bool)} {l : List UInt8} {k : IntKind} {a : Int} {j : Nat}
    (hg : gOk ops n σ g = true) (hx : ev n σ x = S l) (hy : ev n σ y = .int k a) (ht : P.underlying t = some .string) (ha : a = (j : Int)) (hj : j ≤ l.length)
    (next : WO P n ops rest Q (updo σ dst ((S (l.take j)))) w) : WO P n ops (⟨dst, .slice t x none (some y) none, ty, ps, af, g⟩ :: rest) Q σ w :=
  WO_val hg (R_sshi hx hy ht ha hj) next
end
theorem wpQuiet_mono' {P : Program} {ops : Array Oper} {C : World → Prop} {Q Q' : Act → Prop} (hq : ∀ a, Q a → Q' a) : ∀ (l : List Oper) (a : Act), wpQuiet P ops C Q l a → wpQuiet P ops C Q' l a
  | [], a, h => hq a h
  | o :: rest, a, h => by
    unfold wpQuiet at h ⊢
    split
    · rename_i hw; rw [if_pos hw] at h
      obtain ⟨v, h1, h2⟩ := h
      exact ⟨v, h1, wpQuiet_mono' hq rest _ h2⟩
    · rename_i hw; rw [if_neg hw] at h
      exact wpQuiet_mono' hq rest _ h
def WQ (P : Program) (n : Nat) (ops : Array Oper) (C : World → Prop) (l : List Oper) (K : (Nat → Value) → Prop) (σ : Nat → Value) : Prop :=
  wpQuiet P ops C (fun a => ∃ σ, a = mk n σ ∧ K σ) l (mk n σ)
section
variable {P : Program} {n : Nat} {Q : Exit → (Nat → Value) → World → Prop} {K : (Nat → Value) → Prop} {σ : Nat → Value} {w : World} {C : World → Prop}
theorem W_drawC {id : Nat} {l : List Oper} (hm : P.follows .mixedOrders = true) (hB : Region.lexB .any l.toArray = true) (hC : C { w with drawn := w.drawn + 1 })
    (h : WQ P n l.toArray C l (fun σ => ∀ w', C w' → Q .normal σ w') σ) : W P n (.region id l.toArray true) Q σ w := by
  refine wp_region_quiet hm hB hC ?_
  show wpQuiet P l.toArray C (fun a' => ∀ w', C w' → lift n Q .normal a' w') l (mk n σ)
  refine wpQuiet_mono' ?_ l _ h
  rintro a ⟨σ', rfl, hK⟩ w' hw'
  exact ⟨σ', rfl, hK w' hw'⟩
def Drew (w w' : World) : Prop := ∃ k, w' = w.drewN k
theorem W_draw {id : Nat} {l : List Oper} (hm : P.follows .mixedOrders = true) (hB : Region.lexB .any l.toArray = true)
    (h : WQ P n l.toArray (Drew w) l (fun σ => ∀ w', Drew w w' → Q .normal σ w') σ) : W P n (.region id l.toArray true) Q σ w :=
  W_drawC hm hB ⟨1, rfl⟩ h
theorem WQ_nil {ops : Array Oper} (h : K σ) : WQ P n ops C [] K σ := ⟨σ, rfl, h⟩
theorem WQ_val {ops : Array Oper} {o : Oper} {rest : List Oper} {v : Value} (hg : gOk ops n σ o.guard = true) (h : ∀ w, C w → (execOp (ev n σ) o).run P w = .ok (.value v) w)
    (next : WQ P n ops C rest K (updo σ o.dst v)) : WQ P n ops C (o :: rest) K σ := by
  unfold WQ wpQuiet
  rw [wanted_mk, hg, if_pos rfl]
  refine ⟨v, fun w hw => ?_, ?_⟩
  · unfold Oper.quietAt; rw [mk_eval, h w hw]; exact ⟨rfl, rfl⟩
  · rw [mk_put]; exact next
theorem WQ_pure {ops : Array Oper} {o : Oper} {rest : List Oper} {v : Value} (hg : gOk ops n σ o.guard = true) (h : pureOp n σ o.op = some v)
    (next : WQ P n ops C rest K (updo σ o.dst v)) : WQ P n ops C (o :: rest) K σ := WQ_val hg (fun _ _ => pure_run h) next
end
section
variable {P : Program} {n : Nat} {K : (Nat → Value) → Prop} {σ : Nat → Value} {C : World → Prop}
end
attribute [irreducible] WQ
attribute [irreducible] W WO
end Go.Proofs.YthhacfehjgfpbaaDoor
end
section
namespace Go.Proofs.YthhacfehjgfpbaaDoor
open Go Go.RowKit
def New (w w' : World) (o : Obj) : Prop := w' = w.alloc o
structure Upd (w w' : World) (k : Nat) (o : Obj) : Prop where
  os : w'.os = w.os
  tape : w'.tape = w.tape
  output : w'.output = w.output
  size : w'.heap.size = w.heap.size
  here : w'.heap[k]? = some o
  block : ∀ j, j ≠ k → w'.heap[j]? = w.heap[j]?
theorem heap_lt {w : World} {k : Nat} {o : Obj} (h : w.heap[k]? = some o) : k < w.heap.size := (Array.getElem?_eq_some_iff.1 h).1
section
variable {w w' w0 : World} {o x : Obj} {k j B : Nat}
theorem New.size (h : New w w' o) : w'.heap.size = w.heap.size + 1 := by unfold New at h; subst h; simp
theorem New.here (h : New w w' o) : w'.heap[w.heap.size]? = some o := by unfold New at h; subst h; exact heap_alloc_new w o
theorem New.keep (h : New w w' o) (hk : w.heap[k]? = some x) : w'.heap[k]? = some x := by
  unfold New at h; subst h; exact (heap_alloc_old w o (heap_lt hk)).trans hk
theorem New.below (h : New w w' o) (hb : Below B w0 w) (hB : B ≤ w.heap.size) : Below B w0 w' := by
  unfold New at h; subst h; exact hb.alloc hB o
theorem New.ext (h : New w w' o) : Below w.heap.size w w' := h.below (Below.refl _ _) (Nat.le_refl _)
theorem New.owns {base : Nat} {e : TypeId} {size : Nat} {v : Value} {n : Nat} {xs : List Value} (h : New w w' o) (hw : w.ownsRow base e size v n xs) : w'.ownsRow base e size v n xs := by
  unfold New at h; subst h; exact hw.alloc o
theorem Upd.keep (h : Upd w w' k o) (hj : w.heap[j]? = some x) (hne : j ≠ k) : w'.heap[j]? = some x := by rw [h.block j hne]; exact hj
theorem Upd.below (h : Upd w w' k o) (hb : Below B w0 w) (hB : B ≤ k) : Below B w0 w' :=
  hb.trans ⟨h.os, h.tape, h.output, by rw [h.size]; exact Nat.le_refl _, fun i hi => h.block i (by omega)⟩
theorem Upd.grown (h : Upd w w' k o) : w.grownBy w' (some k) :=
  ⟨h.os, h.tape, h.output, by rw [h.size]; exact Nat.le_refl _, fun i _ hne => h.block i (fun e => hne (by rw [e]))⟩
theorem Upd.owns {base : Nat} {e : TypeId} {size : Nat} {v : Value} {n : Nat} {xs : List Value} (h : Upd w w' k o) (hw : w.ownsRow base e size v n xs) (hne : v.ownBlock ≠ some k) : w'.ownsRow base e size v n xs :=
  hw.kept h.grown (.inr hne)
theorem below_keep (h : Below w.heap.size w w') (hk : w.heap[k]? = some x) : w'.heap[k]? = some x := by rw [h.block k (heap_lt hk)]; exact hk
theorem below_ext (h : Below w0.heap.size w0 w) (h' : Below w.heap.size w w') : Below w0.heap.size w0 w' := h.trans (h'.mono h.size)
theorem below_owns {base : Nat} {e : TypeId} {size : Nat} {v : Value} {n : Nat} {xs : List Value} (h : Below w.heap.size w w') (hw : w.ownsRow base e size v n xs) : w'.ownsRow base e size v n xs :=
  hw.kept (row := none) ⟨h.os, h.tape, h.output, h.size, fun k hk _ => h.block k hk⟩ (by cases hv : v.ownBlock <;> simp)
end
theorem drew_keep {w w' : World} {k : Nat} {x : Obj} (h : Drew w w') (hk : w.heap[k]? = some x) : w'.heap[k]? = some x := by obtain ⟨m, rfl⟩ := h; exact hk
theorem Drew.ext {w w' : World} (h : Drew w w') : Below w.heap.size w w' := by obtain ⟨m, rfl⟩ := h; exact ⟨rfl, rfl, rfl, Nat.le_refl _, fun _ _ => rfl⟩
theorem Drew.below {w0 w w' : World} {B : Nat} (h : Drew w w') (hb : Below B w0 w) : Below B w0 w' := by obtain ⟨m, rfl⟩ := h; exact ⟨hb.os, hb.tape, hb.output, hb.size, hb.block⟩
section
variable {P : Program} {n : Nat} {Q : Exit → (Nat → Value) → World → Prop} {σ : Nat → Value} {w : World}
variable {ops : Array Oper} {rest : List Oper} {dst : Option Tmp} {ty : TypeId} {ps : String} {af : Array Edge} {g : Option (Nat × Bool)}
end
end Go.Proofs.YthhacfehjgfpbaaDoor
end
section
namespace Go.Proofs.YthhacfehjgfpbaaDoor
open Go Go.RowKit
def MapIs (w : World) (b : Nat) (l : List (Value × Value)) : Prop := ∃ es clock, w.heap[b]? = some (.map es clock) ∧ es.toList.map (fun e => (e.key, e.val)) = l
theorem MapIs.lt {w : World} {b : Nat} {l : List (Value × Value)} (h : MapIs w b l) : b < w.heap.size := by obtain ⟨es, c, h, _⟩ := h; exact heap_lt h
theorem MapIs.new {w w' : World} {b : Nat} {l : List (Value × Value)} {o : Obj} (h : MapIs w b l) (n : New w w' o) : MapIs w' b l := by
  obtain ⟨es, c, h, e⟩ := h; exact ⟨es, c, n.keep h, e⟩
theorem MapIs.upd {w w' : World} {b k : Nat} {l : List (Value × Value)} {o : Obj} (h : MapIs w b l) (u : Upd w w' k o) (hne : b ≠ k) : MapIs w' b l := by
  obtain ⟨es, c, h, e⟩ := h; exact ⟨es, c, u.keep h hne, e⟩
theorem MapIs.below {w w' : World} {b : Nat} {l : List (Value × Value)} (h : MapIs w b l) (hb : Below w.heap.size w w') : MapIs w' b l := by
  obtain ⟨es, c, h, e⟩ := h; exact ⟨es, c, below_keep hb h, e⟩
structure Key (P : Program) (kt : TypeId) {κ : Type} [DecidableEq κ] (enc : κ → Value) : Prop where
  d : ∃ d, P.underlying kt = some d ∧ ∀ a b, Instr.sameNow d (enc a) (enc b) = some (decide (a = b))
  check : ∀ (e : Bool) (m : Nat) (v : κ) (w : World), (Instr.checkKey e (m + 1) kt (enc v)).run P w = .ok () w
  bits : ∀ v : κ, Instr.sameBits 10000 (enc v) (enc v) = true
abbrev I64 (n : Int) : Value := .int .i64 n
theorem key_int {P : Program} {kt : TypeId} (h : P.underlying kt = some (.int .i64)) : Key P kt I64 where
  d := ⟨_, h, fun a b => by
    simp only [I64, Instr.sameNow]
    simp only [if_true, Option.some.injEq]
    rw [Bool.eq_iff_iff]; simp⟩
  check e m v w := by simp [Instr.checkKey, run_underlying h]
  bits v := by simp [Instr.sameBits]
section
variable {κ α : Type} [DecidableEq κ]
def alook (m : List (κ × α)) (k : κ) : Option α := (m.find? (fun p => decide (k = p.1))).map (·.2)
def aput (m : List (κ × α)) (k : κ) (a : α) : List (κ × α) := if (alook m k).isSome then m.map (fun p => if k = p.1 then (p.1, a) else p) else m ++ [(k, a)]
def mrows (enc : κ → Value) (val : α → Value) (m : List (κ × α)) : List (Value × Value) := m.map fun p => (enc p.1, val p.2)
theorem findNow_rows {d : TypeDesc} {enc : κ → Value} {val : α → Value} (hd : ∀ a b, Instr.sameNow d (enc a) (enc b) = some (decide (a = b))) (k : κ) :
    ∀ (es : List MapEntry) (m : List (κ × α)) (i : Nat), es.map (fun e => (e.key, e.val)) = mrows enc val m →
      ∃ r, Instr.findNow d (enc k) es i = some r ∧ r.map (·.2) = (alook m k).map val ∧ ∀ j v, r = some (j, v) → i ≤ j ∧ (m[j - i]?).map (·.1) = some k ∧ ∀ q, q < j - i → (m[q]?).map (·.1) ≠ some k := by
  intro es
  induction es with
  | nil =>
    intro m i h
    cases m with
    | nil => exact ⟨none, rfl, rfl, by simp⟩
    | cons p m => simp [mrows] at h
  | cons e es ih =>
    intro m i h
    cases m with
    | nil => simp [mrows] at h
    | cons p m =>
      simp only [mrows, List.map_cons, List.cons.injEq, Prod.mk.injEq] at h
      obtain ⟨⟨hk, hv⟩, hr⟩ := h
      simp only [Instr.findNow, hk, hd]
      by_cases hkp : k = p.1
      · rw [decide_eq_true hkp]
        refine ⟨some (i, e.val), rfl, ?_, ?_⟩
        · simp [alook, hkp, hv]
        · intro j v hj; cases hj; simp [hkp]
      · rw [decide_eq_false hkp]
        obtain ⟨r, h1, h2, h3⟩ := ih m (i + 1) (by simpa [mrows] using hr)
        refine ⟨r, h1, ?_, ?_⟩
        · rw [h2]; simp [alook, List.find?_cons, hkp]
        · intro j v hj
          obtain ⟨a, b, c⟩ := h3 j v hj
          refine ⟨by omega, ?_, ?_⟩
          · rw [show j - i = (j - (i + 1)) + 1 by omega]; simpa using b
          · intro q hq
            cases q with
            | zero => simp; exact fun h => hkp h.symm
            | succ q => simpa using c q (by omega)
theorem run_findKey {P : Program} {kt : TypeId} {enc : κ → Value} {val : α → Value} (hK : Key P kt enc) (k : κ) (es : List MapEntry) (m : List (κ × α)) (h : es.map (fun e => (e.key, e.val)) = mrows enc val m) (w : World) :
    ∃ r, (Instr.findKey kt (enc k) es).run P w = .ok r w ∧ r.map (·.2) = (alook m k).map val ∧ ∀ j v, r = some (j, v) → (m[j]?).map (·.1) = some k ∧ ∀ q, q < j → (m[q]?).map (·.1) ≠ some k := by
  obtain ⟨d, hd, hs⟩ := hK.d
  obtain ⟨r, h1, h2, h3⟩ := findNow_rows hs k es m 0 h
  refine ⟨r, ?_, h2, fun j v hj => ?_⟩
  · simp [Instr.findKey, run_underlying hd, h1]
  · obtain ⟨_, b, c⟩ := h3 j v hj
    exact ⟨by simpa using b, fun q hq => c q (by simpa using hq)⟩
theorem run_lookup {P : Program} {t kt et : TypeId} {enc : κ → Value} {val : α → Value} {z : Value} (hK : Key P kt enc) (ht : P.underlying t = some (.map kt et)) (hz : ∀ w, (zeroValue et).run P w = .ok z w)
    (w : World) (b : Nat) (m : List (κ × α)) (k : κ) (hm : MapIs w b (mrows enc val m)) (ok : Bool) :
    (Instr.lookup t (.map (some b)) (enc k) ok).run P w = .ok (bif ok then .tuple #[((alook m k).map val).getD z, .bool (alook m k).isSome] else ((alook m k).map val).getD z) w := by
  obtain ⟨es, clock, hb, he⟩ := hm
  obtain ⟨r, h1, h2, _⟩ := run_findKey hK k es.toList m he w
  have hc := hK.check es.isEmpty 9999 k w
  simp only [Instr.lookup]
  simp [run_underlying ht, getObj, Sem.run, hb, hc, h1]
  cases r with
  | none =>
    cases hl : alook m k with
    | none => cases ok <;> simp [hz]
    | some a => rw [hl] at h2; simp at h2
  | some p =>
    cases hl : alook m k with
    | none => rw [hl] at h2; simp at h2
    | some a => rw [hl] at h2; simp at h2; cases ok <;> simp [h2]
theorem alook_none_iff (m : List (κ × α)) (k : κ) : alook m k = none ↔ ∀ p ∈ m, p.1 ≠ k := by
  unfold alook
  rw [Option.map_eq_none_iff, List.find?_eq_none]
  simp only [decide_eq_true_eq]
  exact ⟨fun h p hp e => h p hp e.symm, fun h p hp e => h p hp e.symm⟩
def Once (m : List (κ × α)) : Prop := (m.map (·.1)).Nodup
theorem aput_keys (m : List (κ × α)) (k : κ) (a : α) : (aput m k a).map (·.1) = if (alook m k).isSome then m.map (·.1) else m.map (·.1) ++ [k] := by
  unfold aput
  split
  · rw [List.map_map]
    refine List.map_congr_left fun p _ => ?_
    simp only [Function.comp]; split <;> rfl
  · simp
theorem Once.put {m : List (κ × α)} (h : Once m) (k : κ) (a : α) : Once (aput m k a) := by
  unfold Once at *
  rw [aput_keys]
  split
  · exact h
  · rename_i hn
    have hn' : alook m k = none := by simpa using hn
    rw [alook_none_iff] at hn'
    rw [List.nodup_append]
    refine ⟨h, by simp, fun x hx y hy => ?_⟩
    simp only [List.mem_singleton] at hy; subst hy
    rw [List.mem_map] at hx
    obtain ⟨p, hp, rfl⟩ := hx
    exact hn' p hp
theorem map_modify_key {m : List (κ × α)} {k : κ} {a : α} {j : Nat} (ho : Once m) (hj : (m[j]?).map (·.1) = some k) : m.map (fun p => if k = p.1 then (p.1, a) else p) = m.modify j (fun p => (p.1, a)) := by
  apply List.ext_getElem?
  intro i
  rw [List.getElem?_map, List.getElem?_modify]
  cases hi : m[i]? with
  | none => simp
  | some p =>
    simp only [Option.map_some, Option.map_eq_map]
    by_cases hij : j = i
    · subst hij
      rw [hi] at hj
      simp at hj
      simp [hj]
    · rw [if_neg hij]
      congr 1
      rw [if_neg]
      intro hk
      apply hij
      cases hjj : m[j]? with
      | none => rw [hjj] at hj; simp at hj
      | some q =>
        rw [hjj] at hj; simp at hj
        have h1 : (m.map (·.1))[j]? = some k := by rw [List.getElem?_map, hjj]; simp [hj]
        have h2 : (m.map (·.1))[i]? = some k := by rw [List.getElem?_map, hi]; simp [hk]
        have hlt : j < (m.map (·.1)).length := (List.getElem?_eq_some_iff.1 h1).1
        exact (List.getElem?_inj hlt ho).1 (h1.trans h2.symm)
theorem run_mapUpdate {P : Program} {t kt et : TypeId} {enc : κ → Value} {val : α → Value} (hK : Key P kt enc) (ht : P.underlying t = some (.map kt et))
    (w : World) (b : Nat) (m : List (κ × α)) (k : κ) (a : α) (ho : Once m) (hm : MapIs w b (mrows enc val m)) :
    ∃ w' o, (Instr.mapUpdate t (.map (some b)) (enc k) (val a)).run P w = .ok () w' ∧ Upd w w' b o ∧ MapIs w' b (mrows enc val (aput m k a)) := by
  obtain ⟨es, clock, hb, he⟩ := hm
  obtain ⟨r, h1, h2, h3⟩ := run_findKey hK k es.toList m he w
  have hc := hK.check false 9999 k w
  have hlt := heap_lt hb
  have hupd : ∀ o : Obj, Upd w { w with heap := w.heap.setIfInBounds b o } b o := fun o =>
    ⟨rfl, rfl, rfl, by simp, by simp [hlt], fun j hj => by simp [Array.getElem?_setIfInBounds, Ne.symm hj]⟩
  cases r with
  | none =>
    have hl : alook m k = none := by
      cases hl : alook m k with
      | none => rfl
      | some x => rw [hl] at h2; simp at h2
    refine ⟨_, .map (es.push { key := enc k, val := val a, born := clock }) (clock + 1), ?_, hupd _, ⟨_, _, (hupd _).here, ?_⟩⟩
    · simp [Instr.mapUpdate, run_underlying ht, getObj, setObj, Sem.run, hb, hc, h1]
    · simp [aput, hl, mrows, he]
  | some p =>
    obtain ⟨j, v⟩ := p
    obtain ⟨hj, _⟩ := h3 j v rfl
    have hs : (alook m k).isSome = true := by
      cases hl : alook m k with
      | none => rw [hl] at h2; simp at h2
      | some x => rfl
    have hkey : ((es[j]?).map (·.key)) = some (enc k) := by
      have h4 : (es.toList.map (fun e => (e.key, e.val)))[j]? = (mrows enc val m)[j]? := by rw [he]
      rw [List.getElem?_map] at h4
      simp only [mrows, List.getElem?_map] at h4
      cases hmj : m[j]? with
      | none => rw [hmj] at hj; simp at hj
      | some q =>
        rw [hmj] at hj h4
        simp at hj h4
        obtain ⟨e, he1, he2, _⟩ := h4
        simp [he1, he2, hj]
    refine ⟨_, .map (es.modify j fun e => { e with key := enc k, val := val a }) clock, ?_, hupd _, ⟨_, _, (hupd _).here, ?_⟩⟩
    · simp [Instr.mapUpdate, run_underlying ht, getObj, setObj, Sem.run, hb, hc, h1, hkey, Instr.keyThatStays, hK.bits]
    · have e1 : (aput m k a) = m.modify j (fun p => (p.1, a)) := by
        unfold aput; rw [if_pos hs, map_modify_key ho hj]
      rw [e1]
      have h4 : es.toList.map (fun e => (e.key, e.val)) = mrows enc val m := he
      apply List.ext_getElem?
      intro i
      have h5 := congrArg (·[i]?) h4
      simp only [mrows, List.getElem?_map] at h5 ⊢
      simp only [Array.toList_modify, List.getElem?_modify]
      by_cases hij : j = i
      · subst hij
        cases hmj : m[j]? with
        | none => rw [hmj] at hj; simp at hj
        | some q =>
          rw [hmj] at h5 hj
          simp at h5 hj
          obtain ⟨e, he1, he2, he3⟩ := h5
          simp [he1, hj]
      · simp only [if_neg hij]
        simpa using h5
end
section
variable {P : Program} {n : Nat} {Q : Exit → (Nat → Value) → World → Prop} {σ : Nat → Value} {w : World}
variable {ops : Array Oper} {rest : List Oper} {dst : Option Tmp} {ty : TypeId} {ps : String} {af : Array Edge} {g : Option (Nat × Bool)}
variable {κ α : Type} [DecidableEq κ]
theorem WO_makemap {t : TypeId} (hg : gOk ops n σ g = true)
    (next : ∀ w', New w w' (.map #[] 0) → WO P n ops rest Q (updo σ dst (.map (some w.heap.size))) w') :
    WO P n ops (⟨dst, .makeMap t none, ty, ps, af, g⟩ :: rest) Q σ w := by
  refine WO_val hg ?_ (next _ rfl)
  simp [execOp, Instr.makeMap, go_sem]
theorem MapIs.made {w w' : World} (h : New w w' (.map #[] 0)) : MapIs w' w.heap.size [] := ⟨_, _, h.here, rfl⟩
theorem R_lookup {t kt et : TypeId} {x i : Operand} {enc : κ → Value} {val : α → Value} {z : Value} {b : Nat} {m : List (κ × α)} {k : κ} (hx : ev n σ x = .map (some b)) (hi : ev n σ i = enc k) (hm : MapIs w b (mrows enc val m)) (hK : Key P kt enc) (ht : P.underlying t = some (.map kt et)) (hz : ∀ w, (zeroValue et).run P w = .ok z w)
     :
    (execOp (ev n σ) ⟨dst, .lookup t x i false, ty, ps, af, g⟩).run P w = .ok (.value ((((alook m k).map val).getD z))) w := by
  have := run_lookup hK ht hz w b m k hm false
  simp [execOp, hx, hi, this, go_sem]
theorem WO_lookup {t kt et : TypeId} {x i : Operand} {enc : κ → Value} {val : α → Value} {z : Value} {b : Nat} {m : List (κ × α)} {k : κ} (hg : gOk ops n σ g = true)
    (hx : ev n σ x = .map (some b)) (hi : ev n σ i = enc k) (hm : MapIs w b (mrows enc val m)) (hK : Key P kt enc) (ht : P.underlying t = some (.map kt et)) (hz : ∀ w, (zeroValue et).run P w = .ok z w)
    (next : WO P n ops rest Q (updo σ dst ((((alook m k).map val).getD z))) w) : WO P n ops (⟨dst, .lookup t x i false, ty, ps, af, g⟩ :: rest) Q σ w :=
  WO_val hg (R_lookup hx hi hm hK ht hz) next
theorem WO_mapins {t kt et : TypeId} {x i y : Operand} {enc : κ → Value} {val : α → Value} {b : Nat} {m : List (κ × α)} {k : κ} {a : α} (hg : gOk ops n σ g = true)
    (hx : ev n σ x = .map (some b)) (hi : ev n σ i = enc k) (hy : ev n σ y = val a) (hm : MapIs w b (mrows enc val m)) (ho : Once m) (hK : Key P kt enc) (ht : P.underlying t = some (.map kt et))
    (next : ∀ w' o, Upd w w' b o → MapIs w' b (mrows enc val (aput m k a)) → WO P n ops rest Q (updo σ dst undef) w') : WO P n ops (⟨dst, .insert t x i y, ty, ps, af, g⟩ :: rest) Q σ w := by
  obtain ⟨w', o, h1, h2, h3⟩ := run_mapUpdate hK ht w b m k a ho hm
  refine WO_unit hg ?_ (next w' o h2 h3)
  simp [execOp, hx, hi, hy, h1, go_sem]
theorem WO_box {t : TypeId} {x : Operand} {v : Value} (hg : gOk ops n σ g = true) (hx : ev n σ x = v)
    (next : ∀ w', New w w' (.cells v.cells t) → WO P n ops rest Q (updo σ dst (.pointer (some ⟨w.heap.size, 0, none⟩))) w') :
    WO P n ops (⟨dst, .box t x, ty, ps, af, g⟩ :: rest) Q σ w := by
  refine WO_val hg ?_ (next _ rfl)
  simp [execOp, Instr.box, hx, newVar, newRow, go_sem]
theorem WO_alloc {t : TypeId} {v : Value} (hg : gOk ops n σ g = true) (hz : ∀ w, (zeroValue t).run P w = .ok v w)
    (next : ∀ w', New w w' (.cells v.cells t) → WO P n ops rest Q (updo σ dst (.pointer (some ⟨w.heap.size, 0, none⟩))) w') :
    WO P n ops (⟨dst, .alloc t, ty, ps, af, g⟩ :: rest) Q σ w := by
  refine WO_val hg ?_ (next _ rfl)
  simp [execOp, Instr.alloc, hz, newVar, newRow, go_sem]
def plainD : TypeDesc → Bool
  | .struct _ | .array _ _ => false
  | _ => true
theorem run_isAgg {t : TypeId} {d : TypeDesc} (h : P.underlying t = some d) (hd : plainD d = true) (w : World) : (isAgg t).run P w = .ok false w := by
  cases d <;> simp_all [isAgg, run_underlying h, plainD]
theorem cell_of {w : World} {b o : Nat} {c : Array Value} {e : TypeId} {f : Nat × Nat} {v : Value} (hb : w.heap[b]? = some (.cells c e f)) (hc : c[o]? = some v) : w.cell? ⟨b, o, none⟩ = some v := by
  simp [World.cell?, hb, hc]
theorem R_load {t : TypeId} {d : TypeDesc} {x : Operand} {a : Addr} {v : Value} (hx : ev n σ x = .pointer (some a)) (ht : P.underlying t = some d) (hd : plainD d = true) (hc : w.cell? a = some v)
     :
    (execOp (ev n σ) ⟨dst, .load t x, ty, ps, af, g⟩).run P w = .ok (.value (v)) w := by
  simp [execOp, Instr.loadAt, Instr.sureAddr, hx, loadVar, run_isAgg ht hd, load, Sem.run, hc, go_sem]
def oneC : Value → Bool
  | .agg _ | .tuple _ => false
  | _ => true
theorem WO_load {t : TypeId} {d : TypeDesc} {x : Operand} {a : Addr} {v : Value} (hg : gOk ops n σ g = true) (hx : ev n σ x = .pointer (some a)) (ht : P.underlying t = some d) (hd : plainD d = true) (hc : w.cell? a = some v)
    (next : WO P n ops rest Q (updo σ dst (v)) w) : WO P n ops (⟨dst, .load t x, ty, ps, af, g⟩ :: rest) Q σ w :=
  WO_val hg (R_load hx ht hd hc) next
theorem WO_store {t : TypeId} {x y : Operand} {b o : Nat} {c : Array Value} {e : TypeId} {v : Value} (hg : gOk ops n σ g = true) (hx : ev n σ x = .pointer (some ⟨b, o, none⟩)) (hy : ev n σ y = v)
    (hs : ∀ w, (sizeOf t).run P w = .ok 1 w) (h1 : oneC v = true) (hb : w.heap[b]? = some (.cells c e (0, 0))) (ho : o < c.size)
    (next : ∀ w', Upd w w' b (.cells (c.setIfInBounds o v) e (0, 0)) → WO P n ops rest Q (updo σ dst undef) w') : WO P n ops (⟨dst, .store t x y, ty, ps, af, g⟩ :: rest) Q σ w := by
  have hcell : w.cell? ⟨b, o, none⟩ = some c[o] := cell_of hb (by simp [ho])
  have hfr : w.frozen? ⟨b, o, none⟩ = false := by simp [World.frozen?, hb]
  have hcs : v.cells = #[v] := by cases v <;> first | rfl | simp [oneC] at h1
  refine WO_unit (w' := w.setCell ⟨b, o, none⟩ v) hg ?_ (next _ ⟨rfl, rfl, rfl, by simp [World.setCell], ?_, ?_⟩)
  · cases v <;> first | (simp [oneC] at h1; done) | simp [execOp, Instr.storeAt, Instr.sureAddr, hx, hy, storeVar, hs, Value.cells, storeCells, store, Sem.run, hcell, hfr, Addr.add, go_sem]
  · have hlt := heap_lt hb
    have := (Array.getElem?_eq_some_iff.1 hb).2
    simp [World.setCell, Array.getElem?_modify, hb]
  · intro j hj
    simp [World.setCell, Array.getElem?_modify, Ne.symm hj]
theorem WO_storerow {t e : TypeId} {x y : Operand} {b o : Nat} {c c' : Array Value} (hg : gOk ops n σ g = true) (hx : ev n σ x = .pointer (some ⟨b, o, none⟩)) (hy : ev n σ y = .agg c')
    (hs : ∀ w, (sizeOf t).run P w = .ok c'.size w) (h1 : c'.all (·.oneCell') = true) (hb : w.heap[b]? = some (.cells c e (0, 0))) (ho : o + c'.size ≤ c.size)
    (next : ∀ w', Upd w w' b (.cells (c.toList.take o ++ c'.toList ++ c.toList.drop (o + c'.size)).toArray e (0, 0)) → WO P n ops rest Q (updo σ dst undef) w') : WO P n ops (⟨dst, .store t x y, ty, ps, af, g⟩ :: rest) Q σ w := by
  have hr := run_storeCells_at P b o e c'.toList 0 c w hb (by simpa using ho) (fun v hv => by rw [Array.all_eq_true_iff_forall_mem] at h1; exact h1 v (by simpa using hv))
  refine WO_unit (w' := w.setRow b (c.toList.take (o + 0) ++ c'.toList ++ c.toList.drop (o + 0 + c'.toList.length)).toArray) hg ?_ (next _ ⟨rfl, rfl, rfl, by simp [World.setRow], ?_, ?_⟩)
  · have hr' : (storeCells ⟨b, o, none⟩ c'.toList).run P w = .ok () (w.setRow b (c.toList.take (o + 0) ++ c'.toList ++ c.toList.drop (o + 0 + c'.toList.length)).toArray) := hr
    simp [execOp, Instr.storeAt, Instr.sureAddr, hx, hy, storeVar, hs, Value.cells, hr', go_sem]
  · rw [setRow_heap w b c _ e _ hb]; simp
  · intro j hj; exact setRow_other w b j _ hj
theorem R_loadrow {t e : TypeId} {d : TypeDesc} {x : Operand} {b o m : Nat} {c : Array Value} {fr : Nat × Nat} (hx : ev n σ x = .pointer (some ⟨b, o, none⟩)) (ht : P.underlying t = some d) (hd : plainD d = false)
    (hs : ∀ w, (sizeOf t).run P w = .ok m w) (hb : w.heap[b]? = some (.cells c e fr)) (ho : o + m ≤ c.size)
     :
    (execOp (ev n σ) ⟨dst, .load t x, ty, ps, af, g⟩).run P w = .ok (.value ((.agg ((c.toList.drop o).take m).toArray))) w := by
  have ha : (isAgg t).run P w = .ok true w := by cases d <;> simp_all [isAgg, run_underlying ht, plainD]
  have hl : ((c.toList.drop o).take m).length = m := by simp; omega
  have hr := run_loadCells_list (P := P) w ⟨b, o, none⟩ ((c.toList.drop o).take m) (fun j v hj => by
    have hadd : (⟨b, o, none⟩ : Addr).add j = ⟨b, o + j, none⟩ := by unfold Addr.add; split <;> simp_all
    rw [hadd]
    refine cell_of hb ?_
    rw [List.getElem?_take] at hj
    split at hj
    · rw [List.getElem?_drop] at hj; simpa using hj
    · cases hj)
  rw [hl] at hr
  simp only [loadCells] at hr
  simp [execOp, Instr.loadAt, Instr.sureAddr, hx, loadVar, loadCells, ha, hs, hr, go_sem]
theorem run_eqIn_ptr {t e : TypeId} (w : World) (d : Nat) (a : Option Addr) (ht : P.underlying t = some (.pointer e)) : (Op.equalIn (d + 1) t (.pointer a) (.pointer none)).run P w = .ok a.isNone w := by
  cases a <;> simp [Op.equalIn, run_underlying ht]
theorem WO_loadrow {t e : TypeId} {d : TypeDesc} {x : Operand} {b o m : Nat} {c : Array Value} {fr : Nat × Nat} (hg : gOk ops n σ g = true) (hx : ev n σ x = .pointer (some ⟨b, o, none⟩)) (ht : P.underlying t = some d) (hd : plainD d = false)
    (hs : ∀ w, (sizeOf t).run P w = .ok m w) (hb : w.heap[b]? = some (.cells c e fr)) (ho : o + m ≤ c.size)
    (next : WO P n ops rest Q (updo σ dst ((.agg ((c.toList.drop o).take m).toArray))) w) : WO P n ops (⟨dst, .load t x, ty, ps, af, g⟩ :: rest) Q σ w :=
  WO_val hg (R_loadrow hx ht hd hs hb ho) next
theorem R_peql {t t' e : TypeId} {x y : Operand} {a : Option Addr} (hx : ev n σ x = .pointer a) (hy : ev n σ y = .pointer none) (ht : P.underlying t = some (.pointer e))
     :
    (execOp (ev n σ) ⟨dst, .binOp .eql t x y t', ty, ps, af, g⟩).run P w = .ok (.value ((.bool a.isNone))) w := by
  have h := run_eqIn_ptr w 9999 a ht
  have h2 : (binOp .eql t (.pointer a) (.pointer none)).run P w = .ok (.bool a.isNone) w := by
    cases a <;> simp only [binOp] <;> simp [Op.equal, Op.maxDepth, h]
  simp [execOp, hx, hy, eqGuard, h2, go_sem]
theorem WO_peql {t t' e : TypeId} {x y : Operand} {a : Option Addr} (hg : gOk ops n σ g = true) (hx : ev n σ x = .pointer a) (hy : ev n σ y = .pointer none) (ht : P.underlying t = some (.pointer e))
    (next : WO P n ops rest Q (updo σ dst ((.bool a.isNone))) w) : WO P n ops (⟨dst, .binOp .eql t x y t', ty, ps, af, g⟩ :: rest) Q σ w :=
  WO_val hg (R_peql hx hy ht) next
end
end Go.Proofs.YthhacfehjgfpbaaDoor
end
section
namespace Go.Proofs.YthhacfehjgfpbaaDoor
open Go Go.RowKit
section
variable {P : Program} {n : Nat} {Q : Exit → (Nat → Value) → World → Prop} {σ : Nat → Value} {w : World}
variable {ops : Array Oper} {rest : List Oper} {dst : Option Tmp} {ty : TypeId} {ps : String} {af : Array Edge} {g : Option (Nat × Bool)}
end
end Go.Proofs.YthhacfehjgfpbaaDoor
end
section
namespace Go.Proofs.YthhacfehjgfpbaaDoor
open Go Go.RowKit
def RowIs (w : World) (v : Value) (n sz : Nat) (xs : List Value) : Prop :=
  xs.length = n * sz ∧ ((n = 0 ∧ ∃ a c, v = .slice a 0 c) ∨ ∃ b o c, v = .slice (some ⟨b, o, none⟩) n c ∧ ∀ j u, xs[j]? = some u → w.cell? ⟨b, o + j, none⟩ = some u)
theorem cell_lt {w : World} {a : Addr} {v : Value} (h : w.cell? a = some v) : a.block < w.heap.size := World.block_lt_of_cell? w a h
theorem RowIs.ext {w w' : World} {v : Value} {n sz : Nat} {xs : List Value} (h : RowIs w v n sz xs) (hb : Below w.heap.size w w') : RowIs w' v n sz xs := by
  obtain ⟨h1, h2⟩ := h
  refine ⟨h1, ?_⟩
  rcases h2 with h2 | ⟨b, o, c, hv, hc⟩
  · exact .inl h2
  · exact .inr ⟨b, o, c, hv, fun j u hu => by rw [hb.cell (p := ⟨b, o + j, none⟩) (cell_lt (hc j u hu))]; exact hc j u hu⟩
theorem RowIs.drew {w w' : World} {v : Value} {n sz : Nat} {xs : List Value} (h : RowIs w v n sz xs) (hd : Drew w w') : RowIs w' v n sz xs := by
  obtain ⟨k, rfl⟩ := hd
  obtain ⟨h1, h2⟩ := h
  refine ⟨h1, ?_⟩
  rcases h2 with h2 | ⟨b, o, c, hv, hc⟩
  · exact .inl h2
  · exact .inr ⟨b, o, c, hv, fun j u hu => hc j u hu⟩
theorem RowIs.owned {w : World} {base : Nat} {e : TypeId} {v : Value} {n sz : Nat} {xs : List Value} (h : w.ownsRow base e sz v n xs) : RowIs w v n sz xs := by
  refine ⟨h.1, ?_⟩
  rcases h.2 with ⟨rfl, rfl⟩ | ⟨g, cap, cur, rfl, _, hg, _, _, _, ht⟩
  · exact .inl ⟨rfl, _, _, rfl⟩
  · refine .inr ⟨g, 0, cap, rfl, fun j u hu => ?_⟩
    have := h.cells (g := g) rfl j u hu
    have hadd : (⟨g, 0, none⟩ : Addr).add j = ⟨g, 0 + j, none⟩ := by unfold Addr.add; split <;> simp_all
    rw [hadd] at this; exact this
section
variable {P : Program} {n : Nat} {Q : Exit → (Nat → Value) → World → Prop} {σ : Nat → Value} {w : World}
variable {ops : Array Oper} {rest : List Oper} {dst : Option Tmp} {ty : TypeId} {ps : String} {af : Array Edge} {g : Option (Nat × Bool)}
theorem R_lenrow {t e : TypeId} {x : Operand} {v : Value} {w0 : World} {m sz : Nat} {xs : List Value} (hx : ev n σ x = v) (hr : RowIs w0 v m sz xs) (ht : P.underlying t = some (.slice e)) :
    (execOp (ev n σ) ⟨dst, .call { callee := .builtin .len, args := #[x], argTypes := #[t] }, ty, ps, af, g⟩).run P w = .ok (.value (.int .i64 (m : Int))) w := by
  rcases hr.2 with ⟨rfl, a, c, rfl⟩ | ⟨b, o, c, rfl, _⟩ <;>
    simp [execOp, resolve, invoke, builtin, Builtin.len_, hx, run_underlying ht, go_sem, goInt]
theorem WO_lenrow {t e : TypeId} {x : Operand} {v : Value} {w0 : World} {m sz : Nat} {xs : List Value} (hg : gOk ops n σ g = true) (hx : ev n σ x = v) (hr : RowIs w0 v m sz xs) (ht : P.underlying t = some (.slice e))
    (next : WO P n ops rest Q (updo σ dst (.int .i64 (m : Int))) w) : WO P n ops (⟨dst, .call { callee := .builtin .len, args := #[x], argTypes := #[t] }, ty, ps, af, g⟩ :: rest) Q σ w :=
  WO_val hg (R_lenrow hx hr ht) next
theorem WO_idx {t e : TypeId} {x y : Operand} {v : Value} {m sz : Nat} {xs : List Value} {k : IntKind} {a : Int} {i : Nat} (hg : gOk ops n σ g = true) (hx : ev n σ x = v) (hy : ev n σ y = .int k a)
    (hr : RowIs w v m sz xs) (ht : P.underlying t = some (.slice e)) (hs : ∀ w, (sizeOf e).run P w = .ok sz w) (ha : a = (i : Int)) (hi : i < m)
    (next : ∀ b o, (∀ j u, j < sz → xs[i * sz + j]? = some u → w.cell? ⟨b, o + j, none⟩ = some u) → WO P n ops rest Q (updo σ dst (.pointer (some ⟨b, o, none⟩))) w) :
    WO P n ops (⟨dst, .indexAddr t x y, ty, ps, af, g⟩ :: rest) Q σ w := by
  subst ha
  rcases hr.2 with ⟨rfl, _⟩ | ⟨b, o, c, rfl, hc⟩
  · omega
  · have hadd : (⟨b, o, none⟩ : Addr).add (i * sz) = ⟨b, o + i * sz, none⟩ := by unfold Addr.add; split <;> simp_all
    refine WO_val hg (v := .pointer (some ⟨b, o + i * sz, none⟩)) ?_ (next b (o + i * sz) fun j u hj hu => by rw [Nat.add_assoc]; exact hc _ u hu)
    have h1 : (0 : Int) ≤ (i : Int) ∧ (i : Int) < (m : Int) := by omega
    simp [execOp, Instr.indexAt, asIntOf, hx, hy, run_underlying ht, hs, h1, hi, hadd, go_sem]
theorem getElem?_map_list {α : Type} (f : α → Value) (l : List α) (i : Nat) (a : α) (h : l[i]? = some a) : (l.map f)[i * 1 + 0]? = some (f a) := by simp [h]
theorem WO_loadagg {t : TypeId} {d : TypeDesc} {x : Operand} {b o : Nat} {vs : List Value} (hg : gOk ops n σ g = true) (hx : ev n σ x = .pointer (some ⟨b, o, none⟩)) (ht : P.underlying t = some d) (hd : plainD d = false)
    (hs : ∀ w, (sizeOf t).run P w = .ok vs.length w) (hc : ∀ j u, vs[j]? = some u → w.cell? ⟨b, o + j, none⟩ = some u)
    (next : WO P n ops rest Q (updo σ dst (.agg vs.toArray)) w) : WO P n ops (⟨dst, .load t x, ty, ps, af, g⟩ :: rest) Q σ w := by
  refine WO_val hg ?_ next
  have ha : (isAgg t).run P w = .ok true w := by cases d <;> simp_all [isAgg, run_underlying ht, plainD]
  have hr := run_loadCells_list (P := P) w ⟨b, o, none⟩ vs (fun j v hj => by
    have hadd : (⟨b, o, none⟩ : Addr).add j = ⟨b, o + j, none⟩ := by unfold Addr.add; split <;> simp_all
    rw [hadd]; exact hc j v hj)
  simp only [loadCells] at hr
  simp [execOp, Instr.loadAt, Instr.sureAddr, hx, loadVar, loadCells, ha, hs, hr, go_sem]
theorem WO_bslice {t e : TypeId} {k : Nat} {parts : Array (Nat × Operand)} {cs : Array Value} (hg : gOk ops n σ g = true)
    (h : ∀ w, (execOp (ev n σ) ⟨dst, .buildSlice t k parts, ty, ps, af, g⟩).run P w = .ok (.value (.slice (some ⟨w.heap.size, 0, none⟩) k k)) (w.alloc (.cells cs e)))
    (next : ∀ w', New w w' (.cells cs e) → WO P n ops rest Q (updo σ dst (.slice (some ⟨w.heap.size, 0, none⟩) k k)) w') :
    WO P n ops (⟨dst, .buildSlice t k parts, ty, ps, af, g⟩ :: rest) Q σ w := WO_val hg (h w) (next _ rfl)
theorem New.owned {w w' : World} {cs : Array Value} {e : TypeId} {base size k : Nat} (h : New w w' (.cells cs e)) (hb : base ≤ w.heap.size) (hm : k ≤ 9223372036854775807) (hs : cs.size = k * size) :
    w'.ownsRow base e size (.slice (some ⟨w.heap.size, 0, none⟩) k k) k cs.toList := by
  unfold New at h; subst h; exact World.ownsRow_lit w cs k hb (by unfold maxLen; omega) hs
theorem WO_append1 {t e : TypeId} {x y : Operand} {v : Value} {base m sz bytes : Nat} {xs : List Value} {b k c : Nat} {cs : Array Value} {fr : Nat × Nat}
    (hg : gOk ops n σ g = true) (hx : ev n σ x = v) (hy : ev n σ y = .slice (some ⟨b, 0, none⟩) k c) (ht : P.underlying t = some (.slice e))
    (hi : (P.info? e).map (fun i => (i.zero.map fun z => z.cells.size, i.size, i.bytes)) = some (some sz, sz, bytes)) (hsz : 0 < sz) (hown : w.ownsRow base e sz v m xs)
    (hl : cs.size = k * sz) (hnews : w.heap[b]? = some (.cells cs e fr)) (h1 : ∀ u ∈ cs.toList, u.oneCell' = true)
    (h63 : m + k ≤ 9223372036854775807) (hbytes : (m + k) * bytes ≤ 140737488355328) (hbase : base ≤ w.heap.size)
    (next : ∀ v' w', w'.ownsRow base e sz v' (m + k) (xs ++ cs.toList) → w.grownBy w' v.ownBlock → (v'.ownBlock = v.ownBlock ∨ v'.ownBlock = some w.heap.size) → WO P n ops rest Q (updo σ dst v') w') :
    WO P n ops (⟨dst, .call { callee := .builtin .append, args := #[x, y], argTypes := #[t, t] }, ty, ps, af, g⟩ :: rest) Q σ w := by
  have hadd : ∀ j, (⟨b, 0, none⟩ : Addr).add j = ⟨b, 0 + j, none⟩ := fun j => by unfold Addr.add; split <;> simp_all
  obtain ⟨i, hi, z, hz, hzs, hsize, hby⟩ : ∃ i, P.info? e = some i ∧ ∃ z, i.zero = some z ∧ z.cells.size = sz ∧ i.size = sz ∧ i.bytes = bytes := by
    rw [Option.map_eq_some_iff] at hi
    obtain ⟨i, h, h'⟩ := hi
    simp only [Prod.mk.injEq, Option.map_eq_some_iff] at h'
    obtain ⟨⟨z, a, b⟩, c, d⟩ := h'
    exact ⟨i, h, z, a, b, c, d⟩
  obtain ⟨v', w', hr, h2, h3, _, h5⟩ := run_append_own_at (P := P) w base t ty e i z sz bytes ht hi hz hsize hby hzs hsz v m xs hown ⟨b, 0, none⟩ k c cs.toList (by simpa using hl)
    (fun j u hu => by rw [hadd, Nat.zero_add]; exact cell_of hnews (by simpa using hu)) h1 (by unfold maxLen; omega) hbytes hbase
  refine WO_val hg ?_ (next v' w' h2 h3 h5)
  simp only [execOp, resolve, invoke, builtin, Sem.run_bind, Sem.run_pure, Result.andThen_ok, List.map_toArray, List.map_cons, List.map_nil, hx, hy, hr]
end
section
variable {w w' w0 : World} {base base' sz sz' m m' : Nat} {e e' : TypeId} {v v' : Value} {xs xs' : List Value}
theorem grown_keep {k : Nat} {x : Obj} {row : Option Nat} (g : w.grownBy w' row) (h : w.heap[k]? = some x) (hne : some k ≠ row) : w'.heap[k]? = some x := by rw [g.block k (heap_lt h) hne]; exact h
theorem own_ne_cell {b : Nat} {c : Array Value} {t : TypeId} {fr : Nat × Nat} (o : w.ownsRow base e sz v m xs) (h : w.heap[b]? = some (.cells c t fr)) (hne : t ≠ e) : v.ownBlock ≠ some b := by
  rcases o.2 with ⟨rfl, _⟩ | ⟨g, cap, cur, rfl, _, hg, _⟩
  · simp [Value.ownBlock]
  · intro hh
    simp only [Value.ownBlock, Option.some.injEq] at hh
    subst hh; rw [hg] at h; simp at h; exact hne h.2.1.symm
theorem cell_ne_own {b : Nat} {c : Array Value} {t : TypeId} {fr : Nat × Nat} (o : w.ownsRow base e sz v m xs) (h : w.heap[b]? = some (.cells c t fr)) (hne : t ≠ e) : some b ≠ v.ownBlock := (own_ne_cell o h hne).symm
theorem grown_below {row : Option Nat} (g : w.grownBy w' row) (hb : Below w0.heap.size w0 w) (hr : ∀ k, row = some k → w0.heap.size ≤ k) : Below w0.heap.size w0 w' := hb.grown g hb.size hr
theorem own_block_ge (o : w.ownsRow base e sz v m xs) : ∀ k, v.ownBlock = some k → base ≤ k := fun k hk => (o.lt k hk).1
theorem oneC_owned (o : w.ownsRow base e sz v m xs) : oneC v = true := by
  rcases o.2 with ⟨rfl, _⟩ | ⟨g, cap, cur, rfl, _⟩ <;> rfl
end
def nth {α : Type} [Inhabited α] (l : List α) (i : Nat) : α := (l[i]?).getD default
theorem nth_eq {α : Type} [Inhabited α] {l : List α} {i : Nat} (h : i < l.length) : l[i]? = some (nth l i) := by unfold nth; rw [List.getElem?_eq_getElem h]; rfl
section
variable {P : Program} {n : Nat} {Q : Exit → (Nat → Value) → World → Prop} {σ : Nat → Value} {w : World}
variable {ops : Array Oper} {rest : List Oper} {dst : Option Tmp} {ty : TypeId} {ps : String} {af : Array Edge} {g : Option (Nat × Bool)}
theorem WO_idx1 {α : Type} [Inhabited α] {f : α → Value} {l : List α} {t e : TypeId} {x y : Operand} {v : Value} {m i : Nat} {k : IntKind} {a : Int} (hg : gOk ops n σ g = true) (hx : ev n σ x = v) (hy : ev n σ y = .int k a)
    (hr : RowIs w v m 1 (l.map f)) (ht : P.underlying t = some (.slice e)) (hs : ∀ w, (sizeOf e).run P w = .ok 1 w) (ha : a = (i : Int)) (hi : i < m)
    (next : ∀ b o, w.cell? ⟨b, o, none⟩ = some (f (nth l i)) → WO P n ops rest Q (updo σ dst (.pointer (some ⟨b, o, none⟩))) w) :
    WO P n ops (⟨dst, .indexAddr t x y, ty, ps, af, g⟩ :: rest) Q σ w := by
  have hl : l.length = m := by have := hr.1; simpa using this
  refine WO_idx hg hx hy hr ht hs ha hi fun b o hc => next b o (hc 0 _ (by omega) (getElem?_map_list f l i _ (nth_eq (by omega))))
end
end Go.Proofs.YthhacfehjgfpbaaDoor
end
section
namespace Go.Proofs
open Go.Shelf
def Tryd.lays169_ren : Go.Shelf.Ren := ⟨fun | 169 => 18 | n => n, fun | 70 => 44 | 9 => 9 | 0 => 0 | 72 => 47 | 37 => 45 | 127 => 61 | 3 => 3 | 5 => 5 | n => n, fun | n => n⟩
theorem Tryd.lays169 : Go.Proofs.Lays.n169 Tryd.prog Tryd.lays169_ren := {
  mixed := by kernel_rfl
  f169 := Tryd.func18.trans (congrArg some (by kernel_rfl))
  t0 := Tryd.underlying0
  a0 := Tryd.isAgg0
  z0 := Tryd.sizeOf0
  v0 := Tryd.zeroValue0
  t3 := Tryd.underlying3
  a3 := Tryd.isAgg3
  z3 := Tryd.sizeOf3
  v3 := Tryd.zeroValue3
  t9 := Tryd.underlying9
  a9 := Tryd.isAgg9
  z9 := Tryd.sizeOf9
  v9 := Tryd.zeroValue9
  t37 := Tryd.underlying45
  a37 := Tryd.isAgg45
  z37 := Tryd.sizeOf45
  v37 := Tryd.zeroValue45
  t70 := Tryd.underlying44
  a70 := Tryd.isAgg44
  z70 := Tryd.sizeOf44
  v70 := Tryd.zeroValue44
  t72 := Tryd.underlying47
  a72 := Tryd.isAgg47
  z72 := Tryd.sizeOf47
  v72 := Tryd.zeroValue47
  t127 := Tryd.underlying61
  a127 := Tryd.isAgg61
  z127 := Tryd.sizeOf61
  v127 := Tryd.zeroValue61 }
theorem Tryd.Builder_Extra_169 : Builder.Extra Tryd.prog Tryd.lays169_ren := {
  sizeBuilder := by kernel_rfl
  liesBuilder := by kernel_rfl
  t5 := Tryd.underlying5
  a5 := Tryd.isAgg5
  z5 := Tryd.sizeOf5
  v5 := Tryd.zeroValue5
  infoByte := by kernel_rfl
  cellsByte := by kernel_rfl
  sizeByte := by kernel_rfl
  neB5 := by decide }
def Tryd.lays156_ren : Go.Shelf.Ren := ⟨fun | 156 => 10 | 165 => 16 | 166 => 17 | 169 => 18 | 240 => 28 | 241 => 29 | 276 => 40 | 277 => 41 | n => n, fun | 31 => 32 | 9 => 9 | 3 => 3 | 4 => 4 | 0 => 0 | 20 => 20 | 72 => 47 | 76 => 51 | 70 => 44 | 37 => 45 | 75 => 50 | 127 => 61 | 164 => 75 | 5 => 5 | 80 => 53 | n => n, fun | n => n⟩
theorem Tryd.lays156 : Go.Proofs.Lays.n156 Tryd.prog Tryd.lays156_ren := {
  mixed := by kernel_rfl
  f156 := Tryd.func10.trans (congrArg some (by kernel_rfl))
  f165 := Tryd.func16.trans (congrArg some (by kernel_rfl))
  f166 := Tryd.func17.trans (congrArg some (by kernel_rfl))
  f169 := Tryd.func18.trans (congrArg some (by kernel_rfl))
  f240 := Tryd.func28.trans (congrArg some (by kernel_rfl))
  f241 := Tryd.func29.trans (congrArg some (by kernel_rfl))
  f276 := Tryd.func40.trans (congrArg some (by kernel_rfl))
  f277 := Tryd.func41.trans (congrArg some (by kernel_rfl))
  t0 := Tryd.underlying0
  a0 := Tryd.isAgg0
  z0 := Tryd.sizeOf0
  v0 := Tryd.zeroValue0
  t3 := Tryd.underlying3
  a3 := Tryd.isAgg3
  z3 := Tryd.sizeOf3
  v3 := Tryd.zeroValue3
  t4 := Tryd.underlying4
  a4 := Tryd.isAgg4
  z4 := Tryd.sizeOf4
  v4 := Tryd.zeroValue4
  t9 := Tryd.underlying9
  a9 := Tryd.isAgg9
  z9 := Tryd.sizeOf9
  v9 := Tryd.zeroValue9
  t20 := Tryd.underlying20
  a20 := Tryd.isAgg20
  z20 := Tryd.sizeOf20
  v20 := Tryd.zeroValue20
  t31 := Tryd.underlying32
  a31 := Tryd.isAgg32
  z31 := Tryd.sizeOf32
  v31 := Tryd.zeroValue32
  t37 := Tryd.underlying45
  a37 := Tryd.isAgg45
  z37 := Tryd.sizeOf45
  v37 := Tryd.zeroValue45
  t70 := Tryd.underlying44
  a70 := Tryd.isAgg44
  z70 := Tryd.sizeOf44
  v70 := Tryd.zeroValue44
  t72 := Tryd.underlying47
  a72 := Tryd.isAgg47
  z72 := Tryd.sizeOf47
  v72 := Tryd.zeroValue47
  t75 := Tryd.underlying50
  a75 := Tryd.isAgg50
  z75 := Tryd.sizeOf50
  v75 := Tryd.zeroValue50
  t76 := Tryd.underlying51
  a76 := Tryd.isAgg51
  z76 := Tryd.sizeOf51
  v76 := Tryd.zeroValue51
  t127 := Tryd.underlying61
  a127 := Tryd.isAgg61
  z127 := Tryd.sizeOf61
  v127 := Tryd.zeroValue61
  t164 := Tryd.underlying75
  a164 := Tryd.isAgg75
  z164 := Tryd.sizeOf75
  v164 := Tryd.zeroValue75 }
theorem Tryd.Builder_Extra_156 : Builder.Extra Tryd.prog Tryd.lays156_ren := {
  sizeBuilder := by kernel_rfl
  liesBuilder := by kernel_rfl
  t5 := Tryd.underlying5
  a5 := Tryd.isAgg5
  z5 := Tryd.sizeOf5
  v5 := Tryd.zeroValue5
  infoByte := by kernel_rfl
  cellsByte := by kernel_rfl
  sizeByte := by kernel_rfl
  neB5 := by decide }
open Go.RowKit in
theorem Tryd.strings_Join (bk o c : Nat) (xs : List ByteArray) (sep : ByteArray) (w : World) (hcells : ∀ (j : Nat) x, xs[j]? = some x → w.cell? ⟨bk, o + j, none⟩ = some (.string x)) (hbk : bk < w.heap.size) (hN : xs.length ≤ 140737488355328) (hcap : xs.length ≤ c) (hlen : (Lib.join (xs.map (·.data.toList)) sep.data.toList).length ≤ 140737488355328) :
    Calls Tryd.prog 10 #[.slice (some ⟨bk, o, none⟩) xs.length c, .string sep] w fun e w' => e = .returned (.string ⟨(Lib.join (xs.map (·.data.toList)) sep.data.toList).toArray⟩) ∧ Below w.heap.size w w' := Any.strings_Join Tryd.lays156 Tryd.Builder_Extra_156 bk o c xs sep w hcells hbk hN hcap hlen
def Tryd.lays137_ren : Go.Shelf.Ren := ⟨fun | 137 => 73 | 217 => 54 | 266 => 66 | n => n, fun | 9 => 9 | 5 => 5 | 3 => 3 | n => n, fun | n => n⟩
theorem Tryd.lays137 : Go.Proofs.Lays.n137 Tryd.prog Tryd.lays137_ren := {
  mixed := by kernel_rfl
  f137 := Tryd.func73.trans (congrArg some (by kernel_rfl))
  f217 := Tryd.func54.trans (congrArg some (by kernel_rfl))
  f266 := Tryd.func66.trans (congrArg some (by kernel_rfl))
  t3 := Tryd.underlying3
  a3 := Tryd.isAgg3
  z3 := Tryd.sizeOf3
  v3 := Tryd.zeroValue3
  t5 := Tryd.underlying5
  a5 := Tryd.isAgg5
  z5 := Tryd.sizeOf5
  v5 := Tryd.zeroValue5
  t9 := Tryd.underlying9
  a9 := Tryd.isAgg9
  z9 := Tryd.sizeOf9
  v9 := Tryd.zeroValue9 }
open Go.RowKit in
theorem Tryd.strings_IndexByte (s : ByteArray) (c : Int) (w : World) :
    Calls Tryd.prog 73 #[.string s, .int .u8 c] w fun e w' => e = .returned (.int .i64 (Lib.indexByte s.data.toList c.toNat.toUInt8)) ∧ w' = w := Any.strings_IndexByte Tryd.lays137 s c w
open Go.RowKit in
theorem Tryd.Builder_String_any_k (B b : Nat) (l : List UInt8) (w : World) (h : Lib.IsBuilderF 47 5 B b (Lib.byteCells l) w) (hBw : B ≤ w.heap.size) :
    Calls Tryd.prog 18 #[.pointer (some ⟨b, 0, none⟩)] w fun e w' => e = .returned (.string ⟨l.toArray⟩) ∧ (Lib.IsBuilderF 47 5 B b (Lib.byteCells l) w' ∧ Below B w w' ∧ Lib.OthersKept 5 (some b) w w') := Any.Builder_String_any_k Tryd.lays169 Tryd.Builder_Extra_169 B b l w h hBw
def Tryd.lays219_ren : Go.Shelf.Ren := ⟨fun | 219 => 45 | 217 => 54 | 225 => 55 | 224 => 56 | 267 => 57 | 266 => 66 | 314 => 67 | n => n, fun | 9 => 9 | 3 => 3 | 4 => 4 | 5 => 5 | 46 => 89 | 146 => 108 | 51 => 107 | n => n, fun | 1 => 0 | n => n⟩
theorem Tryd.lays219 : Go.Proofs.Lays.n219 Tryd.prog Tryd.lays219_ren := {
  mixed := by kernel_rfl
  f217 := Tryd.func54.trans (congrArg some (by kernel_rfl))
  f219 := Tryd.func45.trans (congrArg some (by kernel_rfl))
  f224 := Tryd.func56.trans (congrArg some (by kernel_rfl))
  f225 := Tryd.func55.trans (congrArg some (by kernel_rfl))
  f266 := Tryd.func66.trans (congrArg some (by kernel_rfl))
  f267 := Tryd.func57.trans (congrArg some (by kernel_rfl))
  f314 := Tryd.func67.trans (congrArg some (by kernel_rfl))
  t3 := Tryd.underlying3
  a3 := Tryd.isAgg3
  z3 := Tryd.sizeOf3
  v3 := Tryd.zeroValue3
  t4 := Tryd.underlying4
  a4 := Tryd.isAgg4
  z4 := Tryd.sizeOf4
  v4 := Tryd.zeroValue4
  t5 := Tryd.underlying5
  a5 := Tryd.isAgg5
  z5 := Tryd.sizeOf5
  v5 := Tryd.zeroValue5
  t9 := Tryd.underlying9
  a9 := Tryd.isAgg9
  z9 := Tryd.sizeOf9
  v9 := Tryd.zeroValue9
  t46 := Tryd.underlying89
  a46 := Tryd.isAgg89
  z46 := Tryd.sizeOf89
  v46 := Tryd.zeroValue89
  t51 := Tryd.underlying107
  a51 := Tryd.isAgg107
  z51 := Tryd.sizeOf107
  v51 := Tryd.zeroValue107
  t146 := Tryd.underlying108
  a146 := Tryd.isAgg108
  z146 := Tryd.sizeOf108
  v146 := Tryd.zeroValue108
  g1 := by kernel_rfl }
open Go.RowKit Go.Lib in
theorem Tryd.stringslite_Index_one (s : ByteArray) (c : UInt8) (w : World) :
    Calls Tryd.prog 45 #[.string s, .string ⟨#[c]⟩] w fun e w' => e = .returned (.int .i64 (Lib.indexByte s.data.toList c)) ∧ w' = w := Any.stringslite_Index_one Tryd.lays219 s c w
def Tryd.lays144_ren : Go.Shelf.Ren := ⟨fun | 144 => 77 | 143 => 32 | 219 => 45 | 217 => 54 | 225 => 55 | 224 => 56 | 267 => 57 | 266 => 66 | 314 => 67 | n => n, fun | 9 => 9 | 4 => 4 | 3 => 3 | 5 => 5 | 46 => 89 | 146 => 108 | 51 => 107 | n => n, fun | 1 => 0 | n => n⟩
theorem Tryd.lays144 : Go.Proofs.Lays.n144 Tryd.prog Tryd.lays144_ren := {
  mixed := by kernel_rfl
  f143 := Tryd.func32.trans (congrArg some (by kernel_rfl))
  f144 := Tryd.func77.trans (congrArg some (by kernel_rfl))
  f217 := Tryd.func54.trans (congrArg some (by kernel_rfl))
  f219 := Tryd.func45.trans (congrArg some (by kernel_rfl))
  f224 := Tryd.func56.trans (congrArg some (by kernel_rfl))
  f225 := Tryd.func55.trans (congrArg some (by kernel_rfl))
  f266 := Tryd.func66.trans (congrArg some (by kernel_rfl))
  f267 := Tryd.func57.trans (congrArg some (by kernel_rfl))
  f314 := Tryd.func67.trans (congrArg some (by kernel_rfl))
  t3 := Tryd.underlying3
  a3 := Tryd.isAgg3
  z3 := Tryd.sizeOf3
  v3 := Tryd.zeroValue3
  t4 := Tryd.underlying4
  a4 := Tryd.isAgg4
  z4 := Tryd.sizeOf4
  v4 := Tryd.zeroValue4
  t5 := Tryd.underlying5
  a5 := Tryd.isAgg5
  z5 := Tryd.sizeOf5
  v5 := Tryd.zeroValue5
  t9 := Tryd.underlying9
  a9 := Tryd.isAgg9
  z9 := Tryd.sizeOf9
  v9 := Tryd.zeroValue9
  t46 := Tryd.underlying89
  a46 := Tryd.isAgg89
  z46 := Tryd.sizeOf89
  v46 := Tryd.zeroValue89
  t51 := Tryd.underlying107
  a51 := Tryd.isAgg107
  z51 := Tryd.sizeOf107
  v51 := Tryd.zeroValue107
  t146 := Tryd.underlying108
  a146 := Tryd.isAgg108
  z146 := Tryd.sizeOf108
  v146 := Tryd.zeroValue108
  g1 := by kernel_rfl }
open Go.RowKit Go.Lib in
theorem Tryd.strings_Contains_one (s : ByteArray) (c : UInt8) (w : World) :
    Calls Tryd.prog 77 #[.string s, .string ⟨#[c]⟩] w fun e w' => e = .returned (.bool (decide (0 ≤ Lib.indexByte s.data.toList c))) ∧ w' = w := Any.strings_Contains_one Tryd.lays144 s c w
def Tryd.laysGw15_ren : Go.Shelf.Ren := ⟨fun | 15 => 27 | 20 => 39 | n => n, fun | 9 => 9 | 23 => 59 | 3 => 3 | 4 => 4 | 0 => 0 | 21 => 21 | n => n, fun | n => n⟩
theorem Tryd.laysGw15 : Go.Proofs.LaysGw.n15 Tryd.prog Tryd.laysGw15_ren := {
  mixed := by kernel_rfl
  f15 := Tryd.func27.trans (congrArg some (by kernel_rfl))
  f20 := Tryd.func39.trans (congrArg some (by kernel_rfl))
  t0 := Tryd.underlying0
  a0 := Tryd.isAgg0
  z0 := Tryd.sizeOf0
  v0 := Tryd.zeroValue0
  i0 := by kernel_rfl
  t3 := Tryd.underlying3
  a3 := Tryd.isAgg3
  z3 := Tryd.sizeOf3
  v3 := Tryd.zeroValue3
  i3 := by kernel_rfl
  t4 := Tryd.underlying4
  a4 := Tryd.isAgg4
  z4 := Tryd.sizeOf4
  v4 := Tryd.zeroValue4
  i4 := by kernel_rfl
  t9 := Tryd.underlying9
  a9 := Tryd.isAgg9
  z9 := Tryd.sizeOf9
  v9 := Tryd.zeroValue9
  i9 := by kernel_rfl
  t21 := Tryd.underlying21
  a21 := Tryd.isAgg21
  z21 := Tryd.sizeOf21
  v21 := Tryd.zeroValue21
  i21 := by kernel_rfl
  t23 := Tryd.underlying59
  a23 := Tryd.isAgg59
  z23 := Tryd.sizeOf59
  v23 := Tryd.zeroValue59
  i23 := by kernel_rfl }
def Tryd.lays147_ren : Go.Shelf.Ren := ⟨fun | 147 => 11 | 221 => 19 | 268 => 30 | 138 => 31 | 143 => 32 | 195 => 42 | 197 => 43 | 218 => 44 | 219 => 45 | 260 => 53 | 217 => 54 | 225 => 55 | 224 => 56 | 267 => 57 | 266 => 66 | 314 => 67 | n => n, fun | 9 => 9 | 3 => 3 | 31 => 32 | 4 => 4 | 0 => 0 | 105 => 79 | 21 => 21 | 5 => 5 | 46 => 89 | 119 => 103 | 139 => 106 | 138 => 105 | 146 => 108 | 51 => 107 | n => n, fun | 1 => 0 | 3 => 1 | 4 => 2 | n => n⟩
theorem Tryd.lays147 : Go.Proofs.Lays.n147 Tryd.prog Tryd.lays147_ren := {
  mixed := by kernel_rfl
  f138 := Tryd.func31.trans (congrArg some (by kernel_rfl))
  f143 := Tryd.func32.trans (congrArg some (by kernel_rfl))
  f147 := Tryd.func11.trans (congrArg some (by kernel_rfl))
  f195 := Tryd.func42.trans (congrArg some (by kernel_rfl))
  f197 := Tryd.func43.trans (congrArg some (by kernel_rfl))
  f217 := Tryd.func54.trans (congrArg some (by kernel_rfl))
  f218 := Tryd.func44.trans (congrArg some (by kernel_rfl))
  f219 := Tryd.func45.trans (congrArg some (by kernel_rfl))
  f221 := Tryd.func19.trans (congrArg some (by kernel_rfl))
  f224 := Tryd.func56.trans (congrArg some (by kernel_rfl))
  f225 := Tryd.func55.trans (congrArg some (by kernel_rfl))
  f260 := Tryd.func53.trans (congrArg some (by kernel_rfl))
  f266 := Tryd.func66.trans (congrArg some (by kernel_rfl))
  f267 := Tryd.func57.trans (congrArg some (by kernel_rfl))
  f268 := Tryd.func30.trans (congrArg some (by kernel_rfl))
  f314 := Tryd.func67.trans (congrArg some (by kernel_rfl))
  t0 := Tryd.underlying0
  a0 := Tryd.isAgg0
  z0 := Tryd.sizeOf0
  v0 := Tryd.zeroValue0
  t3 := Tryd.underlying3
  a3 := Tryd.isAgg3
  z3 := Tryd.sizeOf3
  v3 := Tryd.zeroValue3
  t4 := Tryd.underlying4
  a4 := Tryd.isAgg4
  z4 := Tryd.sizeOf4
  v4 := Tryd.zeroValue4
  t5 := Tryd.underlying5
  a5 := Tryd.isAgg5
  z5 := Tryd.sizeOf5
  v5 := Tryd.zeroValue5
  t9 := Tryd.underlying9
  a9 := Tryd.isAgg9
  z9 := Tryd.sizeOf9
  v9 := Tryd.zeroValue9
  t21 := Tryd.underlying21
  a21 := Tryd.isAgg21
  z21 := Tryd.sizeOf21
  v21 := Tryd.zeroValue21
  t31 := Tryd.underlying32
  a31 := Tryd.isAgg32
  z31 := Tryd.sizeOf32
  v31 := Tryd.zeroValue32
  t46 := Tryd.underlying89
  a46 := Tryd.isAgg89
  z46 := Tryd.sizeOf89
  v46 := Tryd.zeroValue89
  t51 := Tryd.underlying107
  a51 := Tryd.isAgg107
  z51 := Tryd.sizeOf107
  v51 := Tryd.zeroValue107
  t105 := Tryd.underlying79
  a105 := Tryd.isAgg79
  z105 := Tryd.sizeOf79
  v105 := Tryd.zeroValue79
  t119 := Tryd.underlying103
  a119 := Tryd.isAgg103
  z119 := Tryd.sizeOf103
  t138 := Tryd.underlying105
  a138 := Tryd.isAgg105
  z138 := Tryd.sizeOf105
  v138 := Tryd.zeroValue105
  t139 := Tryd.underlying106
  a139 := Tryd.isAgg106
  z139 := Tryd.sizeOf106
  v139 := Tryd.zeroValue106
  t146 := Tryd.underlying108
  a146 := Tryd.isAgg108
  z146 := Tryd.sizeOf108
  v146 := Tryd.zeroValue108
  g1 := by kernel_rfl
  g3 := by kernel_rfl
  g4 := by kernel_rfl }
open Go.RowKit Go.Lib in
theorem Tryd.strings_SplitN (s sep : ByteArray) (n : Nat) (m : Int) (w : World) (hs : s.size < 4294967281) (hm : w.cell? ⟨0, 0, none⟩ = some (.int .i64 m)) (h1 : 1 ≤ sep.size) (hn : 1 ≤ n) (hn63 : n ≤ 9223372036854775807) :
    Calls Tryd.prog 11 #[.string s, .string sep, .int .i64 n] w fun e w' =>
      e = .returned (.slice (some ⟨w.heap.size, 0, none⟩) (Lib.splitB sep 0 (min n (s.size + 1) - 1) s).length (min n (s.size + 1))) ∧ w' = w.alloc (.cells (Lib.cellsOf (Lib.splitB sep 0 (min n (s.size + 1) - 1) s) (min n (s.size + 1))) 9) := Any.strings_SplitN Tryd.lays147 (by kernel_rfl) s sep n m w hs hm h1 hn hn63
def Tryd.laysM147_ren : Go.Shelf.Ren := ⟨fun | 147 => 11 | 221 => 19 | 268 => 30 | 138 => 31 | 143 => 32 | 195 => 42 | 197 => 43 | 218 => 44 | 219 => 45 | 260 => 53 | 217 => 54 | 225 => 55 | 224 => 56 | 267 => 57 | 266 => 66 | 314 => 67 | n => n, fun | 9 => 9 | 3 => 3 | 31 => 32 | 4 => 4 | 0 => 0 | 105 => 79 | 21 => 21 | 5 => 5 | 46 => 89 | 119 => 103 | 139 => 106 | 138 => 105 | 146 => 108 | 51 => 107 | n => n, fun | 1 => 0 | 3 => 1 | 4 => 2 | n => n⟩
theorem Tryd.laysM147 : Go.Proofs.LaysM.n147 Tryd.prog Tryd.laysM147_ren := {
  mixed := by kernel_rfl
  f138 := Tryd.func31.trans (congrArg some (by kernel_rfl))
  f143 := Tryd.func32.trans (congrArg some (by kernel_rfl))
  f147 := Tryd.func11.trans (congrArg some (by kernel_rfl))
  f195 := Tryd.func42.trans (congrArg some (by kernel_rfl))
  f197 := Tryd.func43.trans (congrArg some (by kernel_rfl))
  f217 := Tryd.func54.trans (congrArg some (by kernel_rfl))
  f218 := Tryd.func44.trans (congrArg some (by kernel_rfl))
  f219 := Tryd.func45.trans (congrArg some (by kernel_rfl))
  f221 := Tryd.func19.trans (congrArg some (by kernel_rfl))
  f224 := Tryd.func56.trans (congrArg some (by kernel_rfl))
  f225 := Tryd.func55.trans (congrArg some (by kernel_rfl))
  f260 := Tryd.func53.trans (congrArg some (by kernel_rfl))
  f266 := Tryd.func66.trans (congrArg some (by kernel_rfl))
  f267 := Tryd.func57.trans (congrArg some (by kernel_rfl))
  f268 := Tryd.func30.trans (congrArg some (by kernel_rfl))
  f314 := Tryd.func67.trans (congrArg some (by kernel_rfl))
  t0 := Tryd.underlying0
  a0 := Tryd.isAgg0
  z0 := Tryd.sizeOf0
  v0 := Tryd.zeroValue0
  t3 := Tryd.underlying3
  a3 := Tryd.isAgg3
  z3 := Tryd.sizeOf3
  v3 := Tryd.zeroValue3
  t4 := Tryd.underlying4
  a4 := Tryd.isAgg4
  z4 := Tryd.sizeOf4
  v4 := Tryd.zeroValue4
  t5 := Tryd.underlying5
  a5 := Tryd.isAgg5
  z5 := Tryd.sizeOf5
  v5 := Tryd.zeroValue5
  t9 := Tryd.underlying9
  a9 := Tryd.isAgg9
  z9 := Tryd.sizeOf9
  v9 := Tryd.zeroValue9
  t21 := Tryd.underlying21
  a21 := Tryd.isAgg21
  z21 := Tryd.sizeOf21
  v21 := Tryd.zeroValue21
  t31 := Tryd.underlying32
  a31 := Tryd.isAgg32
  z31 := Tryd.sizeOf32
  v31 := Tryd.zeroValue32
  t46 := Tryd.underlying89
  a46 := Tryd.isAgg89
  z46 := Tryd.sizeOf89
  v46 := Tryd.zeroValue89
  t51 := Tryd.underlying107
  a51 := Tryd.isAgg107
  z51 := Tryd.sizeOf107
  v51 := Tryd.zeroValue107
  t105 := Tryd.underlying79
  a105 := Tryd.isAgg79
  z105 := Tryd.sizeOf79
  v105 := Tryd.zeroValue79
  t119 := Tryd.underlying103
  a119 := Tryd.isAgg103
  z119 := Tryd.sizeOf103
  t138 := Tryd.underlying105
  a138 := Tryd.isAgg105
  z138 := Tryd.sizeOf105
  v138 := Tryd.zeroValue105
  t139 := Tryd.underlying106
  a139 := Tryd.isAgg106
  z139 := Tryd.sizeOf106
  v139 := Tryd.zeroValue106
  t146 := Tryd.underlying108
  a146 := Tryd.isAgg108
  z146 := Tryd.sizeOf108
  v146 := Tryd.zeroValue108
  g1 := by kernel_rfl
  g3 := by kernel_rfl
  g4 := by kernel_rfl
  i0 := by kernel_rfl
  i3 := by kernel_rfl
  i4 := by kernel_rfl
  i5 := by kernel_rfl
  i9 := by kernel_rfl
  i21 := by kernel_rfl
  i31 := by kernel_rfl
  i46 := by kernel_rfl
  i51 := by kernel_rfl
  i105 := by kernel_rfl
  i138 := by kernel_rfl
  i139 := by kernel_rfl
  i146 := by kernel_rfl
  m1 := by kernel_rfl
  s1_3 := fun w h => Go.Proofs.cell_of_shapedOpen_int (zero := #[.int .i64 0]) (t := 3) h (of_decide_eq_true (by kernel_rfl)) (by kernel_rfl) rfl (by kernel_rfl) (by kernel_rfl) Tryd.underlying3
  m3 := by kernel_rfl
  m4 := by kernel_rfl }
open Go.RowKit Go.Lib in
theorem Tryd.strings_IndexFunc_grows (g : Nat) (lb : Array Value) (eg : ∀ args w, (callFunc g args).run Tryd.prog w = .ok (.enter g args) w) (p : Nat → Bool) (s : ByteArray) (w : World) (hp : PredGrows Tryd.prog g lb p w) :
    Calls Tryd.prog 27 #[.string s, .func (.func g) #[] lb] w fun e w' => e = .returned (.int .i64 (Lib.idxFunc p true s)) ∧ Below w.heap.size w w' := Any.strings_IndexFunc_grows Tryd.laysGw15 g lb eg p s w hp
def Tryd.lays109_ren : Go.Shelf.Ren := ⟨fun | 109 => 20 | n => n, fun | 31 => 32 | 9 => 9 | 3 => 3 | 0 => 0 | 4 => 4 | n => n, fun | n => n⟩
theorem Tryd.lays109 : Go.Proofs.Lays.n109 Tryd.prog Tryd.lays109_ren := {
  mixed := by kernel_rfl
  f109 := Tryd.func20.trans (congrArg some (by kernel_rfl))
  t0 := Tryd.underlying0
  a0 := Tryd.isAgg0
  z0 := Tryd.sizeOf0
  v0 := Tryd.zeroValue0
  t3 := Tryd.underlying3
  a3 := Tryd.isAgg3
  z3 := Tryd.sizeOf3
  v3 := Tryd.zeroValue3
  t4 := Tryd.underlying4
  a4 := Tryd.isAgg4
  z4 := Tryd.sizeOf4
  v4 := Tryd.zeroValue4
  t9 := Tryd.underlying9
  a9 := Tryd.isAgg9
  z9 := Tryd.sizeOf9
  v9 := Tryd.zeroValue9
  t31 := Tryd.underlying32
  a31 := Tryd.isAgg32
  z31 := Tryd.sizeOf32
  v31 := Tryd.zeroValue32 }
open Go.Lib in
theorem Tryd.slices_Index_string (b off n c : Nat) (zs : List ByteArray) (x : ByteArray) (w : World) (hz : n ≤ zs.length) (hbig : n ≤ 9223372036854775807) (hc : ∀ j, j < zs.length → w.cell? ⟨b, off + j, none⟩ = some (.string (zs.getD j ByteArray.empty))) :
    Calls Tryd.prog 20 #[.slice (some ⟨b, off, none⟩) n c, .string x] w fun e w' => e = .returned (.int .i64 (Lib.idxOfS (zs.take n) x)) ∧ w' = w := Any.slices_Index_string Tryd.lays109 b off n c zs x w hz hbig hc
open Go.Lib in
theorem Tryd.slices_Index_string_empty (a : Option Addr) (c : Nat) (x : ByteArray) (w : World) :
    Calls Tryd.prog 20 #[.slice a 0 c, .string x] w fun e w' => e = .returned (.int .i64 (Lib.idxOfS [] x)) ∧ w' = w := Any.slices_Index_string_empty Tryd.lays109 a c x w
end Go.Proofs
end
section
namespace Go.Proofs.YthhacfehjgfpbaaDoor
open Go Go.RowKit
theorem drop_nth {α : Type} [Inhabited α] {l : List α} {i : Nat} (h : i < l.length) : l.drop i = nth l i :: l.drop (i + 1) := by
  rw [List.drop_eq_getElem_cons h]; congr 1; unfold nth; rw [List.getElem?_eq_getElem h]; rfl
theorem all_take_snoc {l : List UInt8} {p : UInt8 → Bool} {k : Nat} (h : k < l.length) (ha : (l.take k).all p = true) (hc : p (byteAt l k) = true) : (l.take (k + 1)).all p = true := by
  rw [List.take_succ_eq_append_getElem h]
  rw [byteAt_eq h] at hc
  simp only [List.all_append, ha, List.all_cons, List.all_nil, Bool.true_and, Bool.and_true]
  exact hc
theorem drop_byte {l : List UInt8} {k : Nat} (h : k < l.length) : l.drop k = byteAt l k :: l.drop (k + 1) := by rw [List.drop_eq_getElem_cons h, byteAt_eq h]
theorem flat_at {α : Type} {sz : Nat} : ∀ (css : List (List α)) (i j : Nat), (∀ c ∈ css, c.length = sz) → i < css.length → j < sz → css.flatten[i * sz + j]? = (nth css i)[j]?
  | [], _, _, _, hi, _ => by simp at hi
  | c :: r, 0, j, h, _, hj => by
    have hc := h c (by simp)
    rw [Nat.zero_mul, Nat.zero_add, List.flatten_cons, List.getElem?_append_left (by omega)]; rfl
  | c :: r, i + 1, j, h, hi, hj => by
    have hc := h c (by simp)
    rw [List.flatten_cons, List.getElem?_append_right (by rw [Nat.succ_mul]; omega), show (i + 1) * sz + j - c.length = i * sz + j by rw [Nat.succ_mul]; omega, flat_at r i j (fun x hx => h x (by simp [hx])) (by simpa using hi) hj]; rfl
theorem nth_mem {α : Type} [Inhabited α] {l : List α} {i : Nat} (h : i < l.length) : nth l i ∈ l := List.mem_of_getElem? (nth_eq h)
section
variable {P : Program} {n : Nat} {Q : Exit → (Nat → Value) → World → Prop} {σ : Nat → Value} {w : World}
variable {ops : Array Oper} {rest : List Oper} {dst : Option Tmp} {ty : TypeId} {ps : String} {af : Array Edge} {g : Option (Nat × Bool)}
theorem WO_idxs {css : List (List Value)} {sz : Nat} {t e : TypeId} {x y : Operand} {v : Value} {m i : Nat} {k : IntKind} {a : Int} (hg : gOk ops n σ g = true) (hx : ev n σ x = v) (hy : ev n σ y = .int k a)
    (hr : RowIs w v m sz css.flatten) (he : ∀ c ∈ css, c.length = sz) (hl : css.length = m) (ht : P.underlying t = some (.slice e)) (hs : ∀ w, (sizeOf e).run P w = .ok sz w) (ha : a = (i : Int)) (hi : i < m)
    (next : ∀ b o, (∀ j u, (nth css i)[j]? = some u → w.cell? ⟨b, o + j, none⟩ = some u) → WO P n ops rest Q (updo σ dst (.pointer (some ⟨b, o, none⟩))) w) :
    WO P n ops (⟨dst, .indexAddr t x y, ty, ps, af, g⟩ :: rest) Q σ w := by
  refine WO_idx hg hx hy hr ht hs ha hi fun b o hc => next b o fun j u hu => ?_
  have hj : j < sz := by rw [← he _ (nth_mem (by omega : i < css.length))]; exact (List.getElem?_eq_some_iff.1 hu).1
  exact hc j u hj (by rw [flat_at css i j he (by omega) hj]; exact hu)
theorem WO_loads {t : TypeId} {d : TypeDesc} {x : Operand} {b o sz : Nat} {vs : List Value} (hg : gOk ops n σ g = true) (hx : ev n σ x = .pointer (some ⟨b, o, none⟩)) (ht : P.underlying t = some d) (hd : plainD d = false)
    (hl : vs.length = sz) (hs : ∀ w, (sizeOf t).run P w = .ok sz w) (hc : ∀ j u, vs[j]? = some u → w.cell? ⟨b, o + j, none⟩ = some u)
    (next : WO P n ops rest Q (updo σ dst (.agg vs.toArray)) w) : WO P n ops (⟨dst, .load t x, ty, ps, af, g⟩ :: rest) Q σ w :=
  WO_loadagg hg hx ht hd (by rw [hl]; exact hs) hc next
end
section
variable {P : Program} {n : Nat} {σ : Nat → Value} {w : World}
theorem body_retc2 {fn : Func} {T : Value → World → Prop} {t u : Nat} {ty e : TypeId} {d : TypeDesc} {b : Nat} {c : Array Value} {fr : Nat × Nat} {v1 : Value} (hr : fn.results = #[.cell t ty, .tmp u]) (h0 : sl n σ t = .pointer (some ⟨b, 0, none⟩))
    (ht : P.underlying ty = some d) (hd : plainD d = false) (hs : ∀ w, (sizeOf ty).run P w = .ok c.size w) (hb : w.heap[b]? = some (.cells c e fr)) (h1 : sl n σ u = v1)
    (h : T (.tuple #[.agg c, v1]) w) : bodyQ P n fn (Ret T) .ret σ w := by
  have ha : (isAgg ty).run P w = .ok true w := by cases d <;> simp_all [isAgg, run_underlying ht, plainD]
  refine ⟨_, ?_, ⟨_, rfl, h⟩⟩
  have hl := run_loadCells_list (P := P) w ⟨b, 0, none⟩ c.toList (fun j v hj => by
    have hadd : (⟨b, 0, none⟩ : Addr).add j = ⟨b, 0 + j, none⟩ := by unfold Addr.add; split <;> simp_all
    rw [hadd, Nat.zero_add]; exact cell_of hb (by simpa using hj))
  simp only [loadCells] at hl
  rw [results_cell_tmp hr, mk_getD, mk_getD, h0, h1]
  simp only [Array.length_toList] at hl
  simp [asAddr, loadVar, loadCells, ha, hs, hl, go_sem]
end
def WX (P : Program) (n : Nat) (ops : Array Oper) (Q : (Nat → Value) → World → Prop) (fuel : Nat) (listed : Array Bool) (σ : Nat → Value) (w : World) : Prop :=
  wpAny P .any ops (fun e a w => e = .normal ∧ ∃ σ, a = mk n σ ∧ Q σ w) fuel listed (mk n σ) w
section
variable {P : Program} {n : Nat} {σ : Nat → Value} {w : World}
theorem W_order {Q : Exit → (Nat → Value) → World → Prop} {id : Nat} {l : List Oper} (hm : P.follows .mixedOrders = true)
    (h : ∀ w', Drew w w' → WX P n l.toArray (Q .normal) l.length (Array.replicate l.length false) σ w') : W P n (.region id l.toArray true) Q σ w := by
  unfold W
  refine wp_mono (wp_region_any hm (h _ ⟨1, rfl⟩)) ?_
  rintro e a w ⟨rfl, σ', ha, hq⟩
  exact ⟨σ', ha, hq⟩
variable {ops : Array Oper} {Q : (Nat → Value) → World → Prop} {fuel : Nat} {listed : Array Bool}
theorem WX_take (i : Nat) {o : Oper} {v : Value} (hi : ops[i]? = some o) (hs : Region.noSelect ops = true) (hf : Region.free .any ops listed i = true) (hr : (Region.ready .any ops listed).contains i = true)
    (hg : gOk ops n σ o.guard = true) (h : ∀ w, (execOp (ev n σ) o).run P w = .ok (.value v) w) (next : WX P n ops Q fuel (listed.setIfInBounds i true) (updo σ o.dst v) w) : WX P n ops Q (fuel + 1) listed σ w := by
  unfold WX
  refine wpAny_take hi hs hf hr (fun c a w h => by cases h.1) (.inl ⟨by rw [wanted_mk]; exact hg, fun w => by rw [mk_eval]; exact h w⟩) ?_
  rw [mk_put]; exact next
theorem WX_done (hr : Region.ready .any ops listed = []) (h : Q σ w) : WX P n ops Q fuel listed σ w := by
  unfold WX
  exact wpAny_done hr ⟨rfl, σ, rfl, h⟩ fuel
theorem wp_two {o : Oper} {a : Act} {w : World} {K K' : Act → World → Prop} {R R' : Exit → Act → World → Prop} (h : ∀ a w, K a w → K' a w) (hp : ∀ c a w, ¬ R (.panic c) a w) (ho : ¬ LetsOut R) (hh : o.wp P a w K R) : o.wp P a w K' R' := by
  unfold Oper.wp at *
  generalize (execOp a.eval o).run P w = r at *
  cases r with
  | ok n w' =>
    cases n <;> simp only [Oper.upon] at hh ⊢ <;>
      first
        | exact h _ _ hh
        | exact Calls.mono hh (fun e w'' he => by cases e <;> first | exact h _ _ he | exact absurd he (hp _ _ _) | exact absurd he ho)
        | exact Rows.mono hh (fun _ _ he => h _ _ he)
  | halt x w' => cases x <;> simp only [Oper.upon] at hh ⊢ <;> exact absurd hh (hp _ _ _)
theorem WX_only (i : Nat) {o : Oper} (hr : Region.ready .any ops listed = [i]) (hi : ops[i]? = some o)
    (h : WO P n ops [o] (fun e σ' w' => e = .normal ∧ WX P n ops Q fuel (listed.setIfInBounds i true) σ' w') σ w) : WX P n ops Q (fuel + 1) listed σ w := by
  unfold WX
  refine wpAny_all hr (by simp) fun j hj => ?_
  obtain rfl : j = i := by simpa using hj
  unfold WO wpList at h
  unfold wpOp
  simp only [hi]
  have ho : ¬ LetsOut (lift n fun e σ' w' => e = .normal ∧ WX P n ops Q fuel (listed.setIfInBounds j true) σ' w') := by
    rintro ⟨a, w, σ', _, h, _⟩; cases h
  have hk : ∀ a w', wpList P ops (lift n fun e σ' w' => e = .normal ∧ WX P n ops Q fuel (listed.setIfInBounds j true) σ' w') [] a w' →
      wpAny P .any ops (fun e a w => e = .normal ∧ ∃ σ, a = mk n σ ∧ Q σ w) fuel (listed.setIfInBounds j true) a w' := by
    rintro a w' ⟨σ', rfl, _, hx⟩; exact hx
  split at h
  · rename_i hw
    rw [if_pos hw]
    rcases h with h | ⟨_, h⟩
    · exact .inl (wp_two hk (fun c a w hc => by obtain ⟨_, _, hc, _⟩ := hc; cases hc) ho h)
    · exact absurd h ho
  · rename_i hw
    rw [if_neg hw]; exact hk _ _ h
end
attribute [irreducible] WX
end Go.Proofs.YthhacfehjgfpbaaDoor
end
section
namespace Go.Proofs.YthhacfehjgfpbaaDoor
open Go Go.RowKit
theorem en_20 : Enters Tryd.prog 20 := enters_of Tryd.func20 (by kernel_rfl) rfl
theorem en_23 : Enters Tryd.prog 23 := enters_of Tryd.func23 (by kernel_rfl) rfl
theorem en_24 : Enters Tryd.prog 24 := enters_of Tryd.func24 (by kernel_rfl) rfl
theorem en_25 : Enters Tryd.prog 25 := enters_of Tryd.func25 (by kernel_rfl) rfl
theorem en_14 : Enters Tryd.prog 14 := enters_of Tryd.func14 (by kernel_rfl) rfl
def signsL : List (List UInt8) := [[], [60], [61], [60, 61], [62], [60, 62], [62, 61], [60, 61, 62]]
def wordsL : List (List UInt8) := [[], [], [97, 110, 100], [111, 114], [105, 102], [119, 105, 116, 104], [119, 105, 116, 104, 111, 117, 116]]
def zIdx : List (List UInt8) → List UInt8 → Nat → Int
 | [], _, _ => -1
 | a :: r, s, k => if s = a then k else zIdx r s (k + 1)
theorem zIdx_step {l : List (List UInt8)} {i : Nat} (s : List UInt8) (h : i < l.length) : zIdx (l.drop i) s i = if s = nth l i then (i : Int) else zIdx (l.drop (i + 1)) s (i + 1) := by rw [drop_nth h, zIdx]
set_option maxHeartbeats 400000 in
set_option maxRecDepth 100000 in
theorem index_any (v0 : Value) (ls : List (List UInt8)) (s : List UInt8) (w : World) (h0 : RowIs w v0 ls.length 1 (List.map S ls)) (hl : ls.length ≤ 9223372036854775807) :
  Calls Tryd.prog 20 #[v0, (S s)] w (Ret fun v w' => v = .int .i64 (zIdx ls s 0) ∧ w = w') := by
 refine calls_W Tryd.func20 rfl Tryd.ntmps20 ?_
 refine W_seq ?_
 refine W_reg ?_
 refine WO_pure (v := (.int .i64 0)) rfl rfl ?_
 refine WO_nil ?_
 refine W_seq ?_
 refine W_seq ?_
 refine W_reg ?_
 refine WO_pure (v := v0) rfl rfl ?_
 refine WO_lenrow (v := v0) (m := ls.length) (sz := 1) rfl rfl h0 Tryd.underlying32 ?_
 refine WO_pure (v := (.int .i64 0)) rfl rfl ?_
 refine WO_nil ?_
 refine W_block ?_
 refine W_loop (fun g σ' w' => ∃ (i : Nat), w = w' ∧ σ' 0 = v0 ∧ σ' 1 = (S s) ∧ σ' 7 = (.int .i64 ((ls.length : Int))) ∧ σ' 8 = (.int .i64 ((i : Int))) ∧ i ≤ ls.length ∧ zIdx ls s 0 = zIdx (ls.drop i) s i ∧ g = ls.length - i) ?_ ?_
 ·refine ⟨_, 0, rfl, rfl, rfl, rfl, rfl, ?_, ?_, rfl⟩
  all_goals first | rfl | omega | simp
 ·rintro g σl1 _ ⟨i, rfl, l1_0, l1_1, l1_7, l1_8, f1_1, f1_2, rfl⟩
  refine W_anchor (d := 0) l1_0 (W_anchor (d := 1) l1_1 (W_anchor (d := 7) l1_7 (W_anchor (d := 8) l1_8 (?_))))
  refine W_seq ?_
  refine W_reg ?_
  refine WO_pure (v := (.bool (decide ((i : Int) < (ls.length : Int))))) rfl rfl ?_
  refine WO_nil ?_
  refine W_seq ?_
  refine W_if (p := (i : Int) < (ls.length : Int)) rfl (fun c1 => ?_) (fun c1 => ?_)
  ·refine W_skip ?_
   refine W_seq ?_
   refine W_block ?_
   refine W_seq ?_
   refine W_reg ?_
   refine WO_pure (v := (.int .i64 ((i : Int)))) rfl rfl ?_
   refine WO_pure (v := (.int .i64 ((i : Int)))) rfl rfl ?_
   refine WO_nil ?_
   refine W_seq ?_
   refine W_reg ?_
   refine WO_pure (v := (S s)) rfl rfl ?_
   refine WO_pure (v := v0) rfl rfl ?_
   refine WO_pure (v := (.int .i64 ((i : Int)))) rfl rfl ?_
   refine WO_idx1 (v := v0) (f := S) (l := ls) (i := i) rfl rfl rfl h0 Tryd.underlying32 (fun _ => by kernel_rfl) (by first | rfl | omega) (by first | omega | (simp; done) | (simp; omega)) (fun b1 o1 x1 => ?_)
   refine WO_load (v := (S (nth ls i))) rfl rfl Tryd.underlying9 rfl x1 ?_
   refine WO_seql (l1 := s) (l2 := nth ls i) rfl rfl rfl ?_
   refine WO_nil ?_
   refine W_if (p := s = nth ls i) rfl (fun c2 => ?_) (fun c2 => ?_)
   ·refine W_seq ?_
    refine W_reg ?_
    refine WO_pure (v := (.int .i64 ((i : Int)))) rfl rfl ?_
    refine WO_pure (v := (.int .i64 ((i : Int)))) rfl rfl ?_
    refine WO_nil ?_
    refine W_ret ?_
    refine body_ret1 rfl (v0 := (.int .i64 ((i : Int)))) rfl ?_
    exact ⟨by rw [f1_2, zIdx_step s (by omega), if_pos c2], rfl⟩
   ·refine W_skip ?_
    refine W_reg ?_
    refine WO_add (b := 1) (v := (i : Int) + 1) rfl rfl rfl (by simp only [kLo, kHi]; omega) ?_
    refine WO_pure (v := (.int .i64 ((i : Int) + 1))) rfl rfl ?_
    refine WO_nil ?_
    refine ⟨_, ?_, i + 1, rfl, rfl, rfl, rfl, rfl, ?_, ?_, rfl⟩
    ·omega
    ·omega
    ·rw [f1_2, zIdx_step s (by omega), if_neg c2]
  ·refine W_exit ?_
   refine W_seq ?_
   refine W_reg ?_
   refine WO_pure (v := (.int .i64 (-1))) rfl rfl ?_
   refine WO_nil ?_
   refine W_ret ?_
   refine body_ret1 rfl (v0 := (.int .i64 (-1))) rfl ?_
   exact ⟨by rw [f1_2, List.drop_of_length_le (by omega)]; rfl, rfl⟩
set_option maxHeartbeats 400000 in
set_option maxRecDepth 100000 in
theorem contains_any (v0 : Value) (ls : List (List UInt8)) (s : List UInt8) (w : World) (h0 : RowIs w v0 ls.length 1 (List.map S ls)) (hl : ls.length ≤ 9223372036854775807) :
  Calls Tryd.prog 23 #[v0, (S s)] w (Ret fun v w' => v = .bool (decide (0 ≤ zIdx ls s 0)) ∧ w = w') := by
 refine calls_W Tryd.func23 rfl Tryd.ntmps23 ?_
 refine W_seq ?_
 refine W_reg ?_
 refine WO_pure (v := (.bool false)) rfl rfl ?_
 refine WO_nil ?_
 refine W_seq ?_
 refine W_reg ?_
 refine WO_pure (v := v0) rfl rfl ?_
 refine WO_pure (v := (S s)) rfl rfl ?_
 refine WO_call rfl (by exact en_20) (index_any v0 ls s _ h0 hl) ?_
 rintro _ _ ⟨rfl, rfl⟩
 refine WO_pure (v := (.bool (decide (0 ≤ (zIdx ls s 0))))) rfl rfl ?_
 refine WO_pure (v := (.bool (decide (0 ≤ (zIdx ls s 0))))) rfl rfl ?_
 refine WO_nil ?_
 refine W_ret ?_
 refine body_ret1 rfl (v0 := (.bool (decide (0 ≤ (zIdx ls s 0))))) rfl ?_
 exact ⟨rfl, rfl⟩
set_option maxHeartbeats 400000 in
set_option maxRecDepth 100000 in
theorem signs_any (w : World) :
  Calls Tryd.prog 24 #[] w (Ret fun v w' => RowIs w' v 8 1 (List.map S signsL) ∧ Below w.heap.size w w') := by
 refine calls_W Tryd.func24 rfl Tryd.ntmps24 ?_
 refine W_seq ?_
 refine W_reg ?_
 refine WO_pure (v := (.slice none 0 0)) rfl rfl ?_
 refine WO_nil ?_
 refine W_seq ?_
 refine W_reg ?_
 refine WO_bslice (k := 8) (cs := #[(S []), (S ([60])), (S ([61])), (S ([60, 61])), (S ([62])), (S ([60, 62])), (S ([62, 61])), (S ([60, 61, 62]))]) (e := 9) rfl (fun _ => by kernel_rfl) (fun w1 n1 => ?_)
 have e1 : w1.heap[w.heap.size]? = some (.cells #[(S []), (S ([60])), (S ([61])), (S ([60, 61])), (S ([62])), (S ([60, 62])), (S ([62, 61])), (S ([60, 61, 62]))] 9 (0, 0)) := n1.here
 have z1 := n1.size
 have o1 := n1.owned (base := w.heap.size) (size := 1) (k := 8) (by omega) (by omega) rfl
 refine WO_pure (v := (.slice (some ⟨w.heap.size, 0, none⟩) 8 8)) rfl rfl ?_
 refine WO_nil ?_
 refine W_ret ?_
 refine body_ret1 rfl (v0 := (.slice (some ⟨w.heap.size, 0, none⟩) 8 8)) rfl ?_
 have hbel := (n1.below (Below.refl w.heap.size w) (Below.refl w.heap.size w).size)
 exact ⟨RowIs.owned o1, hbel⟩
set_option maxHeartbeats 400000 in
set_option maxRecDepth 100000 in
theorem words_any (w : World) :
  Calls Tryd.prog 25 #[] w (Ret fun v w' => RowIs w' v 7 1 (List.map S wordsL) ∧ Below w.heap.size w w') := by
 refine calls_W Tryd.func25 rfl Tryd.ntmps25 ?_
 refine W_seq ?_
 refine W_reg ?_
 refine WO_pure (v := (.slice none 0 0)) rfl rfl ?_
 refine WO_nil ?_
 refine W_seq ?_
 refine W_reg ?_
 refine WO_bslice (k := 7) (cs := #[(S []), (S []), (S ([97, 110, 100])), (S ([111, 114])), (S ([105, 102])), (S ([119, 105, 116, 104])), (S ([119, 105, 116, 104, 111, 117, 116]))]) (e := 9) rfl (fun _ => by kernel_rfl) (fun w1 n1 => ?_)
 have e1 : w1.heap[w.heap.size]? = some (.cells #[(S []), (S []), (S ([97, 110, 100])), (S ([111, 114])), (S ([105, 102])), (S ([119, 105, 116, 104])), (S ([119, 105, 116, 104, 111, 117, 116]))] 9 (0, 0)) := n1.here
 have z1 := n1.size
 have o1 := n1.owned (base := w.heap.size) (size := 1) (k := 7) (by omega) (by omega) rfl
 refine WO_pure (v := (.slice (some ⟨w.heap.size, 0, none⟩) 7 7)) rfl rfl ?_
 refine WO_nil ?_
 refine W_ret ?_
 refine body_ret1 rfl (v0 := (.slice (some ⟨w.heap.size, 0, none⟩) 7 7)) rfl ?_
 have hbel := (n1.below (Below.refl w.heap.size w) (Below.refl w.heap.size w).size)
 exact ⟨RowIs.owned o1, hbel⟩
def pairs : List UInt8 → Int → Bool
 | [], n => decide (n = 0)
 | c :: r, n => if c.toNat < 33 ∨ 126 < c.toNat then false else
  (fun n' : Int => if n' < 0 then false else pairs r n') (if c.toNat = 40 then n + 1 else if c.toNat = 41 then n - 1 else n)
theorem pairs_open {l : List UInt8} {k : Nat} {n : Int} (h : k < l.length) (hb : ¬ ((byteAt l k).toNat < 33 ∨ 126 < (byteAt l k).toNat)) (h1 : ((byteAt l k).toNat : Int) = 40) : pairs (l.drop k) n = if n + 1 < 0 then false else pairs (l.drop (k + 1)) (n + 1) := by
 rw [drop_byte h, pairs, if_neg hb, if_pos (by omega)]
theorem pairs_close {l : List UInt8} {k : Nat} {n : Int} (h : k < l.length) (hb : ¬ ((byteAt l k).toNat < 33 ∨ 126 < (byteAt l k).toNat)) (h1 : ¬ ((byteAt l k).toNat : Int) = 40) (h2 : ((byteAt l k).toNat : Int) = 41) : pairs (l.drop k) n = if n - 1 < 0 then false else pairs (l.drop (k + 1)) (n - 1) := by
 rw [drop_byte h, pairs, if_neg hb, if_neg (by omega), if_pos (by omega)]
theorem pairs_else {l : List UInt8} {k : Nat} {n : Int} (h : k < l.length) (hb : ¬ ((byteAt l k).toNat < 33 ∨ 126 < (byteAt l k).toNat)) (h1 : ¬ ((byteAt l k).toNat : Int) = 40) (h2 : ¬ ((byteAt l k).toNat : Int) = 41) : pairs (l.drop k) n = if n < 0 then false else pairs (l.drop (k + 1)) n := by
 rw [drop_byte h, pairs, if_neg hb, if_neg (by omega), if_neg (by omega)]
def nameHead (l : List UInt8) : Bool := decide (l = []) || (decide (60 < l.length) || (decide ((byteAt l 0).toNat = 40) || (decide ((byteAt l 0).toNat = 41) || (decide (l = [101, 108, 115, 101]) || (decide (0 ≤ zIdx signsL l 0) || decide (0 ≤ zIdx wordsL l 0))))))
theorem head_len {l : List UInt8} (h : nameHead l = false) : l.length ≤ 60 := by simp [nameHead] at h; omega
def nameB (l : List UInt8) : Bool := !nameHead l && pairs l 0
set_option maxHeartbeats 400000 in
set_option maxRecDepth 100000 in
theorem name_any (l : List UInt8) (w : World) (hl : l.length ≤ 9223372036854775807) :
  Calls Tryd.prog 14 #[(S l)] w (Ret fun v w' => v = .bool (nameB l) ∧ Below w.heap.size w w') := by
 refine calls_W Tryd.func14 rfl Tryd.ntmps14 ?_
 refine W_seq ?_
 refine W_reg ?_
 refine WO_pure (v := (.bool false)) rfl rfl ?_
 refine WO_nil ?_
 refine W_seq ?_
 refine W_cut (fun σ' w' => Below w.heap.size w w' ∧ σ' 0 = (S l) ∧ σ' 36 = (.bool (nameHead l))) ?_ ?_
 ·refine W_reg ?_
  refine WO_pure (v := (S l)) rfl rfl ?_
  refine WO_seql (l1 := l) (l2 := []) rfl rfl rfl ?_
  refine WO_pure (v := (.bool (decide (l = [])))) rfl rfl ?_
  refine WO_splitp 8 (p := l = []) (by exact rfl) (fun c1 => ?_) (fun c1 => ?_)
  ·refine WO_pass rfl ?_
   refine WO_pass rfl ?_
   refine WO_pass rfl ?_
   refine WO_pure (v := (.bool true)) rfl rfl ?_
   refine WO_pure (v := (.bool true)) rfl rfl ?_
   refine WO_pass rfl ?_
   refine WO_pass rfl ?_
   refine WO_pass rfl ?_
   refine WO_pure (v := (.bool true)) rfl rfl ?_
   refine WO_pure (v := (.bool true)) rfl rfl ?_
   refine WO_pass rfl ?_
   refine WO_pass rfl ?_
   refine WO_pass rfl ?_
   refine WO_pure (v := (.bool true)) rfl rfl ?_
   refine WO_pure (v := (.bool true)) rfl rfl ?_
   refine WO_pass rfl ?_
   refine WO_pass rfl ?_
   refine WO_pure (v := (.bool true)) rfl rfl ?_
   refine WO_pure (v := (.bool true)) rfl rfl ?_
   refine WO_pass rfl ?_
   refine WO_pass rfl ?_
   refine WO_pass rfl ?_
   refine WO_pure (v := (.bool true)) rfl rfl ?_
   refine WO_pure (v := (.bool true)) rfl rfl ?_
   refine WO_pass rfl ?_
   refine WO_pass rfl ?_
   refine WO_pass rfl ?_
   refine WO_pure (v := (.bool true)) rfl rfl ?_
   refine WO_nil ?_
   exact ⟨(Below.refl w.heap.size w), rfl, (by show ((.bool true) : Value) = (.bool (nameHead l)); show Value.bool _ = Value.bool _; rw [Value.bool.injEq, Bool.eq_iff_iff]; first | (simp [nameHead, c1]; done) | (simp [nameHead, c1]; omega) | (simp_all [nameHead]; done) | (simp_all [nameHead]; omega) | (simp only [nameHead, Bool.or_eq_true, Bool.and_eq_true, Bool.not_eq_true', decide_eq_true_eq, decide_eq_false_iff_not]; grind))⟩
  ·refine WO_pure (v := (S l)) rfl rfl ?_
   refine WO_slen (l := l) rfl rfl Tryd.underlying9 ?_
   refine WO_pure (v := (.bool (decide (60 < (l.length : Int))))) rfl rfl ?_
   refine WO_pure (v := (.bool (decide (60 < (l.length : Int))))) rfl rfl ?_
   refine WO_pure (v := (.bool (decide (60 < (l.length : Int))))) rfl rfl ?_
   refine WO_splitp 13 (p := 60 < (l.length : Int)) (by exact rfl) (fun c2 => ?_) (fun c2 => ?_)
   ·refine WO_pass rfl ?_
    refine WO_pass rfl ?_
    refine WO_pass rfl ?_
    refine WO_pure (v := (.bool true)) rfl rfl ?_
    refine WO_pure (v := (.bool true)) rfl rfl ?_
    refine WO_pass rfl ?_
    refine WO_pass rfl ?_
    refine WO_pass rfl ?_
    refine WO_pure (v := (.bool true)) rfl rfl ?_
    refine WO_pure (v := (.bool true)) rfl rfl ?_
    refine WO_pass rfl ?_
    refine WO_pass rfl ?_
    refine WO_pure (v := (.bool true)) rfl rfl ?_
    refine WO_pure (v := (.bool true)) rfl rfl ?_
    refine WO_pass rfl ?_
    refine WO_pass rfl ?_
    refine WO_pass rfl ?_
    refine WO_pure (v := (.bool true)) rfl rfl ?_
    refine WO_pure (v := (.bool true)) rfl rfl ?_
    refine WO_pass rfl ?_
    refine WO_pass rfl ?_
    refine WO_pass rfl ?_
    refine WO_pure (v := (.bool true)) rfl rfl ?_
    refine WO_nil ?_
    exact ⟨(Below.refl w.heap.size w), rfl, (by show ((.bool true) : Value) = (.bool (nameHead l)); show Value.bool _ = Value.bool _; rw [Value.bool.injEq, Bool.eq_iff_iff]; first | (simp [nameHead, c1, c2]; done) | (simp [nameHead, c1, c2]; omega) | (simp_all [nameHead]; done) | (simp_all [nameHead]; omega) | (simp only [nameHead, Bool.or_eq_true, Bool.and_eq_true, Bool.not_eq_true', decide_eq_true_eq, decide_eq_false_iff_not]; grind))⟩
   ·refine WO_pure (v := (S l)) rfl rfl ?_
    have hpos : 0 < l.length := List.length_pos_iff.2 c1
    refine WO_sidx (l := l) (j := 0) rfl rfl rfl Tryd.underlying9 (by first | rfl | omega) (by first | omega | (simp; done) | (simp; omega)) ?_
    refine WO_pure (v := (.bool (decide (((byteAt l 0).toNat : Int) = 40)))) rfl rfl ?_
    refine WO_pure (v := (.bool (decide (((byteAt l 0).toNat : Int) = 40)))) rfl rfl ?_
    refine WO_pure (v := (.bool (decide (((byteAt l 0).toNat : Int) = 40)))) rfl rfl ?_
    refine WO_splitp 18 (p := ((byteAt l 0).toNat : Int) = 40) (by exact rfl) (fun c3 => ?_) (fun c3 => ?_)
    ·refine WO_pass rfl ?_
     refine WO_pass rfl ?_
     refine WO_pass rfl ?_
     refine WO_pure (v := (.bool true)) rfl rfl ?_
     refine WO_pure (v := (.bool true)) rfl rfl ?_
     refine WO_pass rfl ?_
     refine WO_pass rfl ?_
     refine WO_pure (v := (.bool true)) rfl rfl ?_
     refine WO_pure (v := (.bool true)) rfl rfl ?_
     refine WO_pass rfl ?_
     refine WO_pass rfl ?_
     refine WO_pass rfl ?_
     refine WO_pure (v := (.bool true)) rfl rfl ?_
     refine WO_pure (v := (.bool true)) rfl rfl ?_
     refine WO_pass rfl ?_
     refine WO_pass rfl ?_
     refine WO_pass rfl ?_
     refine WO_pure (v := (.bool true)) rfl rfl ?_
     refine WO_nil ?_
     exact ⟨(Below.refl w.heap.size w), rfl, (by show ((.bool true) : Value) = (.bool (nameHead l)); show Value.bool _ = Value.bool _; rw [Value.bool.injEq, Bool.eq_iff_iff]; first | (simp [nameHead, c1, c2, c3]; done) | (simp [nameHead, c1, c2, c3]; omega) | (simp_all [nameHead]; done) | (simp_all [nameHead]; omega) | (simp only [nameHead, Bool.or_eq_true, Bool.and_eq_true, Bool.not_eq_true', decide_eq_true_eq, decide_eq_false_iff_not]; grind))⟩
    ·refine WO_pure (v := (S l)) rfl rfl ?_
     refine WO_sidx (l := l) (j := 0) rfl rfl rfl Tryd.underlying9 (by first | rfl | omega) (by first | omega | (simp; done) | (simp; omega)) ?_
     refine WO_pure (v := (.bool (decide (((byteAt l 0).toNat : Int) = 41)))) rfl rfl ?_
     refine WO_pure (v := (.bool (decide (((byteAt l 0).toNat : Int) = 41)))) rfl rfl ?_
     refine WO_pure (v := (.bool (decide (((byteAt l 0).toNat : Int) = 41)))) rfl rfl ?_
     refine WO_splitp 23 (p := ((byteAt l 0).toNat : Int) = 41) (by exact rfl) (fun c4 => ?_) (fun c4 => ?_)
     ·refine WO_pass rfl ?_
      refine WO_pass rfl ?_
      refine WO_pure (v := (.bool true)) rfl rfl ?_
      refine WO_pure (v := (.bool true)) rfl rfl ?_
      refine WO_pass rfl ?_
      refine WO_pass rfl ?_
      refine WO_pass rfl ?_
      refine WO_pure (v := (.bool true)) rfl rfl ?_
      refine WO_pure (v := (.bool true)) rfl rfl ?_
      refine WO_pass rfl ?_
      refine WO_pass rfl ?_
      refine WO_pass rfl ?_
      refine WO_pure (v := (.bool true)) rfl rfl ?_
      refine WO_nil ?_
      exact ⟨(Below.refl w.heap.size w), rfl, (by show ((.bool true) : Value) = (.bool (nameHead l)); show Value.bool _ = Value.bool _; rw [Value.bool.injEq, Bool.eq_iff_iff]; first | (simp [nameHead, c1, c2, c3, c4]; done) | (simp [nameHead, c1, c2, c3, c4]; omega) | (simp_all [nameHead]; done) | (simp_all [nameHead]; omega) | (simp only [nameHead, Bool.or_eq_true, Bool.and_eq_true, Bool.not_eq_true', decide_eq_true_eq, decide_eq_false_iff_not]; grind))⟩
     ·refine WO_pure (v := (S l)) rfl rfl ?_
      refine WO_seql (l1 := l) (l2 := [101, 108, 115, 101]) rfl rfl rfl ?_
      refine WO_pure (v := (.bool (decide (l = [101, 108, 115, 101])))) rfl rfl ?_
      refine WO_pure (v := (.bool (decide (l = [101, 108, 115, 101])))) rfl rfl ?_
      refine WO_splitp 27 (p := l = [101, 108, 115, 101]) (by exact rfl) (fun c5 => ?_) (fun c5 => ?_)
      ·refine WO_pass rfl ?_
       refine WO_pass rfl ?_
       refine WO_pass rfl ?_
       refine WO_pure (v := (.bool true)) rfl rfl ?_
       refine WO_pure (v := (.bool true)) rfl rfl ?_
       refine WO_pass rfl ?_
       refine WO_pass rfl ?_
       refine WO_pass rfl ?_
       refine WO_pure (v := (.bool true)) rfl rfl ?_
       refine WO_nil ?_
       exact ⟨(Below.refl w.heap.size w), rfl, (by show ((.bool true) : Value) = (.bool (nameHead l)); show Value.bool _ = Value.bool _; rw [Value.bool.injEq, Bool.eq_iff_iff]; first | (simp [nameHead, c1, c2, c3, c4, c5]; done) | (simp [nameHead, c1, c2, c3, c4, c5]; omega) | (simp_all [nameHead]; done) | (simp_all [nameHead]; omega) | (simp only [nameHead, Bool.or_eq_true, Bool.and_eq_true, Bool.not_eq_true', decide_eq_true_eq, decide_eq_false_iff_not]; grind))⟩
      ·refine WO_call rfl (by exact en_24) (signs_any _) ?_
       rintro v1 w1 ⟨r1, h1⟩
       have z_w1 := h1.size
       refine WO_pure (v := (S l)) rfl rfl ?_
       refine WO_call rfl (by exact en_23) (contains_any _ _ _ _ r1 (by decide)) ?_
       rintro _ _ ⟨rfl, rfl⟩
       refine WO_pure (v := (.bool (decide (0 ≤ zIdx signsL l 0)))) rfl rfl ?_
       refine WO_pure (v := (.bool (decide (0 ≤ zIdx signsL l 0)))) rfl rfl ?_
       refine WO_splitp 32 (p := 0 ≤ zIdx signsL l 0) (by exact rfl) (fun c6 => ?_) (fun c6 => ?_)
       ·refine WO_pass rfl ?_
        refine WO_pass rfl ?_
        refine WO_pass rfl ?_
        refine WO_pure (v := (.bool true)) rfl rfl ?_
        refine WO_nil ?_
        exact ⟨(below_ext (Below.refl w.heap.size w) h1), rfl, (by show ((.bool true) : Value) = (.bool (nameHead l)); show Value.bool _ = Value.bool _; rw [Value.bool.injEq, Bool.eq_iff_iff]; first | (simp [nameHead, c1, c2, c3, c4, c5, c6]; done) | (simp [nameHead, c1, c2, c3, c4, c5, c6]; omega) | (simp_all [nameHead]; done) | (simp_all [nameHead]; omega) | (simp only [nameHead, Bool.or_eq_true, Bool.and_eq_true, Bool.not_eq_true', decide_eq_true_eq, decide_eq_false_iff_not]; grind))⟩
       ·refine WO_call rfl (by exact en_25) (words_any _) ?_
        rintro v2 w2 ⟨r2, h2⟩
        have z_w2 := h2.size
        refine WO_pure (v := (S l)) rfl rfl ?_
        refine WO_call rfl (by exact en_23) (contains_any _ _ _ _ r2 (by decide)) ?_
        rintro _ _ ⟨rfl, rfl⟩
        refine WO_pure (v := (.bool (decide (0 ≤ zIdx wordsL l 0)))) rfl rfl ?_
        refine WO_nil ?_
        exact ⟨(below_ext (below_ext (Below.refl w.heap.size w) h1) h2), rfl, (by show ((.bool (decide (0 ≤ zIdx wordsL l 0))) : Value) = (.bool (nameHead l)); show Value.bool _ = Value.bool _; rw [Value.bool.injEq, Bool.eq_iff_iff]; first | (simp [nameHead, c1, c2, c3, c4, c5, c6]; done) | (simp [nameHead, c1, c2, c3, c4, c5, c6]; omega) | (simp_all [nameHead]; done) | (simp_all [nameHead]; omega) | (simp only [nameHead, Bool.or_eq_true, Bool.and_eq_true, Bool.not_eq_true', decide_eq_true_eq, decide_eq_false_iff_not]; grind))⟩
 ·rintro σ1 wc1 ⟨hc1, h1_0, h1_36⟩
  have z_wc1 := hc1.size
  refine W_anchor (d := 0) h1_0 (W_anchor (d := 36) h1_36 (?_))
  refine W_cond (t := nameHead l) rfl (fun c7 => ?_) (fun c7 => ?_)
  ·refine W_seq ?_
   refine W_reg ?_
   refine WO_pure (v := (.bool false)) rfl rfl ?_
   refine WO_nil ?_
   refine W_ret ?_
   refine body_ret1 rfl (v0 := (.bool false)) rfl ?_
   have hbel := (below_ext (Below.refl w.heap.size w) hc1)
   exact ⟨by simp [nameB, c7], hbel⟩
  ·refine W_skip ?_
   refine W_seq ?_
   refine W_reg ?_
   refine WO_pure (v := (.int .i64 0)) rfl rfl ?_
   refine WO_nil ?_
   refine W_seq ?_
   refine W_seq ?_
   refine W_reg ?_
   refine WO_pure (v := (S l)) rfl rfl ?_
   refine WO_slen (l := l) rfl rfl Tryd.underlying9 ?_
   refine WO_pure (v := (.int .i64 0)) rfl rfl ?_
   refine WO_nil ?_
   refine W_block ?_
   refine W_loop (fun g σ' w' => ∃ (k : Nat) (n : Int), wc1 = w' ∧ σ' 0 = (S l) ∧ σ' 3 = (.int .i64 n) ∧ σ' 38 = (.int .i64 ((l.length : Int))) ∧ σ' 39 = (.int .i64 ((k : Int))) ∧ k ≤ l.length ∧ pairs l 0 = pairs (l.drop k) n ∧ (0 ≤ n ∧ n ≤ k) ∧ l.length ≤ 60 ∧ nameHead l = false ∧ g = l.length - k) ?_ ?_
   ·refine ⟨_, 0, 0, rfl, rfl, rfl, rfl, rfl, ?_, ?_, ?_, ?_, ?_, rfl⟩
    ·omega
    ·rfl
    ·omega
    ·exact head_len c7
    ·exact c7
   ·rintro g σl1 _ ⟨k, n, rfl, l1_0, l1_3, l1_38, l1_39, f1_1, f1_2, f1_3, f1_4, f1_5, rfl⟩
    refine W_anchor (d := 0) l1_0 (W_anchor (d := 3) l1_3 (W_anchor (d := 38) l1_38 (W_anchor (d := 39) l1_39 (?_))))
    refine W_seq ?_
    refine W_reg ?_
    refine WO_pure (v := (.bool (decide ((k : Int) < (l.length : Int))))) rfl rfl ?_
    refine WO_nil ?_
    refine W_seq ?_
    refine W_if (p := (k : Int) < (l.length : Int)) rfl (fun c8 => ?_) (fun c8 => ?_)
    ·refine W_skip ?_
     refine W_seq ?_
     refine W_block ?_
     refine W_seq ?_
     refine W_reg ?_
     refine WO_pure (v := (.int .i64 ((k : Int)))) rfl rfl ?_
     refine WO_pure (v := (.int .i64 ((k : Int)))) rfl rfl ?_
     refine WO_nil ?_
     refine W_seq ?_
     refine W_seq ?_
     refine W_reg ?_
     refine WO_pure (v := (S l)) rfl rfl ?_
     refine WO_pure (v := (.int .i64 ((k : Int)))) rfl rfl ?_
     refine WO_sidx (l := l) (j := k) rfl rfl rfl Tryd.underlying9 (by first | rfl | omega) (by first | omega | (simp; done) | (simp; omega)) ?_
     refine WO_pure (v := (.int .u8 (((byteAt l k).toNat : Int)))) rfl rfl ?_
     refine WO_nil ?_
     refine W_block ?_
     refine W_cut (fun σ' w' => wc1 = w' ∧ σ' 0 = (S l) ∧ σ' 3 = (.int .i64 n) ∧ σ' 5 = (.int .u8 (((byteAt l k).toNat : Int))) ∧ σ' 38 = (.int .i64 ((l.length : Int))) ∧ σ' 39 = (.int .i64 ((k : Int))) ∧ σ' 45 = (.bool (decide ((byteAt l k).toNat < 33 ∨ 126 < (byteAt l k).toNat)))) ?_ ?_
     ·refine W_reg ?_
      refine WO_pure (v := (.int .u8 (((byteAt l k).toNat : Int)))) rfl rfl ?_
      refine WO_pure (v := (.bool (decide (((byteAt l k).toNat : Int) < 33)))) rfl rfl ?_
      refine WO_pure (v := (.bool (decide (((byteAt l k).toNat : Int) < 33)))) rfl rfl ?_
      refine WO_splitp 48 (p := ((byteAt l k).toNat : Int) < 33) (by exact rfl) (fun c9 => ?_) (fun c9 => ?_)
      ·refine WO_pass rfl ?_
       refine WO_pass rfl ?_
       refine WO_pure (v := (.bool true)) rfl rfl ?_
       refine WO_pure (v := (.bool true)) rfl rfl ?_
       refine WO_nil ?_
       exact ⟨rfl, rfl, rfl, rfl, rfl, rfl, (by show ((.bool true) : Value) = (.bool (decide ((byteAt l k).toNat < 33 ∨ 126 < (byteAt l k).toNat))); show Value.bool _ = Value.bool _; rw [Value.bool.injEq, Bool.eq_iff_iff]; first | (simp [c9]; done) | (simp [c9]; omega) | (simp_all []; done) | (simp_all []; omega) | (simp only [Bool.or_eq_true, Bool.and_eq_true, Bool.not_eq_true', decide_eq_true_eq, decide_eq_false_iff_not]; grind))⟩
      ·refine WO_pure (v := (.int .u8 (((byteAt l k).toNat : Int)))) rfl rfl ?_
       refine WO_pure (v := (.bool (decide (126 < ((byteAt l k).toNat : Int))))) rfl rfl ?_
       refine WO_pure (v := (.bool (decide (126 < ((byteAt l k).toNat : Int))))) rfl rfl ?_
       refine WO_pure (v := (.bool (decide (126 < ((byteAt l k).toNat : Int))))) rfl rfl ?_
       refine WO_nil ?_
       exact ⟨rfl, rfl, rfl, rfl, rfl, rfl, (by show ((.bool (decide (126 < ((byteAt l k).toNat : Int)))) : Value) = (.bool (decide ((byteAt l k).toNat < 33 ∨ 126 < (byteAt l k).toNat))); show Value.bool _ = Value.bool _; rw [Value.bool.injEq, Bool.eq_iff_iff]; first | (simp [c9]; done) | (simp [c9]; omega) | (simp_all []; done) | (simp_all []; omega) | (simp only [Bool.or_eq_true, Bool.and_eq_true, Bool.not_eq_true', decide_eq_true_eq, decide_eq_false_iff_not]; grind))⟩
     ·rintro σ2 _ ⟨rfl, h2_0, h2_3, h2_5, h2_38, h2_39, h2_45⟩
      refine W_anchor (d := 0) h2_0 (W_anchor (d := 3) h2_3 (W_anchor (d := 5) h2_5 (W_anchor (d := 38) h2_38 (W_anchor (d := 39) h2_39 (W_anchor (d := 45) h2_45 (?_))))))
      refine W_if (p := (byteAt l k).toNat < 33 ∨ 126 < (byteAt l k).toNat) rfl (fun c10 => ?_) (fun c10 => ?_)
      ·refine W_seq ?_
       refine W_reg ?_
       refine WO_pure (v := (.bool false)) rfl rfl ?_
       refine WO_nil ?_
       refine W_ret ?_
       refine body_ret1 rfl (v0 := (.bool false)) rfl ?_
       have hbel := (below_ext (Below.refl w.heap.size w) hc1)
       exact ⟨by rw [nameB, f1_2, drop_byte (by omega), pairs, if_pos c10]; simp, hbel⟩
      ·refine W_seq ?_
       refine W_reg ?_
       refine WO_pure (v := (.int .u8 (((byteAt l k).toNat : Int)))) rfl rfl ?_
       refine WO_pure (v := (.bool (decide (((byteAt l k).toNat : Int) = 40)))) rfl rfl ?_
       refine WO_pure (v := (.bool (decide (((byteAt l k).toNat : Int) = 40)))) rfl rfl ?_
       refine WO_nil ?_
       refine W_if (p := ((byteAt l k).toNat : Int) = 40) rfl (fun c11 => ?_) (fun c11 => ?_)
       ·refine W_reg ?_
        refine WO_pure (v := (.int .i64 n)) rfl rfl ?_
        refine WO_add (b := 1) (v := n + 1) rfl rfl rfl (by simp only [kLo, kHi]; omega) ?_
        refine WO_pure (v := (.int .i64 (n + 1))) rfl rfl ?_
        refine WO_nil ?_
        refine W_seq ?_
        refine W_reg ?_
        refine WO_pure (v := (.int .i64 (n + 1))) rfl rfl ?_
        refine WO_pure (v := (.bool (decide ((n + 1) < 0)))) rfl rfl ?_
        refine WO_nil ?_
        refine W_if (p := (n + 1) < 0) rfl (fun c12 => ?_) (fun c12 => ?_)
        ·refine W_seq ?_
         refine W_reg ?_
         refine WO_pure (v := (.bool false)) rfl rfl ?_
         refine WO_nil ?_
         refine W_ret ?_
         refine body_ret1 rfl (v0 := (.bool false)) rfl ?_
         have hbel := (below_ext (Below.refl w.heap.size w) hc1)
         exact ⟨by rw [nameB, f1_2, pairs_open (by omega) c10 c11, if_pos c12]; simp, hbel⟩
        ·refine W_skip ?_
         refine W_reg ?_
         refine WO_add (b := 1) (v := (k : Int) + 1) rfl rfl rfl (by simp only [kLo, kHi]; omega) ?_
         refine WO_pure (v := (.int .i64 ((k : Int) + 1))) rfl rfl ?_
         refine WO_nil ?_
         refine ⟨_, ?_, k + 1, (n + 1), rfl, rfl, rfl, rfl, rfl, ?_, ?_, ?_, ?_, ?_, rfl⟩
         ·omega
         ·omega
         ·rw [f1_2, pairs_open (by omega) c10 c11, if_neg c12]
         ·omega
         ·exact f1_4
         ·exact f1_5
       ·refine W_seq ?_
        refine W_reg ?_
        refine WO_pure (v := (.int .u8 (((byteAt l k).toNat : Int)))) rfl rfl ?_
        refine WO_pure (v := (.bool (decide (((byteAt l k).toNat : Int) = 41)))) rfl rfl ?_
        refine WO_pure (v := (.bool (decide (((byteAt l k).toNat : Int) = 41)))) rfl rfl ?_
        refine WO_nil ?_
        refine W_if (p := ((byteAt l k).toNat : Int) = 41) rfl (fun c13 => ?_) (fun c13 => ?_)
        ·refine W_reg ?_
         refine WO_pure (v := (.int .i64 n)) rfl rfl ?_
         refine WO_sub (b := 1) (v := n - 1) rfl rfl rfl (by simp only [kLo, kHi]; omega) ?_
         refine WO_pure (v := (.int .i64 (n - 1))) rfl rfl ?_
         refine WO_nil ?_
         refine W_seq ?_
         refine W_reg ?_
         refine WO_pure (v := (.int .i64 (n - 1))) rfl rfl ?_
         refine WO_pure (v := (.bool (decide ((n - 1) < 0)))) rfl rfl ?_
         refine WO_nil ?_
         refine W_if (p := (n - 1) < 0) rfl (fun c14 => ?_) (fun c14 => ?_)
         ·refine W_seq ?_
          refine W_reg ?_
          refine WO_pure (v := (.bool false)) rfl rfl ?_
          refine WO_nil ?_
          refine W_ret ?_
          refine body_ret1 rfl (v0 := (.bool false)) rfl ?_
          have hbel := (below_ext (Below.refl w.heap.size w) hc1)
          exact ⟨by rw [nameB, f1_2, pairs_close (by omega) c10 c11 c13, if_pos c14]; simp, hbel⟩
         ·refine W_skip ?_
          refine W_reg ?_
          refine WO_add (b := 1) (v := (k : Int) + 1) rfl rfl rfl (by simp only [kLo, kHi]; omega) ?_
          refine WO_pure (v := (.int .i64 ((k : Int) + 1))) rfl rfl ?_
          refine WO_nil ?_
          refine ⟨_, ?_, k + 1, (n - 1), rfl, rfl, rfl, rfl, rfl, ?_, ?_, ?_, ?_, ?_, rfl⟩
          ·omega
          ·omega
          ·rw [f1_2, pairs_close (by omega) c10 c11 c13, if_neg c14]
          ·omega
          ·exact f1_4
          ·exact f1_5
        ·refine W_skip ?_
         refine W_seq ?_
         refine W_reg ?_
         refine WO_pure (v := (.int .i64 n)) rfl rfl ?_
         refine WO_pure (v := (.bool (decide (n < 0)))) rfl rfl ?_
         refine WO_nil ?_
         refine W_if (p := n < 0) rfl (fun c15 => ?_) (fun c15 => ?_)
         ·refine W_seq ?_
          refine W_reg ?_
          refine WO_pure (v := (.bool false)) rfl rfl ?_
          refine WO_nil ?_
          refine W_ret ?_
          refine body_ret1 rfl (v0 := (.bool false)) rfl ?_
          have hbel := (below_ext (Below.refl w.heap.size w) hc1)
          exact ⟨by rw [nameB, f1_2, pairs_else (by omega) c10 c11 c13, if_pos c15]; simp, hbel⟩
         ·refine W_skip ?_
          refine W_reg ?_
          refine WO_add (b := 1) (v := (k : Int) + 1) rfl rfl rfl (by simp only [kLo, kHi]; omega) ?_
          refine WO_pure (v := (.int .i64 ((k : Int) + 1))) rfl rfl ?_
          refine WO_nil ?_
          refine ⟨_, ?_, k + 1, n, rfl, rfl, rfl, rfl, rfl, ?_, ?_, ?_, ?_, ?_, rfl⟩
          ·omega
          ·omega
          ·rw [f1_2, pairs_else (by omega) c10 c11 c13, if_neg c15]
          ·omega
          ·exact f1_4
          ·exact f1_5
    ·refine W_exit ?_
     refine W_seq ?_
     refine W_reg ?_
     refine WO_pure (v := (.int .i64 n)) rfl rfl ?_
     refine WO_pure (v := (.bool (decide (n = 0)))) rfl rfl ?_
     refine WO_pure (v := (.bool (decide (n = 0)))) rfl rfl ?_
     refine WO_nil ?_
     refine W_ret ?_
     refine body_ret1 rfl (v0 := (.bool (decide (n = 0)))) rfl ?_
     have hbel := (below_ext (Below.refl w.heap.size w) hc1)
     exact ⟨by rw [nameB, f1_5, f1_2, List.drop_of_length_le (by omega), pairs]; simp, hbel⟩
end Go.Proofs.YthhacfehjgfpbaaDoor
end
section
namespace Go.Proofs.YthhacfehjgfpbaaDoor
open Go Go.RowKit
def signN (s : List UInt8) : Int := if s = [60] then 1 else if s = [61] then 2 else if s = [60, 61] then 3 else if s = [62] then 4 else if s = [60, 62] then 5 else if s = [62, 61] then 6 else if s = [60, 61, 62] then 7 else 0
end Go.Proofs.YthhacfehjgfpbaaDoor
end
section
namespace Go.Proofs.YthhacfehjgfpbaaDoor
open Go Go.RowKit
theorem en_71 : Enters Tryd.prog 71 := enters_of Tryd.func71 (by kernel_rfl) rfl
theorem en_72 : Enters Tryd.prog 72 := enters_of Tryd.func72 (by kernel_rfl) rfl
theorem en_70 : Enters Tryd.prog 70 := enters_of Tryd.func70 (by kernel_rfl) rfl
theorem en_74 : Enters Tryd.prog 74 := enters_of Tryd.func74 (by kernel_rfl) rfl
theorem en_81 : Enters Tryd.prog 81 := enters_of Tryd.func81 (by kernel_rfl) rfl
theorem en_76 : Enters Tryd.prog 76 := enters_of Tryd.func76 (by kernel_rfl) rfl
theorem en_45 : Enters Tryd.prog 45 := enters_of Tryd.func45 (by kernel_rfl) rfl
theorem en_80 : Enters Tryd.prog 80 := enters_of Tryd.func80 (by kernel_rfl) rfl
theorem en_75 : Enters Tryd.prog 75 := enters_of Tryd.func75 (by kernel_rfl) rfl
theorem en_73 : Enters Tryd.prog 73 := enters_of Tryd.func73 (by kernel_rfl) rfl
theorem en_77 : Enters Tryd.prog 77 := enters_of Tryd.func77 (by kernel_rfl) rfl
theorem en_63 : Enters Tryd.prog 63 := enters_of Tryd.func63 (by kernel_rfl) rfl
def digitC (c : UInt8) : Bool := decide (48 ≤ c.toNat) && decide (c.toNat ≤ 57)
def letterC (c : UInt8) : Bool := (decide (97 ≤ c.toNat) && decide (c.toNat ≤ 122)) || (decide (65 ≤ c.toNat) && decide (c.toNat ≤ 90))
def midL : List UInt8 := [46, 95, 43, 126, 94, 45, 58]
def mayC (c : UInt8) : Bool := digitC c || (letterC c || midL.contains c)
theorem indexByte_has (l : List UInt8) (c : UInt8) : decide (0 ≤ Lib.indexByte l c) = l.contains c := by
 induction l with
 | nil => rfl
 | cons b l ih =>
  have hge := Lib.indexByte_ge l c
  rw [List.contains_cons, ← ih, Bool.eq_iff_iff]
  rw [show Lib.indexByte (b :: l) c = if b == c then 0 else if Lib.indexByte l c == -1 then -1 else Lib.indexByte l c + 1 from rfl]
  by_cases h : b = c
  ·subst h; simp
  ·have h' : ¬ c = b := fun e => h e.symm
   by_cases hm : Lib.indexByte l c = -1
   ·simp [h, h', hm]
   ·simp [h, h', hm]; omega
theorem IndexByte_any (l : List UInt8) (c : UInt8) (w : World) : Calls Tryd.prog 73 #[S l, .int .u8 (c.toNat : Int)] w (Ret fun v w' => v = .int .i64 (Lib.indexByte l c) ∧ w = w') := by
 have h := ret_of (Tryd.strings_IndexByte ⟨l.toArray⟩ (c.toNat : Int) w)
 have e : ((c.toNat : Int)).toNat.toUInt8 = c := by simp
 rw [e] at h; exact h
theorem Index1_any (l : List UInt8) (c : UInt8) (w : World) : Calls Tryd.prog 45 #[S l, S [c]] w (Ret fun v w' => v = .int .i64 (Lib.indexByte l c) ∧ w = w') := ret_of (Tryd.stringslite_Index_one ⟨l.toArray⟩ c w)
theorem Contains1_any (l : List UInt8) (c : UInt8) (w : World) : Calls Tryd.prog 77 #[S l, S [c]] w (Ret fun v w' => v = .bool (l.contains c) ∧ w = w') := by
 have h := ret_of (Tryd.strings_Contains_one ⟨l.toArray⟩ c w)
 rw [show (decide (0 ≤ Lib.indexByte (⟨l.toArray⟩ : ByteArray).data.toList c)) = l.contains c from indexByte_has l c] at h; exact h
set_option maxHeartbeats 400000 in
set_option maxRecDepth 100000 in
theorem digit_any (c : UInt8) (w : World) :
  Calls Tryd.prog 71 #[(.int .u8 (((c).toNat : Int)))] w (Ret fun v w' => v = .bool (digitC c) ∧ w = w') := by
 refine calls_W Tryd.func71 rfl Tryd.ntmps71 ?_
 refine W_seq ?_
 refine W_reg ?_
 refine WO_pure (v := (.bool false)) rfl rfl ?_
 refine WO_nil ?_
 refine W_cut (fun σ' w' => w = w' ∧ σ' 2 = (.bool (digitC c))) ?_ ?_
 ·refine W_reg ?_
  refine WO_pure (v := (.int .u8 (((c).toNat : Int)))) rfl rfl ?_
  refine WO_pure (v := (.bool (decide (48 ≤ ((c).toNat : Int))))) rfl rfl ?_
  refine WO_pure (v := (.bool (decide (48 ≤ ((c).toNat : Int))))) rfl rfl ?_
  refine WO_splitp 5 (p := 48 ≤ ((c).toNat : Int)) (by exact rfl) (fun c1 => ?_) (fun c1 => ?_)
  ·refine WO_pure (v := (.int .u8 (((c).toNat : Int)))) rfl rfl ?_
   refine WO_pure (v := (.bool (decide (((c).toNat : Int) ≤ 57)))) rfl rfl ?_
   refine WO_pure (v := (.bool (decide (((c).toNat : Int) ≤ 57)))) rfl rfl ?_
   refine WO_pure (v := (.bool (decide (((c).toNat : Int) ≤ 57)))) rfl rfl ?_
   refine WO_nil ?_
   exact ⟨rfl, (by show ((.bool (decide (((c).toNat : Int) ≤ 57))) : Value) = (.bool (digitC c)); show Value.bool _ = Value.bool _; rw [Value.bool.injEq, Bool.eq_iff_iff]; first | (simp [digitC, c1]; done) | (simp [digitC, c1]; omega) | (simp_all [digitC]; done) | (simp_all [digitC]; omega) | (simp only [digitC, Bool.or_eq_true, Bool.and_eq_true, Bool.not_eq_true', decide_eq_true_eq, decide_eq_false_iff_not]; grind))⟩
  ·refine WO_pass rfl ?_
   refine WO_pass rfl ?_
   refine WO_pure (v := (.bool false)) rfl rfl ?_
   refine WO_pure (v := (.bool false)) rfl rfl ?_
   refine WO_nil ?_
   exact ⟨rfl, (by show ((.bool false) : Value) = (.bool (digitC c)); show Value.bool _ = Value.bool _; rw [Value.bool.injEq, Bool.eq_iff_iff]; first | (simp [digitC, c1]; done) | (simp [digitC, c1]; omega) | (simp_all [digitC]; done) | (simp_all [digitC]; omega) | (simp only [digitC, Bool.or_eq_true, Bool.and_eq_true, Bool.not_eq_true', decide_eq_true_eq, decide_eq_false_iff_not]; grind))⟩
 ·rintro σ1 _ ⟨rfl, h1_2⟩
  refine W_anchor (d := 2) h1_2 (?_)
  refine W_ret ?_
  refine body_ret1 rfl (v0 := (.bool (digitC c))) rfl ?_
  exact ⟨rfl, rfl⟩
set_option maxHeartbeats 400000 in
set_option maxRecDepth 100000 in
theorem letter_any (c : UInt8) (w : World) :
  Calls Tryd.prog 72 #[(.int .u8 (((c).toNat : Int)))] w (Ret fun v w' => v = .bool (letterC c) ∧ w = w') := by
 refine calls_W Tryd.func72 rfl Tryd.ntmps72 ?_
 refine W_seq ?_
 refine W_reg ?_
 refine WO_pure (v := (.bool false)) rfl rfl ?_
 refine WO_nil ?_
 refine W_cut (fun σ' w' => w = w' ∧ σ' 2 = (.bool (letterC c))) ?_ ?_
 ·refine W_reg ?_
  refine WO_pure (v := (.int .u8 (((c).toNat : Int)))) rfl rfl ?_
  refine WO_pure (v := (.bool (decide (97 ≤ ((c).toNat : Int))))) rfl rfl ?_
  refine WO_pure (v := (.bool (decide (97 ≤ ((c).toNat : Int))))) rfl rfl ?_
  refine WO_splitp 5 (p := 97 ≤ ((c).toNat : Int)) (by exact rfl) (fun c1 => ?_) (fun c1 => ?_)
  ·refine WO_pure (v := (.int .u8 (((c).toNat : Int)))) rfl rfl ?_
   refine WO_pure (v := (.bool (decide (((c).toNat : Int) ≤ 122)))) rfl rfl ?_
   refine WO_pure (v := (.bool (decide (((c).toNat : Int) ≤ 122)))) rfl rfl ?_
   refine WO_pure (v := (.bool (decide (((c).toNat : Int) ≤ 122)))) rfl rfl ?_
   refine WO_splitp 9 (p := ((c).toNat : Int) ≤ 122) (by exact rfl) (fun c2 => ?_) (fun c2 => ?_)
   ·refine WO_pass rfl ?_
    refine WO_pass rfl ?_
    refine WO_pass rfl ?_
    refine WO_pass rfl ?_
    refine WO_pass rfl ?_
    refine WO_pass rfl ?_
    refine WO_pure (v := (.bool true)) rfl rfl ?_
    refine WO_pure (v := (.bool true)) rfl rfl ?_
    refine WO_nil ?_
    exact ⟨rfl, (by show ((.bool true) : Value) = (.bool (letterC c)); show Value.bool _ = Value.bool _; rw [Value.bool.injEq, Bool.eq_iff_iff]; first | (simp [letterC, c1, c2]; done) | (simp [letterC, c1, c2]; omega) | (simp_all [letterC]; done) | (simp_all [letterC]; omega) | (simp only [letterC, Bool.or_eq_true, Bool.and_eq_true, Bool.not_eq_true', decide_eq_true_eq, decide_eq_false_iff_not]; grind))⟩
   ·refine WO_pure (v := (.int .u8 (((c).toNat : Int)))) rfl rfl ?_
    refine WO_pure (v := (.bool (decide (65 ≤ ((c).toNat : Int))))) rfl rfl ?_
    refine WO_pure (v := (.bool (decide (65 ≤ ((c).toNat : Int))))) rfl rfl ?_
    refine WO_splitp 12 (p := 65 ≤ ((c).toNat : Int)) (by exact rfl) (fun c3 => ?_) (fun c3 => ?_)
    ·refine WO_pure (v := (.int .u8 (((c).toNat : Int)))) rfl rfl ?_
     refine WO_pure (v := (.bool (decide (((c).toNat : Int) ≤ 90)))) rfl rfl ?_
     refine WO_pure (v := (.bool (decide (((c).toNat : Int) ≤ 90)))) rfl rfl ?_
     refine WO_pure (v := (.bool (decide (((c).toNat : Int) ≤ 90)))) rfl rfl ?_
     refine WO_pure (v := (.bool (decide (((c).toNat : Int) ≤ 90)))) rfl rfl ?_
     refine WO_nil ?_
     exact ⟨rfl, (by show ((.bool (decide (((c).toNat : Int) ≤ 90))) : Value) = (.bool (letterC c)); show Value.bool _ = Value.bool _; rw [Value.bool.injEq, Bool.eq_iff_iff]; first | (simp [letterC, c1, c2, c3]; done) | (simp [letterC, c1, c2, c3]; omega) | (simp_all [letterC]; done) | (simp_all [letterC]; omega) | (simp only [letterC, Bool.or_eq_true, Bool.and_eq_true, Bool.not_eq_true', decide_eq_true_eq, decide_eq_false_iff_not]; grind))⟩
    ·refine WO_pass rfl ?_
     refine WO_pass rfl ?_
     refine WO_pure (v := (.bool false)) rfl rfl ?_
     refine WO_pure (v := (.bool false)) rfl rfl ?_
     refine WO_pure (v := (.bool false)) rfl rfl ?_
     refine WO_nil ?_
     exact ⟨rfl, (by show ((.bool false) : Value) = (.bool (letterC c)); show Value.bool _ = Value.bool _; rw [Value.bool.injEq, Bool.eq_iff_iff]; first | (simp [letterC, c1, c2, c3]; done) | (simp [letterC, c1, c2, c3]; omega) | (simp_all [letterC]; done) | (simp_all [letterC]; omega) | (simp only [letterC, Bool.or_eq_true, Bool.and_eq_true, Bool.not_eq_true', decide_eq_true_eq, decide_eq_false_iff_not]; grind))⟩
  ·refine WO_pass rfl ?_
   refine WO_pass rfl ?_
   refine WO_pure (v := (.bool false)) rfl rfl ?_
   refine WO_pure (v := (.bool false)) rfl rfl ?_
   refine WO_pure (v := (.int .u8 (((c).toNat : Int)))) rfl rfl ?_
   refine WO_pure (v := (.bool (decide (65 ≤ ((c).toNat : Int))))) rfl rfl ?_
   refine WO_pure (v := (.bool (decide (65 ≤ ((c).toNat : Int))))) rfl rfl ?_
   refine WO_splitp 12 (p := 65 ≤ ((c).toNat : Int)) (by exact rfl) (fun c4 => ?_) (fun c4 => ?_)
   ·refine WO_pure (v := (.int .u8 (((c).toNat : Int)))) rfl rfl ?_
    refine WO_pure (v := (.bool (decide (((c).toNat : Int) ≤ 90)))) rfl rfl ?_
    refine WO_pure (v := (.bool (decide (((c).toNat : Int) ≤ 90)))) rfl rfl ?_
    refine WO_pure (v := (.bool (decide (((c).toNat : Int) ≤ 90)))) rfl rfl ?_
    refine WO_pure (v := (.bool (decide (((c).toNat : Int) ≤ 90)))) rfl rfl ?_
    refine WO_nil ?_
    exact ⟨rfl, (by show ((.bool (decide (((c).toNat : Int) ≤ 90))) : Value) = (.bool (letterC c)); show Value.bool _ = Value.bool _; rw [Value.bool.injEq, Bool.eq_iff_iff]; first | (simp [letterC, c1, c4]; done) | (simp [letterC, c1, c4]; omega) | (simp_all [letterC]; done) | (simp_all [letterC]; omega) | (simp only [letterC, Bool.or_eq_true, Bool.and_eq_true, Bool.not_eq_true', decide_eq_true_eq, decide_eq_false_iff_not]; grind))⟩
   ·refine WO_pass rfl ?_
    refine WO_pass rfl ?_
    refine WO_pure (v := (.bool false)) rfl rfl ?_
    refine WO_pure (v := (.bool false)) rfl rfl ?_
    refine WO_pure (v := (.bool false)) rfl rfl ?_
    refine WO_nil ?_
    exact ⟨rfl, (by show ((.bool false) : Value) = (.bool (letterC c)); show Value.bool _ = Value.bool _; rw [Value.bool.injEq, Bool.eq_iff_iff]; first | (simp [letterC, c1, c4]; done) | (simp [letterC, c1, c4]; omega) | (simp_all [letterC]; done) | (simp_all [letterC]; omega) | (simp only [letterC, Bool.or_eq_true, Bool.and_eq_true, Bool.not_eq_true', decide_eq_true_eq, decide_eq_false_iff_not]; grind))⟩
 ·rintro σ1 _ ⟨rfl, h1_2⟩
  refine W_anchor (d := 2) h1_2 (?_)
  refine W_ret ?_
  refine body_ret1 rfl (v0 := (.bool (letterC c))) rfl ?_
  exact ⟨rfl, rfl⟩
set_option maxHeartbeats 400000 in
set_option maxRecDepth 100000 in
theorem mayc_any (c : UInt8) (w : World) :
  Calls Tryd.prog 70 #[(.int .u8 (((c).toNat : Int)))] w (Ret fun v w' => v = .bool (mayC c) ∧ w = w') := by
 refine calls_W Tryd.func70 rfl Tryd.ntmps70 ?_
 refine W_seq ?_
 refine W_reg ?_
 refine WO_pure (v := (.bool false)) rfl rfl ?_
 refine WO_nil ?_
 refine W_cut (fun σ' w' => w = w' ∧ σ' 2 = (.bool (mayC c))) ?_ ?_
 ·refine W_reg ?_
  refine WO_pure (v := (.int .u8 (((c).toNat : Int)))) rfl rfl ?_
  refine WO_call rfl (by exact en_71) (digit_any _ _) ?_
  rintro _ _ ⟨rfl, rfl⟩
  refine WO_pure (v := (.bool (digitC c))) rfl rfl ?_
  refine WO_split 5 (b := digitC c) (by exact rfl) (fun c1 => ?_) (fun c1 => ?_)
  ·refine WO_pass rfl ?_
   refine WO_pass rfl ?_
   refine WO_pure (v := (.bool true)) rfl rfl ?_
   refine WO_pure (v := (.bool true)) rfl rfl ?_
   refine WO_pass rfl ?_
   refine WO_pass rfl ?_
   refine WO_pass rfl ?_
   refine WO_pure (v := (.bool true)) rfl rfl ?_
   refine WO_pure (v := (.bool true)) rfl rfl ?_
   refine WO_nil ?_
   exact ⟨rfl, (by show ((.bool true) : Value) = (.bool (mayC c)); first | (simp [mayC, c1]; done) | (show Value.bool _ = Value.bool _; rw [indexByte_has]; simp [mayC, c1]))⟩
  ·refine WO_pure (v := (.int .u8 (((c).toNat : Int)))) rfl rfl ?_
   refine WO_call rfl (by exact en_72) (letter_any _ _) ?_
   rintro _ _ ⟨rfl, rfl⟩
   refine WO_pure (v := (.bool (letterC c))) rfl rfl ?_
   refine WO_pure (v := (.bool (letterC c))) rfl rfl ?_
   refine WO_split 9 (b := letterC c) (by exact rfl) (fun c2 => ?_) (fun c2 => ?_)
   ·refine WO_pass rfl ?_
    refine WO_pass rfl ?_
    refine WO_pass rfl ?_
    refine WO_pure (v := (.bool true)) rfl rfl ?_
    refine WO_pure (v := (.bool true)) rfl rfl ?_
    refine WO_nil ?_
    exact ⟨rfl, (by show ((.bool true) : Value) = (.bool (mayC c)); first | (simp [mayC, c1, c2]; done) | (show Value.bool _ = Value.bool _; rw [indexByte_has]; simp [mayC, c1, c2]))⟩
   ·refine WO_pure (v := (.int .u8 (((c).toNat : Int)))) rfl rfl ?_
    refine WO_call rfl (by exact en_73) (IndexByte_any midL c _) ?_
    rintro _ _ ⟨rfl, rfl⟩
    refine WO_pure (v := (.bool (decide (0 ≤ (Lib.indexByte midL c))))) rfl rfl ?_
    refine WO_pure (v := (.bool (decide (0 ≤ (Lib.indexByte midL c))))) rfl rfl ?_
    refine WO_pure (v := (.bool (decide (0 ≤ (Lib.indexByte midL c))))) rfl rfl ?_
    refine WO_nil ?_
    exact ⟨rfl, (by show ((.bool (decide (0 ≤ (Lib.indexByte midL c)))) : Value) = (.bool (mayC c)); first | (simp [mayC, c1, c2]; done) | (show Value.bool _ = Value.bool _; rw [indexByte_has]; simp [mayC, c1, c2]))⟩
 ·rintro σ1 _ ⟨rfl, h1_2⟩
  refine W_anchor (d := 2) h1_2 (?_)
  refine W_ret ?_
  refine body_ret1 rfl (v0 := (.bool (mayC c))) rfl ?_
  exact ⟨rfl, rfl⟩
def TellsB (P : Program) (f : FuncId) (cap : Array Value) (p : UInt8 → Bool) : Prop :=
 ∀ (c : UInt8) (w : World), Calls P f (.int .u8 (c.toNat : Int) :: cap.toList).toArray w (Ret fun v w' => v = .bool (p c) ∧ w = w')
theorem tells_digit : TellsB Tryd.prog 71 #[] digitC := fun c w => digit_any c w
theorem tells_may : TellsB Tryd.prog 70 #[] mayC := fun c w => mayc_any c w
def cntB (p : UInt8 → Bool) (l : List UInt8) : Nat := (l.takeWhile p).length
theorem cntB_hit {p : UInt8 → Bool} {l : List UInt8} {k : Nat} (h : k < l.length) (ha : (l.take k).all p = true) (hc : p (byteAt l k) = false) : cntB p l = k := by
 unfold cntB
 have : l = l.take k ++ byteAt l k :: l.drop (k + 1) := by rw [← drop_byte h, List.take_append_drop]
 rw [this, List.takeWhile_append_of_pos (by simpa using ha), List.takeWhile_cons, hc]
 simp; omega
theorem cntB_all {p : UInt8 → Bool} {l : List UInt8} (ha : l.all p = true) : cntB p l = l.length := by
 unfold cntB
 induction l with
 | nil => rfl
 | cons a r ih =>
  rw [List.all_cons, Bool.and_eq_true] at ha
  rw [List.takeWhile_cons, ha.1]; simp [ih ha.2]
theorem cntB_eq (p : UInt8 → Bool) (l : List UInt8) : decide ((cntB p l : Int) = (l.length : Int)) = l.all p := by
 rw [Bool.eq_iff_iff, decide_eq_true_eq]
 constructor
 ·intro h
  unfold cntB at h
  have := (List.takeWhile_prefix p (l := l)).eq_of_length (by omega)
  rw [← this]; simp
 ·intro h; rw [cntB_all h]
set_option maxHeartbeats 400000 in
set_option maxRecDepth 100000 in
theorem count_any (l : List UInt8) (f : FuncId) (cap : Array Value) (p : UInt8 → Bool) (w : World) (he : Enters Tryd.prog f) (ht : TellsB Tryd.prog f cap p) (hl : l.length ≤ 9223372036854775807) :
  Calls Tryd.prog 74 #[(S l), (.func (.func f) #[] cap)] w (Ret fun v w' => v = .int .i64 (cntB p l : Int) ∧ w = w') := by
 refine calls_W Tryd.func74 rfl Tryd.ntmps74 ?_
 refine W_seq ?_
 refine W_reg ?_
 refine WO_pure (v := (.int .i64 0)) rfl rfl ?_
 refine WO_nil ?_
 refine W_seq ?_
 refine W_reg ?_
 refine WO_pure (v := (.int .i64 0)) rfl rfl ?_
 refine WO_nil ?_
 refine W_seq ?_
 refine W_block ?_
 refine W_loop (fun g σ' w' => ∃ (k : Nat), w = w' ∧ σ' 0 = (S l) ∧ σ' 1 = (.func (.func f) #[] cap) ∧ σ' 5 = (.int .i64 ((k : Int))) ∧ k ≤ l.length ∧ (l.take k).all p = true ∧ g = l.length - k) ?_ ?_
 ·refine ⟨_, 0, rfl, rfl, rfl, rfl, ?_, ?_, rfl⟩
  all_goals first | rfl | omega | simp
 ·rintro g σl1 _ ⟨k, rfl, l1_0, l1_1, l1_5, f1_1, f1_2, rfl⟩
  refine W_anchor (d := 0) l1_0 (W_anchor (d := 1) l1_1 (W_anchor (d := 5) l1_5 (?_)))
  refine W_seq ?_
  refine W_cut (fun σ' w' => w = w' ∧ σ' 0 = (S l) ∧ σ' 1 = (.func (.func f) #[] cap) ∧ σ' 5 = (.int .i64 ((k : Int))) ∧ σ' 16 = (.bool (decide (k < l.length) && p (byteAt l k)))) ?_ ?_
  ·refine W_reg ?_
   refine WO_pure (v := (.int .i64 ((k : Int)))) rfl rfl ?_
   refine WO_pure (v := (S l)) rfl rfl ?_
   refine WO_slen (l := l) rfl rfl Tryd.underlying9 ?_
   refine WO_pure (v := (.bool (decide ((k : Int) < (l.length : Int))))) rfl rfl ?_
   refine WO_pure (v := (.bool (decide ((k : Int) < (l.length : Int))))) rfl rfl ?_
   refine WO_splitp 10 (p := (k : Int) < (l.length : Int)) (by exact rfl) (fun c1 => ?_) (fun c1 => ?_)
   ·refine WO_pure (v := (.func (.func f) #[] cap)) rfl rfl ?_
    refine WO_pure (v := (S l)) rfl rfl ?_
    refine WO_pure (v := (.int .i64 ((k : Int)))) rfl rfl ?_
    refine WO_sidx (l := l) (j := k) rfl rfl rfl Tryd.underlying9 (by first | rfl | omega) (by first | omega | (simp; done) | (simp; omega)) ?_
    refine WO_callv rfl rfl he (ht _ _) ?_
    rintro _ _ ⟨rfl, rfl⟩
    refine WO_pure (v := (.bool (p (byteAt l k)))) rfl rfl ?_
    refine WO_nil ?_
    exact ⟨rfl, rfl, rfl, rfl, (by show ((.bool (p (byteAt l k))) : Value) = (.bool (decide (k < l.length) && p (byteAt l k))); show Value.bool _ = Value.bool _; rw [Value.bool.injEq, Bool.eq_iff_iff]; first | (simp [c1]; done) | (simp [c1]; omega) | (simp_all []; done) | (simp_all []; omega) | (simp only [Bool.or_eq_true, Bool.and_eq_true, Bool.not_eq_true', decide_eq_true_eq, decide_eq_false_iff_not]; grind))⟩
   ·refine WO_pass rfl ?_
    refine WO_pass rfl ?_
    refine WO_pass rfl ?_
    refine WO_pass rfl ?_
    refine WO_pass rfl ?_
    refine WO_pure (v := (.bool false)) rfl rfl ?_
    refine WO_nil ?_
    exact ⟨rfl, rfl, rfl, rfl, (by show ((.bool false) : Value) = (.bool (decide (k < l.length) && p (byteAt l k))); show Value.bool _ = Value.bool _; rw [Value.bool.injEq, Bool.eq_iff_iff]; first | (simp [c1]; done) | (simp [c1]; omega) | (simp_all []; done) | (simp_all []; omega) | (simp only [Bool.or_eq_true, Bool.and_eq_true, Bool.not_eq_true', decide_eq_true_eq, decide_eq_false_iff_not]; grind))⟩
  ·rintro σ1 _ ⟨rfl, h1_0, h1_1, h1_5, h1_16⟩
   refine W_anchor (d := 0) h1_0 (W_anchor (d := 1) h1_1 (W_anchor (d := 5) h1_5 (W_anchor (d := 16) h1_16 (?_))))
   refine W_cond (t := decide (k < l.length) && p (byteAt l k)) rfl (fun c2 => ?_) (fun c2 => ?_)
   ·refine W_skip ?_
    refine W_block ?_
    refine W_reg ?_
    have hk : k < l.length ∧ p (byteAt l k) = true := by simpa using c2
    refine WO_pure (v := (.int .i64 ((k : Int)))) rfl rfl ?_
    refine WO_add (b := 1) (v := (k : Int) + 1) rfl rfl rfl (by simp only [kLo, kHi]; omega) ?_
    refine WO_pure (v := (.int .i64 ((k : Int) + 1))) rfl rfl ?_
    refine WO_nil ?_
    refine ⟨_, ?_, k + 1, rfl, rfl, rfl, rfl, ?_, ?_, rfl⟩
    ·omega
    ·omega
    ·exact all_take_snoc hk.1 f1_2 hk.2
   ·refine W_exit ?_
    refine W_seq ?_
    refine W_reg ?_
    refine WO_pure (v := (.int .i64 ((k : Int)))) rfl rfl ?_
    refine WO_pure (v := (.int .i64 ((k : Int)))) rfl rfl ?_
    refine WO_nil ?_
    refine W_ret ?_
    refine body_ret1 rfl (v0 := (.int .i64 ((k : Int)))) rfl ?_
    refine ⟨?_, rfl⟩
    by_cases hk : k < l.length
    ·rw [cntB_hit hk f1_2 (by simpa [hk] using c2)]
    ·rw [List.take_of_length_le (by omega)] at f1_2
     rw [cntB_all f1_2, show l.length = k by omega]
def lastBefore (l : List UInt8) (c : UInt8) : Nat → Int
 | 0 => -1
 | k + 1 => if byteAt l k = c then (k : Int) else lastBefore l c k
theorem lastBefore_pos {l : List UInt8} {c : UInt8} {k : Nat} (h : 0 < k) : lastBefore l c k = if byteAt l (k - 1) = c then ((k - 1 : Nat) : Int) else lastBefore l c (k - 1) := by
 obtain ⟨j, rfl⟩ : ∃ j, k = j + 1 := ⟨k - 1, by omega⟩
 rfl
theorem lastBefore_cases (l : List UInt8) (c : UInt8) : ∀ k, lastBefore l c k = -1 ∨ ∃ j : Nat, lastBefore l c k = j ∧ j < k
 | 0 => .inl rfl
 | k + 1 => by
  unfold lastBefore
  split
  ·exact .inr ⟨k, rfl, by omega⟩
  ·rcases lastBefore_cases l c k with h | ⟨j, h, hj⟩
   ·exact .inl h
   ·exact .inr ⟨j, h, by omega⟩
set_option maxHeartbeats 400000 in
set_option maxRecDepth 100000 in
theorem lastIndex_any (l : List UInt8) (c : UInt8) (w : World) (hl : l.length ≤ 9223372036854775807) :
  Calls Tryd.prog 81 #[(S l), (.int .u8 (((c).toNat : Int)))] w (Ret fun v w' => v = .int .i64 (lastBefore l c l.length) ∧ w = w') := by
 refine calls_W Tryd.func81 rfl Tryd.ntmps81 ?_
 refine W_seq ?_
 refine W_reg ?_
 refine WO_pure (v := (.int .i64 0)) rfl rfl ?_
 refine WO_nil ?_
 refine W_seq ?_
 refine W_seq ?_
 refine W_reg ?_
 refine WO_pure (v := (S l)) rfl rfl ?_
 refine WO_slen (l := l) rfl rfl Tryd.underlying9 ?_
 refine WO_sub (b := 1) (v := (l.length : Int) - 1) rfl rfl rfl (by simp only [kLo, kHi]; omega) ?_
 refine WO_pure (v := (.int .i64 ((l.length : Int) - 1))) rfl rfl ?_
 refine WO_nil ?_
 refine W_block ?_
 refine W_loop (fun g σ' w' => ∃ (k : Nat), w = w' ∧ σ' 0 = (S l) ∧ σ' 1 = (.int .u8 (((c).toNat : Int))) ∧ σ' 5 = (.int .i64 ((k : Int) - 1)) ∧ k ≤ l.length ∧ lastBefore l c l.length = lastBefore l c k ∧ g = k + 1) ?_ ?_
 ·refine ⟨_, l.length, rfl, rfl, rfl, rfl, ?_, ?_, rfl⟩
  all_goals first | rfl | omega | simp
 ·rintro g σl1 _ ⟨k, rfl, l1_0, l1_1, l1_5, f1_1, f1_2, rfl⟩
  refine W_anchor (d := 0) l1_0 (W_anchor (d := 1) l1_1 (W_anchor (d := 5) l1_5 (?_)))
  refine W_seq ?_
  refine W_seq ?_
  refine W_reg ?_
  refine WO_pure (v := (.int .i64 ((k : Int) - 1))) rfl rfl ?_
  refine WO_pure (v := (.bool (decide (0 ≤ ((k : Int) - 1))))) rfl rfl ?_
  refine WO_nil ?_
  refine W_if (p := 0 ≤ ((k : Int) - 1)) rfl (fun c1 => ?_) (fun c1 => ?_)
  ·refine W_skip ?_
   refine W_seq ?_
   refine W_block ?_
   refine W_seq ?_
   refine W_reg ?_
   refine WO_pure (v := (S l)) rfl rfl ?_
   refine WO_pure (v := (.int .i64 ((k : Int) - 1))) rfl rfl ?_
   refine WO_sidx (l := l) (j := (k - 1)) rfl rfl rfl Tryd.underlying9 (by first | rfl | omega) (by first | omega | (simp; done) | (simp; omega)) ?_
   refine WO_pure (v := (.int .u8 (((c).toNat : Int)))) rfl rfl ?_
   refine WO_pure (v := (.bool (decide (((byteAt l (k - 1)).toNat : Int) = ((c).toNat : Int))))) rfl rfl ?_
   refine WO_nil ?_
   refine W_if (p := ((byteAt l (k - 1)).toNat : Int) = ((c).toNat : Int)) rfl (fun c2 => ?_) (fun c2 => ?_)
   ·refine W_seq ?_
    refine W_reg ?_
    refine WO_pure (v := (.int .i64 ((k : Int) - 1))) rfl rfl ?_
    refine WO_pure (v := (.int .i64 ((k : Int) - 1))) rfl rfl ?_
    refine WO_nil ?_
    refine W_ret ?_
    refine body_ret1 rfl (v0 := (.int .i64 ((k : Int) - 1))) rfl ?_
    exact ⟨by rw [f1_2, lastBefore_pos (by omega), if_pos (UInt8.toNat_inj.1 (by omega))]; congr 1; omega, rfl⟩
   ·refine W_skip ?_
    refine W_reg ?_
    refine WO_pure (v := (.int .i64 ((k : Int) - 1))) rfl rfl ?_
    refine WO_sub (v := ((k - 1 : Nat) : Int) - 1) (hv := by omega) rfl rfl rfl (by simp only [kLo, kHi]; omega) ?_
    refine WO_pure (v := (.int .i64 (((k - 1 : Nat) : Int) - 1))) rfl rfl ?_
    refine WO_nil ?_
    refine ⟨_, ?_, (k - 1), rfl, rfl, rfl, rfl, ?_, ?_, rfl⟩
    ·omega
    ·omega
    ·rw [f1_2, lastBefore_pos (by omega), if_neg (fun e => c2 (by rw [e]))]
  ·refine W_exit ?_
   refine W_seq ?_
   refine W_reg ?_
   refine WO_pure (v := (.int .i64 (-1))) rfl rfl ?_
   refine WO_nil ?_
   refine W_ret ?_
   refine body_ret1 rfl (v0 := (.int .i64 (-1))) rfl ?_
   exact ⟨by rw [f1_2, show k = 0 by omega]; rfl, rfl⟩
set_option maxHeartbeats 400000 in
set_option maxRecDepth 100000 in
theorem LastIndexByte_any (l : List UInt8) (c : UInt8) (w : World) (hl : l.length ≤ 9223372036854775807) :
  Calls Tryd.prog 76 #[(S l), (.int .u8 (((c).toNat : Int)))] w (Ret fun v w' => v = .int .i64 (lastBefore l c l.length) ∧ w = w') := by
 refine calls_W Tryd.func76 rfl Tryd.ntmps76 ?_
 refine W_seq ?_
 refine W_reg ?_
 refine WO_pure (v := (.int .i64 0)) rfl rfl ?_
 refine WO_nil ?_
 refine W_seq ?_
 refine W_reg ?_
 refine WO_pure (v := (S l)) rfl rfl ?_
 refine WO_pure (v := (.int .u8 (((c).toNat : Int)))) rfl rfl ?_
 refine WO_call rfl (by exact en_81) (lastIndex_any l c _ hl) ?_
 rintro _ _ ⟨rfl, rfl⟩
 refine WO_pure (v := (.int .i64 (lastBefore l c l.length))) rfl rfl ?_
 refine WO_nil ?_
 refine W_ret ?_
 refine body_ret1 rfl (v0 := (.int .i64 (lastBefore l c l.length))) rfl ?_
 exact ⟨rfl, rfl⟩
def cutV (l : List UInt8) (c : UInt8) : Value := if 0 ≤ Lib.indexByte l c then .tuple #[S (l.take (Lib.indexByte l c).toNat), S (l.drop ((Lib.indexByte l c).toNat + 1)), .bool true] else .tuple #[S l, S [], .bool false]
theorem indexByte_lt (l : List UInt8) (c : UInt8) : Lib.indexByte l c < l.length := by
 induction l with
 | nil => simp [Lib.indexByte]
 | cons b l ih => unfold Lib.indexByte; simp only [List.length_cons]; (repeat' split) <;> omega
end Go.Proofs.YthhacfehjgfpbaaDoor
end
section
namespace Go.Proofs.YthhacfehjgfpbaaDoor
open Go Go.RowKit
theorem idx_cases (l : List UInt8) (c : UInt8) : Lib.indexByte l c = -1 ∨ ∃ j : Nat, Lib.indexByte l c = j ∧ j < l.length := by
 have h1 := Lib.indexByte_ge l c
 have h2 := indexByte_lt l c
 by_cases h : Lib.indexByte l c = -1
 ·exact .inl h
 ·exact .inr ⟨(Lib.indexByte l c).toNat, by omega, by omega⟩
theorem cutV_none {l : List UInt8} {c : UInt8} (h : Lib.indexByte l c = -1) : cutV l c = .tuple #[S l, S [], .bool false] := by unfold cutV; rw [h, if_neg (by omega)]
theorem cutV_some {l : List UInt8} {c : UInt8} {j : Nat} (h : Lib.indexByte l c = j) : cutV l c = .tuple #[S (l.take j), S (l.drop (j + 1)), .bool true] := by unfold cutV; rw [h, if_pos (by omega), Int.toNat_natCast]
set_option maxHeartbeats 400000 in
set_option maxRecDepth 100000 in
theorem cut_any (l : List UInt8) (c : UInt8) (w : World) (hl : l.length ≤ 9223372036854775807) :
  Calls Tryd.prog 80 #[(S l), (S ([c]))] w (Ret fun v w' => v = cutV l c ∧ Below w.heap.size w w') := by
 refine calls_W Tryd.func80 rfl Tryd.ntmps80 ?_
 refine W_seq ?_
 refine W_reg ?_
 refine WO_pure (v := (S [])) rfl rfl ?_
 refine WO_pure (v := (S [])) rfl rfl ?_
 refine WO_pure (v := (.bool false)) rfl rfl ?_
 refine WO_nil ?_
 refine W_seq ?_
 refine W_seq ?_
 refine W_reg ?_
 refine WO_pure (v := (S l)) rfl rfl ?_
 refine WO_pure (v := (S ([c]))) rfl rfl ?_
 refine WO_call rfl (by exact en_45) (Index1_any l c _) ?_
 rintro _ _ ⟨rfl, rfl⟩
 rcases idx_cases l c with hz | ⟨j, hz, hj⟩
 ·refine WO_eq 10 (v := .int .i64 (Lib.indexByte l c)) rfl (by rw [hz] : _ = Value.int .i64 (-1)) ?_
  refine WO_pure (v := (.int .i64 (-1))) rfl rfl ?_
  refine WO_nil ?_
  refine W_seq ?_
  refine W_reg ?_
  refine WO_pure (v := (.int .i64 (-1))) rfl rfl ?_
  refine WO_pure (v := (.bool false)) rfl rfl ?_
  refine WO_nil ?_
  refine W_false rfl ?_
  refine W_skip ?_
  refine W_seq ?_
  refine W_reg ?_
  refine WO_pure (v := (S l)) rfl rfl ?_
  refine WO_pure (v := (S l)) rfl rfl ?_
  refine WO_pure (v := (S [])) rfl rfl ?_
  refine WO_pure (v := (.bool false)) rfl rfl ?_
  refine WO_nil ?_
  refine W_ret ?_
  refine body_ret3 rfl (v0 := (S l)) (v1 := (S [])) (v2 := (.bool false)) rfl rfl rfl ?_
  have hbel := (Below.refl w.heap.size w)
  exact ⟨(cutV_none hz).symm, hbel⟩
 ·refine WO_eq 10 (v := .int .i64 (Lib.indexByte l c)) rfl (by rw [hz] : _ = Value.int .i64 (j : Int)) ?_
  refine WO_pure (v := (.int .i64 ((j : Int)))) rfl rfl ?_
  refine WO_nil ?_
  refine W_seq ?_
  refine W_reg ?_
  refine WO_pure (v := (.int .i64 ((j : Int)))) rfl rfl ?_
  refine WO_pure (v := (.bool (decide (0 ≤ (j : Int))))) rfl rfl ?_
  refine WO_nil ?_
  refine W_if (p := 0 ≤ (j : Int)) rfl (fun c1 => ?_) (fun c1 => ?_)
  ·refine W_seq ?_
   refine W_draw (by kernel_rfl) (by kernel_rfl) ?_
   refine WQ_pure (v := (S l)) rfl rfl ?_
   refine WQ_pure (v := (.int .i64 ((j : Int)))) rfl rfl ?_
   refine WQ_val rfl (fun _ _ => R_sshi (l := l) (j := j) rfl rfl Tryd.underlying9 (by first | rfl | omega) (by first | omega | (simp; done) | (simp; omega))) ?_
   refine WQ_pure (v := (S l)) rfl rfl ?_
   refine WQ_pure (v := (.int .i64 ((j : Int)))) rfl rfl ?_
   refine WQ_pure (v := (S ([c]))) rfl rfl ?_
   refine WQ_val rfl (fun _ _ => R_slen (l := [c]) rfl Tryd.underlying9) ?_
   refine WQ_val rfl (fun _ _ => R_add (b := 1) (v := (j : Int) + 1) rfl rfl (by simp only [kLo, kHi]; omega)) ?_
   refine WQ_val rfl (fun _ _ => R_sslo (l := l) (i := j + 1) rfl rfl Tryd.underlying9 (by first | rfl | omega) (by first | omega | (simp; done) | (simp; omega))) ?_
   refine WQ_pure (v := (S ((l.take j)))) rfl rfl ?_
   refine WQ_pure (v := (S ((l.drop (j + 1))))) rfl rfl ?_
   refine WQ_pure (v := (.bool true)) rfl rfl ?_
   refine WQ_nil (fun w1 d1 => ?_)
   refine W_ret ?_
   refine body_ret3 rfl (v0 := (S ((l.take j)))) (v1 := (S ((l.drop (j + 1))))) (v2 := (.bool true)) rfl rfl rfl ?_
   have hbel := (d1.below (Below.refl w.heap.size w))
   exact ⟨(cutV_some hz).symm, hbel⟩
  ·omega
set_option maxHeartbeats 400000 in
set_option maxRecDepth 100000 in
theorem Cut_any (l : List UInt8) (c : UInt8) (w : World) (hl : l.length ≤ 9223372036854775807) :
  Calls Tryd.prog 75 #[(S l), (S ([c]))] w (Ret fun v w' => v = cutV l c ∧ Below w.heap.size w w') := by
 refine calls_W Tryd.func75 rfl Tryd.ntmps75 ?_
 refine W_seq ?_
 refine W_reg ?_
 refine WO_pure (v := (S [])) rfl rfl ?_
 refine WO_pure (v := (S [])) rfl rfl ?_
 refine WO_pure (v := (.bool false)) rfl rfl ?_
 refine WO_nil ?_
 refine W_seq ?_
 refine W_reg ?_
 refine WO_pure (v := (S l)) rfl rfl ?_
 refine WO_pure (v := (S ([c]))) rfl rfl ?_
 refine WO_call rfl (by exact en_80) (cut_any l c _ hl) ?_
 rintro _ w1 ⟨rfl, h1⟩
 have z_w1 := h1.size
 rcases idx_cases l c with hz | ⟨j, hz, hj⟩
 ·refine WO_eq 9 (v := cutV l c) rfl (cutV_none hz) ?_
  refine WO_pure (v := (S l)) rfl rfl ?_
  refine WO_pure (v := (S [])) rfl rfl ?_
  refine WO_pure (v := (.bool false)) rfl rfl ?_
  refine WO_pure (v := (S l)) rfl rfl ?_
  refine WO_pure (v := (S [])) rfl rfl ?_
  refine WO_pure (v := (.bool false)) rfl rfl ?_
  refine WO_nil ?_
  refine W_ret ?_
  refine body_ret3 rfl (v0 := (S l)) (v1 := (S [])) (v2 := (.bool false)) rfl rfl rfl ?_
  have hbel := (below_ext (Below.refl w.heap.size w) h1)
  exact ⟨(cutV_none hz).symm, hbel⟩
 ·refine WO_eq 9 (v := cutV l c) rfl (cutV_some hz) ?_
  refine WO_pure (v := (S ((l.take j)))) rfl rfl ?_
  refine WO_pure (v := (S ((l.drop (j + 1))))) rfl rfl ?_
  refine WO_pure (v := (.bool true)) rfl rfl ?_
  refine WO_pure (v := (S ((l.take j)))) rfl rfl ?_
  refine WO_pure (v := (S ((l.drop (j + 1))))) rfl rfl ?_
  refine WO_pure (v := (.bool true)) rfl rfl ?_
  refine WO_nil ?_
  refine W_ret ?_
  refine body_ret3 rfl (v0 := (S ((l.take j)))) (v1 := (S ((l.drop (j + 1))))) (v2 := (.bool true)) rfl rfl rfl ?_
  have hbel := (below_ext (Below.refl w.heap.size w) h1)
  exact ⟨(cutV_some hz).symm, hbel⟩
def digsB (l : List UInt8) : Bool := l.all digitC && (decide (1 ≤ l.length) && decide (l.length ≤ 9))
def headB (l : List UInt8) : Bool := l.all mayC && (decide (1 ≤ l.length) && decide (l.length ≤ 60))
def evrTail (r : List UInt8) : Bool :=
 (if 0 ≤ lastBefore r 45 r.length then !decide (r.drop ((lastBefore r 45 r.length).toNat + 1) = []) && !decide (r.take (lastBefore r 45 r.length).toNat = []) else !decide (r = [])) && !r.contains 58
def evrB (l : List UInt8) : Bool := headB l && (if 0 ≤ Lib.indexByte l 58 then digsB (l.take (Lib.indexByte l 58).toNat) && evrTail (l.drop ((Lib.indexByte l 58).toNat + 1)) else evrTail l)
def evrE (l : List UInt8) : Int := if evrB l then 0 else 30
theorem evrE_head {l : List UInt8} (h : headB l = false) : evrE l = 30 := by simp [evrE, evrB, h]
theorem evrE_none {l : List UInt8} (h : headB l = true) (hz : Lib.indexByte l 58 = -1) : evrE l = if evrTail l then 0 else 30 := by simp [evrE, evrB, h, hz]
theorem evrE_bad {l : List UInt8} {j : Nat} (hz : Lib.indexByte l 58 = j) (h : digsB (l.take j) = false) : evrE l = 30 := by simp [evrE, evrB, hz, h]
theorem evrE_some {l : List UInt8} {j : Nat} (hh : headB l = true) (hz : Lib.indexByte l 58 = j) (h : digsB (l.take j) = true) : evrE l = if evrTail (l.drop (j + 1)) then 0 else 30 := by simp [evrE, evrB, hh, hz, h]
theorem tail_none {r : List UInt8} (h : lastBefore r 45 r.length = -1) : evrTail r = !(decide (r = []) || r.contains 58) := by simp [evrTail, h]
theorem tail_some {r : List UInt8} {q : Nat} (h : lastBefore r 45 r.length = q) : evrTail r = (!decide (r.drop (q + 1) = []) && !(decide (r.take q = []) || r.contains 58)) := by
 unfold evrTail; rw [h, if_pos (by omega), Int.toNat_natCast, Bool.not_or, Bool.and_assoc]
theorem cntB_iff (p : UInt8 → Bool) (l : List UInt8) : ((cntB p l : Int) = (l.length : Int)) ↔ l.all p = true := by rw [← cntB_eq, decide_eq_true_eq]
set_option maxHeartbeats 2000000 in
set_option maxRecDepth 100000 in
theorem evrParse_any (l : List UInt8) (w : World) (hl : l.length ≤ 9223372036854775807) :
  Calls Tryd.prog 63 #[(S l)] w (Ret fun v w' => (∃ ea eb ec, v = .tuple #[.agg #[S ea, S eb, S ec], .int .i64 (evrE l)]) ∧ Below w.heap.size w w') := by
 refine calls_W Tryd.func63 rfl Tryd.ntmps63 ?_
 refine W_seq ?_
 refine W_reg ?_
 refine WO_alloc (v := (.agg #[(S []), (S []), (S [])])) rfl (fun _ => by kernel_rfl) (fun w1 n1 => ?_)
 have e1 : w1.heap[w.heap.size]? = some (.cells #[(S []), (S []), (S [])] 98 (0, 0)) := n1.here
 have z1 := n1.size
 refine WO_pure (v := (.int .i64 0)) rfl rfl ?_
 refine WO_nil ?_
 refine W_seq ?_
 refine W_reg ?_
 refine WO_pure (v := (.func (.func 70) #[] #[])) rfl rfl ?_
 refine WO_nil ?_
 refine W_seq ?_
 refine W_cut (fun σ' w' => Below w1.heap.size w1 w' ∧ σ' 0 = (S l) ∧ σ' 2 = (.pointer (some ⟨w.heap.size, 0, none⟩)) ∧ σ' 25 = (.bool (!headB l))) ?_ ?_
 ·refine W_reg ?_
  refine WO_pure (v := (S l)) rfl rfl ?_
  refine WO_seql (l1 := l) (l2 := []) rfl rfl rfl ?_
  refine WO_pure (v := (.bool (decide (l = [])))) rfl rfl ?_
  refine WO_splitp 13 (p := l = []) (by exact rfl) (fun c1 => ?_) (fun c1 => ?_)
  ·refine WO_pass rfl ?_
   refine WO_pass rfl ?_
   refine WO_pass rfl ?_
   refine WO_pure (v := (.bool true)) rfl rfl ?_
   refine WO_pure (v := (.bool true)) rfl rfl ?_
   refine WO_pass rfl ?_
   refine WO_pass rfl ?_
   refine WO_pass rfl ?_
   refine WO_pass rfl ?_
   refine WO_pass rfl ?_
   refine WO_pass rfl ?_
   refine WO_pure (v := (.bool true)) rfl rfl ?_
   refine WO_nil ?_
   exact ⟨(Below.refl w1.heap.size w1), rfl, rfl, (by show ((.bool true) : Value) = (.bool (!headB l)); first | (simp [headB, cntB_iff, c1]; done) | (simp [headB, cntB_iff, c1]; omega) | show Value.bool _ = Value.bool _; rw [Value.bool.injEq, Bool.eq_iff_iff]; first | (simp [headB, cntB_iff, c1]; done) | (simp [headB, cntB_iff, c1]; omega) | (simp_all [headB, cntB_iff]; done) | (simp_all [headB, cntB_iff]; omega) | (simp only [headB, cntB_iff, Bool.or_eq_true, Bool.and_eq_true, Bool.not_eq_true', decide_eq_true_eq, decide_eq_false_iff_not]; grind))⟩
  ·refine WO_pure (v := (S l)) rfl rfl ?_
   refine WO_slen (l := l) rfl rfl Tryd.underlying9 ?_
   refine WO_pure (v := (.bool (decide (60 < (l.length : Int))))) rfl rfl ?_
   refine WO_pure (v := (.bool (decide (60 < (l.length : Int))))) rfl rfl ?_
   refine WO_pure (v := (.bool (decide (60 < (l.length : Int))))) rfl rfl ?_
   refine WO_splitp 18 (p := 60 < (l.length : Int)) (by exact rfl) (fun c2 => ?_) (fun c2 => ?_)
   ·refine WO_pass rfl ?_
    refine WO_pass rfl ?_
    refine WO_pass rfl ?_
    refine WO_pass rfl ?_
    refine WO_pass rfl ?_
    refine WO_pass rfl ?_
    refine WO_pure (v := (.bool true)) rfl rfl ?_
    refine WO_nil ?_
    exact ⟨(Below.refl w1.heap.size w1), rfl, rfl, (by show ((.bool true) : Value) = (.bool (!headB l)); first | (simp [headB, cntB_iff, c1, c2]; done) | (simp [headB, cntB_iff, c1, c2]; omega) | show Value.bool _ = Value.bool _; rw [Value.bool.injEq, Bool.eq_iff_iff]; first | (simp [headB, cntB_iff, c1, c2]; done) | (simp [headB, cntB_iff, c1, c2]; omega) | (simp_all [headB, cntB_iff]; done) | (simp_all [headB, cntB_iff]; omega) | (simp only [headB, cntB_iff, Bool.or_eq_true, Bool.and_eq_true, Bool.not_eq_true', decide_eq_true_eq, decide_eq_false_iff_not]; grind))⟩
   ·refine WO_pure (v := (S l)) rfl rfl ?_
    refine WO_pure (v := (.func (.func 70) #[] #[])) rfl rfl ?_
    refine WO_call rfl (by exact en_74) (count_any _ _ _ mayC _ en_70 tells_may (by first | omega | (simp; omega))) ?_
    rintro _ _ ⟨rfl, rfl⟩
    refine WO_pure (v := (S l)) rfl rfl ?_
    refine WO_slen (l := l) rfl rfl Tryd.underlying9 ?_
    refine WO_pure (v := (.bool (!decide ((cntB mayC l : Int) = (l.length : Int))))) rfl rfl ?_
    refine WO_pure (v := (.bool (!decide ((cntB mayC l : Int) = (l.length : Int))))) rfl rfl ?_
    refine WO_nil ?_
    exact ⟨(Below.refl w1.heap.size w1), rfl, rfl, (by show ((.bool (!decide ((cntB mayC l : Int) = (l.length : Int)))) : Value) = (.bool (!headB l)); first | (simp [headB, cntB_iff, c1, c2]; done) | (simp [headB, cntB_iff, c1, c2]; omega) | show Value.bool _ = Value.bool _; rw [Value.bool.injEq, Bool.eq_iff_iff]; first | (simp [headB, cntB_iff, c1, c2]; done) | (simp [headB, cntB_iff, c1, c2]; omega) | (simp_all [headB, cntB_iff]; done) | (simp_all [headB, cntB_iff]; omega) | (simp only [headB, cntB_iff, Bool.or_eq_true, Bool.and_eq_true, Bool.not_eq_true', decide_eq_true_eq, decide_eq_false_iff_not]; grind))⟩
 ·rintro σ1 wc1 ⟨hc1, h1_0, h1_2, h1_25⟩
  have z_wc1 := hc1.size
  refine W_anchor (d := 0) h1_0 (W_anchor (d := 2) h1_2 (W_anchor (d := 25) h1_25 (?_)))
  refine W_cond (t := !headB l) rfl (fun c3 => ?_) (fun c3 => ?_)
  ·refine W_seq ?_
   refine W_reg ?_
   refine WO_same (v := (.agg #[(S []), (S []), (S [])])) rfl (by kernel_rfl) ?_
   have p2 := (below_keep hc1 e1)
   refine WO_storerow (b := w.heap.size) (o := 0) (c' := #[(S []), (S []), (S [])]) rfl rfl rfl (fun _ => by kernel_rfl) (by simp [Value.oneCell']) p2 (by simp) (fun w2 u2 => ?_)
   have e2 : w2.heap[w.heap.size]? = some (.cells #[(S []), (S []), (S [])] 98 (0, 0)) := u2.here
   have z2 := u2.size
   refine WO_pure (v := (.int .i64 30)) rfl rfl ?_
   refine WO_nil ?_
   refine W_ret ?_
   refine body_retc2 (b := w.heap.size) (c := #[(S []), (S []), (S [])]) rfl rfl Tryd.underlying98 rfl (fun _ => by kernel_rfl) e2 (v1 := (.int .i64 30)) rfl ?_
   have hbel := (u2.below (below_ext (n1.below (Below.refl w.heap.size w) (Below.refl w.heap.size w).size) hc1) (by omega))
   refine ⟨⟨_, _, _, congrArg (fun z => Value.tuple #[.agg #[S _, S _, S _], .int .i64 z]) (?_ : (30 : Int) = evrE l)⟩, hbel⟩
   rw [evrE_head (show headB l = false by simpa using c3)]
  ·refine W_skip ?_
   refine W_seq ?_
   refine W_reg ?_
   have hh : headB l = true := by simpa using c3
   refine WO_alloc (v := (.agg #[(S []), (S []), (S [])])) rfl (fun _ => by kernel_rfl) (fun w3 n3 => ?_)
   have e3 : w3.heap[wc1.heap.size]? = some (.cells #[(S []), (S []), (S [])] 98 (0, 0)) := n3.here
   have z3 := n3.size
   refine WO_nil ?_
   refine W_seq ?_
   refine W_reg ?_
   refine WO_pure (v := (S l)) rfl rfl ?_
   refine WO_pure (v := (S l)) rfl rfl ?_
   refine WO_nil ?_
   refine W_seq ?_
   refine W_seq ?_
   refine W_reg ?_
   refine WO_pure (v := (S l)) rfl rfl ?_
   refine WO_call rfl (by exact en_75) (Cut_any l 58 _ hl) ?_
   rintro _ wc ⟨rfl, hc⟩
   have z_wc := hc.size
   rcases idx_cases l 58 with hz | ⟨j, hz, hj⟩
   ·refine WO_eq 30 (v := cutV l 58) rfl (cutV_none hz) ?_
    refine WO_pure rfl rfl ?_
    refine WO_pure (v := (S l)) rfl rfl ?_
    refine WO_pure (v := (S [])) rfl rfl ?_
    refine WO_pure (v := (.bool false)) rfl rfl ?_
    refine WO_pure (v := (S l)) rfl rfl ?_
    refine WO_pure (v := (S [])) rfl rfl ?_
    refine WO_pure (v := (.bool false)) rfl rfl ?_
    refine WO_nil ?_
    refine W_seq ?_
    refine W_reg ?_
    refine WO_pure (v := (.bool false)) rfl rfl ?_
    refine WO_nil ?_
    refine W_false rfl ?_
    refine W_skip ?_
    refine W_seq ?_
    refine W_reg ?_
    refine WO_pure (v := (S l)) rfl rfl ?_
    refine WO_same (v := (.pointer (some ⟨wc1.heap.size, 1, none⟩))) rfl (by kernel_rfl) ?_
    have p4 := (below_keep hc e3)
    refine WO_store (b := wc1.heap.size) (o := 1) (v := (S l)) rfl rfl rfl (fun _ => by kernel_rfl) rfl p4 (by simp) (fun w4 u4 => ?_)
    have e4 : w4.heap[wc1.heap.size]? = some (.cells #[(S []), (S l), (S [])] 98 (0, 0)) := u4.here
    have z4 := u4.size
    refine WO_nil ?_
    refine W_seq ?_
    refine W_seq ?_
    refine W_reg ?_
    refine WO_pure (v := (S l)) rfl rfl ?_
    refine WO_call rfl (by exact en_76) (LastIndexByte_any l 45 _ (by first | omega | (simp; omega))) ?_
    rintro _ _ ⟨rfl, rfl⟩
    rcases lastBefore_cases l 45 l.length with hy | ⟨q, hy, hq⟩
    ·refine WO_eq 56 (v := .int .i64 (lastBefore l 45 l.length)) rfl (by rw [hy] : _ = Value.int .i64 (-1)) ?_
     refine WO_pure (v := (.int .i64 (-1))) rfl rfl ?_
     refine WO_nil ?_
     refine W_seq ?_
     refine W_reg ?_
     refine WO_pure (v := (.int .i64 (-1))) rfl rfl ?_
     refine WO_pure (v := (.bool false)) rfl rfl ?_
     refine WO_nil ?_
     refine W_false rfl ?_
     refine W_skip ?_
     refine W_seq ?_
     refine W_cut (fun σ' w' => Below w4.heap.size w4 w' ∧ σ' 2 = (.pointer (some ⟨w.heap.size, 0, none⟩)) ∧ σ' 5 = (.pointer (some ⟨wc1.heap.size, 0, none⟩)) ∧ σ' 78 = (.bool ((decide (l = [])) || (l.contains 58)))) ?_ ?_
     ·refine W_reg ?_
      refine WO_same (v := (.pointer (some ⟨wc1.heap.size, 1, none⟩))) rfl (by kernel_rfl) ?_
      refine WO_load (a := ⟨wc1.heap.size, 1, none⟩) (v := (S l)) rfl rfl Tryd.underlying9 rfl (cell_of e4 rfl) ?_
      refine WO_seql (l1 := l) (l2 := []) rfl rfl rfl ?_
      refine WO_pure (v := (.bool (decide (l = [])))) rfl rfl ?_
      refine WO_splitp 75 (p := l = []) (by exact rfl) (fun c4 => ?_) (fun c4 => ?_)
      ·refine WO_pass rfl ?_
       refine WO_pass rfl ?_
       refine WO_pure (v := (.bool true)) rfl rfl ?_
       refine WO_nil ?_
       exact ⟨(Below.refl w4.heap.size w4), rfl, rfl, (by show ((.bool true) : Value) = (.bool ((decide (l = [])) || (l.contains 58))); first | (simp [c4]; done) | (simp [c4]; omega) | (simp_all; done) | (simp_all; omega))⟩
      ·refine WO_pure (v := (S l)) rfl rfl ?_
       refine WO_call rfl (by exact en_77) (Contains1_any l 58 _) ?_
       rintro _ _ ⟨rfl, rfl⟩
       refine WO_pure (v := (.bool (l.contains 58))) rfl rfl ?_
       refine WO_nil ?_
       exact ⟨(Below.refl w4.heap.size w4), rfl, rfl, (by show ((.bool (l.contains 58)) : Value) = (.bool ((decide (l = [])) || (l.contains 58))); first | (simp [c4]; done) | (simp [c4]; omega) | (simp_all; done) | (simp_all; omega))⟩
     ·rintro σ2 wc2 ⟨hc2, h2_2, h2_5, h2_78⟩
      have z_wc2 := hc2.size
      refine W_anchor (d := 2) h2_2 (W_anchor (d := 5) h2_5 (W_anchor (d := 78) h2_78 (?_)))
      refine W_cond (t := (decide (l = [])) || (l.contains 58)) rfl (fun c5 => ?_) (fun c5 => ?_)
      ·refine W_seq ?_
       refine W_reg ?_
       refine WO_same (v := (.agg #[(S []), (S []), (S [])])) rfl (by kernel_rfl) ?_
       have p5 := (below_keep hc2 (u4.keep (below_keep hc (n3.keep (below_keep hc1 e1))) (by first | assumption | omega | (simp; omega))))
       refine WO_storerow (b := w.heap.size) (o := 0) (c' := #[(S []), (S []), (S [])]) rfl rfl rfl (fun _ => by kernel_rfl) (by simp [Value.oneCell']) p5 (by simp) (fun w5 u5 => ?_)
       have e5 : w5.heap[w.heap.size]? = some (.cells #[(S []), (S []), (S [])] 98 (0, 0)) := u5.here
       have z5 := u5.size
       refine WO_pure (v := (.int .i64 30)) rfl rfl ?_
       refine WO_nil ?_
       refine W_ret ?_
       refine body_retc2 (b := w.heap.size) (c := #[(S []), (S []), (S [])]) rfl rfl Tryd.underlying98 rfl (fun _ => by kernel_rfl) e5 (v1 := (.int .i64 30)) rfl ?_
       have hbel := (u5.below (below_ext (u4.below (below_ext (n3.below (below_ext (n1.below (Below.refl w.heap.size w) (Below.refl w.heap.size w).size) hc1) (below_ext (n1.below (Below.refl w.heap.size w) (Below.refl w.heap.size w).size) hc1).size) hc) (by omega)) hc2) (by omega))
       refine ⟨⟨_, _, _, congrArg (fun z => Value.tuple #[.agg #[S _, S _, S _], .int .i64 z]) (?_ : (30 : Int) = evrE l)⟩, hbel⟩
       rw [evrE_none hh hz, tail_none hy, c5]
       rfl
      ·refine W_skip ?_
       refine W_seq ?_
       refine W_reg ?_
       refine WO_loadrow (b := wc1.heap.size) (o := 0) (m := 3) (c := #[(S []), (S l), (S [])]) rfl rfl Tryd.underlying98 rfl (fun _ => by kernel_rfl) (below_keep hc2 e4) (by simp) ?_
       refine WO_eq 80 (v' := (.agg #[(S []), (S l), (S [])])) rfl rfl ?_
       have p6 := (below_keep hc2 (u4.keep (below_keep hc (n3.keep (below_keep hc1 e1))) (by first | assumption | omega | (simp; omega))))
       refine WO_storerow (b := w.heap.size) (o := 0) (c' := #[(S []), (S l), (S [])]) rfl rfl rfl (fun _ => by kernel_rfl) (by simp [Value.oneCell']) p6 (by simp) (fun w6 u6 => ?_)
       have e6 : w6.heap[w.heap.size]? = some (.cells #[(S []), (S l), (S [])] 98 (0, 0)) := u6.here
       have z6 := u6.size
       refine WO_pure (v := (.int .i64 0)) rfl rfl ?_
       refine WO_nil ?_
       refine W_ret ?_
       refine body_retc2 (b := w.heap.size) (c := #[(S []), (S l), (S [])]) rfl rfl Tryd.underlying98 rfl (fun _ => by kernel_rfl) e6 (v1 := (.int .i64 0)) rfl ?_
       have hbel := (u6.below (below_ext (u4.below (below_ext (n3.below (below_ext (n1.below (Below.refl w.heap.size w) (Below.refl w.heap.size w).size) hc1) (below_ext (n1.below (Below.refl w.heap.size w) (Below.refl w.heap.size w).size) hc1).size) hc) (by omega)) hc2) (by omega))
       refine ⟨⟨_, _, _, congrArg (fun z => Value.tuple #[.agg #[S _, S _, S _], .int .i64 z]) (?_ : (0 : Int) = evrE l)⟩, hbel⟩
       rw [evrE_none hh hz, tail_none hy, c5]
       rfl
    ·refine WO_eq 56 (v := .int .i64 (lastBefore l 45 l.length)) rfl (by rw [hy] : _ = Value.int .i64 (q : Int)) ?_
     refine WO_pure (v := (.int .i64 ((q : Int)))) rfl rfl ?_
     refine WO_nil ?_
     refine W_seq ?_
     refine W_reg ?_
     refine WO_pure (v := (.int .i64 ((q : Int)))) rfl rfl ?_
     refine WO_pure (v := (.bool (decide (0 ≤ (q : Int))))) rfl rfl ?_
     refine WO_nil ?_
     refine W_if (p := 0 ≤ (q : Int)) rfl (fun c6 => ?_) (fun c6 => ?_)
     ·refine W_seq ?_
      refine W_order (by kernel_rfl) (fun w7 d7 => ?_)
      have z7 := d7.ext.size
      have hql : q < l.length := by first | omega | (have hq2 := hq; rw [List.length_drop] at hq2; omega)
      refine WX_take 0 rfl (by kernel_rfl) (by kernel_rfl) (by kernel_rfl) rfl (fun _ => pure_run (v := (S l)) rfl) ?_
      refine WX_take 1 rfl (by kernel_rfl) (by kernel_rfl) (by kernel_rfl) rfl (fun _ => pure_run (v := (.int .i64 ((q : Int)))) rfl) ?_
      refine WX_take 2 rfl (by kernel_rfl) (by kernel_rfl) (by kernel_rfl) rfl (fun _ => R_sshi (l := l) (j := q) rfl rfl Tryd.underlying9 (by first | rfl | omega) (by first | omega | (simp; done) | (simp; omega))) ?_
      refine WX_take 3 rfl (by kernel_rfl) (by kernel_rfl) (by kernel_rfl) rfl (fun _ => pure_run (v := (S l)) rfl) ?_
      refine WX_take 4 rfl (by kernel_rfl) (by kernel_rfl) (by kernel_rfl) rfl (fun _ => pure_run (v := (.int .i64 ((q : Int)))) rfl) ?_
      refine WX_take 5 rfl (by kernel_rfl) (by kernel_rfl) (by kernel_rfl) rfl (fun _ => R_add (b := 1) (v := (q : Int) + 1) rfl rfl (by simp only [kLo, kHi]; omega)) ?_
      refine WX_take 6 rfl (by kernel_rfl) (by kernel_rfl) (by kernel_rfl) rfl (fun _ => R_sslo (l := l) (i := q + 1) rfl rfl Tryd.underlying9 (by first | rfl | omega) (by first | omega | (simp; done) | (simp; omega))) ?_
      refine WX_take 7 rfl (by kernel_rfl) (by kernel_rfl) (by kernel_rfl) rfl (v := (.pointer (some ⟨wc1.heap.size, 1, none⟩))) (fun _ => by kernel_rfl) ?_
      refine WX_only 8 (by kernel_rfl) rfl ?_
      have p8 := (drew_keep d7 e4)
      refine WO_store (b := wc1.heap.size) (o := 1) (v := (S ((l.take q)))) rfl rfl rfl (fun _ => by kernel_rfl) rfl p8 (by simp) (fun w8 u8 => ?_)
      have e8 : w8.heap[wc1.heap.size]? = some (.cells #[(S []), (S ((l.take q))), (S [])] 98 (0, 0)) := u8.here
      have z8 := u8.size
      refine WO_nil (⟨rfl, ?_⟩)
      refine WX_take 9 rfl (by kernel_rfl) (by kernel_rfl) (by kernel_rfl) rfl (v := (.pointer (some ⟨wc1.heap.size, 2, none⟩))) (fun _ => by kernel_rfl) ?_
      refine WX_only 10 (by kernel_rfl) rfl ?_
      have p9 := e8
      refine WO_store (b := wc1.heap.size) (o := 2) (v := (S ((l.drop (q + 1))))) rfl rfl rfl (fun _ => by kernel_rfl) rfl p9 (by simp) (fun w9 u9 => ?_)
      have e9 : w9.heap[wc1.heap.size]? = some (.cells #[(S []), (S ((l.take q))), (S ((l.drop (q + 1))))] 98 (0, 0)) := u9.here
      have z9 := u9.size
      refine WO_nil (⟨rfl, ?_⟩)
      refine WX_done (by kernel_rfl) ?_
      refine W_seq ?_
      refine W_reg ?_
      refine WO_same (v := (.pointer (some ⟨wc1.heap.size, 2, none⟩))) rfl (by kernel_rfl) ?_
      refine WO_load (a := ⟨wc1.heap.size, 2, none⟩) (v := (S ((l.drop (q + 1))))) rfl rfl Tryd.underlying9 rfl (cell_of e9 rfl) ?_
      refine WO_seql (l1 := (l.drop (q + 1))) (l2 := []) rfl rfl rfl ?_
      refine WO_nil ?_
      refine W_if (p := (l.drop (q + 1)) = []) rfl (fun c7 => ?_) (fun c7 => ?_)
      ·refine W_seq ?_
       refine W_reg ?_
       refine WO_same (v := (.agg #[(S []), (S []), (S [])])) rfl (by kernel_rfl) ?_
       have p10 := (u9.keep (u8.keep (drew_keep d7 (u4.keep (below_keep hc (n3.keep (below_keep hc1 e1))) (by first | assumption | omega | (simp; omega)))) (by first | assumption | omega | (simp; omega))) (by first | assumption | omega | (simp; omega)))
       refine WO_storerow (b := w.heap.size) (o := 0) (c' := #[(S []), (S []), (S [])]) rfl rfl rfl (fun _ => by kernel_rfl) (by simp [Value.oneCell']) p10 (by simp) (fun w10 u10 => ?_)
       have e10 : w10.heap[w.heap.size]? = some (.cells #[(S []), (S []), (S [])] 98 (0, 0)) := u10.here
       have z10 := u10.size
       refine WO_pure (v := (.int .i64 30)) rfl rfl ?_
       refine WO_nil ?_
       refine W_ret ?_
       refine body_retc2 (b := w.heap.size) (c := #[(S []), (S []), (S [])]) rfl rfl Tryd.underlying98 rfl (fun _ => by kernel_rfl) e10 (v1 := (.int .i64 30)) rfl ?_
       have hbel := (u10.below (u9.below (u8.below (d7.below (u4.below (below_ext (n3.below (below_ext (n1.below (Below.refl w.heap.size w) (Below.refl w.heap.size w).size) hc1) (below_ext (n1.below (Below.refl w.heap.size w) (Below.refl w.heap.size w).size) hc1).size) hc) (by omega))) (by omega)) (by omega)) (by omega))
       refine ⟨⟨_, _, _, congrArg (fun z => Value.tuple #[.agg #[S _, S _, S _], .int .i64 z]) (?_ : (30 : Int) = evrE l)⟩, hbel⟩
       rw [evrE_none hh hz, tail_some hy, decide_eq_true c7]
       rfl
      ·refine W_skip ?_
       refine W_seq ?_
       refine W_cut (fun σ' w' => Below w9.heap.size w9 w' ∧ σ' 2 = (.pointer (some ⟨w.heap.size, 0, none⟩)) ∧ σ' 5 = (.pointer (some ⟨wc1.heap.size, 0, none⟩)) ∧ σ' 78 = (.bool ((decide ((l.take q) = [])) || (l.contains 58)))) ?_ ?_
       ·refine W_reg ?_
        refine WO_same (v := (.pointer (some ⟨wc1.heap.size, 1, none⟩))) rfl (by kernel_rfl) ?_
        refine WO_load (a := ⟨wc1.heap.size, 1, none⟩) (v := (S ((l.take q)))) rfl rfl Tryd.underlying9 rfl (cell_of e9 rfl) ?_
        refine WO_seql (l1 := (l.take q)) (l2 := []) rfl rfl rfl ?_
        refine WO_pure (v := (.bool (decide ((l.take q) = [])))) rfl rfl ?_
        refine WO_splitp 75 (p := (l.take q) = []) (by exact rfl) (fun c8 => ?_) (fun c8 => ?_)
        ·refine WO_pass rfl ?_
         refine WO_pass rfl ?_
         refine WO_pure (v := (.bool true)) rfl rfl ?_
         refine WO_nil ?_
         exact ⟨(Below.refl w9.heap.size w9), rfl, rfl, (by show ((.bool true) : Value) = (.bool ((decide ((l.take q) = [])) || (l.contains 58))); first | (simp [c8]; done) | (simp [c8]; omega) | (simp_all; done) | (simp_all; omega))⟩
        ·refine WO_pure (v := (S l)) rfl rfl ?_
         refine WO_call rfl (by exact en_77) (Contains1_any l 58 _) ?_
         rintro _ _ ⟨rfl, rfl⟩
         refine WO_pure (v := (.bool (l.contains 58))) rfl rfl ?_
         refine WO_nil ?_
         exact ⟨(Below.refl w9.heap.size w9), rfl, rfl, (by show ((.bool (l.contains 58)) : Value) = (.bool ((decide ((l.take q) = [])) || (l.contains 58))); first | (simp [c8]; done) | (simp [c8]; omega) | (simp_all; done) | (simp_all; omega))⟩
       ·rintro σ3 wc3 ⟨hc3, h3_2, h3_5, h3_78⟩
        have z_wc3 := hc3.size
        refine W_anchor (d := 2) h3_2 (W_anchor (d := 5) h3_5 (W_anchor (d := 78) h3_78 (?_)))
        refine W_cond (t := (decide ((l.take q) = [])) || (l.contains 58)) rfl (fun c9 => ?_) (fun c9 => ?_)
        ·refine W_seq ?_
         refine W_reg ?_
         refine WO_same (v := (.agg #[(S []), (S []), (S [])])) rfl (by kernel_rfl) ?_
         have p11 := (below_keep hc3 (u9.keep (u8.keep (drew_keep d7 (u4.keep (below_keep hc (n3.keep (below_keep hc1 e1))) (by first | assumption | omega | (simp; omega)))) (by first | assumption | omega | (simp; omega))) (by first | assumption | omega | (simp; omega))))
         refine WO_storerow (b := w.heap.size) (o := 0) (c' := #[(S []), (S []), (S [])]) rfl rfl rfl (fun _ => by kernel_rfl) (by simp [Value.oneCell']) p11 (by simp) (fun w11 u11 => ?_)
         have e11 : w11.heap[w.heap.size]? = some (.cells #[(S []), (S []), (S [])] 98 (0, 0)) := u11.here
         have z11 := u11.size
         refine WO_pure (v := (.int .i64 30)) rfl rfl ?_
         refine WO_nil ?_
         refine W_ret ?_
         refine body_retc2 (b := w.heap.size) (c := #[(S []), (S []), (S [])]) rfl rfl Tryd.underlying98 rfl (fun _ => by kernel_rfl) e11 (v1 := (.int .i64 30)) rfl ?_
         have hbel := (u11.below (below_ext (u9.below (u8.below (d7.below (u4.below (below_ext (n3.below (below_ext (n1.below (Below.refl w.heap.size w) (Below.refl w.heap.size w).size) hc1) (below_ext (n1.below (Below.refl w.heap.size w) (Below.refl w.heap.size w).size) hc1).size) hc) (by omega))) (by omega)) (by omega)) hc3) (by omega))
         refine ⟨⟨_, _, _, congrArg (fun z => Value.tuple #[.agg #[S _, S _, S _], .int .i64 z]) (?_ : (30 : Int) = evrE l)⟩, hbel⟩
         rw [evrE_none hh hz, tail_some hy, decide_eq_false c7, c9]
         rfl
        ·refine W_skip ?_
         refine W_seq ?_
         refine W_reg ?_
         refine WO_loadrow (b := wc1.heap.size) (o := 0) (m := 3) (c := #[(S []), (S ((l.take q))), (S ((l.drop (q + 1))))]) rfl rfl Tryd.underlying98 rfl (fun _ => by kernel_rfl) (below_keep hc3 e9) (by simp) ?_
         refine WO_eq 80 (v' := (.agg #[(S []), (S ((l.take q))), (S ((l.drop (q + 1))))])) rfl rfl ?_
         have p12 := (below_keep hc3 (u9.keep (u8.keep (drew_keep d7 (u4.keep (below_keep hc (n3.keep (below_keep hc1 e1))) (by first | assumption | omega | (simp; omega)))) (by first | assumption | omega | (simp; omega))) (by first | assumption | omega | (simp; omega))))
         refine WO_storerow (b := w.heap.size) (o := 0) (c' := #[(S []), (S ((l.take q))), (S ((l.drop (q + 1))))]) rfl rfl rfl (fun _ => by kernel_rfl) (by simp [Value.oneCell']) p12 (by simp) (fun w12 u12 => ?_)
         have e12 : w12.heap[w.heap.size]? = some (.cells #[(S []), (S ((l.take q))), (S ((l.drop (q + 1))))] 98 (0, 0)) := u12.here
         have z12 := u12.size
         refine WO_pure (v := (.int .i64 0)) rfl rfl ?_
         refine WO_nil ?_
         refine W_ret ?_
         refine body_retc2 (b := w.heap.size) (c := #[(S []), (S ((l.take q))), (S ((l.drop (q + 1))))]) rfl rfl Tryd.underlying98 rfl (fun _ => by kernel_rfl) e12 (v1 := (.int .i64 0)) rfl ?_
         have hbel := (u12.below (below_ext (u9.below (u8.below (d7.below (u4.below (below_ext (n3.below (below_ext (n1.below (Below.refl w.heap.size w) (Below.refl w.heap.size w).size) hc1) (below_ext (n1.below (Below.refl w.heap.size w) (Below.refl w.heap.size w).size) hc1).size) hc) (by omega))) (by omega)) (by omega)) hc3) (by omega))
         refine ⟨⟨_, _, _, congrArg (fun z => Value.tuple #[.agg #[S _, S _, S _], .int .i64 z]) (?_ : (0 : Int) = evrE l)⟩, hbel⟩
         rw [evrE_none hh hz, tail_some hy, decide_eq_false c7, c9]
         rfl
     ·omega
   ·refine WO_eq 30 (v := cutV l 58) rfl (cutV_some hz) ?_
    refine WO_pure rfl rfl ?_
    refine WO_pure (v := (S ((l.take j)))) rfl rfl ?_
    refine WO_pure (v := (S ((l.drop (j + 1))))) rfl rfl ?_
    refine WO_pure (v := (.bool true)) rfl rfl ?_
    refine WO_pure (v := (S ((l.take j)))) rfl rfl ?_
    refine WO_pure (v := (S ((l.drop (j + 1))))) rfl rfl ?_
    refine WO_pure (v := (.bool true)) rfl rfl ?_
    refine WO_nil ?_
    refine W_seq ?_
    refine W_reg ?_
    refine WO_pure (v := (.bool true)) rfl rfl ?_
    refine WO_nil ?_
    refine W_true rfl ?_
    refine W_seq ?_
    refine W_cut (fun σ' w' => Below wc.heap.size wc w' ∧ σ' 2 = (.pointer (some ⟨w.heap.size, 0, none⟩)) ∧ σ' 5 = (.pointer (some ⟨wc1.heap.size, 0, none⟩)) ∧ σ' 7 = (S ((l.take j))) ∧ σ' 8 = (S ((l.drop (j + 1)))) ∧ σ' 48 = (.bool (!digsB (l.take j)))) ?_ ?_
    ·refine W_reg ?_
     refine WO_pure (v := (S ((l.take j)))) rfl rfl ?_
     refine WO_seql (l1 := (l.take j)) (l2 := []) rfl rfl rfl ?_
     refine WO_pure (v := (.bool (decide ((l.take j) = [])))) rfl rfl ?_
     refine WO_splitp 37 (p := (l.take j) = []) (by exact rfl) (fun c10 => ?_) (fun c10 => ?_)
     ·refine WO_pass rfl ?_
      refine WO_pass rfl ?_
      refine WO_pass rfl ?_
      refine WO_pure (v := (.bool true)) rfl rfl ?_
      refine WO_pure (v := (.bool true)) rfl rfl ?_
      refine WO_pass rfl ?_
      refine WO_pass rfl ?_
      refine WO_pass rfl ?_
      refine WO_pass rfl ?_
      refine WO_pass rfl ?_
      refine WO_pure (v := (.bool true)) rfl rfl ?_
      refine WO_nil ?_
      exact ⟨(Below.refl wc.heap.size wc), rfl, rfl, rfl, rfl, (by show ((.bool true) : Value) = (.bool (!digsB (l.take j))); first | (simp [digsB, cntB_iff, c10]; done) | (simp [digsB, cntB_iff, c10]; omega) | show Value.bool _ = Value.bool _; rw [Value.bool.injEq, Bool.eq_iff_iff]; first | (simp [digsB, cntB_iff, c10]; done) | (simp [digsB, cntB_iff, c10]; omega) | (simp_all [digsB, cntB_iff]; done) | (simp_all [digsB, cntB_iff]; omega) | (simp only [digsB, cntB_iff, Bool.or_eq_true, Bool.and_eq_true, Bool.not_eq_true', decide_eq_true_eq, decide_eq_false_iff_not]; grind))⟩
     ·refine WO_pure (v := (S ((l.take j)))) rfl rfl ?_
      refine WO_slen (l := (l.take j)) rfl rfl Tryd.underlying9 ?_
      refine WO_pure (v := (.bool (decide (9 < ((l.take j).length : Int))))) rfl rfl ?_
      refine WO_pure (v := (.bool (decide (9 < ((l.take j).length : Int))))) rfl rfl ?_
      refine WO_pure (v := (.bool (decide (9 < ((l.take j).length : Int))))) rfl rfl ?_
      refine WO_splitp 42 (p := 9 < ((l.take j).length : Int)) (by exact rfl) (fun c11 => ?_) (fun c11 => ?_)
      ·refine WO_pass rfl ?_
       refine WO_pass rfl ?_
       refine WO_pass rfl ?_
       refine WO_pass rfl ?_
       refine WO_pass rfl ?_
       refine WO_pure (v := (.bool true)) rfl rfl ?_
       refine WO_nil ?_
       exact ⟨(Below.refl wc.heap.size wc), rfl, rfl, rfl, rfl, (by show ((.bool true) : Value) = (.bool (!digsB (l.take j))); first | (simp [digsB, cntB_iff, c10, c11]; done) | (simp [digsB, cntB_iff, c10, c11]; omega) | show Value.bool _ = Value.bool _; rw [Value.bool.injEq, Bool.eq_iff_iff]; first | (simp [digsB, cntB_iff, c10, c11]; done) | (simp [digsB, cntB_iff, c10, c11]; omega) | (simp_all [digsB, cntB_iff]; done) | (simp_all [digsB, cntB_iff]; omega) | (simp only [digsB, cntB_iff, Bool.or_eq_true, Bool.and_eq_true, Bool.not_eq_true', decide_eq_true_eq, decide_eq_false_iff_not]; grind))⟩
      ·refine WO_pure (v := (S ((l.take j)))) rfl rfl ?_
       refine WO_call rfl (by exact en_74) (count_any _ _ _ digitC _ en_71 tells_digit (by first | omega | (simp; omega))) ?_
       rintro _ _ ⟨rfl, rfl⟩
       refine WO_pure (v := (S ((l.take j)))) rfl rfl ?_
       refine WO_slen (l := (l.take j)) rfl rfl Tryd.underlying9 ?_
       refine WO_pure (v := (.bool (!decide ((cntB digitC (l.take j) : Int) = ((l.take j).length : Int))))) rfl rfl ?_
       refine WO_pure (v := (.bool (!decide ((cntB digitC (l.take j) : Int) = ((l.take j).length : Int))))) rfl rfl ?_
       refine WO_nil ?_
       exact ⟨(Below.refl wc.heap.size wc), rfl, rfl, rfl, rfl, (by show ((.bool (!decide ((cntB digitC (l.take j) : Int) = ((l.take j).length : Int)))) : Value) = (.bool (!digsB (l.take j))); first | (simp [digsB, cntB_iff, c10, c11]; done) | (simp [digsB, cntB_iff, c10, c11]; omega) | show Value.bool _ = Value.bool _; rw [Value.bool.injEq, Bool.eq_iff_iff]; first | (simp [digsB, cntB_iff, c10, c11]; done) | (simp [digsB, cntB_iff, c10, c11]; omega) | (simp_all [digsB, cntB_iff]; done) | (simp_all [digsB, cntB_iff]; omega) | (simp only [digsB, cntB_iff, Bool.or_eq_true, Bool.and_eq_true, Bool.not_eq_true', decide_eq_true_eq, decide_eq_false_iff_not]; grind))⟩
    ·rintro σ4 wc4 ⟨hc4, h4_2, h4_5, h4_7, h4_8, h4_48⟩
     have z_wc4 := hc4.size
     refine W_anchor (d := 2) h4_2 (W_anchor (d := 5) h4_5 (W_anchor (d := 7) h4_7 (W_anchor (d := 8) h4_8 (W_anchor (d := 48) h4_48 (?_)))))
     refine W_cond (t := !digsB (l.take j)) rfl (fun c12 => ?_) (fun c12 => ?_)
     ·refine W_seq ?_
      refine W_reg ?_
      refine WO_same (v := (.agg #[(S []), (S []), (S [])])) rfl (by kernel_rfl) ?_
      have p13 := (below_keep hc4 (below_keep hc (n3.keep (below_keep hc1 e1))))
      refine WO_storerow (b := w.heap.size) (o := 0) (c' := #[(S []), (S []), (S [])]) rfl rfl rfl (fun _ => by kernel_rfl) (by simp [Value.oneCell']) p13 (by simp) (fun w13 u13 => ?_)
      have e13 : w13.heap[w.heap.size]? = some (.cells #[(S []), (S []), (S [])] 98 (0, 0)) := u13.here
      have z13 := u13.size
      refine WO_pure (v := (.int .i64 30)) rfl rfl ?_
      refine WO_nil ?_
      refine W_ret ?_
      refine body_retc2 (b := w.heap.size) (c := #[(S []), (S []), (S [])]) rfl rfl Tryd.underlying98 rfl (fun _ => by kernel_rfl) e13 (v1 := (.int .i64 30)) rfl ?_
      have hbel := (u13.below (below_ext (below_ext (n3.below (below_ext (n1.below (Below.refl w.heap.size w) (Below.refl w.heap.size w).size) hc1) (below_ext (n1.below (Below.refl w.heap.size w) (Below.refl w.heap.size w).size) hc1).size) hc) hc4) (by omega))
      refine ⟨⟨_, _, _, congrArg (fun z => Value.tuple #[.agg #[S _, S _, S _], .int .i64 z]) (?_ : (30 : Int) = evrE l)⟩, hbel⟩
      rw [evrE_bad hz (show digsB (l.take j) = false by simpa using c12)]
     ·refine W_skip ?_
      refine W_reg ?_
      have hd : digsB (l.take j) = true := by simpa using c12
      refine WO_pure (v := (S ((l.take j)))) rfl rfl ?_
      refine WO_pure (v := (S ((l.drop (j + 1))))) rfl rfl ?_
      refine WO_same (v := (.pointer (some ⟨wc1.heap.size, 0, none⟩))) rfl (by kernel_rfl) ?_
      have p14 := (below_keep hc4 (below_keep hc e3))
      refine WO_store (b := wc1.heap.size) (o := 0) (v := (S ((l.take j)))) rfl rfl rfl (fun _ => by kernel_rfl) rfl p14 (by simp) (fun w14 u14 => ?_)
      have e14 : w14.heap[wc1.heap.size]? = some (.cells #[(S ((l.take j))), (S []), (S [])] 98 (0, 0)) := u14.here
      have z14 := u14.size
      refine WO_pure (v := (S ((l.drop (j + 1))))) rfl rfl ?_
      refine WO_nil ?_
      refine W_seq ?_
      refine W_reg ?_
      refine WO_pure (v := (S ((l.drop (j + 1))))) rfl rfl ?_
      refine WO_same (v := (.pointer (some ⟨wc1.heap.size, 1, none⟩))) rfl (by kernel_rfl) ?_
      have p15 := e14
      refine WO_store (b := wc1.heap.size) (o := 1) (v := (S ((l.drop (j + 1))))) rfl rfl rfl (fun _ => by kernel_rfl) rfl p15 (by simp) (fun w15 u15 => ?_)
      have e15 : w15.heap[wc1.heap.size]? = some (.cells #[(S ((l.take j))), (S ((l.drop (j + 1)))), (S [])] 98 (0, 0)) := u15.here
      have z15 := u15.size
      refine WO_nil ?_
      refine W_seq ?_
      refine W_seq ?_
      refine W_reg ?_
      refine WO_pure (v := (S ((l.drop (j + 1))))) rfl rfl ?_
      refine WO_call rfl (by exact en_76) (LastIndexByte_any (l.drop (j + 1)) 45 _ (by first | omega | (simp; omega))) ?_
      rintro _ _ ⟨rfl, rfl⟩
      rcases lastBefore_cases (l.drop (j + 1)) 45 (l.drop (j + 1)).length with hy | ⟨q, hy, hq⟩
      ·refine WO_eq 56 (v := .int .i64 (lastBefore (l.drop (j + 1)) 45 (l.drop (j + 1)).length)) rfl (by rw [hy] : _ = Value.int .i64 (-1)) ?_
       refine WO_pure (v := (.int .i64 (-1))) rfl rfl ?_
       refine WO_nil ?_
       refine W_seq ?_
       refine W_reg ?_
       refine WO_pure (v := (.int .i64 (-1))) rfl rfl ?_
       refine WO_pure (v := (.bool false)) rfl rfl ?_
       refine WO_nil ?_
       refine W_false rfl ?_
       refine W_skip ?_
       refine W_seq ?_
       refine W_cut (fun σ' w' => Below w15.heap.size w15 w' ∧ σ' 2 = (.pointer (some ⟨w.heap.size, 0, none⟩)) ∧ σ' 5 = (.pointer (some ⟨wc1.heap.size, 0, none⟩)) ∧ σ' 78 = (.bool ((decide ((l.drop (j + 1)) = [])) || ((l.drop (j + 1)).contains 58)))) ?_ ?_
       ·refine W_reg ?_
        refine WO_same (v := (.pointer (some ⟨wc1.heap.size, 1, none⟩))) rfl (by kernel_rfl) ?_
        refine WO_load (a := ⟨wc1.heap.size, 1, none⟩) (v := (S ((l.drop (j + 1))))) rfl rfl Tryd.underlying9 rfl (cell_of e15 rfl) ?_
        refine WO_seql (l1 := (l.drop (j + 1))) (l2 := []) rfl rfl rfl ?_
        refine WO_pure (v := (.bool (decide ((l.drop (j + 1)) = [])))) rfl rfl ?_
        refine WO_splitp 75 (p := (l.drop (j + 1)) = []) (by exact rfl) (fun c13 => ?_) (fun c13 => ?_)
        ·refine WO_pass rfl ?_
         refine WO_pass rfl ?_
         refine WO_pure (v := (.bool true)) rfl rfl ?_
         refine WO_nil ?_
         exact ⟨(Below.refl w15.heap.size w15), rfl, rfl, (by show ((.bool true) : Value) = (.bool ((decide ((l.drop (j + 1)) = [])) || ((l.drop (j + 1)).contains 58))); first | (simp [c13]; done) | (simp [c13]; omega) | (simp_all; done) | (simp_all; omega))⟩
        ·refine WO_pure (v := (S ((l.drop (j + 1))))) rfl rfl ?_
         refine WO_call rfl (by exact en_77) (Contains1_any (l.drop (j + 1)) 58 _) ?_
         rintro _ _ ⟨rfl, rfl⟩
         refine WO_pure (v := (.bool ((l.drop (j + 1)).contains 58))) rfl rfl ?_
         refine WO_nil ?_
         exact ⟨(Below.refl w15.heap.size w15), rfl, rfl, (by show ((.bool ((l.drop (j + 1)).contains 58)) : Value) = (.bool ((decide ((l.drop (j + 1)) = [])) || ((l.drop (j + 1)).contains 58))); first | (simp [c13]; done) | (simp [c13]; omega) | (simp_all; done) | (simp_all; omega))⟩
       ·rintro σ5 wc5 ⟨hc5, h5_2, h5_5, h5_78⟩
        have z_wc5 := hc5.size
        refine W_anchor (d := 2) h5_2 (W_anchor (d := 5) h5_5 (W_anchor (d := 78) h5_78 (?_)))
        refine W_cond (t := (decide ((l.drop (j + 1)) = [])) || ((l.drop (j + 1)).contains 58)) rfl (fun c14 => ?_) (fun c14 => ?_)
        ·refine W_seq ?_
         refine W_reg ?_
         refine WO_same (v := (.agg #[(S []), (S []), (S [])])) rfl (by kernel_rfl) ?_
         have p16 := (below_keep hc5 (u15.keep (u14.keep (below_keep hc4 (below_keep hc (n3.keep (below_keep hc1 e1)))) (by first | assumption | omega | (simp; omega))) (by first | assumption | omega | (simp; omega))))
         refine WO_storerow (b := w.heap.size) (o := 0) (c' := #[(S []), (S []), (S [])]) rfl rfl rfl (fun _ => by kernel_rfl) (by simp [Value.oneCell']) p16 (by simp) (fun w16 u16 => ?_)
         have e16 : w16.heap[w.heap.size]? = some (.cells #[(S []), (S []), (S [])] 98 (0, 0)) := u16.here
         have z16 := u16.size
         refine WO_pure (v := (.int .i64 30)) rfl rfl ?_
         refine WO_nil ?_
         refine W_ret ?_
         refine body_retc2 (b := w.heap.size) (c := #[(S []), (S []), (S [])]) rfl rfl Tryd.underlying98 rfl (fun _ => by kernel_rfl) e16 (v1 := (.int .i64 30)) rfl ?_
         have hbel := (u16.below (below_ext (u15.below (u14.below (below_ext (below_ext (n3.below (below_ext (n1.below (Below.refl w.heap.size w) (Below.refl w.heap.size w).size) hc1) (below_ext (n1.below (Below.refl w.heap.size w) (Below.refl w.heap.size w).size) hc1).size) hc) hc4) (by omega)) (by omega)) hc5) (by omega))
         refine ⟨⟨_, _, _, congrArg (fun z => Value.tuple #[.agg #[S _, S _, S _], .int .i64 z]) (?_ : (30 : Int) = evrE l)⟩, hbel⟩
         rw [evrE_some hh hz hd, tail_none hy, c14]
         rfl
        ·refine W_skip ?_
         refine W_seq ?_
         refine W_reg ?_
         refine WO_loadrow (b := wc1.heap.size) (o := 0) (m := 3) (c := #[(S ((l.take j))), (S ((l.drop (j + 1)))), (S [])]) rfl rfl Tryd.underlying98 rfl (fun _ => by kernel_rfl) (below_keep hc5 e15) (by simp) ?_
         refine WO_eq 80 (v' := (.agg #[(S ((l.take j))), (S ((l.drop (j + 1)))), (S [])])) rfl rfl ?_
         have p17 := (below_keep hc5 (u15.keep (u14.keep (below_keep hc4 (below_keep hc (n3.keep (below_keep hc1 e1)))) (by first | assumption | omega | (simp; omega))) (by first | assumption | omega | (simp; omega))))
         refine WO_storerow (b := w.heap.size) (o := 0) (c' := #[(S ((l.take j))), (S ((l.drop (j + 1)))), (S [])]) rfl rfl rfl (fun _ => by kernel_rfl) (by simp [Value.oneCell']) p17 (by simp) (fun w17 u17 => ?_)
         have e17 : w17.heap[w.heap.size]? = some (.cells #[(S ((l.take j))), (S ((l.drop (j + 1)))), (S [])] 98 (0, 0)) := u17.here
         have z17 := u17.size
         refine WO_pure (v := (.int .i64 0)) rfl rfl ?_
         refine WO_nil ?_
         refine W_ret ?_
         refine body_retc2 (b := w.heap.size) (c := #[(S ((l.take j))), (S ((l.drop (j + 1)))), (S [])]) rfl rfl Tryd.underlying98 rfl (fun _ => by kernel_rfl) e17 (v1 := (.int .i64 0)) rfl ?_
         have hbel := (u17.below (below_ext (u15.below (u14.below (below_ext (below_ext (n3.below (below_ext (n1.below (Below.refl w.heap.size w) (Below.refl w.heap.size w).size) hc1) (below_ext (n1.below (Below.refl w.heap.size w) (Below.refl w.heap.size w).size) hc1).size) hc) hc4) (by omega)) (by omega)) hc5) (by omega))
         refine ⟨⟨_, _, _, congrArg (fun z => Value.tuple #[.agg #[S _, S _, S _], .int .i64 z]) (?_ : (0 : Int) = evrE l)⟩, hbel⟩
         rw [evrE_some hh hz hd, tail_none hy, c14]
         rfl
      ·refine WO_eq 56 (v := .int .i64 (lastBefore (l.drop (j + 1)) 45 (l.drop (j + 1)).length)) rfl (by rw [hy] : _ = Value.int .i64 (q : Int)) ?_
       refine WO_pure (v := (.int .i64 ((q : Int)))) rfl rfl ?_
       refine WO_nil ?_
       refine W_seq ?_
       refine W_reg ?_
       refine WO_pure (v := (.int .i64 ((q : Int)))) rfl rfl ?_
       refine WO_pure (v := (.bool (decide (0 ≤ (q : Int))))) rfl rfl ?_
       refine WO_nil ?_
       refine W_if (p := 0 ≤ (q : Int)) rfl (fun c15 => ?_) (fun c15 => ?_)
       ·refine W_seq ?_
        refine W_order (by kernel_rfl) (fun w18 d18 => ?_)
        have z18 := d18.ext.size
        have hql : q < l.length := by first | omega | (have hq2 := hq; rw [List.length_drop] at hq2; omega)
        refine WX_take 0 rfl (by kernel_rfl) (by kernel_rfl) (by kernel_rfl) rfl (fun _ => pure_run (v := (S ((l.drop (j + 1))))) rfl) ?_
        refine WX_take 1 rfl (by kernel_rfl) (by kernel_rfl) (by kernel_rfl) rfl (fun _ => pure_run (v := (.int .i64 ((q : Int)))) rfl) ?_
        refine WX_take 2 rfl (by kernel_rfl) (by kernel_rfl) (by kernel_rfl) rfl (fun _ => R_sshi (l := (l.drop (j + 1))) (j := q) rfl rfl Tryd.underlying9 (by first | rfl | omega) (by first | omega | (simp; done) | (simp; omega))) ?_
        refine WX_take 3 rfl (by kernel_rfl) (by kernel_rfl) (by kernel_rfl) rfl (fun _ => pure_run (v := (S ((l.drop (j + 1))))) rfl) ?_
        refine WX_take 4 rfl (by kernel_rfl) (by kernel_rfl) (by kernel_rfl) rfl (fun _ => pure_run (v := (.int .i64 ((q : Int)))) rfl) ?_
        refine WX_take 5 rfl (by kernel_rfl) (by kernel_rfl) (by kernel_rfl) rfl (fun _ => R_add (b := 1) (v := (q : Int) + 1) rfl rfl (by simp only [kLo, kHi]; omega)) ?_
        refine WX_take 6 rfl (by kernel_rfl) (by kernel_rfl) (by kernel_rfl) rfl (fun _ => R_sslo (l := (l.drop (j + 1))) (i := q + 1) rfl rfl Tryd.underlying9 (by first | rfl | omega) (by first | omega | (simp; done) | (simp; omega))) ?_
        refine WX_take 7 rfl (by kernel_rfl) (by kernel_rfl) (by kernel_rfl) rfl (v := (.pointer (some ⟨wc1.heap.size, 1, none⟩))) (fun _ => by kernel_rfl) ?_
        refine WX_only 8 (by kernel_rfl) rfl ?_
        have p19 := (drew_keep d18 e15)
        refine WO_store (b := wc1.heap.size) (o := 1) (v := (S (((l.drop (j + 1)).take q)))) rfl rfl rfl (fun _ => by kernel_rfl) rfl p19 (by simp) (fun w19 u19 => ?_)
        have e19 : w19.heap[wc1.heap.size]? = some (.cells #[(S ((l.take j))), (S (((l.drop (j + 1)).take q))), (S [])] 98 (0, 0)) := u19.here
        have z19 := u19.size
        refine WO_nil (⟨rfl, ?_⟩)
        refine WX_take 9 rfl (by kernel_rfl) (by kernel_rfl) (by kernel_rfl) rfl (v := (.pointer (some ⟨wc1.heap.size, 2, none⟩))) (fun _ => by kernel_rfl) ?_
        refine WX_only 10 (by kernel_rfl) rfl ?_
        have p20 := e19
        refine WO_store (b := wc1.heap.size) (o := 2) (v := (S (((l.drop (j + 1)).drop (q + 1))))) rfl rfl rfl (fun _ => by kernel_rfl) rfl p20 (by simp) (fun w20 u20 => ?_)
        have e20 : w20.heap[wc1.heap.size]? = some (.cells #[(S ((l.take j))), (S (((l.drop (j + 1)).take q))), (S (((l.drop (j + 1)).drop (q + 1))))] 98 (0, 0)) := u20.here
        have z20 := u20.size
        refine WO_nil (⟨rfl, ?_⟩)
        refine WX_done (by kernel_rfl) ?_
        refine W_seq ?_
        refine W_reg ?_
        refine WO_same (v := (.pointer (some ⟨wc1.heap.size, 2, none⟩))) rfl (by kernel_rfl) ?_
        refine WO_load (a := ⟨wc1.heap.size, 2, none⟩) (v := (S (((l.drop (j + 1)).drop (q + 1))))) rfl rfl Tryd.underlying9 rfl (cell_of e20 rfl) ?_
        refine WO_seql (l1 := ((l.drop (j + 1)).drop (q + 1))) (l2 := []) rfl rfl rfl ?_
        refine WO_nil ?_
        refine W_if (p := ((l.drop (j + 1)).drop (q + 1)) = []) rfl (fun c16 => ?_) (fun c16 => ?_)
        ·refine W_seq ?_
         refine W_reg ?_
         refine WO_same (v := (.agg #[(S []), (S []), (S [])])) rfl (by kernel_rfl) ?_
         have p21 := (u20.keep (u19.keep (drew_keep d18 (u15.keep (u14.keep (below_keep hc4 (below_keep hc (n3.keep (below_keep hc1 e1)))) (by first | assumption | omega | (simp; omega))) (by first | assumption | omega | (simp; omega)))) (by first | assumption | omega | (simp; omega))) (by first | assumption | omega | (simp; omega)))
         refine WO_storerow (b := w.heap.size) (o := 0) (c' := #[(S []), (S []), (S [])]) rfl rfl rfl (fun _ => by kernel_rfl) (by simp [Value.oneCell']) p21 (by simp) (fun w21 u21 => ?_)
         have e21 : w21.heap[w.heap.size]? = some (.cells #[(S []), (S []), (S [])] 98 (0, 0)) := u21.here
         have z21 := u21.size
         refine WO_pure (v := (.int .i64 30)) rfl rfl ?_
         refine WO_nil ?_
         refine W_ret ?_
         refine body_retc2 (b := w.heap.size) (c := #[(S []), (S []), (S [])]) rfl rfl Tryd.underlying98 rfl (fun _ => by kernel_rfl) e21 (v1 := (.int .i64 30)) rfl ?_
         have hbel := (u21.below (u20.below (u19.below (d18.below (u15.below (u14.below (below_ext (below_ext (n3.below (below_ext (n1.below (Below.refl w.heap.size w) (Below.refl w.heap.size w).size) hc1) (below_ext (n1.below (Below.refl w.heap.size w) (Below.refl w.heap.size w).size) hc1).size) hc) hc4) (by omega)) (by omega))) (by omega)) (by omega)) (by omega))
         refine ⟨⟨_, _, _, congrArg (fun z => Value.tuple #[.agg #[S _, S _, S _], .int .i64 z]) (?_ : (30 : Int) = evrE l)⟩, hbel⟩
         rw [evrE_some hh hz hd, tail_some hy, decide_eq_true c16]
         rfl
        ·refine W_skip ?_
         refine W_seq ?_
         refine W_cut (fun σ' w' => Below w20.heap.size w20 w' ∧ σ' 2 = (.pointer (some ⟨w.heap.size, 0, none⟩)) ∧ σ' 5 = (.pointer (some ⟨wc1.heap.size, 0, none⟩)) ∧ σ' 78 = (.bool ((decide (((l.drop (j + 1)).take q) = [])) || ((l.drop (j + 1)).contains 58)))) ?_ ?_
         ·refine W_reg ?_
          refine WO_same (v := (.pointer (some ⟨wc1.heap.size, 1, none⟩))) rfl (by kernel_rfl) ?_
          refine WO_load (a := ⟨wc1.heap.size, 1, none⟩) (v := (S (((l.drop (j + 1)).take q)))) rfl rfl Tryd.underlying9 rfl (cell_of e20 rfl) ?_
          refine WO_seql (l1 := ((l.drop (j + 1)).take q)) (l2 := []) rfl rfl rfl ?_
          refine WO_pure (v := (.bool (decide (((l.drop (j + 1)).take q) = [])))) rfl rfl ?_
          refine WO_splitp 75 (p := ((l.drop (j + 1)).take q) = []) (by exact rfl) (fun c17 => ?_) (fun c17 => ?_)
          ·refine WO_pass rfl ?_
           refine WO_pass rfl ?_
           refine WO_pure (v := (.bool true)) rfl rfl ?_
           refine WO_nil ?_
           exact ⟨(Below.refl w20.heap.size w20), rfl, rfl, (by show ((.bool true) : Value) = (.bool ((decide (((l.drop (j + 1)).take q) = [])) || ((l.drop (j + 1)).contains 58))); first | (simp [c17]; done) | (simp [c17]; omega) | (simp_all; done) | (simp_all; omega))⟩
          ·refine WO_pure (v := (S ((l.drop (j + 1))))) rfl rfl ?_
           refine WO_call rfl (by exact en_77) (Contains1_any (l.drop (j + 1)) 58 _) ?_
           rintro _ _ ⟨rfl, rfl⟩
           refine WO_pure (v := (.bool ((l.drop (j + 1)).contains 58))) rfl rfl ?_
           refine WO_nil ?_
           exact ⟨(Below.refl w20.heap.size w20), rfl, rfl, (by show ((.bool ((l.drop (j + 1)).contains 58)) : Value) = (.bool ((decide (((l.drop (j + 1)).take q) = [])) || ((l.drop (j + 1)).contains 58))); first | (simp [c17]; done) | (simp [c17]; omega) | (simp_all; done) | (simp_all; omega))⟩
         ·rintro σ6 wc6 ⟨hc6, h6_2, h6_5, h6_78⟩
          have z_wc6 := hc6.size
          refine W_anchor (d := 2) h6_2 (W_anchor (d := 5) h6_5 (W_anchor (d := 78) h6_78 (?_)))
          refine W_cond (t := (decide (((l.drop (j + 1)).take q) = [])) || ((l.drop (j + 1)).contains 58)) rfl (fun c18 => ?_) (fun c18 => ?_)
          ·refine W_seq ?_
           refine W_reg ?_
           refine WO_same (v := (.agg #[(S []), (S []), (S [])])) rfl (by kernel_rfl) ?_
           have p22 := (below_keep hc6 (u20.keep (u19.keep (drew_keep d18 (u15.keep (u14.keep (below_keep hc4 (below_keep hc (n3.keep (below_keep hc1 e1)))) (by first | assumption | omega | (simp; omega))) (by first | assumption | omega | (simp; omega)))) (by first | assumption | omega | (simp; omega))) (by first | assumption | omega | (simp; omega))))
           refine WO_storerow (b := w.heap.size) (o := 0) (c' := #[(S []), (S []), (S [])]) rfl rfl rfl (fun _ => by kernel_rfl) (by simp [Value.oneCell']) p22 (by simp) (fun w22 u22 => ?_)
           have e22 : w22.heap[w.heap.size]? = some (.cells #[(S []), (S []), (S [])] 98 (0, 0)) := u22.here
           have z22 := u22.size
           refine WO_pure (v := (.int .i64 30)) rfl rfl ?_
           refine WO_nil ?_
           refine W_ret ?_
           refine body_retc2 (b := w.heap.size) (c := #[(S []), (S []), (S [])]) rfl rfl Tryd.underlying98 rfl (fun _ => by kernel_rfl) e22 (v1 := (.int .i64 30)) rfl ?_
           have hbel := (u22.below (below_ext (u20.below (u19.below (d18.below (u15.below (u14.below (below_ext (below_ext (n3.below (below_ext (n1.below (Below.refl w.heap.size w) (Below.refl w.heap.size w).size) hc1) (below_ext (n1.below (Below.refl w.heap.size w) (Below.refl w.heap.size w).size) hc1).size) hc) hc4) (by omega)) (by omega))) (by omega)) (by omega)) hc6) (by omega))
           refine ⟨⟨_, _, _, congrArg (fun z => Value.tuple #[.agg #[S _, S _, S _], .int .i64 z]) (?_ : (30 : Int) = evrE l)⟩, hbel⟩
           rw [evrE_some hh hz hd, tail_some hy, decide_eq_false c16, c18]
           rfl
          ·refine W_skip ?_
           refine W_seq ?_
           refine W_reg ?_
           refine WO_loadrow (b := wc1.heap.size) (o := 0) (m := 3) (c := #[(S ((l.take j))), (S (((l.drop (j + 1)).take q))), (S (((l.drop (j + 1)).drop (q + 1))))]) rfl rfl Tryd.underlying98 rfl (fun _ => by kernel_rfl) (below_keep hc6 e20) (by simp) ?_
           refine WO_eq 80 (v' := (.agg #[(S ((l.take j))), (S (((l.drop (j + 1)).take q))), (S (((l.drop (j + 1)).drop (q + 1))))])) rfl rfl ?_
           have p23 := (below_keep hc6 (u20.keep (u19.keep (drew_keep d18 (u15.keep (u14.keep (below_keep hc4 (below_keep hc (n3.keep (below_keep hc1 e1)))) (by first | assumption | omega | (simp; omega))) (by first | assumption | omega | (simp; omega)))) (by first | assumption | omega | (simp; omega))) (by first | assumption | omega | (simp; omega))))
           refine WO_storerow (b := w.heap.size) (o := 0) (c' := #[(S ((l.take j))), (S (((l.drop (j + 1)).take q))), (S (((l.drop (j + 1)).drop (q + 1))))]) rfl rfl rfl (fun _ => by kernel_rfl) (by simp [Value.oneCell']) p23 (by simp) (fun w23 u23 => ?_)
           have e23 : w23.heap[w.heap.size]? = some (.cells #[(S ((l.take j))), (S (((l.drop (j + 1)).take q))), (S (((l.drop (j + 1)).drop (q + 1))))] 98 (0, 0)) := u23.here
           have z23 := u23.size
           refine WO_pure (v := (.int .i64 0)) rfl rfl ?_
           refine WO_nil ?_
           refine W_ret ?_
           refine body_retc2 (b := w.heap.size) (c := #[(S ((l.take j))), (S (((l.drop (j + 1)).take q))), (S (((l.drop (j + 1)).drop (q + 1))))]) rfl rfl Tryd.underlying98 rfl (fun _ => by kernel_rfl) e23 (v1 := (.int .i64 0)) rfl ?_
           have hbel := (u23.below (below_ext (u20.below (u19.below (d18.below (u15.below (u14.below (below_ext (below_ext (n3.below (below_ext (n1.below (Below.refl w.heap.size w) (Below.refl w.heap.size w).size) hc1) (below_ext (n1.below (Below.refl w.heap.size w) (Below.refl w.heap.size w).size) hc1).size) hc) hc4) (by omega)) (by omega))) (by omega)) (by omega)) hc6) (by omega))
           refine ⟨⟨_, _, _, congrArg (fun z => Value.tuple #[.agg #[S _, S _, S _], .int .i64 z]) (?_ : (0 : Int) = evrE l)⟩, hbel⟩
           rw [evrE_some hh hz hd, tail_some hy, decide_eq_false c16, c18]
           rfl
       ·omega
end Go.Proofs.YthhacfehjgfpbaaDoor
end
section
namespace Go.Proofs.YthhacfehjgfpbaaDoor
open Go Go.RowKit
end Go.Proofs.YthhacfehjgfpbaaDoor
end
section
namespace Go.Proofs.YthhacfehjgfpbaaDoor
open Go Go.RowKit
inductive DepT where
  | mk (kind : Int) (name : List UInt8) (op : Int) (evr : List UInt8) (args : List DepT)
instance : Inhabited DepT := ⟨.mk 0 [] 0 [] []⟩
mutual
def DepC (w : World) : DepT → List Value → Prop
  | .mk k nm op ev args, cs => ∃ (sv : Value) (css : List (List Value)), cs = [.int .i64 k, S nm, .int .i64 op, S ev, sv] ∧ RowIs w sv args.length 5 css.flatten ∧ ArgsC w args css
def ArgsC (w : World) : List DepT → List (List Value) → Prop
  | [], css => css = []
  | d :: r, css => ∃ (c : List Value) (cr : List (List Value)), css = c :: cr ∧ DepC w d c ∧ ArgsC w r cr
end
mutual
theorem DepC.ext {w w' : World} (hb : Below w.heap.size w w') : ∀ (d : DepT) (cs : List Value), DepC w d cs → DepC w' d cs
  | .mk k nm op ev args, cs, h => by
    unfold DepC at h ⊢
    obtain ⟨sv, css, h1, h2, h3⟩ := h
    exact ⟨sv, css, h1, h2.ext hb, ArgsC.ext hb args css h3⟩
theorem ArgsC.ext {w w' : World} (hb : Below w.heap.size w w') : ∀ (l : List DepT) (css : List (List Value)), ArgsC w l css → ArgsC w' l css
  | [], css, h => by unfold ArgsC at h ⊢; exact h
  | d :: r, css, h => by
    unfold ArgsC at h ⊢
    obtain ⟨c, cr, h1, h2, h3⟩ := h
    exact ⟨c, cr, h1, DepC.ext hb d c h2, ArgsC.ext hb r cr h3⟩
end
theorem DepC.len {w : World} {d : DepT} {cs : List Value} (h : DepC w d cs) : cs.length = 5 := by
  cases d; unfold DepC at h
  obtain ⟨sv, css, h1, _⟩ := h
  rw [h1]; rfl
theorem ArgsC.len {w : World} : ∀ {l : List DepT} {css : List (List Value)}, ArgsC w l css → css.length = l.length
  | [], css, h => by unfold ArgsC at h; rw [h]; rfl
  | d :: r, css, h => by
    unfold ArgsC at h
    obtain ⟨c, cr, h1, _, h3⟩ := h
    rw [h1, List.length_cons, List.length_cons, ArgsC.len h3]
theorem ArgsC.at {w : World} : ∀ {l : List DepT} {css : List (List Value)} (_ : ArgsC w l css) (i : Nat), i < l.length → DepC w (nth l i) (nth css i)
  | [], _, _, _, hi => by simp at hi
  | d :: r, css, h, i, hi => by
    unfold ArgsC at h
    obtain ⟨c, cr, rfl, h2, h3⟩ := h
    cases i with
    | zero => exact h2
    | succ i => exact ArgsC.at h3 i (by simpa using hi)
theorem ArgsC.each {w : World} : ∀ {l : List DepT} {css : List (List Value)} (_ : ArgsC w l css), ∀ c ∈ css, c.length = 5
  | [], css, h => by unfold ArgsC at h; rw [h]; simp
  | d :: r, css, h => by
    unfold ArgsC at h
    obtain ⟨c, cr, rfl, h2, h3⟩ := h
    intro x hx
    rcases List.mem_cons.1 hx with rfl | hx
    · exact h2.len
    · exact ArgsC.each h3 x hx
def DepIs (w : World) (d : DepT) (v : Value) : Prop := ∃ cs, v = .agg cs.toArray ∧ DepC w d cs
theorem DepIs.ext {w w' : World} {d : DepT} {v : Value} (h : DepIs w d v) (hb : Below w.heap.size w w') : DepIs w' d v := by
  obtain ⟨cs, h1, h2⟩ := h; exact ⟨cs, h1, h2.ext hb d cs⟩
end Go.Proofs.YthhacfehjgfpbaaDoor
end
section
namespace Go.Proofs.YthhacfehjgfpbaaDoor
open Go Go.RowKit
mutual
def DepT.size : DepT → Nat
 | .mk _ nm _ ev args => argsSize args + 1 + nm.length + ev.length
def argsSize : List DepT → Nat
 | [] => 0
 | d :: r => d.size + argsSize r
end
mutual
def partsN : DepT → Nat
 | .mk k _ _ _ args => if k = 1 then 1 else argsParts args
def argsParts : List DepT → Nat
 | [] => 0
 | d :: r => partsN d + argsParts r
end
mutual
theorem partsN_le : ∀ d : DepT, partsN d ≤ d.size
 | .mk k _ _ _ args => by unfold partsN DepT.size; have := argsParts_le args; split <;> omega
theorem argsParts_le : ∀ l : List DepT, argsParts l ≤ argsSize l
 | [] => by simp [argsParts, argsSize]
 | d :: r => by unfold argsParts argsSize; have := partsN_le d; have := argsParts_le r; omega
end
theorem argsSize_nth {l : List DepT} {i : Nat} (h : i < l.length) : (nth l i).size ≤ argsSize l := by
 induction l generalizing i with
 | nil => simp at h
 | cons d r ih =>
  unfold argsSize
  cases i with
  | zero => show d.size ≤ _; omega
  | succ i => have := ih (i := i) (by simpa using h); show (nth r i).size ≤ _; omega
theorem argsSize_len (l : List DepT) : l.length ≤ argsSize l := by
 induction l with
 | nil => simp
 | cons d r ih => unfold argsSize; cases d; unfold DepT.size; simp only [List.length_cons]; omega
theorem dep_all {C : DepT → Prop} (h : ∀ k nm op ev args, (∀ i, i < args.length → C (nth args i)) → C (.mk k nm op ev args)) (d : DepT) : C d := by
 have key : ∀ (n : Nat) (d : DepT), d.size ≤ n → C d := by
  intro n
  induction n with
  | zero => intro d hd; cases d; unfold DepT.size at hd; omega
  | succ n ih =>
   intro d hd
   cases d with
   | mk k nm op ev args =>
    unfold DepT.size at hd
    exact h k nm op ev args fun i hi => ih _ (by have := argsSize_nth hi; omega)
 exact key _ d (Nat.le_refl _)
end Go.Proofs.YthhacfehjgfpbaaDoor
end
section
namespace Go.Proofs.YthhacfehjgfpbaaDoor
open Go Go.RowKit
def WH (P : Program) (n : Nat) (ops : Array Oper) (Q : (Nat → Value) → World → Prop) (B : World) (fuel : Nat) (listed : Array Bool) (σ : Nat → Value) (w : World) : Prop :=
  wpAnyH P .any ops (fun e a w => e = .normal ∧ ∃ σ, a = mk n σ ∧ Q σ w) (fun w' => Below B.heap.size B w') fuel listed (mk n σ) w
section
variable {P : Program} {n : Nat} {σ : Nat → Value} {w : World}
variable {ops : Array Oper} {Q : (Nat → Value) → World → Prop} {fuel : Nat} {listed : Array Bool} {B : World}
variable {dst : Option Tmp} {ty : TypeId} {ps : String} {af : Array Edge} {g : Option (Nat × Bool)}
end
theorem heap_ne {w : World} {a b : Nat} {c c' : Array Value} {e e' : TypeId} {f f' : Nat × Nat} (h : w.heap[a]? = some (.cells c e f)) (k : w.heap[b]? = some (.cells c' e' f')) (hne : e ≠ e') : a ≠ b := by
  rintro rfl; rw [h] at k; cases k; exact hne rfl
theorem oneCell_is {w : World} {v : Value} {n sz : Nat} {xs : List Value} (h : RowIs w v n sz xs) : v.oneCell' = true := by
  rcases h.2 with ⟨_, a, c, rfl⟩ | ⟨b, o, c, rfl, _⟩ <;> rfl
theorem grown_refl (w : World) (r : Option Nat) : w.grownBy w r := ⟨rfl, rfl, rfl, Nat.le_refl _, fun _ _ _ => rfl⟩
theorem grown_new {w w1 w2 : World} {r : Option Nat} {o : Obj} (g : w.grownBy w1 r) (n : New w1 w2 o) : w.grownBy w2 r := by
  have e := n.ext
  exact ⟨e.os.trans g.os, e.tape.trans g.tape, e.output.trans g.output, Nat.le_trans g.size e.size, fun k hk hr => (e.block k (Nat.lt_of_lt_of_le hk g.size)).trans (g.block k hk hr)⟩
theorem grown_bel {w w1 w2 : World} {r : Option Nat} (g : w.grownBy w1 r) (e : Below w1.heap.size w1 w2) : w.grownBy w2 r :=
  ⟨e.os.trans g.os, e.tape.trans g.tape, e.output.trans g.output, Nat.le_trans g.size e.size, fun k hk hr => (e.block k (Nat.lt_of_lt_of_le hk g.size)).trans (g.block k hk hr)⟩
theorem grown_upd {w w1 w2 : World} {r : Option Nat} {b : Nat} {o : Obj} (g : w.grownBy w1 r) (u : Upd w1 w2 b o) (h : w.heap.size ≤ b ∨ r = some b) : w.grownBy w2 r :=
  ⟨u.os.trans g.os, u.tape.trans g.tape, u.output.trans g.output, by rw [u.size]; exact g.size, fun k hk hr => by
    rw [u.block k (by rcases h with h | rfl; · omega
                      · exact fun e => hr (by rw [e]))]
    exact g.block k hk hr⟩
theorem grown_drew {w w1 w2 : World} {r : Option Nat} (g : w.grownBy w1 r) (d : Drew w1 w2) : w.grownBy w2 r := by
  obtain ⟨k, rfl⟩ := d
  exact ⟨g.os, g.tape, g.output, g.size, g.block⟩
theorem W_scopeJ {P : Program} {n : Nat} {Q : Exit → (Nat → Value) → World → Prop} {σ : Nat → Value} {w : World} {c rest : Code} (l : Nat) (J : (Nat → Value) → World → Prop) (hf : findLabel c l = some rest)
    (first : W P n c (jumpQ l J Q) σ w) (pass : ∀ σ w, J σ w → W P n rest (noGotoQ Q) σ w) : W P n (.scope c) Q σ w := by
  unfold W at *
  refine wp_scope_jumps l (fun a w => ∃ σ, a = mk n σ ∧ J σ w) (fun _ _ => 0) hf (wp_mono first ?_) ?_
  · rintro e a w ⟨σ', rfl, q⟩
    cases e with
    | goto l' => exact ⟨q.1, σ', rfl, q.2⟩
    | _ => exact ⟨σ', rfl, q⟩
  · rintro a w ⟨σ', rfl, hJ⟩
    refine wp_mono (pass σ' w hJ) ?_
    rintro e a w ⟨σ'', rfl, q⟩
    cases e with
    | goto l' => exact q.elim
    | _ => exact ⟨σ'', rfl, q⟩
theorem WX_two {P : Program} {n : Nat} {σ : Nat → Value} {w : World} {ops : Array Oper} {Q : (Nat → Value) → World → Prop} {fuel : Nat} {listed : Array Bool} (i j : Nat) {oi oj : Oper} (hr : Region.ready .any ops listed = [i, j]) (hi : ops[i]? = some oi) (hj : ops[j]? = some oj)
    (h1 : WO P n ops [oi] (fun e σ' w' => e = .normal ∧ WX P n ops Q fuel (listed.setIfInBounds i true) σ' w') σ w)
    (h2 : WO P n ops [oj] (fun e σ' w' => e = .normal ∧ WX P n ops Q fuel (listed.setIfInBounds j true) σ' w') σ w) : WX P n ops Q (fuel + 1) listed σ w := by
  have key : ∀ {k : Nat} {o : Oper}, ops[k]? = some o → WO P n ops [o] (fun e σ' w' => e = .normal ∧ WX P n ops Q fuel (listed.setIfInBounds k true) σ' w') σ w →
      wpOp P ops (fun e a w => e = .normal ∧ ∃ σ, a = mk n σ ∧ Q σ w) k (wpAny P .any ops (fun e a w => e = .normal ∧ ∃ σ, a = mk n σ ∧ Q σ w) fuel (listed.setIfInBounds k true)) (mk n σ) w := by
    intro k o hk h
    unfold WO wpList at h
    unfold wpOp
    simp only [hk]
    have ho : ¬ LetsOut (lift n fun e σ' w' => e = .normal ∧ WX P n ops Q fuel (listed.setIfInBounds k true) σ' w') := by
      rintro ⟨a, w, σ', _, h, _⟩; cases h
    have hkk : ∀ a w', wpList P ops (lift n fun e σ' w' => e = .normal ∧ WX P n ops Q fuel (listed.setIfInBounds k true) σ' w') [] a w' →
        wpAny P .any ops (fun e a w => e = .normal ∧ ∃ σ, a = mk n σ ∧ Q σ w) fuel (listed.setIfInBounds k true) a w' := by
      rintro a w' ⟨σ', rfl, _, hx⟩; unfold WX at hx; exact hx
    split at h
    · rename_i hw
      rw [if_pos hw]
      rcases h with h | ⟨_, h⟩
      · exact .inl (wp_two hkk (fun c a w hc => by obtain ⟨_, _, hc, _⟩ := hc; cases hc) ho h)
      · exact absurd h ho
    · rename_i hw
      rw [if_neg hw]; exact hkk _ _ h
  unfold WX
  refine wpAny_all hr (by simp) fun k hk => ?_
  rcases List.mem_cons.1 hk with rfl | hk
  · exact key hi h1
  · obtain rfl : k = j := by simpa using hk
    exact key hj h2
attribute [irreducible] WH
end Go.Proofs.YthhacfehjgfpbaaDoor
end
section
namespace Go.Proofs.YthhacfehjgfpbaaDoor
open Go Go.RowKit
mutual
def sameB : DepT → DepT → Bool
 | .mk k nm op ev args, .mk k' nm' op' ev' args' => decide (k = k' ∧ nm = nm' ∧ op = op' ∧ ev = ev') && sameL args args'
def sameL : List DepT → List DepT → Bool
 | [], [] => true
 | a :: r, b :: s => sameB a b && sameL r s
 | _, _ => false
end
mutual
theorem sameB_eq : ∀ (a b : DepT), sameB a b = true ↔ a = b
 | .mk k nm op ev args, .mk k' nm' op' ev' args' => by
  unfold sameB
  simp only [Bool.and_eq_true, decide_eq_true_eq, sameL_eq args args', DepT.mk.injEq]
  constructor
  ·rintro ⟨⟨a, b, c, d⟩, e⟩; exact ⟨a, b, c, d, e⟩
  ·rintro ⟨a, b, c, d, e⟩; exact ⟨⟨a, b, c, d⟩, e⟩
theorem sameL_eq : ∀ (l m : List DepT), sameL l m = true ↔ l = m
 | [], [] => by simp [sameL]
 | [], _ :: _ => by simp [sameL]
 | _ :: _, [] => by simp [sameL]
 | a :: r, b :: s => by simp only [sameL, Bool.and_eq_true, sameB_eq a b, sameL_eq r s, List.cons.injEq]
end
end Go.Proofs.YthhacfehjgfpbaaDoor
end
section
namespace Go.Proofs.YthhacfehjgfpbaaDoor
open Go Go.RowKit
def DepT.kind : DepT → Int
 | .mk k _ _ _ _ => k
theorem ArgsC.kind {w : World} {args : List DepT} {css : List (List Value)} (h : ArgsC w args css) {i : Nat} (hi : i < args.length) : (nth css i)[0]? = some (.int .i64 (nth args i).kind) := by
 have h1 := ArgsC.at h i hi
 cases hd : nth args i with
 | mk k nm op ev bs =>
  rw [hd] at h1
  unfold DepC at h1
  obtain ⟨sv, cs, h2, _⟩ := h1
  rw [h2]; rfl
def formName (nm : List UInt8) (op : Int) (ev : List UInt8) (n : Nat) : Bool := nameB nm && (decide (0 ≤ op) && (decide (op ≤ 7) && (decide (n = 0) && (if op = 0 then decide (ev = []) else decide (evrE ev = 0)))))
def formBad (k : Int) (nm : List UInt8) (op : Int) (ev : List UInt8) (n : Nat) : Bool := decide ((k < 2 ∨ 6 < k ∨ nm ≠ [] ∨ op ≠ 0 ∨ ev ≠ [] ∨ n < 2) ∨ ((k = 4 ∧ 3 < n) ∨ (k = 6 ∧ 2 < n)))
def kindOK (k m : Int) : Bool := !decide (5 ≤ k ∧ m ≠ 1 ∧ m ≠ 5 ∧ m ≠ 6)
mutual
def formB : DepT → Bool
 | .mk k nm op ev args => if k = 1 then formName nm op ev args.length else !formBad k nm op ev args.length && argsForm k args
def argsForm (k : Int) : List DepT → Bool
 | [] => true
 | d :: r => kindOK k d.kind && (formB d && argsForm k r)
end
section
variable {k op : Int} {nm ev : List UInt8} {n : Nat}
end
def FormSaid (f : Nat) (d : DepT) : Prop := ∀ (w : World) (cs : List Value), DepC w d cs → d.size ≤ 4194304 → Calls Tryd.prog f #[.agg cs.toArray] w (Ret fun v w' => v = .bool (formB d) ∧ Below w.heap.size w w')
def checkE (d : DepT) : Int := if formB d then (if 16 < partsN d then 51 else 0) else 50
end Go.Proofs.YthhacfehjgfpbaaDoor
end
section
namespace Go.Proofs.YthhacfehjgfpbaaDoor
open Go Go.RowKit
theorem en_49 : Enters Tryd.prog 49 := enters_of Tryd.func49 (by kernel_rfl) rfl
theorem en_65 : Enters Tryd.prog 65 := enters_of Tryd.func65 (by kernel_rfl) rfl
theorem en_64 : Enters Tryd.prog 64 := enters_of Tryd.func64 (by kernel_rfl) rfl
theorem en_78 : Enters Tryd.prog 78 := enters_of Tryd.func78 (by kernel_rfl) rfl
theorem en_50 : Enters Tryd.prog 50 := enters_of Tryd.func50 (by kernel_rfl) rfl
theorem en_37 : Enters Tryd.prog 37 := enters_of Tryd.func37 (by kernel_rfl) rfl
theorem en_51 : Enters Tryd.prog 51 := enters_of Tryd.func51 (by kernel_rfl) rfl
def TellsD (f : FuncId) (cap : Array Value) (w : World) (css : List (List Value)) (args : List DepT) (p : DepT → Bool) : Prop :=
 ∀ i, i < args.length → ∀ w', Below w.heap.size w w' → Calls Tryd.prog f (.agg (nth css i).toArray :: cap.toList).toArray w' (Ret fun v w'' => v = .bool (p (nth args i)) ∧ Below w'.heap.size w' w'')
theorem any_step {p : DepT → Bool} {l : List DepT} {i : Nat} (h : i < l.length) : (l.drop i).any p = (p (nth l i) || (l.drop (i + 1)).any p) := by rw [drop_nth h, List.any_cons]
set_option maxHeartbeats 400000 in
set_option maxRecDepth 100000 in
theorem indexD_any (sv : Value) (args : List DepT) (css : List (List Value)) (f : FuncId) (cap : Array Value) (p : DepT → Bool) (w : World) (hr : RowIs w sv args.length 5 css.flatten) (ha : ArgsC w args css) (he : Enters Tryd.prog f) (ht : TellsD f cap w css args p) (hl : args.length ≤ 9223372036854775807) :
  Calls Tryd.prog 78 #[sv, (.func (.func f) #[] cap)] w (Ret fun v w' => (∃ z : Int, v = .int .i64 z ∧ decide (0 ≤ z) = args.any p) ∧ Below w.heap.size w w') := by
 refine calls_W Tryd.func78 rfl Tryd.ntmps78 ?_
 refine W_seq ?_
 refine W_reg ?_
 refine WO_pure (v := (.int .i64 0)) rfl rfl ?_
 refine WO_nil ?_
 refine W_seq ?_
 refine W_seq ?_
 refine W_reg ?_
 refine WO_pure (v := sv) rfl rfl ?_
 refine WO_lenrow (v := sv) (m := args.length) (sz := 5) rfl rfl hr Tryd.underlying37 ?_
 refine WO_pure (v := (.int .i64 0)) rfl rfl ?_
 refine WO_nil ?_
 refine W_block ?_
 refine W_loop (fun g σ' w' => ∃ (i : Nat), σ' 0 = sv ∧ σ' 1 = (.func (.func f) #[] cap) ∧ σ' 7 = (.int .i64 ((args.length : Int))) ∧ σ' 8 = (.int .i64 ((i : Int))) ∧ Below w.heap.size w w' ∧ i ≤ args.length ∧ args.any p = (args.drop i).any p ∧ g = args.length - i) ?_ ?_
 ·refine ⟨_, 0, rfl, rfl, rfl, rfl, (Below.refl w.heap.size w), ?_, ?_, rfl⟩
  all_goals first | rfl | omega | simp
 ·rintro g σl1 wl1 ⟨i, l1_0, l1_1, l1_7, l1_8, k1_1, f1_1, f1_2, rfl⟩
  have z_wl1 := k1_1.size
  refine W_anchor (d := 0) l1_0 (W_anchor (d := 1) l1_1 (W_anchor (d := 7) l1_7 (W_anchor (d := 8) l1_8 (?_))))
  refine W_seq ?_
  refine W_reg ?_
  refine WO_pure (v := (.bool (decide ((i : Int) < (args.length : Int))))) rfl rfl ?_
  refine WO_nil ?_
  refine W_seq ?_
  refine W_if (p := (i : Int) < (args.length : Int)) rfl (fun c1 => ?_) (fun c1 => ?_)
  ·refine W_skip ?_
   refine W_seq ?_
   refine W_block ?_
   refine W_seq ?_
   refine W_reg ?_
   refine WO_pure (v := (.int .i64 ((i : Int)))) rfl rfl ?_
   refine WO_pure (v := (.int .i64 ((i : Int)))) rfl rfl ?_
   refine WO_nil ?_
   refine W_seq ?_
   refine W_reg ?_
   refine WO_pure (v := (.func (.func f) #[] cap)) rfl rfl ?_
   refine WO_pure (v := sv) rfl rfl ?_
   refine WO_pure (v := (.int .i64 ((i : Int)))) rfl rfl ?_
   refine WO_idxs (v := sv) (css := css) (i := i) rfl rfl rfl (hr.ext k1_1) ha.each ha.len Tryd.underlying37 (fun _ => by kernel_rfl) (by first | rfl | omega) (by first | omega | (simp; done) | (simp; omega)) (fun b1 o1 x1 => ?_)
   refine WO_loads (vs := nth css i) (sz := 5) rfl rfl Tryd.underlying39 rfl (ha.each _ (nth_mem (by rw [ha.len]; omega))) (fun _ => by kernel_rfl) x1 ?_
   refine WO_callv rfl rfl he (ht i (by omega) _ k1_1) ?_
   rintro _ w2 ⟨rfl, h2⟩
   have z_w2 := h2.size
   refine WO_nil ?_
   refine W_cond (t := p (nth args i)) rfl (fun c2 => ?_) (fun c2 => ?_)
   ·refine W_seq ?_
    refine W_reg ?_
    refine WO_pure (v := (.int .i64 ((i : Int)))) rfl rfl ?_
    refine WO_pure (v := (.int .i64 ((i : Int)))) rfl rfl ?_
    refine WO_nil ?_
    refine W_ret ?_
    refine body_ret1 rfl (v0 := (.int .i64 ((i : Int)))) rfl ?_
    have hbel := (below_ext k1_1 h2)
    exact ⟨⟨_, rfl, by rw [f1_2, any_step (by omega), show p (nth args i) = true from c2]; simp⟩, hbel⟩
   ·refine W_skip ?_
    refine W_reg ?_
    refine WO_add (b := 1) (v := (i : Int) + 1) rfl rfl rfl (by simp only [kLo, kHi]; omega) ?_
    refine WO_pure (v := (.int .i64 ((i : Int) + 1))) rfl rfl ?_
    refine WO_nil ?_
    refine ⟨_, ?_, i + 1, rfl, rfl, rfl, rfl, (below_ext k1_1 h2), ?_, ?_, rfl⟩
    ·first | omega | assumption
    ·omega
    ·rw [f1_2, any_step (by omega), show p (nth args i) = false from c2]; rfl
  ·refine W_exit ?_
   refine W_seq ?_
   refine W_reg ?_
   refine WO_pure (v := (.int .i64 (-1))) rfl rfl ?_
   refine WO_nil ?_
   refine W_ret ?_
   refine body_ret1 rfl (v0 := (.int .i64 (-1))) rfl ?_
   have hbel := k1_1
   exact ⟨⟨_, rfl, by rw [f1_2, List.drop_of_length_le (by omega)]; rfl⟩, hbel⟩
set_option maxHeartbeats 400000 in
set_option maxRecDepth 100000 in
theorem containsD_any (sv : Value) (args : List DepT) (css : List (List Value)) (f : FuncId) (cap : Array Value) (p : DepT → Bool) (w : World) (hr : RowIs w sv args.length 5 css.flatten) (ha : ArgsC w args css) (he : Enters Tryd.prog f) (ht : TellsD f cap w css args p) (hl : args.length ≤ 9223372036854775807) :
  Calls Tryd.prog 64 #[sv, (.func (.func f) #[] cap)] w (Ret fun v w' => v = .bool (args.any p) ∧ Below w.heap.size w w') := by
 refine calls_W Tryd.func64 rfl Tryd.ntmps64 ?_
 refine W_seq ?_
 refine W_reg ?_
 refine WO_pure (v := (.bool false)) rfl rfl ?_
 refine WO_nil ?_
 refine W_seq ?_
 refine W_reg ?_
 refine WO_pure (v := sv) rfl rfl ?_
 refine WO_pure (v := (.func (.func f) #[] cap)) rfl rfl ?_
 refine WO_call rfl (by exact en_78) (indexD_any sv args css f cap p _ hr ha he ht hl) ?_
 rintro _ wi ⟨⟨z, rfl, ez⟩, hi⟩
 have z_wi := hi.size
 refine WO_pure (v := (.bool (decide (0 ≤ z)))) rfl rfl ?_
 refine WO_pure (v := (.bool (decide (0 ≤ z)))) rfl rfl ?_
 refine WO_nil ?_
 refine W_ret ?_
 refine body_ret1 rfl (v0 := (.bool (decide (0 ≤ z)))) rfl ?_
 have hbel := (below_ext (Below.refl w.heap.size w) hi)
 exact ⟨by rw [← ez], hbel⟩
def formP (k : Int) (d : DepT) : Bool := !(kindOK k d.kind && formB d)
set_option maxHeartbeats 400000 in
set_option maxRecDepth 100000 in
theorem formc_step (k op : Int) (nm ev : List UInt8) (args : List DepT) (sv : Value) (css : List (List Value)) (pb : Nat) (k0 : Int) (x1 x2 x3 x4 : Value) (w : World) (hp : w.heap[pb]? = some (.cells #[.int .i64 k0, x1, x2, x3, x4] 39 (0, 0))) (hr : RowIs w sv args.length 5 css.flatten) (ha : ArgsC w args css) (ih : FormSaid 49 (.mk k nm op ev args)) (hs : (DepT.mk k nm op ev args).size ≤ 4194304) :
  Calls Tryd.prog 65 #[(.agg #[(.int .i64 k), (S nm), (.int .i64 op), (S ev), sv]), (.pointer (some ⟨pb, 0, none⟩))] w (Ret fun v w' => v = .bool (formP k0 (.mk k nm op ev args)) ∧ Below w.heap.size w w') := by
 have hd0 : DepC w (.mk k nm op ev args) [.int .i64 k, S nm, .int .i64 op, S ev, sv] := by unfold DepC; exact ⟨sv, css, rfl, hr, ha⟩
 refine calls_W Tryd.func65 rfl Tryd.ntmps65 ?_
 refine W_seq ?_
 refine W_reg ?_
 refine WO_box (v := (.agg #[(.int .i64 k), (S nm), (.int .i64 op), (S ev), sv])) rfl rfl (fun w1 n1 => ?_)
 have e1 : w1.heap[w.heap.size]? = some (.cells #[(.int .i64 k), (S nm), (.int .i64 op), (S ev), sv] 39 (0, 0)) := n1.here
 have z1 := n1.size
 refine WO_pure (v := (.bool false)) rfl rfl ?_
 refine WO_nil ?_
 refine W_cut (fun σ' w' => w1 = w' ∧ σ' 1 = (.pointer (some ⟨pb, 0, none⟩)) ∧ σ' 2 = (.pointer (some ⟨w.heap.size, 0, none⟩)) ∧ σ' 4 = (.bool (decide (k = 1 ∨ k = 5 ∨ k = 6)))) ?_ ?_
 ·refine W_reg ?_
  refine WO_same (v := (.pointer (some ⟨w.heap.size, 0, none⟩))) rfl (by kernel_rfl) ?_
  refine WO_load (a := ⟨w.heap.size, 0, none⟩) (v := (.int .i64 k)) rfl rfl Tryd.underlying3 rfl (cell_of e1 rfl) ?_
  refine WO_pure (v := (.bool (decide (k = 1)))) rfl rfl ?_
  refine WO_pure (v := (.bool (decide (k = 1)))) rfl rfl ?_
  refine WO_splitp 8 (p := k = 1) (by exact rfl) (fun c1 => ?_) (fun c1 => ?_)
  ·refine WO_pass rfl ?_
   refine WO_pass rfl ?_
   refine WO_pass rfl ?_
   refine WO_pure (v := (.bool true)) rfl rfl ?_
   refine WO_pure (v := (.bool true)) rfl rfl ?_
   refine WO_pass rfl ?_
   refine WO_pass rfl ?_
   refine WO_pass rfl ?_
   refine WO_pure (v := (.bool true)) rfl rfl ?_
   refine WO_pure (v := (.bool true)) rfl rfl ?_
   refine WO_nil ?_
   exact ⟨rfl, rfl, rfl, (by show ((.bool true) : Value) = (.bool (decide (k = 1 ∨ k = 5 ∨ k = 6))); show Value.bool _ = Value.bool _; rw [Value.bool.injEq, Bool.eq_iff_iff]; first | (simp [c1]; done) | (simp [c1]; omega) | (simp_all []; done) | (simp_all []; omega) | (simp only [Bool.or_eq_true, Bool.and_eq_true, Bool.not_eq_true', decide_eq_true_eq, decide_eq_false_iff_not]; grind))⟩
  ·refine WO_same (v := (.pointer (some ⟨w.heap.size, 0, none⟩))) rfl (by kernel_rfl) ?_
   refine WO_load (a := ⟨w.heap.size, 0, none⟩) (v := (.int .i64 k)) rfl rfl Tryd.underlying3 rfl (cell_of e1 rfl) ?_
   refine WO_pure (v := (.bool (decide (k = 5)))) rfl rfl ?_
   refine WO_pure (v := (.bool (decide (k = 5)))) rfl rfl ?_
   refine WO_pure (v := (.bool (decide (k = 5)))) rfl rfl ?_
   refine WO_splitp 13 (p := k = 5) (by exact rfl) (fun c2 => ?_) (fun c2 => ?_)
   ·refine WO_pass rfl ?_
    refine WO_pass rfl ?_
    refine WO_pass rfl ?_
    refine WO_pure (v := (.bool true)) rfl rfl ?_
    refine WO_pure (v := (.bool true)) rfl rfl ?_
    refine WO_nil ?_
    exact ⟨rfl, rfl, rfl, (by show ((.bool true) : Value) = (.bool (decide (k = 1 ∨ k = 5 ∨ k = 6))); show Value.bool _ = Value.bool _; rw [Value.bool.injEq, Bool.eq_iff_iff]; first | (simp [c1, c2]; done) | (simp [c1, c2]; omega) | (simp_all []; done) | (simp_all []; omega) | (simp only [Bool.or_eq_true, Bool.and_eq_true, Bool.not_eq_true', decide_eq_true_eq, decide_eq_false_iff_not]; grind))⟩
   ·refine WO_same (v := (.pointer (some ⟨w.heap.size, 0, none⟩))) rfl (by kernel_rfl) ?_
    refine WO_load (a := ⟨w.heap.size, 0, none⟩) (v := (.int .i64 k)) rfl rfl Tryd.underlying3 rfl (cell_of e1 rfl) ?_
    refine WO_pure (v := (.bool (decide (k = 6)))) rfl rfl ?_
    refine WO_pure (v := (.bool (decide (k = 6)))) rfl rfl ?_
    refine WO_pure (v := (.bool (decide (k = 6)))) rfl rfl ?_
    refine WO_nil ?_
    exact ⟨rfl, rfl, rfl, (by show ((.bool (decide (k = 6))) : Value) = (.bool (decide (k = 1 ∨ k = 5 ∨ k = 6))); show Value.bool _ = Value.bool _; rw [Value.bool.injEq, Bool.eq_iff_iff]; first | (simp [c1, c2]; done) | (simp [c1, c2]; omega) | (simp_all []; done) | (simp_all []; omega) | (simp only [Bool.or_eq_true, Bool.and_eq_true, Bool.not_eq_true', decide_eq_true_eq, decide_eq_false_iff_not]; grind))⟩
 ·rintro σ1 _ ⟨rfl, h1_1, h1_2, h1_4⟩
  refine W_anchor (d := 1) h1_1 (W_anchor (d := 2) h1_2 (W_anchor (d := 4) h1_4 (?_)))
  refine W_cut (fun σ' w' => Below w1.heap.size w1 w' ∧ σ' 3 = (.bool (formP k0 (.mk k nm op ev args)))) ?_ ?_
  ·refine W_reg ?_
   refine WO_same (v := (.pointer (some ⟨pb, 0, none⟩))) rfl (by kernel_rfl) ?_
   refine WO_load (a := ⟨pb, 0, none⟩) (v := (.int .i64 k0)) rfl rfl Tryd.underlying3 rfl (cell_of (n1.keep hp) rfl) ?_
   refine WO_pure (v := (.bool (decide (5 ≤ k0)))) rfl rfl ?_
   refine WO_pure (v := (.bool (decide (5 ≤ k0)))) rfl rfl ?_
   refine WO_splitp 21 (p := 5 ≤ k0) (by exact rfl) (fun c3 => ?_) (fun c3 => ?_)
   ·refine WO_pure (v := (.bool (decide (k = 1 ∨ k = 5 ∨ k = 6)))) rfl rfl ?_
    refine WO_pure (v := (.bool (!(decide (k = 1 ∨ k = 5 ∨ k = 6))))) rfl rfl ?_
    refine WO_pure (v := (.bool (!(decide (k = 1 ∨ k = 5 ∨ k = 6))))) rfl rfl ?_
    refine WO_pure (v := (.bool (!(decide (k = 1 ∨ k = 5 ∨ k = 6))))) rfl rfl ?_
    refine WO_split 25 (b := !(decide (k = 1 ∨ k = 5 ∨ k = 6))) (by exact rfl) (fun c4 => ?_) (fun c4 => ?_)
    ·refine WO_pass rfl ?_
     refine WO_pass rfl ?_
     refine WO_pass rfl ?_
     refine WO_pure (v := (.bool true)) rfl rfl ?_
     refine WO_pure (v := (.bool true)) rfl rfl ?_
     refine WO_nil ?_
     exact ⟨(Below.refl w1.heap.size w1), (by show ((.bool true) : Value) = (.bool (formP k0 (.mk k nm op ev args))); show Value.bool _ = Value.bool _; rw [Value.bool.injEq, Bool.eq_iff_iff]; first | (simp [formP, kindOK, DepT.kind, c3, c4]; done) | (simp [formP, kindOK, DepT.kind, c3, c4]; omega) | (simp_all [formP, kindOK, DepT.kind]; done) | (simp_all [formP, kindOK, DepT.kind]; omega) | (simp only [formP, kindOK, DepT.kind, Bool.or_eq_true, Bool.and_eq_true, Bool.not_eq_true', decide_eq_true_eq, decide_eq_false_iff_not]; grind))⟩
    ·refine WO_loadrow (b := w.heap.size) (o := 0) (m := 5) (c := #[(.int .i64 k), (S nm), (.int .i64 op), (S ev), sv]) rfl rfl Tryd.underlying39 rfl (fun _ => by kernel_rfl) e1 (by simp) ?_
     refine WO_eq 26 (v' := (.agg #[(.int .i64 k), (S nm), (.int .i64 op), (S ev), sv])) rfl rfl ?_
     refine WO_call rfl (by exact en_49) (ih _ _ (hd0.ext (n1.below (Below.refl w.heap.size w) (Below.refl w.heap.size w).size) _ _) hs) ?_
     rintro _ w2 ⟨rfl, h2⟩
     have z_w2 := h2.size
     refine WO_pure (v := (.bool (!(formB (.mk k nm op ev args))))) rfl rfl ?_
     refine WO_pure (v := (.bool (!(formB (.mk k nm op ev args))))) rfl rfl ?_
     refine WO_pure (v := (.bool (!(formB (.mk k nm op ev args))))) rfl rfl ?_
     refine WO_nil ?_
     exact ⟨(below_ext (Below.refl w1.heap.size w1) h2), (by show ((.bool (!(formB (.mk k nm op ev args)))) : Value) = (.bool (formP k0 (.mk k nm op ev args))); show Value.bool _ = Value.bool _; rw [Value.bool.injEq, Bool.eq_iff_iff]; first | (simp [formP, kindOK, DepT.kind, c3, c4]; done) | (simp [formP, kindOK, DepT.kind, c3, c4]; omega) | (simp_all [formP, kindOK, DepT.kind]; done) | (simp_all [formP, kindOK, DepT.kind]; omega) | (simp only [formP, kindOK, DepT.kind, Bool.or_eq_true, Bool.and_eq_true, Bool.not_eq_true', decide_eq_true_eq, decide_eq_false_iff_not]; grind))⟩
   ·refine WO_pass rfl ?_
    refine WO_pass rfl ?_
    refine WO_pure (v := (.bool false)) rfl rfl ?_
    refine WO_pure (v := (.bool false)) rfl rfl ?_
    refine WO_loadrow (b := w.heap.size) (o := 0) (m := 5) (c := #[(.int .i64 k), (S nm), (.int .i64 op), (S ev), sv]) rfl rfl Tryd.underlying39 rfl (fun _ => by kernel_rfl) e1 (by simp) ?_
    refine WO_eq 26 (v' := (.agg #[(.int .i64 k), (S nm), (.int .i64 op), (S ev), sv])) rfl rfl ?_
    refine WO_call rfl (by exact en_49) (ih _ _ (hd0.ext (n1.below (Below.refl w.heap.size w) (Below.refl w.heap.size w).size) _ _) hs) ?_
    rintro _ w3 ⟨rfl, h3⟩
    have z_w3 := h3.size
    refine WO_pure (v := (.bool (!(formB (.mk k nm op ev args))))) rfl rfl ?_
    refine WO_pure (v := (.bool (!(formB (.mk k nm op ev args))))) rfl rfl ?_
    refine WO_pure (v := (.bool (!(formB (.mk k nm op ev args))))) rfl rfl ?_
    refine WO_nil ?_
    exact ⟨(below_ext (Below.refl w1.heap.size w1) h3), (by show ((.bool (!(formB (.mk k nm op ev args)))) : Value) = (.bool (formP k0 (.mk k nm op ev args))); show Value.bool _ = Value.bool _; rw [Value.bool.injEq, Bool.eq_iff_iff]; first | (simp [formP, kindOK, DepT.kind, c3]; done) | (simp [formP, kindOK, DepT.kind, c3]; omega) | (simp_all [formP, kindOK, DepT.kind]; done) | (simp_all [formP, kindOK, DepT.kind]; omega) | (simp only [formP, kindOK, DepT.kind, Bool.or_eq_true, Bool.and_eq_true, Bool.not_eq_true', decide_eq_true_eq, decide_eq_false_iff_not]; grind))⟩
  ·rintro σ2 wc2 ⟨hc2, h2_3⟩
   have z_wc2 := hc2.size
   refine W_anchor (d := 3) h2_3 (?_)
   refine W_ret ?_
   refine body_ret1 rfl (v0 := (.bool (formP k0 (.mk k nm op ev args)))) rfl ?_
   have hbel := (below_ext (n1.below (Below.refl w.heap.size w) (Below.refl w.heap.size w).size) hc2)
   exact ⟨rfl, hbel⟩
theorem tells_form {k : Int} {args : List DepT} {css : List (List Value)} {w : World} {b : Nat} {x1 x2 x3 x4 : Value} (ih : ∀ i, i < args.length → FormSaid 49 (nth args i)) (hs : argsSize args ≤ 4194304) (hp : w.heap[b]? = some (.cells #[.int .i64 k, x1, x2, x3, x4] 39 (0, 0))) (ha : ArgsC w args css) : TellsD 65 #[.pointer (some ⟨b, 0, none⟩)] w css args (formP k) := by
 intro i hi w' hb
 have h1 := ArgsC.at (ArgsC.ext hb args css ha) i hi
 have h2 := ih i hi
 have h3 := argsSize_nth hi
 cases hd : nth args i with
 | mk k' nm op ev bs =>
  rw [hd] at h1 h2 h3
  unfold DepC at h1
  obtain ⟨sv, cs, e, hr, hc⟩ := h1
  rw [e]
  exact formc_step k' op nm ev bs sv cs b k x1 x2 x3 x4 w' (below_keep hb hp) hr hc h2 (by omega)
def mostN (k : Int) : Int := if k = 4 then 3 else if k = 6 then 2 else 0
theorem most_look (k : Int) : ((alook (aput (aput ([] : List (Int × Int)) 4 3) 6 2) k).map I64).getD (.int .i64 0) = .int .i64 (mostN k) := by
 have e : aput (aput ([] : List (Int × Int)) 4 3) 6 2 = [(4, 3), (6, 2)] := rfl
 rw [e]
 unfold alook mostN
 by_cases h1 : k = 4
 ·subst h1; rfl
 ·by_cases h2 : k = 6
  ·subst h2; rfl
  ·simp [h1, h2]
theorem form_bad {k : Int} {nm ev : List UInt8} {op : Int} {n : Nat} : formBad k nm op ev n = decide ((k < 2 ∨ 6 < k ∨ nm ≠ [] ∨ op ≠ 0 ∨ ev ≠ [] ∨ n < 2) ∨ (0 < mostN k ∧ mostN k < (n : Int))) := by
 unfold formBad mostN
 rw [decide_eq_decide]
 refine or_congr Iff.rfl ?_
 by_cases h1 : k = 4
 ·subst h1; simp <;> omega
 ·by_cases h2 : k = 6
  ·subst h2; simp <;> omega
  ·simp [h1, h2]
theorem form_name {nm ev : List UInt8} {op : Int} {n : Nat} : formName nm op ev n = decide (nameB nm = true ∧ n = 0 ∧ (op = 0 ∧ ev = [] ∨ (1 ≤ op ∧ op ≤ 7) ∧ evrE ev = 0)) := by
 rw [Bool.eq_iff_iff, decide_eq_true_eq]
 unfold formName
 by_cases h : op = 0
 ·subst h; simp
 ·simp only [Bool.and_eq_true, decide_eq_true_eq, if_neg h]
  constructor
  ·rintro ⟨a, b, c, d, e⟩; exact ⟨a, d, .inr ⟨⟨by omega, c⟩, e⟩⟩
  ·rintro ⟨a, d, (⟨b, _⟩ | ⟨⟨b, c⟩, e⟩)⟩
   ·exact absurd b h
   ·exact ⟨a, by omega, c, d, e⟩
theorem args_any {k : Int} : ∀ {l : List DepT}, (l.any (formP k)) = !argsForm k l
 | [] => rfl
 | d :: r => by
  rw [List.any_cons, args_any, argsForm]
  unfold formP
  cases kindOK k d.kind <;> cases formB d <;> simp
set_option maxHeartbeats 1000000 in
set_option maxRecDepth 100000 in
theorem form_step (k op : Int) (nm ev : List UInt8) (args : List DepT) (sv : Value) (css : List (List Value)) (w : World) (hr : RowIs w sv args.length 5 css.flatten) (ha : ArgsC w args css) (hs : argsSize args + 1 + nm.length + ev.length ≤ 4194304) (ih : ∀ i, i < args.length → FormSaid 49 (nth args i)) :
  Calls Tryd.prog 49 #[(.agg #[(.int .i64 k), (S nm), (.int .i64 op), (S ev), sv])] w (Ret fun v w' => v = .bool (formB (.mk k nm op ev args)) ∧ Below w.heap.size w w') := by
 have hal := argsSize_len args
 refine calls_W Tryd.func49 rfl Tryd.ntmps49 ?_
 refine W_seq ?_
 refine W_reg ?_
 refine WO_box (v := (.agg #[(.int .i64 k), (S nm), (.int .i64 op), (S ev), sv])) rfl rfl (fun w1 n1 => ?_)
 have e1 : w1.heap[w.heap.size]? = some (.cells #[(.int .i64 k), (S nm), (.int .i64 op), (S ev), sv] 39 (0, 0)) := n1.here
 have z1 := n1.size
 refine WO_pure (v := (.bool false)) rfl rfl ?_
 refine WO_nil ?_
 refine W_seq ?_
 refine W_seq ?_
 refine W_reg ?_
 refine WO_same (v := (.pointer (some ⟨w.heap.size, 0, none⟩))) rfl (by kernel_rfl) ?_
 refine WO_load (a := ⟨w.heap.size, 0, none⟩) (v := (.int .i64 k)) rfl rfl Tryd.underlying3 rfl (cell_of e1 rfl) ?_
 refine WO_pure (v := (.bool (decide (k = 1)))) rfl rfl ?_
 refine WO_nil ?_
 refine W_if (p := k = 1) rfl (fun c1 => ?_) (fun c1 => ?_)
 ·refine W_seq ?_
  refine W_reg ?_
  refine WO_same (v := (.pointer (some ⟨w.heap.size, 3, none⟩))) rfl (by kernel_rfl) ?_
  refine WO_load (a := ⟨w.heap.size, 3, none⟩) (v := (S ev)) rfl rfl Tryd.underlying9 rfl (cell_of e1 rfl) ?_
  refine WO_call rfl (by exact en_63) (evrParse_any ev _ (by omega)) ?_
  rintro _ w2 ⟨⟨ea2, eb2, ec2, rfl⟩, h2⟩
  have z_w2 := h2.size
  refine WO_pure rfl rfl ?_
  refine WO_pure (v := (.agg #[(S ea2), (S eb2), (S ec2)])) rfl rfl ?_
  refine WO_pure (v := (.int .i64 (evrE ev))) rfl rfl ?_
  refine WO_alloc (v := (.agg #[(S []), (S []), (S [])])) rfl (fun _ => by kernel_rfl) (fun w3 n3 => ?_)
  have e3 : w3.heap[w2.heap.size]? = some (.cells #[(S []), (S []), (S [])] 98 (0, 0)) := n3.here
  have z3 := n3.size
  have p4 := e3
  refine WO_storerow (b := w2.heap.size) (o := 0) (c' := #[(S ea2), (S eb2), (S ec2)]) rfl rfl rfl (fun _ => by kernel_rfl) (by simp [Value.oneCell']) p4 (by simp) (fun w4 u4 => ?_)
  have e4 : w4.heap[w2.heap.size]? = some (.cells #[(S ea2), (S eb2), (S ec2)] 98 (0, 0)) := u4.here
  have z4 := u4.size
  refine WO_pure (v := (.int .i64 (evrE ev))) rfl rfl ?_
  refine WO_nil ?_
  refine W_cut (fun σ' w' => Below w4.heap.size w4 w' ∧ σ' 2 = (.bool (decide (nameB nm = true ∧ args.length = 0 ∧ (op = 0 ∧ ev = [] ∨ (1 ≤ op ∧ op ≤ 7) ∧ evrE ev = 0))))) ?_ ?_
  ·refine W_reg ?_
   refine WO_same (v := (.pointer (some ⟨w.heap.size, 1, none⟩))) rfl (by kernel_rfl) ?_
   refine WO_load (a := ⟨w.heap.size, 1, none⟩) (v := (S nm)) rfl rfl Tryd.underlying9 rfl (cell_of (u4.keep (n3.keep (below_keep h2 e1)) (heap_ne (n3.keep (below_keep h2 e1)) p4 (by decide))) rfl) ?_
   refine WO_call rfl (by exact en_14) (name_any nm _ (by omega)) ?_
   rintro _ w5 ⟨rfl, h5⟩
   have z_w5 := h5.size
   refine WO_pure (v := (.bool (nameB nm))) rfl rfl ?_
   refine WO_split 18 (b := nameB nm) (by exact rfl) (fun c2 => ?_) (fun c2 => ?_)
   ·refine WO_same (v := (.pointer (some ⟨w.heap.size, 4, none⟩))) rfl (by kernel_rfl) ?_
    refine WO_load (a := ⟨w.heap.size, 4, none⟩) (v := sv) rfl rfl Tryd.underlying37 rfl (cell_of (below_keep h5 (u4.keep (n3.keep (below_keep h2 e1)) (heap_ne (n3.keep (below_keep h2 e1)) p4 (by decide)))) rfl) ?_
    refine WO_lenrow (v := sv) (m := args.length) (sz := 5) rfl rfl (hr.ext (below_ext (u4.below (n3.below (below_ext (n1.below (Below.refl w.heap.size w) (Below.refl w.heap.size w).size) h2) (below_ext (n1.below (Below.refl w.heap.size w) (Below.refl w.heap.size w).size) h2).size) (by omega)) h5)) Tryd.underlying37 ?_
    refine WO_pure (v := (.bool (decide ((args.length : Int) = 0)))) rfl rfl ?_
    refine WO_pure (v := (.bool (decide ((args.length : Int) = 0)))) rfl rfl ?_
    refine WO_pure (v := (.bool (decide ((args.length : Int) = 0)))) rfl rfl ?_
    refine WO_splitp 24 (p := (args.length : Int) = 0) (by exact rfl) (fun c3 => ?_) (fun c3 => ?_)
    ·refine WO_same (v := (.pointer (some ⟨w.heap.size, 2, none⟩))) rfl (by kernel_rfl) ?_
     refine WO_load (a := ⟨w.heap.size, 2, none⟩) (v := (.int .i64 op)) rfl rfl Tryd.underlying3 rfl (cell_of (below_keep h5 (u4.keep (n3.keep (below_keep h2 e1)) (heap_ne (n3.keep (below_keep h2 e1)) p4 (by decide)))) rfl) ?_
     refine WO_pure (v := (.bool (decide (op = 0)))) rfl rfl ?_
     refine WO_pure (v := (.bool (decide (op = 0)))) rfl rfl ?_
     refine WO_splitp 28 (p := op = 0) (by exact rfl) (fun c4 => ?_) (fun c4 => ?_)
     ·refine WO_same (v := (.pointer (some ⟨w.heap.size, 3, none⟩))) rfl (by kernel_rfl) ?_
      refine WO_load (a := ⟨w.heap.size, 3, none⟩) (v := (S ev)) rfl rfl Tryd.underlying9 rfl (cell_of (below_keep h5 (u4.keep (n3.keep (below_keep h2 e1)) (heap_ne (n3.keep (below_keep h2 e1)) p4 (by decide)))) rfl) ?_
      refine WO_seql (l1 := ev) (l2 := []) rfl rfl rfl ?_
      refine WO_pure (v := (.bool (decide (ev = [])))) rfl rfl ?_
      refine WO_pure (v := (.bool (decide (ev = [])))) rfl rfl ?_
      refine WO_splitp 33 (p := ev = []) (by exact rfl) (fun c5 => ?_) (fun c5 => ?_)
      ·refine WO_pass rfl ?_
       refine WO_pass rfl ?_
       refine WO_pass rfl ?_
       refine WO_pass rfl ?_
       refine WO_pass rfl ?_
       refine WO_pass rfl ?_
       refine WO_pass rfl ?_
       refine WO_pass rfl ?_
       refine WO_pass rfl ?_
       refine WO_pass rfl ?_
       refine WO_pass rfl ?_
       refine WO_pass rfl ?_
       refine WO_pure (v := (.bool true)) rfl rfl ?_
       refine WO_pure (v := (.bool true)) rfl rfl ?_
       refine WO_pure (v := (.bool true)) rfl rfl ?_
       refine WO_nil ?_
       exact ⟨(below_ext (Below.refl w4.heap.size w4) h5), (by show ((.bool true) : Value) = (.bool (decide (nameB nm = true ∧ args.length = 0 ∧ (op = 0 ∧ ev = [] ∨ (1 ≤ op ∧ op ≤ 7) ∧ evrE ev = 0)))); show Value.bool _ = Value.bool _; rw [Value.bool.injEq, Bool.eq_iff_iff]; first | (simp [c2, c3, c4, c5]; done) | (simp [c2, c3, c4, c5]; omega) | (simp_all []; done) | (simp_all []; omega) | (simp only [Bool.or_eq_true, Bool.and_eq_true, Bool.not_eq_true', decide_eq_true_eq, decide_eq_false_iff_not]; grind))⟩
      ·refine WO_same (v := (.pointer (some ⟨w.heap.size, 2, none⟩))) rfl (by kernel_rfl) ?_
       refine WO_load (a := ⟨w.heap.size, 2, none⟩) (v := (.int .i64 op)) rfl rfl Tryd.underlying3 rfl (cell_of (below_keep h5 (u4.keep (n3.keep (below_keep h2 e1)) (heap_ne (n3.keep (below_keep h2 e1)) p4 (by decide)))) rfl) ?_
       refine WO_pure (v := (.bool (decide (1 ≤ op)))) rfl rfl ?_
       refine WO_pure (v := (.bool (decide (1 ≤ op)))) rfl rfl ?_
       refine WO_splitp 37 (p := 1 ≤ op) (by exact rfl) (fun c6 => ?_) (fun c6 => ?_)
       ·refine WO_same (v := (.pointer (some ⟨w.heap.size, 2, none⟩))) rfl (by kernel_rfl) ?_
        refine WO_load (a := ⟨w.heap.size, 2, none⟩) (v := (.int .i64 op)) rfl rfl Tryd.underlying3 rfl (cell_of (below_keep h5 (u4.keep (n3.keep (below_keep h2 e1)) (heap_ne (n3.keep (below_keep h2 e1)) p4 (by decide)))) rfl) ?_
        refine WO_pure (v := (.bool (decide (op ≤ 7)))) rfl rfl ?_
        refine WO_pure (v := (.bool (decide (op ≤ 7)))) rfl rfl ?_
        refine WO_pure (v := (.bool (decide (op ≤ 7)))) rfl rfl ?_
        refine WO_splitp 42 (p := op ≤ 7) (by exact rfl) (fun c7 => ?_) (fun c7 => ?_)
        ·refine WO_pure (v := (.int .i64 (evrE ev))) rfl rfl ?_
         refine WO_pure (v := (.bool (decide ((evrE ev) = 0)))) rfl rfl ?_
         refine WO_pure (v := (.bool (decide ((evrE ev) = 0)))) rfl rfl ?_
         refine WO_pure (v := (.bool (decide ((evrE ev) = 0)))) rfl rfl ?_
         refine WO_pure (v := (.bool (decide ((evrE ev) = 0)))) rfl rfl ?_
         refine WO_pure (v := (.bool (decide ((evrE ev) = 0)))) rfl rfl ?_
         refine WO_nil ?_
         exact ⟨(below_ext (Below.refl w4.heap.size w4) h5), (by show ((.bool (decide ((evrE ev) = 0))) : Value) = (.bool (decide (nameB nm = true ∧ args.length = 0 ∧ (op = 0 ∧ ev = [] ∨ (1 ≤ op ∧ op ≤ 7) ∧ evrE ev = 0)))); show Value.bool _ = Value.bool _; rw [Value.bool.injEq, Bool.eq_iff_iff]; first | (simp [c2, c3, c4, c5, c6, c7]; done) | (simp [c2, c3, c4, c5, c6, c7]; omega) | (simp_all []; done) | (simp_all []; omega) | (simp only [Bool.or_eq_true, Bool.and_eq_true, Bool.not_eq_true', decide_eq_true_eq, decide_eq_false_iff_not]; grind))⟩
        ·refine WO_pass rfl ?_
         refine WO_pass rfl ?_
         refine WO_pure (v := (.bool false)) rfl rfl ?_
         refine WO_pure (v := (.bool false)) rfl rfl ?_
         refine WO_pure (v := (.bool false)) rfl rfl ?_
         refine WO_pure (v := (.bool false)) rfl rfl ?_
         refine WO_nil ?_
         exact ⟨(below_ext (Below.refl w4.heap.size w4) h5), (by show ((.bool false) : Value) = (.bool (decide (nameB nm = true ∧ args.length = 0 ∧ (op = 0 ∧ ev = [] ∨ (1 ≤ op ∧ op ≤ 7) ∧ evrE ev = 0)))); show Value.bool _ = Value.bool _; rw [Value.bool.injEq, Bool.eq_iff_iff]; first | (simp [c2, c3, c4, c5, c6, c7]; done) | (simp [c2, c3, c4, c5, c6, c7]; omega) | (simp_all []; done) | (simp_all []; omega) | (simp only [Bool.or_eq_true, Bool.and_eq_true, Bool.not_eq_true', decide_eq_true_eq, decide_eq_false_iff_not]; grind))⟩
       ·refine WO_pass rfl ?_
        refine WO_pass rfl ?_
        refine WO_pass rfl ?_
        refine WO_pure (v := (.bool false)) rfl rfl ?_
        refine WO_pure (v := (.bool false)) rfl rfl ?_
        refine WO_pass rfl ?_
        refine WO_pass rfl ?_
        refine WO_pure (v := (.bool false)) rfl rfl ?_
        refine WO_pure (v := (.bool false)) rfl rfl ?_
        refine WO_pure (v := (.bool false)) rfl rfl ?_
        refine WO_pure (v := (.bool false)) rfl rfl ?_
        refine WO_nil ?_
        exact ⟨(below_ext (Below.refl w4.heap.size w4) h5), (by show ((.bool false) : Value) = (.bool (decide (nameB nm = true ∧ args.length = 0 ∧ (op = 0 ∧ ev = [] ∨ (1 ≤ op ∧ op ≤ 7) ∧ evrE ev = 0)))); show Value.bool _ = Value.bool _; rw [Value.bool.injEq, Bool.eq_iff_iff]; first | (simp [c2, c3, c4, c5, c6]; done) | (simp [c2, c3, c4, c5, c6]; omega) | (simp_all []; done) | (simp_all []; omega) | (simp only [Bool.or_eq_true, Bool.and_eq_true, Bool.not_eq_true', decide_eq_true_eq, decide_eq_false_iff_not]; grind))⟩
     ·refine WO_pass rfl ?_
      refine WO_pass rfl ?_
      refine WO_pass rfl ?_
      refine WO_pure (v := (.bool false)) rfl rfl ?_
      refine WO_pure (v := (.bool false)) rfl rfl ?_
      refine WO_same (v := (.pointer (some ⟨w.heap.size, 2, none⟩))) rfl (by kernel_rfl) ?_
      refine WO_load (a := ⟨w.heap.size, 2, none⟩) (v := (.int .i64 op)) rfl rfl Tryd.underlying3 rfl (cell_of (below_keep h5 (u4.keep (n3.keep (below_keep h2 e1)) (heap_ne (n3.keep (below_keep h2 e1)) p4 (by decide)))) rfl) ?_
      refine WO_pure (v := (.bool (decide (1 ≤ op)))) rfl rfl ?_
      refine WO_pure (v := (.bool (decide (1 ≤ op)))) rfl rfl ?_
      refine WO_splitp 37 (p := 1 ≤ op) (by exact rfl) (fun c8 => ?_) (fun c8 => ?_)
      ·refine WO_same (v := (.pointer (some ⟨w.heap.size, 2, none⟩))) rfl (by kernel_rfl) ?_
       refine WO_load (a := ⟨w.heap.size, 2, none⟩) (v := (.int .i64 op)) rfl rfl Tryd.underlying3 rfl (cell_of (below_keep h5 (u4.keep (n3.keep (below_keep h2 e1)) (heap_ne (n3.keep (below_keep h2 e1)) p4 (by decide)))) rfl) ?_
       refine WO_pure (v := (.bool (decide (op ≤ 7)))) rfl rfl ?_
       refine WO_pure (v := (.bool (decide (op ≤ 7)))) rfl rfl ?_
       refine WO_pure (v := (.bool (decide (op ≤ 7)))) rfl rfl ?_
       refine WO_splitp 42 (p := op ≤ 7) (by exact rfl) (fun c9 => ?_) (fun c9 => ?_)
       ·refine WO_pure (v := (.int .i64 (evrE ev))) rfl rfl ?_
        refine WO_pure (v := (.bool (decide ((evrE ev) = 0)))) rfl rfl ?_
        refine WO_pure (v := (.bool (decide ((evrE ev) = 0)))) rfl rfl ?_
        refine WO_pure (v := (.bool (decide ((evrE ev) = 0)))) rfl rfl ?_
        refine WO_pure (v := (.bool (decide ((evrE ev) = 0)))) rfl rfl ?_
        refine WO_pure (v := (.bool (decide ((evrE ev) = 0)))) rfl rfl ?_
        refine WO_nil ?_
        exact ⟨(below_ext (Below.refl w4.heap.size w4) h5), (by show ((.bool (decide ((evrE ev) = 0))) : Value) = (.bool (decide (nameB nm = true ∧ args.length = 0 ∧ (op = 0 ∧ ev = [] ∨ (1 ≤ op ∧ op ≤ 7) ∧ evrE ev = 0)))); show Value.bool _ = Value.bool _; rw [Value.bool.injEq, Bool.eq_iff_iff]; first | (simp [c2, c3, c4, c8, c9]; done) | (simp [c2, c3, c4, c8, c9]; omega) | (simp_all []; done) | (simp_all []; omega) | (simp only [Bool.or_eq_true, Bool.and_eq_true, Bool.not_eq_true', decide_eq_true_eq, decide_eq_false_iff_not]; grind))⟩
       ·refine WO_pass rfl ?_
        refine WO_pass rfl ?_
        refine WO_pure (v := (.bool false)) rfl rfl ?_
        refine WO_pure (v := (.bool false)) rfl rfl ?_
        refine WO_pure (v := (.bool false)) rfl rfl ?_
        refine WO_pure (v := (.bool false)) rfl rfl ?_
        refine WO_nil ?_
        exact ⟨(below_ext (Below.refl w4.heap.size w4) h5), (by show ((.bool false) : Value) = (.bool (decide (nameB nm = true ∧ args.length = 0 ∧ (op = 0 ∧ ev = [] ∨ (1 ≤ op ∧ op ≤ 7) ∧ evrE ev = 0)))); show Value.bool _ = Value.bool _; rw [Value.bool.injEq, Bool.eq_iff_iff]; first | (simp [c2, c3, c4, c8, c9]; done) | (simp [c2, c3, c4, c8, c9]; omega) | (simp_all []; done) | (simp_all []; omega) | (simp only [Bool.or_eq_true, Bool.and_eq_true, Bool.not_eq_true', decide_eq_true_eq, decide_eq_false_iff_not]; grind))⟩
      ·refine WO_pass rfl ?_
       refine WO_pass rfl ?_
       refine WO_pass rfl ?_
       refine WO_pure (v := (.bool false)) rfl rfl ?_
       refine WO_pure (v := (.bool false)) rfl rfl ?_
       refine WO_pass rfl ?_
       refine WO_pass rfl ?_
       refine WO_pure (v := (.bool false)) rfl rfl ?_
       refine WO_pure (v := (.bool false)) rfl rfl ?_
       refine WO_pure (v := (.bool false)) rfl rfl ?_
       refine WO_pure (v := (.bool false)) rfl rfl ?_
       refine WO_nil ?_
       exact ⟨(below_ext (Below.refl w4.heap.size w4) h5), (by show ((.bool false) : Value) = (.bool (decide (nameB nm = true ∧ args.length = 0 ∧ (op = 0 ∧ ev = [] ∨ (1 ≤ op ∧ op ≤ 7) ∧ evrE ev = 0)))); show Value.bool _ = Value.bool _; rw [Value.bool.injEq, Bool.eq_iff_iff]; first | (simp [c2, c3, c4, c8]; done) | (simp [c2, c3, c4, c8]; omega) | (simp_all []; done) | (simp_all []; omega) | (simp only [Bool.or_eq_true, Bool.and_eq_true, Bool.not_eq_true', decide_eq_true_eq, decide_eq_false_iff_not]; grind))⟩
    ·refine WO_pass rfl ?_
     refine WO_pass rfl ?_
     refine WO_pass rfl ?_
     refine WO_pass rfl ?_
     refine WO_pass rfl ?_
     refine WO_pass rfl ?_
     refine WO_pass rfl ?_
     refine WO_pass rfl ?_
     refine WO_pass rfl ?_
     refine WO_pass rfl ?_
     refine WO_pass rfl ?_
     refine WO_pass rfl ?_
     refine WO_pass rfl ?_
     refine WO_pass rfl ?_
     refine WO_pass rfl ?_
     refine WO_pass rfl ?_
     refine WO_pass rfl ?_
     refine WO_pass rfl ?_
     refine WO_pass rfl ?_
     refine WO_pass rfl ?_
     refine WO_pass rfl ?_
     refine WO_pass rfl ?_
     refine WO_pure (v := (.bool false)) rfl rfl ?_
     refine WO_pure (v := (.bool false)) rfl rfl ?_
     refine WO_nil ?_
     exact ⟨(below_ext (Below.refl w4.heap.size w4) h5), (by show ((.bool false) : Value) = (.bool (decide (nameB nm = true ∧ args.length = 0 ∧ (op = 0 ∧ ev = [] ∨ (1 ≤ op ∧ op ≤ 7) ∧ evrE ev = 0)))); show Value.bool _ = Value.bool _; rw [Value.bool.injEq, Bool.eq_iff_iff]; first | (simp [c2, c3]; done) | (simp [c2, c3]; omega) | (simp_all []; done) | (simp_all []; omega) | (simp only [Bool.or_eq_true, Bool.and_eq_true, Bool.not_eq_true', decide_eq_true_eq, decide_eq_false_iff_not]; grind))⟩
   ·refine WO_pass rfl ?_
    refine WO_pass rfl ?_
    refine WO_pass rfl ?_
    refine WO_pass rfl ?_
    refine WO_pure (v := (.bool false)) rfl rfl ?_
    refine WO_pure (v := (.bool false)) rfl rfl ?_
    refine WO_pass rfl ?_
    refine WO_pass rfl ?_
    refine WO_pass rfl ?_
    refine WO_pass rfl ?_
    refine WO_pass rfl ?_
    refine WO_pass rfl ?_
    refine WO_pass rfl ?_
    refine WO_pass rfl ?_
    refine WO_pass rfl ?_
    refine WO_pass rfl ?_
    refine WO_pass rfl ?_
    refine WO_pass rfl ?_
    refine WO_pass rfl ?_
    refine WO_pass rfl ?_
    refine WO_pass rfl ?_
    refine WO_pass rfl ?_
    refine WO_pass rfl ?_
    refine WO_pass rfl ?_
    refine WO_pass rfl ?_
    refine WO_pass rfl ?_
    refine WO_pass rfl ?_
    refine WO_pass rfl ?_
    refine WO_pure (v := (.bool false)) rfl rfl ?_
    refine WO_pure (v := (.bool false)) rfl rfl ?_
    refine WO_nil ?_
    exact ⟨(below_ext (Below.refl w4.heap.size w4) h5), (by show ((.bool false) : Value) = (.bool (decide (nameB nm = true ∧ args.length = 0 ∧ (op = 0 ∧ ev = [] ∨ (1 ≤ op ∧ op ≤ 7) ∧ evrE ev = 0)))); show Value.bool _ = Value.bool _; rw [Value.bool.injEq, Bool.eq_iff_iff]; first | (simp [c2]; done) | (simp [c2]; omega) | (simp_all []; done) | (simp_all []; omega) | (simp only [Bool.or_eq_true, Bool.and_eq_true, Bool.not_eq_true', decide_eq_true_eq, decide_eq_false_iff_not]; grind))⟩
  ·rintro σ1 wc1 ⟨hc1, h1_2⟩
   have z_wc1 := hc1.size
   refine W_anchor (d := 2) h1_2 (?_)
   refine W_ret ?_
   refine body_ret1 rfl (v0 := (.bool (decide (nameB nm = true ∧ args.length = 0 ∧ (op = 0 ∧ ev = [] ∨ (1 ≤ op ∧ op ≤ 7) ∧ evrE ev = 0))))) rfl ?_
   have hbel := (below_ext (u4.below (n3.below (below_ext (n1.below (Below.refl w.heap.size w) (Below.refl w.heap.size w).size) h2) (below_ext (n1.below (Below.refl w.heap.size w) (Below.refl w.heap.size w).size) h2).size) (by omega)) hc1)
   exact ⟨by unfold formB; rw [if_pos c1, form_name], hbel⟩
 ·refine W_skip ?_
  refine W_seq ?_
  refine W_reg ?_
  refine WO_makemap rfl (fun w6 n6 => ?_)
  refine WO_mapins (enc := I64) (val := I64) (m := []) (k := 4) (a := 3) rfl rfl rfl rfl (MapIs.made n6) (by simp [Once, aput, alook]) (key_int Tryd.underlying3) Tryd.underlying101 (fun wm1 om1 um1 hm1 => ?_)
  have zm1 := um1.size
  refine WO_mapins (enc := I64) (val := I64) (m := (aput [] 4 3)) (k := 6) (a := 2) rfl rfl rfl rfl hm1 (by simp [Once, aput, alook]) (key_int Tryd.underlying3) Tryd.underlying101 (fun wm2 om2 um2 hm2 => ?_)
  have zm2 := um2.size
  refine WO_pure (v := (.map (some w1.heap.size))) rfl rfl ?_
  refine WO_same (v := (.pointer (some ⟨w.heap.size, 0, none⟩))) rfl (by kernel_rfl) ?_
  refine WO_load (a := ⟨w.heap.size, 0, none⟩) (v := (.int .i64 k)) rfl rfl Tryd.underlying3 rfl (cell_of (um2.keep (um1.keep (n6.keep e1) (by first | assumption | omega | (simp; omega))) (by first | assumption | omega | (simp; omega))) rfl) ?_
  refine WO_lookup (val := I64) (z := .int .i64 0) (m := aput (aput [] 4 3) 6 2) (k := k) rfl rfl rfl hm2 (key_int Tryd.underlying3) Tryd.underlying101 (fun _ => by kernel_rfl) ?_
  refine WO_eq 52 rfl (most_look k) ?_
  refine WO_pure (v := (.int .i64 (mostN k))) rfl rfl ?_
  refine WO_nil ?_
  refine W_seq ?_
  refine W_cut (fun σ' w' => wm2 = w' ∧ σ' 1 = (.pointer (some ⟨w.heap.size, 0, none⟩)) ∧ σ' 92 = (.bool (decide ((k < 2 ∨ 6 < k ∨ nm ≠ [] ∨ op ≠ 0 ∨ ev ≠ [] ∨ args.length < 2) ∨ (0 < mostN k ∧ mostN k < (args.length : Int)))))) ?_ ?_
  ·refine W_reg ?_
   refine WO_same (v := (.pointer (some ⟨w.heap.size, 0, none⟩))) rfl (by kernel_rfl) ?_
   refine WO_load (a := ⟨w.heap.size, 0, none⟩) (v := (.int .i64 k)) rfl rfl Tryd.underlying3 rfl (cell_of (um2.keep (um1.keep (n6.keep e1) (by first | assumption | omega | (simp; omega))) (by first | assumption | omega | (simp; omega))) rfl) ?_
   refine WO_pure (v := (.bool (decide (k < 2)))) rfl rfl ?_
   refine WO_pure (v := (.bool (decide (k < 2)))) rfl rfl ?_
   refine WO_splitp 56 (p := k < 2) (by exact rfl) (fun c10 => ?_) (fun c10 => ?_)
   ·refine WO_pass rfl ?_
    refine WO_pass rfl ?_
    refine WO_pass rfl ?_
    refine WO_pure (v := (.bool true)) rfl rfl ?_
    refine WO_pure (v := (.bool true)) rfl rfl ?_
    refine WO_pass rfl ?_
    refine WO_pass rfl ?_
    refine WO_pass rfl ?_
    refine WO_pure (v := (.bool true)) rfl rfl ?_
    refine WO_pure (v := (.bool true)) rfl rfl ?_
    refine WO_pass rfl ?_
    refine WO_pass rfl ?_
    refine WO_pass rfl ?_
    refine WO_pure (v := (.bool true)) rfl rfl ?_
    refine WO_pure (v := (.bool true)) rfl rfl ?_
    refine WO_pass rfl ?_
    refine WO_pass rfl ?_
    refine WO_pass rfl ?_
    refine WO_pure (v := (.bool true)) rfl rfl ?_
    refine WO_pure (v := (.bool true)) rfl rfl ?_
    refine WO_pass rfl ?_
    refine WO_pass rfl ?_
    refine WO_pass rfl ?_
    refine WO_pass rfl ?_
    refine WO_pure (v := (.bool true)) rfl rfl ?_
    refine WO_pure (v := (.bool true)) rfl rfl ?_
    refine WO_pass rfl ?_
    refine WO_pass rfl ?_
    refine WO_pass rfl ?_
    refine WO_pass rfl ?_
    refine WO_pass rfl ?_
    refine WO_pass rfl ?_
    refine WO_pass rfl ?_
    refine WO_pass rfl ?_
    refine WO_pass rfl ?_
    refine WO_pure (v := (.bool true)) rfl rfl ?_
    refine WO_nil ?_
    exact ⟨rfl, rfl, (by show ((.bool true) : Value) = (.bool (decide ((k < 2 ∨ 6 < k ∨ nm ≠ [] ∨ op ≠ 0 ∨ ev ≠ [] ∨ args.length < 2) ∨ (0 < mostN k ∧ mostN k < (args.length : Int))))); show Value.bool _ = Value.bool _; rw [Value.bool.injEq, Bool.eq_iff_iff]; first | (simp [c10]; done) | (simp [c10]; omega) | (simp_all []; done) | (simp_all []; omega) | (simp only [Bool.or_eq_true, Bool.and_eq_true, Bool.not_eq_true', decide_eq_true_eq, decide_eq_false_iff_not]; grind))⟩
   ·refine WO_same (v := (.pointer (some ⟨w.heap.size, 0, none⟩))) rfl (by kernel_rfl) ?_
    refine WO_load (a := ⟨w.heap.size, 0, none⟩) (v := (.int .i64 k)) rfl rfl Tryd.underlying3 rfl (cell_of (um2.keep (um1.keep (n6.keep e1) (by first | assumption | omega | (simp; omega))) (by first | assumption | omega | (simp; omega))) rfl) ?_
    refine WO_pure (v := (.bool (decide (6 < k)))) rfl rfl ?_
    refine WO_pure (v := (.bool (decide (6 < k)))) rfl rfl ?_
    refine WO_pure (v := (.bool (decide (6 < k)))) rfl rfl ?_
    refine WO_splitp 61 (p := 6 < k) (by exact rfl) (fun c11 => ?_) (fun c11 => ?_)
    ·refine WO_pass rfl ?_
     refine WO_pass rfl ?_
     refine WO_pass rfl ?_
     refine WO_pure (v := (.bool true)) rfl rfl ?_
     refine WO_pure (v := (.bool true)) rfl rfl ?_
     refine WO_pass rfl ?_
     refine WO_pass rfl ?_
     refine WO_pass rfl ?_
     refine WO_pure (v := (.bool true)) rfl rfl ?_
     refine WO_pure (v := (.bool true)) rfl rfl ?_
     refine WO_pass rfl ?_
     refine WO_pass rfl ?_
     refine WO_pass rfl ?_
     refine WO_pure (v := (.bool true)) rfl rfl ?_
     refine WO_pure (v := (.bool true)) rfl rfl ?_
     refine WO_pass rfl ?_
     refine WO_pass rfl ?_
     refine WO_pass rfl ?_
     refine WO_pass rfl ?_
     refine WO_pure (v := (.bool true)) rfl rfl ?_
     refine WO_pure (v := (.bool true)) rfl rfl ?_
     refine WO_pass rfl ?_
     refine WO_pass rfl ?_
     refine WO_pass rfl ?_
     refine WO_pass rfl ?_
     refine WO_pass rfl ?_
     refine WO_pass rfl ?_
     refine WO_pass rfl ?_
     refine WO_pass rfl ?_
     refine WO_pass rfl ?_
     refine WO_pure (v := (.bool true)) rfl rfl ?_
     refine WO_nil ?_
     exact ⟨rfl, rfl, (by show ((.bool true) : Value) = (.bool (decide ((k < 2 ∨ 6 < k ∨ nm ≠ [] ∨ op ≠ 0 ∨ ev ≠ [] ∨ args.length < 2) ∨ (0 < mostN k ∧ mostN k < (args.length : Int))))); show Value.bool _ = Value.bool _; rw [Value.bool.injEq, Bool.eq_iff_iff]; first | (simp [c10, c11]; done) | (simp [c10, c11]; omega) | (simp_all []; done) | (simp_all []; omega) | (simp only [Bool.or_eq_true, Bool.and_eq_true, Bool.not_eq_true', decide_eq_true_eq, decide_eq_false_iff_not]; grind))⟩
    ·refine WO_same (v := (.pointer (some ⟨w.heap.size, 1, none⟩))) rfl (by kernel_rfl) ?_
     refine WO_load (a := ⟨w.heap.size, 1, none⟩) (v := (S nm)) rfl rfl Tryd.underlying9 rfl (cell_of (um2.keep (um1.keep (n6.keep e1) (by first | assumption | omega | (simp; omega))) (by first | assumption | omega | (simp; omega))) rfl) ?_
     refine WO_sneq (l1 := nm) (l2 := []) rfl rfl rfl ?_
     refine WO_pure (v := (.bool (!decide (nm = [])))) rfl rfl ?_
     refine WO_pure (v := (.bool (!decide (nm = [])))) rfl rfl ?_
     refine WO_split 66 (b := !decide (nm = [])) (by exact rfl) (fun c12 => ?_) (fun c12 => ?_)
     ·refine WO_pass rfl ?_
      refine WO_pass rfl ?_
      refine WO_pass rfl ?_
      refine WO_pure (v := (.bool true)) rfl rfl ?_
      refine WO_pure (v := (.bool true)) rfl rfl ?_
      refine WO_pass rfl ?_
      refine WO_pass rfl ?_
      refine WO_pass rfl ?_
      refine WO_pure (v := (.bool true)) rfl rfl ?_
      refine WO_pure (v := (.bool true)) rfl rfl ?_
      refine WO_pass rfl ?_
      refine WO_pass rfl ?_
      refine WO_pass rfl ?_
      refine WO_pass rfl ?_
      refine WO_pure (v := (.bool true)) rfl rfl ?_
      refine WO_pure (v := (.bool true)) rfl rfl ?_
      refine WO_pass rfl ?_
      refine WO_pass rfl ?_
      refine WO_pass rfl ?_
      refine WO_pass rfl ?_
      refine WO_pass rfl ?_
      refine WO_pass rfl ?_
      refine WO_pass rfl ?_
      refine WO_pass rfl ?_
      refine WO_pass rfl ?_
      refine WO_pure (v := (.bool true)) rfl rfl ?_
      refine WO_nil ?_
      exact ⟨rfl, rfl, (by show ((.bool true) : Value) = (.bool (decide ((k < 2 ∨ 6 < k ∨ nm ≠ [] ∨ op ≠ 0 ∨ ev ≠ [] ∨ args.length < 2) ∨ (0 < mostN k ∧ mostN k < (args.length : Int))))); show Value.bool _ = Value.bool _; rw [Value.bool.injEq, Bool.eq_iff_iff]; first | (simp [c10, c11, c12]; done) | (simp [c10, c11, c12]; omega) | (simp_all []; done) | (simp_all []; omega) | (simp only [Bool.or_eq_true, Bool.and_eq_true, Bool.not_eq_true', decide_eq_true_eq, decide_eq_false_iff_not]; grind))⟩
     ·refine WO_same (v := (.pointer (some ⟨w.heap.size, 2, none⟩))) rfl (by kernel_rfl) ?_
      refine WO_load (a := ⟨w.heap.size, 2, none⟩) (v := (.int .i64 op)) rfl rfl Tryd.underlying3 rfl (cell_of (um2.keep (um1.keep (n6.keep e1) (by first | assumption | omega | (simp; omega))) (by first | assumption | omega | (simp; omega))) rfl) ?_
      refine WO_pure (v := (.bool (!decide (op = 0)))) rfl rfl ?_
      refine WO_pure (v := (.bool (!decide (op = 0)))) rfl rfl ?_
      refine WO_pure (v := (.bool (!decide (op = 0)))) rfl rfl ?_
      refine WO_split 71 (b := !decide (op = 0)) (by exact rfl) (fun c13 => ?_) (fun c13 => ?_)
      ·refine WO_pass rfl ?_
       refine WO_pass rfl ?_
       refine WO_pass rfl ?_
       refine WO_pure (v := (.bool true)) rfl rfl ?_
       refine WO_pure (v := (.bool true)) rfl rfl ?_
       refine WO_pass rfl ?_
       refine WO_pass rfl ?_
       refine WO_pass rfl ?_
       refine WO_pass rfl ?_
       refine WO_pure (v := (.bool true)) rfl rfl ?_
       refine WO_pure (v := (.bool true)) rfl rfl ?_
       refine WO_pass rfl ?_
       refine WO_pass rfl ?_
       refine WO_pass rfl ?_
       refine WO_pass rfl ?_
       refine WO_pass rfl ?_
       refine WO_pass rfl ?_
       refine WO_pass rfl ?_
       refine WO_pass rfl ?_
       refine WO_pass rfl ?_
       refine WO_pure (v := (.bool true)) rfl rfl ?_
       refine WO_nil ?_
       exact ⟨rfl, rfl, (by show ((.bool true) : Value) = (.bool (decide ((k < 2 ∨ 6 < k ∨ nm ≠ [] ∨ op ≠ 0 ∨ ev ≠ [] ∨ args.length < 2) ∨ (0 < mostN k ∧ mostN k < (args.length : Int))))); show Value.bool _ = Value.bool _; rw [Value.bool.injEq, Bool.eq_iff_iff]; first | (simp [c10, c11, c12, c13]; done) | (simp [c10, c11, c12, c13]; omega) | (simp_all []; done) | (simp_all []; omega) | (simp only [Bool.or_eq_true, Bool.and_eq_true, Bool.not_eq_true', decide_eq_true_eq, decide_eq_false_iff_not]; grind))⟩
      ·refine WO_same (v := (.pointer (some ⟨w.heap.size, 3, none⟩))) rfl (by kernel_rfl) ?_
       refine WO_load (a := ⟨w.heap.size, 3, none⟩) (v := (S ev)) rfl rfl Tryd.underlying9 rfl (cell_of (um2.keep (um1.keep (n6.keep e1) (by first | assumption | omega | (simp; omega))) (by first | assumption | omega | (simp; omega))) rfl) ?_
       refine WO_sneq (l1 := ev) (l2 := []) rfl rfl rfl ?_
       refine WO_pure (v := (.bool (!decide (ev = [])))) rfl rfl ?_
       refine WO_pure (v := (.bool (!decide (ev = [])))) rfl rfl ?_
       refine WO_split 76 (b := !decide (ev = [])) (by exact rfl) (fun c14 => ?_) (fun c14 => ?_)
       ·refine WO_pass rfl ?_
        refine WO_pass rfl ?_
        refine WO_pass rfl ?_
        refine WO_pass rfl ?_
        refine WO_pure (v := (.bool true)) rfl rfl ?_
        refine WO_pure (v := (.bool true)) rfl rfl ?_
        refine WO_pass rfl ?_
        refine WO_pass rfl ?_
        refine WO_pass rfl ?_
        refine WO_pass rfl ?_
        refine WO_pass rfl ?_
        refine WO_pass rfl ?_
        refine WO_pass rfl ?_
        refine WO_pass rfl ?_
        refine WO_pass rfl ?_
        refine WO_pure (v := (.bool true)) rfl rfl ?_
        refine WO_nil ?_
        exact ⟨rfl, rfl, (by show ((.bool true) : Value) = (.bool (decide ((k < 2 ∨ 6 < k ∨ nm ≠ [] ∨ op ≠ 0 ∨ ev ≠ [] ∨ args.length < 2) ∨ (0 < mostN k ∧ mostN k < (args.length : Int))))); show Value.bool _ = Value.bool _; rw [Value.bool.injEq, Bool.eq_iff_iff]; first | (simp [c10, c11, c12, c13, c14]; done) | (simp [c10, c11, c12, c13, c14]; omega) | (simp_all []; done) | (simp_all []; omega) | (simp only [Bool.or_eq_true, Bool.and_eq_true, Bool.not_eq_true', decide_eq_true_eq, decide_eq_false_iff_not]; grind))⟩
       ·refine WO_same (v := (.pointer (some ⟨w.heap.size, 4, none⟩))) rfl (by kernel_rfl) ?_
        refine WO_load (a := ⟨w.heap.size, 4, none⟩) (v := sv) rfl rfl Tryd.underlying37 rfl (cell_of (um2.keep (um1.keep (n6.keep e1) (by first | assumption | omega | (simp; omega))) (by first | assumption | omega | (simp; omega))) rfl) ?_
        refine WO_lenrow (v := sv) (m := args.length) (sz := 5) rfl rfl (hr.ext (um2.below (um1.below (n6.below (n1.below (Below.refl w.heap.size w) (Below.refl w.heap.size w).size) (n1.below (Below.refl w.heap.size w) (Below.refl w.heap.size w).size).size) (by omega)) (by omega))) Tryd.underlying37 ?_
        refine WO_pure (v := (.bool (decide ((args.length : Int) < 2)))) rfl rfl ?_
        refine WO_pure (v := (.bool (decide ((args.length : Int) < 2)))) rfl rfl ?_
        refine WO_pure (v := (.bool (decide ((args.length : Int) < 2)))) rfl rfl ?_
        refine WO_splitp 82 (p := (args.length : Int) < 2) (by exact rfl) (fun c15 => ?_) (fun c15 => ?_)
        ·refine WO_pass rfl ?_
         refine WO_pass rfl ?_
         refine WO_pass rfl ?_
         refine WO_pass rfl ?_
         refine WO_pass rfl ?_
         refine WO_pass rfl ?_
         refine WO_pass rfl ?_
         refine WO_pass rfl ?_
         refine WO_pass rfl ?_
         refine WO_pure (v := (.bool true)) rfl rfl ?_
         refine WO_nil ?_
         exact ⟨rfl, rfl, (by show ((.bool true) : Value) = (.bool (decide ((k < 2 ∨ 6 < k ∨ nm ≠ [] ∨ op ≠ 0 ∨ ev ≠ [] ∨ args.length < 2) ∨ (0 < mostN k ∧ mostN k < (args.length : Int))))); show Value.bool _ = Value.bool _; rw [Value.bool.injEq, Bool.eq_iff_iff]; first | (simp [c10, c11, c12, c13, c14, c15]; done) | (simp [c10, c11, c12, c13, c14, c15]; omega) | (simp_all []; done) | (simp_all []; omega) | (simp only [Bool.or_eq_true, Bool.and_eq_true, Bool.not_eq_true', decide_eq_true_eq, decide_eq_false_iff_not]; grind))⟩
        ·refine WO_pure (v := (.int .i64 (mostN k))) rfl rfl ?_
         refine WO_pure (v := (.bool (decide (0 < (mostN k))))) rfl rfl ?_
         refine WO_pure (v := (.bool (decide (0 < (mostN k))))) rfl rfl ?_
         refine WO_splitp 85 (p := 0 < (mostN k)) (by exact rfl) (fun c16 => ?_) (fun c16 => ?_)
         ·refine WO_same (v := (.pointer (some ⟨w.heap.size, 4, none⟩))) rfl (by kernel_rfl) ?_
          refine WO_load (a := ⟨w.heap.size, 4, none⟩) (v := sv) rfl rfl Tryd.underlying37 rfl (cell_of (um2.keep (um1.keep (n6.keep e1) (by first | assumption | omega | (simp; omega))) (by first | assumption | omega | (simp; omega))) rfl) ?_
          refine WO_lenrow (v := sv) (m := args.length) (sz := 5) rfl rfl (hr.ext (um2.below (um1.below (n6.below (n1.below (Below.refl w.heap.size w) (Below.refl w.heap.size w).size) (n1.below (Below.refl w.heap.size w) (Below.refl w.heap.size w).size).size) (by omega)) (by omega))) Tryd.underlying37 ?_
          refine WO_pure (v := (.int .i64 (mostN k))) rfl rfl ?_
          refine WO_pure (v := (.bool (decide ((mostN k) < (args.length : Int))))) rfl rfl ?_
          refine WO_pure (v := (.bool (decide ((mostN k) < (args.length : Int))))) rfl rfl ?_
          refine WO_pure (v := (.bool (decide ((mostN k) < (args.length : Int))))) rfl rfl ?_
          refine WO_nil ?_
          exact ⟨rfl, rfl, (by show ((.bool (decide ((mostN k) < (args.length : Int)))) : Value) = (.bool (decide ((k < 2 ∨ 6 < k ∨ nm ≠ [] ∨ op ≠ 0 ∨ ev ≠ [] ∨ args.length < 2) ∨ (0 < mostN k ∧ mostN k < (args.length : Int))))); show Value.bool _ = Value.bool _; rw [Value.bool.injEq, Bool.eq_iff_iff]; first | (simp [c10, c11, c12, c13, c14, c15, c16]; done) | (simp [c10, c11, c12, c13, c14, c15, c16]; omega) | (simp_all []; done) | (simp_all []; omega) | (simp only [Bool.or_eq_true, Bool.and_eq_true, Bool.not_eq_true', decide_eq_true_eq, decide_eq_false_iff_not]; grind))⟩
         ·refine WO_pass rfl ?_
          refine WO_pass rfl ?_
          refine WO_pass rfl ?_
          refine WO_pass rfl ?_
          refine WO_pass rfl ?_
          refine WO_pure (v := (.bool false)) rfl rfl ?_
          refine WO_pure (v := (.bool false)) rfl rfl ?_
          refine WO_nil ?_
          exact ⟨rfl, rfl, (by show ((.bool false) : Value) = (.bool (decide ((k < 2 ∨ 6 < k ∨ nm ≠ [] ∨ op ≠ 0 ∨ ev ≠ [] ∨ args.length < 2) ∨ (0 < mostN k ∧ mostN k < (args.length : Int))))); show Value.bool _ = Value.bool _; rw [Value.bool.injEq, Bool.eq_iff_iff]; first | (simp [c10, c11, c12, c13, c14, c15, c16]; done) | (simp [c10, c11, c12, c13, c14, c15, c16]; omega) | (simp_all []; done) | (simp_all []; omega) | (simp only [Bool.or_eq_true, Bool.and_eq_true, Bool.not_eq_true', decide_eq_true_eq, decide_eq_false_iff_not]; grind))⟩
  ·rintro σ2 _ ⟨rfl, h2_1, h2_92⟩
   refine W_anchor (d := 1) h2_1 (W_anchor (d := 92) h2_92 (?_))
   refine W_if (p := (k < 2 ∨ 6 < k ∨ nm ≠ [] ∨ op ≠ 0 ∨ ev ≠ [] ∨ args.length < 2) ∨ (0 < mostN k ∧ mostN k < (args.length : Int))) rfl (fun c17 => ?_) (fun c17 => ?_)
   ·refine W_seq ?_
    refine W_reg ?_
    refine WO_pure (v := (.bool false)) rfl rfl ?_
    refine WO_nil ?_
    refine W_ret ?_
    refine body_ret1 rfl (v0 := (.bool false)) rfl ?_
    have hbel := (um2.below (um1.below (n6.below (n1.below (Below.refl w.heap.size w) (Below.refl w.heap.size w).size) (n1.below (Below.refl w.heap.size w) (Below.refl w.heap.size w).size).size) (by omega)) (by omega))
    exact ⟨by unfold formB; rw [if_neg c1, form_bad, decide_eq_true c17]; rfl, hbel⟩
   ·refine W_skip ?_
    refine W_seq ?_
    refine W_reg ?_
    refine WO_same (v := (.pointer (some ⟨w.heap.size, 4, none⟩))) rfl (by kernel_rfl) ?_
    refine WO_load (a := ⟨w.heap.size, 4, none⟩) (v := sv) rfl rfl Tryd.underlying37 rfl (cell_of (um2.keep (um1.keep (n6.keep e1) (by first | assumption | omega | (simp; omega))) (by first | assumption | omega | (simp; omega))) rfl) ?_
    refine WO_same (v := (.func (.func 65) #[] #[.pointer (some ⟨w.heap.size, 0, none⟩)])) rfl (by kernel_rfl) ?_
    refine WO_call rfl (by exact en_64) (containsD_any sv args css 65 (List.toArray [.pointer (some ⟨w.heap.size, 0, none⟩)]) (formP k) _ (hr.ext (um2.below (um1.below (n6.below (n1.below (Below.refl w.heap.size w) (Below.refl w.heap.size w).size) (n1.below (Below.refl w.heap.size w) (Below.refl w.heap.size w).size).size) (by omega)) (by omega))) (ArgsC.ext (um2.below (um1.below (n6.below (n1.below (Below.refl w.heap.size w) (Below.refl w.heap.size w).size) (n1.below (Below.refl w.heap.size w) (Below.refl w.heap.size w).size).size) (by omega)) (by omega)) args css ha) en_65 (tells_form ih (by omega) (um2.keep (um1.keep (n6.keep e1) (by first | assumption | omega | (simp; omega))) (by first | assumption | omega | (simp; omega))) (ArgsC.ext (um2.below (um1.below (n6.below (n1.below (Below.refl w.heap.size w) (Below.refl w.heap.size w).size) (n1.below (Below.refl w.heap.size w) (Below.refl w.heap.size w).size).size) (by omega)) (by omega)) args css ha)) (by omega)) ?_
    rintro _ w7 ⟨rfl, h7⟩
    have z_w7 := h7.size
    refine WO_pure (v := (.bool (!(args.any (formP k))))) rfl rfl ?_
    refine WO_pure (v := (.bool (!(args.any (formP k))))) rfl rfl ?_
    refine WO_nil ?_
    refine W_ret ?_
    refine body_ret1 rfl (v0 := (.bool (!(args.any (formP k))))) rfl ?_
    have hbel := (below_ext (um2.below (um1.below (n6.below (n1.below (Below.refl w.heap.size w) (Below.refl w.heap.size w).size) (n1.below (Below.refl w.heap.size w) (Below.refl w.heap.size w).size).size) (by omega)) (by omega)) h7)
    exact ⟨by unfold formB; rw [if_neg c1, form_bad, decide_eq_false c17, args_any]; simp, hbel⟩
theorem form_any (d : DepT) : FormSaid 49 d := by
 refine dep_all (C := fun d => FormSaid 49 d) (fun k nm op ev args ih => ?_) d
 intro w cs h hs
 unfold DepC at h
 obtain ⟨sv, css, rfl, hr, ha⟩ := h
 unfold DepT.size at hs
 exact form_step k op nm ev args sv css w hr ha (by omega) ih
end Go.Proofs.YthhacfehjgfpbaaDoor
end
