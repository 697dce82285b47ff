/- The frame of a walk as a function from slots to values: the rules of the walk in that form. No condition. -/
import Derived.Test.YtcnmbdabnppbeaaProg
import Derived.WalkKit
import Derived.WalkSpells
import Derived.WalkLawsBesides
import Derived.Deep.LoopGhost
import Derived.Deep.Quiet
import Derived.ScopeJumps
import Derived.Lib.Strings
namespace Go.Proofs.Ytcnmbdabnppbeaa
open Go Go.RowKit

def upd (σ : Nat → Value) (d : Nat) (v : Value) : Nat → Value := fun i => bif Nat.beq i d then v else σ i
def updo (σ : Nat → Value) (d : Option Nat) (v : Value) : Nat → Value := match d with | some d => upd σ d v | none => σ
def mk (n : Nat) (σ : Nat → Value) : Act := { tmps := Array.ofFn (n := n) (fun i => σ i.1), defers := [] }
def sl (n : Nat) (σ : Nat → Value) (t : Nat) : Value := bif Nat.blt t n then σ t else undef
def ev (n : Nat) (σ : Nat → Value) : Operand → Value
  | .tmp t => sl n σ t
  | .const v => v
  | .global g => .pointer (some ⟨g, 0, none⟩)
  | .func f => .func (.func f) #[] #[]
def argσ (l : List Value) : Nat → Value := fun i => l.getD i undef

theorem mk_getD (n : Nat) (σ : Nat → Value) (t : Nat) : (mk n σ).tmps.getD t undef = sl n σ t := by
  simp only [mk, sl, Array.getD_eq_getD_getElem?, Array.getElem?_ofFn]
  by_cases h : t < n
  · have : Nat.blt t n = true := by simpa [Nat.blt_eq] using h
    simp [h, this]
  · have : Nat.blt t n = false := by rw [Bool.eq_false_iff]; intro h'; exact h (by simpa [Nat.blt_eq] using h')
    simp [h, this]

theorem mk_eval (n : Nat) (σ : Nat → Value) : (mk n σ).eval = ev n σ := by
  funext x
  cases x with
  | tmp t => exact mk_getD n σ t
  | const v => rfl
  | global g => rfl
  | func f => rfl

theorem mk_put (n : Nat) (σ : Nat → Value) (d : Option Nat) (v : Value) : (mk n σ).put d v = mk n (updo σ d v) := by
  cases d with
  | none => rfl
  | some d =>
    simp only [mk, Act.put, updo]
    congr 1
    apply Array.ext
    · simp
    · intro i h1 h2
      simp only [Array.getElem_ofFn, upd]
      rw [Array.getElem_setIfInBounds (by simpa using h1)]
      by_cases h : d = i
      · subst h; simp
      · have : Nat.beq i d = false := by rw [Bool.eq_false_iff]; intro h'; exact h (Nat.eq_of_beq_eq_true h').symm
        simp [h, this]

theorem upd_same (σ : Nat → Value) (d : Nat) (v : Value) : upd σ d v d = v := by simp [upd]
theorem upd_other (σ : Nat → Value) (d i : Nat) (v : Value) (h : i ≠ d) : upd σ d v i = σ i := by
  have : Nat.beq i d = false := by rw [Bool.eq_false_iff]; intro h'; exact h (Nat.eq_of_beq_eq_true h')
  simp [upd, this]
/-- A slot's value is written out. -/
theorem upd_id {σ : Nat → Value} {d : Nat} {v : Value} (h : σ d = v) : σ = upd σ d v := by
  funext i
  by_cases hi : i = d
  · rw [hi, upd_same, h]
  · rw [upd_other _ _ _ _ hi]

def gdst : List Oper → Nat → Option Nat
  | [], _ => none
  | o :: _, 0 => o.dst
  | _ :: r, j + 1 => gdst r j
theorem gdst_eq (l : List Oper) (j : Nat) : gdst l j = (l[j]?).bind (·.dst) := by
  induction l generalizing j with
  | nil => simp [gdst]
  | cons o r ih => cases j with
    | zero => simp [gdst]
    | succ j => simp [gdst, ih]
def isB (want : Bool) : Value → Bool
  | .bool b => bif want then b else !b
  | _ => false
def gOk (ops : Array Oper) (n : Nat) (σ : Nat → Value) (g : Option (Nat × Bool)) : Bool :=
  match g with
  | none => true
  | some (j, want) => match gdst ops.toList j with
    | some t => isB want (sl n σ t)
    | none => false

theorem wanted_mk (ops : Array Oper) (n : Nat) (σ : Nat → Value) (o : Oper) : Region.wanted o (yielded ops (mk n σ).tmps) = gOk ops n σ o.guard := by
  unfold Region.wanted gOk
  cases o.guard with
  | none => rfl
  | some g =>
    obtain ⟨j, want⟩ := g
    simp only [yielded, gdst_eq, Array.getElem?_toList]
    cases (ops[j]?).bind (·.dst) with
    | none => simp
    | some t =>
      have h := mk_getD n σ t
      simp only [Option.bind_some]
      rw [Array.getD_eq_getD_getElem?] at h
      cases hx : (mk n σ).tmps[t]? with
      | none => rw [hx] at h; simp only [Option.getD_none] at h; rw [← h]; simp [isB, undef]
      | some v => rw [hx] at h; simp only [Option.getD_some] at h; rw [← h]; cases v <;> simp [isB] <;> cases want <;> simp

/-! ### The walk -/
def lift (n : Nat) (Q : Exit → (Nat → Value) → World → Prop) : Exit → Act → World → Prop := fun e a w => ∃ σ, a = mk n σ ∧ Q e σ w
def W (P : Program) (n : Nat) (c : Code) (Q : Exit → (Nat → Value) → World → Prop) (σ : Nat → Value) (w : World) : Prop := c.wp P (lift n Q) (mk n σ) w
def seqQ (K : (Nat → Value) → World → Prop) (Q : Exit → (Nat → Value) → World → Prop) : Exit → (Nat → Value) → World → Prop
  | .normal, σ, w => K σ w
  | e, σ, w => Q e σ w
def blockQ (id : Nat) (Q : Exit → (Nat → Value) → World → Prop) : Exit → (Nat → Value) → World → Prop
  | .exit i, σ, w => bif Nat.beq i id then Q .normal σ w else Q (.exit i) σ w
  | e, σ, w => Q e σ w
def WO (P : Program) (n : Nat) (ops : Array Oper) (l : List Oper) (Q : Exit → (Nat → Value) → World → Prop) (σ : Nat → Value) (w : World) : Prop :=
  wpList P ops (lift n Q) l (mk n σ) w

section
variable {P : Program} {n : Nat} {Q : Exit → (Nat → Value) → World → Prop} {σ : Nat → Value} {w : World}

theorem W_mono {c : Code} {Q' : Exit → (Nat → Value) → World → Prop} (h : W P n c Q σ w) (hq : ∀ e σ w, Q e σ w → Q' e σ w) : W P n c Q' σ w :=
  wp_mono h fun _ _ _ ⟨σ', ha, q⟩ => ⟨σ', ha, hq _ _ _ q⟩

theorem W_seq {x y : Code} (h : W P n x (seqQ (W P n y Q) Q) σ w) : W P n (.seq x y) Q σ w := by
  refine wp_seq (wp_mono h ?_)
  rintro e a w ⟨σ', rfl, q⟩
  cases e <;> first | exact q | exact ⟨σ', rfl, q⟩

/-- The ways through x meet again. -/
theorem W_cut {x y : Code} (J : (Nat → Value) → World → Prop) (h : W P n x (seqQ J Q) σ w) (r : ∀ σ w, J σ w → W P n y Q σ w) : W P n (.seq x y) Q σ w := by
  refine W_seq (W_mono h ?_)
  intro e σ w q
  cases e <;> first | exact q | exact r _ _ q

theorem W_skip (h : Q .normal σ w) : W P n .skip Q σ w := wp_skip ⟨σ, rfl, h⟩
theorem W_ret (h : Q .ret σ w) : W P n .ret Q σ w := wp_ret ⟨σ, rfl, h⟩
theorem W_exit {id : Nat} (h : Q (.exit id) σ w) : W P n (.exit id) Q σ w := wp_exit ⟨σ, rfl, h⟩
theorem W_label {l : Nat} (h : Q .normal σ w) : W P n (.label l) Q σ w := wp_label ⟨σ, rfl, h⟩
theorem W_goto {l : Nat} (h : Q (.goto l) σ w) : W P n (.goto l) Q σ w := wp_goto ⟨σ, rfl, h⟩

theorem W_block {id : Nat} {c : Code} (h : W P n c (blockQ id Q) σ w) : W P n (.block id c) Q σ w := by
  refine wp_block (wp_mono h ?_)
  rintro e a w ⟨σ', rfl, q⟩
  cases e with
  | exit i =>
    simp only [Exit.inBlock]
    simp only [blockQ] at q
    by_cases hi : i = id
    · subst hi
      have : Nat.beq i i = true := Nat.beq_refl i
      rw [this] at q
      rw [if_pos rfl]; exact ⟨σ', rfl, q⟩
    · have : Nat.beq i id = false := by rw [Bool.eq_false_iff]; intro h'; exact hi (Nat.eq_of_beq_eq_true h')
      rw [this] at q
      rw [if_neg hi]; exact ⟨σ', rfl, q⟩
  | _ => exact ⟨σ', rfl, q⟩

theorem W_true {c : Operand} {x y : Code} (hc : ev n σ c = .bool true) (h : W P n x Q σ w) : W P n (.cond c x y) Q σ w :=
  wp_cond_true (by rw [mk_eval]; exact hc) h
theorem W_false {c : Operand} {x y : Code} (hc : ev n σ c = .bool false) (h : W P n y Q σ w) : W P n (.cond c x y) Q σ w :=
  wp_cond_false (by rw [mk_eval]; exact hc) h
theorem W_cond {c : Operand} {x y : Code} {t : Bool} (hc : ev n σ c = .bool t) (ht : t = true → W P n x Q σ w) (hf : t = false → W P n y Q σ w) :
    W P n (.cond c x y) Q σ w :=
  wp_cond_split (by rw [mk_eval]; exact hc) ht hf
theorem W_if {c : Operand} {x y : Code} {p : Prop} [Decidable p] (hc : ev n σ c = .bool (decide p)) (ht : p → W P n x Q σ w) (hf : ¬ p → W P n y Q σ w) :
    W P n (.cond c x y) Q σ w :=
  W_cond hc (fun h => ht (of_decide_eq_true h)) (fun h => hf (of_decide_eq_false h))

theorem W_loop {c : Code} (I : Nat → (Nat → Value) → World → Prop) (h0 : ∃ g, I g σ w)
    (round : ∀ g σ w, I g σ w → W P n c (seqQ (fun σ w => ∃ g', g' < g ∧ I g' σ w) Q) σ w) : W P n (.loop c) Q σ w := by
  obtain ⟨g, h0⟩ := h0
  refine wp_loop_ghost (fun g a w => ∃ σ, a = mk n σ ∧ I g σ w) g ⟨σ, rfl, h0⟩ ?_
  rintro g a w ⟨σ, rfl, hI⟩
  refine wp_mono (round g σ w hI) ?_
  rintro e a w ⟨σ', rfl, q⟩
  cases e with
  | normal => obtain ⟨g', hg, hI⟩ := q; exact ⟨g', hg, σ', rfl, hI⟩
  | _ => exact ⟨σ', rfl, q⟩

/-- A scope whose jumps all go to one label. -/
def jumpQ (l : Nat) (J : (Nat → Value) → World → Prop) (Q : Exit → (Nat → Value) → World → Prop) : Exit → (Nat → Value) → World → Prop
  | .goto l', σ, w => l' = l ∧ J σ w
  | e, σ, w => Q e σ w
def noGotoQ (Q : Exit → (Nat → Value) → World → Prop) : Exit → (Nat → Value) → World → Prop
  | .goto _, _, _ => False
  | e, σ, w => Q e σ w

theorem W_scope {c : Code} (h : W P n c (noGotoQ Q) σ w) : W P n (.scope c) Q σ w := by
  refine wp_scope_straight (wp_mono h ?_)
  rintro e a w ⟨σ', rfl, q⟩
  cases e with
  | goto l => exact q.elim
  | _ => exact ⟨σ', rfl, q⟩

/-! ### A region -/
theorem W_reg {id : Nat} {l : List Oper} (h : WO P n l.toArray l Q σ w) : W P n (.region id l.toArray false) Q σ w := wp_region_lit h

theorem WO_nil {ops : Array Oper} (h : Q .normal σ w) : WO P n ops [] Q σ w := ⟨σ, rfl, h⟩

/-- One operation that runs by itself. -/
theorem WO_val {ops : Array Oper} {o : Oper} {rest : List Oper} {v : Value} {w' : World} (hg : gOk ops n σ o.guard = true)
    (h : (execOp (ev n σ) o).run P w = .ok (.value v) w') (next : WO P n ops rest Q (updo σ o.dst v) w') : WO P n ops (o :: rest) Q σ w := by
  unfold WO wpList
  rw [wanted_mk, hg, if_pos rfl]
  left
  unfold Oper.wp
  rw [mk_eval, h, Oper.upon_value, mk_put]
  exact next

theorem WO_same {ops : Array Oper} {o : Oper} {rest : List Oper} {v : Value} (hg : gOk ops n σ o.guard = true)
    (h : (execOp (ev n σ) o).run P w = .ok (.value v) w) (next : WO P n ops rest Q (updo σ o.dst v) w) : WO P n ops (o :: rest) Q σ w := WO_val hg h next

theorem WO_unit {ops : Array Oper} {o : Oper} {rest : List Oper} {w' : World} (hg : gOk ops n σ o.guard = true)
    (h : (execOp (ev n σ) o).run P w = .ok .skip w') (next : WO P n ops rest Q (updo σ o.dst undef) w') : WO P n ops (o :: rest) Q σ w := by
  unfold WO wpList
  rw [wanted_mk, hg, if_pos rfl]
  left
  unfold Oper.wp
  rw [mk_eval, h, Oper.upon_skip, mk_put]
  exact next

theorem WO_pass {ops : Array Oper} {o : Oper} {rest : List Oper} (hg : gOk ops n σ o.guard = false)
    (next : WO P n ops rest Q (updo σ o.dst undef) w) : WO P n ops (o :: rest) Q σ w := by
  unfold WO wpList
  rw [wanted_mk, hg, if_neg (by simp)]
  rw [mk_put]
  exact next

theorem WO_panic {ops : Array Oper} {o : Oper} {rest : List Oper} {v : Value} {w' : World} (hg : gOk ops n σ o.guard = true)
    (h : (execOp (ev n σ) o).run P w = .halt (.panic v) w') (next : Q (.panic [{ v, recovered := false }]) σ w') : WO P n ops (o :: rest) Q σ w := by
  unfold WO wpList
  rw [wanted_mk, hg, if_pos rfl]
  left
  unfold Oper.wp
  rw [mk_eval, h, Oper.upon_panic]
  exact ⟨σ, rfl, next⟩

/-- A call, by the callee's contract. -/
theorem WO_enter {ops : Array Oper} {o : Oper} {rest : List Oper} {f : FuncId} {args : Array Value} {w' : World} {R : Ending → World → Prop} (hg : gOk ops n σ o.guard = true)
    (h : (execOp (ev n σ) o).run P w = .ok (.enter f args) w') (hc : Calls P f args w' R)
    (next : ∀ v w'', R (.returned v) w'' → WO P n ops rest Q (updo σ o.dst v) w'')
    (nop : ∀ ch w'', R (.panicked ch) w'' → Q (.panic ch) σ w'')
    (noo : ∀ w'', ¬ R .outgrown w'') : WO P n ops (o :: rest) Q σ w := by
  unfold WO wpList
  rw [wanted_mk, hg, if_pos rfl]
  left
  unfold Oper.wp
  rw [mk_eval, h, Oper.upon_enter]
  refine hc.mono ?_
  intro e w'' hR
  cases e with
  | returned v => show wpList _ _ _ _ _ _; rw [mk_put]; exact next v w'' hR
  | panicked ch => exact ⟨σ, rfl, nop ch w'' hR⟩
  | outgrown => exact (noo w'' hR).elim

/-- A slot that holds a Boolean: its two cases, the slot written out. -/
theorem WO_split {ops : Array Oper} {l : List Oper} (t : Nat) {b : Bool} (h : σ t = .bool b) (ht : b = true → WO P n ops l Q (upd σ t (.bool true)) w)
    (hf : b = false → WO P n ops l Q (upd σ t (.bool false)) w) : WO P n ops l Q σ w := by
  rw [upd_id h]
  cases b
  · exact hf rfl
  · exact ht rfl
theorem WO_splitp {ops : Array Oper} {l : List Oper} (t : Nat) {p : Prop} [Decidable p] (h : σ t = .bool (decide p)) (ht : p → WO P n ops l Q (upd σ t (.bool true)) w)
    (hf : ¬ p → WO P n ops l Q (upd σ t (.bool false)) w) : WO P n ops l Q σ w :=
  WO_split t h (fun h => ht (of_decide_eq_true h)) (fun h => hf (of_decide_eq_false h))
/-- A value that is one by an equation. -/
theorem WO_eq {ops : Array Oper} {l : List Oper} (t : Nat) {v v' : Value} (h : σ t = v) (e : v = v') (k : WO P n ops l Q (upd σ t v') w) : WO P n ops l Q σ w := by
  rw [upd_id (h.trans e)]; exact k

end

/-! ### Operations that touch no memory -/
abbrev S (l : List UInt8) : Value := .string ⟨l.toArray⟩

def pureBin (op : BinOp) (x y : Value) : Option Value :=
  match x, y with
  | .int k a, .int k' b => if k = k' then (match op with
      | .eql => some (.bool (decide (a = b)))
      | .neq => some (.bool (!decide (a = b)))
      | .lss => some (.bool (decide (a < b)))
      | .leq => some (.bool (decide (a ≤ b)))
      | .gtr => some (.bool (decide (b < a)))
      | .geq => some (.bool (decide (b ≤ a)))
      | .add => some (.int k (k.wrap (a + b)))
      | .sub => some (.int k (k.wrap (a - b)))
      | .mul => some (.int k (k.wrap (a * b)))
      | _ => none) else none
  | _, _ => none

def pureOp (n : Nat) (σ : Nat → Value) : Op → Option Value
  | .move x => some (ev n σ x)
  | .assign x => some (ev n σ x)
  | .pick c a b => match ev n σ c with
    | .bool t => some (bif t then ev n σ a else ev n σ b)
    | _ => none
  | .binOp op _ x y _ => pureBin op (ev n σ x) (ev n σ y)
  | .unOp .not _ x => match ev n σ x with
    | .bool b => some (.bool (!b))
    | _ => none
  | .unOp .neg _ x => match ev n σ x with
    | .int k a => some (.int k (k.wrap (0 - a)))
    | _ => none
  | .extract x i => match ev n σ x with
    | .tuple vs => vs[i]?
    | _ => none
  | .nilCheck x => match ev n σ x with
    | .pointer (some a) => some (.pointer (some a))
    | _ => none
  | _ => none

theorem pure_run {P : Program} {n : Nat} {σ : Nat → Value} {w : World} {o : Oper} {v : Value} (h : pureOp n σ o.op = some v) : (execOp (ev n σ) o).run P w = .ok (.value v) w := by
  obtain ⟨dst, op, type, pos, after, guard⟩ := o
  cases op <;> simp only [pureOp, reduceCtorEq] at h
  case move x => simp only [Option.some.injEq] at h; subst h; rfl
  case assign x => simp only [Option.some.injEq] at h; subst h; rfl
  case pick c a b =>
    cases hc : ev n σ c <;> rw [hc] at h <;> simp only [reduceCtorEq, Option.some.injEq] at h
    rename_i t
    subst h
    cases t <;> simp [execOp, hc, go_sem]
  case binOp op xt x y yt =>
    cases hx : ev n σ x <;> cases hy : ev n σ y <;> rw [hx, hy] at h <;> simp only [pureBin, reduceCtorEq] at h
    rename_i k a k' b
    split at h
    · rename_i hk; subst hk
      cases op <;> simp only [reduceCtorEq, Option.some.injEq] at h <;> subst h <;> simp [execOp, hx, hy, eqGuard, binOp, go_sem] <;> first | rfl | (rw [Bool.eq_iff_iff]; simp)
    · simp at h
  case unOp op xt x =>
    cases op <;> cases hx : ev n σ x <;> simp only [hx, reduceCtorEq, Option.some.injEq] at h <;> subst h <;> simp [execOp, hx, go_sem]
  case extract x i =>
    cases hx : ev n σ x <;> simp only [hx, reduceCtorEq] at h
    simp [execOp, hx, Instr.extract, h, go_sem]
  case nilCheck x =>
    cases hx : ev n σ x <;> simp only [hx, reduceCtorEq] at h
    rename_i a
    cases a <;> simp only [reduceCtorEq, Option.some.injEq] at h
    subst h
    simp [execOp, hx, go_sem]

section
variable {P : Program} {n : Nat} {Q : Exit → (Nat → Value) → World → Prop} {σ : Nat → Value} {w : World}
theorem WO_pure {ops : Array Oper} {o : Oper} {rest : List Oper} {v : Value} (hg : gOk ops n σ o.guard = true) (h : pureOp n σ o.op = some v)
    (next : WO P n ops rest Q (updo σ o.dst v) w) : WO P n ops (o :: rest) Q σ w := WO_val hg (pure_run h) next
end

section
variable {P : Program} {n : Nat} {Q : Exit → (Nat → Value) → World → Prop} {σ : Nat → Value} {w : World}

theorem W_anchor {c : Code} {d : Nat} {v : Value} (h : σ d = v) (k : W P n c Q (upd σ d v) w) : W P n c Q σ w := by
  rw [upd_id h]; exact k
theorem WO_anchor {ops : Array Oper} {l : List Oper} {d : Nat} {v : Value} (h : σ d = v) (k : WO P n ops l Q (upd σ d v) w) : WO P n ops l Q σ w := by
  rw [upd_id h]; exact k

/-! ### Calls -/
def Ret (T : Value → World → Prop) (e : Ending) (w : World) : Prop := ∃ v, e = .returned v ∧ T v w
theorem Ret.intro {T : Value → World → Prop} {v : Value} {w : World} (h : T v w) : Ret T (.returned v) w := ⟨v, rfl, h⟩
theorem Ret.mono {T T' : Value → World → Prop} {e : Ending} {w : World} (h : Ret T e w) (f : ∀ v w, T v w → T' v w) : Ret T' e w := by
  obtain ⟨v, he, hv⟩ := h; exact ⟨v, he, f _ _ hv⟩

def bodyQ (P : Program) (n : Nat) (fn : Func) (R : Ending → World → Prop) : Exit → (Nat → Value) → World → Prop
  | .normal, σ, w | .ret, σ, w => ∃ v, (results fn (mk n σ).tmps).run P w = .ok v w ∧ R (.returned v) w
  | .panic ch, _, w => R (.panicked ch) w
  | .outgrown, _, w => R .outgrown w
  | _, _, _ => False

theorem calls_W {f : FuncId} {fn : Func} {c : Code} {args : List Value} {R : Ending → World → Prop} (hf : P.funcs[f]? = some fn) (hb : fn.body = some c) (hn : fn.ntmps = n)
    (h : W P n c (bodyQ P n fn R) (argσ args) w) (hl : Nat.ble args.length n = true := by rfl) : Calls P f args.toArray w R := by
  have ha : args.length ≤ n := Nat.le_of_ble_eq_true hl
  refine calls_of_wp hf hb ?_
  have e : ({ tmps := args.toArray ++ Array.replicate (fn.ntmps - args.toArray.size) undef, defers := [] } : Act) = mk n (argσ args) := by
    unfold mk
    congr 1
    apply Array.ext
    · simp; omega
    · intro i h1 h2
      simp only [Array.getElem_ofFn, argσ]
      rw [Array.getElem_append]
      by_cases hi : i < args.length
      · simp [hi, List.getD_eq_getElem?_getD]
      · simp [hi, List.getD_eq_getElem?_getD]
  rw [e]
  refine wp_mono h ?_
  rintro e a w ⟨σ', rfl, q⟩
  cases e with
  | normal => exact ⟨rfl, q⟩
  | ret => exact ⟨rfl, q⟩
  | panic ch => exact ⟨rfl, q⟩
  | outgrown => exact q
  | exit id => exact q.elim
  | goto l => exact q.elim

theorem body_ret1 {fn : Func} {T : Value → World → Prop} {t : Nat} {v0 : Value} (hr : fn.results = #[.tmp t]) (h0 : sl n σ t = v0) (h : T v0 w) :
    bodyQ P n fn (Ret T) .ret σ w := by
  refine ⟨v0, ?_, ⟨v0, rfl, h⟩⟩
  rw [results_tmp hr, mk_getD, h0]
theorem body_ret2 {fn : Func} {T : Value → World → Prop} {t u : Nat} {v0 v1 : Value} (hr : fn.results = #[.tmp t, .tmp u]) (h0 : sl n σ t = v0) (h1 : sl n σ u = v1)
    (h : T (.tuple #[v0, v1]) w) : bodyQ P n fn (Ret T) .ret σ w := by
  refine ⟨_, ?_, ⟨_, rfl, h⟩⟩
  rw [results_tmp2 hr, mk_getD, mk_getD, h0, h1]
theorem body_ret3 {fn : Func} {T : Value → World → Prop} {t u s : Nat} {v0 v1 v2 : Value} (hr : fn.results = #[.tmp t, .tmp u, .tmp s]) (h0 : sl n σ t = v0) (h1 : sl n σ u = v1) (h2 : sl n σ s = v2)
    (h : T (.tuple #[v0, v1, v2]) w) : bodyQ P n fn (Ret T) .ret σ w := by
  refine ⟨_, ?_, ⟨_, rfl, h⟩⟩
  have e0 := mk_getD n σ t; have e1 := mk_getD n σ u; have e2 := mk_getD n σ s
  rw [Array.getD_eq_getD_getElem?] at e0 e1 e2
  simp only [results, hr]
  simp [e0, e1, e2, h0, h1, h2]
theorem body_ret0 {fn : Func} {T : Value → World → Prop} {e : Exit} (he : e = .normal ∨ e = .ret) (hr : fn.results = #[]) (h : T (.tuple #[]) w) : bodyQ P n fn (Ret T) e σ w := by
  rcases he with rfl | rfl <;> exact ⟨_, results_none hr _ _ _, ⟨_, rfl, h⟩⟩

def Enters (P : Program) (f : FuncId) : Prop := ∀ args w, (callFunc f args).run P w = .ok (.enter f args) w

theorem enters_of {P : Program} {f : FuncId} {fn : Func} {c : Code} (hf : P.funcs[f]? = some fn) (hname : (fn.name == "runtime.NumGoroutine") = false) (hb : fn.body = some c) : Enters P f := by
  intro args w
  have h1 : fn.name ≠ "runtime.NumGoroutine" := by simpa using hname
  simp [callFunc, hf, h1, hb, mark, go_sem]

theorem ret_of {P : Program} {f : FuncId} {args : Array Value} {w : World} {v : Value} (h : Calls P f args w fun e w' => e = .returned v ∧ w' = w) : Calls P f args w (Ret fun v' w' => v' = v ∧ w = w') :=
  h.mono fun _ _ ⟨he, hw⟩ => ⟨v, he, rfl, hw.symm⟩
theorem ret_of' {P : Program} {f : FuncId} {args : Array Value} {w : World} {v : Value} {T : World → Prop} (h : Calls P f args w fun e w' => e = .returned v ∧ T w') : Calls P f args w (Ret fun v' w' => v' = v ∧ T w') :=
  h.mono fun _ _ ⟨he, hw⟩ => ⟨v, he, rfl, hw⟩

/-- A call of a function by its name. -/
theorem WO_call {ops : Array Oper} {rest : List Oper} {f : FuncId} {ar : Array Operand} {ts : Array TypeId} {ty : TypeId} {ps : String} {dst : Option Tmp} {af : Array Edge} {g : Option (Nat × Bool)} {T : Value → World → Prop}
    (hg : gOk ops n σ g = true) (he : Enters P f) (hc : Calls P f (ar.toList.map (ev n σ)).toArray w (Ret T))
    (next : ∀ v w', T v w' → WO P n ops rest Q (updo σ dst v) w') :
    WO P n ops (⟨dst, .call { callee := .value (.func f), args := ar, argTypes := ts }, ty, ps, af, g⟩ :: rest) Q σ w := by
  refine WO_enter (R := Ret T) (w' := w) (f := f) (args := (ar.toList.map (ev n σ)).toArray) hg ?_ hc ?_ ?_ ?_
  · have : ar.map (ev n σ) = (ar.toList.map (ev n σ)).toArray := by
      apply Array.ext'; simp
    simp only [execOp, resolve, ev, this]
    have := he (List.map (ev n σ) ar.toList).toArray w
    simp [Deferred.ofValue, invoke, go_sem, this]
  · rintro v w'' ⟨v', hv, hT⟩; cases hv; exact next v w'' hT
  · rintro ch w'' ⟨v', hv, hT⟩; cases hv
  · rintro w'' ⟨v', hv, hT⟩; cases hv

/-- A call of a function value. -/
theorem WO_callv {ops : Array Oper} {rest : List Oper} {x : Operand} {f : FuncId} {cap : Array Value} {ar : Array Operand} {ts : Array TypeId} {ty : TypeId} {ps : String} {dst : Option Tmp} {af : Array Edge} {g : Option (Nat × Bool)} {T : Value → World → Prop}
    (hg : gOk ops n σ g = true) (hx : ev n σ x = .func (.func f) #[] cap) (he : Enters P f) (hc : Calls P f (ar.toList.map (ev n σ) ++ cap.toList).toArray w (Ret T))
    (next : ∀ v w', T v w' → WO P n ops rest Q (updo σ dst v) w') :
    WO P n ops (⟨dst, .call { callee := .value x, args := ar, argTypes := ts }, ty, ps, af, g⟩ :: rest) Q σ w := by
  refine WO_enter (R := Ret T) (w' := w) (f := f) (args := (ar.toList.map (ev n σ) ++ cap.toList).toArray) hg ?_ hc ?_ ?_ ?_
  · have h1 : ar.map (ev n σ) = (ar.toList.map (ev n σ)).toArray := by
      apply Array.ext'; simp
    have h2 : (ar.toList.map (ev n σ) ++ cap.toList).toArray = (ar.toList.map (ev n σ)).toArray ++ cap := by
      apply Array.ext'; simp
    have := he ((List.map (ev n σ) ar.toList).toArray ++ cap) w
    simp only [execOp, resolve, hx, h1, h2]
    simp [Deferred.ofValue, invoke, go_sem, this]
  · rintro v w'' ⟨v', hv, hT⟩; cases hv; exact next v w'' hT
  · rintro ch w'' ⟨v', hv, hT⟩; cases hv
  · rintro w'' ⟨v', hv, hT⟩; cases hv

/-! ### Numbers -/
def kLo : IntKind → Int
  | .i8 => -128 | .i16 => -32768 | .i32 => -2147483648 | .i64 => -9223372036854775808
  | .u8 | .u16 | .u32 | .u64 => 0
def kHi : IntKind → Int
  | .i8 => 127 | .i16 => 32767 | .i32 => 2147483647 | .i64 => 9223372036854775807
  | .u8 => 255 | .u16 => 65535 | .u32 => 4294967295 | .u64 => 18446744073709551615
theorem wrap_id (k : IntKind) (a : Int) (h : kLo k ≤ a ∧ a ≤ kHi k) : k.wrap a = a := by
  obtain ⟨h1, h2⟩ := h
  cases k <;> simp only [kLo, kHi] at h1 h2 <;> simp [IntKind.wrap, IntKind.signed, IntKind.bits] <;> omega

theorem R_add {dst : Option Tmp} {x y : Operand} {t t' ty : TypeId} {ps : String} {af : Array Edge} {g : Option (Nat × Bool)} {k : IntKind} {a b v : Int}
    (hx : ev n σ x = .int k a) (hy : ev n σ y = .int k b) (hr : kLo k ≤ a + b ∧ a + b ≤ kHi k) (hv : a + b = v := by rfl) : (execOp (ev n σ) ⟨dst, .binOp .add t x y t', ty, ps, af, g⟩).run P w = .ok (.value (.int k v)) w :=
  pure_run (by subst hv; simp [pureOp, hx, hy, pureBin, wrap_id k _ hr])
theorem WO_add {ops : Array Oper} {rest : List Oper} {dst : Option Tmp} {x y : Operand} {t t' ty : TypeId} {ps : String} {af : Array Edge} {g : Option (Nat × Bool)} {k : IntKind} {a b v : Int}
    (hg : gOk ops n σ g = true) (hx : ev n σ x = .int k a) (hy : ev n σ y = .int k b) (hr : kLo k ≤ a + b ∧ a + b ≤ kHi k)
    (next : WO P n ops rest Q (updo σ dst (.int k v)) w) (hv : a + b = v := by rfl) : WO P n ops (⟨dst, .binOp .add t x y t', ty, ps, af, g⟩ :: rest) Q σ w :=
  WO_val hg (R_add hx hy hr hv) next
theorem R_sub {dst : Option Tmp} {x y : Operand} {t t' ty : TypeId} {ps : String} {af : Array Edge} {g : Option (Nat × Bool)} {k : IntKind} {a b v : Int}
    (hx : ev n σ x = .int k a) (hy : ev n σ y = .int k b) (hr : kLo k ≤ a - b ∧ a - b ≤ kHi k) (hv : a - b = v := by rfl) : (execOp (ev n σ) ⟨dst, .binOp .sub t x y t', ty, ps, af, g⟩).run P w = .ok (.value (.int k v)) w :=
  pure_run (by subst hv; simp [pureOp, hx, hy, pureBin, wrap_id k _ hr])
theorem WO_sub {ops : Array Oper} {rest : List Oper} {dst : Option Tmp} {x y : Operand} {t t' ty : TypeId} {ps : String} {af : Array Edge} {g : Option (Nat × Bool)} {k : IntKind} {a b v : Int}
    (hg : gOk ops n σ g = true) (hx : ev n σ x = .int k a) (hy : ev n σ y = .int k b) (hr : kLo k ≤ a - b ∧ a - b ≤ kHi k)
    (next : WO P n ops rest Q (updo σ dst (.int k v)) w) (hv : a - b = v := by rfl) : WO P n ops (⟨dst, .binOp .sub t x y t', ty, ps, af, g⟩ :: rest) Q σ w :=
  WO_val hg (R_sub hx hy hr hv) next
theorem R_neg {dst : Option Tmp} {x : Operand} {t ty : TypeId} {ps : String} {af : Array Edge} {g : Option (Nat × Bool)} {k : IntKind} {a v : Int}
    (hx : ev n σ x = .int k a) (hr : kLo k ≤ 0 - a ∧ 0 - a ≤ kHi k) (hv : 0 - a = v := by omega) : (execOp (ev n σ) ⟨dst, .unOp .neg t x, ty, ps, af, g⟩).run P w = .ok (.value (.int k v)) w :=
  pure_run (by subst hv; simp only [pureOp, hx, wrap_id k _ hr])
theorem WO_neg {ops : Array Oper} {rest : List Oper} {dst : Option Tmp} {x : Operand} {t ty : TypeId} {ps : String} {af : Array Edge} {g : Option (Nat × Bool)} {k : IntKind} {a v : Int}
    (hg : gOk ops n σ g = true) (hx : ev n σ x = .int k a) (hr : kLo k ≤ 0 - a ∧ 0 - a ≤ kHi k)
    (next : WO P n ops rest Q (updo σ dst (.int k v)) w) (hv : 0 - a = v := by omega) : WO P n ops (⟨dst, .unOp .neg t x, ty, ps, af, g⟩ :: rest) Q σ w :=
  WO_val hg (R_neg hx hr hv) next
theorem R_mul {dst : Option Tmp} {x y : Operand} {t t' ty : TypeId} {ps : String} {af : Array Edge} {g : Option (Nat × Bool)} {k : IntKind} {a b v : Int}
    (hx : ev n σ x = .int k a) (hy : ev n σ y = .int k b) (hr : kLo k ≤ a * b ∧ a * b ≤ kHi k) (hv : a * b = v := by rfl) : (execOp (ev n σ) ⟨dst, .binOp .mul t x y t', ty, ps, af, g⟩).run P w = .ok (.value (.int k v)) w :=
  pure_run (by subst hv; simp [pureOp, hx, hy, pureBin, wrap_id k _ hr])
theorem WO_mul {ops : Array Oper} {rest : List Oper} {dst : Option Tmp} {x y : Operand} {t t' ty : TypeId} {ps : String} {af : Array Edge} {g : Option (Nat × Bool)} {k : IntKind} {a b v : Int}
    (hg : gOk ops n σ g = true) (hx : ev n σ x = .int k a) (hy : ev n σ y = .int k b) (hr : kLo k ≤ a * b ∧ a * b ≤ kHi k)
    (next : WO P n ops rest Q (updo σ dst (.int k v)) w) (hv : a * b = v := by rfl) : WO P n ops (⟨dst, .binOp .mul t x y t', ty, ps, af, g⟩ :: rest) Q σ w :=
  WO_val hg (R_mul hx hy hr hv) next
/-- A conversion from an integer kind to one that holds the number. -/
theorem R_conv {dst : Option Tmp} {x : Operand} {t t' ty : TypeId} {ps : String} {af : Array Edge} {g : Option (Nat × Bool)} {k k' : IntKind} {a v : Int}
    (hx : ev n σ x = .int k a) (h1 : P.underlying t = some (.int k)) (h2 : P.underlying t' = some (.int k')) (hr : kLo k' ≤ a ∧ a ≤ kHi k')
    (hv : a = v := by rfl) :
    (execOp (ev n σ) ⟨dst, .convert t t' x, ty, ps, af, g⟩).run P w = .ok (.value ((.int k' v))) w := by
  subst hv
  simp [execOp, hx, convert, run_underlying h1, run_underlying h2, Conv.intToInt, wrap_id k' _ hr, go_sem]

/-- Booleans compared. -/
theorem run_equalIn_bool {P : Program} {t : TypeId} (w : World) (d : Nat) (a b : Bool) (ht : P.underlying t = some .bool) : (Op.equalIn (d + 1) t (.bool a) (.bool b)).run P w = .ok (a == b) w := by
  simp [Op.equalIn, run_underlying ht]
theorem run_beql {P : Program} {t : TypeId} (w : World) (a b : Bool) (ht : P.underlying t = some .bool) : (binOp .eql t (.bool a) (.bool b)).run P w = .ok (.bool (a == b)) w := by
  simp only [binOp]
  simp [Op.equal, Op.maxDepth, run_equalIn_bool w 9999 a b ht]
theorem run_bneq {P : Program} {t : TypeId} (w : World) (a b : Bool) (ht : P.underlying t = some .bool) : (binOp .neq t (.bool a) (.bool b)).run P w = .ok (.bool (!(a == b))) w := by
  simp only [binOp]
  simp [Op.equal, Op.maxDepth, run_equalIn_bool w 9999 a b ht]
theorem WO_conv {ops : Array Oper} {rest : List Oper} {dst : Option Tmp} {x : Operand} {t t' ty : TypeId} {ps : String} {af : Array Edge} {g : Option (Nat × Bool)} {k k' : IntKind} {a v : Int}
    (hg : gOk ops n σ g = true) (hx : ev n σ x = .int k a) (h1 : P.underlying t = some (.int k)) (h2 : P.underlying t' = some (.int k')) (hr : kLo k' ≤ a ∧ a ≤ kHi k')
    (next : WO P n ops rest Q (updo σ dst ((.int k' v))) w) (hv : a = v := by rfl) : WO P n ops (⟨dst, .convert t t' x, ty, ps, af, g⟩ :: rest) Q σ w :=
  WO_val hg (R_conv hx h1 h2 hr hv) next
theorem R_beql {dst : Option Tmp} {x y : Operand} {t t' ty : TypeId} {ps : String} {af : Array Edge} {g : Option (Nat × Bool)} {a b : Bool}
    (hx : ev n σ x = .bool a) (hy : ev n σ y = .bool b) (ht : P.underlying t = some .bool)
     :
    (execOp (ev n σ) ⟨dst, .binOp .eql t x y t', ty, ps, af, g⟩).run P w = .ok (.value ((.bool (a == b)))) w := by
  simp [execOp, hx, hy, eqGuard, run_beql w a b ht, go_sem]
theorem WO_beql {ops : Array Oper} {rest : List Oper} {dst : Option Tmp} {x y : Operand} {t t' ty : TypeId} {ps : String} {af : Array Edge} {g : Option (Nat × Bool)} {a b : Bool}
    (hg : gOk ops n σ g = true) (hx : ev n σ x = .bool a) (hy : ev n σ y = .bool b) (ht : P.underlying t = some .bool)
    (next : WO P n ops rest Q (updo σ dst ((.bool (a == b)))) w) : WO P n ops (⟨dst, .binOp .eql t x y t', ty, ps, af, g⟩ :: rest) Q σ w :=
  WO_val hg (R_beql hx hy ht) next
theorem R_bneq {dst : Option Tmp} {x y : Operand} {t t' ty : TypeId} {ps : String} {af : Array Edge} {g : Option (Nat × Bool)} {a b : Bool}
    (hx : ev n σ x = .bool a) (hy : ev n σ y = .bool b) (ht : P.underlying t = some .bool)
     :
    (execOp (ev n σ) ⟨dst, .binOp .neq t x y t', ty, ps, af, g⟩).run P w = .ok (.value ((.bool (!(a == b))))) w := by
  simp [execOp, hx, hy, eqGuard, run_bneq w a b ht, go_sem]

/-! ### Strings -/
theorem S_toList (l : List UInt8) : (⟨l.toArray⟩ : ByteArray).toList = l := by rw [Lib.toList_data]
theorem S_size (l : List UInt8) : (⟨l.toArray⟩ : ByteArray).size = l.length := by simp [ByteArray.size]
theorem S_eta (s : ByteArray) : Value.string s = S s.data.toList := by simp [S]

def byteAt (l : List UInt8) (j : Nat) : UInt8 := l.getD j 0
theorem byteAt_eq {l : List UInt8} {j : Nat} (h : j < l.length) : byteAt l j = l[j] := by
  unfold byteAt; rw [List.getD_eq_getElem?_getD, List.getElem?_eq_getElem h]; rfl
theorem byteAt_lt (l : List UInt8) (j : Nat) : (byteAt l j).toNat < 256 := UInt8.toNat_lt _

theorem WO_bneq {ops : Array Oper} {rest : List Oper} {dst : Option Tmp} {x y : Operand} {t t' ty : TypeId} {ps : String} {af : Array Edge} {g : Option (Nat × Bool)} {a b : Bool}
    (hg : gOk ops n σ g = true) (hx : ev n σ x = .bool a) (hy : ev n σ y = .bool b) (ht : P.underlying t = some .bool)
    (next : WO P n ops rest Q (updo σ dst ((.bool (!(a == b))))) w) : WO P n ops (⟨dst, .binOp .neq t x y t', ty, ps, af, g⟩ :: rest) Q σ w :=
  WO_val hg (R_bneq hx hy ht) next
theorem R_slen {dst : Option Tmp} {x : Operand} {t ty : TypeId} {ps : String} {af : Array Edge} {g : Option (Nat × Bool)} {l : List UInt8}
    (hx : ev n σ x = S l) (ht : P.underlying t = some .string)
     :
    (execOp (ev n σ) ⟨dst, .call { callee := .builtin .len, args := #[x], argTypes := #[t] }, ty, ps, af, g⟩).run P w = .ok (.value ((.int .i64 (l.length : Int)))) w := by
  simp [execOp, resolve, invoke, builtin, Builtin.len_, hx, S, run_underlying ht, go_sem, S_size, goInt]
theorem WO_slen {ops : Array Oper} {rest : List Oper} {dst : Option Tmp} {x : Operand} {t ty : TypeId} {ps : String} {af : Array Edge} {g : Option (Nat × Bool)} {l : List UInt8}
    (hg : gOk ops n σ g = true) (hx : ev n σ x = S l) (ht : P.underlying t = some .string)
    (next : WO P n ops rest Q (updo σ dst ((.int .i64 (l.length : Int)))) w) : WO P n ops (⟨dst, .call { callee := .builtin .len, args := #[x], argTypes := #[t] }, ty, ps, af, g⟩ :: rest) Q σ w :=
  WO_val hg (R_slen hx ht) next
theorem R_sidx {dst : Option Tmp} {x i : Operand} {t ty : TypeId} {ps : String} {af : Array Edge} {g : Option (Nat × Bool)} {l : List UInt8} {k : IntKind} {a : Int} {j : Nat}
    (hx : ev n σ x = S l) (hi : ev n σ i = .int k a) (ht : P.underlying t = some .string) (hj : a = (j : Int)) (hlt : j < l.length)
     :
    (execOp (ev n σ) ⟨dst, .index t x i, ty, ps, af, g⟩).run P w = .ok (.value ((.int .u8 ((byteAt l j).toNat : Int)))) w := by
  subst hj
  have h : (⟨l.toArray⟩ : ByteArray)[j]? = some (byteAt l j) := by
    have hs : j < (⟨l.toArray⟩ : ByteArray).size := by rw [S_size]; exact hlt
    rw [getElem?_pos (⟨l.toArray⟩ : ByteArray) j hs]
    simp only [Option.some.injEq]
    rw [byteAt_eq hlt]
    rfl
  simp [execOp, Instr.index, hx, hi, S, run_underlying ht, go_sem, h]
theorem WO_sidx {ops : Array Oper} {rest : List Oper} {dst : Option Tmp} {x i : Operand} {t ty : TypeId} {ps : String} {af : Array Edge} {g : Option (Nat × Bool)} {l : List UInt8} {k : IntKind} {a : Int} {j : Nat}
    (hg : gOk ops n σ g = true) (hx : ev n σ x = S l) (hi : ev n σ i = .int k a) (ht : P.underlying t = some .string) (hj : a = (j : Int)) (hlt : j < l.length)
    (next : WO P n ops rest Q (updo σ dst ((.int .u8 ((byteAt l j).toNat : Int)))) w) : WO P n ops (⟨dst, .index t x i, ty, ps, af, g⟩ :: rest) Q σ w :=
  WO_val hg (R_sidx hx hi ht hj hlt) next
theorem R_seql {dst : Option Tmp} {x y : Operand} {t t' ty : TypeId} {ps : String} {af : Array Edge} {g : Option (Nat × Bool)} {l1 l2 : List UInt8}
    (hx : ev n σ x = S l1) (hy : ev n σ y = S l2)
     :
    (execOp (ev n σ) ⟨dst, .binOp .eql t x y t', ty, ps, af, g⟩).run P w = .ok (.value ((.bool (decide (l1 = l2))))) w := by
  simp [execOp, hx, hy, S, eqGuard, binOp, Op.stringOp, S_toList, go_sem]
  rw [Bool.eq_iff_iff]; simp
theorem WO_seql {ops : Array Oper} {rest : List Oper} {dst : Option Tmp} {x y : Operand} {t t' ty : TypeId} {ps : String} {af : Array Edge} {g : Option (Nat × Bool)} {l1 l2 : List UInt8}
    (hg : gOk ops n σ g = true) (hx : ev n σ x = S l1) (hy : ev n σ y = S l2)
    (next : WO P n ops rest Q (updo σ dst ((.bool (decide (l1 = l2))))) w) : WO P n ops (⟨dst, .binOp .eql t x y t', ty, ps, af, g⟩ :: rest) Q σ w :=
  WO_val hg (R_seql hx hy) next
theorem R_sneq {dst : Option Tmp} {x y : Operand} {t t' ty : TypeId} {ps : String} {af : Array Edge} {g : Option (Nat × Bool)} {l1 l2 : List UInt8}
    (hx : ev n σ x = S l1) (hy : ev n σ y = S l2)
     :
    (execOp (ev n σ) ⟨dst, .binOp .neq t x y t', ty, ps, af, g⟩).run P w = .ok (.value ((.bool (!decide (l1 = l2))))) w := by
  simp [execOp, hx, hy, S, eqGuard, binOp, Op.stringOp, S_toList, go_sem]
  rw [Bool.eq_iff_iff]; simp
theorem WO_sneq {ops : Array Oper} {rest : List Oper} {dst : Option Tmp} {x y : Operand} {t t' ty : TypeId} {ps : String} {af : Array Edge} {g : Option (Nat × Bool)} {l1 l2 : List UInt8}
    (hg : gOk ops n σ g = true) (hx : ev n σ x = S l1) (hy : ev n σ y = S l2)
    (next : WO P n ops rest Q (updo σ dst ((.bool (!decide (l1 = l2))))) w) : WO P n ops (⟨dst, .binOp .neq t x y t', ty, ps, af, g⟩ :: rest) Q σ w :=
  WO_val hg (R_sneq hx hy) next
theorem R_slss {dst : Option Tmp} {x y : Operand} {t t' ty : TypeId} {ps : String} {af : Array Edge} {g : Option (Nat × Bool)} {l1 l2 : List UInt8}
    (hx : ev n σ x = S l1) (hy : ev n σ y = S l2)
     :
    (execOp (ev n σ) ⟨dst, .binOp .lss t x y t', ty, ps, af, g⟩).run P w = .ok (.value ((.bool (Op.bytesLess l1 l2)))) w := by
  simp [execOp, hx, hy, S, eqGuard, binOp, Op.stringOp, S_toList, go_sem]
theorem WO_slss {ops : Array Oper} {rest : List Oper} {dst : Option Tmp} {x y : Operand} {t t' ty : TypeId} {ps : String} {af : Array Edge} {g : Option (Nat × Bool)} {l1 l2 : List UInt8}
    (hg : gOk ops n σ g = true) (hx : ev n σ x = S l1) (hy : ev n σ y = S l2)
    (next : WO P n ops rest Q (updo σ dst ((.bool (Op.bytesLess l1 l2)))) w) : WO P n ops (⟨dst, .binOp .lss t x y t', ty, ps, af, g⟩ :: rest) Q σ w :=
  WO_val hg (R_slss hx hy) next
theorem R_scat {dst : Option Tmp} {x y : Operand} {t t' ty : TypeId} {ps : String} {af : Array Edge} {g : Option (Nat × Bool)} {l1 l2 : List UInt8}
    (hx : ev n σ x = S l1) (hy : ev n σ y = S l2) (hl : l1.length + l2.length ≤ 9223372036854775807)
     :
    (execOp (ev n σ) ⟨dst, .binOp .add t x y t', ty, ps, af, g⟩).run P w = .ok (.value ((S (l1 ++ l2)))) w := by
  have h1 : ¬ (((l1.length + l2.length : Nat) : Int) > IntKind.i64.max) := by
    have : IntKind.i64.max = 9223372036854775807 := by decide
    rw [this]; omega
  have h2 : (⟨l1.toArray⟩ : ByteArray) ++ ⟨l2.toArray⟩ = ⟨(l1 ++ l2).toArray⟩ := by
    apply ByteArray.ext; simp [ByteArray.data_append]
  simp only [execOp, hx, hy, S, eqGuard, binOp, Op.stringOp, S_size, h2]
  rw [if_neg h1]
  simp [go_sem]
theorem run_sslice {P : Program} {t : TypeId} (w : World) (l : List UInt8) (lo hi : Option Value) (i j : Nat) (ht : P.underlying t = some .string)
    (h1 : (lo = none ∧ i = 0) ∨ ∃ k, lo = some (.int k (i : Int))) (h2 : (hi = none ∧ j = l.length) ∨ ∃ k, hi = some (.int k (j : Int))) (hij : i ≤ j) (hj : j ≤ l.length) :
    (Instr.slice t (S l) lo hi none).run P w = .ok (S ((l.take j).drop i)) w := by
  have he : (⟨l.toArray⟩ : ByteArray).extract i j = ⟨((l.take j).drop i).toArray⟩ := by
    apply ByteArray.ext
    simp [ByteArray.data_extract, List.drop_take]
  have e1 : (0 : Int) ≤ (j : Int) ∧ (j : Int) ≤ (l.length : Int) := by omega
  have e2 : (0 : Int) ≤ (i : Int) ∧ (i : Int) ≤ (j : Int) := by omega
  rcases h1 with ⟨rfl, rfl⟩ | ⟨k1, rfl⟩ <;> rcases h2 with ⟨rfl, rfl⟩ | ⟨k2, rfl⟩ <;>
    simp [Instr.slice, S, run_underlying ht, Instr.sliceBounds, Instr.sliceBound, asIntOf, S_size, he, e1, e2, go_sem] <;> first | done | (intro h; exfalso; omega) | (split <;> first | (exfalso; omega) | simp_all) | simp_all
theorem WO_scat {ops : Array Oper} {rest : List Oper} {dst : Option Tmp} {x y : Operand} {t t' ty : TypeId} {ps : String} {af : Array Edge} {g : Option (Nat × Bool)} {l1 l2 : List UInt8}
    (hg : gOk ops n σ g = true) (hx : ev n σ x = S l1) (hy : ev n σ y = S l2) (hl : l1.length + l2.length ≤ 9223372036854775807)
    (next : WO P n ops rest Q (updo σ dst ((S (l1 ++ l2)))) w) : WO P n ops (⟨dst, .binOp .add t x y t', ty, ps, af, g⟩ :: rest) Q σ w :=
  WO_val hg (R_scat hx hy hl) next
theorem R_sslo {dst : Option Tmp} {x y : Operand} {t ty : TypeId} {ps : String} {af : Array Edge} {g : Option (Nat × Bool)} {l : List UInt8} {k : IntKind} {a : Int} {i : Nat}
    (hx : ev n σ x = S l) (hy : ev n σ y = .int k a) (ht : P.underlying t = some .string) (ha : a = (i : Int)) (hi : i ≤ l.length)
     :
    (execOp (ev n σ) ⟨dst, .slice t x (some y) none none, ty, ps, af, g⟩).run P w = .ok (.value ((S (l.drop i)))) w := by
  subst ha
  have hr := run_sslice (P := P) w l (some (.int k (i : Int))) none i l.length ht (.inr ⟨k, rfl⟩) (.inl ⟨rfl, rfl⟩) hi (Nat.le_refl _)
  rw [List.take_length] at hr
  simp [execOp, Instr.sliceAt, run_underlying ht, hx, hy, hr, go_sem]
theorem WO_sslo {ops : Array Oper} {rest : List Oper} {dst : Option Tmp} {x y : Operand} {t ty : TypeId} {ps : String} {af : Array Edge} {g : Option (Nat × Bool)} {l : List UInt8} {k : IntKind} {a : Int} {i : Nat}
    (hg : gOk ops n σ g = true) (hx : ev n σ x = S l) (hy : ev n σ y = .int k a) (ht : P.underlying t = some .string) (ha : a = (i : Int)) (hi : i ≤ l.length)
    (next : WO P n ops rest Q (updo σ dst ((S (l.drop i)))) w) : WO P n ops (⟨dst, .slice t x (some y) none none, ty, ps, af, g⟩ :: rest) Q σ w :=
  WO_val hg (R_sslo hx hy ht ha hi) next
theorem R_sshi {dst : Option Tmp} {x y : Operand} {t ty : TypeId} {ps : String} {af : Array Edge} {g : Option (Nat × Bool)} {l : List UInt8} {k : IntKind} {a : Int} {j : Nat}
    (hx : ev n σ x = S l) (hy : ev n σ y = .int k a) (ht : P.underlying t = some .string) (ha : a = (j : Int)) (hj : j ≤ l.length)
     :
    (execOp (ev n σ) ⟨dst, .slice t x none (some y) none, ty, ps, af, g⟩).run P w = .ok (.value ((S (l.take j)))) w := by
  subst ha
  have hr := run_sslice (P := P) w l none (some (.int k (j : Int))) 0 j ht (.inl ⟨rfl, rfl⟩) (.inr ⟨k, rfl⟩) (Nat.zero_le _) hj
  rw [List.drop_zero] at hr
  simp [execOp, Instr.sliceAt, run_underlying ht, hx, hy, hr, go_sem]
theorem WO_sshi {ops : Array Oper} {rest : List Oper} {dst : Option Tmp} {x y : Operand} {t ty : TypeId} {ps : String} {af : Array Edge} {g : Option (Nat × Bool)} {l : List UInt8} {k : IntKind} {a : Int} {j : Nat}
    (hg : gOk ops n σ g = true) (hx : ev n σ x = S l) (hy : ev n σ y = .int k a) (ht : P.underlying t = some .string) (ha : a = (j : Int)) (hj : j ≤ l.length)
    (next : WO P n ops rest Q (updo σ dst ((S (l.take j)))) w) : WO P n ops (⟨dst, .slice t x none (some y) none, ty, ps, af, g⟩ :: rest) Q σ w :=
  WO_val hg (R_sshi hx hy ht ha hj) next
theorem R_sslohi {dst : Option Tmp} {x y z : Operand} {t ty : TypeId} {ps : String} {af : Array Edge} {g : Option (Nat × Bool)} {l : List UInt8} {k k' : IntKind} {a b : Int} {i j : Nat}
    (hx : ev n σ x = S l) (hy : ev n σ y = .int k a) (hz : ev n σ z = .int k' b) (ht : P.underlying t = some .string) (ha : a = (i : Int)) (hb : b = (j : Int)) (hij : i ≤ j) (hj : j ≤ l.length)
     :
    (execOp (ev n σ) ⟨dst, .slice t x (some y) (some z) none, ty, ps, af, g⟩).run P w = .ok (.value ((S ((l.take j).drop i)))) w := by
  subst ha hb
  have hr := run_sslice (P := P) w l (some (.int k (i : Int))) (some (.int k' (j : Int))) i j ht (.inr ⟨k, rfl⟩) (.inr ⟨k', rfl⟩) hij hj
  simp [execOp, Instr.sliceAt, run_underlying ht, hx, hy, hz, hr, go_sem]
theorem WO_sslohi {ops : Array Oper} {rest : List Oper} {dst : Option Tmp} {x y z : Operand} {t ty : TypeId} {ps : String} {af : Array Edge} {g : Option (Nat × Bool)} {l : List UInt8} {k k' : IntKind} {a b : Int} {i j : Nat}
    (hg : gOk ops n σ g = true) (hx : ev n σ x = S l) (hy : ev n σ y = .int k a) (hz : ev n σ z = .int k' b) (ht : P.underlying t = some .string) (ha : a = (i : Int)) (hb : b = (j : Int)) (hij : i ≤ j) (hj : j ≤ l.length)
    (next : WO P n ops rest Q (updo σ dst ((S ((l.take j).drop i)))) w) : WO P n ops (⟨dst, .slice t x (some y) (some z) none, ty, ps, af, g⟩ :: rest) Q σ w :=
  WO_val hg (R_sslohi hx hy hz ht ha hb hij hj) next
end

/-! ### Regions that draw their order -/
theorem wpQuiet_mono' {P : Program} {ops : Array Oper} {C : World → Prop} {Q Q' : Act → Prop} (hq : ∀ a, Q a → Q' a) : ∀ (l : List Oper) (a : Act), wpQuiet P ops C Q l a → wpQuiet P ops C Q' l a
  | [], a, h => hq a h
  | o :: rest, a, h => by
    unfold wpQuiet at h ⊢
    split
    · rename_i hw; rw [if_pos hw] at h
      obtain ⟨v, h1, h2⟩ := h
      exact ⟨v, h1, wpQuiet_mono' hq rest _ h2⟩
    · rename_i hw; rw [if_neg hw] at h
      exact wpQuiet_mono' hq rest _ h
/-- The text's order, in every world of a class. -/
def WQ (P : Program) (n : Nat) (ops : Array Oper) (C : World → Prop) (l : List Oper) (K : (Nat → Value) → Prop) (σ : Nat → Value) : Prop :=
  wpQuiet P ops C (fun a => ∃ σ, a = mk n σ ∧ K σ) l (mk n σ)
section
variable {P : Program} {n : Nat} {Q : Exit → (Nat → Value) → World → Prop} {K : (Nat → Value) → Prop} {σ : Nat → Value} {w : World} {C : World → Prop}
theorem W_drawC {id : Nat} {l : List Oper} (hm : P.follows .mixedOrders = true) (hB : Region.lexB .any l.toArray = true) (hC : C { w with drawn := w.drawn + 1 })
    (h : WQ P n l.toArray C l (fun σ => ∀ w', C w' → Q .normal σ w') σ) : W P n (.region id l.toArray true) Q σ w := by
  refine wp_region_quiet hm hB hC ?_
  show wpQuiet P l.toArray C (fun a' => ∀ w', C w' → lift n Q .normal a' w') l (mk n σ)
  refine wpQuiet_mono' ?_ l _ h
  rintro a ⟨σ', rfl, hK⟩ w' hw'
  exact ⟨σ', rfl, hK w' hw'⟩
/-- w' is w but for the count of draws. -/
def Drew (w w' : World) : Prop := ∃ k, w' = w.drewN k
theorem W_draw {id : Nat} {l : List Oper} (hm : P.follows .mixedOrders = true) (hB : Region.lexB .any l.toArray = true)
    (h : WQ P n l.toArray (Drew w) l (fun σ => ∀ w', Drew w w' → Q .normal σ w') σ) : W P n (.region id l.toArray true) Q σ w :=
  W_drawC hm hB ⟨1, rfl⟩ h
theorem WQ_nil {ops : Array Oper} (h : K σ) : WQ P n ops C [] K σ := ⟨σ, rfl, h⟩
theorem WQ_val {ops : Array Oper} {o : Oper} {rest : List Oper} {v : Value} (hg : gOk ops n σ o.guard = true) (h : ∀ w, C w → (execOp (ev n σ) o).run P w = .ok (.value v) w)
    (next : WQ P n ops C rest K (updo σ o.dst v)) : WQ P n ops C (o :: rest) K σ := by
  unfold WQ wpQuiet
  rw [wanted_mk, hg, if_pos rfl]
  refine ⟨v, fun w hw => ?_, ?_⟩
  · unfold Oper.quietAt; rw [mk_eval, h w hw]; exact ⟨rfl, rfl⟩
  · rw [mk_put]; exact next
theorem WQ_pass {ops : Array Oper} {o : Oper} {rest : List Oper} (hg : gOk ops n σ o.guard = false) (next : WQ P n ops C rest K (updo σ o.dst undef)) : WQ P n ops C (o :: rest) K σ := by
  unfold WQ wpQuiet
  rw [wanted_mk, hg, if_neg (by simp), mk_put]
  exact next
theorem WQ_pure {ops : Array Oper} {o : Oper} {rest : List Oper} {v : Value} (hg : gOk ops n σ o.guard = true) (h : pureOp n σ o.op = some v)
    (next : WQ P n ops C rest K (updo σ o.dst v)) : WQ P n ops C (o :: rest) K σ := WQ_val hg (fun _ _ => pure_run h) next
theorem WQ_enter {ops : Array Oper} {o : Oper} {rest : List Oper} {f : FuncId} {args : Array Value} {v : Value} (hg : gOk ops n σ o.guard = true)
    (h : ∀ w, C w → (execOp (ev n σ) o).run P w = .ok (.enter f args) w) (hc : ∀ w, C w → Calls P f args w (Ret fun v' w' => v' = v ∧ C w'))
    (next : WQ P n ops C rest K (updo σ o.dst v)) : WQ P n ops C (o :: rest) K σ := by
  unfold WQ wpQuiet
  rw [wanted_mk, hg, if_pos rfl]
  refine ⟨v, fun w hw => ?_, ?_⟩
  · unfold Oper.quietAt; rw [mk_eval, h w hw]
    refine ⟨rfl, (hc w hw).mono ?_⟩
    rintro e w' ⟨v', he, hv, hw'⟩
    subst hv; exact ⟨he, hw'⟩
  · rw [mk_put]; exact next
theorem WQ_split {ops : Array Oper} {l : List Oper} (t : Nat) {b : Bool} (h : σ t = .bool b) (ht : b = true → WQ P n ops C l K (upd σ t (.bool true)))
    (hf : b = false → WQ P n ops C l K (upd σ t (.bool false))) : WQ P n ops C l K σ := by
  rw [upd_id h]
  cases b
  · exact hf rfl
  · exact ht rfl
theorem WQ_splitp {ops : Array Oper} {l : List Oper} (t : Nat) {p : Prop} [Decidable p] (h : σ t = .bool (decide p)) (ht : p → WQ P n ops C l K (upd σ t (.bool true)))
    (hf : ¬ p → WQ P n ops C l K (upd σ t (.bool false))) : WQ P n ops C l K σ :=
  WQ_split t h (fun h => ht (of_decide_eq_true h)) (fun h => hf (of_decide_eq_false h))
end
section
variable {P : Program} {n : Nat} {K : (Nat → Value) → Prop} {σ : Nat → Value} {C : World → Prop}
/-- A call that leaves the world alone. -/
theorem WQ_call {ops : Array Oper} {rest : List Oper} {f : FuncId} {ar : Array Operand} {ts : Array TypeId} {ty : TypeId} {ps : String} {dst : Option Tmp} {af : Array Edge} {g : Option (Nat × Bool)} {v : Value}
    (hg : gOk ops n σ g = true) (he : Enters P f) (hc : ∀ w, C w → Calls P f (ar.toList.map (ev n σ)).toArray w (Ret fun v' w' => v' = v ∧ w = w'))
    (next : WQ P n ops C rest K (updo σ dst v)) :
    WQ P n ops C (⟨dst, .call { callee := .value (.func f), args := ar, argTypes := ts }, ty, ps, af, g⟩ :: rest) K σ := by
  refine WQ_enter (f := f) (args := (ar.toList.map (ev n σ)).toArray) hg (fun w _ => ?_) (fun w hw => (hc w hw).mono ?_) next
  · have : ar.map (ev n σ) = (ar.toList.map (ev n σ)).toArray := by
      apply Array.ext'; simp
    simp only [execOp, resolve, ev, this]
    have := he (List.map (ev n σ) ar.toList).toArray w
    simp [Deferred.ofValue, invoke, go_sem, this]
  · rintro e w' ⟨v', he, hv, hw'⟩
    subst hw'; exact ⟨v', he, hv, hw⟩
/-- A call that ends in a world of the class. -/
theorem WQ_callc {ops : Array Oper} {rest : List Oper} {f : FuncId} {ar : Array Operand} {ts : Array TypeId} {ty : TypeId} {ps : String} {dst : Option Tmp} {af : Array Edge} {g : Option (Nat × Bool)} {v : Value}
    (hg : gOk ops n σ g = true) (he : Enters P f) (hc : ∀ w, C w → Calls P f (ar.toList.map (ev n σ)).toArray w (Ret fun v' w' => v' = v ∧ C w'))
    (next : WQ P n ops C rest K (updo σ dst v)) :
    WQ P n ops C (⟨dst, .call { callee := .value (.func f), args := ar, argTypes := ts }, ty, ps, af, g⟩ :: rest) K σ := by
  refine WQ_enter (f := f) (args := (ar.toList.map (ev n σ)).toArray) hg (fun w _ => ?_) hc next
  have : ar.map (ev n σ) = (ar.toList.map (ev n σ)).toArray := by
    apply Array.ext'; simp
  simp only [execOp, resolve, ev, this]
  have := he (List.map (ev n σ) ar.toList).toArray w
  simp [Deferred.ofValue, invoke, go_sem, this]
end
attribute [irreducible] WQ
attribute [irreducible] W WO
end Go.Proofs.Ytcnmbdabnppbeaa
