/- The texts EvU of the proof, joined. Each says at its theorems what it proves. -/
import Derived.Test.YtaegacblpbbndaaDoorJ27
set_option linter.unusedSimpArgs false
set_option linter.unusedVariables false
section
namespace Go.Proofs.YtaegacblpbbndaaDoor
open Go Go.RowKit
set_option linter.unusedSimpArgs false
set_option linter.unusedVariables false
namespace Ev
abbrev CallF := Nat → List AV → AH → Rs (CR × AH)
inductive OT where
  | pure (f : Fr → List AV → Option AV)
  | read (f : Fr → List AV → AH → Option AV)
  | act (f : Fr → List AV → AH → Option (AV × AH))
  | call (f : Fr → List AV → Option (Nat × List AV))
  | other
noncomputable def okFn (P : Program) (f : Nat) : Bool := match P.funcs[f]? with
  | some fn => fn.body.isSome && !(fn.name == "runtime.NumGoroutine")
  | none => false
noncomputable def callOT (P : Program) (n : Nat) (vs : List Nat) (o : Oper) (c : Call) : OT := match c.callee with
  | .value x => (match x with
    | .func f => bif okFn P f then (fun b => .call (fun T E => Option.rec none (fun l => some (f, l)) (b.run T E))) (evsB n vs c.args.toList) else .other
    | _ => .call (fun T E => callA P (evW n vs T E) o))
  | _ => (match lenB P n vs c with
    | some f => .pure f.run
    | none => .other)
noncomputable def opT (P : Program) (n : Nat) (vs : List Nat) (o : Oper) : OT := match o.op with
  | .move x => .pure (evB n vs x).run
  | .assign x => .pure (evB n vs x).run
  | .pick c a b => .pure (fun T E => pPick (evW n vs T E) c a b)
  | .binOp op t x y _ => .pure (binB P n vs o op t x y).run
  | .unOp _ _ _ => .pure (fun T E => scal P (evW n vs T E) o)
  | .convert s d x => .pure (fun T E => pConv P (evW n vs T E) o s d x)
  | .makeInterface t x => .pure (fun T E => pIface P (evW n vs T E) t x)
  | .makeFunc fn first cap => .pure (fun T E => pFunc (evW n vs T E) fn first cap)
  | .extract x i => .pure (fun T E => tupAt i ((evB n vs x).run T E))
  | .nilCheck x => .pure (fun T E => pNil (evW n vs T E) x)
  | .fieldAddr s x f => .pure (fadB P n vs s x f).run
  | .field s x f => .pure (fldB P n vs s x f).run
  | .indexAddr t x i => .pure (iadB P n vs t x i).run
  | .index t x i => .pure (idxB P n vs t x i).run
  | .slice t x lo hi mx => .pure (sliB P n vs t x lo hi mx).run
  | .build t parts => .pure (fun T E => pBuild P (evW n vs T E) t parts)
  | .typeAssert x _ t ok => .pure (fun T E => pAssert P (evW n vs T E) x t ok)
  | .load t x => .read (lodB P n vs t x).run
  | .lookup t m k ok => .read (fun T E H => rLookup P (evW n vs T E) t m k ok H)
  | .alloc t => .act (fun T E H => mAlloc P (evW n vs T E) t H)
  | .box t x => .act (fun T E H => mBox (evW n vs T E) t x H)
  | .buildSlice t k parts => .act (fun T E H => mBSlice P (evW n vs T E) t k parts H)
  | .store t x y => .act (stoB P n vs t x y).run
  | .insert t m k x => .act (fun T E H => mPut P (evW n vs T E) t m k x H)
  | .mapUpdate t m k x => .act (fun T E H => mPut2 P (evW n vs T E) t m k x H)
  | .mapEntry t m k => .act (fun T E H => mEntry P (evW n vs T E) t m k H)
  | .entryStore _ m s x => .act (fun T E H => mEStore (evW n vs T E) m s x H)
  | .makeMap _ r => .act (fun T E H => mMap (evW n vs T E) r H)
  | .makeSlice t l c => .act (fun T E H => mSlice P (evW n vs T E) t l c H)
  | .range t x => .act (fun T E H => mRange P (evW n vs T E) t x H)
  | .next x s => .act (fun T E H => mNext (evW n vs T E) x s H)
  | .call c => callOT P n vs o c
  | _ => .other
section
variable {P : Program} {call : CallF} {F : AF} {H : AH} {n : Nat} {vs : List Nat} {T : Fr} {E : List AV}
theorem opValX_of {ev : Operand → Option AV} {o : Oper} {r : CR × AH} (h : opVal P call ev o H = .ok r) : opValX P call ev o H = .ok r := by
  unfold opValX; rw [h]
theorem okFn_inv {f : Nat} (h : okFn P f = true) : ∃ fn, P.funcs[f]? = some fn ∧ (fn.body.isSome && !(fn.name == "runtime.NumGoroutine")) = true := by
  unfold okFn at h
  split at h
  · rename_i fn hfn; exact ⟨fn, hfn, h⟩
  · cases h
theorem callOT_call (hA : Ag n vs T E F) {o : Oper} {c : Call} {f : Fr → List AV → Option (Nat × List AV)} (ho : o.op = .call c) (h : callOT P n vs o c = .call f) {g : Nat} {as : List AV} (hf : f T E = some (g, as)) : callA P (evF F) o = some (g, as) ∧ isVal c = true := by
  unfold callOT at h
  split at h
  · rename_i x hx
    have hv : isVal c = true := by unfold isVal; rw [hx]
    split at h
    · rename_i f'
      cases hk : okFn P f' with
      | false => rw [hk] at h; cases h
      | true =>
        rw [hk] at h
        cases h
        simp only [evsB_eq hA] at hf
        obtain ⟨fn, h1, h2⟩ := okFn_inv hk
        cases he : evs (evF F) c.args.toList with
        | none => rw [he] at hf; cases hf
        | some l =>
          rw [he] at hf
          cases hf
          refine ⟨?_, hv⟩
          unfold callA
          simp only [ho, hx, evF, he, h1, h2, cond_true, List.nil_append, List.append_nil]
    · cases h; simp only [evW_eq hA] at hf; exact ⟨hf, hv⟩
  · split at h <;> cases h
theorem callOT_pure (hA : Ag n vs T E F) {o : Oper} {c : Call} {f : Fr → List AV → Option AV} (h : callOT P n vs o c = .pure f) {a : AV} (hf : f T E = some a) : pCall P (evF F) o c = some a ∧ isVal c = false := by
  unfold callOT at h
  split at h
  · split at h
    · rename_i f' _
      cases hk : okFn P f' <;> rw [hk] at h <;> cases h
    · cases h
  · rename_i hx
    have hv : isVal c = false := by
      unfold isVal
      split
      · rename_i x hx'; exact absurd hx' (hx x)
      · rfl
    split at h
    · rename_i g hg
      cases h
      exact ⟨lenB_ok hA hg hf, hv⟩
    · cases h
theorem opT_pure (hA : Ag n vs T E F) {o : Oper} {f : Fr → List AV → Option AV} (h : opT P n vs o = .pure f) {a : AV} (hf : f T E = some a) : pureA P (evF F) o = some a ∧ opValX P call (evF F) o H = .ok (.ret a, H) := by
  obtain ⟨dst, op, type, pos, after, guard⟩ := o
  cases op
  case call c =>
    obtain ⟨h1, h2⟩ := callOT_pure hA (o := ⟨dst, .call c, type, pos, after, guard⟩) h hf
    refine ⟨h1, opValX_of ?_⟩
    show (bif isVal c then callQ P call (evF F) _ c H else callB P (evF F) _ c H) = _
    rw [h2, cond_false]
    unfold callB
    rw [h1]
  case binOp op t x y c =>
    cases h
    rw [binB_eq hA rfl] at hf
    exact ⟨hf, opValX_of (by show okV _ _ = _; rw [hf]; rfl)⟩
  case move x => cases h; rw [evB_eq hA] at hf; exact ⟨hf, opValX_of (by show okV _ _ = _; rw [hf]; rfl)⟩
  case assign x => cases h; rw [evB_eq hA] at hf; exact ⟨hf, opValX_of (by show okV _ _ = _; rw [hf]; rfl)⟩
  case extract x i => cases h; simp only [tupAt_eq hA] at hf; exact ⟨hf, opValX_of (by show okV _ _ = _; rw [hf]; rfl)⟩
  case fieldAddr s x f => cases h; have hf := fadB_ok hA hf; exact ⟨hf, opValX_of (by show okV _ _ = _; rw [hf]; rfl)⟩
  case field s x f => cases h; have hf := fldB_ok hA hf; exact ⟨hf, opValX_of (by show okV _ _ = _; rw [hf]; rfl)⟩
  case indexAddr t x i => cases h; have hf := iadB_ok hA hf; exact ⟨hf, opValX_of (by show okV _ _ = _; rw [hf]; rfl)⟩
  case index t x i => cases h; have hf := idxB_ok hA hf; exact ⟨hf, opValX_of (by show okV _ _ = _; rw [hf]; rfl)⟩
  case slice t x lo hi mx => cases h; have hf := sliB_ok hA hf; exact ⟨hf, opValX_of (by show okV _ _ = _; rw [hf]; rfl)⟩
  all_goals first
    | (cases h; simp only [evW_eq hA] at hf; exact ⟨hf, opValX_of (by show okV _ _ = _; rw [hf]; rfl)⟩)
    | cases h
theorem opT_read (hA : Ag n vs T E F) {o : Oper} {f : Fr → List AV → AH → Option AV} (h : opT P n vs o = .read f) {a : AV} (hf : f T E H = some a) : readA P (evF F) o H = some a ∧ opValX P call (evF F) o H = .ok (.ret a, H) := by
  obtain ⟨dst, op, type, pos, after, guard⟩ := o
  cases op
  case call c =>
    exfalso
    have h' : callOT P n vs ⟨dst, .call c, type, pos, after, guard⟩ c = .read f := h
    unfold callOT at h'
    split at h'
    · split at h'
      · rename_i f' _
        cases hk : okFn P f' <;> rw [hk] at h' <;> cases h'
      · cases h'
    · split at h' <;> cases h'
  case load t x => cases h; have hf := lodB_ok hA hf; exact ⟨hf, opValX_of (by show okV _ _ = _; rw [hf]; rfl)⟩
  all_goals first
    | (cases h; simp only [evW_eq hA] at hf; exact ⟨hf, opValX_of (by show okV _ _ = _; rw [hf]; rfl)⟩)
    | cases h
theorem opT_act (hA : Ag n vs T E F) {o : Oper} {f : Fr → List AV → AH → Option (AV × AH)} (h : opT P n vs o = .act f) {p : AV × AH} (hf : f T E H = some p) : opValX P call (evF F) o H = .ok (.ret p.1, p.2) := by
  obtain ⟨dst, op, type, pos, after, guard⟩ := o
  cases op
  case call c =>
    exfalso
    have h' : callOT P n vs ⟨dst, .call c, type, pos, after, guard⟩ c = .act f := h
    unfold callOT at h'
    split at h'
    · split at h'
      · rename_i f' _
        cases hk : okFn P f' <;> rw [hk] at h' <;> cases h'
      · cases h'
    · split at h' <;> cases h'
  case store t x y => cases h; have hf := stoB_ok hA hf; exact opValX_of (by show okM _ = _; rw [hf]; rfl)
  all_goals first
    | (cases h; simp only [evW_eq hA] at hf; exact opValX_of (by show okM _ = _; rw [hf]; rfl))
    | cases h
theorem opT_call (hA : Ag n vs T E F) {o : Oper} {f : Fr → List AV → Option (Nat × List AV)} (h : opT P n vs o = .call f) {g : Nat} {as : List AV} (hf : f T E = some (g, as)) {r : CR × AH} (hr : call g as H = .ok r) : opValX P call (evF F) o H = .ok r := by
  obtain ⟨dst, op, type, pos, after, guard⟩ := o
  cases op
  case call c =>
    obtain ⟨h1, h2⟩ := callOT_call hA (o := ⟨dst, .call c, type, pos, after, guard⟩) rfl h hf
    refine opValX_of ?_
    show (bif isVal c then callQ P call (evF F) _ c H else callB P (evF F) _ c H) = _
    rw [h2, cond_true]
    unfold callQ
    rw [h1]; exact hr
  all_goals cases h
theorem opT_defer {o : Oper} {c : Call} (h : o.op = .defer c) : opT P n vs o = .other := by
  unfold opT; rw [h]
end
abbrev Df := List (Nat × List AV × List AV)
inductive RX where
  | nor (T : Fr) (D : Df) (H : AH)
  | esc (x : AX) (T : Fr) (D : Df) (H : AH)
  | bad (c x : Nat)
abbrev R3 := Rs (AX × AF × AH)
noncomputable def RX.to (n : Nat) : RX → R3
  | .nor T D H => .ok (.normal, ⟨T, n, D⟩, H)
  | .esc x T D H => (match x with
    | .normal => .bad 99 0
    | x => .ok (x, ⟨T, n, D⟩, H))
  | .bad c x => .bad c x
noncomputable def outX (x : AX) (F : AF) (H : AH) : RX := match x with
  | .normal => .nor F.tm F.df H
  | x => .esc x F.tm F.df H
noncomputable def ofR3 (n : Nat) (r : R3) : RX := match r with
  | .ok (x, F, H) => Bool.rec (motive := fun _ => RX) (.bad 98 0) (outX x F H) (Nat.beq F.n n)
  | .bad c y => .bad c y
theorem ofR3_ok {n : Nat} {r : R3} {q} (h : (ofR3 n r).to n = .ok q) : r = .ok q := by
  unfold ofR3 at h
  split at h
  · rename_i x F H
    rcases beq_cases F.n n with ⟨e, e'⟩ | ⟨e, e'⟩
    · rw [e] at h
      obtain ⟨tm, m, df⟩ := F
      simp only at e'
      subst e'
      cases x <;> exact h
    · rw [e] at h; cases h
  · cases h
abbrev KB := Bx (CallF → Fr → Df → List AV → AH → RX)
noncomputable def nextB (n : Nat) (dst : Option Nat) (vs : List Nat) (ih : List Nat → KB) : Bx (AV → CallF → Fr → Df → List AV → AH → RX) := Option.rec
  ((fun k => ⟨fun _ call T D E H => k.run call T D E H⟩) (ih vs))
  (fun d => bif Nat.blt d n && Nat.ble n 256 then (fun k s => ⟨fun a call T D E H => k.run call (s.run a T) D (a :: E) H⟩) (ih (d :: vs)) (setB d) else ⟨fun _ _ _ _ _ _ => .bad 3 0⟩) dst
theorem idxN_cons (a : Nat) (l : List Nat) (t : Nat) : idxN (a :: l) t = bif Nat.beq a t then some 0 else Option.rec (motive := fun _ => Option Nat) none (fun k => some (Nat.succ k)) (idxN l t) := rfl
theorem Ag.put {n : Nat} {vs : List Nat} {T : Fr} {E : List AV} {D : Df} (hA : Ag n vs T E ⟨T, n, D⟩) {d : Nat} (hd : d < n) (a : AV) (D' : Df) : Ag n (d :: vs) (Fr.set a T d) (a :: E) ⟨Fr.set a T d, n, D'⟩ := by
  refine ⟨rfl, rfl, hA.le, fun t k h => ?_⟩
  have hle := hA.le
  rw [idxN_cons] at h
  rcases beq_cases d t with ⟨q, rfl⟩ | ⟨q, hne⟩
  · rw [q] at h; cases h
    refine ⟨hd, ?_⟩
    rw [AF.get_lt (by omega)]
    show some a = some (Fr.get (Fr.set a T d) d)
    rw [Fr.get_set_same a T d (by omega)]
  · rw [q, cond_false] at h
    cases hi : idxN vs t with
    | none => rw [hi] at h; cases h
    | some j =>
      rw [hi] at h; cases h
      obtain ⟨h1, h2⟩ := hA.at_ t j hi
      refine ⟨h1, ?_⟩
      rw [AF.get_lt (by omega)] at h2 ⊢
      show (a :: E)[j + 1]? = some (Fr.get (Fr.set a T d) t)
      rw [Fr.get_set_other a T d t (by omega) (by omega) (Ne.symm hne), List.getElem?_cons_succ]; exact h2
theorem Ag.df {n : Nat} {vs : List Nat} {T : Fr} {E : List AV} {D D' : Df} (hA : Ag n vs T E ⟨T, n, D⟩) : Ag n vs T E ⟨T, n, D'⟩ :=
  ⟨rfl, rfl, hA.le, fun t k h => by
    obtain ⟨h1, h2⟩ := hA.at_ t k h
    exact ⟨h1, h2⟩⟩
theorem Ag.nil {n : Nat} (hn : n ≤ 256) (T : Fr) (D : Df) : Ag n [] T [] ⟨T, n, D⟩ := ⟨rfl, rfl, hn, fun t k h => by cases h⟩
def Next (n : Nat) (call : CallF) (ih : List Nat → KB) (k' : AF → AH → R3) : Prop :=
  ∀ vs T D E H q, Ag n vs T E ⟨T, n, D⟩ → ((ih vs).run call T D E H).to n = .ok q → k' ⟨T, n, D⟩ H = .ok q
theorem nextB_ok {n : Nat} {call : CallF} {ih : List Nat → KB} {k' : AF → AH → R3} (hk : Next n call ih k') {dst : Option Nat} {vs : List Nat} {T : Fr} {D : Df} {E : List AV} {H : AH} {a : AV} {q} (hA : Ag n vs T E ⟨T, n, D⟩) (h : ((nextB n dst vs ih).run a call T D E H).to n = .ok q) : ∃ T', AF.put ⟨T, n, D⟩ dst a = some ⟨T', n, D⟩ ∧ k' ⟨T', n, D⟩ H = .ok q := by
  cases dst with
  | none => exact ⟨T, rfl, hk _ _ _ _ _ _ hA h⟩
  | some d =>
    have h' : ((bif Nat.blt d n && Nat.ble n 256 then (⟨fun a call T D E H => (ih (d :: vs)).run call ((setB d).run a T) D (a :: E) H⟩ : Bx (AV → CallF → Fr → Df → List AV → AH → RX)) else ⟨fun _ _ _ _ _ _ => .bad 3 0⟩).run a call T D E H).to n = .ok q := h
    cases hc : (Nat.blt d n && Nat.ble n 256) with
    | false => rw [hc] at h'; cases h'
    | true =>
      rw [hc, cond_true] at h'
      have h2 : ((ih (d :: vs)).run call ((setB d).run a T) D (a :: E) H).to n = .ok q := h'
      rw [setB_eq] at h2
      have hd : d < n := by
        simp only [Bool.and_eq_true] at hc
        simpa [Nat.blt_eq] using hc.1
      refine ⟨Fr.set a T d, ?_, hk _ _ _ _ _ _ (hA.put hd a D) h2⟩
      unfold AF.put
      simp only [hc, cond_true]
noncomputable def retK (nx : AV → CallF → Fr → Df → List AV → AH → RX) (call : CallF) (T : Fr) (D : Df) (E : List AV) (x : Rs (CR × AH)) : RX :=
  Rs.rec (fun p => Prod.rec (fun r H' => CR.rec (fun a => nx a call T D E H') (fun a => .esc (.panic a) T D H') r) p) (fun c y => .bad c y) x
noncomputable def genT (P : Program) (n : Nat) (vs : List Nat) (o : Oper) (nx : AV → CallF → Fr → Df → List AV → AH → RX) (call : CallF) (T : Fr) (D : Df) (E : List AV) (H : AH) : RX := match o.op with
  | .defer c => (match deferA (evW n vs T E) c with
    | some d => nx (.tup []) call T (d :: D) E H
    | none => .bad 4 0)
  | _ => retK nx call T D E (opValX P call (evW n vs T E) o H)
noncomputable def bodyT (P : Program) (n : Nat) (vs : List Nat) (o : Oper) (nx : Bx (AV → CallF → Fr → Df → List AV → AH → RX)) : KB := match opT P n vs o with
  | .pure f => ⟨fun call T D E H => Option.rec (genT P n vs o nx.run call T D E H) (fun a => nx.run a call T D E H) (f T E)⟩
  | .read f => ⟨fun call T D E H => Option.rec (genT P n vs o nx.run call T D E H) (fun a => nx.run a call T D E H) (f T E H)⟩
  | .act f => ⟨fun call T D E H => Option.rec (genT P n vs o nx.run call T D E H) (fun p => Prod.rec (fun a H' => nx.run a call T D E H') p) (f T E H)⟩
  | .call f => ⟨fun call T D E H => Option.rec (genT P n vs o nx.run call T D E H) (fun p => retK nx.run call T D E (Prod.rec (fun g as => call g as H) p)) (f T E)⟩
  | .other => ⟨fun call T D E H => genT P n vs o nx.run call T D E H⟩
noncomputable def boolOf (want : Bool) (a : Option AV) : Option Bool := match a with
  | some (.bool b) => some (b == want)
  | some (.tup []) => some false
  | _ => none
noncomputable def guardT (n : Nat) (vs : List Nat) (ops : Array Oper) (g : Nat × Bool) : Bx (Fr → List AV → Option Bool) := match ops.toList[g.1]? with
  | some o => (match o.dst with
    | some t => (fun b w => ⟨fun T E => boolOf w (b.run T E)⟩) (evB n vs (.tmp t)) g.2
    | none => ⟨fun _ _ => none⟩)
  | none => ⟨fun _ _ => none⟩
noncomputable def stepT (P : Program) (n : Nat) (vs : List Nat) (ops : Array Oper) (o : Oper) (ih : List Nat → KB) : KB := match o.guard with
  | none => bodyT P n vs o (nextB n o.dst vs ih)
  | some g => (fun b k s => ⟨fun call T D E H => Option.rec (.bad 2 0) (fun q => Bool.rec (motive := fun _ => RX) (s.run (.tup []) call T D E H) (b.run call T D E H) q) (k.run T E)⟩) (bodyT P n vs o (nextB n o.dst vs ih)) (guardT n vs ops g) (nextB n o.dst vs ih)
noncomputable def opsT (P : Program) (n : Nat) (ops : Array Oper) (l : List Oper) : List Nat → KB := List.rec (fun _ => ⟨fun _ T D _ H => .nor T D H⟩) (fun o _ ih vs => stepT P n vs ops o ih) l
section
variable {P : Program} {call : CallF} {n : Nat}
noncomputable def oneRun (P : Program) (call : CallF) (o : Oper) (n : Nat) (k : AF → AH → R3) (F : AF) (H : AH) : R3 := match o.op with
  | .defer c => match deferA (evF F) c with
    | some d => match F.put o.dst (.tup []) with
      | some F' => k { tm := F'.tm, n := F'.n, df := d :: F'.df } H
      | none => .bad 3 0
    | none => .bad 4 0
  | _ => match opValX P call (evF F) o H with
    | .ok (.ret a, H') => match F.put o.dst a with
      | some F' => k F' H'
      | none => .bad 3 0
    | .ok (.pan a, H') => .ok (.panic a, F, H')
    | .bad c x => .bad c (bif Nat.beq x 0 then n + 1 else x)
theorem oneRun_of {o : Oper} (ho : ∀ c, o.op ≠ .defer c) {n : Nat} {k : AF → AH → R3} {F : AF} {H : AH} : oneRun P call o n k F H = match opValX P call (evF F) o H with
    | .ok (.ret a, H') => (match F.put o.dst a with
      | some F' => k F' H'
      | none => .bad 3 0)
    | .ok (.pan a, H') => .ok (.panic a, F, H')
    | .bad c x => .bad c (bif Nat.beq x 0 then n + 1 else x) := by
  unfold oneRun
  split
  · rename_i c hc; exact absurd hc (ho c)
  · rfl
theorem opsRun_cons {ops : Array Oper} {o : Oper} {rest : List Oper} {F : AF} {H : AH} : opsRun P call ops (o :: rest) F H = match guardA ops F o.guard with
    | none => .bad 2 0
    | some false => (match F.put o.dst (.tup []) with
      | some F' => opsRun P call ops rest F' H
      | none => .bad 3 0)
    | some true => oneRun P call o rest.length (opsRun P call ops rest) F H := by
  conv => lhs; unfold opsRun
  unfold oneRun
  rfl
variable {ih : List Nat → KB} {k' : AF → AH → R3} {vs : List Nat} {T : Fr} {D : Df} {E : List AV} {H : AH} {o : Oper} {m : Nat}
theorem oneRun_ret (hk : Next n call ih k') (hA : Ag n vs T E ⟨T, n, D⟩) (ho : ∀ c, o.op ≠ .defer c) {x : Rs (CR × AH)} (hx : ∀ r, x = .ok r → opValX P call (evF ⟨T, n, D⟩) o H = .ok r) {q} (h : (retK (nextB n o.dst vs ih).run call T D E x).to n = .ok q) : oneRun P call o m k' ⟨T, n, D⟩ H = .ok q := by
  cases x with
  | bad c y => cases h
  | ok p =>
    obtain ⟨r, H'⟩ := p
    rw [oneRun_of ho, hx _ rfl]
    cases r with
    | ret a =>
      have h' : ((nextB n o.dst vs ih).run a call T D E H').to n = .ok q := h
      obtain ⟨T', h1, h2⟩ := nextB_ok hk hA h'
      simp only [h1]; exact h2
    | pan a => exact h
theorem oneRun_val (hk : Next n call ih k') (hA : Ag n vs T E ⟨T, n, D⟩) (ho : ∀ c, o.op ≠ .defer c) {a : AV} {H' : AH} (hx : opValX P call (evF ⟨T, n, D⟩) o H = .ok (.ret a, H')) {q} (h : ((nextB n o.dst vs ih).run a call T D E H').to n = .ok q) : oneRun P call o m k' ⟨T, n, D⟩ H = .ok q :=
  oneRun_ret hk hA ho (x := .ok (.ret a, H')) (fun r hr => by cases hr; exact hx) h
theorem genT_ok (hk : Next n call ih k') (hA : Ag n vs T E ⟨T, n, D⟩) {q} (h : (genT P n vs o (nextB n o.dst vs ih).run call T D E H).to n = .ok q) : oneRun P call o m k' ⟨T, n, D⟩ H = .ok q := by
  unfold genT at h
  rw [evW_eq hA] at h
  split at h
  · rename_i c hc
    unfold oneRun
    rw [hc]
    split at h
    · rename_i d hd
      obtain ⟨T', h1, h2⟩ := nextB_ok hk (hA.df (D' := d :: D)) h
      simp only [hd]
      have h3 : AF.put ⟨T, n, D⟩ o.dst (.tup []) = some ⟨T', n, D⟩ := by
        unfold AF.put at h1 ⊢
        split at h1
        · rename_i hdst; cases h1; simp only [hdst]
        · rename_i d' hdst
          simp only [hdst]
          simp only at h1 ⊢
          cases hcc : (Nat.blt d' n && Nat.ble n 256) with
          | false => rw [hcc] at h1; cases h1
          | true => rw [hcc] at h1; cases h1; rfl
      simp only [h3]; exact h2
    · cases h
  · rename_i hno
    exact oneRun_ret hk hA (fun c hc => hno c hc) (fun r hr => hr) h
theorem bodyT_ok (hk : Next n call ih k') (hA : Ag n vs T E ⟨T, n, D⟩) {q} (h : ((bodyT P n vs o (nextB n o.dst vs ih)).run call T D E H).to n = .ok q) : oneRun P call o m k' ⟨T, n, D⟩ H = .ok q := by
  have hnd : opT P n vs o ≠ .other → ∀ c, o.op ≠ .defer c := fun h c hc => h (opT_defer hc)
  unfold bodyT at h
  split at h
  · rename_i f hf
    cases hv : f T E with
    | none => simp only [hv] at h; exact genT_ok hk hA h
    | some a => simp only [hv] at h; exact oneRun_val hk hA (hnd (by rw [hf]; simp)) (opT_pure hA hf hv).2 h
  · rename_i f hf
    cases hv : f T E H with
    | none => simp only [hv] at h; exact genT_ok hk hA h
    | some a => simp only [hv] at h; exact oneRun_val hk hA (hnd (by rw [hf]; simp)) (opT_read hA hf hv).2 h
  · rename_i f hf
    cases hv : f T E H with
    | none => simp only [hv] at h; exact genT_ok hk hA h
    | some p => obtain ⟨a, H'⟩ := p; simp only [hv] at h; exact oneRun_val hk hA (hnd (by rw [hf]; simp)) (opT_act hA hf hv) h
  · rename_i f hf
    cases hv : f T E with
    | none => simp only [hv] at h; exact genT_ok hk hA h
    | some p =>
      obtain ⟨g, as⟩ := p
      simp only [hv] at h
      exact oneRun_ret hk hA (hnd (by rw [hf]; simp)) (x := call g as H) (fun r hr => opT_call hA hf hv hr) h
  · exact genT_ok hk hA h
theorem guardT_ok {ops : Array Oper} {g : Nat × Bool} (hA : Ag n vs T E ⟨T, n, D⟩) {b : Bool} (h : (guardT n vs ops g).run T E = some b) : guardA ops ⟨T, n, D⟩ (some g) = some b := by
  obtain ⟨j, want⟩ := g
  unfold guardT at h
  unfold guardA
  simp only at h ⊢
  split at h
  · rename_i o ho
    simp only [ho]
    split at h
    · rename_i t ht
      simp only [ht]
      have h' : boolOf want ((evB n vs (.tmp t)).run T E) = some b := h
      rw [evB_eq hA] at h'
      have e : evF ⟨T, n, D⟩ (.tmp t) = bif Nat.blt t n then some (AF.get ⟨T, n, D⟩ t) else none := rfl
      rw [e] at h'
      cases hb : Nat.blt t n with
      | false => rw [hb] at h'; cases h'
      | true =>
        rw [hb, cond_true] at h'
        rw [cond_true]
        unfold boolOf at h'
        split at h'
        · rename_i c hc
          rw [Option.some.inj hc]; exact h'
        · rename_i hc
          rw [Option.some.inj hc]; exact h'
        · cases h'
    · cases h
  · cases h
theorem opsT_ok {ops : Array Oper} : ∀ (l : List Oper), Next n call (opsT P n ops l) (opsRun P call ops l)
  | [], vs, T, D, E, H, q, hA, h => h
  | o :: rest, vs, T, D, E, H, q, hA, h => by
    have h' : ((stepT P n vs ops o (opsT P n ops rest)).run call T D E H).to n = .ok q := h
    have IH : Next n call (opsT P n ops rest) (opsRun P call ops rest) := opsT_ok rest
    rw [opsRun_cons]
    unfold stepT at h'
    split at h'
    · rename_i hg
      rw [hg]
      exact bodyT_ok IH hA h'
    · rename_i g hg
      rw [hg]
      have h'' : (Option.rec (motive := fun _ => RX) (.bad 2 0) (fun q => Bool.rec (motive := fun _ => RX) ((nextB n o.dst vs (opsT P n ops rest)).run (.tup []) call T D E H) ((bodyT P n vs o (nextB n o.dst vs (opsT P n ops rest))).run call T D E H) q) ((guardT n vs ops g).run T E)).to n = .ok q := h'
      cases hv : (guardT n vs ops g).run T E with
      | none => rw [hv] at h''; cases h''
      | some b =>
        rw [hv] at h''
        rw [guardT_ok hA hv]
        cases b with
        | true => exact bodyT_ok IH hA h''
        | false =>
          obtain ⟨T', h1, h2⟩ := nextB_ok IH hA h''
          simp only [h1]; exact h2
end
abbrev Pd := List (Nat × AV × List Nat)
noncomputable def dOne (P : Program) (call : CallF) (ops : Array Oper) (i : Nat) (k : PK) (o : Oper) (L : Array Bool) (pd : Pd) (next : Pd → AF → AH → Rs (AF × AH)) (F : AF) (H : AH) : Rs (AF × AH) := match guardA ops F o.guard with
  | none => .bad 11 i
  | some false => match k with
    | .act => match F.put o.dst (.tup []) with
      | some F' => bif recheck P ops (evF F') H (L.setIfInBounds i true) pd then next pd F' H else .bad 16 i
      | none => .bad 12 i
    | _ => match F.put o.dst (.tup []) with
      | some F' => next pd F' H
      | none => .bad 12 i
  | some true => match k with
    | .free => match pureA P (evF F) o with
      | some a => match F.put o.dst a with
        | some F' => next pd F' H
        | none => .bad 12 i
      | none => .bad 13 i
    | .read _ A => match readA P (evF F) o H with
      | some a => match F.put o.dst a with
        | some F' => next ((i, a, A) :: pd) F' H
        | none => .bad 12 i
      | none => .bad 14 i
    | .act => match opValX P call (evF F) o H with
      | .ok (.ret a, H') => match F.put o.dst a with
        | some F' => bif recheck P ops (evF F') H' (L.setIfInBounds i true) pd then next pd F' H' else .bad 16 i
        | none => .bad 12 i
      | .ok (.pan _, _) => .bad 17 i
      | .bad c x => .bad c x
theorem drawRun_cons {P : Program} {call : CallF} {ops : Array Oper} {i : Nat} {k : PK} {r : List (Nat × PK)} {pd : Pd} {L : Array Bool} {F : AF} {H : AH} : drawRun P call ops ((i, k) :: r) pd L F H = match ops.toList[i]? with
    | none => .bad 10 i
    | some o => dOne P call ops i k o L pd (fun pd F H => drawRun P call ops r pd (L.setIfInBounds i true) F H) F H := by
  conv => lhs; unfold drawRun
  unfold dOne
  rfl
theorem put_form {n : Nat} {T : Fr} {D : Df} {dst : Option Nat} {a : AV} {F' : AF} (h : AF.put ⟨T, n, D⟩ dst a = some F') : ∃ T', F' = ⟨T', n, D⟩ := by
  unfold AF.put at h
  split at h
  · cases h; exact ⟨T, rfl⟩
  · rename_i d
    simp only at h
    cases hc : (Nat.blt d n && Nat.ble n 256) with
    | false => rw [hc] at h; cases h
    | true => rw [hc] at h; cases h; exact ⟨_, rfl⟩
theorem dOne_mono {P : Program} {call : CallF} {ops : Array Oper} {i n : Nat} {k : PK} {o : Oper} {L : Array Bool} {pd : Pd} {f g : Pd → AF → AH → Rs (AF × AH)} {D : Df} (hfg : ∀ pd T H r, f pd ⟨T, n, D⟩ H = .ok r → g pd ⟨T, n, D⟩ H = .ok r) {T : Fr} {H : AH} {r} (h : dOne P call ops i k o L pd f ⟨T, n, D⟩ H = .ok r) : dOne P call ops i k o L pd g ⟨T, n, D⟩ H = .ok r := by
  have key : ∀ {a : AV} {F' : AF} {pd H}, AF.put ⟨T, n, D⟩ o.dst a = some F' → f pd F' H = .ok r → g pd F' H = .ok r := by
    intro a F' pd H hp hf
    obtain ⟨T', rfl⟩ := put_form hp
    exact hfg _ _ _ _ hf
  unfold dOne at h ⊢
  split at h
  · cases h
  · split at h
    · split at h
      · rename_i F' hp
        (try simp only [hp])
        cases hc : recheck P ops (evF F') H (L.setIfInBounds i true) pd with
        | false => rw [hc] at h; cases h
        | true => rw [hc] at h; exact key hp h
      · cases h
    · split at h
      · rename_i F' hp
        (try simp only [hp]); exact key hp h
      · cases h
  · split at h
    · split at h
      · rename_i a ha
        split at h
        · rename_i F' hp; (try simp only [ha, hp]); exact key hp h
        · cases h
      · cases h
    · split at h
      · rename_i a ha
        split at h
        · rename_i F' hp; (try simp only [ha, hp]); exact key hp h
        · cases h
      · cases h
    · split at h
      · rename_i a H' ha
        split at h
        · rename_i F' hp
          (try simp only [ha, hp])
          cases hc : recheck P ops (evF F') H' (L.setIfInBounds i true) pd with
          | false => rw [hc] at h; cases h
          | true => rw [hc] at h; exact key hp h
        · cases h
      · cases h
      · cases h
abbrev DR2 := Rs (AF × AH)
abbrev DB := Bx (CallF → Pd → Fr → Df → AH → DR2)
noncomputable def nxD (n : Nat) (dst : Option Nat) (k : DB) : Bx (AV → CallF → Pd → Fr → Df → AH → DR2) := Option.rec
  ⟨fun _ call pd T D H => k.run call pd T D H⟩
  (fun d => bif Nat.blt d n && Nat.ble n 256 then (fun s => ⟨fun a call pd T D H => k.run call pd (s.run a T) D H⟩) (setB d) else ⟨fun _ _ _ _ _ _ => .bad 12 0⟩) dst
noncomputable def ckB (P : Program) (n : Nat) (ops : Array Oper) (L : Array Bool) (i : Nat) (k : DB) : DB :=
  ⟨fun call pd T D H => List.rec (motive := fun _ => DR2) (k.run call pd T D H) (fun _ _ _ => Bool.rec (motive := fun _ => DR2) (.bad 16 i) (k.run call pd T D H) (recheck P ops (evF ⟨T, n, D⟩) H (L.setIfInBounds i true) pd)) pd⟩
noncomputable def slowD (P : Program) (n : Nat) (ops : Array Oper) (i : Nat) (k : PK) (o : Oper) (L : Array Bool) (nx : DB) : DB :=
  ⟨fun call pd T D H => dOne P call ops i k o L pd (fun pd F H => nx.run call pd F.tm F.df H) ⟨T, n, D⟩ H⟩
noncomputable def actK (nx : AV → CallF → Pd → Fr → Df → AH → DR2) (call : CallF) (pd : Pd) (T : Fr) (D : Df) (x : Rs (CR × AH)) : DR2 :=
  Rs.rec (fun p => Prod.rec (fun r H' => CR.rec (fun a => nx a call pd T D H') (fun _ => .bad 17 0) r) p) (fun c y => .bad c y) x
noncomputable def dBody (P : Program) (n : Nat) (ops : Array Oper) (i : Nat) (k : PK) (o : Oper) (L : Array Bool) (nx : DB) : DB := match o.guard with
  | some _ => slowD P n ops i k o L nx
  | none => match k with
    | .free => (match opT P n [] o with
      | .pure f => (fun s x => ⟨fun call pd T D H => Option.rec (s.run call pd T D H) (fun a => x.run a call pd T D H) (f T [])⟩) (slowD P n ops i .free o L nx) (nxD n o.dst nx)
      | _ => slowD P n ops i .free o L nx)
    | .read E A => (match opT P n [] o with
      | .read f => (fun s x => ⟨fun call pd T D H => Option.rec (s.run call pd T D H) (fun a => x.run a call ((i, a, A) :: pd) T D H) (f T [] H)⟩) (slowD P n ops i (.read E A) o L nx) (nxD n o.dst nx)
      | _ => slowD P n ops i (.read E A) o L nx)
    | .act => (match opT P n [] o with
      | .act f => (fun s x => ⟨fun call pd T D H => Option.rec (s.run call pd T D H) (fun p => Prod.rec (fun a H' => x.run a call pd T D H') p) (f T [] H)⟩) (slowD P n ops i .act o L nx) (nxD n o.dst (ckB P n ops L i nx))
      | .call f => (fun s x => ⟨fun call pd T D H => Option.rec (s.run call pd T D H) (fun p => actK x.run call pd T D (Prod.rec (fun g as => call g as H) p)) (f T [])⟩) (slowD P n ops i .act o L nx) (nxD n o.dst (ckB P n ops L i nx))
      | _ => slowD P n ops i .act o L nx)
noncomputable def dStep (P : Program) (n : Nat) (ops : Array Oper) (i : Nat) (k : PK) (L : Array Bool) (nx : DB) : DB := match ops.toList[i]? with
  | none => ⟨fun _ _ _ _ _ => .bad 10 i⟩
  | some o => dBody P n ops i k o L nx
noncomputable def drawT (P : Program) (n : Nat) (ops : Array Oper) (pl : List (Nat × PK)) : Array Bool → DB := List.rec (fun _ => ⟨fun _ _ T D H => .ok (⟨T, n, D⟩, H)⟩) (fun p _ ih L => dStep P n ops p.1 p.2 L (ih (L.setIfInBounds p.1 true))) pl
section
variable {P : Program} {call : CallF} {n : Nat} {ops : Array Oper} {i : Nat} {k : PK} {o : Oper} {L : Array Bool} {nx : DB} {pd : Pd} {T : Fr} {D : Df} {H : AH}
theorem nxD_ok {k : DB} {dst : Option Nat} {a : AV} {r} (h : (nxD n dst k).run a call pd T D H = .ok r) : ∃ T', AF.put ⟨T, n, D⟩ dst a = some ⟨T', n, D⟩ ∧ k.run call pd T' D H = .ok r := by
  cases dst with
  | none => exact ⟨T, rfl, h⟩
  | some d =>
    have h' : (bif Nat.blt d n && Nat.ble n 256 then (⟨fun a call pd T D H => k.run call pd ((setB d).run a T) D H⟩ : Bx (AV → CallF → Pd → Fr → Df → AH → DR2)) else ⟨fun _ _ _ _ _ _ => .bad 12 0⟩).run a call pd T D H = .ok r := h
    cases hc : (Nat.blt d n && Nat.ble n 256) with
    | false => rw [hc] at h'; cases h'
    | true =>
      rw [hc, cond_true] at h'
      have h2 : k.run call pd ((setB d).run a T) D H = .ok r := h'
      rw [setB_eq] at h2
      refine ⟨Fr.set a T d, ?_, h2⟩
      unfold AF.put
      simp only [hc, cond_true]
theorem ckB_ok {r} (h : (ckB P n ops L i nx).run call pd T D H = .ok r) : recheck P ops (evF ⟨T, n, D⟩) H (L.setIfInBounds i true) pd = true ∧ nx.run call pd T D H = .ok r := by
  cases pd with
  | nil => exact ⟨rfl, h⟩
  | cons p pd =>
    have h' : Bool.rec (motive := fun _ => DR2) (.bad 16 i) (nx.run call (p :: pd) T D H) (recheck P ops (evF ⟨T, n, D⟩) H (L.setIfInBounds i true) (p :: pd)) = .ok r := h
    cases hc : recheck P ops (evF ⟨T, n, D⟩) H (L.setIfInBounds i true) (p :: pd) with
    | false => rw [hc] at h'; cases h'
    | true => rw [hc] at h'; exact ⟨rfl, h'⟩
theorem dBody_ok (hn : n ≤ 256) {r} (h : (dBody P n ops i k o L nx).run call pd T D H = .ok r) : dOne P call ops i k o L pd (fun pd F H => nx.run call pd F.tm F.df H) ⟨T, n, D⟩ H = .ok r := by
  have hA := Ag.nil hn T D
  unfold dBody at h
  split at h
  · exact h
  · rename_i hg
    have hgu : guardA ops ⟨T, n, D⟩ o.guard = some true := by rw [hg]; rfl
    split at h
    · split at h
      · rename_i f hf
        have h' : Option.rec (motive := fun _ => DR2) ((slowD P n ops i .free o L nx).run call pd T D H) (fun a => (nxD n o.dst nx).run a call pd T D H) (f T []) = .ok r := h
        cases hv : f T [] with
        | none => rw [hv] at h'; exact h'
        | some a =>
          rw [hv] at h'
          obtain ⟨T', h1, h2⟩ := nxD_ok h'
          unfold dOne
          simp only [hgu, (opT_pure (call := call) (H := H) hA hf hv).1, h1]; exact h2
      · exact h
    · rename_i E A
      split at h
      · rename_i f hf
        have h' : Option.rec (motive := fun _ => DR2) ((slowD P n ops i (.read E A) o L nx).run call pd T D H) (fun a => (nxD n o.dst nx).run a call ((i, a, A) :: pd) T D H) (f T [] H) = .ok r := h
        cases hv : f T [] H with
        | none => rw [hv] at h'; exact h'
        | some a =>
          rw [hv] at h'
          obtain ⟨T', h1, h2⟩ := nxD_ok h'
          unfold dOne
          simp only [hgu, (opT_read (call := call) hA hf hv).1, h1]; exact h2
      · exact h
    · split at h
      · rename_i f hf
        have h' : Option.rec (motive := fun _ => DR2) ((slowD P n ops i .act o L nx).run call pd T D H) (fun p => Prod.rec (fun a H' => (nxD n o.dst (ckB P n ops L i nx)).run a call pd T D H') p) (f T [] H) = .ok r := h
        cases hv : f T [] H with
        | none => rw [hv] at h'; exact h'
        | some p =>
          obtain ⟨a, H'⟩ := p
          rw [hv] at h'
          obtain ⟨T', h1, h2⟩ := nxD_ok h'
          obtain ⟨h3, h4⟩ := ckB_ok h2
          unfold dOne
          simp only [hgu, opT_act (call := call) hA hf hv, h1, h3, cond_true]; exact h4
      · rename_i f hf
        have h' : Option.rec (motive := fun _ => DR2) ((slowD P n ops i .act o L nx).run call pd T D H) (fun p => actK (nxD n o.dst (ckB P n ops L i nx)).run call pd T D (Prod.rec (fun g as => call g as H) p)) (f T []) = .ok r := h
        cases hv : f T [] with
        | none => rw [hv] at h'; exact h'
        | some p =>
          obtain ⟨g, as⟩ := p
          rw [hv] at h'
          have h2 : actK (nxD n o.dst (ckB P n ops L i nx)).run call pd T D (call g as H) = .ok r := h'
          cases hc : call g as H with
          | bad c x => rw [hc] at h2; cases h2
          | ok p =>
            obtain ⟨b, H'⟩ := p
            rw [hc] at h2
            cases b with
            | pan a => cases h2
            | ret a =>
              obtain ⟨T', h3, h4⟩ := nxD_ok (a := a) (H := H') h2
              obtain ⟨h5, h6⟩ := ckB_ok h4
              unfold dOne
              simp only [hgu, opT_call hA hf hv hc, h3, h5, cond_true]; exact h6
      · exact h
theorem drawT_ok (hn : n ≤ 256) : ∀ (pl : List (Nat × PK)) {L : Array Bool} {pd : Pd} {T : Fr} {H : AH} {r}, (drawT P n ops pl L).run call pd T D H = .ok r → drawRun P call ops pl pd L ⟨T, n, D⟩ H = .ok r
  | [], L, pd, T, H, r, h => h
  | (i, k) :: pl, L, pd, T, H, r, h => by
    have h' : (dStep P n ops i k L (drawT P n ops pl (L.setIfInBounds i true))).run call pd T D H = .ok r := h
    rw [drawRun_cons]
    unfold dStep at h'
    split at h'
    · cases h'
    · rename_i o ho
      exact dOne_mono (fun pd T H r q => drawT_ok hn pl q) (dBody_ok hn h')
noncomputable def fin3 (x : Rs (AF × AH)) : R3 := match x with
  | .ok (F', H') => .ok (.normal, F', H')
  | .bad c x => .bad c x
noncomputable def drawnT (P : Program) (n : Nat) (ops : Array Oper) : Bx (CallF → Fr → Df → AH → RX) :=
  bif planned P ops (mkPlanQ (OIs P ops) ops.size 0) (OIs P ops) then (fun b => ⟨fun call T D H => ofR3 n (fin3 (b.run call [] T D H))⟩) (drawT P n ops (mkPlanQ (OIs P ops) ops.size 0) (Array.replicate ops.size false))
  else ⟨fun call T D H => ofR3 n (drawn2 P call ops ⟨T, n, D⟩ H)⟩
theorem drawnT_ok (hn : n ≤ 256) {q} (h : ((drawnT P n ops).run call T D H).to n = .ok q) : drawnAny P call ops ⟨T, n, D⟩ H = .ok q := by
  unfold drawnT at h
  unfold drawnAny
  cases hc : planned P ops (mkPlanQ (OIs P ops) ops.size 0) (OIs P ops) with
  | false => rw [hc] at h; exact ofR3_ok h
  | true =>
    rw [hc] at h
    have h1 := ofR3_ok (n := n) (r := fin3 ((drawT P n ops (mkPlanQ (OIs P ops) ops.size 0) (Array.replicate ops.size false)).run call [] T D H)) h
    unfold fin3 at h1
    split at h1
    · rename_i F' H' hx
      rw [cond_true]
      unfold runBy
      rw [drawT_ok hn _ hx]; exact h1
    · cases h1
end
end Ev
end Go.Proofs.YtaegacblpbbndaaDoor
end
