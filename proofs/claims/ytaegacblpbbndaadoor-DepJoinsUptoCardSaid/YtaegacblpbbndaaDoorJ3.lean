/- The texts S15, S16, S17, S18, S19, S20, S21, S22, S23, DepV, Dep24, SortV, Dep25, NameP, JoinP, Dep27, OpenV of the proof, joined. Each says at its theorems what it proves. -/
import Derived.Test.YtaegacblpbbndaaDoorJ2
import Derived.OrdersHeld
import Derived.Sort.OwnSorted
set_option linter.unusedSimpArgs false
set_option linter.unusedVariables false
section
namespace Go.Proofs.YtaegacblpbbndaaDoor
open Go Go.RowKit
set_option linter.unusedSimpArgs false
set_option linter.unusedVariables false
namespace Sv
structure Cx where
  f : Nat → Option Obj
  m : Nat → Option (Nat × Nat)
  lo : Nat
  hm : ∀ b x, m b = some x → b < lo
structure Holds (B : Bas) (F : Cx) (n : Nat) (x : St) (φ : Phi) (σ : Nat → Value) (w : World) : Prop where
  fr : FRel φ n x.s σ
  rel : Rel B φ x.h w
  dom : Dom φ x.nx
  old : ∀ b o, F.f b = some o → φ.f b = some o
  new : ∀ b o, φ.f b = some o → F.f b = some o ∨ ¬ B.old b
  base : ∀ b x, F.m b = some x → φ b = some x
section
variable {P : Program} {B : Bas} {w : World} {F : Cx} {n : Nat} {φ : Phi} {σ : Nat → Value} {ops : Array Oper} {Q : Exit → (Nat → Value) → World → Prop} {rest : List Oper}
theorem needs_ok {e : Operand → Option AV} : ∀ {l : List Operand}, holds (needs e l) → ∀ {t : Nat} {q : Bool} {a : AV}, hasT t l = true → e (.tmp t) = some (.cond q a) → q = true
  | [], _, _, _, _, h, _ => by cases h
  | x :: l, hn, t, q, a, h, he => by
    have hn' : holds (needs e l) := by
      unfold needs at hn
      split at hn
      · exact (andC_holds hn).2
      · exact hn
    cases x with
    | tmp u =>
      simp only [hasT, Bool.or_eq_true] at h
      rcases h with h | h
      · have := Nat.eq_of_beq_eq_true h; subst this
        unfold needs at hn
        rw [he] at hn
        exact (andC_holds hn).1
      · exact needs_ok hn' h he
    | _ => exact needs_ok hn' h he
theorem strip_ev {s : Fr} {l : List Operand} (hr : FRel φ n s σ) (hn : holds (needs (evA s) l)) : EVR φ (strip l (evA s)) (ev n σ) := by
  intro x a h
  unfold strip at h
  split at h
  · rename_i q b hb
    split at h
    · rename_i t
      obtain ⟨h1, h2⟩ := cond_true' (f := none) h
      subst h2
      have := hr.ev _ _ hb
      simp only [VR] at this
      exact this (needs_ok hn h1 hb)
    · cases h
  · exact hr.ev _ _ h
theorem step_run {o : Oper} {x y : St} {C : Option Prop} (hx : Holds B F n x φ σ w) (hg : gOk ops n σ o.guard = true)
    (hs : (match opS P (evA x.s) o x.h x.nx with | some r => (match putF n o.dst r.a (cleanF r.k x.s) with | some s' => some ((⟨s', r.h, r.nx⟩ : St), r.C) | none => none) | none => none) = some (y, C)) (hC : holds C)
    (next : ∀ φ' σ' w', Holds B F n y φ' σ' w' → φ'.f = φ.f → WO P n ops rest Q σ' w') : WO P n ops (o :: rest) Q σ w := by
  split at hs
  · rename_i r hr
    split at hs
    · rename_i s' hp
      cases hs
      obtain ⟨φ', w', v, h1, h2, h3, h4, h5⟩ := opS_ok hx.fr.ev hr hx.rel hx.dom hC
      have hh : Holds B F n ⟨s', r.h, r.nx⟩ φ' (updo σ o.dst v) w' := ⟨(hx.fr.keeps h4).put hp h2, h3, h5, fun b o q => by rw [h4.1]; exact hx.old b o q, fun b o q => by rw [h4.1] at q; exact hx.new b o q, fun b o q => h4.2.2 _ _ (hx.base b o q)⟩
      rcases h1 with h1 | ⟨h1, rfl⟩
      · exact WO_val hg h1 (next _ _ _ hh h4.1)
      · exact WO_unit hg h1 (next _ _ _ hh h4.1)
    · cases hs
  · cases hs
theorem stepS_ok {lz : List Nat} {o : Oper} {x y : St} {C : Option Prop} (hx : Holds B F n x φ σ w) (hs : stepS P n ops lz o x = some (y, C)) (hC : holds C)
    (next : ∀ φ' σ' w', Holds B F n y φ' σ' w' → φ'.f = φ.f → WO P n ops rest Q σ' w') : WO P n ops (o :: rest) Q σ w := by
  unfold stepS at hs
  simp only at hs
  cases hgd : o.guard with
  | none =>
    rw [hgd] at hs
    exact step_run hx (by rw [hgd]; rfl) hs hC next
  | some g =>
    obtain ⟨j, want⟩ := g
    rw [hgd] at hs
    simp only at hs
    split at hs
    · rename_i t ht
      split at hs
      · rename_i q hq
        have hv := hx.fr _ _ hq
        simp only [VR] at hv
        have hgk : gOk ops n σ o.guard = wantOf want q := by
          rw [hgd]; simp only [gOk, ht, hv, isB, wantOf]
        cases hlz : inL o.dst lz with
        | true =>
          rw [hlz, cond_true] at hs
          split at hs
          · rename_i a C' hro
            split at hs
            · rename_i s' hp
              cases hs
              cases hw : wantOf want q with
              | false =>
                refine WO_pass (by rw [hgk, hw]) (next φ _ w ⟨hx.fr.put hp (by rw [hw]; simp only [VR]; intro e; cases e), hx.rel, hx.dom, hx.old, hx.new, hx.base⟩ rfl)
              | true =>
                have hC' : holds (andC (needs (evA x.s) o.op.operands.toList) C') := by
                  revert hC
                  cases andC (needs (evA x.s) o.op.operands.toList) C' with
                  | none => intro _; trivial
                  | some p => intro h; exact h hw
                obtain ⟨c1, c2⟩ := andC_holds hC'
                obtain ⟨v, h1, h2⟩ := roS_ok (strip_ev hx.fr c1) hro c2 hx.rel
                exact WO_val (by rw [hgk, hw]) h1 (next φ _ w ⟨hx.fr.put hp (by simp only [VR]; exact fun _ => h2), hx.rel, hx.dom, hx.old, hx.new, hx.base⟩ rfl)
            · cases hs
          · cases hs
        | false =>
          rw [hlz, cond_false] at hs
          cases hw : wantOf want q with
          | true =>
            rw [hw, cond_true] at hs
            exact step_run hx (by rw [hgk, hw]) hs hC next
          | false =>
            rw [hw, cond_false] at hs
            split at hs
            · rename_i s' hp
              cases hs
              exact WO_pass (by rw [hgk, hw]) (next φ _ w ⟨hx.fr.put hp undef_VR, hx.rel, hx.dom, hx.old, hx.new, hx.base⟩ rfl)
            · cases hs
      · cases hs
    · cases hs
theorem opsS_ok {lz : List Nat} : ∀ {l : List Oper} {x y : St} {C : Option Prop} {φ : Phi} {σ : Nat → Value} {w : World}, Holds B F n x φ σ w → opsS P n ops lz l x = some (y, C) → holds C →
    (∀ φ' σ' w', Holds B F n y φ' σ' w' → φ'.f = φ.f → WO P n ops rest Q σ' w') → WO P n ops (l ++ rest) Q σ w
  | [], x, y, C, φ, σ, w, hx, hs, hC, next => by
    cases hs; exact next _ _ _ hx rfl
  | o :: l, x, y, C, φ, σ, w, hx, hs, hC, next => by
    unfold opsS at hs
    split at hs
    · rename_i z C1 h1
      split at hs
      · rename_i u C2 h2
        cases hs
        obtain ⟨c1, c2⟩ := andC_holds hC
        exact stepS_ok (rest := l ++ rest) hx h1 c1 fun φ' σ' w' hh e1 => opsS_ok hh h2 c2 fun φ'' σ'' w'' hh' e2 => next φ'' σ'' w'' hh' (e2.trans e1)
      · cases hs
    · cases hs
end
end Sv
end Go.Proofs.YtaegacblpbbndaaDoor
end
section
namespace Go.Proofs.YtaegacblpbbndaaDoor
open Go Go.RowKit
set_option linter.unusedSimpArgs false
set_option linter.unusedVariables false
namespace Sv
def conc (B : Bas) (F : Cx) (n : Nat) (K : Exit → St → Prop) : Exit → (Nat → Value) → World → Prop := fun e σ w => ∃ x φ, Holds B F n x φ σ w ∧ K e x
def SO (P : Program) (n : Nat) (ops : Array Oper) (l : List Oper) (B : Bas) (F : Cx) (K : Exit → St → Prop) (x : St) : Prop := ∀ φ σ w, Holds B F n x φ σ w → WO P n ops l (conc B F n K) σ w
def SW (P : Program) (n : Nat) (c : Code) (B : Bas) (F : Cx) (K : Exit → St → Prop) (x : St) : Prop := ∀ φ σ w, Holds B F n x φ σ w → W P n c (conc B F n K) σ w
def seqK (k : St → Prop) (K : Exit → St → Prop) : Exit → St → Prop
  | .normal, x => k x
  | e, x => K e x
def blockK (id : Nat) (K : Exit → St → Prop) : Exit → St → Prop
  | .exit i, x => bif Nat.beq i id then K .normal x else K (.exit i) x
  | e, x => K e x
noncomputable def selS : List Nat → Fr → Option Fr
  | [], _ => some []
  | t :: ts, s => match look t s with
    | some a => match selS ts s with
      | some r => some ((t, a) :: r)
      | none => none
    | none => none
theorem look_sel {s : Fr} : ∀ {ts : List Nat} {r : Fr}, selS ts s = some r → ∀ t a, look t r = some a → look t s = some a
  | [], _, h, _, _, k => by cases h; cases k
  | u :: ts, _, h, t, a, k => by
    unfold selS at h
    split at h
    · rename_i b hb
      split at h
      · rename_i r' hr
        cases h
        simp only [look] at k
        rcases beq_cases u t with ⟨e, h1⟩ | ⟨e, _⟩ <;> rw [e] at k
        · cases k; rw [← h1]; exact hb
        · exact look_sel hr t a k
      · cases h
    · cases h
section
variable {P : Program} {B : Bas} {w : World} {F : Cx} {n : Nat} {φ : Phi} {σ : Nat → Value} {K : Exit → St → Prop} {x : St}
theorem Holds.sel {s : Fr} {ts : List Nat} (h : Holds B F n x φ σ w) (k : selS ts x.s = some s) : Holds B F n ⟨s, x.h, x.nx⟩ φ σ w := ⟨fun t a e => h.fr t a (look_sel k t a e), h.rel, h.dom, h.old, h.new, h.base⟩
theorem conc_mono {K' : Exit → St → Prop} (hk : ∀ e y, K e y → K' e y) {e : Exit} (h : conc B F n K e σ w) : conc B F n K' e σ w := by
  obtain ⟨y, φ, h1, h2⟩ := h; exact ⟨y, φ, h1, hk _ _ h2⟩
theorem SW_mono {c : Code} {K' : Exit → St → Prop} (h : SW P n c B F K x) (hk : ∀ e y, K e y → K' e y) : SW P n c B F K' x := fun φ σ w hx => W_mono (h φ σ w hx) fun e σ w => conc_mono hk
theorem SW_seq {c d : Code} (h : SW P n c B F (seqK (SW P n d B F K) K) x) : SW P n (.seq c d) B F K x := by
  intro φ σ w hx
  refine W_seq (W_mono (h φ σ w hx) ?_)
  rintro e σ' w' ⟨y, φ', h1, h2⟩
  cases e <;> first | exact h2 φ' σ' w' h1 | exact ⟨y, φ', h1, h2⟩
theorem SW_skip (h : K .normal x) : SW P n .skip B F K x := fun φ σ w hx => W_skip ⟨x, φ, hx, h⟩
theorem SW_ret (h : K .ret x) : SW P n .ret B F K x := fun φ σ w hx => W_ret ⟨x, φ, hx, h⟩
theorem SW_exit {id : Nat} (h : K (.exit id) x) : SW P n (.exit id) B F K x := fun φ σ w hx => W_exit ⟨x, φ, hx, h⟩
theorem SW_block {id : Nat} {c : Code} (h : SW P n c B F (blockK id K) x) : SW P n (.block id c) B F K x := by
  intro φ σ w hx
  refine W_block (W_mono (h φ σ w hx) ?_)
  rintro e σ' w' ⟨y, φ', h1, h2⟩
  cases e with
  | exit i =>
    simp only [blockK] at h2
    simp only [blockQ]
    rcases beq_cases i id with ⟨q, _⟩ | ⟨q, _⟩ <;> rw [q] at h2 ⊢ <;> exact ⟨y, φ', h1, h2⟩
  | _ => exact ⟨y, φ', h1, h2⟩
theorem SW_cond {o : Operand} {c d : Code} {q : Bool} (hq : evA x.s o = some (.bool q)) (ht : q = true → SW P n c B F K x) (hf : q = false → SW P n d B F K x) : SW P n (.cond o c d) B F K x := by
  intro φ σ w hx
  have := hx.fr.ev _ _ hq
  simp only [VR] at this
  exact W_cond this (fun h => ht h φ σ w hx) (fun h => hf h φ σ w hx)
theorem SW_if {o : Operand} {c d : Code} {p : Prop} [Decidable p] (hq : evA x.s o = some (.bool (decide p))) (ht : p → SW P n c B F K x) (hf : ¬ p → SW P n d B F K x) : SW P n (.cond o c d) B F K x :=
  SW_cond hq (fun h => ht (of_decide_eq_true h)) (fun h => hf (of_decide_eq_false h))
theorem SW_cut {c d : Code} (J : St → Prop) (h : SW P n c B F (seqK J K) x) (r : ∀ y, J y → SW P n d B F K y) : SW P n (.seq c d) B F K x := by
  refine SW_seq (SW_mono h ?_)
  intro e y k
  cases e <;> first | exact k | exact r y k
theorem SW_reg {id : Nat} {l : List Oper} (h : SO P n l.toArray l B F K x) : SW P n (.region id l.toArray false) B F K x := fun φ σ w hx => W_reg (h φ σ w hx)
theorem SO_nil {ops : Array Oper} (h : K .normal x) : SO P n ops [] B F K x := fun φ σ w hx => WO_nil ⟨x, φ, hx, h⟩
noncomputable def runS (P : Program) (n : Nat) (ops : Array Oper) (lz ts : List Nat) (l : List Oper) (x : St) : Option (St × Option Prop) := match opsS P n ops lz l x with
  | some (y, C) => match selS ts y.s with
    | some s => some (⟨s, y.h, y.nx⟩, C)
    | none => none
  | none => none
theorem SO_run {ops : Array Oper} {l : List Oper} {y : St} {C : Option Prop} (k : Nat) (lz ts : List Nat) (h : runS P n ops lz ts (l.take k) x = some (y, C)) (hC : holds C) (next : SO P n ops (l.drop k) B F K y) : SO P n ops l B F K x := by
  intro φ σ w hx
  unfold runS at h
  split at h
  · rename_i z C' hz
    split at h
    · rename_i s hs
      cases h
      have := opsS_ok (rest := l.drop k) (Q := conc B F n K) hx hz hC (fun φ' σ' w' hh _ => next φ' σ' w' (hh.sel hs))
      rw [List.take_append_drop] at this
      exact this
    · cases h
  · cases h
theorem SO_all {ops : Array Oper} {l : List Oper} {y : St} {C : Option Prop} (lz ts : List Nat) (h : runS P n ops lz ts l x = some (y, C)) (hC : holds C) (next : K .normal y) : SO P n ops l B F K x := by
  refine SO_run l.length lz ts (by rw [List.take_length]; exact h) hC ?_
  rw [List.drop_length]; exact SO_nil next
end
def Fro (F : Nat → Option Obj) (w : World) : Prop := ∀ b o, F b = some o → w.heap[b]? = some o
def ofF (F : Nat → Option Obj) : Phi := ⟨fun _ => none, fun _ => none, F⟩
def FnV (P : Program) (f : Nat) (al : List AV) (r : AV) : Prop := ∀ (F : Nat → Option Obj) (w : World) (vs : List Value), Fro F w → VRl (ofF F) al vs → Calls P f vs.toArray w (Ret fun v w' => Below w.heap.size w w' ∧
  ∃ F', (∀ b o, F b = some o → F' b = some o) ∧ Fro F' w' ∧ (∀ b o, F' b = some o → F b = some o ∨ w.heap.size ≤ b) ∧ VR (ofF F') r v)
noncomputable def evsA (e : Operand → Option AV) : List Operand → Option (List AV)
  | [] => some []
  | x :: l => match e x with
    | some a => match evsA e l with
      | some r => some (a :: r)
      | none => none
    | none => none
theorem evsA_ok {φ : Phi} {e : Operand → Option AV} {ρ : Operand → Value} (hev : EVR φ e ρ) : ∀ {l : List Operand} {r : List AV}, evsA e l = some r → VRl φ r (l.map ρ)
  | [], _, h => by cases h; exact .nil
  | x :: l, _, h => by
    unfold evsA at h
    split at h
    · rename_i a ha
      split at h
      · rename_i r hr; cases h; exact .cons (hev _ _ ha) (evsA_ok hev hr)
      · cases h
    · cases h
noncomputable def guardS (ops : Array Oper) (s : Fr) : Option (Nat × Bool) → Bool
  | none => true
  | some (j, want) => match gdst ops.toList j with
    | some t => match look t s with
      | some (.bool q) => wantOf want q
      | _ => false
    | none => false
section
variable {P : Program} {B : Bas} {w : World} {F : Cx} {n : Nat} {φ : Phi} {σ : Nat → Value} {K : Exit → St → Prop} {x : St}
theorem guardS_ok {ops : Array Oper} {g : Option (Nat × Bool)} (h : FRel φ n x.s σ) (k : guardS ops x.s g = true) : gOk ops n σ g = true := by
  cases g with
  | none => rfl
  | some g =>
    obtain ⟨j, want⟩ := g
    unfold guardS at k
    unfold gOk
    simp only at k ⊢
    split at k
    · rename_i t ht
      split at k
      · rename_i q hq
        have := h _ _ hq
        simp only [VR] at this
        rw [ht]; simp only [this, isB]; exact k
      · cases k
    · cases k
theorem Holds.called {w' : World} {F' : Nat → Option Obj} (hx : Holds B F n x φ σ w) (hb : Below w.heap.size w w') (h1 : ∀ b o, φ.f b = some o → F' b = some o) (h2 : Fro F' w') (h3 : ∀ b o, F' b = some o → φ.f b = some o ∨ w.heap.size ≤ b) :
    Holds B F n x ⟨φ.m, φ.s, F'⟩ σ w' := by
  have hle : φ.le ⟨φ.m, φ.s, F'⟩ := ⟨fun _ _ e => e, fun _ _ e => e, h1⟩
  exact ⟨fun t a e => (hx.fr t a e).mono hle, hx.rel.go hle hb h2 h3, hx.dom, fun b o e => h1 _ _ (hx.old b o e), fun b o e => (h3 b o e).elim (hx.new b o) (fun q => .inr (fun k => Nat.lt_irrefl _ (Nat.lt_of_lt_of_le (hx.rel.below.lt k) q))), hx.base⟩
theorem SO_call {ops : Array Oper} {rest : List Oper} {f : FuncId} {ar : Array Operand} {ts : Array TypeId} {ty : TypeId} {ps : String} {dst : Option Tmp} {af : Array Edge} {g : Option (Nat × Bool)} {al : List AV} {r : AV} {s' : Fr}
    (hg : guardS ops x.s g = true) (he : Enters P f) (ha : evsA (evA x.s) ar.toList = some al) (hz : frzl al = true) (hf : FnV P f al r) (hp : putF n dst r x.s = some s')
    (next : SO P n ops rest B F K ⟨s', x.h, x.nx⟩) : SO P n ops (⟨dst, .call { callee := .value (.func f), args := ar, argTypes := ts }, ty, ps, af, g⟩ :: rest) B F K x := by
  intro φ σ w hx
  have hv := (evsA_ok hx.fr.ev ha).fz hz
  refine WO_call (guardS_ok hx.fr hg) he (hf φ.f w _ hx.rel.fro hv) ?_
  rintro v w' ⟨hb, F', h1, h2, h3, h4⟩
  have hh := hx.called hb h1 h2 h3
  exact next _ _ _ ⟨hh.fr.put hp (h4.mono (Phi.le_fz ⟨φ.m, φ.s, F'⟩)), hh.rel, hh.dom, hh.old, hh.new, hh.base⟩
end
end Sv
end Go.Proofs.YtaegacblpbbndaaDoor
end
section
namespace Go.Proofs.YtaegacblpbbndaaDoor
open Go Go.RowKit
set_option linter.unusedSimpArgs false
set_option linter.unusedVariables false
namespace Sv
def YieldsL (h : AH) (al rl : List AV) (h' : AH) : Prop := ∀ (B : Bas) (φ : Phi) (w : World) (vs : List Value), Rel B φ h w → VRl φ al vs → ∃ F', (∀ b o, φ.f b = some o → F' b = some o) ∧ (∀ b o, F' b = some o → φ.f b = some o ∨ ¬ B.old b) ∧ Rel B ⟨φ.m, φ.s, F'⟩ h' w ∧ VRl (ofF F') rl vs
theorem leF {φ : Phi} {F' : Nat → Option Obj} (h : ∀ b o, φ.f b = some o → F' b = some o) : φ.le ⟨φ.m, φ.s, F'⟩ := ⟨fun _ _ e => e, fun _ _ e => e, h⟩
theorem ofF_le {F F' : Nat → Option Obj} (h : ∀ b o, F b = some o → F' b = some o) : (ofF F).le (ofF F') := ⟨fun _ _ e => e, fun _ _ e => e, h⟩
theorem YL_nil {h : AH} : YieldsL h [] [] h := fun B φ w vs r hv => ⟨φ.f, fun _ _ e => e, fun _ _ e => .inl e, r, by rw [hv.nil_inv]; exact .nil⟩
theorem YL_append {h h1 h2 : AH} {a b c d : List AV} (k1 : YieldsL h a c h1) (k2 : YieldsL h1 b d h2) : YieldsL h (a ++ b) (c ++ d) h2 := by
  intro B φ w vs r hv
  obtain ⟨vs1, vs2, rfl, e1, e2⟩ : ∃ vs1 vs2, vs = vs1 ++ vs2 ∧ VRl φ a vs1 ∧ VRl φ b vs2 := by
    clear k1 k2
    induction a generalizing vs with
    | nil => exact ⟨[], vs, rfl, .nil, hv⟩
    | cons x r ih =>
      obtain ⟨v, vs', rfl, h1, h2⟩ := hv.cons_inv
      obtain ⟨p, q, rfl, e1, e2⟩ := ih _ h2
      exact ⟨v :: p, q, rfl, .cons h1 e1, e2⟩
  obtain ⟨F1, f1, f2, f3, f4⟩ := k1 B φ w vs1 r e1
  obtain ⟨F2, g1, g2, g3, g4⟩ := k2 B ⟨φ.m, φ.s, F1⟩ w vs2 f3 (e2.mono (leF f1))
  exact ⟨F2, fun b o e => g1 b o (f1 b o e), fun b o e => (g2 b o e).elim (f2 b o) .inr, g3, (f4.mono (ofF_le g1)).append g4⟩
theorem Rel.still {B : Bas} {w : World} {φ : Phi} {h : AH} (r : Rel B φ h w) {b k : Nat} {o : AO} {ob : Obj} (hb : getH b h = some o) (hi : img φ b o = some k) (hk : w.heap[k]? = some ob) :
    Rel B ⟨φ.m, φ.s, fun i => if i = k then some ob else φ.f i⟩ (delH b h) w ∧ (∀ b o, φ.f b = some o → (if b = k then some ob else φ.f b) = some o) ∧ ∀ b o, (if b = k then some ob else φ.f b) = some o → φ.f b = some o ∨ ¬ B.old b := by
  have hgf := r.gf b o k hb hi
  have hle : ∀ b o, φ.f b = some o → (if b = k then some ob else φ.f b) = some o := fun c o' e => by rw [if_neg (by rintro rfl; rw [hgf.2.2] at e; cases e)]; exact e
  refine ⟨(r.del b).frame (fun c o' e => SameO.of_le (leF hle) (r.obj c o' (get_del e).2)) r.below (Nat.le_refl _) (fun c o' e => ?_) (fun c o' j e i => ⟨rfl, ?_⟩), hle, fun c o' e => ?_⟩
  · simp only at e
    split at e
    · rename_i q; cases e; rw [q]; exact hk
    · exact r.fro c o' e
  · have e' := get_del e
    show (if j = k then some ob else φ.f j) = none
    rw [if_neg (by rintro rfl; exact e'.1 (r.sep c b o' o j e'.2 hb i hi))]
    exact (r.gf c o' j e'.2 i).2.2
  · split at e
    · rename_i q; rw [q]; exact .inr hgf.1
    · exact .inl e
theorem row_of_flat {F : Nat → Option Obj} {x sz n c : Nat} {cs : Array Value} {e : Nat} {fr : Nat × Nat} {vs : List Value} (hF : F x = some (.cells cs e fr)) (hn : vs.length = n) (hc : n ≤ c) (hs : ∀ u ∈ vs, u.cells.size = sz ∧ ∀ q ∈ u.cells.toList, q.oneCell' = true)
    (hcs : cs.toList.take (n * sz) = vs.flatMap fun u => u.cells.toList) : RowAt F sz n (fun i => nth vs i) (.slice (some ⟨x, 0, none⟩) n c) := by
  refine .inr ⟨x, 0, c, rfl, hc, fun i hi => ?_⟩
  have hm : nth vs i ∈ vs := nth_mem (by omega)
  refine ⟨(hs _ hm).1, cs, e, fr, hF, fun j u hj => ?_⟩
  have hj' : j < sz := by have := (List.getElem?_eq_some_iff.1 hj).1; rw [Array.length_toList, (hs _ hm).1] at this; exact this
  have h1 : (vs.map fun u => u.cells.toList).flatten[i * sz + j]? = some u := by
    rw [flat_at (sz := sz) (vs.map fun u => u.cells.toList) i j (fun c hc => by obtain ⟨v, hv, rfl⟩ := List.mem_map.1 hc; rw [Array.length_toList]; exact (hs v hv).1) (by rw [List.length_map]; omega) hj']
    rw [show nth (vs.map fun u => u.cells.toList) i = (nth vs i).cells.toList by
      have hi' : i < vs.length := by omega
      simp only [nth, List.getElem?_map, List.getElem?_eq_getElem hi', Option.map_some, Option.getD_some]]
    exact hj
  refine ⟨?_, (hs _ hm).2 u (List.mem_of_getElem? hj)⟩
  rw [← List.flatMap_def, ← hcs] at h1
  obtain ⟨hlt, _⟩ := List.getElem?_eq_some_iff.1 h1
  rw [List.getElem?_take_of_lt (by rw [List.length_take] at hlt; omega)] at h1
  rw [Nat.zero_add, ← Array.getElem?_toList]
  exact h1
theorem VRl.nth {φ : Phi} {es : List AV} {vs : List Value} (h : VRl φ es vs) {i : Nat} (hi : i < es.length) : VR φ (es.getD i junk) (Go.Proofs.YtaegacblpbbndaaDoor.nth vs i) := by
  obtain ⟨v, h1, h2⟩ := h.get (List.getElem?_eq_getElem hi)
  rw [List.getD_eq_getElem?_getD, List.getElem?_eq_getElem hi]
  simp only [Go.Proofs.YtaegacblpbbndaaDoor.nth, h1, Option.getD_some]
  exact h2
section
variable (P : Program)
mutual
noncomputable def frzV (h : AH) : AV → Option (AV × AH)
  | .own b => match getH b h with
    | some (.grow es _ sz) => some (.row sz es.length (fun i => es.getD i junk), delH b h)
    | _ => none
  | .sl b o n c op => match getH b h with
    | some (.row cs e) => match tsz P e with
      | some sz => bif Nat.beq o 0 && Nat.beq (n * sz) cs.length && frzl cs && ones cs && Nat.blt 0 sz && !op && Nat.ble n c then some (.row sz n (fun i => (chunk sz n cs).getD i junk), delH b h) else none
      | none => none
    | _ => none
  | .ptr b o => match getH b h with
    | some (.row cs e) => bif Nat.beq o 0 && frzl cs && ones cs then some (.fp (.agg cs), delH b h) else none
    | _ => none
  | .agg l => match frzVl h l with
    | some (r, h') => some (.agg r, h')
    | none => none
  | .tup l => match frzVl h l with
    | some (r, h') => some (.tup r, h')
    | none => none
  | .fn f fi cap => bif frzl fi then (match frzVl h cap with
    | some (r, h') => some (.fn f fi r, h')
    | none => none) else none
  | a => bif frz a then some (a, h) else none
noncomputable def frzVl (h : AH) : List AV → Option (List AV × AH)
  | [] => some ([], h)
  | a :: l => match frzV h a with
    | some (b, h1) => match frzVl h1 l with
      | some (r, h2) => some (b :: r, h2)
      | none => none
    | none => none
end
end
theorem YL_one {h : AH} {a : AV} (k : frz a = true) : YieldsL h [a] [a] h := fun B φ w vs r hv => ⟨φ.f, fun _ _ e => e, fun _ _ e => .inl e, r, hv.fz (by simp only [frzl, k, Bool.and_true])⟩
theorem VRl.single_inv {φ : Phi} {a : AV} {vs : List Value} (h : VRl φ [a] vs) : ∃ v, vs = [v] ∧ VR φ a v := by
  obtain ⟨v, vs', rfl, h1, h2⟩ := h.cons_inv
  rw [h2.nil_inv]; exact ⟨v, rfl, h1⟩
theorem bif_some {q : Bool} {α : Type} {x : Option α} {r : α} (h : (bif q then x else none) = some r) : q = true ∧ x = some r := by
  cases q
  · cases h
  · exact ⟨rfl, h⟩
mutual
theorem frzV_ok {P : Program} : ∀ {a : AV} {h h' : AH} {r : AV}, frzV P h a = some (r, h') → YieldsL h [a] [r] h'
  | .own b, h, h', r, hq => by
    unfold frzV at hq
    split at hq
    · rename_i es e sz hb
      cases hq
      intro B φ w vs rl hv
      obtain ⟨v, rfl, hv1⟩ := hv.single_inv; clear hv; have hv := hv1
      simp only [VR] at hv
      obtain ⟨v0, us, q1, q2, q3, q4⟩ := rl.obj b _ hb
      rw [hv.1] at q1; cases q1
      have hlen := q3.length
      rcases q2.2 with ⟨rfl, hn⟩ | ⟨g, cap, cur, rfl, hg1, hg2, hg3, hg4, hg5, hg6⟩
      · refine ⟨φ.f, fun _ _ e => e, fun _ _ e => .inl e, rl.del b, .single ?_⟩
        simp only [VR]
        exact ⟨fun _ => undef, fun i hi => by omega, .inl ⟨hn, .inl rfl⟩⟩
      · have hi : img φ b (.grow es e sz) = some g := by simp [img, hv.1, Value.ownBlock]
        obtain ⟨k1, k2, k3⟩ := rl.still hb hi hg2
        refine ⟨_, k2, k3, k1, .single ?_⟩
        simp only [VR]
        refine ⟨fun i => nth us i, fun i hi => (q3.nth hi).mono (ofF_le k2), ?_⟩
        exact row_of_flat (F := fun i => if i = g then some (Obj.cells cur e (0, 0)) else φ.f i) (if_pos rfl) hlen hg3 q4 hg6
    · cases hq
  | .sl b o n c op, h, h', r, hq => by
    unfold frzV at hq
    split at hq
    · rename_i cs e hb
      split at hq
      · rename_i sz hsz
        obtain ⟨h3, h4⟩ := bif_some hq
        cases h4
        simp only [Bool.and_eq_true, Bool.not_eq_true'] at h3
        obtain ⟨⟨⟨⟨⟨⟨c0, c1⟩, c2⟩, c3⟩, c4⟩, c5⟩, c6⟩ := h3
        have := Nat.eq_of_beq_eq_true c0; subst this
        have c1' := Nat.eq_of_beq_eq_true c1
        have c4' : 0 < sz := by simpa [Nat.blt_eq] using c4
        subst c5
        intro B φ w vs rl hv
        obtain ⟨v, rfl, hv1⟩ := hv.single_inv; clear hv; have hv := hv1
        simp only [VR] at hv
        obtain ⟨y, κ, hφ, hv⟩ := hv
        have hv' : v = .slice (some ⟨y, 0, none⟩) n c := by
          rcases hv with ⟨q, _⟩ | ⟨_, hv⟩
          · cases q
          · exact hv
        subst hv'
        obtain ⟨us, e1, e2⟩ := rl.rowAt hb hφ
        have hl := e2.length
        have hones := e2.ones c3
        obtain ⟨ws, k1, k2, k3, k4⟩ := chunk_ok c4' n cs us.toList (VRl.fz e2 c2) (by omega) c3 hones
        have hi : img φ b (.row cs e) = some y := by simp [img, hφ]
        obtain ⟨g1, g2, g3⟩ := rl.still hb hi e1
        refine ⟨_, g2, g3, g1, .single ?_⟩
        simp only [VR]
        have hcl : (chunk sz n cs).length = n := by rw [← k1.length, k2]
        refine ⟨fun i => nth ws i, fun i hi => (k1.nth (by omega)).mono (ofF_le g2), ?_⟩
        refine row_of_flat (F := fun i => if i = y then some (Obj.cells us e (0, 0)) else φ.f i) (if_pos rfl) k2 (ble_of c6) (fun u hu => ⟨k3 u hu, fun q hq => hones q (by rw [← k4]; exact List.mem_flatMap.2 ⟨u, hu, hq⟩)⟩) ?_
        rw [k4, List.take_of_length_le (by omega)]
      · cases hq
    · cases hq
  | .ptr b o, h, h', r, hq => by
    unfold frzV at hq
    split at hq
    · rename_i cs e hb
      obtain ⟨h3, h4⟩ := bif_some hq
      cases h4
      simp only [Bool.and_eq_true] at h3
      obtain ⟨⟨c0, c2⟩, c3⟩ := h3
      have := Nat.eq_of_beq_eq_true c0; subst this
      intro B φ w vs rl hv
      obtain ⟨v, rfl, hv1⟩ := hv.single_inv; clear hv; have hv := hv1
      simp only [VR] at hv
      obtain ⟨y, κ, hφ, rfl⟩ := hv
      obtain ⟨us, e1, e2⟩ := rl.rowAt hb hφ
      have hones := e2.ones c3
      have hi : img φ b (.row cs e) = some y := by simp [img, hφ]
      obtain ⟨g1, g2, g3⟩ := rl.still hb hi e1
      refine ⟨_, g2, g3, g1, .single ?_⟩
      simp only [VR]
      refine ⟨y, 0, .agg us, rfl, ⟨us.toList, (VRl.fz e2 c2).mono (ofF_le g2), by simp⟩, us, e, (0, 0), if_pos rfl, fun j u hj => ?_⟩
      rw [Nat.zero_add]
      exact ⟨by simpa [Value.cells] using hj, hones u (List.mem_of_getElem? hj)⟩
    · cases hq
  | .agg l, h, h', r, hq => by
    unfold frzV at hq
    split at hq
    · rename_i r' h1 hl
      cases hq
      intro B φ w vs rl hv
      obtain ⟨v, rfl, hv1⟩ := hv.single_inv; clear hv; have hv := hv1
      simp only [VR] at hv
      obtain ⟨us, hu, rfl⟩ := hv
      obtain ⟨F', f1, f2, f3, f4⟩ := frzVl_ok hl B φ w us rl hu
      exact ⟨F', f1, f2, f3, .single (by simp only [VR]; exact ⟨us, f4, rfl⟩)⟩
    · cases hq
  | .tup l, h, h', r, hq => by
    unfold frzV at hq
    split at hq
    · rename_i r' h1 hl
      cases hq
      intro B φ w vs rl hv
      obtain ⟨v, rfl, hv1⟩ := hv.single_inv; clear hv; have hv := hv1
      simp only [VR] at hv
      obtain ⟨us, hu, rfl⟩ := hv
      obtain ⟨F', f1, f2, f3, f4⟩ := frzVl_ok hl B φ w us rl hu
      exact ⟨F', f1, f2, f3, .single (by simp only [VR]; exact ⟨us, f4, rfl⟩)⟩
    · cases hq
  | .fn f fi cap, h, h', r, hq => by
    unfold frzV at hq
    obtain ⟨c1, hq⟩ := bif_some hq
    split at hq
    · rename_i r' h1 hl
      cases hq
      intro B φ w vs rl hv
      obtain ⟨v, rfl, hv1⟩ := hv.single_inv; clear hv; have hv := hv1
      simp only [VR] at hv
      obtain ⟨vf, vc, e1, e2, rfl⟩ := hv
      obtain ⟨F', f1, f2, f3, f4⟩ := frzVl_ok hl B φ w vc rl e2
      exact ⟨F', f1, f2, f3, .single (by simp only [VR]; exact ⟨vf, vc, (VRl.fz e1 c1).mono (ofF_le f1), f4, rfl⟩)⟩
    · cases hq
  | .bool _, h, h', r, hq => by unfold frzV at hq; obtain ⟨c1, hq⟩ := bif_some hq; cases hq; exact YL_one c1
  | .int _ _, h, h', r, hq => by unfold frzV at hq; obtain ⟨c1, hq⟩ := bif_some hq; cases hq; exact YL_one c1
  | .str _, h, h', r, hq => by unfold frzV at hq; obtain ⟨c1, hq⟩ := bif_some hq; cases hq; exact YL_one c1
  | .nilp, h, h', r, hq => by unfold frzV at hq; obtain ⟨c1, hq⟩ := bif_some hq; cases hq; exact YL_one c1
  | .nils, h, h', r, hq => by unfold frzV at hq; obtain ⟨c1, hq⟩ := bif_some hq; cases hq; exact YL_one c1
  | .sle, h, h', r, hq => by unfold frzV at hq; obtain ⟨c1, hq⟩ := bif_some hq; cases hq; exact YL_one c1
  | .map _, h, h', r, hq => by unfold frzV at hq; obtain ⟨c1, hq⟩ := bif_some hq; cases hq; exact YL_one c1
  | .nilm, h, h', r, hq => by unfold frzV at hq; obtain ⟨c1, hq⟩ := bif_some hq; cases hq; exact YL_one c1
  | .nilf, h, h', r, hq => by unfold frzV at hq; obtain ⟨c1, hq⟩ := bif_some hq; cases hq; exact YL_one c1
  | .ifc _ _, h, h', r, hq => by unfold frzV at hq; obtain ⟨c1, hq⟩ := bif_some hq; cases hq; exact YL_one c1
  | .nili, h, h', r, hq => by unfold frzV at hq; obtain ⟨c1, hq⟩ := bif_some hq; cases hq; exact YL_one c1
  | .raw _, h, h', r, hq => by unfold frzV at hq; obtain ⟨c1, hq⟩ := bif_some hq; cases hq; exact YL_one c1
  | .row _ _ _, h, h', r, hq => by unfold frzV at hq; obtain ⟨c1, hq⟩ := bif_some hq; cases hq; exact YL_one c1
  | .fp _, h, h', r, hq => by unfold frzV at hq; obtain ⟨c1, hq⟩ := bif_some hq; cases hq; exact YL_one c1
  | .cond _ _, h, h', r, hq => by unfold frzV at hq; obtain ⟨c1, hq⟩ := bif_some hq; cases hq; exact YL_one c1
theorem frzVl_ok {P : Program} : ∀ {l : List AV} {h h' : AH} {r : List AV}, frzVl P h l = some (r, h') → YieldsL h l r h'
  | [], h, h', r, hq => by cases hq; exact YL_nil
  | a :: l, h, h', r, hq => by
    unfold frzVl at hq
    split at hq
    · rename_i b h1 ha
      split at hq
      · rename_i r' h2 hl
        cases hq
        exact YL_append (frzV_ok ha) (frzVl_ok hl)
      · cases hq
    · cases hq
end
def Same (r r' : AV) : Prop := ∀ F v, VR (ofF F) r v → VR (ofF F) r' v
theorem Same.rfl' {r : AV} : Same r r := fun _ _ h => h
theorem Same.trans {a b c : AV} (h : Same a b) (k : Same b c) : Same a c := fun F v q => k F v (h F v q)
theorem Same.row {sz n : Nat} {f g : Nat → AV} (h : ∀ i, i < n → Same (f i) (g i)) : Same (.row sz n f) (.row sz n g) := by
  intro F v k
  simp only [VR] at k ⊢
  obtain ⟨u, k1, k2⟩ := k
  exact ⟨u, fun i hi => h i hi F _ (k1 i hi), k2⟩
def rowOf {α : Type} [Inhabited α] (sz : Nat) (f : α → AV) (l : List α) : AV := .row sz l.length (fun i => f (nth l i))
theorem Same.list {α : Type} [Inhabited α] {sz : Nat} {f : α → AV} {l : List α} {n : Nat} (hn : n = l.length) : Same (.row sz n (fun i => (l.map f).getD i junk)) (rowOf sz f l) := by
  subst hn
  refine Same.row fun i hi => ?_
  have : (l.map f).getD i junk = f (nth l i) := by
    simp only [List.getD_eq_getElem?_getD, List.getElem?_map, nth, List.getElem?_eq_getElem hi, Option.map_some, Option.getD_some]
  rw [this]; exact Same.rfl'
theorem Same.grown {α : Type} [Inhabited α] {sz : Nat} {f : α → AV} {l : List α} {es : List AV} (h : es = l.map f) : Same (.row sz es.length (fun i => es.getD i junk)) (rowOf sz f l) := by
  subst h; exact Same.list (by rw [List.length_map])
theorem Same.nil {α : Type} [Inhabited α] {sz : Nat} {f : α → AV} : Same .nils (rowOf sz f []) := by
  intro F v k
  simp only [VR] at k; subst k
  unfold rowOf
  simp only [VR]
  exact ⟨fun _ => undef, fun i hi => absurd hi (by simp), .inl ⟨rfl, .inl rfl⟩⟩
theorem Same.agg {l m : List AV} (h : ∀ F vs, VRl (ofF F) l vs → VRl (ofF F) m vs) : Same (.agg l) (.agg m) := by
  intro F v k
  simp only [VR] at k ⊢
  obtain ⟨vs, k1, k2⟩ := k; exact ⟨vs, h F vs k1, k2⟩
theorem Same.tup {l m : List AV} (h : ∀ F vs, VRl (ofF F) l vs → VRl (ofF F) m vs) : Same (.tup l) (.tup m) := by
  intro F v k
  simp only [VR] at k ⊢
  obtain ⟨vs, k1, k2⟩ := k; exact ⟨vs, h F vs k1, k2⟩
theorem SameL.cons {a b : AV} {l m : List AV} (h : Same a b) (k : ∀ F vs, VRl (ofF F) l vs → VRl (ofF F) m vs) : ∀ F vs, VRl (ofF F) (a :: l) vs → VRl (ofF F) (b :: m) vs := by
  intro F vs q
  obtain ⟨v, vs', rfl, q1, q2⟩ := q.cons_inv
  exact .cons (h F v q1) (k F vs' q2)
theorem SameL.nil : ∀ F vs, VRl (ofF F) [] vs → VRl (ofF F) [] vs := fun _ _ h => h
theorem FnV.to {P : Program} {f : Nat} {al : List AV} {r r' : AV} (h : FnV P f al r) (e : Same r r') : FnV P f al r' := fun F w vs h1 h2 => (h F w vs h1 h2).mono fun en w' hh => by
  obtain ⟨v, hv, hb, F', q1, q2, q3, q4⟩ := hh
  exact ⟨v, hv, hb, F', q1, q2, q3, e _ _ q4⟩
noncomputable def argF : Nat → List AV → Fr
  | _, [] => []
  | i, a :: l => (i, a) :: argF (i + 1) l
noncomputable def pack : List AV → AV
  | [a] => a
  | l => .tup l
theorem look_arg {φ : Phi} : ∀ {al : List AV} {vs : List Value} {i t : Nat} {a : AV}, VRl φ al vs → look t (argF i al) = some a → i ≤ t ∧ VR φ a (vs.getD (t - i) undef) ∧ t - i < vs.length
  | [], _, _, _, _, _, h => by cases h
  | b :: l, vs, i, t, a, hv, h => by
    obtain ⟨v, vs', rfl, h1, h2⟩ := hv.cons_inv
    simp only [argF, look] at h
    rcases beq_cases i t with ⟨e, q⟩ | ⟨e, q⟩ <;> rw [e] at h
    · cases h; subst q
      simp only [Nat.sub_self]
      exact ⟨Nat.le_refl _, h1, by simp⟩
    · obtain ⟨k1, k2, k3⟩ := look_arg h2 h
      refine ⟨by omega, ?_, by simp only [List.length_cons]; omega⟩
      rw [show t - i = (t - (i + 1)) + 1 by omega]
      exact k2
end Sv
end Go.Proofs.YtaegacblpbbndaaDoor
end
section
namespace Go.Proofs.YtaegacblpbbndaaDoor
open Go Go.RowKit
set_option linter.unusedSimpArgs false
set_option linter.unusedVariables false
namespace Sv
noncomputable def packW : List Value → Value
  | [v] => v
  | l => .tuple l.toArray
noncomputable def resOne (P : Program) (x : St) : ResultVar → Option AV
  | .tmp t => look t x.s
  | .cell t ty => match look t x.s with
    | some (.ptr b o) => loadS P ty (.ptr b o) x.h
    | _ => none
noncomputable def selR (P : Program) : List ResultVar → St → Option (List AV)
  | [], _ => some []
  | r :: l, x => match resOne P x r with
    | some a => match selR P l x with
      | some m => some (a :: m)
      | none => none
    | none => none
noncomputable def resSem (a : Act) : ResultVar → Sem Value
  | .tmp t => pure (a.tmps.getD t undef)
  | .cell x t => do loadVar t (← asAddr (a.tmps.getD x undef))
theorem selR_ok {P : Program} {B : Bas} {φ : Phi} {n : Nat} {σ : Nat → Value} {w : World} {x : St} (hf : FRel φ n x.s σ) (r : Rel B φ x.h w) : ∀ {l : List ResultVar} {m : List AV}, selR P l x = some m → ∃ vs, VRl φ m vs ∧ (l.mapM (m := Sem) (resSem (mk n σ))).run P w = .ok vs w
  | [], _, h => by cases h; exact ⟨[], .nil, by simp [go_sem]⟩
  | y :: l, _, h => by
    unfold selR at h
    split at h
    · rename_i b hb
      split at h
      · rename_i m hm
        cases h
        obtain ⟨vs, h1, h2⟩ := selR_ok hf r hm
        cases y with
        | tmp t =>
          have hv := hf t b hb
          refine ⟨sl n σ t :: vs, .cons hv h1, ?_⟩
          have hA : (resSem (mk n σ) (.tmp t)).run P w = .ok (sl n σ t) w := by rw [← mk_getD]; rfl
          rw [List.mapM_cons, Sem.run_bind, hA, Result.andThen_ok, Sem.run_bind, h2]; rfl
        | cell t ty =>
          unfold resOne at hb
          simp only at hb
          split at hb
          · rename_i c o hc
            have hv := hf t _ hc
            obtain ⟨v, g1, g2⟩ := loadS_ok (P := P) hb hv r
            refine ⟨v :: vs, .cons g2 h1, ?_⟩
            simp only [VR] at hv
            obtain ⟨z, κ, _, hv⟩ := hv
            have hl : (loadVar ty ⟨z, o, none⟩).run P w = .ok v w := by
              rw [hv] at g1
              simpa only [Instr.loadAt, Instr.sureAddr, Sem.run_bind, Sem.run_pure, Result.andThen_ok] using g1
            have hA : (resSem (mk n σ) (.cell t ty)).run P w = .ok v w := by simp only [resSem, mk_getD, hv, asAddr, Sem.run_bind, Sem.run_pure, Result.andThen_ok, hl]
            rw [List.mapM_cons, Sem.run_bind, hA, Result.andThen_ok, Sem.run_bind, h2]; rfl
          · cases hb
      · cases h
    · cases h
theorem res_run {P : Program} {fn : Func} {a : Act} {rs : List ResultVar} {vs : List Value} {w : World} (hr : fn.results = rs.toArray) (h : (rs.mapM (m := Sem) (resSem a)).run P w = .ok vs w) : (results fn a.tmps).run P w = .ok (packW vs) w := by
  unfold results
  rw [Array.mapM_eq_mapM_toList]
  simp only [Sem.run_bind, Sem.run_map]
  have h3 : ∀ g : ResultVar → Sem Value, (∀ x, g x = resSem a x) → (fn.results.toList.mapM (m := Sem) g).run P w = .ok vs w := by
    intro g hg
    rw [funext hg, hr]; exact h
  rw [h3 _ (fun x => by cases x <;> rfl)]
  match vs with
  | [] => rfl
  | [v] => rfl
  | v :: u :: l => rfl
def retK (P : Program) (rs : List ResultVar) (r : AV) : Exit → St → Prop := fun e x => (e = .ret ∨ e = .normal) ∧ ∃ al rl h', selR P rs x = some al ∧ frzVl P x.h al = some (rl, h') ∧ Same (pack rl) r
theorem retK_mk {P : Program} {rs : List ResultVar} {r : AV} {x : St} {al rl : List AV} {h' : AH} {e : Exit} (he : e = .ret ∨ e = .normal) (h1 : selR P rs x = some al) (h2 : frzVl P x.h al = some (rl, h')) (h3 : Same (pack rl) r) : retK P rs r e x := ⟨he, al, rl, h', h1, h2, h3⟩
theorem pack_VR {φ : Phi} {al : List AV} {vs : List Value} (h : VRl φ al vs) : VR φ (pack al) (packW vs) := by
  match al, h with
  | [], h => rw [h.nil_inv]; simp only [pack, packW, VR]; exact ⟨[], .nil, rfl⟩
  | [a], h => obtain ⟨v, rfl, hv⟩ := h.single_inv; exact hv
  | a :: b :: l, h =>
    obtain ⟨v, vs', rfl, h1, h2⟩ := h.cons_inv
    obtain ⟨u, vs'', rfl, h3, h4⟩ := h2.cons_inv
    simp only [pack, packW, VR]; exact ⟨_, .cons h1 (.cons h3 h4), rfl⟩
theorem FnV_intro {P : Program} {f : FuncId} {fn : Func} {c : Code} {n : Nat} {al : List AV} {r : AV} (rs : List ResultVar) (hf : P.funcs[f]? = some fn) (hb : fn.body = some c) (hn : fn.ntmps = n) (hr : fn.results = rs.toArray) (ha : Nat.ble al.length n = true)
    (h : ∀ (B : Bas) (F : Cx), F.lo = 0 → SW P n c B F (retK P rs r) ⟨argF 0 al, [], 0⟩) : FnV P f al r := by
  intro F w vs hF hv
  have hlen := hv.length
  have hal : al.length ≤ n := Nat.le_of_ble_eq_true ha
  refine calls_W hf hb hn ?_ (by rw [hlen]; exact ha)
  have hx : Holds ⟨w, fun k => k < w.heap.size, fun _ h => h⟩ ⟨F, fun _ => none, 0, fun _ _ e => by cases e⟩ n ⟨argF 0 al, [], 0⟩ (ofF F) (argσ vs) w := by
    refine ⟨fun t a e => ?_, ⟨⟨rfl, rfl, rfl, Nat.le_refl _, fun _ _ => rfl⟩, hF, fun b o e => (by cases e), fun b b' o o' k e => (by cases e), fun b o k e => (by cases e)⟩, fun b _ => ⟨rfl, rfl⟩, fun b o e => e, fun b o e => .inl e, fun b o e => (by cases e)⟩
    obtain ⟨h1, h2, h3⟩ := look_arg hv e
    rw [Nat.sub_zero] at h2 h3
    have ht : Nat.blt t n = true := by simp only [Nat.blt_eq]; omega
    simp only [sl, ht, cond_true, argσ]; exact h2
  refine W_mono (h _ _ rfl _ _ _ hx) ?_
  rintro e σ' w' ⟨y, φ', hy, he, al', rl, h', k1, k2, k3⟩
  obtain ⟨vs', hvs, hrun⟩ := selR_ok (P := P) hy.fr hy.rel k1
  obtain ⟨F', f1, f2, f3, f4⟩ := frzVl_ok k2 _ φ' w' _ hy.rel hvs
  have fin : bodyQ P n fn (Ret fun v w'' => Below w.heap.size w w'' ∧ ∃ F', (∀ b o, F b = some o → F' b = some o) ∧ Fro F' w'' ∧ (∀ b o, F' b = some o → F b = some o ∨ w.heap.size ≤ b) ∧ VR (ofF F') r v) .ret σ' w' := by
    refine ⟨_, res_run hr hrun, _, rfl, ⟨hy.rel.below.os, hy.rel.below.tape, hy.rel.below.output, hy.rel.below.size, hy.rel.below.block⟩, F', fun b o q => f1 b o (hy.old b o q), f3.fro, fun b o q => ((f2 b o q).elim (hy.new b o) .inr).imp id Nat.le_of_not_lt, k3 _ _ (pack_VR f4)⟩
  rcases he with rfl | rfl
  · exact fin
  · exact fin
noncomputable def lowF (n : Nat) : Fr → Bool
  | [] => true
  | (_, a) :: r => low n a && lowF n r
noncomputable def lowO (n : Nat) : AO → Bool
  | .row c _ => lowl n c
  | _ => true
noncomputable def cutH (n : Nat) : AH → Option AH
  | [] => some []
  | (k, o) :: r => match cutH n r with
    | some r' => bif Nat.blt k n then (bif lowO n o then some ((k, o) :: r') else none) else some r'
    | none => none
theorem cutH_get {n : Nat} : ∀ {h h' : AH}, cutH n h = some h' → ∀ b o, getH b h' = some o → b < n ∧ getH b h = some o ∧ lowO n o = true
  | [], _, e, b, o, k => by cases e; cases k
  | (c, x) :: r, _, e, b, o, k => by
    unfold cutH at e
    split at e
    · rename_i r' hr
      cases hlt : Nat.blt c n with
      | true =>
        rw [hlt, cond_true] at e
        obtain ⟨e1, e2⟩ := bif_some e
        cases e2
        simp only [getH] at k ⊢
        rcases beq_cases c b with ⟨q, q'⟩ | ⟨q, q'⟩ <;> rw [q] at k ⊢
        · cases k; subst q'; exact ⟨by simpa [Nat.blt_eq] using hlt, rfl, e1⟩
        · exact cutH_get hr b o k
      | false =>
        rw [hlt, cond_false] at e
        cases e
        obtain ⟨h1, h2, h3⟩ := cutH_get hr b o k
        have hcn : ¬ c < n := by intro h; have : Nat.blt c n = true := by simpa [Nat.blt_eq] using h
                                 rw [this] at hlt; cases hlt
        refine ⟨h1, ?_, h3⟩
        simp only [getH]
        rw [beq_false (by omega)]; exact h2
    · cases e
theorem lowF_look {n : Nat} : ∀ {s : Fr}, lowF n s = true → ∀ t a, look t s = some a → low n a = true
  | [], _, _, _, k => by cases k
  | (u, b) :: r, h, t, a, k => by
    simp only [lowF, Bool.and_eq_true] at h
    simp only [look] at k
    rcases beq_cases u t with ⟨q, _⟩ | ⟨q, _⟩ <;> rw [q] at k
    · cases k; exact h.1
    · exact lowF_look h.2 t a k
noncomputable def gcS (ts : List Nat) (n : Nat) (x : St) : Option St := match selS ts x.s with
  | some s => match cutH n x.h with
    | some h => bif lowF n s then some ⟨s, h, n⟩ else none
    | none => none
  | none => none
section
variable {P : Program} {B : Bas} {w : World} {F : Cx} {n : Nat} {φ : Phi} {σ : Nat → Value} {K : Exit → St → Prop} {x y : St}
theorem Rel.cut {h h' : AH} {m : Nat} (r : Rel B φ h w) (k : cutH m h = some h') : Rel B (φ.cut m) h' w := by
  have hs : ∀ b o, getH b h' = some o → SameO φ (φ.cut m) b o := by
    intro b o e
    obtain ⟨h1, h2, h3⟩ := cutH_get k b o e
    have hm : (φ.cut m) b = φ b := if_pos h1
    have hss : (φ.cut m).s b = φ.s b := if_pos h1
    cases o with
    | row c e => exact ⟨hm, fun vs q => VRl.cut q h3⟩
    | grow es e sz => exact ⟨hss, fun _ _ q => q⟩
    | map es clk => exact ⟨hm, fun _ _ q => q⟩
    | siter t p => exact hm
  refine ⟨r.below, r.fro, fun b o e => (r.obj b o (cutH_get k b o e).2.1).imp (hs b o e) (fun _ _ => rfl), fun b b' o o' j e e' i i' => ?_, fun b o j e i => ?_⟩
  · rw [(hs b o e).img] at i; rw [(hs b' o' e').img] at i'
    exact r.sep b b' o o' j (cutH_get k b o e).2.1 (cutH_get k b' o' e').2.1 i i'
  · rw [(hs b o e).img] at i
    exact r.gf b o j (cutH_get k b o e).2.1 i
theorem Holds.gc {ts : List Nat} {m : Nat} (h : Holds B F n x φ σ w) (hlo : F.lo ≤ m) (k : gcS ts m x = some y) : Holds B F n y (φ.cut m) σ w := by
  unfold gcS at k
  split at k
  · rename_i s hs
    split at k
    · rename_i hh hc
      obtain ⟨k1, k2⟩ := bif_some k
      cases k2
      exact ⟨fun t a e => ((h.sel hs).fr t a e).cut (lowF_look k1 t a e), h.rel.cut hc, fun b (hb : m ≤ b) => ⟨if_neg (by omega), if_neg (by omega)⟩, h.old, h.new, fun b o e => (if_pos (Nat.lt_of_lt_of_le (F.hm b o e) hlo)).trans (h.base b o e)⟩
    · cases k
  · cases k
theorem SW_gc {c : Code} (ts : List Nat) (m : Nat) (hlo : F.lo ≤ m) (k : gcS ts m x = some y) (h : SW P n c B F K y) : SW P n c B F K x := fun φ σ w hx => h _ _ _ (hx.gc hlo k)
theorem VR.slice {a : AV} {v : Value} (h : VR φ a v) (ha : (match a with | .own _ => true | .nils => true | .sl _ _ _ _ _ => true | _ => false) = true) : ∃ p q r, v = .slice p q r := by
  cases a <;> simp only [Bool.false_eq_true] at ha
  · simp only [VR] at h; obtain ⟨_, _, _, ⟨_, _, rfl⟩ | ⟨_, rfl⟩⟩ := h <;> exact ⟨_, _, _, rfl⟩
  · simp only [VR] at h; subst h; exact ⟨_, _, _, rfl⟩
  · simp only [VR] at h; obtain ⟨_, a, b, c, rfl⟩ := h; exact ⟨_, _, _, rfl⟩
end
end Sv
end Go.Proofs.YtaegacblpbbndaaDoor
end
section
namespace Go.Proofs.YtaegacblpbbndaaDoor
open Go Go.RowKit
set_option linter.unusedSimpArgs false
set_option linter.unusedVariables false
namespace Sv
def WG (P : Program) (n : Nat) (ops : Array Oper) (Q : (Nat → Value) → World → Prop) (H : World → Prop) (fuel : Nat) (listed : Array Bool) (σ : Nat → Value) (w : World) : Prop :=
  wpAnyH P .any ops (fun e a w => e = .normal ∧ ∃ σ, a = mk n σ ∧ Q σ w) H fuel listed (mk n σ) w
section
variable {P : Program} {n : Nat} {σ : Nat → Value} {w : World}
theorem W_orderG {Q : Exit → (Nat → Value) → World → Prop} {id : Nat} {l : List Oper} (H : World → Prop) (hm : P.follows .mixedOrders = true)
    (h : WG P n l.toArray (Q .normal) H l.length (Array.replicate l.length false) σ (w.drewN 1)) : W P n (.region id l.toArray true) Q σ w := by
  unfold W
  refine wp_mono (wp_region_any hm (wpAny_of_held _ _ _ _ h)) ?_
  rintro e a w ⟨rfl, σ', ha, hq⟩
  exact ⟨σ', ha, hq⟩
variable {ops : Array Oper} {Q : (Nat → Value) → World → Prop} {fuel : Nat} {listed : Array Bool} {H : World → Prop}
theorem WG_take (hS : H w) (i : Nat) {o : Oper} {v : Value} (hi : ops[i]? = some o) (hs : Region.noSelect ops = true) (hf : Region.free .any ops listed i = true) (hr : (Region.ready .any ops listed).contains i = true)
    (hg : gOk ops n σ o.guard = true) (h : ∀ w', H w' → (execOp (ev n σ) o).run P w' = .ok (.value v) w') (next : WG P n ops Q H fuel (listed.setIfInBounds i true) (updo σ o.dst v) w) : WG P n ops Q H (fuel + 1) listed σ w := by
  unfold WG
  refine wpAnyH_take hi hs hf hr (fun c a w h => by cases h.1) (.inl ⟨by rw [wanted_mk]; exact hg, fun w' hw' => by rw [mk_eval]; exact h w' hw'⟩) hS ?_
  rw [mk_put]; exact next
theorem WG_pass (hS : H w) (i : Nat) {o : Oper} (hi : ops[i]? = some o) (hs : Region.noSelect ops = true) (hf : Region.free .any ops listed i = true) (hr : (Region.ready .any ops listed).contains i = true)
    (hg : gOk ops n σ o.guard = false) (next : WG P n ops Q H fuel (listed.setIfInBounds i true) (updo σ o.dst undef) w) : WG P n ops Q H (fuel + 1) listed σ w := by
  unfold WG
  refine wpAnyH_take hi hs hf hr (fun c a w h => by cases h.1) (.inr ⟨by rw [wanted_mk]; exact hg, rfl⟩) hS ?_
  rw [mk_put]; exact next
theorem WG_done (hr : Region.ready .any ops listed = []) (h : Q σ w) : WG P n ops Q H fuel listed σ w := by
  unfold WG
  exact wpAnyH_done hr ⟨rfl, σ, rfl, h⟩ fuel
theorem WG_only (i : Nat) {o : Oper} (hr : Region.ready .any ops listed = [i]) (hi : ops[i]? = some o)
    (h : WO P n ops [o] (fun e σ' w' => e = .normal ∧ H w' ∧ WG P n ops Q H fuel (listed.setIfInBounds i true) σ' w') σ w) : WG P n ops Q H (fuel + 1) listed σ w := by
  unfold WG
  refine wpAnyH_all hr (by simp) fun j hj => ?_
  obtain rfl : j = i := by simpa using hj
  unfold WO wpList at h
  unfold wpOp
  simp only [hi]
  have ho : ¬ LetsOut (lift n fun e σ' w' => e = .normal ∧ H w' ∧ WG P n ops Q H fuel (listed.setIfInBounds j true) σ' w') := by
    rintro ⟨a, w, σ', _, h, _⟩; cases h
  have hk : ∀ a w', wpList P ops (lift n fun e σ' w' => e = .normal ∧ H w' ∧ WG P n ops Q H fuel (listed.setIfInBounds j true) σ' w') [] a w' →
      (H w' ∧ wpAnyH P .any ops (fun e a w => e = .normal ∧ ∃ σ, a = mk n σ ∧ Q σ w) H fuel (listed.setIfInBounds j true) a w') := by
    rintro a w' ⟨σ', rfl, _, hb, hx⟩; exact ⟨hb, hx⟩
  split at h
  · rename_i hw
    rw [if_pos hw]
    rcases h with h | ⟨_, h⟩
    · exact .inl (wp_two hk (fun c a w hc => by obtain ⟨_, _, hc, _⟩ := hc; cases hc) ho h)
    · exact absurd h ho
  · rename_i hw
    rw [if_neg hw]; exact hk _ _ h
end
attribute [irreducible] WG
noncomputable def freeS (P : Program) (E : Bool) (eA : Operand → Option AV) (o : Oper) : PC := match pureC P eA o with
  | some r => some r
  | none => match o.op with
    | .load t x => match eA x with
      | some (.fp a) => bif E then (match loadS P t (.fp a) [] with
        | some r => some (r, none)
        | none => none) else none
      | _ => none
    | _ => none
noncomputable def stepF (P : Program) (E : Bool) (n : Nat) (ops : Array Oper) (lz : List Nat) (o : Oper) (x : St) : Option (St × Option Prop) := match o.guard with
  | none => match freeS P E (evA x.s) o with
    | some (a, C) => match putF n o.dst a x.s with
      | some s' => some (⟨s', x.h, x.nx⟩, C)
      | none => none
    | none => none
  | some (j, want) => match gdst ops.toList j with
    | some t => match look t x.s with
      | some (.bool q) => bif inL o.dst lz then (match freeS P E (strip o.op.operands.toList (evA x.s)) o with
          | some (a, C) => match putF n o.dst (.cond (wantOf want q) a) x.s with
            | some s' => some (⟨s', x.h, x.nx⟩, match andC (needs (evA x.s) o.op.operands.toList) C with
              | some p => some (wantOf want q = true → p)
              | none => none)
            | none => none
          | none => none) else (bif wantOf want q then (match freeS P E (evA x.s) o with
          | some (a, C) => match putF n o.dst a x.s with
            | some s' => some (⟨s', x.h, x.nx⟩, C)
            | none => none
          | none => none) else match putF n o.dst (.tup []) x.s with
            | some s' => some (⟨s', x.h, x.nx⟩, none)
            | none => none)
      | _ => none
    | none => none
def SG (P : Program) (n : Nat) (ops : Array Oper) (B : Bas) (F : Cx) (K : St → Prop) (F0 : Cx) (E : Bool) (fuel : Nat) (listed : Array Bool) (x : St) : Prop :=
  ∀ φ σ w, Holds B F0 n x φ σ w → (E = true → φ.f = F0.f) → WG P n ops (fun σ w => ∃ y φ, Holds B F0 n y φ σ w ∧ K y) (Fro F0.f) fuel listed σ w
section
variable {P : Program} {B : Bas} {w : World} {F F0 : Cx} {n : Nat} {φ : Phi} {σ : Nat → Value} {K : Exit → St → Prop} {KK : St → Prop} {x : St} {E : Bool} {ops : Array Oper} {fuel : Nat} {listed : Array Bool}
theorem Holds.hold (h : Holds B F0 n x φ σ w) : Fro F0.f w := fun b o e => h.rel.fro b o (h.old b o e)
theorem Holds.drew (h : Holds B F n x φ σ w) : Holds B F n x φ σ (w.drewN 1) := ⟨h.fr, h.rel.drew, h.dom, h.old, h.new, h.base⟩
def normQ (k : (Nat → Value) → World → Prop) : Exit → (Nat → Value) → World → Prop
  | .normal, σ, w => k σ w
  | _, _, _ => False
theorem SW_draw {id : Nat} {l : List Oper} (hm : P.follows .mixedOrders = true) (h : ∀ F0 : Cx, F0.lo = F.lo → SG P n l.toArray B F (K .normal) F0 true l.length (Array.replicate l.length false) x) : SW P n (.region id l.toArray true) B F K x := by
  intro φ σ w hx
  have hh : Holds B ⟨φ.f, F.m, F.lo, F.hm⟩ n x φ σ (w.drewN 1) := ⟨hx.drew.fr, hx.drew.rel, hx.dom, fun _ _ e => e, fun _ _ e => .inl e, hx.base⟩
  have hg := h ⟨φ.f, F.m, F.lo, F.hm⟩ rfl φ σ _ hh (fun _ => rfl)
  refine W_mono (W_orderG (Q := normQ fun σ w => ∃ y φ', Holds B ⟨φ.f, F.m, F.lo, F.hm⟩ n y φ' σ w ∧ K .normal y) (Fro φ.f) hm hg) ?_
  intro e σ' w' he
  cases e with
  | normal =>
    obtain ⟨y, φ', hy, hk⟩ := he
    exact ⟨y, φ', ⟨hy.fr, hy.rel, hy.dom, fun b o q => hy.old b o (hx.old b o q), fun b o q => (hy.new b o q).elim (hx.new b o) .inr, hy.base⟩, hk⟩
  | _ => exact he.elim
theorem loadFP_ok {h : AH} {t : Nat} {a r : AV} {v : Value} (hl : loadS P t (.fp a) h = some r) (hx : VR φ (.fp a) v) : ∃ u, VR φ r u ∧ ∀ w, Fro φ.f w → (Instr.loadAt t v).run P w = .ok u w := by
  have agg : ∀ {w : World} {b o n : Nat} {us : List Value}, aggT P t = some true → tsz P t = some n → us.length = n → (∀ j v, us[j]? = some v → w.cell? ⟨b, o + j, none⟩ = some v) → (Instr.loadAt t (.pointer (some ⟨b, o, none⟩))).run P w = .ok (.agg us.toArray) w := by
    intro w b o n us ha hn hl hc
    have := run_loadCells_list (P := P) w ⟨b, o, none⟩ us (fun j v hj => by rw [addr_add]; exact hc j v hj)
    rw [hl] at this
    simp only [Instr.loadAt, Instr.sureAddr, Sem.run_bind, Sem.run_pure, Result.andThen_ok, loadVar, aggT_run ha, if_true, tsz_run hn, this]
  have sca : ∀ {w : World} {b o : Nat} {v : Value}, aggT P t = some false → w.cell? ⟨b, o, none⟩ = some v → (Instr.loadAt t (.pointer (some ⟨b, o, none⟩))).run P w = .ok v w := by
    intro w b o v ha hc
    simp [Instr.loadAt, Instr.sureAddr, loadVar, aggT_run ha, hc, go_sem]
  simp only [VR] at hx
  obtain ⟨b, o, u, rfl, hu, hlie⟩ := hx
  unfold loadS at hl
  split at hl
  · rename_i e; cases e
  · rename_i l e
    cases e
    simp only [VR] at hu
    obtain ⟨vs, hvs, rfl⟩ := hu
    have hcs : (Value.agg vs.toArray).cells.toList = vs := by simp [Value.cells]
    rw [hcs] at hlie
    split at hl
    · rename_i ha
      split at hl
      · rename_i n hn
        obtain ⟨h3, h4⟩ := cond_true' (f := none) hl
        cases h4
        have hlen := hvs.length
        exact ⟨_, by simp only [VR]; exact ⟨vs, hvs.mono (Phi.le_fz φ), rfl⟩, fun w hw => agg ha hn (us := vs) (by rw [hlen, Nat.eq_of_beq_eq_true h3]) (fun j v hj => lie_cell hw hlie hj)⟩
      · cases hl
    · rename_i ha
      split at hl
      · rename_i a l'
        cases hl
        obtain ⟨v, vs', rfl, h1, _⟩ := hvs.cons_inv
        exact ⟨v, h1.mono (Phi.le_fz φ), fun w hw => sca ha (by have := lie_cell hw hlie (j := 0) rfl; simpa using this)⟩
      · cases hl
    · cases hl
  · rename_i a' hna e
    cases e
    split at hl
    · rename_i ha
      obtain ⟨h3, h4⟩ := cond_true' (f := none) hl
      cases h4
      have h1 := (hu.one h3).2
      rw [h1] at hlie
      exact ⟨u, hu.mono (Phi.le_fz φ), fun w hw => sca ha (by have := lie_cell hw hlie (j := 0) rfl; simpa using this)⟩
    · cases hl
  · cases hl
theorem freeS_ok {eA : Operand → Option AV} (hev : EVR φ eA (ev n σ)) (hE : E = true → φ.f = F0.f) {o : Oper} {a : AV} {C : Option Prop} (ho : freeS P E eA o = some (a, C)) (hC : holds C) : ∃ v, (∀ w, Fro F0.f w → (execOp (ev n σ) o).run P w = .ok (.value v) w) ∧ VR φ a v := by
  unfold freeS at ho
  split at ho
  · rename_i q hq
    cases ho
    obtain ⟨v, h1, h2⟩ := pureC_ok hev hq hC
    exact ⟨v, fun w _ => h1 w, h2⟩
  · obtain ⟨dst, op, ty, ps, af, g⟩ := o
    split at ho
    · rename_i t x' hop
      simp only at hop; subst hop
      split at ho
      · rename_i a' ha
        obtain ⟨hE1, ho⟩ := bif_some ho
        split at ho
        · rename_i q hq
          cases ho
          obtain ⟨u, k1, k2⟩ := loadFP_ok hq (hev _ _ ha)
          exact ⟨u, fun w hw => by simp only [execOp, Sem.run_bind, k2 w (by rw [hE hE1]; exact hw), Result.andThen_ok, Sem.run_pure], k1⟩
        · cases ho
      · cases ho
    · cases ho
theorem SG_free (i : Nat) (lz : List Nat) {o : Oper} {y : St} {C : Option Prop} (hi : ops[i]? = some o) (hs : Region.noSelect ops = true) (hf : Region.free .any ops listed i = true) (hr : (Region.ready .any ops listed).contains i = true)
    (h : stepF P E n ops lz o x = some (y, C)) (hC : holds C) (next : SG P n ops B F KK F0 E fuel (listed.setIfInBounds i true) y) : SG P n ops B F KK F0 E (fuel + 1) listed x := by
  intro φ σ w hx hE
  have take : ∀ {eA : Operand → Option AV} {a b : AV} {C : Option Prop} {s' : Fr}, EVR φ eA (ev n σ) → gOk ops n σ o.guard = true → freeS P E eA o = some (a, C) → holds C → putF n o.dst b x.s = some s' → (∀ v, VR φ a v → VR φ b v) → y = ⟨s', x.h, x.nx⟩ →
      WG P n ops (fun σ w => ∃ y φ, Holds B F0 n y φ σ w ∧ KK y) (Fro F0.f) (fuel + 1) listed σ w := by
    intro eA a b C s' hev hg hfr hC hp hab hy
    subst hy
    obtain ⟨v, h1, h2⟩ := freeS_ok hev hE hfr hC
    exact WG_take hx.hold i hi hs hf hr hg h1 (next φ _ w ⟨hx.fr.put hp (hab v h2), hx.rel, hx.dom, hx.old, hx.new, hx.base⟩ hE)
  have pass : ∀ {b : AV} {s' : Fr}, gOk ops n σ o.guard = false → putF n o.dst b x.s = some s' → VR φ b undef → y = ⟨s', x.h, x.nx⟩ → WG P n ops (fun σ w => ∃ y φ, Holds B F0 n y φ σ w ∧ KK y) (Fro F0.f) (fuel + 1) listed σ w := by
    intro b s' hg hp hb hy
    subst hy
    exact WG_pass hx.hold i hi hs hf hr hg (next φ _ w ⟨hx.fr.put hp hb, hx.rel, hx.dom, hx.old, hx.new, hx.base⟩ hE)
  unfold stepF at h
  cases hgd : o.guard with
  | none =>
    rw [hgd] at h
    simp only at h
    split at h
    · rename_i a C' hfr
      split at h
      · rename_i s' hp
        cases h
        exact take hx.fr.ev (by rw [hgd]; rfl) hfr hC hp (fun _ k => k) rfl
      · cases h
    · cases h
  | some g =>
    obtain ⟨j, want⟩ := g
    rw [hgd] at h
    simp only at h
    split at h
    · rename_i t ht
      split at h
      · rename_i q hq
        have hv := hx.fr _ _ hq
        simp only [VR] at hv
        have hgk : gOk ops n σ o.guard = wantOf want q := by rw [hgd]; simp only [gOk, ht, hv, isB, wantOf]
        cases hlz : inL o.dst lz with
        | true =>
          rw [hlz, cond_true] at h
          split at h
          · rename_i a C' hro
            split at h
            · rename_i s' hp
              cases h
              cases hw : wantOf want q with
              | false => exact pass (by rw [hgk, hw]) hp (by rw [hw]; simp only [VR]; intro e; cases e) rfl
              | true =>
                have hC' : holds (andC (needs (evA x.s) o.op.operands.toList) C') := by
                  revert hC
                  cases andC (needs (evA x.s) o.op.operands.toList) C' with
                  | none => intro _; trivial
                  | some p => intro h; exact h hw
                obtain ⟨c1, c2⟩ := andC_holds hC'
                exact take (strip_ev hx.fr c1) (by rw [hgk, hw]) hro c2 hp (fun v k => by simp only [VR]; exact fun _ => k) rfl
            · cases h
          · cases h
        | false =>
          rw [hlz, cond_false] at h
          cases hw : wantOf want q with
          | true =>
            rw [hw, cond_true] at h
            split at h
            · rename_i a C' hfr
              split at h
              · rename_i s' hp
                cases h
                exact take hx.fr.ev (by rw [hgk, hw]) hfr hC hp (fun _ k => k) rfl
              · cases h
            · cases h
          | false =>
            rw [hw, cond_false] at h
            split at h
            · rename_i s' hp
              cases h
              exact pass (by rw [hgk, hw]) hp undef_VR rfl
            · cases h
      · cases h
    · cases h
theorem SG_only (i : Nat) (lz : List Nat) {o : Oper} {y : St} {C : Option Prop} (hr : Region.ready .any ops listed = [i]) (hi : ops[i]? = some o) (h : stepS P n ops lz o x = some (y, C)) (hC : holds C)
    (next : SG P n ops B F KK F0 E fuel (listed.setIfInBounds i true) y) : SG P n ops B F KK F0 E (fuel + 1) listed x := by
  intro φ σ w hx hE
  exact WG_only i hr hi (stepS_ok hx h hC fun φ' σ' w' hh e => WO_nil ⟨rfl, hh.hold, next φ' σ' w' hh (fun q => e.trans (hE q))⟩)
theorem SG_done (hr : Region.ready .any ops listed = []) (h : KK x) : SG P n ops B F KK F0 E fuel listed x := fun φ σ w hx _ => WG_done hr ⟨x, φ, hx, h⟩
theorem SG_sel {s : Fr} (ts : List Nat) (h : selS ts x.s = some s) (k : SG P n ops B F KK F0 E fuel listed ⟨s, x.h, x.nx⟩) : SG P n ops B F KK F0 E fuel listed x := fun φ σ w hx hE => k φ σ w (hx.sel h) hE
theorem SW_loopg {c : Code} (I : Nat → St → Prop) (ts : List Nat) (m : Nat) {y : St} (g : Nat) (hlo : F.lo ≤ m) (k : gcS ts m x = some y) (h0 : I g y)
    (round : ∀ g y, I g y → SW P n c B F (seqK (fun z => ∃ z', gcS ts m z = some z' ∧ ∃ g', g' < g ∧ I g' z') K) y) : SW P n (.loop c) B F K x := by
  refine SW_gc ts m hlo k ?_
  intro φ σ w hx
  refine W_loop (fun g σ w => ∃ y φ, Holds B F n y φ σ w ∧ I g y) ⟨g, y, φ, hx, h0⟩ ?_
  rintro g σ w ⟨y, φ, hy, hI⟩
  refine W_mono (round g y hI φ σ w hy) ?_
  rintro e σ' w' ⟨z, φ', h1, h2⟩
  cases e with
  | normal => obtain ⟨z', hz, g', hg, hI'⟩ := h2; exact ⟨g', hg, z', _, h1.gc hlo hz, hI'⟩
  | _ => exact ⟨z, φ', h1, h2⟩
theorem hold {p : Prop} (h : p) : holds (some p) := h
theorem hold0 : holds none := trivial
theorem SW_ifn {o : Operand} {c d : Code} {p : Prop} [Decidable p] (hq : evA x.s o = some (.bool (!decide p))) (ht : ¬ p → SW P n c B F K x) (hf : p → SW P n d B F K x) : SW P n (.cond o c d) B F K x :=
  SW_cond hq (fun h => ht (by simpa using h)) (fun h => hf (by simpa using h))
theorem Same.of_eq {a b : AV} (h : a = b) : Same a b := by subst h; exact Same.rfl'
end
attribute [irreducible] SG
end Sv
end Go.Proofs.YtaegacblpbbndaaDoor
end
section
namespace Go.Proofs.YtaegacblpbbndaaDoor
open Go Go.RowKit
set_option linter.unusedSimpArgs false
set_option linter.unusedVariables false
namespace Sv
noncomputable def guardB (ops : Array Oper) (s : Fr) : Option (Nat × Bool) → Option Bool
  | none => some true
  | some (j, want) => match gdst ops.toList j with
    | some t => match look t s with
      | some (.bool q) => some (wantOf want q)
      | _ => none
    | none => none
def Imp (a a' : AV) : Prop := ∀ φ v, VR φ a v → VR φ a' v
theorem Imp.same {a b : AV} (h : Imp a b) : Same a b := fun F v => h (ofF F) v
theorem Imp.row {sz n : Nat} {f g : Nat → AV} (h : ∀ i, i < n → Imp (f i) (g i)) : Imp (.row sz n f) (.row sz n g) := by
  intro φ v k
  simp only [VR] at k ⊢
  obtain ⟨u, k1, k2⟩ := k
  exact ⟨u, fun i hi => h i hi φ.fz _ (k1 i hi), k2⟩
theorem Imp.of_eq {a b : AV} (h : a = b) : Imp a b := by subst h; exact fun _ _ k => k
section
variable {P : Program} {B : Bas} {w : World} {F F0 : Cx} {n : Nat} {φ : Phi} {σ : Nat → Value} {K : Exit → St → Prop} {x : St} {ops : Array Oper}
theorem guardB_ok {g : Option (Nat × Bool)} {q : Bool} (h : FRel φ n x.s σ) (k : guardB ops x.s g = some q) : gOk ops n σ g = q := by
  cases g with
  | none => cases k; rfl
  | some g =>
    obtain ⟨j, want⟩ := g
    unfold guardB at k
    unfold gOk
    simp only at k ⊢
    split at k
    · rename_i t ht
      split at k
      · rename_i q' hq
        cases k
        have := h _ _ hq
        simp only [VR] at this
        rw [ht]; simp only [this, isB, wantOf]
      · cases k
    · cases k
theorem SO_callg {rest : List Oper} {f : FuncId} {ar : Array Operand} {ts : Array TypeId} {ty : TypeId} {ps : String} {dst : Option Tmp} {af : Array Edge} {g : Option (Nat × Bool)} {al : List AV} {r : AV} {s' : Fr} {q : Bool}
    (hg : guardB ops x.s g = some q) (he : Enters P f) (ha : evsA (strip ar.toList (evA x.s)) ar.toList = some al) (hn : q = true → holds (needs (evA x.s) ar.toList)) (hz : frzl al = true) (hf : q = true → FnV P f al r) (hp : putF n dst (.cond q r) x.s = some s')
    (next : SO P n ops rest B F K ⟨s', x.h, x.nx⟩) : SO P n ops (⟨dst, .call { callee := .value (.func f), args := ar, argTypes := ts }, ty, ps, af, g⟩ :: rest) B F K x := by
  intro φ σ w hx
  have hgk := guardB_ok hx.fr hg
  cases q with
  | false => exact WO_pass hgk (next φ _ w ⟨hx.fr.put hp (by simp only [VR]; intro e; cases e), hx.rel, hx.dom, hx.old, hx.new, hx.base⟩)
  | true =>
    have hv := (evsA_ok (strip_ev hx.fr (hn rfl)) ha).fz hz
    refine WO_call hgk he (hf rfl φ.f w _ hx.rel.fro hv) ?_
    rintro v w' ⟨hb, F', h1, h2, h3, h4⟩
    have hh := hx.called hb h1 h2 h3
    exact next _ _ _ ⟨hh.fr.put hp (by simp only [VR]; exact fun _ => h4.mono (Phi.le_fz ⟨φ.m, φ.s, F'⟩)), hh.rel, hh.dom, hh.old, hh.new, hh.base⟩
theorem Holds.conv {t : Nat} {a b : AV} (h : Holds B F n x φ σ w) (k : look t x.s = some a) (i : Imp a b) : Holds B F n ⟨setL t b x.s, x.h, x.nx⟩ φ σ w := by
  refine ⟨fun u c e => ?_, h.rel, h.dom, h.old, h.new, h.base⟩
  by_cases hu : u = t
  · subst hu; rw [look_set_same] at e; cases e; exact i φ _ (h.fr u a k)
  · rw [look_set_other _ hu] at e; exact h.fr u c e
theorem SW_conv {c : Code} (t : Nat) {a : AV} (b : AV) (k : look t x.s = some a) (i : Imp a b) (h : SW P n c B F K ⟨setL t b x.s, x.h, x.nx⟩) : SW P n c B F K x := fun φ σ w hx => h φ σ w (hx.conv k i)
theorem SO_conv {l : List Oper} (t : Nat) {a : AV} (b : AV) (k : look t x.s = some a) (i : Imp a b) (h : SO P n ops l B F K ⟨setL t b x.s, x.h, x.nx⟩) : SO P n ops l B F K x := fun φ σ w hx => h φ σ w (hx.conv k i)
end
noncomputable def freesF (P : Program) (E : Bool) (n : Nat) (ops : Array Oper) (lz : List Nat) : List Nat → Array Bool → St → Option (St × Option Prop × Array Bool)
  | [], listed, x => some (x, none, listed)
  | i :: l, listed, x => match ops[i]? with
    | some o => bif Region.free .any ops listed i && (Region.ready .any ops listed).contains i then (match stepF P E n ops lz o x with
      | some (y, C) => match freesF P E n ops lz l (listed.setIfInBounds i true) y with
        | some (z, D, L) => some (z, andC C D, L)
        | none => none
      | none => none) else none
    | none => none
noncomputable def freesS (P : Program) (E : Bool) (n : Nat) (ops : Array Oper) (lz is ts : List Nat) (listed : Array Bool) (x : St) : Option (St × Option Prop × Array Bool) := match freesF P E n ops lz is listed x with
  | some (y, C, L) => match selS ts y.s with
    | some s => some (⟨s, y.h, y.nx⟩, C, L)
    | none => none
  | none => none
section
variable {P : Program} {B : Bas} {w : World} {F F0 : Cx} {n : Nat} {KK : St → Prop} {E : Bool} {ops : Array Oper}
theorem SG_freesF {lz : List Nat} {fuel : Nat} (hs : Region.noSelect ops = true) : ∀ {is : List Nat} {listed L : Array Bool} {x y : St} {C : Option Prop}, freesF P E n ops lz is listed x = some (y, C, L) → holds C → SG P n ops B F KK F0 E fuel L y → SG P n ops B F KK F0 E (fuel + is.length) listed x
  | [], listed, L, x, y, C, h, hC, next => by cases h; exact next
  | i :: l, listed, L, x, y, C, h, hC, next => by
    unfold freesF at h
    split at h
    · rename_i o ho
      obtain ⟨h1, h2⟩ := bif_some h
      simp only [Bool.and_eq_true] at h1
      split at h2
      · rename_i z C1 hz
        split at h2
        · rename_i u D L' hu
          cases h2
          obtain ⟨c1, c2⟩ := andC_holds hC
          exact SG_free i lz ho hs h1.1 h1.2 hz c1 (SG_freesF hs hu c2 next)
        · cases h2
      · cases h2
    · cases h
theorem SG_frees {lz : List Nat} {fuel fuel' : Nat} (is ts : List Nat) {listed L : Array Bool} {x y : St} {C : Option Prop} (hs : Region.noSelect ops = true) (h : freesS P E n ops lz is ts listed x = some (y, C, L)) (hf : fuel' = fuel + is.length) (hC : holds C) (next : SG P n ops B F KK F0 E fuel L y) : SG P n ops B F KK F0 E fuel' listed x := by
  subst hf
  unfold freesS at h
  split at h
  · rename_i z C' L' hz
    split at h
    · rename_i s hsel
      cases h
      exact SG_freesF hs hz hC (SG_sel ts hsel next)
    · cases h
  · cases h
end
abbrev strs (l : List (List UInt8)) : AV := rowOf 1 AV.str l
end Sv
end Go.Proofs.YtaegacblpbbndaaDoor
end
section
namespace Go.Proofs.YtaegacblpbbndaaDoor
open Go Go.RowKit
set_option linter.unusedSimpArgs false
set_option linter.unusedVariables false
namespace Sv
def basH (φ : Phi) (h : AH) (w : World) : Bas := ⟨w, fun k => k < w.heap.size ∧ ∀ i o, getH i h = some o → img φ i o ≠ some k, fun _ h => h.1⟩
def CallS (P : Program) (f : Nat) (al : List AV) (h : AH) (nx : Nat) (r : AV) (h' : AH) : Prop := ∀ (B0 : Bas) (φ : Phi) (w : World) (vs : List Value), Rel B0 φ h w → VRl φ al vs → Calls P f vs.toArray w (Ret fun v w' => ∃ φ',
  Rel (basH φ h w) φ' h' w' ∧ VR φ' r v ∧ (∀ b x, b < nx → φ b = some x → φ' b = some x) ∧ (∀ b o, φ.f b = some o → φ'.f b = some o) ∧ ∀ b o, φ'.f b = some o → φ.f b = some o ∨ ¬ (basH φ h w).old b)
def retS (P : Program) (rs : List ResultVar) (r : AV) (h' : AH) (nx : Nat) : Exit → St → Prop := fun e x => (e = .ret ∨ e = .normal) ∧ ∃ al, selR P rs x = some al ∧ pack al = r ∧ cutH nx x.h = some h'
theorem retS_mk {P : Program} {rs : List ResultVar} {r : AV} {h' : AH} {nx : Nat} {x : St} {al : List AV} {e : Exit} (he : e = .ret ∨ e = .normal) (h1 : selR P rs x = some al) (h2 : pack al = r) (h3 : cutH nx x.h = some h') : retS P rs r h' nx e x := ⟨he, al, h1, h2, h3⟩
theorem CallS_intro {P : Program} {f : FuncId} {fn : Func} {c : Code} {n nx : Nat} {al : List AV} {r : AV} {h h' : AH} (rs : List ResultVar) (hf : P.funcs[f]? = some fn) (hb : fn.body = some c) (hn : fn.ntmps = n) (hr : fn.results = rs.toArray) (ha : Nat.ble al.length n = true)
    (hH : cutH nx h = some h) (hal : lowl nx al = true) (hrl : low nx r = true) (k : ∀ (B : Bas) (F : Cx), F.lo = nx → SW P n c B F (retS P rs r h' nx) ⟨argF 0 al, h, nx⟩) : CallS P f al h nx r h' := by
  intro B0 φ w vs hrel hv
  have hlen := hv.length
  have hal' : al.length ≤ n := Nat.le_of_ble_eq_true ha
  have hcut := hrel.cut hH
  have himg : ∀ b o, getH b h = some o → img (φ.cut nx) b o = img φ b o := by
    intro b o e
    have := (cutH_get hH b o e).1
    cases o <;> simp only [img] <;> first | rw [show (φ.cut nx) b = φ b from if_pos this] | rw [show (φ.cut nx).s b = φ.s b from if_pos this]
  have hcm : ∀ b x, (if b < nx then φ b else none) = some x → b < nx := by
    intro b x e
    by_cases hb : b < nx
    · exact hb
    · rw [if_neg hb] at e; cases e
  have hx : Holds (basH φ h w) ⟨φ.f, fun b => if b < nx then φ b else none, nx, hcm⟩ n ⟨argF 0 al, h, nx⟩ (φ.cut nx) (argσ vs) w := by
    refine ⟨fun t a e => ?_, ⟨⟨rfl, rfl, rfl, Nat.le_refl _, fun _ _ => rfl⟩, hcut.fro, hcut.obj, hcut.sep, fun b o k e i => ?_⟩, fun b hb => ⟨if_neg (by simpa using hb), if_neg (by simpa using hb)⟩, fun b o e => e, fun b o e => .inl e, fun b x e => e⟩
    · obtain ⟨h1, h2, h3⟩ := look_arg (hv.cut hal) e
      rw [Nat.sub_zero] at h2 h3
      have ht : Nat.blt t n = true := by simp only [Nat.blt_eq]; omega
      simp only [sl, ht, cond_true, argσ]; exact h2
    · have := hcut.gf b o k e i
      exact ⟨fun q => q.2 b o e (by rw [← himg b o e]; exact i), this.2⟩
  refine calls_W hf hb hn ?_ (by rw [hlen]; exact ha)
  refine W_mono (k _ _ rfl _ _ _ hx) ?_
  rintro e σ' w' ⟨y, φ1, hy, he, al', k1, k2, k3⟩
  obtain ⟨vs', hvs, hrun⟩ := selR_ok (P := P) hy.fr hy.rel k1
  have fin : bodyQ P n fn (Ret fun v w'' => ∃ φ', Rel (basH φ h w) φ' h' w'' ∧ VR φ' r v ∧ (∀ b x, b < nx → φ b = some x → φ' b = some x) ∧ (∀ b o, φ.f b = some o → φ'.f b = some o) ∧ ∀ b o, φ'.f b = some o → φ.f b = some o ∨ ¬ (basH φ h w).old b) .ret σ' w' := by
    refine ⟨_, res_run hr hrun, _, rfl, φ1.cut nx, hy.rel.cut k3, ?_, fun b x hb q => (if_pos hb).trans (hy.base b x ((if_pos hb).trans q)), hy.old, hy.new⟩
    have := pack_VR hvs
    rw [k2] at this
    exact this.cut hrl
  rcases he with rfl | rfl
  · exact fin
  · exact fin
noncomputable def idx (b : Nat) : List Nat → Option Nat
  | [] => none
  | x :: r => bif Nat.beq x b then some 0 else match idx b r with
    | some i => some (i + 1)
    | none => none
theorem idx_get : ∀ {ks : List Nat} {b i : Nat}, idx b ks = some i → ks[i]? = some b
  | [], _, _, h => by cases h
  | x :: r, b, i, h => by
    unfold idx at h
    rcases beq_cases x b with ⟨e, q⟩ | ⟨e, q⟩ <;> rw [e] at h
    · cases h; rw [q]; rfl
    · rw [cond_false] at h
      split at h
      · rename_i j hj; cases h; simpa using idx_get hj
      · cases h
theorem idx_none : ∀ {ks : List Nat} {b : Nat}, idx b ks = none → ∀ i : Nat, ks[i]? ≠ some b
  | [], _, _, i => by simp
  | x :: r, b, h, i => by
    unfold idx at h
    rcases beq_cases x b with ⟨e, q⟩ | ⟨e, q⟩ <;> rw [e] at h
    · cases h
    · rw [cond_false] at h
      split at h
      · cases h
      · rename_i hj
        cases i with
        | zero => simp; exact q
        | succ i => simpa using idx_none hj i
noncomputable def nodupB : List Nat → Bool
  | [] => true
  | x :: r => (match idx x r with | some _ => false | none => true) && nodupB r
theorem nodup_inj : ∀ {ks : List Nat}, nodupB ks = true → ∀ {i j b : Nat}, ks[i]? = some b → ks[j]? = some b → i = j
  | [], _, _, _, _, h, _ => by simp at h
  | x :: r, h, i, j, b, h1, h2 => by
    simp only [nodupB, Bool.and_eq_true] at h
    have hx : idx x r = none := by
      have := h.1
      cases hq : idx x r with
      | none => rfl
      | some _ => rw [hq] at this; cases this
    cases i with
    | zero =>
      cases j with
      | zero => rfl
      | succ j => simp at h1 h2; subst h1; exact absurd h2 (idx_none hx j)
    | succ i =>
      cases j with
      | zero => simp at h1 h2; subst h2; exact absurd h1 (idx_none hx i)
      | succ j => simp at h1 h2; rw [nodup_inj h.2 h1 h2]
theorem idx_of {ks : List Nat} (hn : nodupB ks = true) {i b : Nat} (h : ks[i]? = some b) : idx b ks = some i := by
  cases hq : idx b ks with
  | none => exact absurd h (idx_none hq i)
  | some j => rw [nodup_inj hn (idx_get hq) h]
def Phi.pull (φ : Phi) (ks : List Nat) : Phi := ⟨fun i => (ks[i]?).bind fun b => φ b, fun i => (ks[i]?).bind fun b => φ.s b, φ.f⟩
mutual
noncomputable def renA (ks : List Nat) : AV → Option AV
  | .ptr b o => match idx b ks with | some i => some (.ptr i o) | none => none
  | .sl b o n c op => match idx b ks with | some i => some (.sl i o n c op) | none => none
  | .map b => match idx b ks with | some i => some (.map i) | none => none
  | .own b => match idx b ks with | some i => some (.own i) | none => none
  | .fn f fi cap => match renL ks fi, renL ks cap with | some x, some y => some (.fn f x y) | _, _ => none
  | .ifc t a => match renA ks a with | some x => some (.ifc t x) | none => none
  | .agg l => match renL ks l with | some x => some (.agg x) | none => none
  | .tup l => match renL ks l with | some x => some (.tup x) | none => none
  | .cond q a => match renA ks a with | some x => some (.cond q x) | none => none
  | a => some a
noncomputable def renL (ks : List Nat) : List AV → Option (List AV)
  | [] => some []
  | a :: l => match renA ks a, renL ks l with | some x, some y => some (x :: y) | _, _ => none
end
theorem pull_m {φ : Phi} {ks : List Nat} {b i : Nat} (h : idx b ks = some i) : (φ.pull ks) i = φ b := by simp [Phi.pull, idx_get h]
theorem pull_s {φ : Phi} {ks : List Nat} {b i : Nat} (h : idx b ks = some i) : (φ.pull ks).s i = φ.s b := by simp [Phi.pull, idx_get h]
mutual
theorem VR.pull {ks : List Nat} : ∀ {a a' : AV} {φ : Phi} {v : Value}, renA ks a = some a' → VR φ a v → VR (φ.pull ks) a' v
  | .bool _, _, _, _, h, k => by cases h; exact k
  | .int _ _, _, _, _, h, k => by cases h; exact k
  | .str _, _, _, _, h, k => by cases h; exact k
  | .ptr b o, _, _, _, h, k => by
    unfold renA at h; split at h
    · rename_i i hi; cases h; simp only [VR] at k ⊢; rw [pull_m hi]; exact k
    · cases h
  | .nilp, _, _, _, h, k => by cases h; exact k
  | .sl b o n c op, _, _, _, h, k => by
    unfold renA at h; split at h
    · rename_i i hi; cases h; simp only [VR] at k ⊢; rw [pull_m hi]; exact k
    · cases h
  | .nils, _, _, _, h, k => by cases h; exact k
  | .sle, _, _, _, h, k => by cases h; exact k
  | .map b, _, _, _, h, k => by
    unfold renA at h; split at h
    · rename_i i hi; cases h; simp only [VR] at k ⊢; rw [pull_m hi]; exact k
    · cases h
  | .nilm, _, _, _, h, k => by cases h; exact k
  | .fn f fi cap, _, _, _, h, k => by
    unfold renA at h; split at h
    · rename_i x y hx hy; cases h
      simp only [VR] at k ⊢
      obtain ⟨a, b, e1, e2, r⟩ := k; exact ⟨a, b, VRl.pull hx e1, VRl.pull hy e2, r⟩
    · cases h
  | .nilf, _, _, _, h, k => by cases h; exact k
  | .ifc t a, _, _, _, h, k => by
    unfold renA at h; split at h
    · rename_i x hx; cases h
      simp only [VR] at k ⊢
      obtain ⟨u, e, r⟩ := k; exact ⟨u, VR.pull hx e, r⟩
    · cases h
  | .nili, _, _, _, h, k => by cases h; exact k
  | .agg l, _, _, _, h, k => by
    unfold renA at h; split at h
    · rename_i x hx; cases h
      simp only [VR] at k ⊢
      obtain ⟨u, e, r⟩ := k; exact ⟨u, VRl.pull hx e, r⟩
    · cases h
  | .tup l, _, _, _, h, k => by
    unfold renA at h; split at h
    · rename_i x hx; cases h
      simp only [VR] at k ⊢
      obtain ⟨u, e, r⟩ := k; exact ⟨u, VRl.pull hx e, r⟩
    · cases h
  | .raw _, _, _, _, h, k => by cases h; exact k
  | .row _ _ _, _, _, _, h, k => by cases h; simp only [VR] at k ⊢; exact k
  | .fp _, _, _, _, h, k => by cases h; simp only [VR] at k ⊢; exact k
  | .own b, _, _, _, h, k => by
    unfold renA at h; split at h
    · rename_i i hi; cases h; simp only [VR] at k ⊢; rw [pull_s hi]; exact k
    · cases h
  | .cond q a, _, _, _, h, k => by
    unfold renA at h; split at h
    · rename_i x hx; cases h
      simp only [VR] at k ⊢
      exact fun q => VR.pull hx (k q)
    · cases h
theorem VRl.pull {ks : List Nat} : ∀ {l l' : List AV} {φ : Phi} {vs : List Value}, renL ks l = some l' → VRl φ l vs → VRl (φ.pull ks) l' vs
  | [], _, _, _, h, k => by cases h; exact k
  | a :: l, _, φ, _, h, k => by
    unfold renL at h; split at h
    · rename_i x y hx hy; cases h
      obtain ⟨v, vs', rfl, h1, h2⟩ := k.cons_inv
      exact .cons (VR.pull hx h1) (VRl.pull hy h2)
    · cases h
end
noncomputable def renO (ks : List Nat) : AO → Option AO
  | .row c e => match renL ks c with | some x => some (.row x e) | none => none
  | o => some o
noncomputable def subH (ks : List Nat) (h : AH) : Nat → List Nat → Option AH
  | _, [] => some []
  | i, b :: l => match getH b h with
    | some o => match renO ks o, subH ks h (i + 1) l with
      | some o', some r => some ((i, o') :: r)
      | _, _ => none
    | none => none
theorem sub_get {ks : List Nat} {h : AH} : ∀ {l : List Nat} {i : Nat} {r : AH}, subH ks h i l = some r → ∀ j o, getH j r = some o → i ≤ j ∧ ∃ b o0, l[j - i]? = some b ∧ getH b h = some o0 ∧ renO ks o0 = some o
  | [], _, _, e, j, o, k => by cases e; cases k
  | b :: l, i, r, e, j, o, k => by
    unfold subH at e
    split at e
    · rename_i o0 ho
      split at e
      · rename_i o' r' h1 h2
        cases e
        simp only [getH] at k
        rcases beq_cases i j with ⟨q, q'⟩ | ⟨q, q'⟩ <;> rw [q] at k
        · cases k; subst q'
          exact ⟨Nat.le_refl _, b, o0, by simp, ho, h1⟩
        · obtain ⟨g1, b', o1, g2, g3, g4⟩ := sub_get h2 j o k
          exact ⟨by omega, b', o1, by rw [show j - i = (j - (i + 1)) + 1 by omega]; simpa using g2, g3, g4⟩
      · cases e
    · cases e
theorem img_pull {φ : Phi} {ks : List Nat} {b i : Nat} (h : idx b ks = some i) {o o' : AO} (ho : renO ks o = some o') : img (φ.pull ks) i o' = img φ b o := by
  cases o <;> simp only [renO] at ho
  case row c e =>
    split at ho
    · cases ho; simp only [img, pull_m h]
    · cases ho
  all_goals (cases ho; simp only [img, pull_m h, pull_s h])
theorem Rel.pull {B : Bas} {φ : Phi} {h H : AH} {w : World} {ks : List Nat} (r : Rel B φ h w) (hn : nodupB ks = true) (k : subH ks h 0 ks = some H) : Rel B (φ.pull ks) H w := by
  have get : ∀ i o, getH i H = some o → ∃ b o0, idx b ks = some i ∧ getH b h = some o0 ∧ renO ks o0 = some o := by
    intro i o e
    obtain ⟨_, b, o0, g1, g2, g3⟩ := sub_get k i o e
    exact ⟨b, o0, idx_of hn (by simpa using g1), g2, g3⟩
  refine ⟨r.below, r.fro, fun i o e => ?_, fun i j o o' q e e' i1 i2 => ?_, fun i o q e i1 => ?_⟩
  · obtain ⟨b, o0, g1, g2, g3⟩ := get i o e
    have ha := r.obj b o0 g2
    cases o0 <;> simp only [renO] at g3
    case row c e' =>
      split at g3
      · rename_i x hx; cases g3
        obtain ⟨y, κ, vs, a1, a2, a3⟩ := ha
        exact ⟨y, κ, vs, by rw [pull_m g1]; exact a1, a2, a3.pull hx⟩
      · cases g3
    case grow es e' sz => cases g3; obtain ⟨v, vs, a1, a2⟩ := ha; exact ⟨v, vs, by rw [pull_s g1]; exact a1, a2⟩
    case map es clk => cases g3; obtain ⟨x, κ, l, a1, a2⟩ := ha; exact ⟨x, κ, l, by rw [pull_m g1]; exact a1, a2⟩
    case siter s p => cases g3; obtain ⟨x, κ, a1, a2⟩ := ha; exact ⟨x, κ, by rw [pull_m g1]; exact a1, a2⟩
  · obtain ⟨b, o0, g1, g2, g3⟩ := get i o e
    obtain ⟨b', o1, g4, g5, g6⟩ := get j o' e'
    rw [img_pull g1 g3] at i1; rw [img_pull g4 g6] at i2
    have := r.sep b b' o0 o1 q g2 g5 i1 i2
    subst this
    rw [g1] at g4; exact Option.some.inj g4
  · obtain ⟨b, o0, g1, g2, g3⟩ := get i o e
    rw [img_pull g1 g3] at i1
    exact r.gf b o0 q g2 i1
mutual
noncomputable def unA (ks : List Nat) : AV → Option AV
  | .ptr i o => match ks[i]? with | some b => some (.ptr b o) | none => none
  | .sl i o n c op => match ks[i]? with | some b => some (.sl b o n c op) | none => none
  | .map i => match ks[i]? with | some b => some (.map b) | none => none
  | .own i => match ks[i]? with | some b => some (.own b) | none => none
  | .fn f fi cap => match unL ks fi, unL ks cap with | some x, some y => some (.fn f x y) | _, _ => none
  | .ifc t a => match unA ks a with | some x => some (.ifc t x) | none => none
  | .agg l => match unL ks l with | some x => some (.agg x) | none => none
  | .tup l => match unL ks l with | some x => some (.tup x) | none => none
  | .cond q a => match unA ks a with | some x => some (.cond q x) | none => none
  | a => some a
noncomputable def unL (ks : List Nat) : List AV → Option (List AV)
  | [] => some []
  | a :: l => match unA ks a, unL ks l with | some x, some y => some (x :: y) | _, _ => none
end
noncomputable def Phi.push (φ φ' : Phi) (ks : List Nat) : Phi := ⟨fun b => match idx b ks with | some i => φ' i | none => φ b, fun b => match idx b ks with | some i => φ'.s i | none => φ.s b, φ'.f⟩
theorem push_m {φ φ' : Phi} {ks : List Nat} (hn : nodupB ks = true) {i b : Nat} (h : ks[i]? = some b) : (φ.push φ' ks) b = φ' i := by simp [Phi.push, idx_of hn h]
theorem push_s {φ φ' : Phi} {ks : List Nat} (hn : nodupB ks = true) {i b : Nat} (h : ks[i]? = some b) : (φ.push φ' ks).s b = φ'.s i := by simp [Phi.push, idx_of hn h]
mutual
theorem VR.push {ks : List Nat} (hn : nodupB ks = true) {φ φ' : Phi} : ∀ {a a' : AV} {v : Value}, unA ks a = some a' → VR φ' a v → VR (φ.push φ' ks) a' v
  | .bool _, _, _, h, k => by cases h; exact k
  | .int _ _, _, _, h, k => by cases h; exact k
  | .str _, _, _, h, k => by cases h; exact k
  | .ptr b o, _, _, h, k => by
    unfold unA at h; split at h
    · rename_i i hi; cases h; simp only [VR] at k ⊢; rw [push_m hn hi]; exact k
    · cases h
  | .nilp, _, _, h, k => by cases h; exact k
  | .sl b o n c op, _, _, h, k => by
    unfold unA at h; split at h
    · rename_i i hi; cases h; simp only [VR] at k ⊢; rw [push_m hn hi]; exact k
    · cases h
  | .nils, _, _, h, k => by cases h; exact k
  | .sle, _, _, h, k => by cases h; exact k
  | .map b, _, _, h, k => by
    unfold unA at h; split at h
    · rename_i i hi; cases h; simp only [VR] at k ⊢; rw [push_m hn hi]; exact k
    · cases h
  | .nilm, _, _, h, k => by cases h; exact k
  | .fn f fi cap, _, _, h, k => by
    unfold unA at h; split at h
    · rename_i x y hx hy; cases h
      simp only [VR] at k ⊢
      obtain ⟨a, b, e1, e2, r⟩ := k; exact ⟨a, b, VRl.push hn hx e1, VRl.push hn hy e2, r⟩
    · cases h
  | .nilf, _, _, h, k => by cases h; exact k
  | .ifc t a, _, _, h, k => by
    unfold unA at h; split at h
    · rename_i x hx; cases h
      simp only [VR] at k ⊢
      obtain ⟨u, e, r⟩ := k; exact ⟨u, VR.push hn hx e, r⟩
    · cases h
  | .nili, _, _, h, k => by cases h; exact k
  | .agg l, _, _, h, k => by
    unfold unA at h; split at h
    · rename_i x hx; cases h
      simp only [VR] at k ⊢
      obtain ⟨u, e, r⟩ := k; exact ⟨u, VRl.push hn hx e, r⟩
    · cases h
  | .tup l, _, _, h, k => by
    unfold unA at h; split at h
    · rename_i x hx; cases h
      simp only [VR] at k ⊢
      obtain ⟨u, e, r⟩ := k; exact ⟨u, VRl.push hn hx e, r⟩
    · cases h
  | .raw _, _, _, h, k => by cases h; exact k
  | .row _ _ _, _, _, h, k => by cases h; simp only [VR] at k ⊢; exact k
  | .fp _, _, _, h, k => by cases h; simp only [VR] at k ⊢; exact k
  | .own b, _, _, h, k => by
    unfold unA at h; split at h
    · rename_i i hi; cases h; simp only [VR] at k ⊢; rw [push_s hn hi]; exact k
    · cases h
  | .cond q a, _, _, h, k => by
    unfold unA at h; split at h
    · rename_i x hx; cases h
      simp only [VR] at k ⊢
      exact fun q => VR.push hn hx (k q)
    · cases h
theorem VRl.push {ks : List Nat} (hn : nodupB ks = true) {φ φ' : Phi} : ∀ {l l' : List AV} {vs : List Value}, unL ks l = some l' → VRl φ' l vs → VRl (φ.push φ' ks) l' vs
  | [], _, _, h, k => by cases h; rw [k.nil_inv]; exact .nil
  | a :: l, _, _, h, k => by
    unfold unL at h; split at h
    · rename_i x y hx hy; cases h
      obtain ⟨v, vs', rfl, h1, h2⟩ := k.cons_inv
      exact .cons (VR.push hn hx h1) (VRl.push hn hy h2)
    · cases h
end
mutual
noncomputable def nook (ks : List Nat) : AV → Bool
  | .own b => match idx b ks with | some _ => false | none => true
  | .fn _ first cap => nookl ks first && nookl ks cap
  | .ifc _ a => nook ks a
  | .agg l => nookl ks l
  | .tup l => nookl ks l
  | .cond _ a => nook ks a
  | _ => true
noncomputable def nookl (ks : List Nat) : List AV → Bool
  | [] => true
  | a :: l => nook ks a && nookl ks l
end
structure Stay (φ φ' : Phi) (ks : List Nat) : Prop where
  m : ∀ b x, φ b = some x → φ' b = some x
  s : ∀ b, idx b ks = none → φ'.s b = φ.s b
  f : ∀ k o, φ.f k = some o → φ'.f k = some o
mutual
theorem VR.stay {n : List Nat} : ∀ {a : AV} {φ φ' : Phi} {v : Value}, Stay φ φ' n → VR φ a v → nook n a = true → VR φ' a v
  | .bool _, _, _, _, _, k, _ => k
  | .int _ _, _, _, _, _, k, _ => k
  | .str _, _, _, _, _, k, _ => k
  | .ptr _ _, _, _, _, t, k, h => by simp only [VR] at k ⊢; obtain ⟨x, κ, e, r⟩ := k; exact ⟨x, κ, t.m _ _ e, r⟩
  | .nilp, _, _, _, _, k, _ => k
  | .sl _ _ _ _ _, _, _, _, t, k, h => by simp only [VR] at k ⊢; obtain ⟨x, κ, e, r⟩ := k; exact ⟨x, κ, t.m _ _ e, r⟩
  | .nils, _, _, _, _, k, _ => k
  | .sle, _, _, _, _, k, _ => k
  | .map _, _, _, _, t, k, h => by simp only [VR] at k ⊢; obtain ⟨x, κ, e, r⟩ := k; exact ⟨x, κ, t.m _ _ e, r⟩
  | .nilm, _, _, _, _, k, _ => k
  | .fn _ _ _, _, _, _, t, k, h => by
    simp only [VR] at k ⊢
    simp only [nook, Bool.and_eq_true] at h
    obtain ⟨a, b, e1, e2, r⟩ := k; exact ⟨a, b, VRl.stay t e1 h.1, VRl.stay t e2 h.2, r⟩
  | .nilf, _, _, _, _, k, _ => k
  | .ifc _ _, _, _, _, t, k, h => by
    simp only [VR] at k ⊢
    simp only [nook] at h
    obtain ⟨u, e, r⟩ := k; exact ⟨u, VR.stay t e h, r⟩
  | .nili, _, _, _, _, k, _ => k
  | .agg _, _, _, _, t, k, h => by
    simp only [VR] at k ⊢
    simp only [nook] at h
    obtain ⟨u, e, r⟩ := k; exact ⟨u, VRl.stay t e h, r⟩
  | .tup _, _, _, _, t, k, h => by
    simp only [VR] at k ⊢
    simp only [nook] at h
    obtain ⟨u, e, r⟩ := k; exact ⟨u, VRl.stay t e h, r⟩
  | .raw _, _, _, _, _, k, _ => k
  | .row _ _ _, _, _, _, t, k, _ => by
    simp only [VR] at k ⊢
    obtain ⟨u, k1, k2⟩ := k
    exact ⟨u, fun i hi => (k1 i hi).mono (fz_le_of t.f), by
      rcases k2 with k2 | ⟨b, o, c, rfl, k0, k2⟩
      · exact .inl k2
      · exact .inr ⟨b, o, c, rfl, k0, fun i hi => ⟨(k2 i hi).1, by obtain ⟨cs, e, fr, q1, q2⟩ := (k2 i hi).2; exact ⟨cs, e, fr, t.f _ _ q1, q2⟩⟩⟩⟩
  | .fp _, _, _, _, t, k, _ => by
    simp only [VR] at k ⊢
    obtain ⟨b, o, u, e, k1, cs, e', fr, q1, q2⟩ := k
    exact ⟨b, o, u, e, k1.mono (fz_le_of t.f), cs, e', fr, t.f _ _ q1, q2⟩
  | .own c, _, _, _, t, k, h => by
    simp only [VR] at k ⊢
    simp only [nook] at h
    rw [t.s c (by cases hq : idx c n with
                  | none => rfl
                  | some _ => rw [hq] at h; cases h)]; exact k
  | .cond _ _, _, _, _, t, k, h => by
    simp only [VR] at k ⊢
    simp only [nook] at h
    exact fun q => VR.stay t (k q) h
theorem VRl.stay {n : List Nat} : ∀ {l : List AV} {φ φ' : Phi} {vs : List Value}, Stay φ φ' n → VRl φ l vs → nookl n l = true → VRl φ' l vs
  | [], _, _, _, _, k, _ => by rw [k.nil_inv]; exact .nil
  | _ :: _, _, _, _, t, k, h => by
    simp only [VRl] at k ⊢
    simp only [nookl, Bool.and_eq_true] at h
    obtain ⟨v, vs', e, e1, e2⟩ := k; exact ⟨v, vs', e, VR.stay t e1 h.1, VRl.stay t e2 h.2⟩
end
noncomputable def sweep (ks : List Nat) (a : AV) : AV := bif nook ks a then a else junk
theorem sweep_stay {ks : List Nat} {a : AV} {φ φ' : Phi} {v : Value} (t : Stay φ φ' ks) (k : VR φ a v) : VR φ' (sweep ks a) v := by
  unfold sweep
  cases h : nook ks a with
  | true => exact VR.stay t k h
  | false => exact junk_VR
theorem sweepl_stay {ks : List Nat} {φ φ' : Phi} (t : Stay φ φ' ks) : ∀ {l : List AV} {vs : List Value}, VRl φ l vs → VRl φ' (l.map (sweep ks)) vs
  | [], _, k => by rw [k.nil_inv]; exact .nil
  | a :: l, _, k => by
    obtain ⟨v, vs', rfl, h1, h2⟩ := k.cons_inv
    exact .cons (sweep_stay t h1) (sweepl_stay t h2)
noncomputable def sweepO (ks : List Nat) : AO → AO
  | .row c e => .row (c.map (sweep ks)) e
  | o => o
noncomputable def unO (ks : List Nat) : AO → Option AO
  | .row c e => match unL ks c with | some x => some (.row x e) | none => none
  | o => some o
noncomputable def mergeH (ks : List Nat) (h' : AH) : AH → Option AH
  | [] => some []
  | (b, o) :: r => match mergeH ks h' r with
    | some r' => match idx b ks with
      | some i => match getH i h' with
        | some o' => match unO ks o' with
          | some o'' => some ((b, o'') :: r')
          | none => none
        | none => some r'
      | none => some ((b, sweepO ks o) :: r')
    | none => none
theorem merge_get {ks : List Nat} {h' : AH} : ∀ {h r : AH}, mergeH ks h' h = some r → ∀ b o, getH b r = some o → (idx b ks = none ∧ ∃ o0, getH b h = some o0 ∧ o = sweepO ks o0) ∨ ∃ i o', idx b ks = some i ∧ getH i h' = some o' ∧ unO ks o' = some o
  | [], _, e, b, o, k => by cases e; cases k
  | (c, x) :: h, r, e, b, o, k => by
    unfold mergeH at e
    split at e
    · rename_i r' hr
      split at e
      · rename_i i hi
        split at e
        · rename_i o' ho'
          split at e
          · rename_i o'' hu
            cases e
            simp only [getH] at k
            rcases beq_cases c b with ⟨q, q'⟩ | ⟨q, q'⟩ <;> rw [q] at k
            · cases k; subst q'; exact .inr ⟨i, o', hi, ho', hu⟩
            · rcases merge_get hr b o k with ⟨g1, o0, g2, g3⟩ | g
              · exact .inl ⟨g1, o0, by simp only [getH, q, cond_false]; exact g2, g3⟩
              · exact .inr g
          · cases e
        · cases e
          rcases merge_get hr b o k with ⟨g1, o0, g2, g3⟩ | g
          · refine .inl ⟨g1, o0, ?_, g3⟩
            simp only [getH]
            rw [beq_false (by rintro rfl; rw [hi] at g1; cases g1)]; exact g2
          · exact .inr g
      · rename_i hi
        cases e
        simp only [getH] at k
        rcases beq_cases c b with ⟨q, q'⟩ | ⟨q, q'⟩ <;> rw [q] at k
        · cases k; subst q'; exact .inl ⟨hi, x, by simp [getH], rfl⟩
        · rcases merge_get hr b o k with ⟨g1, o0, g2, g3⟩ | g
          · exact .inl ⟨g1, o0, by simp only [getH, q, cond_false]; exact g2, g3⟩
          · exact .inr g
    · cases e
theorem img_push {φ φ' : Phi} {ks : List Nat} (hn : nodupB ks = true) {b i : Nat} (h : idx b ks = some i) {o o' : AO} (ho : unO ks o = some o') : img (φ.push φ' ks) b o' = img φ' i o := by
  have hi := idx_get h
  cases o <;> simp only [unO] at ho
  case row c e =>
    split at ho
    · cases ho; simp only [img, push_m hn hi]
    · cases ho
  all_goals (cases ho; simp only [img, push_m hn hi, push_s hn hi])
theorem push_stay {φ φ' : Phi} {ks : List Nat} (hm : ∀ b x, φ.pull ks b = some x → φ' b = some x) (hf : ∀ b o, φ.f b = some o → φ'.f b = some o) : Stay φ (φ.push φ' ks) ks := by
  refine ⟨fun b x e => ?_, fun b e => by simp [Phi.push, e], hf⟩
  show (match idx b ks with | some i => φ' i | none => φ b) = some x
  cases hi : idx b ks with
  | none => exact e
  | some i => exact hm i x (by rw [pull_m hi]; exact e)
theorem Rel.push {B : Bas} {φ φ' : Phi} {h H H' h2 : AH} {w w' : World} {ks : List Nat} (r : Rel B φ h w) (hn : nodupB ks = true) (hs : subH ks h 0 ks = some H) (r' : Rel (basH (φ.pull ks) H w) φ' H' w')
    (hm : ∀ b x, φ.pull ks b = some x → φ' b = some x) (hf : ∀ b o, φ.f b = some o → φ'.f b = some o) (hfn : ∀ b o, φ'.f b = some o → φ.f b = some o ∨ ¬ (basH (φ.pull ks) H w).old b) (k : mergeH ks H' h = some h2) : Rel B (φ.push φ' ks) h2 w' := by
  have st := push_stay (φ := φ) (φ' := φ') (ks := ks) hm hf
  have gH : ∀ i o, getH i H = some o → ∃ b o0, idx b ks = some i ∧ getH b h = some o0 ∧ renO ks o0 = some o := by
    intro i o e
    obtain ⟨_, b, o0, g1, g2, g3⟩ := sub_get hs i o e
    exact ⟨b, o0, idx_of hn (by simpa using g1), g2, g3⟩
  have oth : ∀ b o q, idx b ks = none → getH b h = some o → img φ b o = some q → (basH (φ.pull ks) H w).old q := by
    intro b o q hb e i
    refine ⟨(r.gf b o q e i).2.1, fun j o' e' i' => ?_⟩
    obtain ⟨b', o0, g1, g2, g3⟩ := gH j o' e'
    rw [img_pull g1 g3] at i'
    have := r.sep b b' o o0 q e g2 i i'
    subst this; rw [hb] at g1; cases g1
  have himg : ∀ b o, idx b ks = none → img (φ.push φ' ks) b (sweepO ks o) = img φ b o := by
    intro b o hb
    have h1 : (φ.push φ' ks) b = φ b := by simp [Phi.push, hb]
    have h2 : (φ.push φ' ks).s b = φ.s b := by simp [Phi.push, hb]
    cases o <;> simp only [sweepO, img, h1, h2]
  have notold : ∀ k, ¬ (basH (φ.pull ks) H w).old k → ¬ B.old k := by
    intro k hk hB
    refine hk ⟨r.below.lt hB, fun i o e i' => ?_⟩
    obtain ⟨b', o0, g1, g2, g3⟩ := gH i o e
    rw [img_pull g1 g3] at i'
    exact (r.gf b' o0 k g2 i').1 hB
  refine ⟨r.below.to r'.below.os r'.below.tape r'.below.output r'.below.size fun j hj => ?_, r'.fro, fun b o e => ?_, fun b b' o o' q e e' i i' => ?_, fun b o q e i => ?_⟩
  · refine r'.below.block j ?_
    by_cases h : (basH (φ.pull ks) H w).old j
    · exact h
    · exact absurd hj (notold j h)
  · rcases merge_get k b o e with ⟨g1, o0, g2, rfl⟩ | ⟨i, o', g1, g2, g3⟩
    · have ha := r.obj b o0 g2
      have hsame : ∀ q, img φ b o0 = some q → w'.heap[q]? = w.heap[q]? := fun q hq => r'.below.block q (oth b o0 q g1 g2 hq)
      have h1 : (φ.push φ' ks) b = φ b := by simp [Phi.push, g1]
      have h2 : (φ.push φ' ks).s b = φ.s b := by simp [Phi.push, g1]
      cases o0 with
      | row c e' => obtain ⟨x, κ, vs, a1, a2, a3⟩ := ha; exact ⟨x, κ, vs, by rw [h1]; exact a1, (hsame x (by simp [img, a1])).trans a2, sweepl_stay st a3⟩
      | grow es e' sz => obtain ⟨v, us, a1, a2, a3, a4⟩ := ha; exact ⟨v, us, by rw [h2]; exact a1, owns_block a2 (fun j hj => hsame j (by simp [img, a1, hj])), a3.mono (fz_le_of hf), a4⟩
      | map es clk => obtain ⟨x, κ, l, a1, a2, a3⟩ := ha; exact ⟨x, κ, l, by rw [h1]; exact a1, (hsame x (by simp [img, a1])).trans a2, a3.mono (fz_le_of hf)⟩
      | siter s p => obtain ⟨x, κ, a1, a2⟩ := ha; exact ⟨x, κ, by rw [h1]; exact a1, (hsame x (by simp [img, a1])).trans a2⟩
    · have ha := r'.obj i o' g2
      have hi := idx_get g1
      cases o' <;> simp only [unO] at g3
      case row c e' =>
        split at g3
        · rename_i x hx; cases g3
          obtain ⟨y, κ, vs, a1, a2, a3⟩ := ha
          exact ⟨y, κ, vs, by rw [push_m hn hi]; exact a1, a2, a3.push hn hx⟩
        · cases g3
      case grow es e' sz => cases g3; obtain ⟨v, vs, a1, a2⟩ := ha; exact ⟨v, vs, by rw [push_s hn hi]; exact a1, a2⟩
      case map es clk => cases g3; obtain ⟨x, κ, l, a1, a2⟩ := ha; exact ⟨x, κ, l, by rw [push_m hn hi]; exact a1, a2⟩
      case siter s p => cases g3; obtain ⟨x, κ, a1, a2⟩ := ha; exact ⟨x, κ, by rw [push_m hn hi]; exact a1, a2⟩
  · rcases merge_get k b o e with ⟨g1, o0, g2, rfl⟩ | ⟨j, p, g1, g2, g3⟩ <;> rcases merge_get k b' o' e' with ⟨g1', o0', g2', rfl⟩ | ⟨j', p', g1', g2', g3'⟩
    · rw [himg b o0 g1] at i; rw [himg b' o0' g1'] at i'
      exact r.sep b b' o0 o0' q g2 g2' i i'
    · rw [himg b o0 g1] at i; rw [img_push hn g1' g3'] at i'
      exact absurd (oth b o0 q g1 g2 i) (r'.gf j' p' q g2' i').1
    · rw [img_push hn g1 g3] at i; rw [himg b' o0' g1'] at i'
      exact absurd (oth b' o0' q g1' g2' i') (r'.gf j p q g2 i).1
    · rw [img_push hn g1 g3] at i; rw [img_push hn g1' g3'] at i'
      have := r'.sep j j' p p' q g2 g2' i i'
      subst this
      have a := idx_get g1; have a' := idx_get g1'
      rw [a] at a'; exact Option.some.inj a'
  · rcases merge_get k b o e with ⟨g1, o0, g2, rfl⟩ | ⟨j, p, g1, g2, g3⟩
    · rw [himg b o0 g1] at i
      have hg := r.gf b o0 q g2 i
      have ho := oth b o0 q g1 g2 i
      refine ⟨hg.1, Nat.lt_of_lt_of_le hg.2.1 r'.below.size, ?_⟩
      show φ'.f q = none
      cases hx : φ'.f q with
      | none => rfl
      | some z =>
        rcases hfn q z hx with h | h
        · rw [hg.2.2] at h; cases h
        · exact absurd ho h
    · rw [img_push hn g1 g3] at i
      have hg := r'.gf j p q g2 i
      exact ⟨notold q hg.1, hg.2⟩
noncomputable def sweepF (ks : List Nat) : Fr → Fr := mapL (sweep ks)
theorem FRel.stay {φ φ' : Phi} {ks : List Nat} {n : Nat} {s : Fr} {σ : Nat → Value} (r : FRel φ n s σ) (t : Stay φ φ' ks) : FRel φ' n (sweepF ks s) σ := by
  intro u a h
  simp only [sweepF, look_map] at h
  obtain ⟨a0, h1, rfl⟩ := Option.map_eq_some_iff.1 h
  exact sweep_stay t (r u a0 h1)
noncomputable def belowL (m : Nat) : List Nat → Bool
  | [] => true
  | b :: r => Nat.blt b m && belowL m r
theorem belowL_idx {m : Nat} : ∀ {ks : List Nat}, belowL m ks = true → ∀ {b i : Nat}, idx b ks = some i → b < m
  | [], _, _, _, h => by cases h
  | x :: r, h, b, i, k => by
    simp only [belowL, Bool.and_eq_true] at h
    unfold idx at k
    rcases beq_cases x b with ⟨e, q⟩ | ⟨e, q⟩ <;> rw [e] at k
    · subst q; simpa [Nat.blt_eq] using h.1
    · rw [cond_false] at k
      split at k
      · rename_i j hj; exact belowL_idx h.2 hj
      · cases k
section
variable {P : Program} {B : Bas} {w : World} {F : Cx} {n : Nat} {φ : Phi} {σ : Nat → Value} {K : Exit → St → Prop} {x : St} {ops : Array Oper}
theorem Holds.callS {φ' : Phi} {w' : World} {ks : List Nat} {H H' h2 : AH} {r r' : AV} {v : Value} {dst : Option Nat} {s' : Fr} (hx : Holds B F n x φ σ w) (hn : nodupB ks = true) (hb : belowL x.nx ks = true) (hs : subH ks x.h 0 ks = some H) (hk : mergeH ks H' x.h = some h2)
    (q1 : Rel (basH (φ.pull ks) H w) φ' H' w') (q2 : VR φ' r v) (q3 : ∀ b y, b < ks.length → φ.pull ks b = some y → φ' b = some y) (q4 : ∀ b o, φ.f b = some o → φ'.f b = some o) (q5 : ∀ b o, φ'.f b = some o → φ.f b = some o ∨ ¬ (basH (φ.pull ks) H w).old b)
    (hr : unA ks r = some r') (hp : putF n dst r' (sweepF ks x.s) = some s') : Holds B F n ⟨s', h2, x.nx⟩ (φ.push φ' ks) (updo σ dst v) w' := by
  have hm : ∀ b y, φ.pull ks b = some y → φ' b = some y := by
    intro b y e
    refine q3 b y ?_ e
    by_cases hl : b < ks.length
    · exact hl
    · have : ks[b]? = none := by simp; omega
      simp [Phi.pull, this] at e
  have st := push_stay (φ := φ) (φ' := φ') (ks := ks) hm q4
  refine ⟨(hx.fr.stay st).put hp (q2.push hn hr), hx.rel.push hn hs q1 hm q4 q5 hk, fun b hb' => ?_, fun b o e => q4 _ _ (hx.old b o e), fun b o e => ?_, fun b y e => st.m _ _ (hx.base b y e)⟩
  · have : idx b ks = none := by
      cases hi : idx b ks with
      | none => rfl
      | some i => have := belowL_idx hb hi; have h' : x.nx ≤ b := hb'; omega
    have hd := hx.dom b hb'
    exact ⟨by simp only [Phi.push, this]; exact hd.1, by simp only [Phi.push, this]; exact hd.2⟩
  · rcases q5 b o e with h | h
    · exact hx.new b o h
    · refine .inr fun hB => h ⟨hx.rel.below.lt hB, fun i o' e' i' => ?_⟩
      obtain ⟨_, b', o0, g1, g2, g3⟩ := sub_get hs i o' e'
      rw [img_pull (idx_of hn (by simpa using g1)) g3] at i'
      exact (hx.rel.gf b' o0 b g2 i').1 hB
theorem SO_callS {rest : List Oper} {f : FuncId} {ar : Array Operand} {ts : Array TypeId} {ty : TypeId} {ps : String} {dst : Option Tmp} {af : Array Edge} {g : Option (Nat × Bool)} {al al' : List AV} {r r' : AV} {s' : Fr} {H H' h2 : AH} (ks : List Nat)
    (hg : guardS ops x.s g = true) (he : Enters P f) (ha : evsA (evA x.s) ar.toList = some al) (hra : renL ks al = some al') (hn : nodupB ks = true) (hb : belowL x.nx ks = true) (hs : subH ks x.h 0 ks = some H) (hf : CallS P f al' H ks.length r H')
    (hk : mergeH ks H' x.h = some h2) (hr : unA ks r = some r') (hp : putF n dst r' (sweepF ks x.s) = some s') (next : SO P n ops rest B F K ⟨s', h2, x.nx⟩) : SO P n ops (⟨dst, .call { callee := .value (.func f), args := ar, argTypes := ts }, ty, ps, af, g⟩ :: rest) B F K x := by
  intro φ σ w hx
  have hv := (evsA_ok hx.fr.ev ha).pull hra
  refine WO_call (guardS_ok hx.fr hg) he (hf B (φ.pull ks) w _ (hx.rel.pull hn hs) hv) ?_
  rintro v w' ⟨φ', q1, q2, q3, q4, q5⟩
  exact next _ _ _ (hx.callS hn hb hs hk q1 q2 q3 q4 q5 hr hp)
theorem SO_callSv {rest : List Oper} {t : Nat} {f : FuncId} {cap : List AV} {ar : Array Operand} {ts : Array TypeId} {ty : TypeId} {ps : String} {dst : Option Tmp} {af : Array Edge} {g : Option (Nat × Bool)} {al al' : List AV} {r r' : AV} {s' : Fr} {H H' h2 : AH} (ks : List Nat)
    (hg : guardS ops x.s g = true) (hc : look t x.s = some (.fn f [] cap)) (he : Enters P f) (ha : evsA (evA x.s) ar.toList = some al) (hra : renL ks (al ++ cap) = some al') (hn : nodupB ks = true) (hb : belowL x.nx ks = true) (hs : subH ks x.h 0 ks = some H) (hf : CallS P f al' H ks.length r H')
    (hk : mergeH ks H' x.h = some h2) (hr : unA ks r = some r') (hp : putF n dst r' (sweepF ks x.s) = some s') (next : SO P n ops rest B F K ⟨s', h2, x.nx⟩) : SO P n ops (⟨dst, .call { callee := .value (.tmp t), args := ar, argTypes := ts }, ty, ps, af, g⟩ :: rest) B F K x := by
  intro φ σ w hx
  have hfn := hx.fr _ _ hc
  simp only [VR] at hfn
  obtain ⟨vf, vc, h1, h2', h3⟩ := hfn
  have := h1.nil_inv; subst this
  have hv := ((evsA_ok hx.fr.ev ha).append h2').pull hra
  refine WO_callv (x := .tmp t) (cap := vc.toArray) (guardS_ok hx.fr hg) h3 he (hf B (φ.pull ks) w (List.map (ev n σ) ar.toList ++ vc) (hx.rel.pull hn hs) hv) ?_
  rintro v w' ⟨φ', q1, q2, q3, q4, q5⟩
  exact next _ _ _ (hx.callS hn hb hs hk q1 q2 q3 q4 q5 hr hp)
end
end Sv
end Go.Proofs.YtaegacblpbbndaaDoor
end
section
namespace Go.Proofs.YtaegacblpbbndaaDoor
open Go Go.RowKit
set_option linter.unusedSimpArgs false
set_option linter.unusedVariables false
namespace Sv
noncomputable def stillS (P : Program) (t : Nat) (x : St) : Option St := match look t x.s with
  | some a => match frzV P x.h a with
    | some (r, h) => some ⟨setL t r x.s, h, x.nx⟩
    | none => none
  | none => none
section
variable {P : Program} {B : Bas} {w : World} {F F0 : Cx} {n : Nat} {φ : Phi} {σ : Nat → Value} {K : Exit → St → Prop} {x y : St} {ops : Array Oper}
theorem Holds.still {t : Nat} (h : Holds B F n x φ σ w) (k : stillS P t x = some y) : ∃ φ', Holds B F n y φ' σ w := by
  unfold stillS at k
  split at k
  · rename_i a ha
    split at k
    · rename_i r hh hr
      cases k
      obtain ⟨F', f1, f2, f3, f4⟩ := frzV_ok hr B φ w _ h.rel (VRl.single (h.fr _ _ ha))
      obtain ⟨v, hv, f5⟩ := f4.single_inv
      cases hv
      refine ⟨⟨φ.m, φ.s, F'⟩, fun u c e => ?_, f3, h.dom, fun b o e => f1 _ _ (h.old b o e), fun b o e => (f2 b o e).elim (h.new b o) .inr, h.base⟩
      by_cases hu : u = t
      · subst hu; rw [look_set_same] at e; cases e; exact f5.mono (Phi.le_fz ⟨φ.m, φ.s, F'⟩)
      · rw [look_set_other _ hu] at e; exact (h.fr u c e).mono (leF f1)
    · cases k
  · cases k
theorem SW_still {c : Code} (t : Nat) (k : stillS P t x = some y) (h : SW P n c B F K y) : SW P n c B F K x := fun φ σ w hx => by
  obtain ⟨φ', hh⟩ := hx.still k
  exact h _ _ _ hh
theorem SO_still {l : List Oper} (t : Nat) (k : stillS P t x = some y) (h : SO P n ops l B F K y) : SO P n ops l B F K x := fun φ σ w hx => by
  obtain ⟨φ', hh⟩ := hx.still k
  exact h _ _ _ hh
end
theorem Imp.list {α : Type} [Inhabited α] {sz : Nat} {f : α → AV} {l : List α} {n : Nat} (hn : n = l.length) : Imp (.row sz n (fun i => (l.map f).getD i junk)) (rowOf sz f l) := by
  subst hn
  refine Imp.row fun i hi => Imp.of_eq ?_
  simp only [List.getD_eq_getElem?_getD, List.getElem?_map, nth, List.getElem?_eq_getElem hi, Option.map_some, Option.getD_some]
theorem Imp.refl {a : AV} : Imp a a := fun _ _ k => k
theorem Imp.trans {a b c : AV} (h : Imp a b) (k : Imp b c) : Imp a c := fun φ v q => k φ v (h φ v q)
end Sv
end Go.Proofs.YtaegacblpbbndaaDoor
end
section
namespace Go.Proofs.YtaegacblpbbndaaDoor
open Go Go.RowKit
set_option linter.unusedSimpArgs false
set_option linter.unusedVariables false
namespace Sv
section
variable {P : Program} {n : Nat} {ops : Array Oper} {Q : (Nat → Value) → World → Prop} {fuel : Nat} {listed : Array Bool} {H : World → Prop} {σ : Nat → Value} {w : World}
def Next (P : Program) (n : Nat) (ops : Array Oper) (Q : (Nat → Value) → World → Prop) (H : World → Prop) (fuel : Nat) (listed : Array Bool) (i : Nat) (σ : Nat → Value) (w : World) : Prop :=
  ∃ o, ops[i]? = some o ∧ WO P n ops [o] (fun e σ' w' => e = .normal ∧ H w' ∧ WG P n ops Q H fuel (listed.setIfInBounds i true) σ' w') σ w
theorem WG_each {l : List Nat} (hr : Region.ready .any ops listed = l) (hl : l ≠ []) (h : ∀ i ∈ l, Next P n ops Q H fuel listed i σ w) : WG P n ops Q H (fuel + 1) listed σ w := by
  unfold WG
  refine wpAnyH_all hr hl fun j hj => ?_
  obtain ⟨o, hi, h⟩ := h j hj
  unfold WO wpList at h
  unfold wpOp
  simp only [hi]
  have ho : ¬ LetsOut (lift n fun e σ' w' => e = .normal ∧ H w' ∧ WG P n ops Q H fuel (listed.setIfInBounds j true) σ' w') := by
    rintro ⟨a, w, σ', _, h, _⟩; cases h
  have hk : ∀ a w', wpList P ops (lift n fun e σ' w' => e = .normal ∧ H w' ∧ WG P n ops Q H fuel (listed.setIfInBounds j true) σ' w') [] a w' →
      (H w' ∧ wpAnyH P .any ops (fun e a w => e = .normal ∧ ∃ σ, a = mk n σ ∧ Q σ w) H fuel (listed.setIfInBounds j true) a w') := by
    rintro a w' ⟨σ', rfl, _, hb, hx⟩
    unfold WG at hx
    exact ⟨hb, hx⟩
  split at h
  · rename_i hw
    rw [if_pos hw]
    rcases h with h | ⟨_, h⟩
    · exact .inl (wp_two hk (fun c a w hc => by obtain ⟨_, _, hc, _⟩ := hc; cases hc) ho h)
    · exact absurd h ho
  · rename_i hw
    rw [if_neg hw]; exact hk _ _ h
end
def SN (P : Program) (n : Nat) (ops : Array Oper) (B : Bas) (F : Cx) (K : St → Prop) (F0 : Cx) (E : Bool) (fuel : Nat) (listed : Array Bool) (i : Nat) (x : St) : Prop :=
  ∀ φ σ w, Holds B F0 n x φ σ w → (E = true → φ.f = F0.f) → Next P n ops (fun σ w => ∃ y φ, Holds B F0 n y φ σ w ∧ K y) (Fro F0.f) fuel listed i σ w
section
variable {P : Program} {B : Bas} {w : World} {F F0 : Cx} {n : Nat} {φ : Phi} {σ : Nat → Value} {KK : St → Prop} {x : St} {E : Bool} {ops : Array Oper} {fuel : Nat} {listed : Array Bool}
theorem SG_two (i j : Nat) (hr : Region.ready .any ops listed = [i, j]) (h1 : SN P n ops B F KK F0 E fuel listed i x) (h2 : SN P n ops B F KK F0 E fuel listed j x) : SG P n ops B F KK F0 E (fuel + 1) listed x := by
  unfold SG
  intro φ σ w hx hE
  refine WG_each hr (by simp) fun k hk => ?_
  rcases (by simpa using hk : k = i ∨ k = j) with rfl | rfl
  · exact h1 φ σ w hx hE
  · exact h2 φ σ w hx hE
theorem SN_only (i : Nat) (lz : List Nat) {o : Oper} {y : St} {C : Option Prop} (hi : ops[i]? = some o) (h : stepS P n ops lz o x = some (y, C)) (hC : holds C)
    (next : SG P n ops B F KK F0 E fuel (listed.setIfInBounds i true) y) : SN P n ops B F KK F0 E fuel listed i x := by
  intro φ σ w hx hE
  refine ⟨o, hi, stepS_ok hx h hC fun φ' σ' w' hh e => WO_nil ⟨rfl, hh.hold, ?_⟩⟩
  unfold SG at next
  exact next φ' σ' w' hh (fun q => e.trans (hE q))
end
theorem VRl.put {φ : Phi} {a : AV} : ∀ {l : List AV} {vs : List Value} {j : Nat} {v : Value}, VRl φ l vs → vs[j]? = some v → VR φ a v → VRl φ (l.set j a) vs
  | [], vs, j, v, h, _, _ => by simpa using h
  | x :: l, vs, 0, v, h, hj, ha => by
    obtain ⟨u, vs', rfl, h1, h2⟩ := h.cons_inv
    simp only [List.getElem?_cons_zero, Option.some.injEq] at hj
    subst hj
    exact .cons ha h2
  | x :: l, vs, j + 1, v, h, hj, ha => by
    obtain ⟨u, vs', rfl, h1, h2⟩ := h.cons_inv
    exact .cons h1 (VRl.put h2 (by simpa using hj) ha)
noncomputable def thawC (e sz b j : Nat) (x : St) : Option St := match getH b x.h with
  | some (.row cs e') => match cs[j]? with
    | some .nils => some ⟨x.s, setH b (.row (cs.set j (.own x.nx)) e') (setH x.nx (.grow [] e sz) x.h), x.nx + 1⟩
    | _ => none
  | _ => none
section
variable {P : Program} {B : Bas} {w : World} {F F0 : Cx} {n : Nat} {φ : Phi} {σ : Nat → Value} {K : Exit → St → Prop} {x y : St} {ops : Array Oper}
theorem Holds.thawC {e sz b j : Nat} (h : Holds B F n x φ σ w) (hsz : Nat.blt 0 sz = true) (k : thawC e sz b j x = some y) : ∃ φ', Holds B F n y φ' σ w := by
  unfold Sv.thawC at k
  split at k
  · rename_i cs e' hb
    split at k
    · rename_i hj
      cases k
      obtain ⟨x0, κ, vs, a1, a2, a3⟩ := h.rel.obj b _ hb
      obtain ⟨v, hvj, hv⟩ := a3.get hj
      obtain ⟨φ1, hle, r1, d1, hs1, hf1⟩ := thawS_ok (e := e) (sz := sz) (a := .nils) (h := x.h) (nx := x.nx) rfl (by simpa [Nat.blt_eq] using hsz) hv h.rel h.dom
      have hne : b ≠ x.nx := by
        rintro rfl
        rw [(h.dom _ (Nat.le_refl _)).1] at a1; cases a1
      have hb1 : getH b (setH x.nx (.grow [] e sz) x.h) = some (.row cs e') := by rw [get_set_other _ hne]; exact hb
      refine ⟨φ1, fun u c q => (h.fr u c q).mono hle, ?_, d1, fun b o q => by rw [hf1]; exact h.old b o q, fun b o q => by rw [hf1] at q; exact h.new b o q, fun b o q => hle.m _ _ (h.base b o q)⟩
      refine r1.add (b := b) (o := .row (cs.set j (.own x.nx)) e') ⟨x0, κ, vs, hle.m _ _ a1, a2, (a3.mono hle).put hvj ?_⟩ ?_
      · simp only [VR]; exact ⟨hs1, hv.slice rfl⟩
      · intro q hq
        have hq' : img φ1 b (.row cs e') = some q := hq
        obtain ⟨g1, g2, g3⟩ := r1.gf b _ q hb1 hq'
        exact ⟨g1, g2, g3, fun c o' hc hg hi => hc (r1.sep c b o' _ q hg hb1 hi hq')⟩
    · cases k
  · cases k
end
section
variable {P : Program} {B : Bas} {w : World} {F F0 : Cx} {n : Nat} {φ : Phi} {σ : Nat → Value} {K : Exit → St → Prop} {x y : St} {ops : Array Oper}
theorem SO_thawC {l : List Oper} (e sz b j : Nat) (hsz : Nat.blt 0 sz = true) (k : thawC e sz b j x = some y) (h : SO P n ops l B F K y) : SO P n ops l B F K x := by
  unfold SO at h ⊢
  intro φ σ w hx
  obtain ⟨φ', hh⟩ := hx.thawC hsz k
  exact h _ _ _ hh
end
theorem Imp.nil {α : Type} [Inhabited α] {sz : Nat} {f : α → AV} : Imp .nils (rowOf sz f []) := by
  intro F v k
  simp only [VR] at k; subst k
  unfold rowOf
  simp only [VR]
  exact ⟨fun _ => undef, fun i hi => absurd hi (by simp), .inl ⟨rfl, .inl rfl⟩⟩
theorem FnV.of_args {P : Program} {f : Nat} {al bl : List AV} {r : AV} (h : FnV P f al r) (k : ∀ φ vs, VRl φ bl vs → VRl φ al vs) : FnV P f bl r := fun F w vs h1 h2 => h F w vs h1 (k _ _ h2)
theorem ImpL.cons {a b : AV} {l m : List AV} (h : Imp a b) (k : ∀ φ vs, VRl φ l vs → VRl φ m vs) : ∀ φ vs, VRl φ (a :: l) vs → VRl φ (b :: m) vs := by
  intro F vs q
  obtain ⟨v, vs', rfl, q1, q2⟩ := q.cons_inv
  exact .cons (h F v q1) (k F vs' q2)
theorem ImpL.nil : ∀ φ vs, VRl φ [] vs → VRl φ [] vs := fun _ _ h => h
end Sv
end Go.Proofs.YtaegacblpbbndaaDoor
end
section
namespace Go.Proofs.YtaegacblpbbndaaDoor
open Go Go.RowKit
set_option linter.unusedSimpArgs false
set_option linter.unusedVariables false
def DepT.name : DepT → List UInt8 | .mk _ nm _ _ _ => nm
def DepT.op : DepT → Int | .mk _ _ op _ _ => op
def DepT.evr : DepT → List UInt8 | .mk _ _ _ ev _ => ev
def DepT.args : DepT → List DepT | .mk _ _ _ _ a => a
namespace Sv
mutual
noncomputable def depV : DepT → AV
  | .mk k nm op ev args => .agg [.int .i64 k, .str nm, .int .i64 op, .str ev, .row 5 args.length (depAt args)]
noncomputable def depAt : List DepT → Nat → AV
  | [], _ => junk
  | d :: _, 0 => depV d
  | _ :: r, i + 1 => depAt r i
end
noncomputable def depX (d : DepT) : AV := .agg [.int .i64 d.kind, .str d.name, .int .i64 d.op, .str d.evr, .row 5 d.args.length (depAt d.args)]
theorem depV_eq (d : DepT) : depV d = depX d := by cases d; unfold depV; rfl
theorem depAt_eq : ∀ {l : List DepT} {i : Nat}, i < l.length → depAt l i = depX (nth l i)
  | [], _, h => by simp at h
  | d :: r, 0, _ => by unfold depAt; exact depV_eq d
  | d :: r, i + 1, h => by
    unfold depAt
    exact depAt_eq (l := r) (by simpa using h)
noncomputable abbrev deps (l : List DepT) : AV := rowOf 5 depX l
theorem deps_of (l : List DepT) : Imp (.row 5 l.length (depAt l)) (deps l) := Imp.row fun i hi => Imp.of_eq (depAt_eq hi)
theorem deps_to (l : List DepT) : Imp (deps l) (.row 5 l.length (depAt l)) := Imp.row fun i hi => Imp.of_eq (depAt_eq hi).symm
theorem VRl.of_imp {a b : AV} {l : List AV} (h : Imp a b) : ∀ {p : List AV} {φ : Phi} {vs : List Value}, VRl φ (p ++ a :: l) vs → VRl φ (p ++ b :: l) vs
  | [], φ, vs, k => by
    obtain ⟨v, vs', rfl, h1, h2⟩ := VRl.cons_inv (a := a) (l := l) k
    exact VRl.cons (h φ v h1) h2
  | x :: p, φ, vs, k => by
    obtain ⟨v, vs', rfl, h1, h2⟩ := VRl.cons_inv (a := x) (l := p ++ a :: l) k
    exact VRl.cons h1 (VRl.of_imp h h2)
theorem Imp.agg {a b : AV} {p l : List AV} (h : Imp a b) : Imp (.agg (p ++ a :: l)) (.agg (p ++ b :: l)) := by
  intro φ v k
  simp only [VR] at k ⊢
  obtain ⟨vs, h1, h2⟩ := k; exact ⟨vs, VRl.of_imp h h1, h2⟩
theorem depX_open (d : DepT) : Imp (depX d) (.agg [.int .i64 d.kind, .str d.name, .int .i64 d.op, .str d.evr, deps d.args]) := Imp.agg (p := [.int .i64 d.kind, .str d.name, .int .i64 d.op, .str d.evr]) (deps_of d.args)
theorem depX_shut (d : DepT) : Imp (.agg [.int .i64 d.kind, .str d.name, .int .i64 d.op, .str d.evr, deps d.args]) (depX d) := Imp.agg (p := [.int .i64 d.kind, .str d.name, .int .i64 d.op, .str d.evr]) (deps_to d.args)
theorem size_nth {d : DepT} {i : Nat} (h : i < d.args.length) : (nth d.args i).size < d.size := by
  cases d with
  | mk k nm op ev args =>
    have := argsSize_nth (l := args) (i := i) h
    show (nth args i).size < (DepT.mk k nm op ev args).size
    simp only [DepT.size]; omega
theorem dep_ind {C : DepT → Prop} (h : ∀ d, (∀ i, i < d.args.length → C (nth d.args i)) → C d) (d : DepT) : C d := by
  have key : ∀ n d, d.size ≤ n → C d := by
    intro n
    induction n with
    | zero => intro d hd; cases d; unfold DepT.size at hd; omega
    | succ n ih => intro d hd; exact h d fun i hi => ih _ (by have := size_nth hi; omega)
  exact key d.size d (Nat.le_refl _)
theorem rowIs_of {F : Nat → Option Obj} {w : World} {sz n : Nat} {u : Nat → Value} {v : Value} (hF : Fro F w) (h : RowAt F sz n u v) (hs : ∀ i, i < n → (u i).cells.size = sz) : RowIs w v n sz ((List.range n).map fun i => (u i).cells.toList).flatten := by
  have hf := range_flat (f := fun i => (u i).cells.toList) n (fun i hi => by rw [Array.length_toList]; exact hs i hi)
  rw [List.flatMap_def] at hf
  refine ⟨hf.1, ?_⟩
  rcases h with ⟨rfl, rfl | ⟨a, c, rfl⟩⟩ | ⟨b, o, c, rfl, _, hl⟩
  · exact .inl ⟨rfl, _, _, rfl⟩
  · exact .inl ⟨rfl, _, _, rfl⟩
  · refine .inr ⟨b, o, c, rfl, fun j x hj => ?_⟩
    obtain ⟨i, k, hi, rfl, hk⟩ := hf.2 j x hj
    rw [← Nat.add_assoc]
    exact lie_cell hF (hl i hi).2 hk
theorem row_sizes {F : Nat → Option Obj} {sz n : Nat} {u : Nat → Value} {v : Value} (h : RowAt F sz n u v) : ∀ i, i < n → (u i).cells.size = sz := by
  rcases h with ⟨rfl, _⟩ | ⟨b, o, c, rfl, _, hl⟩
  · intro i hi; omega
  · exact fun i hi => (hl i hi).1
theorem args_list {w : World} : ∀ {l : List DepT} {f : Nat → List Value}, (∀ i, i < l.length → DepC w (nth l i) (f i)) → ArgsC w l ((List.range l.length).map f)
  | [], f, _ => by unfold ArgsC; rfl
  | d :: r, f, h => by
    unfold ArgsC
    refine ⟨f 0, (List.range r.length).map fun i => f (i + 1), ?_, h 0 (by simp), args_list fun i hi => h (i + 1) (by simpa using hi)⟩
    rw [List.length_cons, List.range_succ_eq_map, List.map_cons, List.map_map]; rfl
theorem depC_of {F : Nat → Option Obj} {w : World} (hF : Fro F w) (d : DepT) : ∀ v, VR (ofF F) (depX d) v → ∃ cs, v = .agg cs.toArray ∧ DepC w d cs := by
  refine dep_ind (C := fun d => ∀ v, VR (ofF F) (depX d) v → ∃ cs, v = .agg cs.toArray ∧ DepC w d cs) (fun d ih => ?_) d
  intro v hv
  have hv := depX_open d _ _ hv
  simp only [VR] at hv
  obtain ⟨vs, h1, rfl⟩ := hv
  obtain ⟨v0, r0, rfl, e0, h1⟩ := h1.cons_inv
  obtain ⟨v1, r1, rfl, e1, h1⟩ := h1.cons_inv
  obtain ⟨v2, r2, rfl, e2, h1⟩ := h1.cons_inv
  obtain ⟨v3, r3, rfl, e3, h1⟩ := h1.cons_inv
  obtain ⟨v4, r4, rfl, e4, h1⟩ := h1.cons_inv
  rw [h1.nil_inv]
  simp only [VR] at e0 e1 e2 e3
  subst e0 e1 e2 e3
  simp only [deps, rowOf, VR] at e4
  obtain ⟨u, hu, hr⟩ := e4
  have hsz := row_sizes hr
  refine ⟨_, rfl, ?_⟩
  have hd : d = .mk d.kind d.name d.op d.evr d.args := by cases d; rfl
  rw [hd]; unfold DepC
  refine ⟨v4, (List.range d.args.length).map fun i => (u i).cells.toList, rfl, rowIs_of hF hr hsz, args_list fun i hi => ?_⟩
  obtain ⟨cs, q1, q2⟩ := ih i hi (u i) (hu i hi)
  rw [q1]; simpa [Value.cells] using q2
theorem FnV.of_dep {P : Program} {f : Nat} {d : DepT} {r : AV} {rv : Value} (hr : ∀ F, VR (ofF F) r rv) (h : ∀ (w : World) (cs : List Value), DepC w d cs → Calls P f #[.agg cs.toArray] w (Ret fun v w' => v = rv ∧ Below w.heap.size w w')) : FnV P f [depX d] r := by
  intro F w vs hF hv
  obtain ⟨v, rfl, hv1⟩ := hv.single_inv; clear hv; have hv := hv1
  obtain ⟨cs, rfl, hd⟩ := depC_of hF d v hv
  refine (h w cs hd).mono ?_
  rintro e w' ⟨v, he, rfl, hb⟩
  exact ⟨v, he, hb, F, fun _ _ e => e, fun b o e => (hb.block b (block_lt (hF b o e))).trans (hF b o e), fun _ _ e => .inl e, hr F⟩
theorem FnV.of_none {P : Program} {f : Nat} {r : AV} {rv : Value} (hr : ∀ F, VR (ofF F) r rv) (h : ∀ (w : World), Calls P f #[] w (Ret fun v w' => v = rv ∧ Below w.heap.size w w')) : FnV P f [] r := by
  intro F w vs hF hv
  rw [hv.nil_inv]
  refine (h w).mono ?_
  rintro e w' ⟨v, he, rfl, hb⟩
  exact ⟨v, he, hb, F, fun _ _ e => e, fun b o e => (hb.block b (block_lt (hF b o e))).trans (hF b o e), fun _ _ e => .inl e, hr F⟩
end Sv
end Go.Proofs.YtaegacblpbbndaaDoor
end
section
namespace Go.Proofs.YtaegacblpbbndaaDoor
open Go Go.RowKit
namespace Sv
attribute [local irreducible] SW SO
theorem en_16 : Enters Tryd.prog 16 := enters_of Tryd.func16 (by kernel_rfl) rfl
theorem args_le : ∀ l : List DepT, l.length ≤ argsSize l
 | [] => Nat.zero_le _
 | d :: r => by
  have := args_le r
  have : 1 ≤ d.size := by cases d; simp only [DepT.size]; omega
  simp only [argsSize, List.length_cons]; omega
theorem size_parts (d : DepT) : argsSize d.args + 1 + d.name.length + d.evr.length = d.size := by cases d; simp only [DepT.size, DepT.args, DepT.name, DepT.evr]
theorem take_next {α : Type} [Inhabited α] {l : List α} {i : Nat} (h : i < l.length) : l.take (i + 1) = l.take i ++ [nth l i] := by
 rw [List.take_add_one, nth_eq h]; rfl
theorem range_cut {α β : Type} [Inhabited α] {l : List α} {i m : Nat} (f : α → β) (h : i + m ≤ l.length) : (List.range m).map (fun k => f (nth l (i + k))) = ((l.drop i).take m).map f := by
 refine List.ext_getElem (by simp; omega) fun j h1 h2 => ?_
 simp only [List.length_map, List.length_range] at h1
 simp only [List.getElem_map, List.getElem_range, List.getElem_take, List.getElem_drop, nth, List.getElem?_eq_getElem (show i + j < l.length by omega), Option.getD_some]
theorem range_tail {α β : Type} [Inhabited α] {l : List α} {i : Nat} (f : α → β) (h : i ≤ l.length) : (List.range (l.length - i)).map (fun k => f (nth l (i + k))) = (l.drop i).map f := by
 rw [range_cut f (by omega), List.take_of_length_le (by simp)]
def putL (s : List UInt8) : List (List UInt8) → List (List UInt8)
 | [] => [s]
 | x :: r => if Op.bytesLess x s then x :: putL s r else if x = s then x :: r else s :: x :: r
theorem putL_go {s : List UInt8} {l : List (List UInt8)} {i : Nat} (hi : i < l.length) (h : Op.bytesLess (nth l i) s = true) : putL s (l.drop i) = nth l i :: putL s (l.drop (i + 1)) := by
 rw [drop_nth hi, putL, if_pos h]
theorem putL_is {s : List UInt8} {l : List (List UInt8)} {i : Nat} (hi : i < l.length) (h : ¬ Op.bytesLess (nth l i) s = true) (h2 : nth l i = s) : putL s (l.drop i) = l.drop i := by
 rw [drop_nth hi, putL, if_neg h, if_pos h2]
theorem putL_new {s : List UInt8} {l : List (List UInt8)} {i : Nat} (h : i < l.length → ¬ Op.bytesLess (nth l i) s = true ∧ ¬ nth l i = s) : putL s (l.drop i) = s :: l.drop i := by
 by_cases hi : i < l.length
 ·rw [drop_nth hi, putL, if_neg (h hi).1, if_neg (h hi).2]
 ·rw [List.drop_of_length_le (by omega)]; rfl
set_option maxHeartbeats 400000 in
set_option maxRecDepth 100000 in
theorem refPut_any (l : List (List UInt8)) (s : List UInt8) (hl : l.length ≤ 4611686018427) :
  FnV Tryd.prog 16 [(strs l), (.str s)] (strs (putL s l)) := by
 refine FnV_intro [.tmp 4] Tryd.func16 rfl Tryd.ntmps16 rfl rfl (fun B F hF => ?_)
 refine SW_seq ?_
 refine SW_reg ?_
 refine SO_all [] [0, 1] (y := ⟨[(0, (strs l)), (1, (.str s))], [], 0⟩) (C := none) (by kernel_rfl) hold0 ?_
 refine SW_seq ?_
 refine SW_reg ?_
 refine SO_all [] [0, 1, 5] (y := ⟨[(0, (strs l)), (1, (.str s)), (5, (.int .i64 0))], [], 0⟩) (C := none) (by kernel_rfl) hold0 ?_
 refine SW_seq ?_
 refine SW_block ?_
 refine SW_loopg (fun g y => ∃ (i : Nat), i ≤ l.length ∧ putL s l = l.take i ++ putL s (l.drop i) ∧ y = ⟨[(0, (strs l)), (1, (.str s)), (5, (.int .i64 ((i : Int))))], [], 0⟩ ∧ g = l.length - i) [0, 1, 5] 0 (y := ⟨[(0, (strs l)), (1, (.str s)), (5, (.int .i64 0))], [], 0⟩) _ (by omega) (by kernel_rfl) ⟨0, (by omega), (by rfl), (by kernel_rfl), rfl⟩ ?_
 rintro g1 y1 ⟨i, f1_1, f1_2, rfl, rfl⟩
 refine SW_seq ?_
 refine SW_seq ?_
 refine SW_reg ?_
 refine SO_all [11, 12, 13, 14, 15, 16] [0, 1, 5, 17] (y := ⟨[(0, (strs l)), (1, (.str s)), (5, (.int .i64 ((i : Int)))), (17, (.bool ((decide ((i : Int) < (l.length : Int))) && (Op.bytesLess (nth l i) s))))], [], 0⟩) (C := some (((decide ((i : Int) < (l.length : Int))) = true → ((decide ((i : Int) < (l.length : Int))) = true ∧ (decide ((i : Int) < (l.length : Int))) = true) ∧ (0 ≤ (i : Int) ∧ i < l.length)) ∧ ((decide ((i : Int) < (l.length : Int))) = true → (decide ((i : Int) < (l.length : Int))) = true) ∧ ((decide ((i : Int) < (l.length : Int))) = true → (decide ((i : Int) < (l.length : Int))) = true ∧ (decide ((i : Int) < (l.length : Int))) = true) ∧ ((decide ((i : Int) < (l.length : Int))) = true → (decide ((i : Int) < (l.length : Int))) = true))) (by kernel_rfl) (hold (by first | omega | (simp; omega) | (simp; done) | (intros; simp_all; omega) | (intros; simp_all; done))) ?_
 refine SW_cond (q := (decide ((i : Int) < (l.length : Int))) && (Op.bytesLess (nth l i) s)) rfl (fun c1 => ?_) (fun c1 => ?_)
 ·try simp only [Bool.and_eq_true, Bool.or_eq_true, Bool.and_eq_false_iff, Bool.or_eq_false_iff, Bool.not_eq_true', Bool.not_eq_false', decide_eq_true_eq, decide_eq_false_iff_not] at c1
  refine SW_skip ?_
  refine SW_block ?_
  refine SW_reg ?_
  refine SO_all [] [0, 1, 5] (y := ⟨[(0, (strs l)), (1, (.str s)), (5, (.int .i64 ((i : Int) + 1)))], [], 0⟩) (C := some ((-9223372036854775808 ≤ (i : Int) + 1 ∧ (i : Int) + 1 ≤ 9223372036854775807))) (by kernel_rfl) (hold (by first | omega | (simp; omega) | (simp; done) | (intros; simp_all; omega) | (intros; simp_all; done))) ?_
  refine ⟨_, (by kernel_rfl : gcS _ _ _ = some ⟨[(0, (strs l)), (1, (.str s)), (5, (.int .i64 ((i : Int) + 1)))], [], 0⟩), _, ?_, i + 1, ?_, ?_, (by kernel_rfl), rfl⟩
  all_goals first | omega | skip
  rw [f1_2, putL_go (by omega) (by simp_all), take_next (by omega), List.append_assoc]; rfl
 ·try simp only [Bool.and_eq_true, Bool.or_eq_true, Bool.and_eq_false_iff, Bool.or_eq_false_iff, Bool.not_eq_true', Bool.not_eq_false', decide_eq_true_eq, decide_eq_false_iff_not] at c1
  refine SW_exit ?_
  refine SW_seq ?_
  refine SW_seq ?_
  refine SW_reg ?_
  refine SO_all [25, 26, 27, 28, 29, 30] [0, 1, 5, 31] (y := ⟨[(0, (strs l)), (1, (.str s)), (5, (.int .i64 ((i : Int)))), (31, (.bool ((decide ((i : Int) < (l.length : Int))) && (decide (nth l i = s)))))], [], 0⟩) (C := some (((decide ((i : Int) < (l.length : Int))) = true → ((decide ((i : Int) < (l.length : Int))) = true ∧ (decide ((i : Int) < (l.length : Int))) = true) ∧ (0 ≤ (i : Int) ∧ i < l.length)) ∧ ((decide ((i : Int) < (l.length : Int))) = true → (decide ((i : Int) < (l.length : Int))) = true) ∧ ((decide ((i : Int) < (l.length : Int))) = true → (decide ((i : Int) < (l.length : Int))) = true ∧ (decide ((i : Int) < (l.length : Int))) = true) ∧ ((decide ((i : Int) < (l.length : Int))) = true → (decide ((i : Int) < (l.length : Int))) = true))) (by kernel_rfl) (hold (by first | omega | (simp; omega) | (simp; done) | (intros; simp_all; omega) | (intros; simp_all; done))) ?_
  refine SW_cond (q := (decide ((i : Int) < (l.length : Int))) && (decide (nth l i = s))) rfl (fun c2 => ?_) (fun c2 => ?_)
  ·try simp only [Bool.and_eq_true, Bool.or_eq_true, Bool.and_eq_false_iff, Bool.or_eq_false_iff, Bool.not_eq_true', Bool.not_eq_false', decide_eq_true_eq, decide_eq_false_iff_not] at c2
   refine SW_seq ?_
   refine SW_reg ?_
   refine SO_all [] [4] (y := ⟨[(4, (strs l))], [], 0⟩) (C := none) (by kernel_rfl) hold0 ?_
   refine SW_ret ?_
   refine retK_mk (.inl rfl) (al := [(strs l)]) (by kernel_rfl) (rl := [(strs l)]) (h' := []) (by kernel_rfl) ?_
   exact Same.of_eq (by rw [f1_2, putL_is (by omega) (by simp_all) (by simp_all), List.take_append_drop]; rfl)
  ·try simp only [Bool.and_eq_true, Bool.or_eq_true, Bool.and_eq_false_iff, Bool.or_eq_false_iff, Bool.not_eq_true', Bool.not_eq_false', decide_eq_true_eq, decide_eq_false_iff_not] at c2
   refine SW_skip ?_
   refine SW_seq ?_
   refine SW_draw (by kernel_rfl) (fun F1 hF1 => ?_)
   refine SG_frees (lz := []) [1, 2, 3, 5, 8, 9, 10] [36, 38, 43] (fuel := 6) (L := #[false, true, true, true, false, true, false, false, true, true, true, false, false]) (y := ⟨[(36, (.row 1 (i - 0) (fun kx => (.str (nth l (0 + kx)))))), (38, (.str s)), (43, (.row 1 (l.length - i) (fun kx => (.str (nth l (i + kx))))))], [], 0⟩) (C := some ((0 ≤ (0 : Int) ∧ (0 : Int) ≤ (i : Int) ∧ (i : Int) ≤ (l.length : Int)) ∧ (0 ≤ (i : Int) ∧ (i : Int) ≤ (l.length : Int) ∧ (l.length : Int) ≤ (l.length : Int)))) (by kernel_rfl) (by kernel_rfl) (by kernel_rfl) (hold (by first | omega | (simp; omega) | (simp; done) | (intros; simp_all; omega) | (intros; simp_all; done))) ?_
   refine SG_two 0 6 (by kernel_rfl) ?_ ?_
   ·refine SN_only (fuel := 5) 0 [] (y := ⟨[(36, (.row 1 (i - 0) (fun kx => (.str (nth l (0 + kx)))))), (38, (.str s)), (43, (.row 1 (l.length - i) (fun kx => (.str (nth l (i + kx)))))), (33, (.sl 0 0 0 0 false))], [(0, (.row [] 9))], 1⟩) (C := none) rfl (by kernel_rfl) hold0 ?_
    refine SG_two 4 6 (by kernel_rfl) ?_ ?_
    ·refine SN_only (fuel := 4) 4 [] (y := ⟨[(36, (.row 1 (i - 0) (fun kx => (.str (nth l (0 + kx)))))), (38, (.str s)), (43, (.row 1 (l.length - i) (fun kx => (.str (nth l (i + kx)))))), (33, (.sl 0 0 0 0 false)), (37, (.own 1))], [(1, (.grow (([] : List AV) ++ ((List.range (i - 0)).map (fun kx => ((.str (nth l (0 + kx))) : AV)))) 9 1))], 2⟩) (C := some (((([] : List AV).length + (i - 0)) * 16 ≤ 140737488355328))) rfl (by kernel_rfl) (hold (by first | omega | (simp; omega) | (simp; done) | (intros; simp_all; omega) | (intros; simp_all; done))) ?_
     refine SG_only (fuel := 3) 6 [] (y := ⟨[(36, (.row 1 (i - 0) (fun kx => (.str (nth l (0 + kx)))))), (38, (.str s)), (43, (.row 1 (l.length - i) (fun kx => (.str (nth l (i + kx)))))), (33, (.sl 0 0 0 0 false)), (37, (.own 1)), (39, (.sl 2 0 1 1 false))], [(1, (.grow (([] : List AV) ++ ((List.range (i - 0)).map (fun kx => ((.str (nth l (0 + kx))) : AV)))) 9 1)), (2, (.row [(.str s)] 9))], 3⟩) (C := none) (by kernel_rfl) rfl (by kernel_rfl) hold0 ?_
     refine SG_only (fuel := 2) 7 [] (y := ⟨[(36, (.row 1 (i - 0) (fun kx => (.str (nth l (0 + kx)))))), (38, (.str s)), (43, (.row 1 (l.length - i) (fun kx => (.str (nth l (i + kx)))))), (33, (.sl 0 0 0 0 false)), (37, junk), (39, (.sl 2 0 1 1 false)), (40, (.own 1))], [(1, (.grow ((([] : List AV) ++ ((List.range (i - 0)).map (fun kx => ((.str (nth l (0 + kx))) : AV)))) ++ ([(.str s)] : List AV)) 9 1)), (2, (.row [(.str s)] 9))], 3⟩) (C := some ((((([] : List AV) ++ ((List.range (i - 0)).map (fun kx => ((.str (nth l (0 + kx))) : AV)))).length + 1) * 16 ≤ 140737488355328))) (by kernel_rfl) rfl (by kernel_rfl) (hold (by first | omega | (simp; omega) | (simp; done) | (intros; simp_all; omega) | (intros; simp_all; done))) ?_
     refine SG_only (fuel := 1) 11 [] (y := ⟨[(36, (.row 1 (i - 0) (fun kx => (.str (nth l (0 + kx)))))), (38, (.str s)), (43, (.row 1 (l.length - i) (fun kx => (.str (nth l (i + kx)))))), (33, (.sl 0 0 0 0 false)), (37, junk), (39, (.sl 2 0 1 1 false)), (40, junk), (44, (.own 1))], [(1, (.grow (((([] : List AV) ++ ((List.range (i - 0)).map (fun kx => ((.str (nth l (0 + kx))) : AV)))) ++ ([(.str s)] : List AV)) ++ ((List.range (l.length - i)).map (fun kx => ((.str (nth l (i + kx))) : AV)))) 9 1)), (2, (.row [(.str s)] 9))], 3⟩) (C := some (((((([] : List AV) ++ ((List.range (i - 0)).map (fun kx => ((.str (nth l (0 + kx))) : AV)))) ++ ([(.str s)] : List AV)).length + (l.length - i)) * 16 ≤ 140737488355328))) (by kernel_rfl) rfl (by kernel_rfl) (hold (by first | omega | (simp; omega) | (simp; done) | (intros; simp_all; omega) | (intros; simp_all; done))) ?_
     refine SG_frees (lz := []) [12] [4] (fuel := 0) (L := #[true, true, true, true, true, true, true, true, true, true, true, true, true]) (y := ⟨[(4, (.own 1))], [(1, (.grow (((([] : List AV) ++ ((List.range (i - 0)).map (fun kx => ((.str (nth l (0 + kx))) : AV)))) ++ ([(.str s)] : List AV)) ++ ((List.range (l.length - i)).map (fun kx => ((.str (nth l (i + kx))) : AV)))) 9 1)), (2, (.row [(.str s)] 9))], 3⟩) (C := none) (by kernel_rfl) (by kernel_rfl) (by kernel_rfl) hold0 ?_
     refine SG_sel [4] (s := [(4, (.own 1))]) (by kernel_rfl) ?_
     refine SG_done (by kernel_rfl) ?_
     refine SW_ret ?_
     refine retK_mk (.inl rfl) (al := [(.own 1)]) (by kernel_rfl) (rl := [(.row 1 (((([] : List AV) ++ ((List.range (i - 0)).map (fun kx => ((.str (nth l (0 + kx))) : AV)))) ++ ([(.str s)] : List AV)) ++ ((List.range (l.length - i)).map (fun kx => ((.str (nth l (i + kx))) : AV)))).length (fun ix => (((([] : List AV) ++ ((List.range (i - 0)).map (fun kx => ((.str (nth l (0 + kx))) : AV)))) ++ ([(.str s)] : List AV)) ++ ((List.range (l.length - i)).map (fun kx => ((.str (nth l (i + kx))) : AV)))).getD ix junk))]) (h' := [(2, (.row [(.str s)] 9))]) (by kernel_rfl) ?_
     simp only [pack]
     exact Same.grown (f := AV.str) (l := putL s l) (by rw [f1_2, putL_new (fun _ => by simp_all), range_cut AV.str (by omega), range_tail AV.str (by omega)]; simp [chunk])
    ·refine SN_only (fuel := 4) 6 [] (y := ⟨[(36, (.row 1 (i - 0) (fun kx => (.str (nth l (0 + kx)))))), (38, (.str s)), (43, (.row 1 (l.length - i) (fun kx => (.str (nth l (i + kx)))))), (33, (.sl 0 0 0 0 false)), (39, (.sl 1 0 1 1 false))], [(0, (.row [] 9)), (1, (.row [(.str s)] 9))], 2⟩) (C := none) rfl (by kernel_rfl) hold0 ?_
     refine SG_only (fuel := 3) 4 [] (y := ⟨[(36, (.row 1 (i - 0) (fun kx => (.str (nth l (0 + kx)))))), (38, (.str s)), (43, (.row 1 (l.length - i) (fun kx => (.str (nth l (i + kx)))))), (33, (.sl 0 0 0 0 false)), (39, (.sl 1 0 1 1 false)), (37, (.own 2))], [(1, (.row [(.str s)] 9)), (2, (.grow (([] : List AV) ++ ((List.range (i - 0)).map (fun kx => ((.str (nth l (0 + kx))) : AV)))) 9 1))], 3⟩) (C := some (((([] : List AV).length + (i - 0)) * 16 ≤ 140737488355328))) (by kernel_rfl) rfl (by kernel_rfl) (hold (by first | omega | (simp; omega) | (simp; done) | (intros; simp_all; omega) | (intros; simp_all; done))) ?_
     refine SG_only (fuel := 2) 7 [] (y := ⟨[(36, (.row 1 (i - 0) (fun kx => (.str (nth l (0 + kx)))))), (38, (.str s)), (43, (.row 1 (l.length - i) (fun kx => (.str (nth l (i + kx)))))), (33, (.sl 0 0 0 0 false)), (39, (.sl 1 0 1 1 false)), (37, junk), (40, (.own 2))], [(1, (.row [(.str s)] 9)), (2, (.grow ((([] : List AV) ++ ((List.range (i - 0)).map (fun kx => ((.str (nth l (0 + kx))) : AV)))) ++ ([(.str s)] : List AV)) 9 1))], 3⟩) (C := some ((((([] : List AV) ++ ((List.range (i - 0)).map (fun kx => ((.str (nth l (0 + kx))) : AV)))).length + 1) * 16 ≤ 140737488355328))) (by kernel_rfl) rfl (by kernel_rfl) (hold (by first | omega | (simp; omega) | (simp; done) | (intros; simp_all; omega) | (intros; simp_all; done))) ?_
     refine SG_only (fuel := 1) 11 [] (y := ⟨[(36, (.row 1 (i - 0) (fun kx => (.str (nth l (0 + kx)))))), (38, (.str s)), (43, (.row 1 (l.length - i) (fun kx => (.str (nth l (i + kx)))))), (33, (.sl 0 0 0 0 false)), (39, (.sl 1 0 1 1 false)), (37, junk), (40, junk), (44, (.own 2))], [(1, (.row [(.str s)] 9)), (2, (.grow (((([] : List AV) ++ ((List.range (i - 0)).map (fun kx => ((.str (nth l (0 + kx))) : AV)))) ++ ([(.str s)] : List AV)) ++ ((List.range (l.length - i)).map (fun kx => ((.str (nth l (i + kx))) : AV)))) 9 1))], 3⟩) (C := some (((((([] : List AV) ++ ((List.range (i - 0)).map (fun kx => ((.str (nth l (0 + kx))) : AV)))) ++ ([(.str s)] : List AV)).length + (l.length - i)) * 16 ≤ 140737488355328))) (by kernel_rfl) rfl (by kernel_rfl) (hold (by first | omega | (simp; omega) | (simp; done) | (intros; simp_all; omega) | (intros; simp_all; done))) ?_
     refine SG_frees (lz := []) [12] [4] (fuel := 0) (L := #[true, true, true, true, true, true, true, true, true, true, true, true, true]) (y := ⟨[(4, (.own 2))], [(1, (.row [(.str s)] 9)), (2, (.grow (((([] : List AV) ++ ((List.range (i - 0)).map (fun kx => ((.str (nth l (0 + kx))) : AV)))) ++ ([(.str s)] : List AV)) ++ ((List.range (l.length - i)).map (fun kx => ((.str (nth l (i + kx))) : AV)))) 9 1))], 3⟩) (C := none) (by kernel_rfl) (by kernel_rfl) (by kernel_rfl) hold0 ?_
     refine SG_sel [4] (s := [(4, (.own 2))]) (by kernel_rfl) ?_
     refine SG_done (by kernel_rfl) ?_
     refine SW_ret ?_
     refine retK_mk (.inl rfl) (al := [(.own 2)]) (by kernel_rfl) (rl := [(.row 1 (((([] : List AV) ++ ((List.range (i - 0)).map (fun kx => ((.str (nth l (0 + kx))) : AV)))) ++ ([(.str s)] : List AV)) ++ ((List.range (l.length - i)).map (fun kx => ((.str (nth l (i + kx))) : AV)))).length (fun ix => (((([] : List AV) ++ ((List.range (i - 0)).map (fun kx => ((.str (nth l (0 + kx))) : AV)))) ++ ([(.str s)] : List AV)) ++ ((List.range (l.length - i)).map (fun kx => ((.str (nth l (i + kx))) : AV)))).getD ix junk))]) (h' := [(1, (.row [(.str s)] 9))]) (by kernel_rfl) ?_
     simp only [pack]
     exact Same.grown (f := AV.str) (l := putL s l) (by rw [f1_2, putL_new (fun _ => by simp_all), range_cut AV.str (by omega), range_tail AV.str (by omega)]; simp [chunk])
   ·refine SN_only (fuel := 5) 6 [] (y := ⟨[(36, (.row 1 (i - 0) (fun kx => (.str (nth l (0 + kx)))))), (38, (.str s)), (43, (.row 1 (l.length - i) (fun kx => (.str (nth l (i + kx)))))), (39, (.sl 0 0 1 1 false))], [(0, (.row [(.str s)] 9))], 1⟩) (C := none) rfl (by kernel_rfl) hold0 ?_
    refine SG_only (fuel := 4) 0 [] (y := ⟨[(36, (.row 1 (i - 0) (fun kx => (.str (nth l (0 + kx)))))), (38, (.str s)), (43, (.row 1 (l.length - i) (fun kx => (.str (nth l (i + kx)))))), (39, (.sl 0 0 1 1 false)), (33, (.sl 1 0 0 0 false))], [(0, (.row [(.str s)] 9)), (1, (.row [] 9))], 2⟩) (C := none) (by kernel_rfl) rfl (by kernel_rfl) hold0 ?_
    refine SG_only (fuel := 3) 4 [] (y := ⟨[(36, (.row 1 (i - 0) (fun kx => (.str (nth l (0 + kx)))))), (38, (.str s)), (43, (.row 1 (l.length - i) (fun kx => (.str (nth l (i + kx)))))), (39, (.sl 0 0 1 1 false)), (33, (.sl 1 0 0 0 false)), (37, (.own 2))], [(0, (.row [(.str s)] 9)), (2, (.grow (([] : List AV) ++ ((List.range (i - 0)).map (fun kx => ((.str (nth l (0 + kx))) : AV)))) 9 1))], 3⟩) (C := some (((([] : List AV).length + (i - 0)) * 16 ≤ 140737488355328))) (by kernel_rfl) rfl (by kernel_rfl) (hold (by first | omega | (simp; omega) | (simp; done) | (intros; simp_all; omega) | (intros; simp_all; done))) ?_
    refine SG_only (fuel := 2) 7 [] (y := ⟨[(36, (.row 1 (i - 0) (fun kx => (.str (nth l (0 + kx)))))), (38, (.str s)), (43, (.row 1 (l.length - i) (fun kx => (.str (nth l (i + kx)))))), (39, (.sl 0 0 1 1 false)), (33, (.sl 1 0 0 0 false)), (37, junk), (40, (.own 2))], [(0, (.row [(.str s)] 9)), (2, (.grow ((([] : List AV) ++ ((List.range (i - 0)).map (fun kx => ((.str (nth l (0 + kx))) : AV)))) ++ ([(.str s)] : List AV)) 9 1))], 3⟩) (C := some ((((([] : List AV) ++ ((List.range (i - 0)).map (fun kx => ((.str (nth l (0 + kx))) : AV)))).length + 1) * 16 ≤ 140737488355328))) (by kernel_rfl) rfl (by kernel_rfl) (hold (by first | omega | (simp; omega) | (simp; done) | (intros; simp_all; omega) | (intros; simp_all; done))) ?_
    refine SG_only (fuel := 1) 11 [] (y := ⟨[(36, (.row 1 (i - 0) (fun kx => (.str (nth l (0 + kx)))))), (38, (.str s)), (43, (.row 1 (l.length - i) (fun kx => (.str (nth l (i + kx)))))), (39, (.sl 0 0 1 1 false)), (33, (.sl 1 0 0 0 false)), (37, junk), (40, junk), (44, (.own 2))], [(0, (.row [(.str s)] 9)), (2, (.grow (((([] : List AV) ++ ((List.range (i - 0)).map (fun kx => ((.str (nth l (0 + kx))) : AV)))) ++ ([(.str s)] : List AV)) ++ ((List.range (l.length - i)).map (fun kx => ((.str (nth l (i + kx))) : AV)))) 9 1))], 3⟩) (C := some (((((([] : List AV) ++ ((List.range (i - 0)).map (fun kx => ((.str (nth l (0 + kx))) : AV)))) ++ ([(.str s)] : List AV)).length + (l.length - i)) * 16 ≤ 140737488355328))) (by kernel_rfl) rfl (by kernel_rfl) (hold (by first | omega | (simp; omega) | (simp; done) | (intros; simp_all; omega) | (intros; simp_all; done))) ?_
    refine SG_frees (lz := []) [12] [4] (fuel := 0) (L := #[true, true, true, true, true, true, true, true, true, true, true, true, true]) (y := ⟨[(4, (.own 2))], [(0, (.row [(.str s)] 9)), (2, (.grow (((([] : List AV) ++ ((List.range (i - 0)).map (fun kx => ((.str (nth l (0 + kx))) : AV)))) ++ ([(.str s)] : List AV)) ++ ((List.range (l.length - i)).map (fun kx => ((.str (nth l (i + kx))) : AV)))) 9 1))], 3⟩) (C := none) (by kernel_rfl) (by kernel_rfl) (by kernel_rfl) hold0 ?_
    refine SG_sel [4] (s := [(4, (.own 2))]) (by kernel_rfl) ?_
    refine SG_done (by kernel_rfl) ?_
    refine SW_ret ?_
    refine retK_mk (.inl rfl) (al := [(.own 2)]) (by kernel_rfl) (rl := [(.row 1 (((([] : List AV) ++ ((List.range (i - 0)).map (fun kx => ((.str (nth l (0 + kx))) : AV)))) ++ ([(.str s)] : List AV)) ++ ((List.range (l.length - i)).map (fun kx => ((.str (nth l (i + kx))) : AV)))).length (fun ix => (((([] : List AV) ++ ((List.range (i - 0)).map (fun kx => ((.str (nth l (0 + kx))) : AV)))) ++ ([(.str s)] : List AV)) ++ ((List.range (l.length - i)).map (fun kx => ((.str (nth l (i + kx))) : AV)))).getD ix junk))]) (h' := [(0, (.row [(.str s)] 9))]) (by kernel_rfl) ?_
    simp only [pack]
    exact Same.grown (f := AV.str) (l := putL s l) (by rw [f1_2, putL_new (fun _ => by simp_all), range_cut AV.str (by omega), range_tail AV.str (by omega)]; simp [chunk])
mutual
def namesL : DepT → List (List UInt8) → List (List UInt8)
 | .mk k nm _ _ args, l => argsL args (if k = 1 then putL nm l else l)
def argsL : List DepT → List (List UInt8) → List (List UInt8)
 | [], l => l
 | d :: r, l => argsL r (namesL d l)
end
theorem putL_len (s : List UInt8) : ∀ l : List (List UInt8), (putL s l).length ≤ l.length + 1
 | [] => Nat.le_refl _
 | x :: r => by
  have := putL_len s r
  unfold putL
  split
  ·simp only [List.length_cons]; omega
  ·split <;> simp
mutual
theorem namesL_len : ∀ (d : DepT) (l : List (List UInt8)), (namesL d l).length ≤ l.length + d.size
 | .mk k nm op ev args, l => by
  unfold namesL
  have h1 := argsL_len args (if k = 1 then putL nm l else l)
  have h2 : (if k = 1 then putL nm l else l).length ≤ l.length + 1 := by
   split
   ·exact putL_len nm l
   ·omega
  simp only [DepT.size]; omega
theorem argsL_len : ∀ (r : List DepT) (l : List (List UInt8)), (argsL r l).length ≤ l.length + argsSize r
 | [], l => by simp [argsL, argsSize]
 | d :: r, l => by
  have h1 := argsL_len r (namesL d l)
  have h2 := namesL_len d l
  simp only [argsL, argsSize]; omega
end
set_option maxHeartbeats 400000 in
set_option maxRecDepth 100000 in
theorem sameTexts_any (a b : List (List UInt8)) (hl : a.length ≤ 4611686018427387904) :
  FnV Tryd.prog 17 [(strs a), (strs b)] (.bool (decide (a = b))) := by
 refine FnV_intro [.tmp 4] Tryd.func17 rfl Tryd.ntmps17 rfl rfl (fun B F hF => ?_)
 refine SW_seq ?_
 refine SW_reg ?_
 refine SO_all [] [0, 1] (y := ⟨[(0, (strs a)), (1, (strs b))], [], 0⟩) (C := none) (by kernel_rfl) hold0 ?_
 refine SW_seq ?_
 refine SW_seq ?_
 refine SW_reg ?_
 refine SO_all [] [0, 1, 10] (y := ⟨[(0, (strs a)), (1, (strs b)), (10, (.bool (!decide ((a.length : Int) = (b.length : Int)))))], [], 0⟩) (C := none) (by kernel_rfl) hold0 ?_
 refine SW_ifn (p := (a.length : Int) = (b.length : Int)) rfl (fun c1 => ?_) (fun c1 => ?_)
 ·refine SW_seq ?_
  refine SW_reg ?_
  refine SO_all [] [4] (y := ⟨[(4, (.bool false))], [], 0⟩) (C := none) (by kernel_rfl) hold0 ?_
  refine SW_ret ?_
  refine retK_mk (.inl rfl) (al := [(.bool false)]) (by kernel_rfl) (rl := [(.bool false)]) (h' := []) (by kernel_rfl) ?_
  refine Same.of_eq ?_
  rw [decide_eq_false (by rintro rfl; exact c1 rfl)]; rfl
 ·refine SW_skip ?_
  refine SW_seq ?_
  refine SW_seq ?_
  refine SW_reg ?_
  refine SO_all [] [0, 1, 5] (y := ⟨[(0, (strs a)), (1, (strs b)), (5, (.int .i64 0))], [], 0⟩) (C := none) (by kernel_rfl) hold0 ?_
  refine SW_block ?_
  refine SW_loopg (fun g y => ∃ (i : Nat), i ≤ a.length ∧ a.take i = b.take i ∧ y = ⟨[(0, (strs a)), (1, (strs b)), (5, (.int .i64 ((i : Int))))], [], 0⟩ ∧ g = a.length - i) [0, 1, 5] 0 (y := ⟨[(0, (strs a)), (1, (strs b)), (5, (.int .i64 0))], [], 0⟩) _ (by omega) (by kernel_rfl) ⟨0, (by omega), (by rfl), (by kernel_rfl), rfl⟩ ?_
  rintro g1 y1 ⟨i, f1_1, f1_2, rfl, rfl⟩
  refine SW_seq ?_
  refine SW_seq ?_
  refine SW_reg ?_
  refine SO_all [] [0, 1, 5, 14] (y := ⟨[(0, (strs a)), (1, (strs b)), (5, (.int .i64 ((i : Int)))), (14, (.bool (decide ((i : Int) < (a.length : Int)))))], [], 0⟩) (C := none) (by kernel_rfl) hold0 ?_
  refine SW_if (p := (i : Int) < (a.length : Int)) rfl (fun c2 => ?_) (fun c2 => ?_)
  ·refine SW_skip ?_
   refine SW_seq ?_
   refine SW_block ?_
   refine SW_seq ?_
   refine SW_draw (by kernel_rfl) (fun F1 hF1 => ?_)
   refine SG_frees (lz := []) [0, 1, 2, 3, 4, 5, 6, 7, 8] [0, 1, 5, 25] (fuel := 0) (L := #[true, true, true, true, true, true, true, true, true]) (y := ⟨[(0, (strs a)), (1, (strs b)), (5, (.int .i64 ((i : Int)))), (25, (.bool (!decide (nth a i = nth b i))))], [], 0⟩) (C := some ((0 ≤ (i : Int) ∧ i < a.length) ∧ (0 ≤ (i : Int) ∧ i < b.length))) (by kernel_rfl) (by kernel_rfl) (by kernel_rfl) (hold (by first | omega | (simp; omega) | (simp; done) | (intros; simp_all; omega) | (intros; simp_all; done))) ?_
   refine SG_sel [0, 1, 5, 25] (s := [(0, (strs a)), (1, (strs b)), (5, (.int .i64 ((i : Int)))), (25, (.bool (!decide (nth a i = nth b i))))]) (by kernel_rfl) ?_
   refine SG_done (by kernel_rfl) ?_
   refine SW_ifn (p := nth a i = nth b i) rfl (fun c3 => ?_) (fun c3 => ?_)
   ·refine SW_seq ?_
    refine SW_reg ?_
    refine SO_all [] [4] (y := ⟨[(4, (.bool false))], [], 0⟩) (C := none) (by kernel_rfl) hold0 ?_
    refine SW_ret ?_
    refine retK_mk (.inl rfl) (al := [(.bool false)]) (by kernel_rfl) (rl := [(.bool false)]) (h' := []) (by kernel_rfl) ?_
    refine Same.of_eq ?_
    rw [decide_eq_false (by rintro rfl; exact c3 rfl)]; rfl
   ·refine SW_skip ?_
    refine SW_reg ?_
    refine SO_all [] [0, 1, 5] (y := ⟨[(0, (strs a)), (1, (strs b)), (5, (.int .i64 ((i : Int) + 1)))], [], 0⟩) (C := some ((-9223372036854775808 ≤ (i : Int) + 1 ∧ (i : Int) + 1 ≤ 9223372036854775807))) (by kernel_rfl) (hold (by first | omega | (simp; omega) | (simp; done) | (intros; simp_all; omega) | (intros; simp_all; done))) ?_
    refine ⟨_, (by kernel_rfl : gcS _ _ _ = some ⟨[(0, (strs a)), (1, (strs b)), (5, (.int .i64 ((i : Int) + 1)))], [], 0⟩), _, ?_, i + 1, ?_, ?_, (by kernel_rfl), rfl⟩
    ·omega
    ·omega
    ·rw [take_next (by omega), take_next (by omega), f1_2, show nth a i = nth b i by assumption]
  ·refine SW_exit ?_
   refine SW_seq ?_
   refine SW_reg ?_
   refine SO_all [] [4] (y := ⟨[(4, (.bool true))], [], 0⟩) (C := none) (by kernel_rfl) hold0 ?_
   refine SW_ret ?_
   refine retK_mk (.inl rfl) (al := [(.bool true)]) (by kernel_rfl) (rl := [(.bool true)]) (h' := []) (by kernel_rfl) ?_
   refine Same.of_eq ?_
   rw [decide_eq_true (by have h1 := f1_2; rw [List.take_of_length_le (by omega), List.take_of_length_le (by omega)] at h1; exact h1)]; rfl
end Sv
end Go.Proofs.YtaegacblpbbndaaDoor
end
section
namespace Go.Proofs.YtaegacblpbbndaaDoor
open Go Go.RowKit
set_option linter.unusedSimpArgs false
set_option linter.unusedVariables false
namespace Sv
theorem strs_vals {φ : Phi} : ∀ {l : List (List UInt8)} {vs : List Value}, VRl φ (l.map AV.str) vs → vs = l.map encStr
  | [], vs, h => h.nil_inv
  | x :: l, vs, h => by
    obtain ⟨v, vs', rfl, h1, h2⟩ := h.cons_inv
    simp only [VR] at h1
    rw [strs_vals h2, h1]; rfl
theorem vals_strs {φ : Phi} : ∀ l : List (List UInt8), VRl φ (l.map AV.str) (l.map encStr)
  | [] => .nil
  | x :: l => .cons (by simp only [VR]) (vals_strs l)
theorem flat_strs (l : List (List UInt8)) : (l.map encStr).flatMap (fun u => u.cells.toList) = l.map encStr := by
  induction l with
  | nil => rfl
  | cons x l ih => rw [List.map_cons, List.flatMap_cons, ih]; first | done | rfl
theorem cells_strs (l : List (List UInt8)) : ∀ u ∈ l.map encStr, u.cells.size = 1 ∧ ∀ c ∈ u.cells.toList, c.oneCell' = true := by
  intro u hu
  obtain ⟨x, _, rfl⟩ := List.mem_map.1 hu
  exact ⟨rfl, fun c hc => by simp [encStr, Value.cells] at hc; subst hc; rfl⟩
theorem Rel.rebase {B : Bas} {φ : Phi} {h : AH} {w : World} (r : Rel B φ h w) : Rel (basH φ h w) φ h w :=
  ⟨⟨rfl, rfl, rfl, Nat.le_refl _, fun _ _ => rfl⟩, r.fro, fun b o e => by have := r.obj b o e; cases o <;> exact this, r.sep, fun b o k e i => ⟨fun q => q.2 b o e i, (r.gf b o k e i).2⟩⟩
theorem compact_le (zs : List (List UInt8)) : (Lib.compact zs).length ≤ zs.length := by
  have : ∀ m, (Lib.compactUpTo zs.toArray m).length ≤ m := by
    intro m
    induction m with
    | zero => simp [Lib.compactUpTo]
    | succ m ih =>
      rw [Lib.compactUpTo_succ, List.length_append]
      split <;> simp <;> omega
  exact this _
theorem sort_any (l : List (List UInt8)) (hl : l.length ≤ 4611686018427) :
    CallS Tryd.prog 36 [.own 1] [(0, .row [.own 1] 35), (1, .grow (l.map AV.str) 9 1)] 2 (.tup []) [(0, .row [.own 1] 35), (1, .grow ((l.mergeSort fun x y => decide (x ≤ y)).map AV.str) 9 1)] := by
  intro B0 φ w vs r hv
  obtain ⟨v, rfl, hv1⟩ := hv.single_inv
  simp only [VR] at hv1
  obtain ⟨v0, us, q1, q2, q3, q4⟩ := r.obj 1 _ rfl
  rw [hv1.1] at q1; cases q1
  have hu := strs_vals q3
  subst hu
  rw [flat_strs, List.length_map] at q2
  have hr := r.rebase
  rcases q2.2 with ⟨rfl, hn⟩ | ⟨g, cap, cur, rfl, hg1, hg2, hg3, hg4, hg5, hg6⟩
  · have hl0 : l = [] := List.length_eq_zero_iff.1 hn
    subst hl0
    refine (Tryd.slices_Sort_string_none none 0 w).mono ?_
    rintro e w' ⟨he, rfl⟩
    exact ⟨_, he, φ, by simpa using hr, by simp only [VR]; exact ⟨[], .nil, rfl⟩, fun _ _ _ e => e, fun _ _ e => e, fun _ _ e => .inl e⟩
  · have hh : Go.Sort.Holds encStr w g 0 l.toArray := holds_of_block hg2 (by simpa using hg6)
    refine (Tryd.slices_Sort_string g 0 cap l w hh (block_lt hg2) (by omega)).mono ?_
    rintro e w' ⟨he, n, os, rfl⟩
    refine ⟨_, he, φ, ?_, by simp only [VR]; exact ⟨[], .nil, rfl⟩, fun _ _ _ e => e, fun _ _ e => e, fun _ _ e => .inl e⟩
    have hgr := grownBy_sorted (w := w) (g := g) (n := n) (os := os) (l.mergeSort fun x y => decide (x ≤ y)).toArray
    have ht : Turn φ φ 1 := ⟨fun _ => rfl, fun _ _ => rfl, fun _ _ e => e⟩
    have r1 := Rel.grown (es' := (l.mergeSort fun x y => decide (x ≤ y)).map AV.str) hr (b := 1) rfl hv1.1 ht hv1.1 rfl hgr (.inl rfl) (fun k hk => by cases hk; exact Nat.lt_of_lt_of_le (block_lt hg2) hgr.size)
      ⟨_, (l.mergeSort fun x y => decide (x ≤ y)).map encStr, hv1.1, by
        rw [flat_strs, List.length_map]
        have := ownsRow_sorted (n := n) (os := os) (base := 0) (ts := l.mergeSort fun x y => decide (x ≤ y)) (ss := l) (by simp) hg1 hg2 hg3 hg4 (by simpa using hg5)
        rw [List.length_mergeSort] at *
        exact this, vals_strs _, cells_strs _⟩
    obtain ⟨x, κ, ws, a1, a2, a3⟩ := hr.obj 0 _ rfl
    have hne : x ≠ g := by
      rintro rfl
      have := hr.sep 0 1 _ _ x rfl rfl (by simp only [img, a1]; rfl) (by simp only [img, hv1.1]; rfl)
      cases this
    have hgx := hr.gf 0 _ x rfl (by simp only [img, a1]; rfl)
    have r2 := r1.add (b := 0) (o := .row [.own 1] 35) ⟨x, κ, ws, a1, (hgr.block x (block_lt a2) (fun q => hne (by cases q; rfl))).trans a2, a3⟩ (fun k hk => by
      have hk' : x = k := by simpa only [img, a1, Option.map_some, Option.some.injEq] using hk
      subst hk'
      refine ⟨hgx.1, Nat.lt_of_lt_of_le hgx.2.1 hgr.size, hgx.2.2, fun c o' hc hg hi => hc ?_⟩
      refine r1.sep c 0 o' (.row [junk] 35) x hg ?_ hi (by simp only [img, a1]; rfl)
      kernel_rfl)
    exact r2
theorem compact_any (l : List (List UInt8)) (hl : l.length ≤ 4611686018427) :
    CallS Tryd.prog 37 [.own 0] [(0, .grow (l.map AV.str) 9 1)] 1 (.own 0) [(0, .grow ((Lib.compact l).map AV.str) 9 1)] := by
  intro B0 φ w vs r hv
  obtain ⟨v, rfl, hv1⟩ := hv.single_inv
  simp only [VR] at hv1
  obtain ⟨v0, us, q1, q2, q3, q4⟩ := r.obj 0 _ rfl
  rw [hv1.1] at q1; cases q1
  have hu := strs_vals q3
  subst hu
  rw [flat_strs, List.length_map] at q2
  have hr := r.rebase
  rcases q2.2 with ⟨rfl, hn⟩ | ⟨g, cap, cur, rfl, hg1, hg2, hg3, hg4, hg5, hg6⟩
  · have hl0 : l = [] := List.length_eq_zero_iff.1 hn
    subst hl0
    refine (Tryd.slices_Compact_string_empty none 0 w).mono ?_
    rintro e w' ⟨he, rfl⟩
    exact ⟨_, he, φ, hr, by simp only [VR]; exact hv1, fun _ _ _ e => e, fun _ _ e => e, fun _ _ e => .inl e⟩
  · have hh : Go.Sort.Holds encStr w g 0 l.toArray := holds_of_block hg2 (by simpa using hg6)
    refine (Tryd.slices_Compact_string g 0 cap l w hh (by omega) hg3).mono ?_
    rintro e w' ⟨he, n, rfl⟩
    have hgr := grownBy_sorted (w := w) (g := g) (n := n) (os := #[]) (Lib.compact l ++ List.replicate (l.length - (Lib.compact l).length) []).toArray
    rw [Go.Sort.grow_empty] at hgr
    have hle := compact_le l
    have hts : (Lib.compact l ++ List.replicate (l.length - (Lib.compact l).length) ([] : List UInt8)).length = l.length := by simp; omega
    have ho := ownsRow_sorted (n := n) (os := #[]) (base := 0) (ts := Lib.compact l ++ List.replicate (l.length - (Lib.compact l).length) []) (ss := l) hts hg1 hg2 hg3 hg4 (by simpa using hg5)
    rw [Go.Sort.grow_empty] at ho
    refine ⟨_, he, ⟨φ.m, fun i => if i = 0 then some (.slice (some ⟨g, 0, none⟩) (Lib.compact l).length cap) else φ.s i, φ.f⟩, ?_, by simp only [VR]; exact ⟨rfl, _, _, _, rfl⟩, fun _ _ _ e => e, fun _ _ e => e, fun _ _ e => .inl e⟩
    have ht : Turn φ ⟨φ.m, fun i => if i = 0 then some (.slice (some ⟨g, 0, none⟩) (Lib.compact l).length cap) else φ.s i, φ.f⟩ 0 := ⟨fun _ => rfl, fun c hc => if_neg hc, fun _ _ e => e⟩
    refine Rel.grown (v' := .slice (some ⟨g, 0, none⟩) (Lib.compact l).length cap) (es' := (Lib.compact l).map AV.str) hr (b := 0) rfl hv1.1 ht rfl rfl hgr (.inl rfl) (fun k hk => by cases hk; exact Nat.lt_of_lt_of_le (block_lt hg2) hgr.size) ⟨_, (Lib.compact l).map encStr, rfl, ?_, vals_strs _, cells_strs _⟩
    rw [flat_strs, List.length_map]
    refine ⟨by simp, .inr ⟨g, cap, Go.Sort.putCells encStr 0 (Lib.compact l ++ List.replicate (l.length - (Lib.compact l).length) []).toArray cur, rfl, hg1, ?_, by omega, hg4, by simp [Go.Sort.putCells, hg5], ?_⟩⟩
    · have := heap_sorted (w := w) (g := g) (n := n) (os := #[]) (Lib.compact l ++ List.replicate (l.length - (Lib.compact l).length) []).toArray hg2
      rw [Go.Sort.grow_empty] at this; exact this
    · have := take_putCells cur (Lib.compact l ++ List.replicate (l.length - (Lib.compact l).length) []) (by rw [hts, hg5]; omega)
      have := congrArg (List.take (Lib.compact l).length) this
      rw [List.take_take, Nat.min_eq_left (by rw [hts]; exact hle), List.map_append, List.take_append_of_le_length (by simp), List.take_of_length_le (l := (Lib.compact l).map encStr) (by simp)] at this
      rw [Nat.mul_one]; exact this
end Sv
end Go.Proofs.YtaegacblpbbndaaDoor
end
section
namespace Go.Proofs.YtaegacblpbbndaaDoor
open Go Go.RowKit
namespace Sv
attribute [local irreducible] SW SO
theorem en_35 : Enters Tryd.prog 35 := enters_of Tryd.func35 (by kernel_rfl) rfl
theorem en_33 : Enters Tryd.prog 33 := enters_of Tryd.func33 (by kernel_rfl) rfl
theorem en_15 : Enters Tryd.prog 15 := enters_of Tryd.func15 (by kernel_rfl) rfl
theorem en_36 : Enters Tryd.prog 36 := enters_of Tryd.func36 (by kernel_rfl) rfl
theorem en_37 : Enters Tryd.prog 37 := enters_of Tryd.func37 (by kernel_rfl) rfl
mutual
def allN : DepT → List (List UInt8)
 | .mk k nm _ _ args => (if k = 1 then [nm] else []) ++ allA args
def allA : List DepT → List (List UInt8)
 | [] => []
 | d :: r => allN d ++ allA r
end
def ownN (d : DepT) : List (List UInt8) := if d.kind = 1 then [d.name] else []
theorem allN_eq (d : DepT) : allN d = ownN d ++ allA d.args := by cases d; unfold allN; rfl
theorem allA_snoc : ∀ (r : List DepT) (d : DepT), allA (r ++ [d]) = allA r ++ allN d
 | [], d => by simp [allA]
 | x :: r, d => by simp only [List.cons_append, allA, allA_snoc r d, List.append_assoc]
theorem allA_take {r : List DepT} {i : Nat} (h : i < r.length) : allA (r.take (i + 1)) = allA (r.take i) ++ allN (nth r i) := by rw [take_next h, allA_snoc]
theorem ownN_len (d : DepT) : (ownN d).length ≤ 1 := by unfold ownN; split <;> simp
mutual
theorem allN_len : ∀ d : DepT, (allN d).length ≤ d.size
 | .mk k nm op ev args => by
  have h1 := allA_len args
  have h2 : (if k = 1 then [nm] else []).length ≤ 1 := by split <;> simp
  unfold allN
  simp only [DepT.size, List.length_append]; omega
theorem allA_len : ∀ r : List DepT, (allA r).length ≤ argsSize r
 | [] => by simp [allA]
 | d :: r => by
  have h1 := allN_len d
  have h2 := allA_len r
  simp only [allA, argsSize, List.length_append]; omega
end
set_option maxHeartbeats 400000 in
set_option maxRecDepth 100000 in
theorem take_names (s : List UInt8) (es : List AV) (hs : es.length ≤ 4611686018) :
  CallS Tryd.prog 35 [(.str s), (.ptr 0 0)] [(0, (.row [(.own 1)] 35)), (1, (.grow es 9 1))] 2 (.tup []) [(0, (.row [(.own 1)] 35)), (1, (.grow (es ++ [AV.str s]) 9 1))] := by
 refine CallS_intro [] Tryd.func35 rfl Tryd.ntmps35 rfl rfl (by kernel_rfl) (by kernel_rfl) (by kernel_rfl) (fun B F hF => ?_)
 refine SW_reg ?_
 refine SO_all [] [] (y := ⟨[], [(0, (.row [(.own 1)] 35)), (1, (.grow (es ++ ([(.str s)] : List AV)) 9 1)), (2, (.row [(.str s)] 9))], 3⟩) (C := some (((es.length + 1) * 16 ≤ 140737488355328))) (by kernel_rfl) (hold (by first | omega | (simp; omega) | (simp; done) | (intros; simp_all; omega) | (intros; simp_all; done))) ?_
 refine retS_mk (.inr rfl) (al := []) (by kernel_rfl) ?_ ((by kernel_rfl : cutH 2 _ = some [(0, (.row [(.own 1)] 35)), (1, (.grow (es ++ ([(.str s)] : List AV)) 9 1))]).trans ?_)
 ·rfl
 ·rfl
set_option maxHeartbeats 400000 in
set_option maxRecDepth 100000 in
theorem all_step2 (d : DepT) (es : List AV) (hs : es.length + d.size ≤ 4611686018) (ih : ∀ i es, i < d.args.length → es.length + (nth d.args i).size ≤ 4611686018 → CallS Tryd.prog 33 [depX (nth d.args i), .fn 35 [] [.ptr 0 0]] [(0, .row [.own 1] 35), (1, .grow es 9 1)] 2 (.tup []) [(0, .row [.own 1] 35), (1, .grow (es ++ (allN (nth d.args i)).map AV.str) 9 1)]) :
  CallS Tryd.prog 33 [(.agg [(.int .i64 d.kind), (.str d.name), (.int .i64 d.op), (.str d.evr), (.row 5 d.args.length (depAt d.args))]), (.fn 35 [] [(.ptr 0 0)])] [(0, (.row [(.own 1)] 35)), (1, (.grow es 9 1))] 2 (.tup []) [(0, (.row [(.own 1)] 35)), (1, (.grow (es ++ (allN d).map AV.str) 9 1))] := by
 have hz := size_parts d
 have hal := args_le d.args
 have ho := ownN_len d
 refine CallS_intro [] Tryd.func33 rfl Tryd.ntmps33 rfl rfl (by kernel_rfl) (by kernel_rfl) (by kernel_rfl) (fun B F hF => ?_)
 refine SW_seq ?_
 refine SW_reg ?_
 refine SO_all [] [1, 2] (y := ⟨[(1, (.fn 35 [] [(.ptr 0 0)])), (2, (.ptr 2 0))], [(0, (.row [(.own 1)] 35)), (1, (.grow es 9 1)), (2, (.row [(.int .i64 d.kind), (.str d.name), (.int .i64 d.op), (.str d.evr), (.row 5 d.args.length (depAt d.args))] 25))], 3⟩) (C := none) (by kernel_rfl) hold0 ?_
 refine SW_still 2 (y := ⟨[(1, (.fn 35 [] [(.ptr 0 0)])), (2, (.fp (.agg [(.int .i64 d.kind), (.str d.name), (.int .i64 d.op), (.str d.evr), (.row 5 d.args.length (depAt d.args))])))], [(0, (.row [(.own 1)] 35)), (1, (.grow es 9 1))], 3⟩) (by kernel_rfl) ?_
 refine SW_cut (fun y => ∃ y', gcS [1, 2] 3 y = some y' ∧ y' = ⟨[(1, (.fn 35 [] [(.ptr 0 0)])), (2, (.fp (.agg [(.int .i64 d.kind), (.str d.name), (.int .i64 d.op), (.str d.evr), (.row 5 d.args.length (depAt d.args))])))], [(0, (.row [(.own 1)] 35)), (1, (.grow (es ++ (ownN d).map AV.str) 9 1))], 3⟩) ?_ ?_
 ·refine SW_seq ?_
  refine SW_reg ?_
  refine SO_all [] [1, 2, 8] (y := ⟨[(1, (.fn 35 [] [(.ptr 0 0)])), (2, (.fp (.agg [(.int .i64 d.kind), (.str d.name), (.int .i64 d.op), (.str d.evr), (.row 5 d.args.length (depAt d.args))]))), (8, (.bool (decide (d.kind = 1))))], [(0, (.row [(.own 1)] 35)), (1, (.grow es 9 1))], 3⟩) (C := none) (by kernel_rfl) hold0 ?_
  refine SW_if (p := d.kind = 1) rfl (fun c1 => ?_) (fun c1 => ?_)
  ·refine SW_reg ?_
   refine SO_run 3 [] [1, 2, 9, 11] (y := ⟨[(1, (.fn 35 [] [(.ptr 0 0)])), (2, (.fp (.agg [(.int .i64 d.kind), (.str d.name), (.int .i64 d.op), (.str d.evr), (.row 5 d.args.length (depAt d.args))]))), (9, (.fn 35 [] [(.ptr 0 0)])), (11, (.str d.name))], [(0, (.row [(.own 1)] 35)), (1, (.grow es 9 1))], 3⟩) (C := none) (by kernel_rfl) hold0 ?_
   refine SO_callSv [0, 1] (al := [(.str d.name)]) (al' := [(.str d.name), (.ptr 0 0)]) (r := (.tup [])) (r' := (.tup [])) (s' := [(1, (.fn 35 [] [(.ptr 0 0)])), (2, (.fp (.agg [(.int .i64 d.kind), (.str d.name), (.int .i64 d.op), (.str d.evr), (.row 5 d.args.length (depAt d.args))]))), (9, (.fn 35 [] [(.ptr 0 0)])), (11, (.str d.name)), (12, (.tup []))]) (H := [(0, (.row [(.own 1)] 35)), (1, (.grow es 9 1))]) (H' := [(0, (.row [(.own 1)] 35)), (1, (.grow (es ++ [AV.str d.name]) 9 1))]) (h2 := [(0, (.row [(.own 1)] 35)), (1, (.grow (es ++ [AV.str d.name]) 9 1))]) rfl rfl (by exact en_35) (by kernel_rfl) (by kernel_rfl) (by kernel_rfl) (by kernel_rfl) (by kernel_rfl) (take_names d.name es (by omega)) (by kernel_rfl) (by kernel_rfl) (by kernel_rfl) ?_
   refine SO_nil ?_
   refine ⟨_, (by kernel_rfl : gcS _ _ _ = some ⟨[(1, (.fn 35 [] [(.ptr 0 0)])), (2, (.fp (.agg [(.int .i64 d.kind), (.str d.name), (.int .i64 d.op), (.str d.evr), (.row 5 d.args.length (depAt d.args))])))], [(0, (.row [(.own 1)] 35)), (1, (.grow (es ++ [AV.str d.name]) 9 1))], 3⟩), (by unfold ownN; rw [if_pos c1]; rfl)⟩
  ·refine SW_skip ?_
   refine ⟨_, (by kernel_rfl : gcS _ _ _ = some ⟨[(1, (.fn 35 [] [(.ptr 0 0)])), (2, (.fp (.agg [(.int .i64 d.kind), (.str d.name), (.int .i64 d.op), (.str d.evr), (.row 5 d.args.length (depAt d.args))])))], [(0, (.row [(.own 1)] 35)), (1, (.grow es 9 1))], 3⟩), (by unfold ownN; rw [if_neg c1]; simp)⟩
 ·rintro y1 ⟨_, hg1, rfl⟩
  refine SW_gc _ _ (by omega) hg1 ?_
  refine SW_seq ?_
  refine SW_reg ?_
  refine SO_all [] [1, 14, 15, 16] (y := ⟨[(1, (.fn 35 [] [(.ptr 0 0)])), (14, (.row 5 d.args.length (depAt d.args))), (15, (.int .i64 ((d.args.length : Int)))), (16, (.int .i64 0))], [(0, (.row [(.own 1)] 35)), (1, (.grow (es ++ (ownN d).map AV.str) 9 1))], 3⟩) (C := none) (by kernel_rfl) hold0 ?_
  refine SW_block ?_
  refine SW_conv 14 (rowOf 5 depX d.args) (by kernel_rfl) (deps_of d.args) ?_
  refine SW_loopg (fun g y => ∃ (i : Nat), i ≤ d.args.length ∧ y = ⟨[(1, (.fn 35 [] [(.ptr 0 0)])), (14, (rowOf 5 depX d.args)), (15, (.int .i64 ((d.args.length : Int)))), (16, (.int .i64 ((i : Int))))], [(0, (.row [(.own 1)] 35)), (1, (.grow (es ++ (ownN d ++ allA (d.args.take i)).map AV.str) 9 1))], 3⟩ ∧ g = d.args.length - i) [1, 14, 15, 16] 3 (y := ⟨[(1, (.fn 35 [] [(.ptr 0 0)])), (14, (rowOf 5 depX d.args)), (15, (.int .i64 ((d.args.length : Int)))), (16, (.int .i64 0))], [(0, (.row [(.own 1)] 35)), (1, (.grow (es ++ (ownN d).map AV.str) 9 1))], 3⟩) _ (by omega) (by kernel_rfl) ⟨0, (by omega), (by simp only [List.take_zero, allA, List.append_nil]; rfl), rfl⟩ ?_
  rintro g1 y1 ⟨i, f1_1, rfl, rfl⟩
  have hb1 := allA_len (d.args.take i)
  have hb2 := argsSize_mono d.args i
  have hb4 := fun h => argsSize_take' (l := d.args) (i := i) h
  refine SW_seq ?_
  refine SW_reg ?_
  refine SO_all [] [1, 14, 15, 16, 17] (y := ⟨[(1, (.fn 35 [] [(.ptr 0 0)])), (14, (rowOf 5 depX d.args)), (15, (.int .i64 ((d.args.length : Int)))), (16, (.int .i64 ((i : Int)))), (17, (.bool (decide ((i : Int) < (d.args.length : Int)))))], [(0, (.row [(.own 1)] 35)), (1, (.grow (es ++ (ownN d ++ allA (d.args.take i)).map AV.str) 9 1))], 3⟩) (C := none) (by kernel_rfl) hold0 ?_
  refine SW_seq ?_
  refine SW_if (p := (i : Int) < (d.args.length : Int)) rfl (fun c2 => ?_) (fun c2 => ?_)
  ·refine SW_skip ?_
   refine SW_seq ?_
   refine SW_block ?_
   refine SW_seq ?_
   refine SW_reg ?_
   refine SO_all [] [1, 5, 14, 15, 16] (y := ⟨[(1, (.fn 35 [] [(.ptr 0 0)])), (5, (.ptr 3 0)), (14, (rowOf 5 depX d.args)), (15, (.int .i64 ((d.args.length : Int)))), (16, (.int .i64 ((i : Int))))], [(0, (.row [(.own 1)] 35)), (1, (.grow (es ++ (ownN d ++ allA (d.args.take i)).map AV.str) 9 1)), (3, (.row [(.int .i64 ((nth d.args i).kind)), (.str ((nth d.args i).name)), (.int .i64 ((nth d.args i).op)), (.str ((nth d.args i).evr)), (.row 5 (nth d.args i).args.length (depAt (nth d.args i).args))] 25))], 4⟩) (C := some ((0 ≤ (i : Int) ∧ i < d.args.length))) (by kernel_rfl) (hold (by first | omega | (simp; omega) | (simp; done) | (intros; simp_all; omega) | (intros; simp_all; done))) ?_
   refine SW_reg ?_
   refine SO_still 5 (y := ⟨[(1, (.fn 35 [] [(.ptr 0 0)])), (5, (.fp (.agg [(.int .i64 ((nth d.args i).kind)), (.str ((nth d.args i).name)), (.int .i64 ((nth d.args i).op)), (.str ((nth d.args i).evr)), (.row 5 (nth d.args i).args.length (depAt (nth d.args i).args))]))), (14, (rowOf 5 depX d.args)), (15, (.int .i64 ((d.args.length : Int)))), (16, (.int .i64 ((i : Int))))], [(0, (.row [(.own 1)] 35)), (1, (.grow (es ++ (ownN d ++ allA (d.args.take i)).map AV.str) 9 1))], 4⟩) (by kernel_rfl) ?_
   refine SO_run 2 [] [1, 14, 15, 16, 20, 21] (y := ⟨[(1, (.fn 35 [] [(.ptr 0 0)])), (14, (rowOf 5 depX d.args)), (15, (.int .i64 ((d.args.length : Int)))), (16, (.int .i64 ((i : Int)))), (20, (.agg [(.int .i64 ((nth d.args i).kind)), (.str ((nth d.args i).name)), (.int .i64 ((nth d.args i).op)), (.str ((nth d.args i).evr)), (.row 5 (nth d.args i).args.length (depAt (nth d.args i).args))])), (21, (.fn 35 [] [(.ptr 0 0)]))], [(0, (.row [(.own 1)] 35)), (1, (.grow (es ++ (ownN d ++ allA (d.args.take i)).map AV.str) 9 1))], 4⟩) (C := none) (by kernel_rfl) hold0 ?_
   refine SO_callS [0, 1] (al := [(.agg [(.int .i64 ((nth d.args i).kind)), (.str ((nth d.args i).name)), (.int .i64 ((nth d.args i).op)), (.str ((nth d.args i).evr)), (.row 5 (nth d.args i).args.length (depAt (nth d.args i).args))]), (.fn 35 [] [(.ptr 0 0)])]) (al' := [(.agg [(.int .i64 ((nth d.args i).kind)), (.str ((nth d.args i).name)), (.int .i64 ((nth d.args i).op)), (.str ((nth d.args i).evr)), (.row 5 (nth d.args i).args.length (depAt (nth d.args i).args))]), (.fn 35 [] [(.ptr 0 0)])]) (r := (.tup [])) (r' := (.tup [])) (s' := [(1, (.fn 35 [] [(.ptr 0 0)])), (14, (rowOf 5 depX d.args)), (15, (.int .i64 ((d.args.length : Int)))), (16, (.int .i64 ((i : Int)))), (20, (.agg [(.int .i64 ((nth d.args i).kind)), (.str ((nth d.args i).name)), (.int .i64 ((nth d.args i).op)), (.str ((nth d.args i).evr)), (.row 5 (nth d.args i).args.length (depAt (nth d.args i).args))])), (21, (.fn 35 [] [(.ptr 0 0)])), (22, (.tup []))]) (H := [(0, (.row [(.own 1)] 35)), (1, (.grow (es ++ (ownN d ++ allA (d.args.take i)).map AV.str) 9 1))]) (H' := [(0, (.row [(.own 1)] 35)), (1, (.grow ((es ++ (ownN d ++ allA (d.args.take i)).map AV.str) ++ (allN (nth d.args i)).map AV.str) 9 1))]) (h2 := [(0, (.row [(.own 1)] 35)), (1, (.grow ((es ++ (ownN d ++ allA (d.args.take i)).map AV.str) ++ (allN (nth d.args i)).map AV.str) 9 1))]) rfl (by exact en_33) (by kernel_rfl) (by kernel_rfl) (by kernel_rfl) (by kernel_rfl) (by kernel_rfl) (ih i (es ++ (ownN d ++ allA (d.args.take i)).map AV.str) (by omega) (by have := hb4 (by omega); simp only [List.length_append, List.length_map]; omega)) (by kernel_rfl) (by kernel_rfl) (by kernel_rfl) ?_
   refine SO_nil ?_
   refine SW_reg ?_
   refine SO_all [] [1, 14, 15, 16] (y := ⟨[(1, (.fn 35 [] [(.ptr 0 0)])), (14, (rowOf 5 depX d.args)), (15, (.int .i64 ((d.args.length : Int)))), (16, (.int .i64 ((i : Int) + 1)))], [(0, (.row [(.own 1)] 35)), (1, (.grow ((es ++ (ownN d ++ allA (d.args.take i)).map AV.str) ++ (allN (nth d.args i)).map AV.str) 9 1))], 4⟩) (C := some ((-9223372036854775808 ≤ (i : Int) + 1 ∧ (i : Int) + 1 ≤ 9223372036854775807))) (by kernel_rfl) (hold (by first | omega | (simp; omega) | (simp; done) | (intros; simp_all; omega) | (intros; simp_all; done))) ?_
   refine ⟨_, (by kernel_rfl : gcS _ _ _ = some ⟨[(1, (.fn 35 [] [(.ptr 0 0)])), (14, (rowOf 5 depX d.args)), (15, (.int .i64 ((d.args.length : Int)))), (16, (.int .i64 ((i : Int) + 1)))], [(0, (.row [(.own 1)] 35)), (1, (.grow ((es ++ (ownN d ++ allA (d.args.take i)).map AV.str) ++ (allN (nth d.args i)).map AV.str) 9 1))], 3⟩), _, ?_, i + 1, ?_, (by rw [allA_take (by omega)]; simp only [List.map_append, List.append_assoc]; rfl), rfl⟩
   all_goals omega
  ·refine SW_exit ?_
   refine retS_mk (.inr rfl) (al := []) (by kernel_rfl) ?_ ((by kernel_rfl : cutH 2 _ = some [(0, (.row [(.own 1)] 35)), (1, (.grow (es ++ (ownN d ++ allA (d.args.take i)).map AV.str) 9 1))]).trans ?_)
   ·rfl
   ·rw [allN_eq, List.take_of_length_le (by omega)]
theorem all_names (d : DepT) : ∀ es : List AV, es.length + d.size ≤ 4611686018 → CallS Tryd.prog 33 [depX d, .fn 35 [] [.ptr 0 0]] [(0, .row [.own 1] 35), (1, .grow es 9 1)] 2 (.tup []) [(0, .row [.own 1] 35), (1, .grow (es ++ (allN d).map AV.str) 9 1)] := by
 refine dep_ind (C := fun d => ∀ es : List AV, es.length + d.size ≤ 4611686018 → CallS Tryd.prog 33 [depX d, .fn 35 [] [.ptr 0 0]] [(0, .row [.own 1] 35), (1, .grow es 9 1)] 2 (.tup []) [(0, .row [.own 1] 35), (1, .grow (es ++ (allN d).map AV.str) 9 1)]) (fun d ih es hs => ?_) d
 exact all_step2 d es hs fun i es hi h => ih i hi es h
def namesF (d : DepT) : List (List UInt8) := Lib.compact ((allN d).mergeSort fun x y => decide (x ≤ y))
set_option maxHeartbeats 400000 in
set_option maxRecDepth 100000 in
theorem NamesV (d : DepT) (hs : d.size ≤ 4194304) :
  FnV Tryd.prog 15 [(.agg [(.int .i64 d.kind), (.str d.name), (.int .i64 d.op), (.str d.evr), (.row 5 d.args.length (depAt d.args))])] (strs (namesF d)) := by
 refine FnV_intro [.tmp 2] Tryd.func15 rfl Tryd.ntmps15 rfl rfl (fun B F hF => ?_)
 refine SW_seq ?_
 refine SW_reg ?_
 refine SO_run 1 [] [1] (y := ⟨[(1, (.ptr 0 0))], [(0, (.row [(.int .i64 d.kind), (.str d.name), (.int .i64 d.op), (.str d.evr), (.row 5 d.args.length (depAt d.args))] 25))], 1⟩) (C := none) (by kernel_rfl) hold0 ?_
 refine SO_still 1 (y := ⟨[(1, (.fp (.agg [(.int .i64 d.kind), (.str d.name), (.int .i64 d.op), (.str d.evr), (.row 5 d.args.length (depAt d.args))])))], [], 1⟩) (by kernel_rfl) ?_
 refine SO_all [] [1] (y := ⟨[(1, (.fp (.agg [(.int .i64 d.kind), (.str d.name), (.int .i64 d.op), (.str d.evr), (.row 5 d.args.length (depAt d.args))])))], [], 1⟩) (C := none) (by kernel_rfl) hold0 ?_
 refine SW_seq ?_
 refine SW_reg ?_
 refine SO_all [] [1, 3] (y := ⟨[(1, (.fp (.agg [(.int .i64 d.kind), (.str d.name), (.int .i64 d.op), (.str d.evr), (.row 5 d.args.length (depAt d.args))]))), (3, (.ptr 1 0))], [(1, (.row [.nils] 35))], 2⟩) (C := none) (by kernel_rfl) hold0 ?_
 refine SW_seq ?_
 refine SW_reg ?_
 refine SO_thawC 9 1 1 0 (y := ⟨[(1, (.fp (.agg [(.int .i64 d.kind), (.str d.name), (.int .i64 d.op), (.str d.evr), (.row 5 d.args.length (depAt d.args))]))), (3, (.ptr 1 0))], [(1, (.row [(.own 2)] 35)), (2, (.grow ([] : List AV) 9 1))], 3⟩) rfl (by kernel_rfl) ?_
 refine SO_run 2 [] [3, 4, 5] (y := ⟨[(3, (.ptr 1 0)), (4, (.agg [(.int .i64 d.kind), (.str d.name), (.int .i64 d.op), (.str d.evr), (.row 5 d.args.length (depAt d.args))])), (5, (.fn 35 [] [(.ptr 1 0)]))], [(1, (.row [(.own 2)] 35)), (2, (.grow ([] : List AV) 9 1))], 3⟩) (C := none) (by kernel_rfl) hold0 ?_
 refine SO_callS [1, 2] (al := [(.agg [(.int .i64 d.kind), (.str d.name), (.int .i64 d.op), (.str d.evr), (.row 5 d.args.length (depAt d.args))]), (.fn 35 [] [(.ptr 1 0)])]) (al' := [(.agg [(.int .i64 d.kind), (.str d.name), (.int .i64 d.op), (.str d.evr), (.row 5 d.args.length (depAt d.args))]), (.fn 35 [] [(.ptr 0 0)])]) (r := (.tup [])) (r' := (.tup [])) (s' := [(3, (.ptr 1 0)), (4, (.agg [(.int .i64 d.kind), (.str d.name), (.int .i64 d.op), (.str d.evr), (.row 5 d.args.length (depAt d.args))])), (5, (.fn 35 [] [(.ptr 1 0)])), (6, (.tup []))]) (H := [(0, (.row [(.own 1)] 35)), (1, (.grow ([] : List AV) 9 1))]) (H' := [(0, (.row [(.own 1)] 35)), (1, (.grow ((allN d).map AV.str) 9 1))]) (h2 := [(1, (.row [(.own 2)] 35)), (2, (.grow ((allN d).map AV.str) 9 1))]) rfl (by exact en_33) (by kernel_rfl) (by kernel_rfl) (by kernel_rfl) (by kernel_rfl) (by kernel_rfl) (all_names d [] (by simp; omega)) (by kernel_rfl) (by kernel_rfl) (by kernel_rfl) ?_
 refine SO_nil ?_
 refine SW_seq ?_
 refine SW_reg ?_
 refine SO_run 1 [] [3, 7] (y := ⟨[(3, (.ptr 1 0)), (7, (.own 2))], [(1, (.row [(.own 2)] 35)), (2, (.grow ((allN d).map AV.str) 9 1))], 3⟩) (C := none) (by kernel_rfl) hold0 ?_
 refine SO_callS [1, 2] (al := [(.own 2)]) (al' := [(.own 1)]) (r := (.tup [])) (r' := (.tup [])) (s' := [(3, (.ptr 1 0)), (7, junk), (8, (.tup []))]) (H := [(0, (.row [(.own 1)] 35)), (1, (.grow ((allN d).map AV.str) 9 1))]) (H' := [(0, (.row [(.own 1)] 35)), (1, (.grow (((allN d).mergeSort fun x y => decide (x ≤ y)).map AV.str) 9 1))]) (h2 := [(1, (.row [(.own 2)] 35)), (2, (.grow (((allN d).mergeSort fun x y => decide (x ≤ y)).map AV.str) 9 1))]) rfl (by exact en_36) (by kernel_rfl) (by kernel_rfl) (by kernel_rfl) (by kernel_rfl) (by kernel_rfl) (sort_any (allN d) (by have := allN_len d; omega)) (by kernel_rfl) (by kernel_rfl) (by kernel_rfl) ?_
 refine SO_nil ?_
 refine SW_seq ?_
 refine SW_reg ?_
 refine SO_run 1 [] [9] (y := ⟨[(9, (.own 2))], [(1, (.row [(.own 2)] 35)), (2, (.grow (((allN d).mergeSort fun x y => decide (x ≤ y)).map AV.str) 9 1))], 3⟩) (C := none) (by kernel_rfl) hold0 ?_
 refine SO_callS [2] (al := [(.own 2)]) (al' := [(.own 0)]) (r := (.own 0)) (r' := (.own 2)) (s' := [(9, junk), (10, (.own 2))]) (H := [(0, (.grow (((allN d).mergeSort fun x y => decide (x ≤ y)).map AV.str) 9 1))]) (H' := [(0, (.grow ((namesF d).map AV.str) 9 1))]) (h2 := [(1, (.row [junk] 35)), (2, (.grow ((namesF d).map AV.str) 9 1))]) rfl (by exact en_37) (by kernel_rfl) (by kernel_rfl) (by kernel_rfl) (by kernel_rfl) (by kernel_rfl) (compact_any _ (by have := allN_len d; rw [List.length_mergeSort]; omega)) (by kernel_rfl) (by kernel_rfl) (by kernel_rfl) ?_
 refine SO_all [] [2] (y := ⟨[(2, (.own 2))], [(1, (.row [junk] 35)), (2, (.grow ((namesF d).map AV.str) 9 1))], 3⟩) (C := none) (by kernel_rfl) hold0 ?_
 refine SW_ret ?_
 refine retK_mk (.inl rfl) (al := [(.own 2)]) (by kernel_rfl) (rl := [(.row 1 ((namesF d).map AV.str).length (fun ix => ((namesF d).map AV.str).getD ix junk))]) (h' := [(1, (.row [junk] 35))]) (by kernel_rfl) ?_
 simp only [pack]
 exact Same.grown (f := AV.str) (l := namesF d) rfl
end Sv
end Go.Proofs.YtaegacblpbbndaaDoor
end
section
namespace Go.Proofs.YtaegacblpbbndaaDoor
open Go Go.RowKit
namespace Sv
abbrev Str := List UInt8
theorem slt_irrefl (x : Str) : ¬ x < x := List.lt_irrefl x
theorem slt_trans {x y z : Str} (h : x < y) (k : y < z) : x < z := List.lt_trans h k
theorem slt_asymm {x y : Str} (h : x < y) : ¬ y < x := fun k => slt_irrefl x (slt_trans h k)
theorem sle_of {x y : Str} (h : ¬ x < y) : y ≤ x := List.not_lt.1 h
theorem slt_of_le_ne {x y : Str} (h : x ≤ y) (k : x ≠ y) : x < y := by
  by_cases q : x < y
  · exact q
  · exact absurd (List.le_antisymm h (sle_of q)) k
theorem slt_of_le_lt {x y z : Str} (h : x ≤ y) (k : y < z) : x < z := by
  by_cases q : x = y
  · subst q; exact k
  · exact slt_trans (slt_of_le_ne h q) k
abbrev Rises (l : List Str) : Prop := l.Pairwise (· < ·)
theorem rises_ext : ∀ {l m : List Str}, Rises l → Rises m → (∀ x, x ∈ l ↔ x ∈ m) → l = m
  | [], [], _, _, _ => rfl
  | [], y :: m, _, _, h => by have := (h y).2 (by simp); simp at this
  | x :: l, [], _, _, h => by have := (h x).1 (by simp); simp at this
  | x :: l, y :: m, hl, hm, h => by
    obtain ⟨a1, a2⟩ := List.pairwise_cons.1 hl
    obtain ⟨b1, b2⟩ := List.pairwise_cons.1 hm
    have hxy : x = y := by
      rcases List.mem_cons.1 ((h x).1 (by simp)) with e | e
      · exact e
      · rcases List.mem_cons.1 ((h y).2 (by simp)) with e' | e'
        · exact e'.symm
        · exact absurd (b1 x e) (slt_asymm (a1 y e'))
    subst hxy
    congr 1
    refine rises_ext a2 b2 fun z => ?_
    constructor
    · intro hz
      rcases List.mem_cons.1 ((h z).1 (by simp [hz])) with e | e
      · subst e; exact absurd (a1 z hz) (slt_irrefl z)
      · exact e
    · intro hz
      rcases List.mem_cons.1 ((h z).2 (by simp [hz])) with e | e
      · subst e; exact absurd (b1 z hz) (slt_irrefl z)
      · exact e
theorem putL_mem {s x : Str} : ∀ {l : List Str}, x ∈ putL s l ↔ x = s ∨ x ∈ l
  | [] => by simp [putL]
  | y :: r => by
    unfold putL
    split
    · rw [List.mem_cons, putL_mem, List.mem_cons]
      constructor
      · rintro (h | h | h) <;> simp [h]
      · rintro (h | h | h) <;> simp [h]
    · split
      · rename_i h; subst h; simp
      · simp [List.mem_cons]
theorem putL_rises {s : Str} : ∀ {l : List Str}, Rises l → Rises (putL s l)
  | [], _ => by simp [putL]
  | y :: r, h => by
    obtain ⟨a1, a2⟩ := List.pairwise_cons.1 h
    unfold putL
    split
    · rename_i q
      rw [bytesLess_eq, decide_eq_true_eq] at q
      refine List.pairwise_cons.2 ⟨fun z hz => ?_, putL_rises a2⟩
      rcases putL_mem.1 hz with rfl | hz
      · exact q
      · exact a1 z hz
    · split
      · exact h
      · rename_i q q'
        rw [bytesLess_eq, decide_eq_true_eq] at q
        have hs : s < y := slt_of_le_ne (sle_of q) (fun e => q' e.symm)
        refine List.pairwise_cons.2 ⟨fun z hz => ?_, h⟩
        rcases List.mem_cons.1 hz with rfl | hz
        · exact hs
        · exact slt_trans hs (a1 z hz)
mutual
theorem namesL_mem {x : Str} : ∀ (d : DepT) (l : List Str), x ∈ namesL d l ↔ x ∈ allN d ∨ x ∈ l
  | .mk k nm op ev args, l => by
    unfold namesL allN
    rw [argsL_mem args _, List.mem_append]
    by_cases hk : k = 1
    · rw [if_pos hk, if_pos hk, putL_mem]
      simp only [List.mem_singleton]
      constructor
      · rintro (h | h | h) <;> simp [h]
      · rintro ((h | h) | h) <;> simp [h]
    · rw [if_neg hk, if_neg hk]; simp
theorem argsL_mem {x : Str} : ∀ (r : List DepT) (l : List Str), x ∈ argsL r l ↔ x ∈ allA r ∨ x ∈ l
  | [], l => by simp [argsL, allA]
  | d :: r, l => by
    unfold argsL allA
    rw [argsL_mem r _, namesL_mem d l, List.mem_append]
    constructor
    · rintro (h | h | h) <;> simp [h]
    · rintro ((h | h) | h) <;> simp [h]
end
mutual
theorem namesL_rises : ∀ (d : DepT) (l : List Str), Rises l → Rises (namesL d l)
  | .mk k nm op ev args, l, h => by
    unfold namesL
    refine argsL_rises args _ ?_
    split
    · exact putL_rises h
    · exact h
theorem argsL_rises : ∀ (r : List DepT) (l : List Str), Rises l → Rises (argsL r l)
  | [], l, h => h
  | d :: r, l, h => argsL_rises r _ (namesL_rises d l h)
end
theorem compact_rises {l : List Str} (h : l.Pairwise (· ≤ ·)) : Rises (Lib.compact l) ∧ ∀ x, x ∈ Lib.compact l ↔ x ∈ l := by
  have hget : ∀ i j, i ≤ j → j < l.length → l.toArray[i]! ≤ l.toArray[j]! := by
    intro i j hij hj
    rw [getElem!_pos l.toArray i (by simp; omega), getElem!_pos l.toArray j (by simpa using hj)]
    by_cases e : i = j
    · subst e; exact List.le_refl _
    · simpa using List.pairwise_iff_getElem.1 h i j (by omega) hj (by omega)
  have key : ∀ m, m ≤ l.length → Rises (Lib.compactUpTo l.toArray m) ∧ ∀ x, x ∈ Lib.compactUpTo l.toArray m ↔ ∃ j, j < m ∧ l.toArray[j]! = x := by
    intro m
    induction m with
    | zero => intro _; simp [Lib.compactUpTo]
    | succ m ih =>
      intro hm
      obtain ⟨i1, i2⟩ := ih (by omega)
      rw [Lib.compactUpTo_succ]
      by_cases hk : Lib.keeps l.toArray m = true
      · rw [if_pos hk]
        refine ⟨List.pairwise_append.2 ⟨i1, by simp, fun a ha b hb => ?_⟩, fun x => ?_⟩
        · have hb' : b = l.toArray[m]! := by simpa using hb
          subst hb'
          obtain ⟨j, hj, rfl⟩ := (i2 a).1 ha
          simp only [Lib.keeps, decide_eq_true_eq] at hk
          rcases hk with rfl | hk
          · omega
          · exact slt_of_le_lt (hget j (m - 1) (by omega) (by omega)) (slt_of_le_ne (hget (m - 1) m (by omega) (by omega)) (fun e => hk e.symm))
        · rw [List.mem_append, i2]
          simp only [List.mem_singleton]
          constructor
          · rintro (⟨j, hj, e⟩ | e)
            · exact ⟨j, by omega, e⟩
            · exact ⟨m, by omega, e.symm⟩
          · rintro ⟨j, hj, e⟩
            by_cases q : j = m
            · subst q; exact .inr e.symm
            · exact .inl ⟨j, by omega, e⟩
      · rw [if_neg hk, List.append_nil]
        refine ⟨i1, fun x => ?_⟩
        rw [i2]
        simp only [Lib.keeps, decide_eq_true_eq, not_or, Decidable.not_not] at hk
        constructor
        · rintro ⟨j, hj, e⟩; exact ⟨j, by omega, e⟩
        · rintro ⟨j, hj, e⟩
          by_cases q : j = m
          · subst q; exact ⟨j - 1, by omega, by rw [← hk.2]; exact e⟩
          · exact ⟨j, by omega, e⟩
  obtain ⟨k1, k2⟩ := key l.length (Nat.le_refl _)
  refine ⟨k1, fun x => ?_⟩
  rw [show Lib.compact l = Lib.compactUpTo l.toArray l.length from rfl, k2, List.mem_iff_getElem]
  constructor
  · rintro ⟨j, hj, e⟩
    rw [getElem!_pos l.toArray j (by simpa using hj)] at e
    exact ⟨j, hj, by simpa using e⟩
  · rintro ⟨j, hj, e⟩
    exact ⟨j, hj, by rw [getElem!_pos l.toArray j (by simpa using hj)]; simpa using e⟩
theorem sorted_le (l : List Str) : (l.mergeSort fun x y => decide (x ≤ y)).Pairwise (· ≤ ·) := by
  have := List.pairwise_mergeSort (le := fun x y : Str => decide (x ≤ y)) (fun a b c h k => by
    simp only [decide_eq_true_eq] at h k ⊢
    exact List.le_trans h k) (fun a b => by
    simp only [Bool.or_eq_true, decide_eq_true_eq]
    exact List.le_total a b) l
  exact this.imp fun h => by simpa using h
theorem names_rises (d : DepT) : Rises (namesF d) := (compact_rises (sorted_le _)).1
theorem names_mem (d : DepT) (x : Str) : x ∈ namesF d ↔ x ∈ allN d := by
  unfold namesF
  rw [(compact_rises (sorted_le _)).2 x, List.mem_mergeSort]
end Sv
end Go.Proofs.YtaegacblpbbndaaDoor
end
section
namespace Go.Proofs.YtaegacblpbbndaaDoor
open Go Go.RowKit
namespace Sv
def kindF (k : Int) : Int := if k < 0 then 0 - (k + 1) else k
def joinD (a b : DepT) (k : Int) : DepT := .mk (2 + Int.tmod (kindF k) 3) [] 0 [] [a, b]
def putsL (l m : List Str) : List Str := m.foldl (fun l x => putL x l) l
theorem kindF_pos (k : Int) : 0 ≤ kindF k := by unfold kindF; split <;> omega
theorem kind_mod (k : Int) : 0 ≤ Int.tmod (kindF k) 3 ∧ Int.tmod (kindF k) 3 ≤ 2 := by
  have h := kindF_pos k
  rw [Int.tmod_eq_emod_of_nonneg h]; omega
theorem putsL_take {l m : List Str} {i : Nat} (h : i < m.length) : putsL l (m.take (i + 1)) = putL (nth m i) (putsL l (m.take i)) := by
  unfold putsL; rw [take_next h, List.foldl_append]; rfl
theorem putsL_len : ∀ (m l : List Str), (putsL l m).length ≤ l.length + m.length
  | [], l => Nat.le_refl _
  | x :: m, l => by
    have h1 := putsL_len m (putL x l)
    have h2 := putL_len x l
    show (putsL (putL x l) m).length ≤ _
    simp only [List.length_cons]; omega
theorem putsL_mem {x : Str} : ∀ {m l : List Str}, x ∈ putsL l m ↔ x ∈ l ∨ x ∈ m
  | [], l => by simp [putsL]
  | y :: m, l => by
    show x ∈ putsL (putL y l) m ↔ _
    rw [putsL_mem, putL_mem, List.mem_cons]
    constructor
    · rintro ((h | h) | h) <;> simp [h]
    · rintro (h | h | h) <;> simp [h]
theorem putsL_rises : ∀ {m l : List Str}, Rises l → Rises (putsL l m)
  | [], l, h => h
  | y :: m, l, h => putsL_rises (m := m) (putL_rises h)
theorem join_names (a b : DepT) (k : Int) : namesF (joinD a b k) = putsL (namesF a) (namesF b) :=
  rises_ext (names_rises _) (putsL_rises (names_rises a)) fun x => by
    have hk := kind_mod k
    rw [names_mem, putsL_mem, names_mem, names_mem]
    have : allN (joinD a b k) = allN a ++ allN b := by
      rw [allN_eq]
      unfold ownN
      rw [if_neg (show ¬ (joinD a b k).kind = 1 from by show ¬ (2 + Int.tmod (kindF k) 3 = 1); omega)]
      simp [joinD, DepT.args, allA]
    rw [this, List.mem_append]
theorem join_size (a b : DepT) (k : Int) : (joinD a b k).size = a.size + b.size + 1 := by
  unfold joinD
  simp only [DepT.size, argsSize, List.length_nil]; omega
theorem join_check {a b : DepT} (k : Int) (ha : checkE a = 0) (hb : checkE b = 0) : checkE (joinD a b k) = 0 ∨ checkE (joinD a b k) = 51 := by
  have hk := kind_mod k
  have hfa := check_form ha
  have hfb := check_form hb
  have hf : formB (joinD a b k) = true := by
    unfold joinD formB
    rw [if_neg (by omega)]
    have h1 : formBad (2 + Int.tmod (kindF k) 3) [] 0 [] [a, b].length = false := by
      unfold formBad
      refine decide_eq_false fun h => ?_
      simp only [List.length_cons, List.length_nil] at h
      rcases h with (h | h | h | h | h | h) | h | h <;> first | omega | exact h rfl
    have h2 : ∀ m, kindOK (2 + Int.tmod (kindF k) 3) m = true := by
      intro m
      unfold kindOK
      rw [decide_eq_false (by omega)]; rfl
    rw [h1]
    simp only [argsForm, h2, hfa, hfb, Bool.not_false, Bool.and_self]
  unfold checkE
  rw [if_pos hf]
  split <;> simp
end Sv
end Go.Proofs.YtaegacblpbbndaaDoor
end
section
namespace Go.Proofs.YtaegacblpbbndaaDoor
open Go Go.RowKit
namespace Sv
attribute [local irreducible] SW SO
theorem en_14 : Enters Tryd.prog 14 := enters_of Tryd.func14 (by kernel_rfl) rfl
theorem en_17 : Enters Tryd.prog 17 := enters_of Tryd.func17 (by kernel_rfl) rfl
theorem CheckV (d : DepT) (hs : d.size ≤ 4194304) : FnV Tryd.prog 14 [depX d] (.int .i64 (checkE d)) := FnV.of_dep (rv := .int .i64 (checkE d)) (fun F => by simp only [VR]) fun w cs h => check_any d cs h hs
theorem awakeV : FnV Tryd.prog 7 [] (.bool true) := FnV.of_none (rv := .bool true) (fun F => by simp only [VR]) fun w => awake_any w
theorem names_len (d : DepT) : (namesF d).length ≤ d.size := by
 have h1 := compact_le ((allN d).mergeSort fun x y => decide (x ≤ y))
 have h2 := allN_len d
 rw [List.length_mergeSort] at h1
 exact Nat.le_trans h1 h2
set_option maxHeartbeats 400000 in
set_option maxRecDepth 100000 in
theorem joinsV (a b : DepT) (k : Int) (ha : a.size ≤ 1048576) (hb : b.size ≤ 1048576) (hk : -9223372036854775808 ≤ k ∧ k ≤ 9223372036854775807) :
  FnV Tryd.prog 6 [(.agg [(.int .i64 a.kind), (.str a.name), (.int .i64 a.op), (.str a.evr), (.row 5 a.args.length (depAt a.args))]), (.agg [(.int .i64 b.kind), (.str b.name), (.int .i64 b.op), (.str b.evr), (.row 5 b.args.length (depAt b.args))]), (.int .i64 k)] (.bool true) := by
 have hna := names_len a
 have hnb := names_len b
 have hnj := names_len (joinD a b k)
 have hsj := join_size a b k
 have hkm := kind_mod k
 have hkp := kindF_pos k
 refine FnV_intro [.tmp 6] Tryd.func6 rfl Tryd.ntmps6 rfl rfl (fun B F hF => ?_)
 refine SW_seq ?_
 refine SW_reg ?_
 refine SO_run 1 [] [1, 2, 3] (y := ⟨[(1, (.agg [(.int .i64 b.kind), (.str b.name), (.int .i64 b.op), (.str b.evr), (.row 5 b.args.length (depAt b.args))])), (2, (.int .i64 k)), (3, (.ptr 0 0))], [(0, (.row [(.int .i64 a.kind), (.str a.name), (.int .i64 a.op), (.str a.evr), (.row 5 a.args.length (depAt a.args))] 25))], 1⟩) (C := none) (by kernel_rfl) hold0 ?_
 refine SO_still 3 (y := ⟨[(1, (.agg [(.int .i64 b.kind), (.str b.name), (.int .i64 b.op), (.str b.evr), (.row 5 b.args.length (depAt b.args))])), (2, (.int .i64 k)), (3, (.fp (.agg [(.int .i64 a.kind), (.str a.name), (.int .i64 a.op), (.str a.evr), (.row 5 a.args.length (depAt a.args))])))], [], 1⟩) (by kernel_rfl) ?_
 refine SO_run 1 [] [2, 3, 4] (y := ⟨[(2, (.int .i64 k)), (3, (.fp (.agg [(.int .i64 a.kind), (.str a.name), (.int .i64 a.op), (.str a.evr), (.row 5 a.args.length (depAt a.args))]))), (4, (.ptr 1 0))], [(1, (.row [(.int .i64 b.kind), (.str b.name), (.int .i64 b.op), (.str b.evr), (.row 5 b.args.length (depAt b.args))] 25))], 2⟩) (C := none) (by kernel_rfl) hold0 ?_
 refine SO_still 4 (y := ⟨[(2, (.int .i64 k)), (3, (.fp (.agg [(.int .i64 a.kind), (.str a.name), (.int .i64 a.op), (.str a.evr), (.row 5 a.args.length (depAt a.args))]))), (4, (.fp (.agg [(.int .i64 b.kind), (.str b.name), (.int .i64 b.op), (.str b.evr), (.row 5 b.args.length (depAt b.args))])))], [], 2⟩) (by kernel_rfl) ?_
 refine SO_all [] [2, 3, 4] (y := ⟨[(2, (.int .i64 k)), (3, (.fp (.agg [(.int .i64 a.kind), (.str a.name), (.int .i64 a.op), (.str a.evr), (.row 5 a.args.length (depAt a.args))]))), (4, (.fp (.agg [(.int .i64 b.kind), (.str b.name), (.int .i64 b.op), (.str b.evr), (.row 5 b.args.length (depAt b.args))])))], [], 2⟩) (C := none) (by kernel_rfl) hold0 ?_
 refine SW_seq ?_
 refine SW_reg ?_
 refine SO_call (s' := [(2, (.int .i64 k)), (3, (.fp (.agg [(.int .i64 a.kind), (.str a.name), (.int .i64 a.op), (.str a.evr), (.row 5 a.args.length (depAt a.args))]))), (4, (.fp (.agg [(.int .i64 b.kind), (.str b.name), (.int .i64 b.op), (.str b.evr), (.row 5 b.args.length (depAt b.args))]))), (14, (.bool true))]) (al := []) (r := (.bool true)) rfl (by exact en_7) (by kernel_rfl) (by kernel_rfl) awakeV (by kernel_rfl) ?_
 refine SO_all [] [2, 3, 4, 7] (y := ⟨[(2, (.int .i64 k)), (3, (.fp (.agg [(.int .i64 a.kind), (.str a.name), (.int .i64 a.op), (.str a.evr), (.row 5 a.args.length (depAt a.args))]))), (4, (.fp (.agg [(.int .i64 b.kind), (.str b.name), (.int .i64 b.op), (.str b.evr), (.row 5 b.args.length (depAt b.args))]))), (7, (.bool true))], [], 2⟩) (C := none) (by kernel_rfl) hold0 ?_
 refine SW_seq ?_
 refine SW_seq ?_
 refine SW_reg ?_
 refine SO_run 1 [] [2, 3, 4, 7, 15] (y := ⟨[(2, (.int .i64 k)), (3, (.fp (.agg [(.int .i64 a.kind), (.str a.name), (.int .i64 a.op), (.str a.evr), (.row 5 a.args.length (depAt a.args))]))), (4, (.fp (.agg [(.int .i64 b.kind), (.str b.name), (.int .i64 b.op), (.str b.evr), (.row 5 b.args.length (depAt b.args))]))), (7, (.bool true)), (15, (.agg [(.int .i64 a.kind), (.str a.name), (.int .i64 a.op), (.str a.evr), (.row 5 a.args.length (depAt a.args))]))], [], 2⟩) (C := none) (by kernel_rfl) hold0 ?_
 refine SO_call (s' := [(2, (.int .i64 k)), (3, (.fp (.agg [(.int .i64 a.kind), (.str a.name), (.int .i64 a.op), (.str a.evr), (.row 5 a.args.length (depAt a.args))]))), (4, (.fp (.agg [(.int .i64 b.kind), (.str b.name), (.int .i64 b.op), (.str b.evr), (.row 5 b.args.length (depAt b.args))]))), (7, (.bool true)), (15, (.agg [(.int .i64 a.kind), (.str a.name), (.int .i64 a.op), (.str a.evr), (.row 5 a.args.length (depAt a.args))])), (16, (.int .i64 (checkE a)))]) (al := [(.agg [(.int .i64 a.kind), (.str a.name), (.int .i64 a.op), (.str a.evr), (.row 5 a.args.length (depAt a.args))])]) (r := (.int .i64 (checkE a))) rfl (by exact en_14) (by kernel_rfl) (by kernel_rfl) (CheckV a (by omega)) (by kernel_rfl) ?_
 refine SO_run 3 [19] [2, 3, 4, 7, 18, 19] (y := ⟨[(2, (.int .i64 k)), (3, (.fp (.agg [(.int .i64 a.kind), (.str a.name), (.int .i64 a.op), (.str a.evr), (.row 5 a.args.length (depAt a.args))]))), (4, (.fp (.agg [(.int .i64 b.kind), (.str b.name), (.int .i64 b.op), (.str b.evr), (.row 5 b.args.length (depAt b.args))]))), (7, (.bool true)), (18, (.bool (!decide ((checkE a) = 0)))), (19, (.cond (!(!decide ((checkE a) = 0))) (.agg [(.int .i64 b.kind), (.str b.name), (.int .i64 b.op), (.str b.evr), (.row 5 b.args.length (depAt b.args))])))], [], 2⟩) (C := none) (by kernel_rfl) hold0 ?_
 refine SO_callg (s' := [(2, (.int .i64 k)), (3, (.fp (.agg [(.int .i64 a.kind), (.str a.name), (.int .i64 a.op), (.str a.evr), (.row 5 a.args.length (depAt a.args))]))), (4, (.fp (.agg [(.int .i64 b.kind), (.str b.name), (.int .i64 b.op), (.str b.evr), (.row 5 b.args.length (depAt b.args))]))), (7, (.bool true)), (18, (.bool (!decide ((checkE a) = 0)))), (19, (.cond (!(!decide ((checkE a) = 0))) (.agg [(.int .i64 b.kind), (.str b.name), (.int .i64 b.op), (.str b.evr), (.row 5 b.args.length (depAt b.args))]))), (20, (.cond (!(!decide ((checkE a) = 0))) (.int .i64 (checkE b))))]) (q := !(!decide ((checkE a) = 0))) (al := [(.agg [(.int .i64 b.kind), (.str b.name), (.int .i64 b.op), (.str b.evr), (.row 5 b.args.length (depAt b.args))])]) (r := (.int .i64 (checkE b))) rfl (by exact en_14) (by kernel_rfl) (fun cg => (hold (by first | omega | (simp; omega) | (simp; done) | (intros; simp_all; omega) | (intros; simp_all; done)))) (by kernel_rfl) (fun cg => CheckV b (by omega)) (by kernel_rfl) ?_
 refine SO_all [21] [2, 3, 4, 7, 22] (y := ⟨[(2, (.int .i64 k)), (3, (.fp (.agg [(.int .i64 a.kind), (.str a.name), (.int .i64 a.op), (.str a.evr), (.row 5 a.args.length (depAt a.args))]))), (4, (.fp (.agg [(.int .i64 b.kind), (.str b.name), (.int .i64 b.op), (.str b.evr), (.row 5 b.args.length (depAt b.args))]))), (7, (.bool true)), (22, (.bool ((!decide ((checkE a) = 0)) || (!decide ((checkE b) = 0)))))], [], 2⟩) (C := some (((!(!decide ((checkE a) = 0))) = true → (!(!decide ((checkE a) = 0))) = true) ∧ ((!decide ((checkE a) = 0)) = false → (!(!decide ((checkE a) = 0))) = true))) (by kernel_rfl) (hold (by first | omega | (simp; omega) | (simp; done) | (intros; simp_all; omega) | (intros; simp_all; done))) ?_
 refine SW_cond (q := (!decide ((checkE a) = 0)) || (!decide ((checkE b) = 0))) rfl (fun c1 => ?_) (fun c1 => ?_)
 ·try simp only [Bool.and_eq_true, Bool.or_eq_true, Bool.and_eq_false_iff, Bool.or_eq_false_iff, Bool.not_eq_true', Bool.not_eq_false', decide_eq_true_eq, decide_eq_false_iff_not] at c1
  refine SW_seq ?_
  refine SW_reg ?_
  refine SO_all [] [6] (y := ⟨[(6, (.bool true))], [], 2⟩) (C := none) (by kernel_rfl) hold0 ?_
  refine SW_ret ?_
  refine retK_mk (.inl rfl) (al := [(.bool true)]) (by kernel_rfl) (rl := [(.bool true)]) (h' := []) (by kernel_rfl) ?_
  exact Same.of_eq rfl
 ·try simp only [Bool.and_eq_true, Bool.or_eq_true, Bool.and_eq_false_iff, Bool.or_eq_false_iff, Bool.not_eq_true', Bool.not_eq_false', decide_eq_true_eq, decide_eq_false_iff_not] at c1
  refine SW_skip ?_
  refine SW_cut (fun y => ∃ y', gcS [2, 3, 4, 7] 2 y = some y' ∧ y' = ⟨[(2, (.int .i64 (kindF k))), (3, (.fp (.agg [(.int .i64 a.kind), (.str a.name), (.int .i64 a.op), (.str a.evr), (.row 5 a.args.length (depAt a.args))]))), (4, (.fp (.agg [(.int .i64 b.kind), (.str b.name), (.int .i64 b.op), (.str b.evr), (.row 5 b.args.length (depAt b.args))]))), (7, (.bool true))], [], 2⟩) ?_ ?_
  ·refine SW_seq ?_
   refine SW_reg ?_
   refine SO_all [] [2, 3, 4, 7, 25] (y := ⟨[(2, (.int .i64 k)), (3, (.fp (.agg [(.int .i64 a.kind), (.str a.name), (.int .i64 a.op), (.str a.evr), (.row 5 a.args.length (depAt a.args))]))), (4, (.fp (.agg [(.int .i64 b.kind), (.str b.name), (.int .i64 b.op), (.str b.evr), (.row 5 b.args.length (depAt b.args))]))), (7, (.bool true)), (25, (.bool (decide (k < 0))))], [], 2⟩) (C := none) (by kernel_rfl) hold0 ?_
   refine SW_if (p := k < 0) rfl (fun c2 => ?_) (fun c2 => ?_)
   ·refine SW_reg ?_
    refine SO_all [] [2, 3, 4, 7] (y := ⟨[(2, (.int .i64 (0 - (k + 1)))), (3, (.fp (.agg [(.int .i64 a.kind), (.str a.name), (.int .i64 a.op), (.str a.evr), (.row 5 a.args.length (depAt a.args))]))), (4, (.fp (.agg [(.int .i64 b.kind), (.str b.name), (.int .i64 b.op), (.str b.evr), (.row 5 b.args.length (depAt b.args))]))), (7, (.bool true))], [], 2⟩) (C := some ((-9223372036854775808 ≤ k + 1 ∧ k + 1 ≤ 9223372036854775807) ∧ (-9223372036854775808 ≤ 0 - (k + 1) ∧ 0 - (k + 1) ≤ 9223372036854775807))) (by kernel_rfl) (hold (by first | omega | (simp; omega) | (simp; done) | (intros; simp_all; omega) | (intros; simp_all; done))) ?_
    refine ⟨_, (by kernel_rfl : gcS _ _ _ = some ⟨[(2, (.int .i64 (0 - (k + 1)))), (3, (.fp (.agg [(.int .i64 a.kind), (.str a.name), (.int .i64 a.op), (.str a.evr), (.row 5 a.args.length (depAt a.args))]))), (4, (.fp (.agg [(.int .i64 b.kind), (.str b.name), (.int .i64 b.op), (.str b.evr), (.row 5 b.args.length (depAt b.args))]))), (7, (.bool true))], [], 2⟩), (by unfold kindF; rw [if_pos c2])⟩
   ·refine SW_skip ?_
    refine ⟨_, (by kernel_rfl : gcS _ _ _ = some ⟨[(2, (.int .i64 k)), (3, (.fp (.agg [(.int .i64 a.kind), (.str a.name), (.int .i64 a.op), (.str a.evr), (.row 5 a.args.length (depAt a.args))]))), (4, (.fp (.agg [(.int .i64 b.kind), (.str b.name), (.int .i64 b.op), (.str b.evr), (.row 5 b.args.length (depAt b.args))]))), (7, (.bool true))], [], 2⟩), (by unfold kindF; rw [if_neg c2])⟩
  ·rintro y1 ⟨_, hg1, rfl⟩
   refine SW_gc _ _ (by omega) hg1 ?_
   refine SW_seq ?_
   refine SW_reg ?_
   refine SO_run 6 [] [3, 4, 7, 31, 34] (y := ⟨[(3, (.fp (.agg [(.int .i64 a.kind), (.str a.name), (.int .i64 a.op), (.str a.evr), (.row 5 a.args.length (depAt a.args))]))), (4, (.fp (.agg [(.int .i64 b.kind), (.str b.name), (.int .i64 b.op), (.str b.evr), (.row 5 b.args.length (depAt b.args))]))), (7, (.bool true)), (31, (.int .i64 (2 + (Int.tmod (kindF k) 3)))), (34, (.sl 2 0 2 2 false))], [(2, (.row [(.int .i64 a.kind), (.str a.name), (.int .i64 a.op), (.str a.evr), (.row 5 a.args.length (depAt a.args)), (.int .i64 b.kind), (.str b.name), (.int .i64 b.op), (.str b.evr), (.row 5 b.args.length (depAt b.args))] 25))], 3⟩) (C := some (((3 : Int) ≠ 0) ∧ (-9223372036854775808 ≤ 2 + (Int.tmod (kindF k) 3) ∧ 2 + (Int.tmod (kindF k) 3) ≤ 9223372036854775807))) (by kernel_rfl) (hold (by first | omega | (simp; omega) | (simp; done) | (intros; simp_all; omega) | (intros; simp_all; done))) ?_
   refine SO_still 34 (y := ⟨[(3, (.fp (.agg [(.int .i64 a.kind), (.str a.name), (.int .i64 a.op), (.str a.evr), (.row 5 a.args.length (depAt a.args))]))), (4, (.fp (.agg [(.int .i64 b.kind), (.str b.name), (.int .i64 b.op), (.str b.evr), (.row 5 b.args.length (depAt b.args))]))), (7, (.bool true)), (31, (.int .i64 (2 + (Int.tmod (kindF k) 3)))), (34, (.row 5 2 (fun ix => (chunk 5 2 [(.int .i64 a.kind), (.str a.name), (.int .i64 a.op), (.str a.evr), (.row 5 a.args.length (depAt a.args)), (.int .i64 b.kind), (.str b.name), (.int .i64 b.op), (.str b.evr), (.row 5 b.args.length (depAt b.args))]).getD ix junk)))], [], 3⟩) (by kernel_rfl) ?_
   refine SO_conv 34 (rowOf 5 depX [a, b]) (by kernel_rfl) (Imp.list (f := depX) rfl) ?_
   refine SO_all [] [3, 4, 7, 8] (y := ⟨[(3, (.fp (.agg [(.int .i64 a.kind), (.str a.name), (.int .i64 a.op), (.str a.evr), (.row 5 a.args.length (depAt a.args))]))), (4, (.fp (.agg [(.int .i64 b.kind), (.str b.name), (.int .i64 b.op), (.str b.evr), (.row 5 b.args.length (depAt b.args))]))), (7, (.bool true)), (8, (.ptr 3 0))], [(3, (.row [(.int .i64 (2 + (Int.tmod (kindF k) 3))), (.str []), (.int .i64 0), (.str []), (rowOf 5 depX [a, b])] 25))], 4⟩) (C := none) (by kernel_rfl) hold0 ?_
   refine SW_seq ?_
   refine SW_reg ?_
   refine SO_still 8 (y := ⟨[(3, (.fp (.agg [(.int .i64 a.kind), (.str a.name), (.int .i64 a.op), (.str a.evr), (.row 5 a.args.length (depAt a.args))]))), (4, (.fp (.agg [(.int .i64 b.kind), (.str b.name), (.int .i64 b.op), (.str b.evr), (.row 5 b.args.length (depAt b.args))]))), (7, (.bool true)), (8, (.fp (.agg [(.int .i64 (2 + (Int.tmod (kindF k) 3))), (.str []), (.int .i64 0), (.str []), (rowOf 5 depX [a, b])])))], [], 4⟩) (by kernel_rfl) ?_
   refine SO_run 1 [] [3, 4, 7, 8, 36] (y := ⟨[(3, (.fp (.agg [(.int .i64 a.kind), (.str a.name), (.int .i64 a.op), (.str a.evr), (.row 5 a.args.length (depAt a.args))]))), (4, (.fp (.agg [(.int .i64 b.kind), (.str b.name), (.int .i64 b.op), (.str b.evr), (.row 5 b.args.length (depAt b.args))]))), (7, (.bool true)), (8, (.fp (.agg [(.int .i64 (2 + (Int.tmod (kindF k) 3))), (.str []), (.int .i64 0), (.str []), (rowOf 5 depX [a, b])]))), (36, (.agg [(.int .i64 (2 + (Int.tmod (kindF k) 3))), (.str []), (.int .i64 0), (.str []), (rowOf 5 depX [a, b])]))], [], 4⟩) (C := none) (by kernel_rfl) hold0 ?_
   refine SO_call (s' := [(3, (.fp (.agg [(.int .i64 a.kind), (.str a.name), (.int .i64 a.op), (.str a.evr), (.row 5 a.args.length (depAt a.args))]))), (4, (.fp (.agg [(.int .i64 b.kind), (.str b.name), (.int .i64 b.op), (.str b.evr), (.row 5 b.args.length (depAt b.args))]))), (7, (.bool true)), (8, (.fp (.agg [(.int .i64 (2 + (Int.tmod (kindF k) 3))), (.str []), (.int .i64 0), (.str []), (rowOf 5 depX [a, b])]))), (36, (.agg [(.int .i64 (2 + (Int.tmod (kindF k) 3))), (.str []), (.int .i64 0), (.str []), (rowOf 5 depX [a, b])])), (37, (.int .i64 (checkE (joinD a b k))))]) (al := [(.agg [(.int .i64 (2 + (Int.tmod (kindF k) 3))), (.str []), (.int .i64 0), (.str []), (rowOf 5 depX [a, b])])]) (r := (.int .i64 (checkE (joinD a b k)))) rfl (by exact en_14) (by kernel_rfl) (by kernel_rfl) ((CheckV (joinD a b k) (by rw [join_size]; omega)).of_args (ImpL.cons (depX_shut (joinD a b k)) ImpL.nil)) (by kernel_rfl) ?_
   refine SO_all [] [3, 4, 7, 8, 9] (y := ⟨[(3, (.fp (.agg [(.int .i64 a.kind), (.str a.name), (.int .i64 a.op), (.str a.evr), (.row 5 a.args.length (depAt a.args))]))), (4, (.fp (.agg [(.int .i64 b.kind), (.str b.name), (.int .i64 b.op), (.str b.evr), (.row 5 b.args.length (depAt b.args))]))), (7, (.bool true)), (8, (.fp (.agg [(.int .i64 (2 + (Int.tmod (kindF k) 3))), (.str []), (.int .i64 0), (.str []), (rowOf 5 depX [a, b])]))), (9, (.int .i64 (checkE (joinD a b k))))], [], 4⟩) (C := none) (by kernel_rfl) hold0 ?_
   refine SW_seq ?_
   refine SW_reg ?_
   refine SO_run 1 [] [4, 7, 8, 9, 38] (y := ⟨[(4, (.fp (.agg [(.int .i64 b.kind), (.str b.name), (.int .i64 b.op), (.str b.evr), (.row 5 b.args.length (depAt b.args))]))), (7, (.bool true)), (8, (.fp (.agg [(.int .i64 (2 + (Int.tmod (kindF k) 3))), (.str []), (.int .i64 0), (.str []), (rowOf 5 depX [a, b])]))), (9, (.int .i64 (checkE (joinD a b k)))), (38, (.agg [(.int .i64 a.kind), (.str a.name), (.int .i64 a.op), (.str a.evr), (.row 5 a.args.length (depAt a.args))]))], [], 4⟩) (C := none) (by kernel_rfl) hold0 ?_
   refine SO_call (s' := [(4, (.fp (.agg [(.int .i64 b.kind), (.str b.name), (.int .i64 b.op), (.str b.evr), (.row 5 b.args.length (depAt b.args))]))), (7, (.bool true)), (8, (.fp (.agg [(.int .i64 (2 + (Int.tmod (kindF k) 3))), (.str []), (.int .i64 0), (.str []), (rowOf 5 depX [a, b])]))), (9, (.int .i64 (checkE (joinD a b k)))), (38, (.agg [(.int .i64 a.kind), (.str a.name), (.int .i64 a.op), (.str a.evr), (.row 5 a.args.length (depAt a.args))])), (39, (strs (namesF a)))]) (al := [(.agg [(.int .i64 a.kind), (.str a.name), (.int .i64 a.op), (.str a.evr), (.row 5 a.args.length (depAt a.args))])]) (r := (strs (namesF a))) rfl (by exact en_15) (by kernel_rfl) (by kernel_rfl) (NamesV a (by omega)) (by kernel_rfl) ?_
   refine SO_all [] [4, 7, 8, 9, 10] (y := ⟨[(4, (.fp (.agg [(.int .i64 b.kind), (.str b.name), (.int .i64 b.op), (.str b.evr), (.row 5 b.args.length (depAt b.args))]))), (7, (.bool true)), (8, (.fp (.agg [(.int .i64 (2 + (Int.tmod (kindF k) 3))), (.str []), (.int .i64 0), (.str []), (rowOf 5 depX [a, b])]))), (9, (.int .i64 (checkE (joinD a b k)))), (10, (strs (namesF a)))], [], 4⟩) (C := none) (by kernel_rfl) hold0 ?_
   refine SW_seq ?_
   refine SW_reg ?_
   refine SO_run 1 [] [7, 8, 9, 10, 40] (y := ⟨[(7, (.bool true)), (8, (.fp (.agg [(.int .i64 (2 + (Int.tmod (kindF k) 3))), (.str []), (.int .i64 0), (.str []), (rowOf 5 depX [a, b])]))), (9, (.int .i64 (checkE (joinD a b k)))), (10, (strs (namesF a))), (40, (.agg [(.int .i64 b.kind), (.str b.name), (.int .i64 b.op), (.str b.evr), (.row 5 b.args.length (depAt b.args))]))], [], 4⟩) (C := none) (by kernel_rfl) hold0 ?_
   refine SO_call (s' := [(7, (.bool true)), (8, (.fp (.agg [(.int .i64 (2 + (Int.tmod (kindF k) 3))), (.str []), (.int .i64 0), (.str []), (rowOf 5 depX [a, b])]))), (9, (.int .i64 (checkE (joinD a b k)))), (10, (strs (namesF a))), (40, (.agg [(.int .i64 b.kind), (.str b.name), (.int .i64 b.op), (.str b.evr), (.row 5 b.args.length (depAt b.args))])), (41, (strs (namesF b)))]) (al := [(.agg [(.int .i64 b.kind), (.str b.name), (.int .i64 b.op), (.str b.evr), (.row 5 b.args.length (depAt b.args))])]) (r := (strs (namesF b))) rfl (by exact en_15) (by kernel_rfl) (by kernel_rfl) (NamesV b (by omega)) (by kernel_rfl) ?_
   refine SO_all [] [7, 8, 9, 10, 11] (y := ⟨[(7, (.bool true)), (8, (.fp (.agg [(.int .i64 (2 + (Int.tmod (kindF k) 3))), (.str []), (.int .i64 0), (.str []), (rowOf 5 depX [a, b])]))), (9, (.int .i64 (checkE (joinD a b k)))), (10, (strs (namesF a))), (11, (strs (namesF b)))], [], 4⟩) (C := none) (by kernel_rfl) hold0 ?_
   refine SW_seq ?_
   refine SW_seq ?_
   refine SW_reg ?_
   refine SO_all [] [7, 8, 9, 10, 11, 12] (y := ⟨[(7, (.bool true)), (8, (.fp (.agg [(.int .i64 (2 + (Int.tmod (kindF k) 3))), (.str []), (.int .i64 0), (.str []), (rowOf 5 depX [a, b])]))), (9, (.int .i64 (checkE (joinD a b k)))), (10, (strs (namesF a))), (11, (strs (namesF b))), (12, (.int .i64 0))], [], 4⟩) (C := none) (by kernel_rfl) hold0 ?_
   refine SW_block ?_
   refine SW_loopg (fun g y => ∃ (i : Nat), i ≤ (namesF b).length ∧ y = ⟨[(7, (.bool true)), (8, (.fp (.agg [(.int .i64 (2 + (Int.tmod (kindF k) 3))), (.str []), (.int .i64 0), (.str []), (rowOf 5 depX [a, b])]))), (9, (.int .i64 (checkE (joinD a b k)))), (10, (strs (putsL (namesF a) ((namesF b).take i)))), (11, (strs (namesF b))), (12, (.int .i64 ((i : Int))))], [], 4⟩ ∧ g = (namesF b).length - i) [7, 8, 9, 10, 11, 12] 4 (y := ⟨[(7, (.bool true)), (8, (.fp (.agg [(.int .i64 (2 + (Int.tmod (kindF k) 3))), (.str []), (.int .i64 0), (.str []), (rowOf 5 depX [a, b])]))), (9, (.int .i64 (checkE (joinD a b k)))), (10, (strs (namesF a))), (11, (strs (namesF b))), (12, (.int .i64 0))], [], 4⟩) _ (by omega) (by kernel_rfl) ⟨0, (by omega), (by kernel_rfl), rfl⟩ ?_
   rintro g1 y1 ⟨i, f1_1, rfl, rfl⟩
   refine SW_seq ?_
   refine SW_seq ?_
   refine SW_reg ?_
   refine SO_all [] [7, 8, 9, 10, 11, 12, 45] (y := ⟨[(7, (.bool true)), (8, (.fp (.agg [(.int .i64 (2 + (Int.tmod (kindF k) 3))), (.str []), (.int .i64 0), (.str []), (rowOf 5 depX [a, b])]))), (9, (.int .i64 (checkE (joinD a b k)))), (10, (strs (putsL (namesF a) ((namesF b).take i)))), (11, (strs (namesF b))), (12, (.int .i64 ((i : Int)))), (45, (.bool (decide ((i : Int) < ((namesF b).length : Int)))))], [], 4⟩) (C := none) (by kernel_rfl) hold0 ?_
   refine SW_if (p := (i : Int) < ((namesF b).length : Int)) rfl (fun c3 => ?_) (fun c3 => ?_)
   ·refine SW_skip ?_
    refine SW_seq ?_
    refine SW_block ?_
    refine SW_reg ?_
    refine SO_run 5 [] [7, 8, 9, 11, 12, 48, 52] (y := ⟨[(7, (.bool true)), (8, (.fp (.agg [(.int .i64 (2 + (Int.tmod (kindF k) 3))), (.str []), (.int .i64 0), (.str []), (rowOf 5 depX [a, b])]))), (9, (.int .i64 (checkE (joinD a b k)))), (11, (strs (namesF b))), (12, (.int .i64 ((i : Int)))), (48, (strs (putsL (namesF a) ((namesF b).take i)))), (52, (.str (nth (namesF b) i)))], [], 4⟩) (C := some ((0 ≤ (i : Int) ∧ i < (namesF b).length))) (by kernel_rfl) (hold (by first | omega | (simp; omega) | (simp; done) | (intros; simp_all; omega) | (intros; simp_all; done))) ?_
    refine SO_call (s' := [(7, (.bool true)), (8, (.fp (.agg [(.int .i64 (2 + (Int.tmod (kindF k) 3))), (.str []), (.int .i64 0), (.str []), (rowOf 5 depX [a, b])]))), (9, (.int .i64 (checkE (joinD a b k)))), (11, (strs (namesF b))), (12, (.int .i64 ((i : Int)))), (48, (strs (putsL (namesF a) ((namesF b).take i)))), (52, (.str (nth (namesF b) i))), (53, (strs (putL (nth (namesF b) i) (putsL (namesF a) ((namesF b).take i)))))]) (al := [(strs (putsL (namesF a) ((namesF b).take i))), (.str (nth (namesF b) i))]) (r := (strs (putL (nth (namesF b) i) (putsL (namesF a) ((namesF b).take i))))) rfl (by exact en_16) (by kernel_rfl) (by kernel_rfl) (refPut_any _ _ (by have := putsL_len ((namesF b).take i) (namesF a); rw [List.length_take] at this; omega)) (by kernel_rfl) ?_
    refine SO_all [] [7, 8, 9, 10, 11, 12] (y := ⟨[(7, (.bool true)), (8, (.fp (.agg [(.int .i64 (2 + (Int.tmod (kindF k) 3))), (.str []), (.int .i64 0), (.str []), (rowOf 5 depX [a, b])]))), (9, (.int .i64 (checkE (joinD a b k)))), (10, (strs (putL (nth (namesF b) i) (putsL (namesF a) ((namesF b).take i))))), (11, (strs (namesF b))), (12, (.int .i64 ((i : Int))))], [], 4⟩) (C := none) (by kernel_rfl) hold0 ?_
    refine SW_reg ?_
    refine SO_all [] [7, 8, 9, 10, 11, 12] (y := ⟨[(7, (.bool true)), (8, (.fp (.agg [(.int .i64 (2 + (Int.tmod (kindF k) 3))), (.str []), (.int .i64 0), (.str []), (rowOf 5 depX [a, b])]))), (9, (.int .i64 (checkE (joinD a b k)))), (10, (strs (putL (nth (namesF b) i) (putsL (namesF a) ((namesF b).take i))))), (11, (strs (namesF b))), (12, (.int .i64 ((i : Int) + 1)))], [], 4⟩) (C := some ((-9223372036854775808 ≤ (i : Int) + 1 ∧ (i : Int) + 1 ≤ 9223372036854775807))) (by kernel_rfl) (hold (by first | omega | (simp; omega) | (simp; done) | (intros; simp_all; omega) | (intros; simp_all; done))) ?_
    refine ⟨_, (by kernel_rfl : gcS _ _ _ = some ⟨[(7, (.bool true)), (8, (.fp (.agg [(.int .i64 (2 + (Int.tmod (kindF k) 3))), (.str []), (.int .i64 0), (.str []), (rowOf 5 depX [a, b])]))), (9, (.int .i64 (checkE (joinD a b k)))), (10, (strs (putL (nth (namesF b) i) (putsL (namesF a) ((namesF b).take i))))), (11, (strs (namesF b))), (12, (.int .i64 ((i : Int) + 1)))], [], 4⟩), _, ?_, i + 1, ?_, (by rw [putsL_take (by omega)]; rfl), rfl⟩
    all_goals omega
   ·refine SW_exit ?_
    refine SW_seq ?_
    refine SW_reg ?_
    refine SO_run 1 [] [7, 9, 10, 54] (y := ⟨[(7, (.bool true)), (9, (.int .i64 (checkE (joinD a b k)))), (10, (strs (putsL (namesF a) ((namesF b).take i)))), (54, (.agg [(.int .i64 (2 + (Int.tmod (kindF k) 3))), (.str []), (.int .i64 0), (.str []), (rowOf 5 depX [a, b])]))], [], 4⟩) (C := none) (by kernel_rfl) hold0 ?_
    refine SO_call (s' := [(7, (.bool true)), (9, (.int .i64 (checkE (joinD a b k)))), (10, (strs (putsL (namesF a) ((namesF b).take i)))), (54, (.agg [(.int .i64 (2 + (Int.tmod (kindF k) 3))), (.str []), (.int .i64 0), (.str []), (rowOf 5 depX [a, b])])), (55, (strs (namesF (joinD a b k))))]) (al := [(.agg [(.int .i64 (2 + (Int.tmod (kindF k) 3))), (.str []), (.int .i64 0), (.str []), (rowOf 5 depX [a, b])])]) (r := (strs (namesF (joinD a b k)))) rfl (by exact en_15) (by kernel_rfl) (by kernel_rfl) ((NamesV (joinD a b k) (by rw [join_size]; omega)).of_args (ImpL.cons (depX_shut (joinD a b k)) ImpL.nil)) (by kernel_rfl) ?_
    refine SO_run 1 [] [7, 9, 55, 56] (y := ⟨[(7, (.bool true)), (9, (.int .i64 (checkE (joinD a b k)))), (55, (strs (namesF (joinD a b k)))), (56, (strs (putsL (namesF a) ((namesF b).take i))))], [], 4⟩) (C := none) (by kernel_rfl) hold0 ?_
    refine SO_call (s' := [(7, (.bool true)), (9, (.int .i64 (checkE (joinD a b k)))), (55, (strs (namesF (joinD a b k)))), (56, (strs (putsL (namesF a) ((namesF b).take i)))), (57, (.bool (decide (namesF (joinD a b k) = putsL (namesF a) ((namesF b).take i)))))]) (al := [(strs (namesF (joinD a b k))), (strs (putsL (namesF a) ((namesF b).take i)))]) (r := (.bool (decide (namesF (joinD a b k) = putsL (namesF a) ((namesF b).take i))))) rfl (by exact en_17) (by kernel_rfl) (by kernel_rfl) (sameTexts_any _ _ (by omega)) (by kernel_rfl) ?_
    refine SO_all [] [7, 9, 13] (y := ⟨[(7, (.bool true)), (9, (.int .i64 (checkE (joinD a b k)))), (13, (.bool (decide (namesF (joinD a b k) = putsL (namesF a) ((namesF b).take i)))))], [], 4⟩) (C := none) (by kernel_rfl) hold0 ?_
    refine SW_seq ?_
    refine SW_reg ?_
    refine SO_all [63, 64, 68] [6] (y := ⟨[(6, (.bool (((decide ((checkE (joinD a b k)) = 0)) || (decide ((checkE (joinD a b k)) = 51))) && (decide (namesF (joinD a b k) = putsL (namesF a) ((namesF b).take i))))))], [], 4⟩) (C := some (((!(decide ((checkE (joinD a b k)) = 0))) = true → (!(decide ((checkE (joinD a b k)) = 0))) = true) ∧ ((decide ((checkE (joinD a b k)) = 0)) = false → (!(decide ((checkE (joinD a b k)) = 0))) = true) ∧ (((decide ((checkE (joinD a b k)) = 0)) || (decide ((checkE (joinD a b k)) = 51))) = true → ((decide ((checkE (joinD a b k)) = 0)) || (decide ((checkE (joinD a b k)) = 51))) = true))) (by kernel_rfl) (hold (by first | omega | (simp; omega) | (simp; done) | (intros; simp_all; omega) | (intros; simp_all; done))) ?_
    refine SW_ret ?_
    refine retK_mk (.inl rfl) (al := [(.bool (((decide ((checkE (joinD a b k)) = 0)) || (decide ((checkE (joinD a b k)) = 51))) && (decide (namesF (joinD a b k) = putsL (namesF a) ((namesF b).take i)))))]) (by kernel_rfl) (rl := [(.bool (((decide ((checkE (joinD a b k)) = 0)) || (decide ((checkE (joinD a b k)) = 51))) && (decide (namesF (joinD a b k) = putsL (namesF a) ((namesF b).take i)))))]) (h' := []) (by kernel_rfl) ?_
    exact Same.of_eq (by have h1 := join_check k c1.1 c1.2; simp only [pack]; rw [List.take_of_length_le (by omega), decide_eq_true (join_names a b k)]; rcases h1 with h | h <;> simp [h])
end Sv
end Go.Proofs.YtaegacblpbbndaaDoor
end
section
namespace Go.Proofs.YtaegacblpbbndaaDoor
open Go Go.RowKit
set_option linter.unusedSimpArgs false
set_option linter.unusedVariables false
namespace Sv
def allF (W : World) : Nat → Option Obj := fun b => W.heap[b]?
theorem fro_all (W : World) : Fro (allF W) W := fun _ _ e => e
theorem cell_block {w : World} {b k : Nat} {v : Value} (h : w.cell? ⟨b, k, none⟩ = some v) : ∃ cs e fr, w.heap[b]? = some (.cells cs e fr) ∧ cs[k]? = some v := by
  unfold World.cell? at h
  split at h
  · rename_i c e fr hb
    exact ⟨c, e, fr, hb, by simpa using h⟩
  · cases h
theorem two_nth {α : Type} [Inhabited α] {R : α → List Value → Prop} : ∀ {l : List α} {m : List (List Value)}, Two R l m → ∀ {i}, i < l.length → R (Go.Proofs.YtaegacblpbbndaaDoor.nth l i) (Go.Proofs.YtaegacblpbbndaaDoor.nth m i)
  | [], [], _, i, h => by simp at h
  | _ :: _, [], h, _, _ => h.elim
  | a :: l, b :: m, h, 0, _ => h.1
  | a :: l, b :: m, h, i + 1, hi => two_nth (l := l) (m := m) h.2 (by simpa using hi)
section
variable {H : Type} {enc : TypeId × Value → H} {P : Program} {W : World}
theorem open_listV {α : Type} [Inhabited α] {t e : TypeId} {sz fuel : Nat} {cs : List Value} {y : DataW H × List MemPlace} (ht : P.underlying t = some (.slice e)) (hc : P.cellsOf e = sz) (hsz : 0 < sz) {f : α → AV} {size : α → Nat} (wrap : List Value → Value)
    (hw : ∀ cs', cs'.length = sz → (∀ c ∈ cs', c.oneCell' = true) → (wrap cs').cells.toList = cs')
    (each : ∀ n cs' y, n < fuel → cs'.length = sz → DataW.trod enc P W 0 (fun _ => true) true n e cs' = some y → ∃ x, (VR (ofF (allF W)) (f x) (wrap cs') ∧ ∀ c ∈ cs', c.oneCell' = true) ∧ size x ≤ Rows.uptoBulk y.1) (h : DataW.trod enc P W 0 (fun _ => true) true fuel t cs = some y) :
    ∃ (v : Value) (l : List α), cs = [v] ∧ VR (ofF (allF W)) (rowOf sz f l) v ∧ (l.map size).sum + 1 ≤ Rows.uptoBulk y.1 := by
  obtain ⟨v, l, css, rfl, hr, h2, h4, h5⟩ := open_list (Q := fun x cs' => VR (ofF (allF W)) (f x) (wrap cs') ∧ ∀ c ∈ cs', c.oneCell' = true) ht hc hsz each h
  refine ⟨v, l, rfl, ?_, h5⟩
  have hshape : v = .slice none 0 0 ∨ ∃ a n c, v = .slice (some a) n c ∧ n ≤ c := by
    rcases DataW.trod_slice ht h with ⟨e, _⟩ | ⟨a, len, cap, _, _, _, _, e, _, _, hle, _⟩
    · left; simpa using e
    · right; exact ⟨a, len, cap, by simpa using e, hle⟩
  unfold rowOf
  simp only [VR]
  have hlen := h2.len
  refine ⟨fun i => wrap (nth css i), fun i hi => (two_nth h2 hi).1, ?_⟩
  rcases hr.2 with ⟨h0, a, c, rfl⟩ | ⟨b, o, c, rfl, hcell⟩
  · refine .inl ⟨h0, ?_⟩
    rcases hshape with e | ⟨a', n, c', e, _⟩
    · exact .inl e
    · cases e; exact .inr ⟨a', c, rfl⟩
  · have hnc : l.length ≤ c := by
      rcases hshape with e | ⟨a', n, c', e, hle⟩
      · cases e
      · cases e; exact hle
    refine .inr ⟨b, o, c, rfl, hnc, fun i hi => ?_⟩
    have hmem : nth css i ∈ css := nth_mem (by omega)
    have hwr := hw _ (h4 _ hmem) (two_nth h2 hi).2
    have hat : ∀ j, j < sz → css.flatten[i * sz + j]? = (nth css i)[j]? := fun j hj => flat_at (sz := sz) css i j h4 (by omega) hj
    refine ⟨by rw [← Array.length_toList, hwr]; exact h4 _ hmem, ?_⟩
    rw [hwr]
    have hl := h4 _ hmem
    obtain ⟨cs0, e0, fr0, k1, _⟩ := cell_block (hcell (i * sz + 0) _ ((hat 0 hsz).trans (List.getElem?_eq_getElem (show 0 < (nth css i).length by omega))))
    refine ⟨cs0, e0, fr0, k1, fun j u hu => ?_⟩
    have hj : j < sz := by have := (List.getElem?_eq_some_iff.1 hu).1; omega
    obtain ⟨cs1, e1, fr1, k2, k3⟩ := cell_block (hcell (i * sz + j) u ((hat j hj).trans hu))
    rw [k1] at k2; cases k2
    exact ⟨by rw [Nat.add_assoc]; exact k3, (two_nth h2 hi).2 u (List.mem_of_getElem? hu)⟩
set_option maxRecDepth 100000 in
theorem open_depVF : ∀ (fuel : Nat) (cs : List Value) (x : DataW H × List MemPlace), DataW.trod enc Tryd.prog W 0 (fun _ => true) true fuel 25 cs = some x → ∃ d : DepT, (VR (ofF (allF W)) (depX d) (.agg cs.toArray) ∧ ∀ c ∈ cs, c.oneCell' = true) ∧ d.size ≤ Rows.uptoBulk x.1 := by
  intro fuel
  induction fuel using Nat.strongRecOn with
  | ind fuel ih =>
  intro cs x h
  obtain ⟨xs, n, hf, rfl, hl, hxs, hfs⟩ := DataW.trod_struct Tryd.underlying25 h
  have hl' : cs.length = 5 := hl.trans (by kernel_rfl)
  match cs, hl' with
  | [c0, c1, c2, c3, c4], _ =>
  match xs, hxs with
  | [y0, y1, y2, y3, y4], _ =>
  have g0 : DataW.trod enc Tryd.prog W 0 (fun _ => true) true n 3 (([c0, c1, c2, c3, c4].drop 0).take (Tryd.prog.cellsOf 3)) = some y0 := hfs 0 _ rfl
  have g1 : DataW.trod enc Tryd.prog W 0 (fun _ => true) true n 9 (([c0, c1, c2, c3, c4].drop 1).take (Tryd.prog.cellsOf 9)) = some y1 := hfs 1 _ rfl
  have g2 : DataW.trod enc Tryd.prog W 0 (fun _ => true) true n 3 (([c0, c1, c2, c3, c4].drop 2).take (Tryd.prog.cellsOf 3)) = some y2 := hfs 2 _ rfl
  have g3 : DataW.trod enc Tryd.prog W 0 (fun _ => true) true n 9 (([c0, c1, c2, c3, c4].drop 3).take (Tryd.prog.cellsOf 9)) = some y3 := hfs 3 _ rfl
  have g4 : DataW.trod enc Tryd.prog W 0 (fun _ => true) true n 23 (([c0, c1, c2, c3, c4].drop 4).take (Tryd.prog.cellsOf 23)) = some y4 := hfs 4 _ rfl
  have k1 : Tryd.prog.cellsOf 3 = 1 := by kernel_rfl
  have k2 : Tryd.prog.cellsOf 9 = 1 := by kernel_rfl
  have k3 : Tryd.prog.cellsOf 23 = 1 := by kernel_rfl
  have k4 : Tryd.prog.cellsOf 25 = 5 := by kernel_rfl
  rw [k1] at g0 g2; rw [k2] at g1 g3; rw [k3] at g4
  simp only [List.drop_zero, List.drop_succ_cons, List.take_succ_cons, List.take_zero] at g0 g1 g2 g3 g4
  obtain ⟨k, e0, rfl, _⟩ := DataW.trod_int Tryd.underlying3 g0
  obtain ⟨nm, e1, rfl, _⟩ := DataW.trod_string Tryd.underlying9 g1
  obtain ⟨op, e2, rfl, _⟩ := DataW.trod_int Tryd.underlying3 g2
  obtain ⟨ev, e3, rfl, _⟩ := DataW.trod_string Tryd.underlying9 g3
  obtain ⟨v, l, e4, hr, hb⟩ := open_listV (f := depX) (size := DepT.size) Tryd.underlying23 k4 (by omega) (fun cs => .agg cs.toArray) (fun cs' _ _ => by simp [Value.cells]) (fun n' cs' y hn _ hy => ih n' (by omega) cs' y hy) g4
  have hsl : v.oneCell' = true := by
    have hr' := hr
    unfold rowOf at hr'
    simp only [VR] at hr'
    obtain ⟨u, _, h0 | ⟨b, o, c, rfl, _⟩⟩ := hr'
    · rcases h0 with ⟨_, rfl | ⟨a, c, rfl⟩⟩ <;> rfl
    · rfl
  simp only [List.cons.injEq, and_true] at e0 e1 e2 e3 e4
  subst e0 e1 e2 e3 e4
  refine ⟨.mk k nm.data.toList op ev.data.toList l, ⟨?_, ?_⟩, ?_⟩
  · refine depX_shut _ _ _ ?_
    simp only [VR]
    refine ⟨_, .cons (by simp only [VR]; rfl) (.cons (by simp only [VR]; exact S_of nm) (.cons (by simp only [VR]; rfl) (.cons (by simp only [VR]; exact S_of ev) (.cons hr .nil)))), rfl⟩
  · intro c hc
    simp only [List.mem_cons, List.not_mem_nil, or_false] at hc
    rcases hc with rfl | rfl | rfl | rfl | rfl
    · rfl
    · rfl
    · rfl
    · rfl
    · exact hsl
  · rw [argsSize_sum] at hb
    simp only [DepT.size, List.map_cons, List.map_nil, Rows.uptoBulk, Rows.uptoBulkAll]
    omega
set_option maxRecDepth 100000 in
theorem open_depV {r : Reach} {b0 : Nat} {v : Value} {d : DataW H} {p : List MemPlace} (hv : Value.okWide Tryd.prog W r b0 25 v) (h : DataW.Trod enc Tryd.prog W 0 (fun _ => true) true 25 v d p) :
    ∃ t : DepT, VR (ofF (allF W)) (depX t) v ∧ t.size ≤ Rows.uptoBulk d := by
  obtain ⟨cs, rfl, _⟩ := Go.WideShapes.okWide_struct Tryd.underlying25 hv
  obtain ⟨fuel, hf⟩ := h
  obtain ⟨t, h1, h2⟩ := open_depVF fuel _ _ hf
  exact ⟨t, by have := h1.1; simpa [Value.cells] using this, h2⟩
end
theorem FnV.calls {P : Program} {f : Nat} {al : List AV} {W : World} {vs : List Value} (h : FnV P f al (.bool true)) (hv : VRl (ofF (allF W)) al vs) : Calls P f vs.toArray W (Ret fun v w' => v = .bool true ∧ Below W.heap.size W w') :=
  (h (allF W) W vs (fro_all W) hv).mono fun e w' hh => by
    obtain ⟨v, he, hb, F', _, _, _, k⟩ := hh
    simp only [VR] at k
    exact ⟨v, he, k, hb⟩
end Sv
end Go.Proofs.YtaegacblpbbndaaDoor
end
