/- The texts S35, S36, S37, S38, DepV, NamV, Evr1, CmpV, EvrV, EvrW, PkgV, FormV, Pool1, RuneV, NextV, OneV, ParseL of the proof, joined. Each says at its theorems what it proves. -/
import Derived.Test.YtlfjokcbkopfeaaGreatDoorJ1
set_option linter.unusedSimpArgs false
set_option linter.unusedVariables false
section
namespace Go.Proofs.YtlfjokcbkopfeaaGreatDoor
open Go Go.RowKit
set_option linter.unusedSimpArgs false
set_option linter.unusedVariables false
namespace Sv
structure Hint where
  i : Nat
  f : Nat
  al : List AV
  r : AV
  c : Bool
  q : Bool
def HOk (P : Program) : List Hint → Prop
  | [] => True
  | h :: l => (h.q = true → Enters P h.f ∧ FnV P h.f h.al h.r) ∧ HOk P l
theorem hk0 {P : Program} : HOk P [] := trivial
theorem hk {P : Program} (i : Nat) {f : Nat} {al : List AV} {r : AV} {l : List Hint} (he : Enters P f) (hf : FnV P f al r) (h : HOk P l) : HOk P (⟨i, f, al, r, false, true⟩ :: l) := ⟨fun _ => ⟨he, hf⟩, h⟩
theorem hkg {P : Program} (i : Nat) (q : Bool) {f : Nat} {al : List AV} {r : AV} {l : List Hint} (he : Enters P f) (hf : q = true → FnV P f al r) (h : HOk P l) : HOk P (⟨i, f, al, r, true, q⟩ :: l) := ⟨fun k => ⟨he, hf k⟩, h⟩
noncomputable def findH : List Hint → Nat → Option Hint
  | [], _ => none
  | h :: l, i => bif Nat.beq h.i i then some h else findH l i
theorem findH_ok {P : Program} : ∀ {l : List Hint} {i : Nat} {h : Hint}, HOk P l → findH l i = some h → h.q = true → Enters P h.f ∧ FnV P h.f h.al h.r
  | [], _, _, _, e, _ => by cases e
  | a :: l, i, h, k, e, q => by
    unfold findH at e
    cases hb : Nat.beq a.i i with
    | true => rw [hb] at e; cases e; exact k.1 q
    | false => rw [hb] at e; exact findH_ok k.2 e q
def COk : List (Nat × Prop) → Prop
  | [] => True
  | c :: l => c.2 ∧ COk l
theorem c0 : COk [] := trivial
theorem cc (i : Nat) {p : Prop} {l : List (Nat × Prop)} (h : p) (k : COk l) : COk ((i, p) :: l) := ⟨h, k⟩
noncomputable def findC : List (Nat × Prop) → Nat → Prop
  | [], _ => True
  | c :: l, i => bif Nat.beq c.1 i then c.2 else findC l i
theorem findC_ok : ∀ {l : List (Nat × Prop)} (i : Nat), COk l → findC l i
  | [], _, _ => trivial
  | c :: l, i, k => by
    unfold findC
    cases hb : Nat.beq c.1 i with
    | true => exact k.1
    | false => exact findC_ok i k.2
structure Conv where
  i : Nat
  t : Nat
  a : AV
  b : AV
def VOk : List Conv → Prop
  | [] => True
  | v :: l => Imp v.a v.b ∧ VOk l
theorem v0 : VOk [] := trivial
theorem vk (i t : Nat) {a b : AV} {l : List Conv} (h : Imp a b) (k : VOk l) : VOk (⟨i, t, a, b⟩ :: l) := ⟨h, k⟩
noncomputable def askC (i : Nat) : Option Prop → List (Nat × Prop) → List (Nat × Prop)
  | none, l => l
  | some p, l => (i, p) :: l
noncomputable def impC (q : Bool) : Option Prop → Option Prop
  | none => none
  | some p => some (q = true → p)
noncomputable def callH (n : Nat) (ops : Array Oper) (h : Hint) (o : Oper) (x : St) : Option (St × Option Prop × List AV × Bool) := match o.op with
  | .call { callee := .value (.func f), args := ar, argTypes := _ } => bif Nat.beq f h.f then
      (bif h.c then (match guardB ops x.s o.guard with
        | some q => match evsA (strip ar.toList (evA x.s)) ar.toList with
          | some al => bif frzl al then (match putF n o.dst (.cond q h.r) x.s with
            | some s' => some (⟨s', x.h, x.nx⟩, impC q (needs (evA x.s) ar.toList), al, q)
            | none => none) else none
          | none => none
        | none => none)
      else bif guardS ops x.s o.guard then (match evsA (evA x.s) ar.toList with
          | some al => bif frzl al then (match putF n o.dst h.r x.s with
            | some s' => some (⟨s', x.h, x.nx⟩, none, al, true)
            | none => none) else none
          | none => none) else none) else none
  | _ => none
noncomputable def convH (i : Nat) : List Conv → St → Option (St × List AV)
  | [], x => some (x, [])
  | v :: l, x => bif Nat.beq v.i i then (match look v.t x.s with
      | some a => match convH i l ⟨setL v.t v.b x.s, x.h, x.nx⟩ with
        | some (y, m) => some (y, a :: m)
        | none => none
      | none => none) else convH i l x
noncomputable def convA (i : Nat) : List Conv → List AV
  | [] => []
  | v :: l => bif Nat.beq v.i i then v.a :: convA i l else convA i l
noncomputable def stillH (P : Program) (i : Nat) : List (Nat × Nat) → St → Option St
  | [], x => some x
  | t :: l, x => bif Nat.beq t.1 i then (match stillS P t.2 x with
      | some y => stillH P i l y
      | none => none) else stillH P i l x
noncomputable def stepH (P : Program) (n : Nat) (ops : Array Oper) (lz : List Nat) (H : List Hint) (i : Nat) (o : Oper) (x : St) : Option (St × Option Prop × Option (List AV × Bool)) := match findH H i with
  | none => match stepS P n ops lz o x with
    | some (y, C) => some (y, C, none)
    | none => none
  | some h => match callH n ops h o x with
    | some (y, C, A) => some (y, C, some A)
    | none => none
noncomputable def askA (i : Nat) (A : Option (List AV × Bool)) (l : List (Nat × List AV × Bool)) : List (Nat × List AV × Bool) := match A with
  | none => l
  | some a => (i, a) :: l
noncomputable def hintA (H : List Hint) (i : Nat) : List AV × Bool := match findH H i with
  | some h => (h.al, h.q)
  | none => ([], false)
section
variable {P : Program} {B : Bas} {w : World} {F F0 : Cx} {n : Nat} {φ : Phi} {σ : Nat → Value} {K : Exit → St → Prop} {KK : St → Prop} {x y : St} {E : Bool} {ops : Array Oper} {fuel : Nat} {listed : Array Bool} {H : List Hint} {lz : List Nat} {i : Nat} {o : Oper} {C : Option Prop} {A : Option (List AV × Bool)}
theorem callH_inv {h : Hint} {al : List AV} {q : Bool} (hc : callH n ops h o x = some (y, C, al, q)) : ∃ dst ty ps af g ar ts s', o = ⟨dst, .call { callee := .value (.func h.f), args := ar, argTypes := ts }, ty, ps, af, g⟩ ∧ frzl al = true ∧ y = ⟨s', x.h, x.nx⟩ ∧
    ((guardB ops x.s g = some q ∧ evsA (strip ar.toList (evA x.s)) ar.toList = some al ∧ putF n dst (.cond q h.r) x.s = some s' ∧ C = impC q (needs (evA x.s) ar.toList)) ∨
    (guardS ops x.s g = true ∧ evsA (evA x.s) ar.toList = some al ∧ putF n dst h.r x.s = some s' ∧ q = true)) := by
  obtain ⟨dst, op, ty, ps, af, g⟩ := o
  unfold callH at hc
  split at hc
  · rename_i f ar ts hop
    simp only at hop hc
    subst hop
    cases hb : Nat.beq f h.f with
    | false => rw [hb] at hc; cases hc
    | true =>
      have hf := Nat.eq_of_beq_eq_true hb
      rw [hb, cond_true] at hc
      cases hcc : h.c with
      | true =>
        rw [hcc, cond_true] at hc
        split at hc
        · rename_i q' hg
          split at hc
          · rename_i al' hal
            cases hz : frzl al' with
            | false => rw [hz] at hc; cases hc
            | true =>
              rw [hz, cond_true] at hc
              split at hc
              · rename_i s' hp
                simp only [Option.some.injEq, Prod.mk.injEq] at hc
                obtain ⟨rfl, rfl, rfl, rfl⟩ := hc
                exact ⟨_, _, _, _, _, _, _, _, by rw [hf], hz, rfl, .inl ⟨hg, hal, hp, rfl⟩⟩
              · cases hc
          · cases hc
        · cases hc
      | false =>
        rw [hcc, cond_false] at hc
        cases hg : guardS ops x.s g with
        | false => rw [hg] at hc; cases hc
        | true =>
          rw [hg, cond_true] at hc
          split at hc
          · rename_i al' hal
            cases hz : frzl al' with
            | false => rw [hz] at hc; cases hc
            | true =>
              rw [hz, cond_true] at hc
              split at hc
              · rename_i s' hp
                simp only [Option.some.injEq, Prod.mk.injEq] at hc
                obtain ⟨rfl, rfl, rfl, rfl⟩ := hc
                exact ⟨_, _, _, _, _, _, _, _, by rw [hf], hz, rfl, .inr ⟨hg, hal, hp, rfl⟩⟩
              · cases hc
          · cases hc
  · cases hc
theorem holds_imp {q : Bool} {c : Option Prop} (h : holds (impC q c)) (k : q = true) : holds c := by
  cases c with
  | none => trivial
  | some p => exact h k
theorem SO_passg {rest : List Oper} {dst : Option Tmp} {op : Op} {ty : TypeId} {ps : String} {af : Array Edge} {g : Option (Nat × Bool)} {r : AV} {s' : Fr} (hg : guardB ops x.s g = some false) (hp : putF n dst (.cond false r) x.s = some s') (next : SO P n ops rest B F K ⟨s', x.h, x.nx⟩) : SO P n ops (⟨dst, op, ty, ps, af, g⟩ :: rest) B F K x := by
  unfold SO at next ⊢
  intro φ σ w hx
  exact WO_pass (guardB_ok hx.fr hg) (next φ _ w ⟨hx.fr.put hp V_condF, hx.rel, hx.dom, hx.old, hx.new, hx.base⟩)
theorem stepH_SO {rest : List Oper} (hc : stepH P n ops lz H i o x = some (y, C, A)) (hC : holds C) (hH : HOk P H) (hA : ∀ a, A = some a → a = hintA H i) (next : SO P n ops rest B F K y) : SO P n ops (o :: rest) B F K x := by
  unfold stepH at hc
  split at hc
  · split at hc
    · rename_i z D hz
      cases hc
      intro φ σ w hx
      exact stepS_ok hx hz hC fun φ' σ' w' hh e => next φ' σ' w' hh
    · cases hc
  · rename_i h hh
    split at hc
    · rename_i z D a hz
      cases hc
      obtain ⟨al, q⟩ := a
      have ha := hA _ rfl
      unfold hintA at ha
      rw [hh] at ha
      simp only [Prod.mk.injEq] at ha
      have hok := findH_ok hH hh
      rw [← ha.1, ← ha.2] at hok
      obtain ⟨dst, ty, ps, af, g, ar, ts, s', rfl, hf, rfl, ⟨h1, h2, h3, rfl⟩ | ⟨h1, h2, h3, rfl⟩⟩ := callH_inv hz
      · cases q with
        | true => exact SO_callg h1 (hok rfl).1 h2 (holds_imp hC) hf (fun _ => (hok rfl).2) h3 next
        | false => exact SO_passg h1 h3 next
      · exact SO_call h1 (hok rfl).1 h2 hf (hok rfl).2 h3 next
    · cases hc
theorem SN_passg (i : Nat) {dst : Option Tmp} {op : Op} {ty : TypeId} {ps : String} {af : Array Edge} {g : Option (Nat × Bool)} {r : AV} {s' : Fr} (hi : ops[i]? = some ⟨dst, op, ty, ps, af, g⟩) (hg : guardB ops x.s g = some false) (hp : putF n dst (.cond false r) x.s = some s')
    (next : SG P n ops B F KK F0 false fuel (listed.setIfInBounds i true) ⟨s', x.h, x.nx⟩) : SN P n ops B F KK F0 E fuel listed i x := by
  intro φ σ w hx hE
  refine ⟨_, hi, ?_⟩
  unfold SG at next
  have hh' : Holds B F0 n ⟨s', x.h, x.nx⟩ φ (updo σ dst undef) w := ⟨hx.fr.put hp V_condF, hx.rel, hx.dom, hx.old, hx.new, hx.base⟩
  exact WO_pass (guardB_ok hx.fr hg) (WO_nil ⟨rfl, hh'.hold, next _ _ _ hh' (fun q => by cases q)⟩)
theorem stepH_SN (hi : ops[i]? = some o) (hc : stepH P n ops lz H i o x = some (y, C, A)) (hC : holds C) (hH : HOk P H) (hA : ∀ a, A = some a → a = hintA H i) (next : SG P n ops B F KK F0 (E && A.isNone) fuel (listed.setIfInBounds i true) y) : SN P n ops B F KK F0 E fuel listed i x := by
  unfold stepH at hc
  split at hc
  · split at hc
    · rename_i z D hz
      cases hc
      rw [show (E && (none : Option (List AV × Bool)).isNone) = E by simp] at next
      exact SN_only i lz hi hz hC next
    · cases hc
  · rename_i h hh
    split at hc
    · rename_i z D a hz
      cases hc
      rw [show (E && (some a).isNone) = false by simp] at next
      obtain ⟨al, q⟩ := a
      have ha := hA _ rfl
      unfold hintA at ha
      rw [hh] at ha
      simp only [Prod.mk.injEq] at ha
      have hok := findH_ok hH hh
      rw [← ha.1, ← ha.2] at hok
      obtain ⟨dst, ty, ps, af, g, ar, ts, s', rfl, hf, rfl, ⟨h1, h2, h3, rfl⟩ | ⟨h1, h2, h3, rfl⟩⟩ := callH_inv hz
      · cases q with
        | true => exact SN_callg i hi h1 (hok rfl).1 h2 (holds_imp hC) hf (fun _ => (hok rfl).2) h3 next
        | false => exact SN_passg i hi h1 h3 next
      · exact SN_call i hi h1 (hok rfl).1 h2 hf (hok rfl).2 h3 next
    · cases hc
noncomputable def runH (P : Program) (n : Nat) (ops : Array Oper) (lz : List Nat) (H : List Hint) (V : List Conv) (T : List (Nat × Nat)) : Nat → List Oper → St → Option (St × List (Nat × Prop) × List (Nat × List AV × Bool) × List (Nat × List AV))
  | _, [], x => some (x, [], [], [])
  | i, o :: l, x => match stillH P i T x with
    | some x0 => match convH i V x0 with
      | some (x1, m) => match stepH P n ops lz H i o x1 with
        | some (y, C, A) => match runH P n ops lz H V T (i + 1) l y with
          | some (z, cs, ms, vs) => some (z, askC i C cs, askA i A ms, (i, m) :: vs)
          | none => none
        | none => none
      | none => none
    | none => none
def Fits (H : List Hint) (V : List Conv) (CS : List (Nat × Prop)) (cs : List (Nat × Prop)) (ms : List (Nat × List AV × Bool)) (vs : List (Nat × List AV)) : Prop :=
  (∀ c ∈ cs, c.2 = findC CS c.1) ∧ (∀ a ∈ ms, a.2 = hintA H a.1) ∧ ∀ v ∈ vs, v.2 = convA v.1 V
theorem stillH_SO {j : Nat} {l : List Oper} : ∀ {T : List (Nat × Nat)} {x y : St}, stillH P j T x = some y → SO P n ops l B F K y → SO P n ops l B F K x
  | [], x, y, h, k => by cases h; exact k
  | t :: r, x, y, h, k => by
    unfold stillH at h
    cases hb : Nat.beq t.1 j with
    | false => rw [hb, cond_false] at h; exact stillH_SO h k
    | true =>
      rw [hb, cond_true] at h
      split at h
      · rename_i z hz; exact SO_still _ hz (stillH_SO h k)
      · cases h
theorem convH_SO {j : Nat} {l : List Oper} : ∀ {V : List Conv} {x y : St} {m : List AV}, VOk V → convH j V x = some (y, m) → m = convA j V → SO P n ops l B F K y → SO P n ops l B F K x
  | [], x, y, m, _, h, _, k => by cases h; exact k
  | v :: r, x, y, m, hV, h, hm, k => by
    unfold convH at h
    unfold convA at hm
    cases hb : Nat.beq v.i j with
    | false => rw [hb, cond_false] at h hm; exact convH_SO hV.2 h hm k
    | true =>
      rw [hb, cond_true] at h hm
      split at h
      · rename_i a ha
        split at h
        · rename_i z m' hz
          cases h
          simp only [List.cons.injEq] at hm
          exact SO_conv _ _ ha (by rw [hm.1]; exact hV.1) (convH_SO hV.2 hz hm.2 k)
        · cases h
      · cases h
theorem runH_SO {V : List Conv} {T : List (Nat × Nat)} {CS : List (Nat × Prop)} (hH : HOk P H) (hV : VOk V) (hCS : COk CS) : ∀ {l rest : List Oper} {i : Nat} {x y : St} {cs : List (Nat × Prop)} {ms : List (Nat × List AV × Bool)} {vs : List (Nat × List AV)},
    runH P n ops lz H V T i l x = some (y, cs, ms, vs) → Fits H V CS cs ms vs → SO P n ops rest B F K y → SO P n ops (l ++ rest) B F K x
  | [], rest, i, x, y, cs, ms, vs, h, _, k => by cases h; exact k
  | o :: l, rest, i, x, y, cs, ms, vs, h, hf, k => by
    unfold runH at h
    split at h
    · rename_i x0 h0
      split at h
      · rename_i x1 m h1
        split at h
        · rename_i z C A hz
          split at h
          · rename_i u cs' ms' vs' hr
            simp only [Option.some.injEq, Prod.mk.injEq] at h
            obtain ⟨rfl, rfl, rfl, rfl⟩ := h
            obtain ⟨f1, f2, f3⟩ := hf
            have hC : holds C := by
              cases C with
              | none => trivial
              | some p =>
                have e : p = findC CS i := f1 (i, p) (by simp [askC])
                show p
                rw [e]; exact findC_ok i hCS
            have hA : ∀ a, A = some a → a = hintA H i := by
              rintro a rfl
              exact f2 (i, a) (by simp [askA])
            have f' : Fits H V CS cs' ms' vs' := by
              refine ⟨fun c hc => f1 c ?_, fun a ha => f2 a ?_, fun v hv => f3 v (by simp [hv])⟩
              · cases C <;> simp [askC, hc]
              · cases A <;> simp [askA, ha]
            exact stillH_SO h0 (convH_SO hV h1 (f3 (i, m) (by simp)) (stepH_SO hz hC hH hA (runH_SO hH hV hCS hr f' k)))
          · cases h
        · cases h
      · cases h
    · cases h
noncomputable def cutO (ts : List Nat) (r : Option (St × List (Nat × Prop) × List (Nat × List AV × Bool) × List (Nat × List AV))) : Option (St × List (Nat × Prop) × List (Nat × List AV × Bool) × List (Nat × List AV)) := match r with
  | some (y, q) => match selS ts y.s with
    | some s => some (⟨s, y.h, y.nx⟩, q)
    | none => none
  | none => none
noncomputable def stO (r : Option (St × List (Nat × Prop) × List (Nat × List AV × Bool) × List (Nat × List AV))) : St := match r with
  | some (y, _) => y
  | none => ⟨[], [], 0⟩
noncomputable def toldO (H : List Hint) (V : List Conv) (CS : List (Nat × Prop)) (r : Option (St × List (Nat × Prop) × List (Nat × List AV × Bool) × List (Nat × List AV))) : Option (List (Nat × Prop) × List (Nat × List AV × Bool) × List (Nat × List AV)) := match r with
  | some (_, cs, ms, vs) => some (cs.map fun c => (c.1, findC CS c.1), ms.map fun a => (a.1, hintA H a.1), vs.map fun v => (v.1, convA v.1 V))
  | none => some ([], [(0, [], true)], [])
noncomputable def askO (r : Option (St × List (Nat × Prop) × List (Nat × List AV × Bool) × List (Nat × List AV))) : Option (List (Nat × Prop) × List (Nat × List AV × Bool) × List (Nat × List AV)) := match r with
  | some (_, q) => some q
  | none => none
theorem map_fits {α β : Type} {l : List (α × β)} {f : α → β} (h : l = l.map fun c => (c.1, f c.1)) : ∀ c ∈ l, c.2 = f c.1 := by
  intro c hc
  rw [h] at hc
  obtain ⟨d, _, rfl⟩ := List.mem_map.1 hc
  rfl
theorem told_fits {V : List Conv} {CS : List (Nat × Prop)} {r : Option (St × List (Nat × Prop) × List (Nat × List AV × Bool) × List (Nat × List AV))} (h : askO r = toldO H V CS r) : ∃ y cs ms vs, r = some (y, cs, ms, vs) ∧ Fits H V CS cs ms vs := by
  cases r with
  | none => cases h
  | some q =>
    obtain ⟨y, cs, ms, vs⟩ := q
    simp only [askO, toldO, Option.some.injEq, Prod.mk.injEq] at h
    exact ⟨y, cs, ms, vs, rfl, map_fits (f := findC CS) h.1, map_fits (f := hintA H) h.2.1, map_fits (f := fun j => convA j V) h.2.2⟩
theorem SO_H {V : List Conv} {CS : List (Nat × Prop)} {l : List Oper} (k i : Nat) (lz ts : List Nat) (T : List (Nat × Nat)) (hH : HOk P H) (hV : VOk V) (hCS : COk CS) (next : SO P n ops (l.drop k) B F K (stO (cutO ts (runH P n ops lz H V T i (l.take k) x))))
    (h : askO (cutO ts (runH P n ops lz H V T i (l.take k) x)) = toldO H V CS (cutO ts (runH P n ops lz H V T i (l.take k) x)) := by kernel_rfl) : SO P n ops l B F K x := by
  obtain ⟨y, cs, ms, vs, hr, hf⟩ := told_fits h
  rw [hr] at next
  unfold cutO at hr
  split at hr
  · rename_i z q hz
    split at hr
    · rename_i s hs
      simp only [Option.some.injEq, Prod.mk.injEq] at hr
      obtain ⟨rfl, rfl⟩ := hr
      have := runH_SO (rest := l.drop k) hH hV hCS hz hf (fun φ σ w hx => next φ σ w (hx.sel hs))
      rwa [List.take_append_drop] at this
    · cases hr
  · cases hr
theorem SO_HA {V : List Conv} {CS : List (Nat × Prop)} {l : List Oper} (i : Nat) (lz ts : List Nat) (T : List (Nat × Nat)) (hH : HOk P H) (hV : VOk V) (hCS : COk CS) (next : K .normal (stO (cutO ts (runH P n ops lz H V T i l x))))
    (h : askO (cutO ts (runH P n ops lz H V T i l x)) = toldO H V CS (cutO ts (runH P n ops lz H V T i l x)) := by kernel_rfl) : SO P n ops l B F K x := by
  refine SO_H l.length i lz ts T hH hV hCS ?_ ?_
  · rw [List.take_length, List.drop_length]; exact SO_nil next
  · rw [List.take_length]; exact h
theorem SO_P {l : List Oper} (lz ts : List Nat) (next : K .normal (stO (cutO ts (runH P n ops lz [] [] [] 0 l x)))) (h : askO (cutO ts (runH P n ops lz [] [] [] 0 l x)) = toldO [] [] [] (cutO ts (runH P n ops lz [] [] [] 0 l x)) := by kernel_rfl) : SO P n ops l B F K x := SO_HA 0 lz ts [] hk0 v0 c0 next h
theorem SW_H {V : List Conv} {CS : List (Nat × Prop)} {id : Nat} {l : List Oper} {d : Code} (lz ts : List Nat) (T : List (Nat × Nat)) (hH : HOk P H) (hV : VOk V) (hCS : COk CS) (next : SW P n d B F K (stO (cutO ts (runH P n l.toArray lz H V T 0 l x))))
    (h : askO (cutO ts (runH P n l.toArray lz H V T 0 l x)) = toldO H V CS (cutO ts (runH P n l.toArray lz H V T 0 l x)) := by kernel_rfl) : SW P n (.seq (.region id l.toArray false) d) B F K x := SW_seq (SW_reg (SO_HA 0 lz ts T hH hV hCS next h))
theorem SW_P {id : Nat} {l : List Oper} {d : Code} (lz ts : List Nat) (next : SW P n d B F K (stO (cutO ts (runH P n l.toArray lz [] [] [] 0 l x)))) (h : askO (cutO ts (runH P n l.toArray lz [] [] [] 0 l x)) = toldO [] [] [] (cutO ts (runH P n l.toArray lz [] [] [] 0 l x)) := by kernel_rfl) :
    SW P n (.seq (.region id l.toArray false) d) B F K x := SW_H lz ts [] hk0 v0 c0 next h
end
end Sv
end Go.Proofs.YtlfjokcbkopfeaaGreatDoor
end
section
namespace Go.Proofs.YtlfjokcbkopfeaaGreatDoor
open Go Go.RowKit
set_option linter.unusedSimpArgs false
set_option linter.unusedVariables false
namespace Sv
abbrev OrdR := List St × List (Nat × Prop) × List (Nat × List AV × Bool) × List (Nat × List AV)
noncomputable def noT (i : Nat) : List (Nat × Nat) → Bool
  | [] => true
  | t :: l => !Nat.beq t.1 i && noT i l
noncomputable def callK : Op → Bool
  | .call { callee := .value _, args := _, argTypes := _ } => true
  | _ => false
noncomputable def firstF (P : Program) (E : Bool) (n : Nat) (ops : Array Oper) (lz : List Nat) (V : List Conv) (T : List (Nat × Nat)) (listed : Array Bool) (x : St) : List Nat → Option (Nat × List AV × St × Option Prop)
  | [] => none
  | i :: l => bif Region.free .any ops listed i && noT i T then (match ops[i]? with
    | some o => bif callK o.op then firstF P E n ops lz V T listed x l else (match convH i V x with
      | some (x1, m) => match stepF P E n ops lz o x1 with
        | some (y, C) => some (i, m, y, C)
        | none => firstF P E n ops lz V T listed x l
      | none => firstF P E n ops lz V T listed x l)
    | none => firstF P E n ops lz V T listed x l) else firstF P E n ops lz V T listed x l
noncomputable def eachS (f : Nat → Option OrdR) : List Nat → Option OrdR
  | [] => some ([], [], [], [])
  | i :: l => match f i with
    | some (a, b, c, d) => match eachS f l with
      | some (a', b', c', d') => some (a ++ a', b ++ b', c ++ c', d ++ d')
      | none => none
    | none => none
noncomputable def ordS (P : Program) (n : Nat) (ops : Array Oper) (lz ts : List Nat) (H : List Hint) (V : List Conv) (T : List (Nat × Nat)) : Nat → Bool → Array Bool → St → Option OrdR
  | 0, E, listed, x => match Region.ready .any ops listed with
    | [] => match selS ts x.s with
      | some s => some ([⟨s, x.h, x.nx⟩], [], [], [])
      | none => none
    | _ :: _ => none
  | fuel + 1, E, listed, x => match Region.ready .any ops listed with
    | [] => match selS ts x.s with
      | some s => some ([⟨s, x.h, x.nx⟩], [], [], [])
      | none => none
    | a :: l => match firstF P E n ops lz V T listed x (a :: l) with
      | some (i, m, y, C) => match ordS P n ops lz ts H V T fuel E (listed.setIfInBounds i true) y with
        | some (fs, cs, ms, vs) => some (fs, askC i C cs, ms, (i, m) :: vs)
        | none => none
      | none => eachS (fun i => match ops[i]? with
        | some o => match stillH P i T x with
          | some x0 => match convH i V x0 with
            | some (x1, m) => match stepH P n ops lz H i o x1 with
              | some (y, C, A) => match ordS P n ops lz ts H V T fuel (E && noT i T && A.isNone) (listed.setIfInBounds i true) y with
                | some (fs, cs, ms, vs) => some (fs, askC i C cs, askA i A ms, (i, m) :: vs)
                | none => none
              | none => none
            | none => none
          | none => none
        | none => none) (a :: l)
section
variable {P : Program} {B : Bas} {w : World} {F F0 : Cx} {n : Nat} {φ : Phi} {σ : Nat → Value} {K : Exit → St → Prop} {KK : St → Prop} {x y : St} {E : Bool} {ops : Array Oper} {fuel : Nat} {listed : Array Bool} {H : List Hint} {V : List Conv} {T : List (Nat × Nat)} {CS : List (Nat × Prop)} {lz ts : List Nat} {i : Nat} {o : Oper} {C : Option Prop} {A : Option (List AV × Bool)}
theorem stillH_none {j : Nat} : ∀ {T : List (Nat × Nat)} {x y : St}, stillH P j T x = some y → noT j T = true → y = x
  | [], x, y, h, _ => by cases h; rfl
  | t :: r, x, y, h, k => by
    unfold noT at k
    simp only [Bool.and_eq_true, Bool.not_eq_true'] at k
    unfold stillH at h
    rw [k.1, cond_false] at h
    exact stillH_none h k.2
theorem stillH_ok {j : Nat} : ∀ {T : List (Nat × Nat)} {x y : St} {φ : Phi}, stillH P j T x = some y → Holds B F n x φ σ w → ∃ φ', Holds B F n y φ' σ w
  | [], x, y, φ, h, hx => by cases h; exact ⟨φ, hx⟩
  | t :: l, x, y, φ, h, hx => by
    unfold stillH at h
    cases hb : Nat.beq t.1 j with
    | false => rw [hb, cond_false] at h; exact stillH_ok h hx
    | true =>
      rw [hb, cond_true] at h
      split at h
      · rename_i z hz
        obtain ⟨φ', h'⟩ := hx.still hz
        exact stillH_ok h h'
      · cases h
theorem convH_ok {j : Nat} : ∀ {V : List Conv} {x y : St} {m : List AV}, VOk V → convH j V x = some (y, m) → m = convA j V → Holds B F n x φ σ w → Holds B F n y φ σ w
  | [], x, y, m, _, h, _, hx => by cases h; exact hx
  | v :: l, x, y, m, hV, h, hm, hx => by
    unfold convH at h
    unfold convA at hm
    cases hb : Nat.beq v.i j with
    | false => rw [hb, cond_false] at h hm; exact convH_ok hV.2 h hm hx
    | true =>
      rw [hb, cond_true] at h hm
      split at h
      · rename_i a ha
        split at h
        · rename_i z m' hz
          cases h
          simp only [List.cons.injEq] at hm
          exact convH_ok hV.2 hz hm.2 (hx.conv ha (by rw [hm.1]; exact hV.1))
        · cases h
      · cases h
theorem firstF_ok : ∀ {l : List Nat} {i : Nat} {m : List AV} {y : St} {C : Option Prop}, firstF P E n ops lz V T listed x l = some (i, m, y, C) → i ∈ l ∧ Region.free .any ops listed i = true ∧ ∃ o x1, ops[i]? = some o ∧ convH i V x = some (x1, m) ∧ stepF P E n ops lz o x1 = some (y, C)
  | [], i, m, y, C, h => by cases h
  | a :: l, i, m, y, C, h => by
    have more : firstF P E n ops lz V T listed x l = some (i, m, y, C) → i ∈ a :: l ∧ Region.free .any ops listed i = true ∧ ∃ o x1, ops[i]? = some o ∧ convH i V x = some (x1, m) ∧ stepF P E n ops lz o x1 = some (y, C) := fun k => by
      obtain ⟨k1, k2⟩ := firstF_ok k; exact ⟨List.mem_cons_of_mem _ k1, k2⟩
    unfold firstF at h
    cases hb : Region.free .any ops listed a && noT a T with
    | false => rw [hb, cond_false] at h; exact more h
    | true =>
      rw [hb, cond_true] at h
      simp only [Bool.and_eq_true] at hb
      split at h
      · rename_i o ho
        cases hk : callK o.op with
        | true => rw [hk, cond_true] at h; exact more h
        | false =>
          rw [hk, cond_false] at h
          split at h
          · rename_i x1 m1 hx1
            split at h
            · rename_i y1 C1 hy1
              simp only [Option.some.injEq, Prod.mk.injEq] at h
              obtain ⟨rfl, rfl, rfl, rfl⟩ := h
              exact ⟨List.mem_cons_self, hb.1, o, x1, ho, hx1, hy1⟩
            · exact more h
          · exact more h
      · exact more h
theorem eachS_ok {f : Nat → Option OrdR} : ∀ {l : List Nat} {a : List St} {b : List (Nat × Prop)} {c : List (Nat × List AV × Bool)} {d : List (Nat × List AV)}, eachS f l = some (a, b, c, d) →
    ∀ i ∈ l, ∃ a' b' c' d', f i = some (a', b', c', d') ∧ (∀ y ∈ a', y ∈ a) ∧ (∀ y ∈ b', y ∈ b) ∧ (∀ y ∈ c', y ∈ c) ∧ ∀ y ∈ d', y ∈ d
  | [], a, b, c, d, h, i, hi => by cases hi
  | j :: l, a, b, c, d, h, i, hi => by
    unfold eachS at h
    split at h
    · rename_i a1 b1 c1 d1 h1
      split at h
      · rename_i a2 b2 c2 d2 h2
        simp only [Option.some.injEq, Prod.mk.injEq] at h
        obtain ⟨rfl, rfl, rfl, rfl⟩ := h
        rcases List.mem_cons.1 hi with rfl | hi
        · exact ⟨a1, b1, c1, d1, h1, fun y hy => List.mem_append_left _ hy, fun y hy => List.mem_append_left _ hy, fun y hy => List.mem_append_left _ hy, fun y hy => List.mem_append_left _ hy⟩
        · obtain ⟨a', b', c', d', k1, k2, k3, k4, k5⟩ := eachS_ok h2 i hi
          exact ⟨a', b', c', d', k1, fun y hy => List.mem_append_right _ (k2 y hy), fun y hy => List.mem_append_right _ (k3 y hy), fun y hy => List.mem_append_right _ (k4 y hy), fun y hy => List.mem_append_right _ (k5 y hy)⟩
      · cases h
    · cases h
theorem SG_each {l : List Nat} (hr : Region.ready .any ops listed = l) (hl : l ≠ []) (h : ∀ i ∈ l, SN P n ops B F KK F0 E fuel listed i x) : SG P n ops B F KK F0 E (fuel + 1) listed x := by
  unfold SG
  intro φ σ w hx hE
  exact WG_each hr hl fun k hk => h k hk φ σ w hx hE
theorem SG_convH {m : List AV} (hV : VOk V) (h : convH i V x = some (y, m)) (hm : m = convA i V) (k : SG P n ops B F KK F0 E fuel listed y) : SG P n ops B F KK F0 E fuel listed x := by
  unfold SG at k ⊢
  exact fun φ σ w hx hE => k φ σ w (convH_ok hV h hm hx) hE
theorem SN_convH {m : List AV} {j : Nat} (hV : VOk V) (h : convH j V x = some (y, m)) (hm : m = convA j V) (k : SN P n ops B F KK F0 E fuel listed i y) : SN P n ops B F KK F0 E fuel listed i x :=
  fun φ σ w hx hE => k φ σ w (convH_ok hV h hm hx) hE
theorem SN_stillH {j : Nat} (h : stillH P j T x = some y) (k : SN P n ops B F KK F0 (E && noT j T) fuel listed i y) : SN P n ops B F KK F0 E fuel listed i x := by
  intro φ σ w hx hE
  cases hn : noT j T with
  | true =>
    have := stillH_none h hn; subst this
    rw [hn, Bool.and_true] at k
    exact k φ σ w hx hE
  | false =>
    rw [hn, Bool.and_false] at k
    obtain ⟨φ', h'⟩ := stillH_ok h hx
    obtain ⟨o, h1, h2⟩ := k φ' σ w h' (fun q => by cases q)
    exact ⟨o, h1, h2⟩
theorem ordS_ok (hs : Region.noSelect ops = true) (hH : HOk P H) (hV : VOk V) (hCS : COk CS) : ∀ {fuel : Nat} {E : Bool} {listed : Array Bool} {x : St} {fs : List St} {cs : List (Nat × Prop)} {ms : List (Nat × List AV × Bool)} {vs : List (Nat × List AV)},
    ordS P n ops lz ts H V T fuel E listed x = some (fs, cs, ms, vs) → Fits H V CS cs ms vs → (∀ y ∈ fs, KK y) → SG P n ops B F KK F0 E fuel listed x := by
  have fin : ∀ {fuel : Nat} {E : Bool} {listed : Array Bool} {x : St} {fs : List St} {cs : List (Nat × Prop)} {ms : List (Nat × List AV × Bool)} {vs : List (Nat × List AV)}, Region.ready .any ops listed = [] →
      (match selS ts x.s with | some s => some (([⟨s, x.h, x.nx⟩], [], [], []) : OrdR) | none => none) = some (fs, cs, ms, vs) → (∀ y ∈ fs, KK y) → SG P n ops B F KK F0 E fuel listed x := by
    intro fuel E listed x fs cs ms vs hr h hk
    split at h
    · rename_i s hsel
      simp only [Option.some.injEq, Prod.mk.injEq] at h
      obtain ⟨rfl, _⟩ := h
      exact SG_sel ts hsel (SG_done hr (hk _ (by simp)))
    · cases h
  intro fuel
  induction fuel with
  | zero =>
    intro E listed x fs cs ms vs h hf hk
    unfold ordS at h
    split at h
    · rename_i hr; exact fin hr h hk
    · cases h
  | succ fuel ih =>
    intro E listed x fs cs ms vs h hf hk
    unfold ordS at h
    split at h
    · rename_i hr; exact fin hr h hk
    · rename_i a l hr
      obtain ⟨f1, f2, f3⟩ := hf
      split at h
      · rename_i i m y C hfi
        split at h
        · rename_i fs' cs' ms' vs' hrec
          simp only [Option.some.injEq, Prod.mk.injEq] at h
          obtain ⟨rfl, rfl, rfl, rfl⟩ := h
          obtain ⟨hi, hfree, o, x1, ho, hx1, hy⟩ := firstF_ok hfi
          have hC : holds C := by
            cases C with
            | none => trivial
            | some p =>
              have e : p = findC CS i := f1 (i, p) (by simp [askC])
              show p
              rw [e]; exact findC_ok i hCS
          have f' : Fits H V CS cs' ms' vs' := by
            refine ⟨fun c hc => f1 c ?_, f2, fun v hv => f3 v (by simp [hv])⟩
            cases C <;> simp [askC, hc]
          exact SG_convH hV hx1 (f3 (i, m) (by simp)) (SG_free i lz ho hs hfree (by rw [hr]; simpa using hi) hy hC (ih hrec f' hk))
        · cases h
      · refine SG_each hr (by simp) fun i hi => ?_
        obtain ⟨fs1, cs1, ms1, vs1, h1, g1, g2, g3, g4⟩ := eachS_ok h i hi
        split at h1
        · rename_i o ho
          split at h1
          · rename_i x0 hx0
            split at h1
            · rename_i x1 m hx1
              split at h1
              · rename_i y C A hy
                split at h1
                · rename_i fs' cs' ms' vs' hrec
                  simp only [Option.some.injEq, Prod.mk.injEq] at h1
                  obtain ⟨rfl, rfl, rfl, rfl⟩ := h1
                  have hC : holds C := by
                    cases C with
                    | none => trivial
                    | some p =>
                      have e : p = findC CS i := f1 (i, p) (g2 _ (by simp [askC]))
                      show p
                      rw [e]; exact findC_ok i hCS
                  have hA : ∀ a, A = some a → a = hintA H i := by
                    rintro a rfl
                    exact f2 (i, a) (g3 _ (by simp [askA]))
                  have f' : Fits H V CS cs' ms' vs' := by
                    refine ⟨fun c hc => f1 c (g2 _ ?_), fun a ha => f2 a (g3 _ ?_), fun v hv => f3 v (g4 _ (by simp [hv]))⟩
                    · cases C <;> simp [askC, hc]
                    · cases A <;> simp [askA, ha]
                  exact SN_stillH hx0 (SN_convH hV hx1 (f3 (i, m) (g4 _ (by simp))) (stepH_SN ho hy hC hH hA (ih hrec f' fun y hy => hk y (g1 y hy))))
                · cases h1
              · cases h1
            · cases h1
          · cases h1
        · cases h1
noncomputable def stD (r : Option OrdR) : St := match r with
  | some (y :: _, _) => y
  | _ => ⟨[], [], 0⟩
noncomputable def toldD (H : List Hint) (V : List Conv) (CS : List (Nat × Prop)) (r : Option OrdR) : Option OrdR := match r with
  | some (fs, cs, ms, vs) => some (fs.map fun _ => stD r, cs.map fun c => (c.1, findC CS c.1), ms.map fun a => (a.1, hintA H a.1), vs.map fun v => (v.1, convA v.1 V))
  | none => some ([], [], [], [])
theorem SW_DA {id : Nat} {l : List Oper} (lz ts : List Nat) (T : List (Nat × Nat)) (hH : HOk P H) (hV : VOk V) (hCS : COk CS) (next : K .normal (stD (ordS P n l.toArray lz ts H V T l.length true (Array.replicate l.length false) x)))
    (hm : P.follows .mixedOrders = true := by kernel_rfl) (hs : Region.noSelect l.toArray = true := by kernel_rfl)
    (h : ordS P n l.toArray lz ts H V T l.length true (Array.replicate l.length false) x = toldD H V CS (ordS P n l.toArray lz ts H V T l.length true (Array.replicate l.length false) x) := by kernel_rfl) : SW P n (.region id l.toArray true) B F K x := by
  refine SW_draw hm fun F0 _ => ?_
  cases hr : ordS P n l.toArray lz ts H V T l.length true (Array.replicate l.length false) x with
  | none => rw [hr] at h; cases h
  | some q =>
    obtain ⟨fs, cs, ms, vs⟩ := q
    rw [hr] at h next
    simp only [toldD, Option.some.injEq, Prod.mk.injEq] at h
    refine ordS_ok hs hH hV hCS hr ⟨map_fits (f := findC CS) h.2.1, map_fits (f := hintA H) h.2.2.1, map_fits (f := fun j => convA j V) h.2.2.2⟩ fun y hy => ?_
    rw [h.1] at hy
    obtain ⟨_, _, rfl⟩ := List.mem_map.1 hy
    exact next
theorem SW_D {id : Nat} {l : List Oper} {d : Code} (lz ts : List Nat) (T : List (Nat × Nat)) (hH : HOk P H) (hV : VOk V) (hCS : COk CS) (next : SW P n d B F K (stD (ordS P n l.toArray lz ts H V T l.length true (Array.replicate l.length false) x)))
    (hm : P.follows .mixedOrders = true := by kernel_rfl) (hs : Region.noSelect l.toArray = true := by kernel_rfl)
    (h : ordS P n l.toArray lz ts H V T l.length true (Array.replicate l.length false) x = toldD H V CS (ordS P n l.toArray lz ts H V T l.length true (Array.replicate l.length false) x) := by kernel_rfl) : SW P n (.seq (.region id l.toArray true) d) B F K x := SW_seq (SW_DA lz ts T hH hV hCS next hm hs h)
noncomputable def gcD (ts : List Nat) (m : Nat) (x : St) : St := match gcS ts m x with
  | some y => y
  | none => ⟨[], [], 0⟩
noncomputable def gcB (ts : List Nat) (m : Nat) (x : St) : Bool := match gcS ts m x with
  | some _ => true
  | none => false
theorem gcB_ok {m : Nat} (h : gcB ts m x = true) : gcS ts m x = some (gcD ts m x) := by
  unfold gcB at h
  unfold gcD
  split at h
  · rename_i y hy; rw [hy]
  · cases h
theorem SW_L {c : Code} (I : Nat → St → Prop) (ts : List Nat) (m g : Nat) (hlo : F.lo ≤ m) (h0 : I g (gcD ts m x)) (round : ∀ g y, I g y → SW P n c B F (seqK (fun z => gcB ts m z = true ∧ ∃ g', g' < g ∧ I g' (gcD ts m z)) K) y) (k : gcB ts m x = true := by kernel_rfl) : SW P n (.loop c) B F K x :=
  SW_loopg I ts m g hlo (gcB_ok k) h0 fun g y hI => SW_mono (round g y hI) fun e z hz => by
    cases e with
    | normal => obtain ⟨h1, g', h2, h3⟩ := hz; exact ⟨_, gcB_ok h1, g', h2, h3⟩
    | _ => exact hz
theorem SW_C {c d : Code} (I : St → Prop) (ts : List Nat) (m : Nat) (hlo : F.lo ≤ m) (h : SW P n c B F (seqK (fun z => gcB ts m z = true ∧ I (gcD ts m z)) K) x) (r : ∀ y, I y → SW P n d B F K y) : SW P n (.seq c d) B F K x :=
  SW_cut (fun z => gcB ts m z = true ∧ I (gcD ts m z)) h fun z hz => SW_gc ts m hlo (gcB_ok hz.1) (r _ hz.2)
theorem RK {rs : List ResultVar} {r : AV} {e : Exit} (he : e = .ret ∨ e = .normal) (rl : List AV) (h3 : Same (pack rl) r)
    (h : (match selR P rs x with | some al => (match frzVl P x.h al with | some q => some q.1 | none => none) | none => none) = some rl := by kernel_rfl) : retK P rs r e x := by
  split at h
  · rename_i al ha
    split at h
    · rename_i q hq
      obtain ⟨rl', h'⟩ := q
      cases h
      exact retK_mk he ha hq h3
    · cases h
  · cases h
end
theorem ndOk {q : Bool} {c : Option Prop} (p : Option Prop) (h : c = p) (k : q = true → holds p) : q = true → holds c := by subst h; exact k
noncomputable def rowG : AV → Nat → AV
  | .row _ _ g => g
  | _ => fun _ => junk
theorem wR : Exit.ret = .ret ∨ Exit.ret = .normal := .inl rfl
end Sv
end Go.Proofs.YtlfjokcbkopfeaaGreatDoor
end
section
namespace Go.Proofs.YtlfjokcbkopfeaaGreatDoor
open Go Go.RowKit
set_option linter.unusedSimpArgs false
set_option linter.unusedVariables false
namespace Sv
noncomputable def stepI (P : Program) (n : Nat) (ops : Array Oper) (lz : List Nat) (i : Nat) (x : St) : Option (St × Option Prop) := match ops[i]? with
  | some o => stepS P n ops lz o x
  | none => none
noncomputable def stR (r : Option (St × Option Prop)) : St := match r with
  | some (y, _) => y
  | none => ⟨[], [], 0⟩
noncomputable def conR (r : Option (St × Option Prop)) : Option Prop := match r with
  | some (_, C) => C
  | none => some False
noncomputable def stL (r : Option (St × Option Prop × Array Bool)) : St := match r with
  | some (y, _) => y
  | none => ⟨[], [], 0⟩
noncomputable def conL (r : Option (St × Option Prop × Array Bool)) : Option Prop := match r with
  | some (_, C, _) => C
  | none => some False
noncomputable def lsL (r : Option (St × Option Prop × Array Bool)) : Array Bool := match r with
  | some (_, _, L) => L
  | none => #[]
noncomputable def selD (ts : List Nat) (s : Fr) : Fr := match selS ts s with
  | some r => r
  | none => []
noncomputable def selB (ts : List Nat) (s : Fr) : Bool := match selS ts s with
  | some _ => true
  | none => false
noncomputable def lsD (n : Nat) (l : List Nat) : Array Bool := l.foldl (fun a i => a.setIfInBounds i true) (Array.replicate n false)
section
variable {P : Program} {B : Bas} {w : World} {F F0 : Cx} {n : Nat} {KK : St → Prop} {x : St} {E : Bool} {ops : Array Oper} {fuel fuel' : Nat} {listed : Array Bool} {C : Option Prop}
theorem stepI_some {lz : List Nat} {i : Nat} (h : conR (stepI P n ops lz i x) = C) (hC : holds C) : ∃ o, ops[i]? = some o ∧ stepS P n ops lz o x = some (stR (stepI P n ops lz i x), C) := by
  unfold stepI at h ⊢
  split at h
  · rename_i o ho
    refine ⟨o, ho, ?_⟩
    cases hs : stepS P n ops lz o x with
    | none => rw [hs] at h; subst h; exact hC.elim
    | some q => obtain ⟨y, D⟩ := q; rw [hs] at h; subst h; rfl
  · subst h; exact hC.elim
theorem SN_I (i : Nat) (lz : List Nat) (hC : holds C) (next : SG P n ops B F KK F0 E fuel (listed.setIfInBounds i true) (stR (stepI P n ops lz i x))) (h : conR (stepI P n ops lz i x) = C := by kernel_rfl) : SN P n ops B F KK F0 E fuel listed i x := by
  obtain ⟨o, h1, h2⟩ := stepI_some h hC
  exact SN_only i lz h1 h2 hC next
theorem SG_I (i : Nat) (lz : List Nat) (hC : holds C) (next : SG P n ops B F KK F0 E fuel (listed.setIfInBounds i true) (stR (stepI P n ops lz i x))) (hr : Region.ready .any ops listed = [i] := by kernel_rfl) (h : conR (stepI P n ops lz i x) = C := by kernel_rfl) : SG P n ops B F KK F0 E (fuel + 1) listed x := by
  obtain ⟨o, h1, h2⟩ := stepI_some h hC
  exact SG_only i lz hr h1 h2 hC next
theorem SG_S (ts : List Nat) (next : SG P n ops B F KK F0 E fuel listed ⟨selD ts x.s, x.h, x.nx⟩) (h : selB ts x.s = true := by kernel_rfl) : SG P n ops B F KK F0 E fuel listed x := by
  unfold selB at h
  unfold selD at next
  split at h
  · rename_i r hr
    rw [hr] at next
    exact SG_sel ts hr next
  · cases h
theorem SG_F (lz is ts : List Nat) (hC : holds C) (next : SG P n ops B F KK F0 E fuel (lsL (freesS P E n ops lz is ts listed x)) (stL (freesS P E n ops lz is ts listed x))) (hs : Region.noSelect ops = true := by kernel_rfl) (hf : fuel' = fuel + is.length := by kernel_rfl)
    (h : conL (freesS P E n ops lz is ts listed x) = C := by kernel_rfl) : SG P n ops B F KK F0 E fuel' listed x := by
  cases hq : freesS P E n ops lz is ts listed x with
  | none => rw [hq] at h; subst h; exact hC.elim
  | some q =>
    obtain ⟨y, D, L⟩ := q
    rw [hq] at h next
    subst h
    exact SG_frees is ts hs hq hf hC next
theorem SG_G {E' : Bool} {fuel' : Nat} {listed' : Array Bool} {x' : St} (m : SG P n ops B F KK F0 E' fuel' listed' x') (hE : E' = E := by kernel_rfl) (hf : fuel' = fuel := by kernel_rfl) (hl : listed' = listed := by kernel_rfl) (hx : x' = x := by kernel_rfl) : SG P n ops B F KK F0 E fuel listed x := SG_goto m hE hf hl hx
end
end Sv
end Go.Proofs.YtlfjokcbkopfeaaGreatDoor
end
section
namespace Go.Proofs.YtlfjokcbkopfeaaGreatDoor
open Go Go.RowKit
set_option linter.unusedSimpArgs false
set_option linter.unusedVariables false
namespace Sv
noncomputable def mis : List (AV × AV × Nat) → Option (List (Int × Int))
  | [] => some []
  | (.int .i64 k, .int .i64 a, _) :: r => match mis r with
    | some l => some ((k, a) :: l)
    | none => none
  | _ => none
theorem mis_rows {φ : Phi} : ∀ {es : List (AV × AV × Nat)} {l : List MapEntry} {m : List (Int × Int)}, MR φ es l → mis es = some m → l.map (fun e => (e.key, e.val)) = mrows I64 I64 m
  | [], _, _, h, k => by cases k; simp only [MR] at h; subst h; rfl
  | (a, v, c) :: r, _, _, h, k => by
    simp only [MR] at h
    obtain ⟨e, l', rfl, h1, h2, _, h4⟩ := h
    unfold mis at k
    split at k
    · cases ‹_ = []›
    · rename_i q
      cases q
      split at k
      · rename_i hm
        cases k
        simp only [VR] at h1 h2
        simp only [List.map_cons, mrows, mis_rows h4 hm, h1, h2]
      · cases k
    · cases k
theorem MR.snoc {φ : Phi} {a v : AV} {e : MapEntry} (h1 : VR φ a e.key) (h2 : VR φ v e.val) : ∀ {es : List (AV × AV × Nat)} {l : List MapEntry}, MR φ es l → MR φ (es ++ [(a, v, e.born)]) (l ++ [e])
  | [], _, h => by simp only [MR] at h; subst h; simp only [List.nil_append, MR]; exact ⟨e, [], rfl, h1, h2, rfl, rfl⟩
  | (b, u, c) :: r, _, h => by
    simp only [MR] at h
    obtain ⟨e', l', rfl, k1, k2, k3, k4⟩ := h
    simp only [List.cons_append, MR]
    exact ⟨e', _, rfl, k1, k2, k3, MR.snoc h1 h2 k4⟩
section
variable {P : Program} {B : Bas} {w : World} {F : Cx} {n : Nat} {φ : Phi} {σ : Nat → Value} {K : Exit → St → Prop} {x : St} {ops : Array Oper}
theorem SO_mi {rest : List Oper} {t kt et : TypeId} {X I Y : Operand} {ty : TypeId} {ps : String} {af : Array Edge} {g : Option (Nat × Bool)} {b c : Nat} {es : List (AV × AV × Nat)} {m : List (Int × Int)} {k a : Int}
    (hg : guardS ops x.s g = true) (hX : evA x.s X = some (.map b)) (hI : evA x.s I = some (.int .i64 k)) (hY : evA x.s Y = some (.int .i64 a)) (hb : getH b x.h = some (.map es c)) (hm : mis es = some m) (hn : alook m k = none)
    (ht : P.underlying t = some (.map kt et)) (hk : P.underlying kt = some (.int .i64)) (next : SO P n ops rest B F K ⟨x.s, setH b (.map (es ++ [(.int .i64 k, .int .i64 a, c)]) (c + 1)) x.h, x.nx⟩) : SO P n ops (⟨none, .insert t X I Y, ty, ps, af, g⟩ :: rest) B F K x := by
  intro φ σ w hx
  have v1 := hx.fr.ev _ _ hX
  have v2 := hx.fr.ev _ _ hI
  have v3 := hx.fr.ev _ _ hY
  simp only [VR] at v1 v2 v3
  obtain ⟨x0, κ, e0, v1⟩ := v1
  obtain ⟨x1, κ1, l, h1, h2, h3⟩ := hx.rel.obj b _ hb
  rw [e0] at h1; cases h1
  have he := mis_rows h3 hm
  obtain ⟨r, f1, f2, f3⟩ := run_findKey (key_int hk) k l.toList m he w
  rw [hn] at f2
  have hc := (key_int hk).check false 9999 k w
  have hlt : x0 < w.heap.size := block_lt h2
  cases r with
  | some p => simp at f2
  | none =>
    refine WO_unit (w' := { w with heap := w.heap.setIfInBounds x0 (.map (l.push { key := I64 k, val := I64 a, born := c }) (c + 1)) }) (guardS_ok hx.fr hg) ?_ (next φ _ _ ⟨hx.fr, ?_, hx.dom, hx.old, hx.new, hx.base⟩)
    · have v2' : ev n σ I = I64 k := v2
      have v3' : ev n σ Y = I64 a := v3
      simp [execOp, v1, v2', v3', Instr.mapUpdate, run_underlying ht, getObj, setObj, Sem.run, h2, hc, f1, go_sem]
    · refine hx.rel.set hb rfl rfl e0 rfl rfl rfl (by simp) (fun j hj => by simp [Array.getElem?_setIfInBounds, Ne.symm hj]) ⟨x0, κ, _, e0, (by simp [hlt]; rfl), ?_⟩
      rw [Array.toList_push]
      exact MR.snoc (e := { key := I64 k, val := I64 a, born := c }) (by simp only [VR]) (by simp only [VR]) h3
theorem SO_ml {rest : List Oper} {t kt et : TypeId} {X I : Operand} {dst : Option Tmp} {ty : TypeId} {ps : String} {af : Array Edge} {g : Option (Nat × Bool)} {b c : Nat} {es : List (AV × AV × Nat)} {m : List (Int × Int)} {k r : Int} {s' : Fr}
    (hg : guardS ops x.s g = true) (hX : evA x.s X = some (.map b)) (hI : evA x.s I = some (.int .i64 k)) (hb : getH b x.h = some (.map es c)) (hm : mis es = some m)
    (ht : P.underlying t = some (.map kt et)) (hk : P.underlying kt = some (.int .i64)) (hz : ∀ w, (zeroValue et).run P w = .ok (.int .i64 0) w) (hr : (alook m k).getD 0 = r)
    (hp : putF n dst (.int .i64 r) x.s = some s') (next : SO P n ops rest B F K ⟨s', delH b x.h, x.nx⟩) : SO P n ops (⟨dst, .lookup t X I false, ty, ps, af, g⟩ :: rest) B F K x := by
  intro φ σ w hx
  have v1 := hx.fr.ev _ _ hX
  have v2 := hx.fr.ev _ _ hI
  simp only [VR] at v1 v2
  obtain ⟨x0, κ, e0, v1⟩ := v1
  obtain ⟨x1, κ1, l, h1, h2, h3⟩ := hx.rel.obj b _ hb
  rw [e0] at h1; cases h1
  have he := mis_rows h3 hm
  refine WO_val (guardS_ok hx.fr hg) (R_lookup (enc := I64) (val := I64) (k := k) (m := m) v1 v2 ⟨_, _, h2, he⟩ (key_int hk) ht hz) (next φ _ w ⟨hx.fr.put hp ?_, hx.rel.del b, hx.dom, hx.old, hx.new, hx.base⟩)
  rw [← hr]
  cases alook m k <;> simp [VR, I64]
end
end Sv
end Go.Proofs.YtlfjokcbkopfeaaGreatDoor
end
section
namespace Go.Proofs.YtlfjokcbkopfeaaGreatDoor
open Go Go.RowKit
set_option linter.unusedSimpArgs false
set_option linter.unusedVariables false
def DepT.name : DepT → List UInt8 | .mk _ nm _ _ _ => nm
def DepT.op : DepT → Int | .mk _ _ op _ _ => op
def DepT.evr : DepT → List UInt8 | .mk _ _ _ ev _ => ev
def DepT.args : DepT → List DepT | .mk _ _ _ _ a => a
namespace Sv
mutual
noncomputable def depV : DepT → AV
  | .mk k nm op ev args => .agg [.int .i64 k, .str nm, .int .i64 op, .str ev, .row 5 args.length (depAt args)]
noncomputable def depAt : List DepT → Nat → AV
  | [], _ => junk
  | d :: _, 0 => depV d
  | _ :: r, i + 1 => depAt r i
end
noncomputable def depX (d : DepT) : AV := .agg [.int .i64 d.kind, .str d.name, .int .i64 d.op, .str d.evr, .row 5 d.args.length (depAt d.args)]
theorem depV_eq (d : DepT) : depV d = depX d := by cases d; unfold depV; rfl
theorem depAt_eq : ∀ {l : List DepT} {i : Nat}, i < l.length → depAt l i = depX (nth l i)
  | [], _, h => by simp at h
  | d :: r, 0, _ => by unfold depAt; exact depV_eq d
  | d :: r, i + 1, h => by
    unfold depAt
    exact depAt_eq (l := r) (by simpa using h)
noncomputable abbrev deps (l : List DepT) : AV := rowOf 5 depX l
theorem deps_of (l : List DepT) : Imp (.row 5 l.length (depAt l)) (deps l) := Imp.row fun i hi => Imp.of_eq (depAt_eq hi)
theorem deps_to (l : List DepT) : Imp (deps l) (.row 5 l.length (depAt l)) := Imp.row fun i hi => Imp.of_eq (depAt_eq hi).symm
theorem VRl.of_imp {a b : AV} {l : List AV} (h : Imp a b) : ∀ {p : List AV} {φ : Phi} {vs : List Value}, VRl φ (p ++ a :: l) vs → VRl φ (p ++ b :: l) vs
  | [], φ, vs, k => by
    obtain ⟨v, vs', rfl, h1, h2⟩ := VRl.cons_inv (a := a) (l := l) k
    exact VRl.cons (h φ v h1) h2
  | x :: p, φ, vs, k => by
    obtain ⟨v, vs', rfl, h1, h2⟩ := VRl.cons_inv (a := x) (l := p ++ a :: l) k
    exact VRl.cons h1 (VRl.of_imp h h2)
theorem Imp.agg {a b : AV} {p l : List AV} (h : Imp a b) : Imp (.agg (p ++ a :: l)) (.agg (p ++ b :: l)) := by
  intro φ v k
  simp only [VR] at k ⊢
  obtain ⟨vs, h1, h2⟩ := k; exact ⟨vs, VRl.of_imp h h1, h2⟩
theorem depX_shut (d : DepT) : Imp (.agg [.int .i64 d.kind, .str d.name, .int .i64 d.op, .str d.evr, deps d.args]) (depX d) := Imp.agg (p := [.int .i64 d.kind, .str d.name, .int .i64 d.op, .str d.evr]) (deps_to d.args)
theorem size_nth {d : DepT} {i : Nat} (h : i < d.args.length) : (nth d.args i).size < d.size := by
  cases d with
  | mk k nm op ev args =>
    have := argsSize_nth (l := args) (i := i) h
    show (nth args i).size < (DepT.mk k nm op ev args).size
    simp only [DepT.size]; omega
theorem dep_ind {C : DepT → Prop} (h : ∀ d, (∀ i, i < d.args.length → C (nth d.args i)) → C d) (d : DepT) : C d := by
  have key : ∀ n d, d.size ≤ n → C d := by
    intro n
    induction n with
    | zero => intro d hd; cases d; unfold DepT.size at hd; omega
    | succ n ih => intro d hd; exact h d fun i hi => ih _ (by have := size_nth hi; omega)
  exact key d.size d (Nat.le_refl _)
end Sv
end Go.Proofs.YtlfjokcbkopfeaaGreatDoor
end
section
namespace Go.Proofs.YtlfjokcbkopfeaaGreatDoor
open Go Go.RowKit
namespace Sv
attribute [local irreducible] SW SO holds
set_option maxHeartbeats 400000 in
set_option maxRecDepth 100000 in
theorem indexSV (ls : List (List UInt8)) (s : List UInt8) (hl : ls.length ≤ 4611686018427387904) :
  FnV Tryz.prog 138 [(strs ls), (.str s)] (.int .i64 (zIdx ls s 0)) := by
 refine FnV_intro [.tmp 4] Tryz.func138 rfl Tryz.ntmps138 rfl rfl (fun B F hF => ?_)
 refine SW_P [] [0, 1] ?_
 refine SW_seq ?_
 refine SW_P [] [0, 1, 7, 8] ?_
 refine SW_block ?_
 refine SW_L (fun g y => ∃ (i : Nat), i ≤ ls.length ∧ zIdx ls s 0 = zIdx (ls.drop i) s i ∧ y = ⟨[(0, (strs ls)), (1, (.str s)), (7, (.int .i64 ((ls.length : Int)))), (8, (.int .i64 ((i : Int))))], [], 0⟩ ∧ g = ls.length - i) [0, 1, 7, 8] 0 _ (by omega) ⟨0, (by omega), (by rfl), (by kernel_rfl), rfl⟩ ?_
 rintro g1 y1 ⟨i, f1_1, f1_2, rfl, rfl⟩
 refine SW_P [] [0, 1, 7, 8, 9] ?_
 refine SW_seq ?_
 refine SW_if (p := (i : Int) < (ls.length : Int)) (by kernel_rfl) (fun c1 => ?_) (fun c1 => ?_)
 ·refine SW_skip ?_
  refine SW_seq ?_
  refine SW_block ?_
  refine SW_P [] [0, 1, 5, 7, 8] ?_
  refine SW_H [] [0, 1, 5, 7, 8, 16] [] hk0 v0 (cc 3 (p := (0 ≤ (i : Int) ∧ i < ls.length)) (by first | omega | (simp; omega) | (simp; done) | (intros; simp_all; omega) | (intros; simp_all; done)) <| c0) ?_
  refine SW_if (p := s = nth ls i) (by kernel_rfl) (fun c2 => ?_) (fun c2 => ?_)
  ·refine SW_P [] [4] ?_
   refine SW_ret ?_
   refine RK wR [(.int .i64 ((i : Int)))] ?_
   exact Same.of_eq (by rw [f1_2, zIdx_step s (by omega), if_pos c2]; rfl)
  ·refine SW_skip ?_
   refine SW_reg ?_
   refine SO_HA 0 [] [0, 1, 7, 8] [] hk0 v0 (cc 0 (p := (-9223372036854775808 ≤ (i : Int) + 1 ∧ (i : Int) + 1 ≤ 9223372036854775807)) (by first | omega | (simp; omega) | (simp; done) | (intros; simp_all; omega) | (intros; simp_all; done)) <| c0) ?_
   refine ⟨by kernel_rfl, _, ?_, i + 1, ?_, ?_, (by kernel_rfl), rfl⟩
   ·omega
   ·omega
   ·rw [f1_2, zIdx_step s (by omega), if_neg c2]
 ·refine SW_exit ?_
  refine SW_P [] [4] ?_
  refine SW_ret ?_
  refine RK wR [(.int .i64 (-1))] ?_
  exact Same.of_eq (by rw [f1_2, List.drop_of_length_le (by omega)]; rfl)
set_option maxHeartbeats 400000 in
set_option maxRecDepth 100000 in
theorem containsSV (ls : List (List UInt8)) (s : List UInt8) (hl : ls.length ≤ 4611686018427387904) :
  FnV Tryz.prog 93 [(strs ls), (.str s)] (.bool (decide (0 ≤ zIdx ls s 0))) := by
 refine FnV_intro [.tmp 4] Tryz.func93 rfl Tryz.ntmps93 rfl rfl (fun B F hF => ?_)
 refine SW_P [] [0, 1] ?_
 refine SW_H [] [4] [] (hk 2 en_138 (indexSV ls s hl) <| hk0) v0 c0 ?_
 refine SW_ret ?_
 refine RK wR [(.bool (decide (0 ≤ (zIdx ls s 0))))] ?_
 exact Same.of_eq (by first | rfl | (simp only [pack]; simp_all))
set_option maxHeartbeats 400000 in
set_option maxRecDepth 100000 in
theorem signsV  :
  FnV Tryz.prog 94 [] (strs signsL) := by
 refine FnV_intro [.tmp 0] Tryz.func94 rfl Tryz.ntmps94 rfl rfl (fun B F hF => ?_)
 refine SW_P [] [] ?_
 refine SW_P [] [0] ?_
 refine SW_ret ?_
 refine RK wR [(.row 1 8 (fun ix => (chunk 1 8 [(.str []), (.str ([60])), (.str ([61])), (.str ([60, 61])), (.str ([62])), (.str ([60, 62])), (.str ([62, 61])), (.str ([60, 61, 62]))]).getD ix junk))] ?_
 exact (Imp.list (f := AV.str) (l := signsL) rfl).same
set_option maxHeartbeats 400000 in
set_option maxRecDepth 100000 in
theorem wordsV  :
  FnV Tryz.prog 95 [] (strs wordsL) := by
 refine FnV_intro [.tmp 0] Tryz.func95 rfl Tryz.ntmps95 rfl rfl (fun B F hF => ?_)
 refine SW_P [] [] ?_
 refine SW_P [] [0] ?_
 refine SW_ret ?_
 refine RK wR [(.row 1 7 (fun ix => (chunk 1 7 [(.str []), (.str []), (.str ([97, 110, 100])), (.str ([111, 114])), (.str ([105, 102])), (.str ([119, 105, 116, 104])), (.str ([119, 105, 116, 104, 111, 117, 116]))]).getD ix junk))] ?_
 exact (Imp.list (f := AV.str) (l := wordsL) rfl).same
set_option maxHeartbeats 1000000 in
set_option maxRecDepth 100000 in
theorem NameV (l : List UInt8) (hl : l.length ≤ 9223372036854775807) :
  FnV Tryz.prog 46 [(.str l)] (.bool (nameB l)) := by
 have hp : l = [] ∨ 0 < l.length := by cases l <;> simp
 refine FnV_intro [.tmp 2] Tryz.func46 rfl Tryz.ntmps46 rfl rfl (fun B F hF => ?_)
 refine SW_P [] [0] ?_
 refine SW_seq ?_
 obtain ⟨b1, hb1⟩ : ∃ b, b = (decide (l = [])) := ⟨_, rfl⟩
 obtain ⟨b2, hb2⟩ : ∃ b, b = (b1 || (decide (60 < (l.length : Int)))) := ⟨_, rfl⟩
 obtain ⟨b3, hb3⟩ : ∃ b, b = (b2 || (decide (((byteAt l 0).toNat : Int) = 40))) := ⟨_, rfl⟩
 obtain ⟨b4, hb4⟩ : ∃ b, b = (b3 || (decide (((byteAt l 0).toNat : Int) = 41))) := ⟨_, rfl⟩
 obtain ⟨b5, hb5⟩ : ∃ b, b = (b4 || (decide (l = [101, 108, 115, 101]))) := ⟨_, rfl⟩
 obtain ⟨b6, hb6⟩ : ∃ b, b = (b5 || (decide (0 ≤ zIdx signsL l 0))) := ⟨_, rfl⟩
 have qh1 : (((!b1) = true → (!b1) = true)) ∧ (((!b1) = true → (!b1) = true)) ∧ ((b1 = false → (!b1) = true)) ∧ (((!b2) = true → ((!b2) = true) ∧ (0 ≤ (0 : Int) ∧ 0 < l.length))) ∧ (((!b2) = true → (!b2) = true)) ∧ ((b2 = false → (!b2) = true)) ∧ (((!b3) = true → ((!b3) = true) ∧ (0 ≤ (0 : Int) ∧ 0 < l.length))) ∧ (((!b3) = true → (!b3) = true)) ∧ ((b3 = false → (!b3) = true)) ∧ (((!b4) = true → (!b4) = true)) ∧ ((b4 = false → (!b4) = true)) := by
  rcases hp with hp | hp <;> simp_all
 refine SW_H [9, 10, 11, 14, 15, 16, 19, 20, 21, 24, 25, 29, 34] [0, 36] [] (hkg 22 (!b5) en_94 (fun cg => signsV) <| hkg 24 (!b5) en_93 (fun cg => (containsSV signsL l (by decide))) <| hkg 27 (!b6) en_95 (fun cg => wordsV) <| hkg 29 (!b6) en_93 (fun cg => (containsSV wordsL l (by decide))) <| hk0) (vk 3 8 (a := .bool (decide (l = []))) (b := .bool b1) (Imp.of_eq (by rw [hb1])) <| vk 8 13 (a := .bool (b1 || (decide (60 < (l.length : Int))))) (b := .bool b2) (Imp.of_eq (by rw [hb2])) <| vk 12 17 (a := .bool (b2 || (decide (((byteAt l 0).toNat : Int) = 40)))) (b := .bool b3) (Imp.of_eq (by rw [hb3])) <| vk 17 22 (a := .bool (b3 || (decide (((byteAt l 0).toNat : Int) = 41)))) (b := .bool b4) (Imp.of_eq (by rw [hb4])) <| vk 22 27 (a := .bool (b4 || (decide (l = [101, 108, 115, 101])))) (b := .bool b5) (Imp.of_eq (by rw [hb5])) <| vk 27 32 (a := .bool (b5 || (decide (0 ≤ zIdx signsL l 0)))) (b := .bool b6) (Imp.of_eq (by rw [hb6])) <| v0) (cc 4 (p := ((!b1) = true → (!b1) = true)) qh1.1 <| cc 5 (p := ((!b1) = true → (!b1) = true)) qh1.2.1 <| cc 6 (p := (b1 = false → (!b1) = true)) qh1.2.2.1 <| cc 9 (p := ((!b2) = true → ((!b2) = true) ∧ (0 ≤ (0 : Int) ∧ 0 < l.length))) qh1.2.2.2.1 <| cc 10 (p := ((!b2) = true → (!b2) = true)) qh1.2.2.2.2.1 <| cc 11 (p := (b2 = false → (!b2) = true)) qh1.2.2.2.2.2.1 <| cc 14 (p := ((!b3) = true → ((!b3) = true) ∧ (0 ≤ (0 : Int) ∧ 0 < l.length))) qh1.2.2.2.2.2.2.1 <| cc 15 (p := ((!b3) = true → (!b3) = true)) qh1.2.2.2.2.2.2.2.1 <| cc 16 (p := (b3 = false → (!b3) = true)) qh1.2.2.2.2.2.2.2.2.1 <| cc 19 (p := ((!b4) = true → (!b4) = true)) qh1.2.2.2.2.2.2.2.2.2.1 <| cc 20 (p := (b4 = false → (!b4) = true)) qh1.2.2.2.2.2.2.2.2.2.2 <| cc 24 (p := (!b5) = true → (!b5) = true ∧ (!b5) = true) (by first | omega | (simp; omega) | (simp; done) | (intros; simp_all; omega) | (intros; simp_all; done)) <| cc 25 (p := (b5 = false → (!b5) = true)) (by first | omega | (simp; omega) | (simp; done) | (intros; simp_all; omega) | (intros; simp_all; done)) <| cc 29 (p := (!b6) = true → (!b6) = true ∧ (!b6) = true) (by first | omega | (simp; omega) | (simp; done) | (intros; simp_all; omega) | (intros; simp_all; done)) <| cc 30 (p := (b6 = false → (!b6) = true)) (by first | omega | (simp; omega) | (simp; done) | (intros; simp_all; omega) | (intros; simp_all; done)) <| c0) ?_
 refine SW_cond (q := b6 || (decide (0 ≤ zIdx wordsL l 0))) (by kernel_rfl) (fun c1 => ?_) (fun c1 => ?_)
 ·subst hb6 hb5 hb4 hb3 hb2 hb1
  try simp only [Bool.and_eq_true, Bool.or_eq_true, Bool.and_eq_false_iff, Bool.or_eq_false_iff, Bool.not_eq_true', Bool.not_eq_false', decide_eq_true_eq, decide_eq_false_iff_not] at c1
  refine SW_P [] [2] ?_
  refine SW_ret ?_
  refine RK wR [(.bool false)] ?_
  have h0 : nameHead l = true := by
   unfold nameHead
   rcases c1 with (((((h | h) | h) | h) | h) | h) | h <;> first | (simp [h]; done) | (have h' : 60 < l.length := (by omega); simp [h']; done) | (have h' : (byteAt l 0).toNat = 40 := (by omega); simp [h']; done) | (have h' : (byteAt l 0).toNat = 41 := (by omega); simp [h']; done)
  exact Same.of_eq (by simp only [pack]; rw [nameB, h0]; rfl)
 ·subst hb6 hb5 hb4 hb3 hb2 hb1
  try simp only [Bool.and_eq_true, Bool.or_eq_true, Bool.and_eq_false_iff, Bool.or_eq_false_iff, Bool.not_eq_true', Bool.not_eq_false', decide_eq_true_eq, decide_eq_false_iff_not] at c1
  have hnh : nameHead l = false := by
   unfold nameHead
   simp only [Bool.or_eq_false_iff, decide_eq_false_iff_not]
   exact ⟨c1.1.1.1.1.1.1, by omega, by omega, by omega, c1.1.1.2, c1.1.2, c1.2⟩
  refine SW_skip ?_
  refine SW_P [] [0, 3] ?_
  refine SW_seq ?_
  refine SW_P [] [0, 3, 38, 39] ?_
  refine SW_block ?_
  refine SW_L (fun g y => ∃ (k : Nat) (n : Int), k ≤ l.length ∧ pairs l 0 = pairs (l.drop k) n ∧ (0 ≤ n ∧ n ≤ k) ∧ l.length ≤ 60 ∧ nameHead l = false ∧ y = ⟨[(0, (.str l)), (3, (.int .i64 n)), (38, (.int .i64 ((l.length : Int)))), (39, (.int .i64 ((k : Int))))], [], 0⟩ ∧ g = l.length - k) [0, 3, 38, 39] 0 _ (by omega) ⟨0, 0, (by omega), (by rfl), (by omega), (by exact head_len hnh), (by exact hnh), (by kernel_rfl), rfl⟩ ?_
  rintro g1 y1 ⟨k, n, f1_1, f1_2, f1_3, f1_4, f1_5, rfl, rfl⟩
  refine SW_P [] [0, 3, 38, 39, 40] ?_
  refine SW_seq ?_
  refine SW_if (p := (k : Int) < (l.length : Int)) (by kernel_rfl) (fun c2 => ?_) (fun c2 => ?_)
  ·refine SW_skip ?_
   refine SW_seq ?_
   refine SW_block ?_
   refine SW_P [] [0, 3, 4, 38, 39] ?_
   refine SW_C (fun y => ¬ ((byteAt l k).toNat < 33 ∨ 126 < (byteAt l k).toNat) ∧ y = ⟨[(0, (.str l)), (3, (.int .i64 ((if (byteAt l k).toNat = 40 then n + 1 else if (byteAt l k).toNat = 41 then n - 1 else n)))), (38, (.int .i64 ((l.length : Int)))), (39, (.int .i64 ((k : Int))))], [], 0⟩) [0, 3, 38, 39] 0 (by omega) ?_ ?_
   ·refine SW_H [] [0, 3, 5, 38, 39] [] hk0 v0 (cc 2 (p := (0 ≤ (k : Int) ∧ k < l.length)) (by first | omega | (simp; omega) | (simp; done) | (intros; simp_all; omega) | (intros; simp_all; done)) <| c0) ?_
    refine SW_block ?_
    obtain ⟨b7, hb7⟩ : ∃ b, b = (decide (((byteAt l k).toNat : Int) < 33)) := ⟨_, rfl⟩
    obtain ⟨b8, hb8⟩ : ∃ b, b = (b7 || (decide (126 < ((byteAt l k).toNat : Int)))) := ⟨_, rfl⟩
    refine SW_H (CS := [(4, ((!b7) = true → (!b7) = true)), (5, (b7 = false → (!b7) = true))]) [49, 50] [0, 3, 5, 38, 39, 45] [] hk0 (vk 3 48 (a := .bool (decide (((byteAt l k).toNat : Int) < 33))) (b := .bool b7) (Imp.of_eq (by rw [hb7])) <| vk 6 51 (a := .bool (b7 || (decide (126 < ((byteAt l k).toNat : Int))))) (b := .bool b8) (Imp.of_eq (by rw [hb8])) <| v0) (by refine cc _ ?_ <| cc _ ?_ c0 <;> first | omega | (simp; omega) | (simp; done) | (intros; simp_all; omega) | (intros; simp_all; done)) ?_
    refine SW_cond (q := b8) (by kernel_rfl) (fun c3 => ?_) (fun c3 => ?_)
    ·subst hb8 hb7
     try simp only [Bool.and_eq_true, Bool.or_eq_true, Bool.and_eq_false_iff, Bool.or_eq_false_iff, Bool.not_eq_true', Bool.not_eq_false', decide_eq_true_eq, decide_eq_false_iff_not] at c3
     have hub : (byteAt l k).toNat < 33 ∨ 126 < (byteAt l k).toNat := by omega
     refine SW_P [] [2] ?_
     refine SW_ret ?_
     refine RK wR [(.bool false)] ?_
     exact Same.of_eq (by simp only [pack]; rw [nameB, f1_2, drop_byte (by omega), pairs, if_pos hub]; simp)
    ·subst hb8 hb7
     try simp only [Bool.and_eq_true, Bool.or_eq_true, Bool.and_eq_false_iff, Bool.or_eq_false_iff, Bool.not_eq_true', Bool.not_eq_false', decide_eq_true_eq, decide_eq_false_iff_not] at c3
     have hub : ¬ ((byteAt l k).toNat < 33 ∨ 126 < (byteAt l k).toNat) := by omega
     refine SW_P [] [0, 3, 5, 38, 39, 52] ?_
     refine SW_if (p := ((byteAt l k).toNat : Int) = 40) (by kernel_rfl) (fun c4 => ?_) (fun c4 => ?_)
     ·refine SW_reg ?_
      refine SO_HA 0 [] [0, 3, 38, 39] [] hk0 v0 (cc 1 (p := (-9223372036854775808 ≤ n + 1 ∧ n + 1 ≤ 9223372036854775807)) (by first | omega | (simp; omega) | (simp; done) | (intros; simp_all; omega) | (intros; simp_all; done)) <| c0) ?_
      refine ⟨by kernel_rfl, ?_, (Eq.trans (b := (⟨[(0, (.str l)), (3, (.int .i64 (n + 1))), (38, (.int .i64 ((l.length : Int)))), (39, (.int .i64 ((k : Int))))], [], 0⟩ : St)) (by kernel_rfl) (by rw [show (if (byteAt l k).toNat = 40 then n + 1 else if (byteAt l k).toNat = 41 then n - 1 else n) = n + 1 from by (repeat' split) <;> omega]))⟩
      exact hub
     ·refine SW_P [] [0, 3, 38, 39, 57] ?_
      refine SW_if (p := ((byteAt l k).toNat : Int) = 41) (by kernel_rfl) (fun c5 => ?_) (fun c5 => ?_)
      ·refine SW_reg ?_
       refine SO_HA 0 [] [0, 3, 38, 39] [] hk0 v0 (cc 1 (p := (-9223372036854775808 ≤ n - 1 ∧ n - 1 ≤ 9223372036854775807)) (by first | omega | (simp; omega) | (simp; done) | (intros; simp_all; omega) | (intros; simp_all; done)) <| c0) ?_
       refine ⟨by kernel_rfl, ?_, (Eq.trans (b := (⟨[(0, (.str l)), (3, (.int .i64 (n - 1))), (38, (.int .i64 ((l.length : Int)))), (39, (.int .i64 ((k : Int))))], [], 0⟩ : St)) (by kernel_rfl) (by rw [show (if (byteAt l k).toNat = 40 then n + 1 else if (byteAt l k).toNat = 41 then n - 1 else n) = n - 1 from by (repeat' split) <;> omega]))⟩
       exact hub
      ·refine SW_skip ?_
       refine ⟨by kernel_rfl, ?_, (Eq.trans (b := (⟨[(0, (.str l)), (3, (.int .i64 n)), (38, (.int .i64 ((l.length : Int)))), (39, (.int .i64 ((k : Int))))], [], 0⟩ : St)) (by kernel_rfl) (by rw [show (if (byteAt l k).toNat = 40 then n + 1 else if (byteAt l k).toNat = 41 then n - 1 else n) = n from by (repeat' split) <;> omega]))⟩
       exact hub
   ·rintro y1 ⟨hub, rfl⟩
    refine SW_P [] [0, 3, 38, 39, 63] ?_
    refine SW_if (p := (if (byteAt l k).toNat = 40 then n + 1 else if (byteAt l k).toNat = 41 then n - 1 else n) < 0) (by kernel_rfl) (fun c6 => ?_) (fun c6 => ?_)
    ·refine SW_P [] [2] ?_
     refine SW_ret ?_
     refine RK wR [(.bool false)] ?_
     exact Same.of_eq (by simp only [pack]; rw [nameB, f1_2, pairs_both (by omega) hub]; simp only [if_pos c6]; simp)
    ·refine SW_skip ?_
     refine SW_reg ?_
     refine SO_HA 0 [] [0, 3, 38, 39] [] hk0 v0 (cc 0 (p := (-9223372036854775808 ≤ (k : Int) + 1 ∧ (k : Int) + 1 ≤ 9223372036854775807)) (by first | omega | (simp; omega) | (simp; done) | (intros; simp_all; omega) | (intros; simp_all; done)) <| c0) ?_
     refine ⟨by kernel_rfl, _, ?_, k + 1, (if (byteAt l k).toNat = 40 then n + 1 else if (byteAt l k).toNat = 41 then n - 1 else n), ?_, ?_, ?_, ?_, ?_, (by kernel_rfl), rfl⟩
     ·omega
     ·omega
     ·rw [f1_2, pairs_both (by omega) hub]; simp only [if_neg c6]
     ·constructor <;> ((repeat' split) <;> omega)
     ·exact f1_4
     ·exact f1_5
  ·refine SW_exit ?_
   refine SW_P [] [2] ?_
   refine SW_ret ?_
   refine RK wR [(.bool (decide (n = 0)))] ?_
   exact Same.of_eq (by simp only [pack]; rw [nameB, f1_5, f1_2, List.drop_of_length_le (by omega), pairs]; simp)
set_option maxHeartbeats 400000 in
set_option maxRecDepth 100000 in
theorem wordV (s : List UInt8) :
  FnV Tryz.prog 139 [(.str s)] (.bool (wordB s)) := by
 refine FnV_intro [.tmp 2] Tryz.func139 rfl Tryz.ntmps139 rfl rfl (fun B F hF => ?_)
 refine SW_P [] [0] ?_
 obtain ⟨b1, hb1⟩ : ∃ b, b = (decide (s = [97, 110, 100])) := ⟨_, rfl⟩
 obtain ⟨b2, hb2⟩ : ∃ b, b = (b1 || (decide (s = [111, 114]))) := ⟨_, rfl⟩
 obtain ⟨b3, hb3⟩ : ∃ b, b = (b2 || (decide (s = [105, 102]))) := ⟨_, rfl⟩
 obtain ⟨b4, hb4⟩ : ∃ b, b = (b3 || (decide (s = [101, 108, 115, 101]))) := ⟨_, rfl⟩
 obtain ⟨b5, hb5⟩ : ∃ b, b = (b4 || (decide (s = [119, 105, 116, 104]))) := ⟨_, rfl⟩
 obtain ⟨b6, hb6⟩ : ∃ b, b = (b5 || (decide (s = [119, 105, 116, 104, 111, 117, 116]))) := ⟨_, rfl⟩
 refine SW_H (CS := [(4, ((!b1) = true → (!b1) = true)), (5, (b1 = false → (!b1) = true)), (8, ((!b2) = true → (!b2) = true)), (9, (b2 = false → (!b2) = true)), (12, ((!b3) = true → (!b3) = true)), (13, (b3 = false → (!b3) = true)), (16, ((!b4) = true → (!b4) = true)), (17, (b4 = false → (!b4) = true)), (20, ((!b5) = true → (!b5) = true)), (21, (b5 = false → (!b5) = true))]) [6, 7, 10, 11, 14, 15, 18, 19, 22, 23] [2] [] hk0 (vk 3 5 (a := .bool (decide (s = [97, 110, 100]))) (b := .bool b1) (Imp.of_eq (by rw [hb1])) <| vk 7 9 (a := .bool (b1 || (decide (s = [111, 114])))) (b := .bool b2) (Imp.of_eq (by rw [hb2])) <| vk 11 13 (a := .bool (b2 || (decide (s = [105, 102])))) (b := .bool b3) (Imp.of_eq (by rw [hb3])) <| vk 15 17 (a := .bool (b3 || (decide (s = [101, 108, 115, 101])))) (b := .bool b4) (Imp.of_eq (by rw [hb4])) <| vk 19 21 (a := .bool (b4 || (decide (s = [119, 105, 116, 104])))) (b := .bool b5) (Imp.of_eq (by rw [hb5])) <| vk 22 24 (a := .bool (b5 || (decide (s = [119, 105, 116, 104, 111, 117, 116])))) (b := .bool b6) (Imp.of_eq (by rw [hb6])) <| v0) (by refine cc _ ?_ <| cc _ ?_ <| cc _ ?_ <| cc _ ?_ <| cc _ ?_ <| cc _ ?_ <| cc _ ?_ <| cc _ ?_ <| cc _ ?_ <| cc _ ?_ c0 <;> first | omega | (simp; omega) | (simp; done) | (intros; simp_all; omega) | (intros; simp_all; done)) ?_
 refine SW_ret ?_
 refine RK wR [(.bool b6)] ?_
 subst hb6 hb5 hb4 hb3 hb2 hb1
 exact Same.of_eq (by simp only [pack]; unfold wordB; simp only [Bool.or_assoc])
set_option maxHeartbeats 400000 in
set_option maxRecDepth 100000 in
theorem signV (s : List UInt8) :
  FnV Tryz.prog 140 [(.str s)] (.int .i64 (signN s)) := by
 refine FnV_intro [.tmp 2] Tryz.func140 rfl Tryz.ntmps140 rfl rfl (fun B F hF => ?_)
 refine SW_P [] [0] ?_
 refine SW_seq ?_
 refine SW_P [] [3] ?_
 refine SW_block ?_
 refine SW_P [] [3, 4] ?_
 refine SW_if (p := s = [60]) (by kernel_rfl) (fun c1 => ?_) (fun c1 => ?_)
 ·refine SW_P [] [2] ?_
  refine SW_ret ?_
  refine RK wR [(.int .i64 1)] ?_
  exact Same.of_eq (by simp only [pack]; congr 1; simp [signN, *])
 ·refine SW_P [] [3, 6] ?_
  refine SW_if (p := s = [61]) (by kernel_rfl) (fun c2 => ?_) (fun c2 => ?_)
  ·refine SW_P [] [2] ?_
   refine SW_ret ?_
   refine RK wR [(.int .i64 2)] ?_
   exact Same.of_eq (by simp only [pack]; congr 1; simp [signN, *])
  ·refine SW_P [] [3, 8] ?_
   refine SW_if (p := s = [60, 61]) (by kernel_rfl) (fun c3 => ?_) (fun c3 => ?_)
   ·refine SW_P [] [2] ?_
    refine SW_ret ?_
    refine RK wR [(.int .i64 3)] ?_
    exact Same.of_eq (by simp only [pack]; congr 1; simp [signN, *])
   ·refine SW_P [] [3, 10] ?_
    refine SW_if (p := s = [62]) (by kernel_rfl) (fun c4 => ?_) (fun c4 => ?_)
    ·refine SW_P [] [2] ?_
     refine SW_ret ?_
     refine RK wR [(.int .i64 4)] ?_
     exact Same.of_eq (by simp only [pack]; congr 1; simp [signN, *])
    ·refine SW_P [] [3, 12] ?_
     refine SW_if (p := s = [60, 62]) (by kernel_rfl) (fun c5 => ?_) (fun c5 => ?_)
     ·refine SW_P [] [2] ?_
      refine SW_ret ?_
      refine RK wR [(.int .i64 5)] ?_
      exact Same.of_eq (by simp only [pack]; congr 1; simp [signN, *])
     ·refine SW_P [] [3, 14] ?_
      refine SW_if (p := s = [62, 61]) (by kernel_rfl) (fun c6 => ?_) (fun c6 => ?_)
      ·refine SW_P [] [2] ?_
       refine SW_ret ?_
       refine RK wR [(.int .i64 6)] ?_
       exact Same.of_eq (by simp only [pack]; congr 1; simp [signN, *])
      ·refine SW_P [] [16] ?_
       refine SW_if (p := s = [60, 61, 62]) (by kernel_rfl) (fun c7 => ?_) (fun c7 => ?_)
       ·refine SW_P [] [2] ?_
        refine SW_ret ?_
        refine RK wR [(.int .i64 7)] ?_
        exact Same.of_eq (by simp only [pack]; congr 1; simp [signN, *])
       ·refine SW_skip ?_
        refine SW_P [] [2] ?_
        refine SW_ret ?_
        refine RK wR [(.int .i64 0)] ?_
        exact Same.of_eq (by simp only [pack]; congr 1; simp [signN, *])
set_option maxHeartbeats 1000000 in
set_option maxRecDepth 100000 in
theorem refNameV (l : List UInt8) (hl : l.length ≤ 9223372036854775807) :
  FnV Tryz.prog 91 [(.str l)] (.bool (nameB l)) := by
 have hp : l.length < 1 ∨ 0 < l.length := by omega
 refine FnV_intro [.tmp 2] Tryz.func91 rfl Tryz.ntmps91 rfl rfl (fun B F hF => ?_)
 refine SW_P [] [0] ?_
 refine SW_H [] [0, 3] [] (hk 1 en_139 (wordV l) <| hk0) v0 c0 ?_
 refine SW_seq ?_
 obtain ⟨b1, hb1⟩ : ∃ b, b = (decide ((l.length : Int) < 1)) := ⟨_, rfl⟩
 obtain ⟨b2, hb2⟩ : ∃ b, b = (b1 || (decide (60 < (l.length : Int)))) := ⟨_, rfl⟩
 obtain ⟨b3, hb3⟩ : ∃ b, b = (b2 || (decide (((byteAt l 0).toNat : Int) = 40))) := ⟨_, rfl⟩
 obtain ⟨b4, hb4⟩ : ∃ b, b = (b3 || (decide (((byteAt l 0).toNat : Int) = 41))) := ⟨_, rfl⟩
 obtain ⟨b5, hb5⟩ : ∃ b, b = (b4 || (wordB l)) := ⟨_, rfl⟩
 have qh1 : (((!b1) = true → (!b1) = true)) ∧ (((!b1) = true → (!b1) = true)) ∧ ((b1 = false → (!b1) = true)) ∧ (((!b2) = true → ((!b2) = true) ∧ (0 ≤ (0 : Int) ∧ 0 < l.length))) ∧ (((!b2) = true → (!b2) = true)) ∧ ((b2 = false → (!b2) = true)) ∧ (((!b3) = true → ((!b3) = true) ∧ (0 ≤ (0 : Int) ∧ 0 < l.length))) ∧ (((!b3) = true → (!b3) = true)) ∧ ((b3 = false → (!b3) = true)) ∧ ((b4 = false → (!b4) = true)) := by
  rcases hp with hp | hp <;> simp_all
 refine SW_H [12, 13, 14, 17, 18, 19, 22, 23, 24, 27, 30, 32] [0, 33] [] (hkg 23 (!b5) en_140 (fun cg => signV l) <| hk0) (vk 4 11 (a := .bool (decide ((l.length : Int) < 1))) (b := .bool b1) (Imp.of_eq (by rw [hb1])) <| vk 9 16 (a := .bool (b1 || (decide (60 < (l.length : Int))))) (b := .bool b2) (Imp.of_eq (by rw [hb2])) <| vk 13 20 (a := .bool (b2 || (decide (((byteAt l 0).toNat : Int) = 40)))) (b := .bool b3) (Imp.of_eq (by rw [hb3])) <| vk 18 25 (a := .bool (b3 || (decide (((byteAt l 0).toNat : Int) = 41)))) (b := .bool b4) (Imp.of_eq (by rw [hb4])) <| vk 22 29 (a := .bool (b4 || (wordB l))) (b := .bool b5) (Imp.of_eq (by rw [hb5])) <| v0) (cc 5 (p := ((!b1) = true → (!b1) = true)) qh1.1 <| cc 6 (p := ((!b1) = true → (!b1) = true)) qh1.2.1 <| cc 7 (p := (b1 = false → (!b1) = true)) qh1.2.2.1 <| cc 10 (p := ((!b2) = true → ((!b2) = true) ∧ (0 ≤ (0 : Int) ∧ 0 < l.length))) qh1.2.2.2.1 <| cc 11 (p := ((!b2) = true → (!b2) = true)) qh1.2.2.2.2.1 <| cc 12 (p := (b2 = false → (!b2) = true)) qh1.2.2.2.2.2.1 <| cc 15 (p := ((!b3) = true → ((!b3) = true) ∧ (0 ≤ (0 : Int) ∧ 0 < l.length))) qh1.2.2.2.2.2.2.1 <| cc 16 (p := ((!b3) = true → (!b3) = true)) qh1.2.2.2.2.2.2.2.1 <| cc 17 (p := (b3 = false → (!b3) = true)) qh1.2.2.2.2.2.2.2.2.1 <| cc 20 (p := (b4 = false → (!b4) = true)) qh1.2.2.2.2.2.2.2.2.2 <| cc 23 (p := (!b5) = true → (!b5) = true) (by first | omega | (simp; omega) | (simp; done) | (intros; simp_all; omega) | (intros; simp_all; done)) <| cc 24 (p := ((!b5) = true → (!b5) = true)) (by first | omega | (simp; omega) | (simp; done) | (intros; simp_all; omega) | (intros; simp_all; done)) <| cc 25 (p := (b5 = false → (!b5) = true)) (by first | omega | (simp; omega) | (simp; done) | (intros; simp_all; omega) | (intros; simp_all; done)) <| c0) ?_
 refine SW_cond (q := b5 || (!decide ((signN l) = 0))) (by kernel_rfl) (fun c1 => ?_) (fun c1 => ?_)
 ·subst hb5 hb4 hb3 hb2 hb1
  try simp only [Bool.and_eq_true, Bool.or_eq_true, Bool.and_eq_false_iff, Bool.or_eq_false_iff, Bool.not_eq_true', Bool.not_eq_false', decide_eq_true_eq, decide_eq_false_iff_not] at c1
  refine SW_P [] [2] ?_
  refine SW_ret ?_
  refine RK wR [(.bool false)] ?_
  have h0 : nameHead l = true := by
   rw [← refHead_eq]
   unfold refHead
   rcases c1 with ((((h | h) | h) | h) | h) | h <;> first | (simp [h]; done) | (have h' : l.length < 1 := (by omega); simp [h']; done) | (have h' : 60 < l.length := (by omega); simp [h']; done) | (have h' : (byteAt l 0).toNat = 40 := (by omega); simp [h']; done) | (have h' : (byteAt l 0).toNat = 41 := (by omega); simp [h']; done) | (have h' : ¬ signN l = 0 := (by omega); simp [h']; done)
  exact Same.of_eq (by simp only [pack]; rw [nameB, h0]; rfl)
 ·subst hb5 hb4 hb3 hb2 hb1
  try simp only [Bool.and_eq_true, Bool.or_eq_true, Bool.and_eq_false_iff, Bool.or_eq_false_iff, Bool.not_eq_true', Bool.not_eq_false', decide_eq_true_eq, decide_eq_false_iff_not] at c1
  have hnh : nameHead l = false := by
   rw [← refHead_eq]
   unfold refHead
   simp only [Bool.or_eq_false_iff, decide_eq_false_iff_not]
   exact ⟨by omega, by omega, by omega, by omega, c1.1.2, by omega⟩
  refine SW_skip ?_
  refine SW_P [] [0, 4] ?_
  refine SW_seq ?_
  refine SW_P [] [0, 4, 5] ?_
  refine SW_block ?_
  refine SW_L (fun g y => ∃ (k : Nat) (n : Int), k ≤ l.length ∧ pairs l 0 = pairs (l.drop k) n ∧ (0 ≤ n ∧ n ≤ k) ∧ l.length ≤ 60 ∧ nameHead l = false ∧ y = ⟨[(0, (.str l)), (4, (.int .i64 n)), (5, (.int .i64 ((k : Int))))], [], 0⟩ ∧ g = l.length - k) [0, 4, 5] 0 _ (by omega) ⟨0, 0, (by omega), (by rfl), (by omega), (by exact head_len hnh), (by exact hnh), (by kernel_rfl), rfl⟩ ?_
  rintro g1 y1 ⟨k, n, f1_1, f1_2, f1_3, f1_4, f1_5, rfl, rfl⟩
  refine SW_seq ?_
  refine SW_P [] [0, 4, 5, 37] ?_
  refine SW_if (p := (k : Int) < (l.length : Int)) (by kernel_rfl) (fun c2 => ?_) (fun c2 => ?_)
  ·refine SW_skip ?_
   refine SW_seq ?_
   refine SW_block ?_
   refine SW_seq ?_
   obtain ⟨b6, hb6⟩ : ∃ b, b = (decide (((byteAt l k).toNat : Int) < 33)) := ⟨_, rfl⟩
   refine SW_H (CS := [(2, (0 ≤ (k : Int) ∧ k < l.length)), (7, ((!b6) = true → ((!b6) = true ∧ (!b6) = true) ∧ (0 ≤ (k : Int) ∧ k < l.length))), (8, ((!b6) = true → (!b6) = true)), (9, (b6 = false → (!b6) = true))]) [45, 46, 47, 48] [0, 4, 5, 49] [] hk0 (vk 5 44 (a := .bool (decide (((byteAt l k).toNat : Int) < 33))) (b := .bool b6) (Imp.of_eq (by rw [hb6])) <| v0) (by refine cc _ ?_ <| cc _ ?_ <| cc _ ?_ <| cc _ ?_ c0 <;> first | omega | (simp; omega) | (simp; done) | (intros; simp_all; omega) | (intros; simp_all; done)) ?_
   refine SW_cond (q := b6 || (decide (126 < ((byteAt l k).toNat : Int)))) (by kernel_rfl) (fun c3 => ?_) (fun c3 => ?_)
   ·subst hb6
    try simp only [Bool.and_eq_true, Bool.or_eq_true, Bool.and_eq_false_iff, Bool.or_eq_false_iff, Bool.not_eq_true', Bool.not_eq_false', decide_eq_true_eq, decide_eq_false_iff_not] at c3
    have hub : (byteAt l k).toNat < 33 ∨ 126 < (byteAt l k).toNat := by omega
    refine SW_P [] [2] ?_
    refine SW_ret ?_
    refine RK wR [(.bool false)] ?_
    exact Same.of_eq (by simp only [pack]; rw [nameB, f1_2, drop_byte (by omega), pairs, if_pos hub]; simp)
   ·subst hb6
    try simp only [Bool.and_eq_true, Bool.or_eq_true, Bool.and_eq_false_iff, Bool.or_eq_false_iff, Bool.not_eq_true', Bool.not_eq_false', decide_eq_true_eq, decide_eq_false_iff_not] at c3
    have hub : ¬ ((byteAt l k).toNat < 33 ∨ 126 < (byteAt l k).toNat) := by omega
    refine SW_skip ?_
    refine SW_C (fun y => y = ⟨[(0, (.str l)), (4, (.int .i64 ((if (byteAt l k).toNat = 40 then n + 1 else n)))), (5, (.int .i64 ((k : Int))))], [], 0⟩) [0, 4, 5] 0 (by omega) ?_ ?_
    ·refine SW_H [] [0, 4, 5, 53] [] hk0 v0 (cc 2 (p := (0 ≤ (k : Int) ∧ k < l.length)) (by first | omega | (simp; omega) | (simp; done) | (intros; simp_all; omega) | (intros; simp_all; done)) <| c0) ?_
     refine SW_if (p := ((byteAt l k).toNat : Int) = 40) (by kernel_rfl) (fun c4 => ?_) (fun c4 => ?_)
     ·refine SW_reg ?_
      refine SO_HA 0 [] [0, 4, 5] [] hk0 v0 (cc 1 (p := (-9223372036854775808 ≤ n + 1 ∧ n + 1 ≤ 9223372036854775807)) (by first | omega | (simp; omega) | (simp; done) | (intros; simp_all; omega) | (intros; simp_all; done)) <| c0) ?_
      refine ⟨by kernel_rfl, (Eq.trans (b := (⟨[(0, (.str l)), (4, (.int .i64 (n + 1))), (5, (.int .i64 ((k : Int))))], [], 0⟩ : St)) (by kernel_rfl) (by rw [show (if (byteAt l k).toNat = 40 then n + 1 else n) = n + 1 from if_pos (by omega)]))⟩
     ·refine SW_skip ?_
      refine ⟨by kernel_rfl, (Eq.trans (b := (⟨[(0, (.str l)), (4, (.int .i64 n)), (5, (.int .i64 ((k : Int))))], [], 0⟩ : St)) (by kernel_rfl) (by rw [show (if (byteAt l k).toNat = 40 then n + 1 else n) = n from if_neg (by omega)]))⟩
    ·rintro y1 rfl
     refine SW_C (fun y => y = ⟨[(0, (.str l)), (4, (.int .i64 ((if (byteAt l k).toNat = 40 then n + 1 else if (byteAt l k).toNat = 41 then n - 1 else n)))), (5, (.int .i64 ((k : Int))))], [], 0⟩) [0, 4, 5] 0 (by omega) ?_ ?_
     ·refine SW_H [] [0, 4, 5, 59] [] hk0 v0 (cc 2 (p := (0 ≤ (k : Int) ∧ k < l.length)) (by first | omega | (simp; omega) | (simp; done) | (intros; simp_all; omega) | (intros; simp_all; done)) <| c0) ?_
      refine SW_if (p := ((byteAt l k).toNat : Int) = 41) (by kernel_rfl) (fun c5 => ?_) (fun c5 => ?_)
      ·refine SW_reg ?_
       refine SO_HA 0 [] [0, 4, 5] [] hk0 v0 (cc 1 (p := (-9223372036854775808 ≤ (if (byteAt l k).toNat = 40 then n + 1 else n) - 1 ∧ (if (byteAt l k).toNat = 40 then n + 1 else n) - 1 ≤ 9223372036854775807)) (by first | omega | (simp; omega) | (simp; done) | (intros; simp_all; omega) | (intros; simp_all; done)) <| c0) ?_
       refine ⟨by kernel_rfl, (Eq.trans (b := (⟨[(0, (.str l)), (4, (.int .i64 ((if (byteAt l k).toNat = 40 then n + 1 else n) - 1))), (5, (.int .i64 ((k : Int))))], [], 0⟩ : St)) (by kernel_rfl) (by rw [show (if (byteAt l k).toNat = 40 then n + 1 else if (byteAt l k).toNat = 41 then n - 1 else n) = (if (byteAt l k).toNat = 40 then n + 1 else n) - 1 from by (repeat' split) <;> omega]))⟩
      ·refine SW_skip ?_
       refine ⟨by kernel_rfl, (Eq.trans (b := (⟨[(0, (.str l)), (4, (.int .i64 ((if (byteAt l k).toNat = 40 then n + 1 else n)))), (5, (.int .i64 ((k : Int))))], [], 0⟩ : St)) (by kernel_rfl) (by rw [show (if (byteAt l k).toNat = 40 then n + 1 else if (byteAt l k).toNat = 41 then n - 1 else n) = (if (byteAt l k).toNat = 40 then n + 1 else n) from by (repeat' split) <;> omega]))⟩
     ·rintro y2 rfl
      refine SW_P [] [0, 4, 5, 63] ?_
      refine SW_if (p := (if (byteAt l k).toNat = 40 then n + 1 else if (byteAt l k).toNat = 41 then n - 1 else n) < 0) (by kernel_rfl) (fun c6 => ?_) (fun c6 => ?_)
      ·refine SW_P [] [2] ?_
       refine SW_ret ?_
       refine RK wR [(.bool false)] ?_
       exact Same.of_eq (by simp only [pack]; rw [nameB, f1_2, pairs_both (by omega) hub]; simp only [if_pos c6]; simp)
      ·refine SW_skip ?_
       refine SW_reg ?_
       refine SO_HA 0 [] [0, 4, 5] [] hk0 v0 (cc 1 (p := (-9223372036854775808 ≤ (k : Int) + 1 ∧ (k : Int) + 1 ≤ 9223372036854775807)) (by first | omega | (simp; omega) | (simp; done) | (intros; simp_all; omega) | (intros; simp_all; done)) <| c0) ?_
       refine ⟨by kernel_rfl, _, ?_, k + 1, (if (byteAt l k).toNat = 40 then n + 1 else if (byteAt l k).toNat = 41 then n - 1 else n), ?_, ?_, ?_, ?_, ?_, (by kernel_rfl), rfl⟩
       ·omega
       ·omega
       ·rw [f1_2, pairs_both (by omega) hub]; simp only [if_neg c6]
       ·constructor <;> ((repeat' split) <;> omega)
       ·exact f1_4
       ·exact f1_5
  ·refine SW_exit ?_
   refine SW_P [] [2] ?_
   refine SW_ret ?_
   refine RK wR [(.bool (decide (n = 0)))] ?_
   exact Same.of_eq (by simp only [pack]; rw [nameB, f1_5, f1_2, List.drop_of_length_le (by omega), pairs]; simp)
end Sv
end Go.Proofs.YtlfjokcbkopfeaaGreatDoor
end
section
namespace Go.Proofs.YtlfjokcbkopfeaaGreatDoor
open Go Go.RowKit
namespace Sv
attribute [local irreducible] SW SO holds
theorem en_148 : Enters Tryz.prog 148 := enters_of Tryz.func148 (by kernel_rfl) rfl
theorem en_149 : Enters Tryz.prog 149 := enters_of Tryz.func149 (by kernel_rfl) rfl
theorem en_151 : Enters Tryz.prog 151 := enters_of Tryz.func151 (by kernel_rfl) rfl
theorem en_196 : Enters Tryz.prog 196 := enters_of Tryz.func196 (by kernel_rfl) rfl
theorem en_167 : Enters Tryz.prog 167 := enters_of Tryz.func167 (by kernel_rfl) rfl
def digitD (c : UInt8) : Bool := decide (48 ≤ c.toNat) && decide (c.toNat ≤ 57)
def letterD (c : UInt8) : Bool := (decide (97 ≤ c.toNat) && decide (c.toNat ≤ 122)) || (decide (65 ≤ c.toNat) && decide (c.toNat ≤ 90))
def countN (p : UInt8 → Bool) (s : List UInt8) : Nat := (s.takeWhile p).length
theorem countN_le (p : UInt8 → Bool) : ∀ s : List UInt8, countN p s ≤ s.length
 | [] => Nat.le_refl _
 | a :: r => by
  have := countN_le p r
  unfold countN at this ⊢
  rw [List.takeWhile_cons]
  split <;> simp <;> omega
theorem countN_at {p : UInt8 → Bool} : ∀ {s : List UInt8} {i : Nat}, i < s.length → (∀ j, j < i → p (byteAt s j) = true) → p (byteAt s i) = false → countN p s = i
 | [], _, h, _, _ => by simp at h
 | a :: r, 0, _, _, h => by
  have h : p a = false := h
  unfold countN; rw [List.takeWhile_cons, h]; rfl
 | a :: r, i + 1, hi, h, hp => by
  have h0 : p a = true := h 0 (by omega)
  have := countN_at (s := r) (i := i) (by simpa using hi) (fun j hj => h (j + 1) (by omega)) hp
  unfold countN at this ⊢
  rw [List.takeWhile_cons, h0]
  simp [this]
theorem countN_all {p : UInt8 → Bool} : ∀ {s : List UInt8}, (∀ j, j < s.length → p (byteAt s j) = true) → countN p s = s.length
 | [], _ => rfl
 | a :: r, h => by
  have h0 : p a = true := h 0 (by simp)
  have := countN_all (s := r) (fun j hj => h (j + 1) (by simpa using hj))
  unfold countN at this ⊢
  rw [List.takeWhile_cons, h0]
  simp [this]
def orderN (a b : Bool) (g : Int) : Int := if (a && !b) = true then g else if (b && !a) = true then -g else 0
def weightN (s : List UInt8) : Int := if s = [] ∨ digitD (byteAt s 0) = true then 0 else if (byteAt s 0).toNat = 126 then -1 else if letterD (byteAt s 0) = true then (byteAt s 0).toNat else 256 + ((byteAt s 0).toNat : Int)
set_option maxHeartbeats 400000 in
set_option maxRecDepth 100000 in
theorem digitV_ok (c : UInt8) :
  FnV Tryz.prog 148 [(.int .u8 ((c.toNat : Int)))] (.bool (digitD c)) := by
 refine FnV_intro [.tmp 2] Tryz.func148 rfl Tryz.ntmps148 rfl rfl (fun B F hF => ?_)
 refine SW_P [] [0] ?_
 obtain ⟨b1, hb1⟩ : ∃ b, b = (decide (48 ≤ (c.toNat : Int))) := ⟨_, rfl⟩
 refine SW_H (CS := [(4, (b1 = true → b1 = true)), (5, (b1 = true → b1 = true))]) [6, 7] [2] [] hk0 (vk 3 5 (a := .bool (decide (48 ≤ (c.toNat : Int)))) (b := .bool b1) (Imp.of_eq (by rw [hb1])) <| v0) (by refine cc _ ?_ <| cc _ ?_ c0 <;> first | omega | (simp; omega) | (simp; done) | (intros; simp_all; omega) | (intros; simp_all; done)) ?_
 refine SW_ret ?_
 refine RK wR [(.bool (b1 && (decide ((c.toNat : Int) ≤ 57))))] ?_
 subst hb1
 refine Same.of_eq ?_
 simp only [pack]
 congr 1
 unfold digitD
 rw [Bool.eq_iff_iff]
 simp only [Bool.and_eq_true, Bool.or_eq_true, decide_eq_true_eq]
 omega
set_option maxHeartbeats 400000 in
set_option maxRecDepth 100000 in
theorem letterV_ok (c : UInt8) :
  FnV Tryz.prog 149 [(.int .u8 ((c.toNat : Int)))] (.bool (letterD c)) := by
 refine FnV_intro [.tmp 2] Tryz.func149 rfl Tryz.ntmps149 rfl rfl (fun B F hF => ?_)
 refine SW_P [] [0] ?_
 obtain ⟨b1, hb1⟩ : ∃ b, b = (decide (97 ≤ (c.toNat : Int))) := ⟨_, rfl⟩
 obtain ⟨b2, hb2⟩ : ∃ b, b = (b1 && (decide ((c.toNat : Int) ≤ 122))) := ⟨_, rfl⟩
 obtain ⟨b3, hb3⟩ : ∃ b, b = (b2 || ((decide (65 ≤ (c.toNat : Int))) && (decide ((c.toNat : Int) ≤ 90)))) := ⟨_, rfl⟩
 refine SW_H (CS := [(4, (b1 = true → b1 = true)), (5, (b1 = true → b1 = true)), (8, ((!b2) = true → (!b2) = true)), (9, ((!b2) = true → (!b2) = true)), (11, (((!b2) && (decide (65 ≤ (c.toNat : Int)))) = true → ((!b2) && (decide (65 ≤ (c.toNat : Int)))) = true)), (12, ((!b2) = true → ((!b2) = true) ∧ ((decide (65 ≤ (c.toNat : Int))) = true → ((!b2) && (decide (65 ≤ (c.toNat : Int)))) = true))), (13, (b2 = false → (!b2) = true))]) [6, 7, 10, 11, 12, 13, 14, 15] [2] [] hk0 (vk 3 5 (a := .bool (decide (97 ≤ (c.toNat : Int)))) (b := .bool b1) (Imp.of_eq (by rw [hb1])) <| vk 7 9 (a := .bool (b1 && (decide ((c.toNat : Int) ≤ 122)))) (b := .bool b2) (Imp.of_eq (by rw [hb2])) <| vk 14 16 (a := .bool (b2 || ((decide (65 ≤ (c.toNat : Int))) && (decide ((c.toNat : Int) ≤ 90))))) (b := .bool b3) (Imp.of_eq (by rw [hb3])) <| v0) (by refine cc _ ?_ <| cc _ ?_ <| cc _ ?_ <| cc _ ?_ <| cc _ ?_ <| cc _ ?_ <| cc _ ?_ c0 <;> first | omega | (simp; omega) | (simp; done) | (intros; simp_all; omega) | (intros; simp_all; done)) ?_
 refine SW_ret ?_
 refine RK wR [(.bool b3)] ?_
 subst hb3 hb2 hb1
 refine Same.of_eq ?_
 simp only [pack]
 congr 1
 unfold letterD
 rw [Bool.eq_iff_iff]
 simp only [Bool.and_eq_true, Bool.or_eq_true, decide_eq_true_eq]
 omega
set_option maxHeartbeats 400000 in
set_option maxRecDepth 100000 in
theorem order_ok (a b : Bool) (g : Int) (hg : -1 ≤ g ∧ g ≤ 1) :
  FnV Tryz.prog 167 [(.bool a), (.bool b), (.int .i64 g)] (.int .i64 (orderN a b g)) := by
 refine FnV_intro [.tmp 6] Tryz.func167 rfl Tryz.ntmps167 rfl rfl (fun B F hF => ?_)
 refine SW_P [] [0, 1, 2] ?_
 refine SW_seq ?_
 refine SW_block ?_
 refine SW_H (CS := [(3, (a = true → a = true)), (4, (a = true → a = true))]) [10, 11] [0, 1, 2, 7] [] hk0 v0 (by refine cc _ ?_ <| cc _ ?_ c0 <;> first | omega | (simp; omega) | (simp; done) | (intros; simp_all; omega) | (intros; simp_all; done)) ?_
 refine SW_cond (q := a && (!b)) (by kernel_rfl) (fun c1 => ?_) (fun c1 => ?_)
 ·try simp only [Bool.and_eq_true, Bool.or_eq_true, Bool.and_eq_false_iff, Bool.or_eq_false_iff, Bool.not_eq_true', Bool.not_eq_false', decide_eq_true_eq, decide_eq_false_iff_not] at c1
  refine SW_P [] [6] ?_
  refine SW_ret ?_
  refine RK wR [(.int .i64 g)] ?_
  refine Same.of_eq ?_
  simp only [pack]
  congr 1
  unfold orderN
  cases a <;> cases b <;> first | rfl | (show 0 - g = -g; omega) | (simp at c1; done) | (simp at c2; done) | contradiction
 ·try simp only [Bool.and_eq_true, Bool.or_eq_true, Bool.and_eq_false_iff, Bool.or_eq_false_iff, Bool.not_eq_true', Bool.not_eq_false', decide_eq_true_eq, decide_eq_false_iff_not] at c1
  refine SW_H (CS := [(3, (b = true → b = true)), (4, (b = true → b = true))]) [17, 18] [2, 14] [] hk0 v0 (by refine cc _ ?_ <| cc _ ?_ c0 <;> first | omega | (simp; omega) | (simp; done) | (intros; simp_all; omega) | (intros; simp_all; done)) ?_
  refine SW_cond (q := b && (!a)) (by kernel_rfl) (fun c2 => ?_) (fun c2 => ?_)
  ·try simp only [Bool.and_eq_true, Bool.or_eq_true, Bool.and_eq_false_iff, Bool.or_eq_false_iff, Bool.not_eq_true', Bool.not_eq_false', decide_eq_true_eq, decide_eq_false_iff_not] at c2
   refine SW_H [] [6] [] hk0 v0 (cc 1 (p := (-9223372036854775808 ≤ 0 - g ∧ 0 - g ≤ 9223372036854775807)) (by first | omega | (simp; omega) | (simp; done) | (intros; simp_all; omega) | (intros; simp_all; done)) <| c0) ?_
   refine SW_ret ?_
   refine RK wR [(.int .i64 (0 - g))] ?_
   refine Same.of_eq ?_
   simp only [pack]
   congr 1
   unfold orderN
   cases a <;> cases b <;> first | rfl | (show 0 - g = -g; omega) | (simp at c1; done) | (simp at c2; done) | contradiction
  ·try simp only [Bool.and_eq_true, Bool.or_eq_true, Bool.and_eq_false_iff, Bool.or_eq_false_iff, Bool.not_eq_true', Bool.not_eq_false', decide_eq_true_eq, decide_eq_false_iff_not] at c2
   refine SW_skip ?_
   refine SW_P [] [6] ?_
   refine SW_ret ?_
   refine RK wR [(.int .i64 0)] ?_
   refine Same.of_eq ?_
   simp only [pack]
   congr 1
   unfold orderN
   cases a <;> cases b <;> first | rfl | (show 0 - g = -g; omega) | (simp at c1; done) | (simp at c2; done) | contradiction
set_option maxHeartbeats 400000 in
set_option maxRecDepth 100000 in
theorem countV_ok (s : List UInt8) (a : AV) (p : UInt8 → Bool) (hl : s.length ≤ 9223372036854775806) (ha : ∀ c : UInt8, FunV Tryz.prog a [.int .u8 (c.toNat : Int)] (.bool (p c))) :
  FnV Tryz.prog 151 [(.str s), (.clo a)] (.int .i64 ((countN p s : Int))) := by
 refine FnV_intro [.tmp 4] Tryz.func151 rfl Tryz.ntmps151 rfl rfl (fun B F hF => ?_)
 refine SW_P [] [0, 1] ?_
 refine SW_P [] [0, 1, 5] ?_
 refine SW_seq ?_
 refine SW_block ?_
 refine SW_L (fun g y => ∃ (i : Nat), i ≤ s.length ∧ (∀ j, j < i → p (byteAt s j) = true) ∧ y = ⟨[(0, (.str s)), (1, (.clo a)), (5, (.int .i64 ((i : Int))))], [], 0⟩ ∧ g = s.length - i) [0, 1, 5] 0 _ (by omega) ⟨0, (by omega), (by exact fun j hj => by omega), (by kernel_rfl), rfl⟩ ?_
 rintro g1 y1 ⟨i, f1_1, f1_2, rfl, rfl⟩
 refine SW_seq ?_
 refine SW_seq ?_
 refine SW_reg ?_
 obtain ⟨b1, hb1⟩ : ∃ b, b = (decide ((i : Int) < (s.length : Int))) := ⟨_, rfl⟩
 refine SO_H 5 0 [] [0, 1, 5, 10] [] hk0 v0 c0 ?_
 refine SO_conv 10 (a := .bool (decide ((i : Int) < (s.length : Int)))) (.bool b1) (by kernel_rfl) (Imp.of_eq (by rw [hb1])) ?_
 refine bool_two b1 (fun c1 => ?_) (fun c1 => ?_)
 ·refine SO_conv 10 (a := .bool b1) (.bool true) (by kernel_rfl) (Imp.of_eq (by rw [c1])) ?_
  refine SO_H 4 5 [] [0, 1, 5, 10, 11, 14] [] hk0 v0 (cc 8 (p := (0 ≤ (i : Int) ∧ i < s.length)) (by first | omega | (simp; omega) | (simp; done) | (intros; simp_all; omega) | (intros; simp_all; done)) <| c0) ?_
  refine SO_callA (s' := [(0, (.str s)), (1, (.clo a)), (5, (.int .i64 ((i : Int)))), (10, (.bool true)), (11, (.clo a)), (14, (.int .u8 (((byteAt s i).toNat : Int)))), (15, (.bool (p (byteAt s i))))]) (a := (.clo a)) (al := [(.int .u8 (((byteAt s i).toNat : Int)))]) (r := (.bool (p (byteAt s i)))) (by kernel_rfl) (by kernel_rfl) (by kernel_rfl) (by kernel_rfl) (by kernel_rfl) ((ha (byteAt s i)).clo) (by kernel_rfl) ?_
  refine SO_HA 10 [] [0, 1, 5, 16] [] hk0 v0 c0 ?_
  refine SW_cond (q := p (byteAt s i)) (by kernel_rfl) (fun c2 => ?_) (fun c2 => ?_)
  ·subst hb1
   try simp only [Bool.and_eq_true, Bool.or_eq_true, Bool.and_eq_false_iff, Bool.or_eq_false_iff, Bool.not_eq_true', Bool.not_eq_false', decide_eq_true_eq, decide_eq_false_iff_not] at c2
   refine SW_skip ?_
   refine SW_block ?_
   refine SW_reg ?_
   refine SO_HA 0 [] [0, 1, 5] [] hk0 v0 (cc 1 (p := (-9223372036854775808 ≤ (i : Int) + 1 ∧ (i : Int) + 1 ≤ 9223372036854775807)) (by first | omega | (simp; omega) | (simp; done) | (intros; simp_all; omega) | (intros; simp_all; done)) <| c0) ?_
   refine ⟨by kernel_rfl, _, ?_, i + 1, ?_, ?_, (by kernel_rfl), rfl⟩
   ·simp_all; omega
   ·simp_all; omega
   ·intro j hj
    by_cases h : j = i
    ·subst h; assumption
    ·exact f1_2 j (by omega)
  ·subst hb1
   try simp only [Bool.and_eq_true, Bool.or_eq_true, Bool.and_eq_false_iff, Bool.or_eq_false_iff, Bool.not_eq_true', Bool.not_eq_false', decide_eq_true_eq, decide_eq_false_iff_not] at c2
   refine SW_exit ?_
   refine SW_P [] [4] ?_
   refine SW_ret ?_
   refine RK wR [(.int .i64 ((i : Int)))] ?_
   exact Same.of_eq (by simp only [pack]; rw [countN_at (i := i) (by simp_all) f1_2 (by simp_all)])
 ·refine SO_conv 10 (a := .bool b1) (.bool false) (by kernel_rfl) (Imp.of_eq (by rw [c1])) ?_
  refine SO_HA 5 [] [0, 1, 5, 16] [] hk0 v0 c0 ?_
  refine SW_false (by kernel_rfl) ?_
  refine SW_exit ?_
  refine SW_P [] [4] ?_
  refine SW_ret ?_
  refine RK wR [(.int .i64 ((i : Int)))] ?_
  subst hb1
  exact Same.of_eq (by simp only [pack]; rw [countN_all (fun j hj => f1_2 j (by simp_all; omega))]; congr 2; simp_all; omega)
set_option maxHeartbeats 400000 in
set_option maxRecDepth 100000 in
theorem weight_ok (s : List UInt8) :
  FnV Tryz.prog 196 [(.str s)] (.int .i64 (weightN s)) := by
 have hb := (byteAt s 0).toNat_lt
 have hp : s = [] ∨ 0 < s.length := by cases s <;> simp
 refine FnV_intro [.tmp 2] Tryz.func196 rfl Tryz.ntmps196 rfl rfl (fun B F hF => ?_)
 refine SW_P [] [0] ?_
 refine SW_seq ?_
 refine SW_block ?_
 obtain ⟨b1, hb1⟩ : ∃ b, b = (decide (s = [])) := ⟨_, rfl⟩
 have qh1 : (((!b1) = true → ((!b1) = true) ∧ (0 ≤ (0 : Int) ∧ 0 < s.length))) := by
  rcases hp with hp | hp <;> first | (simp_all; done) | omega | (simp_all; omega) | (simp; omega)
 refine SW_H [7, 8] [0, 3] [] (hkg 5 (!b1) en_148 (fun cg => digitV_ok (byteAt s 0)) <| hk0) (vk 3 6 (a := .bool (decide (s = []))) (b := .bool b1) (Imp.of_eq (by rw [hb1])) <| v0) (cc 4 (p := ((!b1) = true → ((!b1) = true) ∧ (0 ≤ (0 : Int) ∧ 0 < s.length))) qh1 <| cc 5 (p := (!b1) = true → (!b1) = true) (by first | omega | (simp; omega) | (simp; done) | (intros; simp_all; omega) | (intros; simp_all; done)) <| cc 6 (p := (b1 = false → (!b1) = true)) (by first | omega | (simp; omega) | (simp; done) | (intros; simp_all; omega) | (intros; simp_all; done)) <| c0) ?_
 refine SW_cond (q := b1 || (digitD (byteAt s 0))) (by kernel_rfl) (fun c1 => ?_) (fun c1 => ?_)
 ·subst hb1
  try simp only [Bool.and_eq_true, Bool.or_eq_true, Bool.and_eq_false_iff, Bool.or_eq_false_iff, Bool.not_eq_true', Bool.not_eq_false', decide_eq_true_eq, decide_eq_false_iff_not] at c1
  refine SW_P [] [2] ?_
  refine SW_ret ?_
  refine RK wR [(.int .i64 0)] ?_
  refine Same.of_eq ?_
  simp only [pack]
  congr 1
  unfold weightN
  rw [if_pos c1]
 ·subst hb1
  try simp only [Bool.and_eq_true, Bool.or_eq_true, Bool.and_eq_false_iff, Bool.or_eq_false_iff, Bool.not_eq_true', Bool.not_eq_false', decide_eq_true_eq, decide_eq_false_iff_not] at c1
  have qh2 : ((0 ≤ (0 : Int) ∧ 0 < s.length)) := by
   rcases hp with hp | hp <;> first | (simp_all; done) | omega | (simp_all; omega) | (simp; omega)
  refine SW_H [] [0, 11] [] hk0 v0 (cc 1 (p := (0 ≤ (0 : Int) ∧ 0 < s.length)) qh2 <| c0) ?_
  refine SW_if (p := ((byteAt s 0).toNat : Int) = 126) (by kernel_rfl) (fun c2 => ?_) (fun c2 => ?_)
  ·refine SW_P [] [2] ?_
   refine SW_ret ?_
   refine RK wR [(.int .i64 (-1))] ?_
   refine Same.of_eq ?_
   simp only [pack]
   congr 1
   unfold weightN
   rw [if_neg (by simp_all), if_pos (by omega)]
  ·have qh3 : ((0 ≤ (0 : Int) ∧ 0 < s.length)) := by
    rcases hp with hp | hp <;> first | (simp_all; done) | omega | (simp_all; omega) | (simp; omega)
   refine SW_H [] [0, 15] [] (hk 2 en_149 (letterV_ok (byteAt s 0)) <| hk0) v0 (cc 1 (p := (0 ≤ (0 : Int) ∧ 0 < s.length)) qh3 <| c0) ?_
   refine SW_cond (q := letterD (byteAt s 0)) (by kernel_rfl) (fun c3 => ?_) (fun c3 => ?_)
   ·try simp only [Bool.and_eq_true, Bool.or_eq_true, Bool.and_eq_false_iff, Bool.or_eq_false_iff, Bool.not_eq_true', Bool.not_eq_false', decide_eq_true_eq, decide_eq_false_iff_not] at c3
    have qh4 : ((0 ≤ (0 : Int) ∧ 0 < s.length)) ∧ ((-9223372036854775808 ≤ ((byteAt s 0).toNat : Int) ∧ ((byteAt s 0).toNat : Int) ≤ 9223372036854775807)) := by
     rcases hp with hp | hp <;> first | (simp_all; done) | omega | (simp_all; omega) | (simp; omega)
    refine SW_H [] [2] [] hk0 v0 (cc 1 (p := (0 ≤ (0 : Int) ∧ 0 < s.length)) qh4.1 <| cc 2 (p := (-9223372036854775808 ≤ ((byteAt s 0).toNat : Int) ∧ ((byteAt s 0).toNat : Int) ≤ 9223372036854775807)) qh4.2 <| c0) ?_
    refine SW_ret ?_
    refine RK wR [(.int .i64 (((byteAt s 0).toNat : Int)))] ?_
    refine Same.of_eq ?_
    simp only [pack]
    congr 1
    unfold weightN
    rw [if_neg (by simp_all), if_neg (by omega), if_pos (by assumption)]
   ·try simp only [Bool.and_eq_true, Bool.or_eq_true, Bool.and_eq_false_iff, Bool.or_eq_false_iff, Bool.not_eq_true', Bool.not_eq_false', decide_eq_true_eq, decide_eq_false_iff_not] at c3
    refine SW_skip ?_
    have qh5 : ((0 ≤ (0 : Int) ∧ 0 < s.length)) ∧ ((-9223372036854775808 ≤ ((byteAt s 0).toNat : Int) ∧ ((byteAt s 0).toNat : Int) ≤ 9223372036854775807)) ∧ ((-9223372036854775808 ≤ 256 + ((byteAt s 0).toNat : Int) ∧ 256 + ((byteAt s 0).toNat : Int) ≤ 9223372036854775807)) := by
     rcases hp with hp | hp <;> first | (simp_all; done) | omega | (simp_all; omega) | (simp; omega)
    refine SW_H [] [2] [] hk0 v0 (cc 1 (p := (0 ≤ (0 : Int) ∧ 0 < s.length)) qh5.1 <| cc 2 (p := (-9223372036854775808 ≤ ((byteAt s 0).toNat : Int) ∧ ((byteAt s 0).toNat : Int) ≤ 9223372036854775807)) qh5.2.1 <| cc 3 (p := (-9223372036854775808 ≤ 256 + ((byteAt s 0).toNat : Int) ∧ 256 + ((byteAt s 0).toNat : Int) ≤ 9223372036854775807)) qh5.2.2 <| c0) ?_
    refine SW_ret ?_
    refine RK wR [(.int .i64 (256 + ((byteAt s 0).toNat : Int)))] ?_
    refine Same.of_eq ?_
    simp only [pack]
    congr 1
    unfold weightN
    rw [if_neg (by simp_all), if_neg (by omega), if_neg (by simp_all)]
end Sv
end Go.Proofs.YtlfjokcbkopfeaaGreatDoor
end
section
namespace Go.Proofs.YtlfjokcbkopfeaaGreatDoor
open Go Go.RowKit
set_option linter.unusedSimpArgs false
set_option linter.unusedVariables false
namespace Sv
theorem TrimLeftV (s : List UInt8) (c : UInt8) (hc : c.toNat < 128) : FnV Tryz.prog 136 [.str s, .str [c]] (.str (Lib.trimLeftB s c)) := by
  intro F w vs hF hv
  obtain ⟨v, r1, rfl, h1, hv⟩ := hv.cons_inv
  obtain ⟨v2, rfl, h2⟩ := hv.single_inv
  simp only [VR] at h1 h2
  subst h1 h2
  refine (Tryz.strings_TrimLeft_one ⟨s.toArray⟩ c hc w).mono ?_
  rintro e w' ⟨he, rfl⟩
  exact ⟨_, he, Below.refl _ _, F, fun _ _ e => e, hF, fun _ _ e => .inl e, by simp only [VR, List.toList_toArray]⟩
theorem CompareV (a b : List UInt8) : FnV Tryz.prog 195 [.str a, .str b] (.int .i64 (Lib.compareBytes a b)) := by
  intro F w vs hF hv
  obtain ⟨v, r1, rfl, h1, hv⟩ := hv.cons_inv
  obtain ⟨v2, rfl, h2⟩ := hv.single_inv
  simp only [VR] at h1 h2
  subst h1 h2
  refine (Tryz.strings_Compare ⟨a.toArray⟩ ⟨b.toArray⟩ w).mono ?_
  rintro e w' ⟨he, rfl⟩
  exact ⟨_, he, Below.refl _ _, F, fun _ _ e => e, hF, fun _ _ e => .inl e, by simp only [VR, List.toList_toArray]⟩
end Sv
end Go.Proofs.YtlfjokcbkopfeaaGreatDoor
end
section
namespace Go.Proofs.YtlfjokcbkopfeaaGreatDoor
open Go Go.RowKit
namespace Sv
attribute [local irreducible] SW SO holds
theorem FnV.of_plain {P : Program} {f : Nat} {al : List AV} {r : AV} (vs0 : List Value) (rv : Value) (ha : ∀ F vs, VRl (ofF F) al vs → vs = vs0) (hr : ∀ F, VR (ofF F) r rv) (h : ∀ w : World, Calls P f vs0.toArray w (Ret fun v w' => v = rv ∧ Below w.heap.size w w')) : FnV P f al r := by
 intro F w vs hF hv
 rw [ha F vs hv]
 refine (h w).mono ?_
 rintro e w' ⟨v, he, rfl, hb⟩
 exact ⟨_, he, hb, F, fun _ _ e => e, fun b o e => (hb.block b (block_lt (hF b o e))).trans (hF b o e), fun _ _ e => .inl e, hr F⟩
theorem ret_below {P : Program} {f : Nat} {vs : Array Value} {w : World} {rv : Value} (h : Calls P f vs w (Ret fun v w' => v = rv ∧ w = w')) : Calls P f vs w (Ret fun v w' => v = rv ∧ Below w.heap.size w w') :=
 h.mono fun e w' hh => by
  obtain ⟨v, he, h1, rfl⟩ := hh
  exact ⟨v, he, h1, Below.refl _ _⟩
theorem two_plain {F : Nat → Option Obj} {a b : AV} {x y : Value} (ha : ∀ F v, VR (ofF F) a v → v = x) (hb : ∀ F v, VR (ofF F) b v → v = y) {vs : List Value} (h : VRl (ofF F) [a, b] vs) : vs = [x, y] := by
 obtain ⟨v, r1, rfl, h1, hv⟩ := h.cons_inv
 obtain ⟨v2, rfl, h2⟩ := hv.single_inv
 rw [ha _ _ h1, hb _ _ h2]
theorem str_plain {l : List UInt8} : ∀ F v, VR (ofF F) (.str l) v → v = Go.Proofs.YtlfjokcbkopfeaaGreatDoor.S l := fun F v h => by simpa only [VR] using h
theorem int_plain {k : IntKind} {n : Int} : ∀ F v, VR (ofF F) (.int k n) v → v = .int k n := fun F v h => by simpa only [VR] using h
theorem IndexByteV (l : List UInt8) (c : UInt8) : FnV Tryz.prog 150 [.str l, .int .u8 (c.toNat : Int)] (.int .i64 (Lib.indexByte l c)) :=
 FnV.of_plain [S l, .int .u8 (c.toNat : Int)] (.int .i64 (Lib.indexByte l c)) (fun _ _ h => two_plain str_plain int_plain h) (fun _ => by simp only [VR]) fun w => ret_below (IndexByte_any l c w)
theorem LastIndexByteV (l : List UInt8) (hl : l.length ≤ 9223372036854775807) : FnV Tryz.prog 153 [.str l, .int .u8 45] (.int .i64 (lastBefore l 45 l.length)) :=
 FnV.of_plain [S l, .int .u8 45] (.int .i64 (lastBefore l 45 l.length)) (fun _ _ h => two_plain str_plain int_plain h) (fun _ => by simp only [VR]) fun w => ret_below (LastIndexByte_any l 45 w hl)
theorem Contains1V (l : List UInt8) : FnV Tryz.prog 154 [.str l, .str [58]] (.bool (l.contains 58)) :=
 FnV.of_plain [S l, S [58]] (.bool (l.contains 58)) (fun _ _ h => two_plain str_plain str_plain h) (fun _ => by simp only [VR]) fun w => ret_below (Contains1_any l 58 w)
theorem CutV (l : List UInt8) (hl : l.length ≤ 9223372036854775807) : FnV Tryz.prog 152 [.str l, .str [58]] (.tup [.str (if 0 ≤ Lib.indexByte l 58 then l.take (Lib.indexByte l 58).toNat else l), .str (if 0 ≤ Lib.indexByte l 58 then l.drop ((Lib.indexByte l 58).toNat + 1) else []), .bool (decide (0 ≤ Lib.indexByte l 58))]) := by
 refine FnV.of_plain [S l, S [58]] (cutV l 58) (fun _ _ h => two_plain str_plain str_plain h) (fun F => ?_) fun w => ?_
 ·unfold cutV
  by_cases h : 0 ≤ Lib.indexByte l 58
  ·rw [if_pos h, if_pos h, if_pos h, decide_eq_true h]
   simp only [VR]; exact ⟨_, .cons (by simp only [VR]) (.cons (by simp only [VR]) (.cons (by simp only [VR]) .nil)), rfl⟩
  ·rw [if_neg h, if_neg h, if_neg h, decide_eq_false h]
   simp only [VR]; exact ⟨_, .cons (by simp only [VR]) (.cons (by simp only [VR]) (.cons (by simp only [VR]) .nil)), rfl⟩
 ·exact Cut_any l 58 w hl
theorem last_bounds (r : List UInt8) (c : UInt8) : -1 ≤ lastBefore r c r.length ∧ lastBefore r c r.length < r.length := by
 rcases lastBefore_cases r c r.length with h | ⟨q, h, hq⟩ <;> omega
theorem evr_fin {l r ep v rl : List UInt8} (hh : headB l = true) (hr : r = (if 0 ≤ Lib.indexByte l 58 then l.drop ((Lib.indexByte l 58).toNat + 1) else l)) (he : ep = (if 0 ≤ Lib.indexByte l 58 then l.take (Lib.indexByte l 58).toNat else [])) (hd : 0 ≤ Lib.indexByte l 58 → digsB (l.take (Lib.indexByte l 58).toNat) = true)
  (hv : v = (if 0 ≤ lastBefore r 45 r.length then r.take (lastBefore r 45 r.length).toNat else r)) (hrl : rl = (if 0 ≤ lastBefore r 45 r.length then r.drop ((lastBefore r 45 r.length).toNat + 1) else [])) (hn : 0 ≤ lastBefore r 45 r.length → ¬ rl = []) : evrE l = (if v = [] ∨ r.contains 58 = true then 30 else 0) ∧ evrParts l = (ep, v, rl) := by
 constructor
 ·have ht : evrB l = evrTail r := by
   unfold evrB
   rw [hh, Bool.true_and]
   by_cases h : 0 ≤ Lib.indexByte l 58
   ·rw [if_pos h, hd h, Bool.true_and, hr, if_pos h]
   ·rw [if_neg h, hr, if_neg h]
  have ht2 : evrTail r = !(decide (v = []) || r.contains 58) := by
   unfold evrTail
   by_cases h : 0 ≤ lastBefore r 45 r.length
   ·have := hn h
    rw [if_pos h] at hv hrl ⊢
    rw [← hrl, ← hv, decide_eq_false this, Bool.not_or]; rfl
   ·rw [if_neg h] at hv ⊢
    rw [hv, Bool.not_or]
  unfold evrE
  rw [ht, ht2]
  by_cases h1 : v = [] <;> by_cases h2 : r.contains 58 = true <;> simp [h1, h2]
 ·unfold evrParts
  simp only [← hr]
  rw [← he, ← hv, ← hrl]
set_option maxHeartbeats 400000 in
set_option maxRecDepth 100000 in
theorem mayV (c : UInt8) :
  FnV Tryz.prog 147 [(.int .u8 ((c.toNat : Int)))] (.bool (mayC c)) := by
 refine FnV_intro [.tmp 2] Tryz.func147 rfl Tryz.ntmps147 rfl rfl (fun B F hF => ?_)
 refine SW_P [] [0] ?_
 obtain ⟨b1, hb1⟩ : ∃ b, b = ((digitD c) || (letterD c)) := ⟨_, rfl⟩
 refine SW_H (CS := [(4, (!(digitD c)) = true → (!(digitD c)) = true), (5, ((digitD c) = false → (!(digitD c)) = true)), (8, (!b1) = true → (!b1) = true), (9, ((!b1) = true → (!b1) = true)), (10, (b1 = false → (!b1) = true))]) [6, 10, 12] [2] [] (hk 1 en_148 (digitV_ok c) <| hkg 4 (!(digitD c)) en_149 (fun cg => letterV_ok c) <| hkg 8 (!b1) en_150 (fun cg => IndexByteV midL c) <| hk0) (vk 7 9 (a := .bool ((digitD c) || (letterD c))) (b := .bool b1) (Imp.of_eq (by rw [hb1])) <| v0) (by refine cc _ ?_ <| cc _ ?_ <| cc _ ?_ <| cc _ ?_ <| cc _ ?_ c0 <;> first | omega | (simp; omega) | (simp; done) | (intros; simp_all; omega) | (intros; simp_all; done)) ?_
 refine SW_ret ?_
 refine RK wR [(.bool (b1 || (decide (0 ≤ (Lib.indexByte midL c)))))] ?_
 subst hb1
 refine Same.of_eq ?_
 simp only [pack]
 rw [indexByte_has, Bool.or_assoc]; rfl
theorem evr_head_bad {l : List UInt8} (c : (l = [] ∨ (60 : Int) < (l.length : Int)) ∨ ¬ (countN mayC l : Int) = (l.length : Int)) : evrE l = 30 := by
 refine evrE_head ?_
 unfold headB
 rcases c with (h | h) | h
 ·rw [h]; rfl
 ·rw [decide_eq_false (show ¬ l.length ≤ 60 by omega)]; simp
 ·rw [show l.all mayC = false from by cases hq : l.all mayC with | false => rfl | true => exact absurd ((cntB_iff mayC l).2 hq) h]; rfl
theorem evr_digs_bad {l : List UInt8} (hh : headB l = true) (h0 : 0 ≤ Lib.indexByte l 58) (c : (l.take (Lib.indexByte l 58).toNat = [] ∨ (9 : Int) < ((l.take (Lib.indexByte l 58).toNat).length : Int)) ∨ ¬ (countN digitD (l.take (Lib.indexByte l 58).toNat) : Int) = ((l.take (Lib.indexByte l 58).toNat).length : Int)) : evrE l = 30 := by
 have hb : digsB (l.take (Lib.indexByte l 58).toNat) = false := by
  unfold digsB
  rcases c with (h | h) | h
  ·rw [h]; rfl
  ·rw [decide_eq_false (show ¬ (l.take (Lib.indexByte l 58).toNat).length ≤ 9 by omega)]; simp
  ·rw [show (l.take (Lib.indexByte l 58).toNat).all digitC = false from by cases hq : (l.take (Lib.indexByte l 58).toNat).all digitC with | false => rfl | true => exact absurd ((cntB_iff digitC _).2 hq) h]; rfl
 unfold evrE evrB
 rw [hh, Bool.true_and, if_pos h0, hb]; rfl
theorem evr_rel_bad {l r : List UInt8} (hh : headB l = true) (hr : r = (if 0 ≤ Lib.indexByte l 58 then l.drop ((Lib.indexByte l 58).toNat + 1) else l)) (hd : 0 ≤ Lib.indexByte l 58 → digsB (l.take (Lib.indexByte l 58).toNat) = true) (hy : 0 ≤ lastBefore r 45 r.length) (h : r.drop ((lastBefore r 45 r.length).toNat + 1) = []) : evrE l = 30 := by
 have ht : evrB l = evrTail r := by
  unfold evrB
  rw [hh, Bool.true_and]
  by_cases h : 0 ≤ Lib.indexByte l 58
  ·rw [if_pos h, hd h, Bool.true_and, hr, if_pos h]
  ·rw [if_neg h, hr, if_neg h]
 unfold evrE
 rw [ht]
 unfold evrTail
 rw [if_pos hy, h]; rfl
set_option maxHeartbeats 1000000 in
set_option maxRecDepth 100000 in
theorem evrParseV (l : List UInt8) (hl : l.length ≤ 4611686018427387904) :
  FnV Tryz.prog 102 [(.str l)] (.tup [.agg [.str (evrP l).1, .str (evrP l).2.1, .str (evrP l).2.2], .int .i64 (evrE l)]) := by
 refine FnV_intro [.cell 2 136, .tmp 3] Tryz.func102 rfl Tryz.ntmps102 rfl rfl (fun B F hF => ?_)
 refine SW_P [] [0, 2] ?_
 refine SW_P [] [0, 2, 4] ?_
 refine SW_seq ?_
 obtain ⟨b1, hb1⟩ : ∃ b, b = (decide (l = [])) := ⟨_, rfl⟩
 obtain ⟨b2, hb2⟩ : ∃ b, b = (b1 || (decide (60 < (l.length : Int)))) := ⟨_, rfl⟩
 refine SW_H (CS := [(4, ((!b1) = true → (!b1) = true)), (5, ((!b1) = true → (!b1) = true)), (6, (b1 = false → (!b1) = true)), (10, (!b2) = true → (!b2) = true ∧ (!b2) = true), (12, ((!b2) = true → (!b2) = true)), (13, ((!b2) = true → (!b2) = true ∧ (!b2) = true)), (14, (b2 = false → (!b2) = true))]) [14, 15, 16, 19, 20, 22, 23, 24] [0, 2, 25] [] (hkg 10 (!b2) (al := [(.str l), (.fn 147 [] [])]) en_151 (fun cg => (countV_ok l (.fn 147 [] []) mayC (by first | omega | (split <;> simp <;> omega)) (fun c => FunV.of (by exact en_147) (mayV c))).of_args (ImpL.cons Imp.refl (ImpL.cons (Imp.clo rfl) ImpL.nil))) <| hk0) (vk 3 13 (a := .bool (decide (l = []))) (b := .bool b1) (Imp.of_eq (by rw [hb1])) <| vk 8 18 (a := .bool (b1 || (decide (60 < (l.length : Int))))) (b := .bool b2) (Imp.of_eq (by rw [hb2])) <| v0) (by refine cc _ ?_ <| cc _ ?_ <| cc _ ?_ <| cc _ ?_ <| cc _ ?_ <| cc _ ?_ <| cc _ ?_ c0 <;> first | omega | (simp; omega) | (simp; done) | (intros; simp_all; omega) | (intros; simp_all; done)) ?_
 refine SW_cond (q := b2 || (!decide ((countN mayC l : Int) = (l.length : Int)))) (by kernel_rfl) (fun c1 => ?_) (fun c1 => ?_)
 ·subst hb2 hb1
  try simp only [Bool.and_eq_true, Bool.or_eq_true, Bool.and_eq_false_iff, Bool.or_eq_false_iff, Bool.not_eq_true', Bool.not_eq_false', decide_eq_true_eq, decide_eq_false_iff_not] at c1
  refine SW_P [] [2, 3] ?_
  refine SW_ret ?_
  refine RK wR [(.agg [(.str []), (.str []), (.str [])]), (.int .i64 30)] ?_
  refine Same.of_eq ?_
  simp only [pack]
  have h0 : evrE l = 30 := evr_head_bad c1
  have h1 : evrP l = ([], [], []) := evrP_bad h0.symm
  rw [h0, h1]
 ·subst hb2 hb1
  try simp only [Bool.and_eq_true, Bool.or_eq_true, Bool.and_eq_false_iff, Bool.or_eq_false_iff, Bool.not_eq_true', Bool.not_eq_false', decide_eq_true_eq, decide_eq_false_iff_not] at c1
  have hh : headB l = true := by
   unfold headB
   rw [show l.all mayC = true from (cntB_iff mayC l).1 c1.2, decide_eq_true (show 1 ≤ l.length by have := List.length_pos_iff.2 c1.1.1; omega), decide_eq_true (by omega)]; rfl
  refine SW_skip ?_
  refine SW_P [] [0, 2, 5] ?_
  refine SW_P [] [0, 2, 5, 6] ?_
  refine SW_C (fun y => ∃ (r : List UInt8) (ep : List UInt8), r = (if 0 ≤ Lib.indexByte l 58 then l.drop ((Lib.indexByte l 58).toNat + 1) else l) ∧ ep = (if 0 ≤ Lib.indexByte l 58 then l.take (Lib.indexByte l 58).toNat else []) ∧ (0 ≤ Lib.indexByte l 58 → digsB (l.take (Lib.indexByte l 58).toNat) = true) ∧ y = ⟨[(2, (.ptr 0 0)), (5, (.ptr 1 0)), (6, (.str r))], [(0, (.row [(.str []), (.str []), (.str [])] 136)), (1, (.row [(.str ep), (.str []), (.str [])] 136))], 2⟩) [2, 5, 6] 2 (by omega) ?_ ?_
  ·refine SW_H [] [2, 5, 6, 7, 8, 9] [] (hk 1 en_152 (CutV l (by omega)) <| hk0) v0 c0 ?_
   refine SW_P [] [2, 5, 6, 7, 8, 34] ?_
   refine SW_if (p := 0 ≤ Lib.indexByte l 58) (by kernel_rfl) (fun c2 => ?_) (fun c2 => ?_)
   ·refine SW_seq ?_
    obtain ⟨b3, hb3⟩ : ∃ b, b = (decide ((if 0 ≤ Lib.indexByte l 58 then l.take (Lib.indexByte l 58).toNat else l) = [])) := ⟨_, rfl⟩
    obtain ⟨b4, hb4⟩ : ∃ b, b = (b3 || (decide (9 < ((if 0 ≤ Lib.indexByte l 58 then l.take (Lib.indexByte l 58).toNat else l).length : Int)))) := ⟨_, rfl⟩
    refine SW_H (CS := [(4, ((!b3) = true → (!b3) = true)), (5, ((!b3) = true → (!b3) = true)), (6, (b3 = false → (!b3) = true)), (9, (!b4) = true → (!b4) = true), (11, ((!b4) = true → (!b4) = true)), (12, ((!b4) = true → (!b4) = true ∧ (!b4) = true)), (13, (b4 = false → (!b4) = true))]) [38, 39, 40, 43, 45, 46, 47] [2, 5, 7, 8, 48] [] (hkg 9 (!b4) (al := [(.str ((if 0 ≤ Lib.indexByte l 58 then l.take (Lib.indexByte l 58).toNat else l))), (.fn 148 [] [])]) en_151 (fun cg => (countV_ok (if 0 ≤ Lib.indexByte l 58 then l.take (Lib.indexByte l 58).toNat else l) (.fn 148 [] []) digitD (by first | omega | (split <;> simp <;> omega)) (fun c => FunV.of (by exact en_148) (digitV_ok c))).of_args (ImpL.cons Imp.refl (ImpL.cons (Imp.clo rfl) ImpL.nil))) <| hk0) (vk 3 37 (a := .bool (decide ((if 0 ≤ Lib.indexByte l 58 then l.take (Lib.indexByte l 58).toNat else l) = []))) (b := .bool b3) (Imp.of_eq (by rw [hb3])) <| vk 7 41 (a := .bool (b3 || (decide (9 < ((if 0 ≤ Lib.indexByte l 58 then l.take (Lib.indexByte l 58).toNat else l).length : Int))))) (b := .bool b4) (Imp.of_eq (by rw [hb4])) <| v0) (by refine cc _ ?_ <| cc _ ?_ <| cc _ ?_ <| cc _ ?_ <| cc _ ?_ <| cc _ ?_ <| cc _ ?_ c0 <;> first | omega | (simp; omega) | (simp; done) | (intros; simp_all; omega) | (intros; simp_all; done)) ?_
    refine SW_cond (q := b4 || (!decide ((countN digitD (if 0 ≤ Lib.indexByte l 58 then l.take (Lib.indexByte l 58).toNat else l) : Int) = ((if 0 ≤ Lib.indexByte l 58 then l.take (Lib.indexByte l 58).toNat else l).length : Int)))) (by kernel_rfl) (fun c3 => ?_) (fun c3 => ?_)
    ·subst hb4 hb3
     try simp only [Bool.and_eq_true, Bool.or_eq_true, Bool.and_eq_false_iff, Bool.or_eq_false_iff, Bool.not_eq_true', Bool.not_eq_false', decide_eq_true_eq, decide_eq_false_iff_not] at c3
     refine SW_P [] [2, 3] ?_
     refine SW_ret ?_
     refine RK wR [(.agg [(.str []), (.str []), (.str [])]), (.int .i64 30)] ?_
     refine Same.of_eq ?_
     simp only [pack]
     have h0 : evrE l = 30 := evr_digs_bad hh c2 (by rw [if_pos c2] at c3; exact c3)
     have h1 : evrP l = ([], [], []) := evrP_bad h0.symm
     rw [h0, h1]
    ·subst hb4 hb3
     try simp only [Bool.and_eq_true, Bool.or_eq_true, Bool.and_eq_false_iff, Bool.or_eq_false_iff, Bool.not_eq_true', Bool.not_eq_false', decide_eq_true_eq, decide_eq_false_iff_not] at c3
     have hdg : digsB (l.take (Lib.indexByte l 58).toNat) = true := by
      rw [if_pos c2] at c3
      unfold digsB
      rw [show (l.take (Lib.indexByte l 58).toNat).all digitC = true from (cntB_iff digitC _).1 c3.2, decide_eq_true (show 1 ≤ _ by have := List.length_pos_iff.2 c3.1.1; omega), decide_eq_true (by omega)]; rfl
     refine SW_skip ?_
     refine SW_reg ?_
     refine SO_P [] [2, 5, 6] ?_
     refine ⟨by kernel_rfl, (if 0 ≤ Lib.indexByte l 58 then l.drop ((Lib.indexByte l 58).toNat + 1) else []), (if 0 ≤ Lib.indexByte l 58 then l.take (Lib.indexByte l 58).toNat else l), ?_, ?_, ?_, (by kernel_rfl)⟩
     ·simp only [if_pos c2]
     ·simp only [if_pos c2]
     ·exact fun _ => hdg
   ·refine SW_skip ?_
    refine ⟨by kernel_rfl, l, [], ?_, ?_, ?_, (by kernel_rfl)⟩
    ·simp only [if_neg c2]
    ·simp only [if_neg c2]
    ·exact fun h => absurd h c2
  ·rintro y1 ⟨r, ep, hr, hep, hdg, rfl⟩
   have hrl : r.length ≤ l.length := by rw [hr]; split <;> simp
   have hyb := last_bounds r 45
   have hi58 := indexByte_lt l 58
   refine SW_P [] [2, 5, 6] ?_
   refine SW_C (fun y => ∃ (v : List UInt8) (rl : List UInt8), v = (if 0 ≤ lastBefore r 45 r.length then r.take (lastBefore r 45 r.length).toNat else r) ∧ rl = (if 0 ≤ lastBefore r 45 r.length then r.drop ((lastBefore r 45 r.length).toNat + 1) else []) ∧ (0 ≤ lastBefore r 45 r.length → ¬ rl = []) ∧ y = ⟨[(2, (.ptr 0 0)), (5, (.ptr 1 0)), (6, (.str r))], [(0, (.row [(.str []), (.str []), (.str [])] 136)), (1, (.row [(.str ep), (.str v), (.str rl)] 136))], 2⟩) [2, 5, 6] 2 (by omega) ?_ ?_
   ·refine SW_H [] [2, 5, 6, 10] [] (hk 1 en_153 (LastIndexByteV r (by omega)) <| hk0) v0 c0 ?_
    refine SW_P [] [2, 5, 6, 10, 58] ?_
    refine SW_if (p := 0 ≤ (lastBefore r 45 r.length)) (by kernel_rfl) (fun c4 => ?_) (fun c4 => ?_)
    ·refine SW_D (CS := [(2, (0 ≤ (0 : Int) ∧ (0 : Int) ≤ lastBefore r 45 r.length ∧ lastBefore r 45 r.length ≤ (r.length : Int))), (5, (-9223372036854775808 ≤ (lastBefore r 45 r.length) + 1 ∧ (lastBefore r 45 r.length) + 1 ≤ 9223372036854775807)), (6, (0 ≤ (lastBefore r 45 r.length) + 1 ∧ (lastBefore r 45 r.length) + 1 ≤ (r.length : Int) ∧ (r.length : Int) ≤ (r.length : Int)))]) [] [2, 5, 6] [] hk0 v0 (by refine cc _ ?_ <| cc _ ?_ <| cc _ ?_ c0 <;> first | omega | (simp; omega) | (simp; done) | (intros; simp_all; omega) | (intros; simp_all; done)) ?_
     refine SW_P [] [2, 5, 6, 70] ?_
     refine SW_if (p := (r.take r.length).drop (((lastBefore r 45 r.length) + 1).toNat) = []) (by kernel_rfl) (fun c5 => ?_) (fun c5 => ?_)
     ·refine SW_P [] [2, 3] ?_
      refine SW_ret ?_
      refine RK wR [(.agg [(.str []), (.str []), (.str [])]), (.int .i64 30)] ?_
      refine Same.of_eq ?_
      simp only [pack]
      have h0 : evrE l = 30 := evr_rel_bad hh hr hdg c4 (by have h := c5; rw [List.take_length] at h; rw [← h]; congr 1; omega)
      have h1 : evrP l = ([], [], []) := evrP_bad h0.symm
      rw [h0, h1]
     ·refine SW_skip ?_
      refine ⟨by kernel_rfl, ((r.take ((lastBefore r 45 r.length : Int).toNat)).drop 0), ((r.take r.length).drop (((lastBefore r 45 r.length) + 1).toNat)), ?_, ?_, ?_, (by kernel_rfl)⟩
      ·rw [if_pos c4]; simp
      ·rw [if_pos c4]; try rw [List.take_length]; congr 1; omega
      ·intro _; exact c5
    ·refine SW_skip ?_
     refine ⟨by kernel_rfl, r, [], ?_, ?_, ?_, (by kernel_rfl)⟩
     ·rw [if_neg c4]
     ·rw [if_neg c4]
     ·exact fun h => absurd h c4
   ·rintro y2 ⟨v, rl, hv, hrr, hnn, rfl⟩
    refine SW_seq ?_
    obtain ⟨b5, hb5⟩ : ∃ b, b = (decide (v = [])) := ⟨_, rfl⟩
    refine SW_H (CS := [(5, (!b5) = true → (!b5) = true), (6, (b5 = false → (!b5) = true))]) [76] [2, 5, 78] [] (hkg 5 (!b5) en_154 (fun cg => Contains1V r) <| hk0) (vk 4 75 (a := .bool (decide (v = []))) (b := .bool b5) (Imp.of_eq (by rw [hb5])) <| v0) (by refine cc _ ?_ <| cc _ ?_ c0 <;> first | omega | (simp; omega) | (simp; done) | (intros; simp_all; omega) | (intros; simp_all; done)) ?_
    refine SW_cond (q := b5 || (r.contains 58)) (by kernel_rfl) (fun c6 => ?_) (fun c6 => ?_)
    ·subst hb5
     try simp only [Bool.and_eq_true, Bool.or_eq_true, Bool.and_eq_false_iff, Bool.or_eq_false_iff, Bool.not_eq_true', Bool.not_eq_false', decide_eq_true_eq, decide_eq_false_iff_not] at c6
     refine SW_P [] [2, 3] ?_
     refine SW_ret ?_
     refine RK wR [(.agg [(.str []), (.str []), (.str [])]), (.int .i64 30)] ?_
     refine Same.of_eq ?_
     simp only [pack]
     have h0 : evrE l = 30 := by rw [(evr_fin hh hr hep hdg hv hrr hnn).1, if_pos (by simpa using c6)]
     have h1 : evrP l = ([], [], []) := evrP_bad h0.symm
     rw [h0, h1]
    ·subst hb5
     try simp only [Bool.and_eq_true, Bool.or_eq_true, Bool.and_eq_false_iff, Bool.or_eq_false_iff, Bool.not_eq_true', Bool.not_eq_false', decide_eq_true_eq, decide_eq_false_iff_not] at c6
     refine SW_skip ?_
     refine SW_P [] [2, 3] ?_
     refine SW_ret ?_
     refine RK wR [(.agg [(.str ep), (.str v), (.str rl)]), (.int .i64 0)] ?_
     have hf := evr_fin hh hr hep hdg hv hrr hnn
     have h0 : evrE l = 0 := by rw [hf.1, if_neg (by simpa using c6)]
     exact Same.of_eq (by simp only [pack]; rw [evrP_ok h0.symm, hf.2, h0])
end Sv
end Go.Proofs.YtlfjokcbkopfeaaGreatDoor
end
section
namespace Go.Proofs.YtlfjokcbkopfeaaGreatDoor
open Go Go.RowKit
namespace Sv
attribute [local irreducible] SW SO holds
set_option maxHeartbeats 400000 in
set_option maxRecDepth 100000 in
theorem rletterV (c : UInt8) :
  FnV Tryz.prog 207 [(.int .u8 ((c.toNat : Int)))] (.bool (letterD c)) := by
 refine FnV_intro [.tmp 2] Tryz.func207 rfl Tryz.ntmps207 rfl rfl (fun B F hF => ?_)
 refine SW_P [] [0] ?_
 obtain ⟨b1, hb1⟩ : ∃ b, b = (decide (97 ≤ (c.toNat : Int))) := ⟨_, rfl⟩
 obtain ⟨b2, hb2⟩ : ∃ b, b = (b1 && (decide ((c.toNat : Int) ≤ 122))) := ⟨_, rfl⟩
 obtain ⟨b3, hb3⟩ : ∃ b, b = (b2 || ((decide (65 ≤ (c.toNat : Int))) && (decide ((c.toNat : Int) ≤ 90)))) := ⟨_, rfl⟩
 refine SW_H (CS := [(4, (b1 = true → b1 = true)), (5, (b1 = true → b1 = true)), (8, ((!b2) = true → (!b2) = true)), (9, ((!b2) = true → (!b2) = true)), (11, (((!b2) && (decide (65 ≤ (c.toNat : Int)))) = true → ((!b2) && (decide (65 ≤ (c.toNat : Int)))) = true)), (12, ((!b2) = true → ((!b2) = true) ∧ ((decide (65 ≤ (c.toNat : Int))) = true → ((!b2) && (decide (65 ≤ (c.toNat : Int)))) = true))), (13, (b2 = false → (!b2) = true))]) [6, 7, 10, 11, 12, 13, 14, 15] [2] [] hk0 (vk 3 5 (a := .bool (decide (97 ≤ (c.toNat : Int)))) (b := .bool b1) (Imp.of_eq (by rw [hb1])) <| vk 7 9 (a := .bool (b1 && (decide ((c.toNat : Int) ≤ 122)))) (b := .bool b2) (Imp.of_eq (by rw [hb2])) <| vk 14 16 (a := .bool (b2 || ((decide (65 ≤ (c.toNat : Int))) && (decide ((c.toNat : Int) ≤ 90))))) (b := .bool b3) (Imp.of_eq (by rw [hb3])) <| v0) (by refine cc _ ?_ <| cc _ ?_ <| cc _ ?_ <| cc _ ?_ <| cc _ ?_ <| cc _ ?_ <| cc _ ?_ c0 <;> first | omega | (simp; omega) | (simp; done) | (intros; simp_all; omega) | (intros; simp_all; done)) ?_
 refine SW_ret ?_
 refine RK wR [(.bool b3)] ?_
 subst hb3 hb2 hb1
 refine Same.of_eq ?_
 simp only [pack]
 congr 1
 unfold letterD
 rw [Bool.eq_iff_iff]
 simp only [Bool.and_eq_true, Bool.or_eq_true, decide_eq_true_eq]
 omega
set_option maxHeartbeats 400000 in
set_option maxRecDepth 100000 in
theorem rdigitV (c : UInt8) :
  FnV Tryz.prog 208 [(.int .u8 ((c.toNat : Int)))] (.bool (digitD c)) := by
 refine FnV_intro [.tmp 2] Tryz.func208 rfl Tryz.ntmps208 rfl rfl (fun B F hF => ?_)
 refine SW_P [] [0] ?_
 obtain ⟨b1, hb1⟩ : ∃ b, b = (decide (48 ≤ (c.toNat : Int))) := ⟨_, rfl⟩
 refine SW_H (CS := [(4, (b1 = true → b1 = true)), (5, (b1 = true → b1 = true))]) [6, 7] [2] [] hk0 (vk 3 5 (a := .bool (decide (48 ≤ (c.toNat : Int)))) (b := .bool b1) (Imp.of_eq (by rw [hb1])) <| v0) (by refine cc _ ?_ <| cc _ ?_ c0 <;> first | omega | (simp; omega) | (simp; done) | (intros; simp_all; omega) | (intros; simp_all; done)) ?_
 refine SW_ret ?_
 refine RK wR [(.bool (b1 && (decide ((c.toNat : Int) ≤ 57))))] ?_
 subst hb1
 refine Same.of_eq ?_
 simp only [pack]
 congr 1
 unfold digitD
 rw [Bool.eq_iff_iff]
 simp only [Bool.and_eq_true, Bool.or_eq_true, decide_eq_true_eq]
 omega
set_option maxHeartbeats 400000 in
set_option maxRecDepth 100000 in
theorem inV (c : UInt8) (l : List UInt8) (hl : l.length ≤ 4611686018427387904) :
  FnV Tryz.prog 176 [(.int .u8 ((c.toNat : Int))), (.str l)] (.bool (l.contains c)) := by
 refine FnV_intro [.tmp 4] Tryz.func176 rfl Tryz.ntmps176 rfl rfl (fun B F hF => ?_)
 refine SW_P [] [0, 1] ?_
 refine SW_seq ?_
 refine SW_P [] [0, 1, 5] ?_
 refine SW_block ?_
 refine SW_L (fun g y => ∃ (k : Nat), k ≤ l.length ∧ l.contains c = (l.drop k).contains c ∧ y = ⟨[(0, (.int .u8 ((c.toNat : Int)))), (1, (.str l)), (5, (.int .i64 ((k : Int))))], [], 0⟩ ∧ g = l.length - k) [0, 1, 5] 0 _ (by omega) ⟨0, (by omega), (by rfl), (by kernel_rfl), rfl⟩ ?_
 rintro g1 y1 ⟨k, f1_1, f1_2, rfl, rfl⟩
 refine SW_seq ?_
 refine SW_P [] [0, 1, 5, 9] ?_
 refine SW_if (p := (k : Int) < (l.length : Int)) (by kernel_rfl) (fun c1 => ?_) (fun c1 => ?_)
 ·refine SW_skip ?_
  refine SW_seq ?_
  refine SW_block ?_
  refine SW_H [] [0, 1, 5, 16] [] hk0 v0 (cc 2 (p := (0 ≤ (k : Int) ∧ k < l.length)) (by first | omega | (simp; omega) | (simp; done) | (intros; simp_all; omega) | (intros; simp_all; done)) <| c0) ?_
  refine SW_if (p := ((byteAt l k).toNat : Int) = (c.toNat : Int)) (by kernel_rfl) (fun c2 => ?_) (fun c2 => ?_)
  ·refine SW_P [] [4] ?_
   refine SW_ret ?_
   refine RK wR [(.bool true)] ?_
   exact Same.of_eq (by rw [f1_2, drop_byte (by omega), show byteAt l k = c from UInt8.toNat_inj.1 (by omega)]; simp [pack])
  ·refine SW_skip ?_
   refine SW_reg ?_
   refine SO_HA 0 [] [0, 1, 5] [] hk0 v0 (cc 1 (p := (-9223372036854775808 ≤ (k : Int) + 1 ∧ (k : Int) + 1 ≤ 9223372036854775807)) (by first | omega | (simp; omega) | (simp; done) | (intros; simp_all; omega) | (intros; simp_all; done)) <| c0) ?_
   refine ⟨by kernel_rfl, _, ?_, k + 1, ?_, ?_, (by kernel_rfl), rfl⟩
   ·omega
   ·omega
   ·rw [f1_2, drop_byte (by omega), List.contains_cons]; have : ¬ c = byteAt l k := fun e => c2 (by rw [e]); simp [this]
 ·refine SW_exit ?_
  refine SW_P [] [4] ?_
  refine SW_ret ?_
  refine RK wR [(.bool false)] ?_
  exact Same.of_eq (by rw [f1_2, List.drop_of_length_le (by omega)]; rfl)
set_option maxHeartbeats 400000 in
set_option maxRecDepth 100000 in
theorem rmayV (l : List UInt8) (hl : l.length ≤ 4611686018427387904) :
  FnV Tryz.prog 174 [(.str l)] (.bool (l.all mayC && (decide (1 ≤ l.length) && decide (l.length ≤ 60)))) := by
 refine FnV_intro [.tmp 2] Tryz.func174 rfl Tryz.ntmps174 rfl rfl (fun B F hF => ?_)
 refine SW_P [] [0] ?_
 refine SW_seq ?_
 refine SW_P [] [0, 3] ?_
 refine SW_block ?_
 refine SW_L (fun g y => ∃ (k : Nat), k ≤ l.length ∧ (l.take k).all mayC = true ∧ y = ⟨[(0, (.str l)), (3, (.int .i64 ((k : Int))))], [], 0⟩ ∧ g = l.length - k) [0, 3] 0 _ (by omega) ⟨0, (by omega), (by rfl), (by kernel_rfl), rfl⟩ ?_
 rintro g1 y1 ⟨k, f1_1, f1_2, rfl, rfl⟩
 refine SW_seq ?_
 refine SW_P [] [0, 3, 9] ?_
 refine SW_if (p := (k : Int) < (l.length : Int)) (by kernel_rfl) (fun c1 => ?_) (fun c1 => ?_)
 ·refine SW_skip ?_
  refine SW_seq ?_
  refine SW_block ?_
  refine SW_H [] [0, 3, 4] [] (hk 3 en_207 (rletterV (byteAt l k)) <| hk0) v0 (cc 2 (p := (0 ≤ (k : Int) ∧ k < l.length)) (by first | omega | (simp; omega) | (simp; done) | (intros; simp_all; omega) | (intros; simp_all; done)) <| c0) ?_
  refine SW_H [] [0, 3, 4, 5] [] (hk 3 en_208 (rdigitV (byteAt l k)) <| hk0) v0 (cc 2 (p := (0 ≤ (k : Int) ∧ k < l.length)) (by first | omega | (simp; omega) | (simp; done) | (intros; simp_all; omega) | (intros; simp_all; done)) <| c0) ?_
  obtain ⟨b1, hb1⟩ : ∃ b, b = (!(letterD (byteAt l k))) := ⟨_, rfl⟩
  obtain ⟨b2, hb2⟩ : ∃ b, b = (b1 && (!(digitD (byteAt l k)))) := ⟨_, rfl⟩
  refine SW_H (CS := [(4, (b1 = true → b1 = true)), (5, (b1 = true → b1 = true)), (9, (b2 = true → (b2 = true ∧ b2 = true) ∧ (0 ≤ (k : Int) ∧ k < l.length))), (10, b2 = true → b2 = true), (11, (b2 = true → b2 = true)), (12, (b2 = true → b2 = true))]) [23, 24, 27, 28, 29, 31] [0, 3, 32] [] (hkg 10 b2 en_176 (fun cg => inV (byteAt l k) midL (by decide)) <| hk0) (vk 3 22 (a := .bool (!(letterD (byteAt l k)))) (b := .bool b1) (Imp.of_eq (by rw [hb1])) <| vk 7 26 (a := .bool (b1 && (!(digitD (byteAt l k))))) (b := .bool b2) (Imp.of_eq (by rw [hb2])) <| v0) (by refine cc _ ?_ <| cc _ ?_ <| cc _ ?_ <| cc _ ?_ <| cc _ ?_ <| cc _ ?_ c0 <;> first | omega | (simp; omega) | (simp; done) | (intros; simp_all; omega) | (intros; simp_all; done)) ?_
  refine SW_cond (q := b2 && (!(midL.contains (byteAt l k)))) (by kernel_rfl) (fun c2 => ?_) (fun c2 => ?_)
  ·subst hb2 hb1
   try simp only [Bool.and_eq_true, Bool.or_eq_true, Bool.and_eq_false_iff, Bool.or_eq_false_iff, Bool.not_eq_true', Bool.not_eq_false', decide_eq_true_eq, decide_eq_false_iff_not] at c2
   refine SW_P [] [2] ?_
   refine SW_ret ?_
   refine RK wR [(.bool false)] ?_
   exact Same.of_eq (by simp only [pack]; rw [all_no (p := mayC) (k := k) (by omega) (by show (digitD _ || (letterD _ || _)) = false; simp_all)]; rfl)
  ·subst hb2 hb1
   try simp only [Bool.and_eq_true, Bool.or_eq_true, Bool.and_eq_false_iff, Bool.or_eq_false_iff, Bool.not_eq_true', Bool.not_eq_false', decide_eq_true_eq, decide_eq_false_iff_not] at c2
   refine SW_skip ?_
   refine SW_reg ?_
   refine SO_HA 0 [] [0, 3] [] hk0 v0 (cc 1 (p := (-9223372036854775808 ≤ (k : Int) + 1 ∧ (k : Int) + 1 ≤ 9223372036854775807)) (by first | omega | (simp; omega) | (simp; done) | (intros; simp_all; omega) | (intros; simp_all; done)) <| c0) ?_
   refine ⟨by kernel_rfl, _, ?_, k + 1, ?_, ?_, (by kernel_rfl), rfl⟩
   ·omega
   ·omega
   ·refine all_take_snoc (by omega) f1_2 ?_
    show (digitD _ || (letterD _ || _)) = true; simp only [Bool.or_eq_true]; by_cases a1 : digitD (byteAt l k) = true <;> by_cases a2 : letterD (byteAt l k) = true <;> simp_all
 ·refine SW_exit ?_
  obtain ⟨b3, hb3⟩ : ∃ b, b = (decide (1 ≤ (l.length : Int))) := ⟨_, rfl⟩
  refine SW_H (CS := [(5, (b3 = true → b3 = true)), (6, (b3 = true → b3 = true)), (7, (b3 = true → b3 = true))]) [37, 38, 39] [2] [] hk0 (vk 4 36 (a := .bool (decide (1 ≤ (l.length : Int)))) (b := .bool b3) (Imp.of_eq (by rw [hb3])) <| v0) (by refine cc _ ?_ <| cc _ ?_ <| cc _ ?_ c0 <;> first | omega | (simp; omega) | (simp; done) | (intros; simp_all; omega) | (intros; simp_all; done)) ?_
  refine SW_ret ?_
  refine RK wR [(.bool (b3 && (decide ((l.length : Int) ≤ 60))))] ?_
  subst hb3
  have hall : l.all mayC = true := by rw [List.take_of_length_le (by omega)] at f1_2; exact f1_2
  exact Same.of_eq (by simp only [pack]; rw [hall, show decide ((1 : Int) ≤ (l.length : Int)) = decide (1 ≤ l.length) from decide_eq_decide.2 (by omega), show decide ((l.length : Int) ≤ 60) = decide (l.length ≤ 60) from decide_eq_decide.2 (by omega)]; rfl)
set_option maxHeartbeats 400000 in
set_option maxRecDepth 100000 in
theorem rdigitsV (l : List UInt8) (hl : l.length ≤ 4611686018427387904) :
  FnV Tryz.prog 175 [(.str l)] (.bool (digsB l)) := by
 refine FnV_intro [.tmp 2] Tryz.func175 rfl Tryz.ntmps175 rfl rfl (fun B F hF => ?_)
 refine SW_P [] [0] ?_
 refine SW_seq ?_
 refine SW_P [] [0, 3] ?_
 refine SW_block ?_
 refine SW_L (fun g y => ∃ (k : Nat), k ≤ l.length ∧ (l.take k).all digitC = true ∧ y = ⟨[(0, (.str l)), (3, (.int .i64 ((k : Int))))], [], 0⟩ ∧ g = l.length - k) [0, 3] 0 _ (by omega) ⟨0, (by omega), (by rfl), (by kernel_rfl), rfl⟩ ?_
 rintro g1 y1 ⟨k, f1_1, f1_2, rfl, rfl⟩
 refine SW_seq ?_
 refine SW_P [] [0, 3, 8] ?_
 refine SW_if (p := (k : Int) < (l.length : Int)) (by kernel_rfl) (fun c1 => ?_) (fun c1 => ?_)
 ·refine SW_skip ?_
  refine SW_seq ?_
  refine SW_block ?_
  refine SW_H [] [0, 3, 4] [] (hk 3 en_208 (rdigitV (byteAt l k)) <| hk0) v0 (cc 2 (p := (0 ≤ (k : Int) ∧ k < l.length)) (by first | omega | (simp; omega) | (simp; done) | (intros; simp_all; omega) | (intros; simp_all; done)) <| c0) ?_
  refine SW_P [] [0, 3, 16] ?_
  refine SW_cond (q := !(digitD (byteAt l k))) (by kernel_rfl) (fun c2 => ?_) (fun c2 => ?_)
  ·try simp only [Bool.and_eq_true, Bool.or_eq_true, Bool.and_eq_false_iff, Bool.or_eq_false_iff, Bool.not_eq_true', Bool.not_eq_false', decide_eq_true_eq, decide_eq_false_iff_not] at c2
   refine SW_P [] [2] ?_
   refine SW_ret ?_
   refine RK wR [(.bool false)] ?_
   exact Same.of_eq (by simp only [pack]; unfold digsB; rw [all_no (p := digitC) (k := k) (by omega) (by show digitD _ = false; simp_all)]; rfl)
  ·try simp only [Bool.and_eq_true, Bool.or_eq_true, Bool.and_eq_false_iff, Bool.or_eq_false_iff, Bool.not_eq_true', Bool.not_eq_false', decide_eq_true_eq, decide_eq_false_iff_not] at c2
   refine SW_skip ?_
   refine SW_reg ?_
   refine SO_HA 0 [] [0, 3] [] hk0 v0 (cc 1 (p := (-9223372036854775808 ≤ (k : Int) + 1 ∧ (k : Int) + 1 ≤ 9223372036854775807)) (by first | omega | (simp; omega) | (simp; done) | (intros; simp_all; omega) | (intros; simp_all; done)) <| c0) ?_
   refine ⟨by kernel_rfl, _, ?_, k + 1, ?_, ?_, (by kernel_rfl), rfl⟩
   ·omega
   ·omega
   ·refine all_take_snoc (by omega) f1_2 ?_
    show digitD _ = true; simp_all
 ·refine SW_exit ?_
  obtain ⟨b1, hb1⟩ : ∃ b, b = (decide (1 ≤ (l.length : Int))) := ⟨_, rfl⟩
  refine SW_H (CS := [(5, (b1 = true → b1 = true)), (6, (b1 = true → b1 = true)), (7, (b1 = true → b1 = true))]) [21, 22, 23] [2] [] hk0 (vk 4 20 (a := .bool (decide (1 ≤ (l.length : Int)))) (b := .bool b1) (Imp.of_eq (by rw [hb1])) <| v0) (by refine cc _ ?_ <| cc _ ?_ <| cc _ ?_ c0 <;> first | omega | (simp; omega) | (simp; done) | (intros; simp_all; omega) | (intros; simp_all; done)) ?_
  refine SW_ret ?_
  refine RK wR [(.bool (b1 && (decide ((l.length : Int) ≤ 9))))] ?_
  subst hb1
  have hall : l.all digitC = true := by rw [List.take_of_length_le (by omega)] at f1_2; exact f1_2
  exact Same.of_eq (by simp only [pack]; unfold digsB; rw [hall, show decide ((1 : Int) ≤ (l.length : Int)) = decide (1 ≤ l.length) from decide_eq_decide.2 (by omega), show decide ((l.length : Int) ≤ 9) = decide (l.length ≤ 9) from decide_eq_decide.2 (by omega)]; rfl)
set_option maxHeartbeats 1000000 in
set_option maxRecDepth 100000 in
theorem ref03ParseV (l : List UInt8) (hl : l.length ≤ 4611686018427387904) :
  FnV Tryz.prog 141 [(.str l)] (.tup [.agg [.str (evrP l).1, .str (evrP l).2.1, .str (evrP l).2.2], .int .i64 (evrE l)]) := by
 refine FnV_intro [.cell 2 136, .tmp 3] Tryz.func141 rfl Tryz.ntmps141 rfl rfl (fun B F hF => ?_)
 refine SW_P [] [0, 2] ?_
 refine SW_H [] [0, 2, 4] [] (hk 1 en_174 (rmayV l hl) <| hk0) v0 c0 ?_
 refine SW_seq ?_
 refine SW_P [] [0, 2, 12] ?_
 refine SW_cond (q := !(headB l)) (by kernel_rfl) (fun c1 => ?_) (fun c1 => ?_)
 ·try simp only [Bool.and_eq_true, Bool.or_eq_true, Bool.and_eq_false_iff, Bool.or_eq_false_iff, Bool.not_eq_true', Bool.not_eq_false', decide_eq_true_eq, decide_eq_false_iff_not] at c1
  refine SW_P [] [2, 3] ?_
  refine SW_ret ?_
  refine RK wR [(.agg [(.str []), (.str []), (.str [])]), (.int .i64 30)] ?_
  refine Same.of_eq ?_
  simp only [pack]
  have h0 : evrE l = 30 := evrE_head (by simpa using c1)
  have h1 : evrP l = ([], [], []) := evrP_bad h0.symm
  rw [h0, h1]
 ·try simp only [Bool.and_eq_true, Bool.or_eq_true, Bool.and_eq_false_iff, Bool.or_eq_false_iff, Bool.not_eq_true', Bool.not_eq_false', decide_eq_true_eq, decide_eq_false_iff_not] at c1
  have hh : headB l = true := by simpa using c1
  refine SW_skip ?_
  refine SW_P [] [0, 2, 5] ?_
  refine SW_C (fun y => ∃ (r : List UInt8) (ep : List UInt8), r = (if 0 ≤ Lib.indexByte l 58 then l.drop ((Lib.indexByte l 58).toNat + 1) else l) ∧ ep = (if 0 ≤ Lib.indexByte l 58 then l.take (Lib.indexByte l 58).toNat else []) ∧ (0 ≤ Lib.indexByte l 58 → digsB (l.take (Lib.indexByte l 58).toNat) = true) ∧ y = ⟨[(0, (.str r)), (2, (.ptr 0 0)), (5, (.ptr 1 0))], [(0, (.row [(.str []), (.str []), (.str [])] 136)), (1, (.row [(.str ep), (.str []), (.str [])] 136))], 2⟩) [0, 2, 5] 2 (by omega) ?_ ?_
  ·refine SW_P [] [0, 2, 5, 6] ?_
   refine SW_block ?_
   refine SW_L (fun g y => ∃ (i : Nat), i ≤ l.length ∧ IdxAt l 58 i ∧ y = ⟨[(0, (.str l)), (2, (.ptr 0 0)), (5, (.ptr 1 0)), (6, (.int .i64 ((i : Int))))], [(0, (.row [(.str []), (.str []), (.str [])] 136)), (1, (.row [(.str []), (.str []), (.str [])] 136))], 2⟩ ∧ g = l.length - i) [0, 2, 5, 6] 2 _ (by omega) ⟨0, (by omega), (by exact idx_start l 58), (by kernel_rfl), rfl⟩ ?_
   rintro g1 y1 ⟨i, f1_1, f1_2, rfl, rfl⟩
   refine SW_seq ?_
   refine SW_P [] [0, 2, 5, 6, 17] ?_
   refine SW_if (p := (i : Int) < (l.length : Int)) (by kernel_rfl) (fun c2 => ?_) (fun c2 => ?_)
   ·refine SW_skip ?_
    refine SW_seq ?_
    refine SW_block ?_
    refine SW_seq ?_
    refine SW_H [] [0, 2, 5, 6, 23] [] hk0 v0 (cc 2 (p := (0 ≤ (i : Int) ∧ i < l.length)) (by first | omega | (simp; omega) | (simp; done) | (intros; simp_all; omega) | (intros; simp_all; done)) <| c0) ?_
    refine SW_ifn (p := ((byteAt l i).toNat : Int) = 58) (by kernel_rfl) (fun c3 => ?_) (fun c3 => ?_)
    ·refine SW_exit ?_
     refine SW_reg ?_
     refine SO_HA 0 [] [0, 2, 5, 6] [] hk0 v0 (cc 1 (p := (-9223372036854775808 ≤ (i : Int) + 1 ∧ (i : Int) + 1 ≤ 9223372036854775807)) (by first | omega | (simp; omega) | (simp; done) | (intros; simp_all; omega) | (intros; simp_all; done)) <| c0) ?_
     refine ⟨by kernel_rfl, _, ?_, i + 1, ?_, ?_, (by kernel_rfl), rfl⟩
     ·omega
     ·omega
     ·exact idx_step f1_2 (by omega) (fun e => by rw [e] at c3; simp at c3)
    ·refine SW_skip ?_
     refine SW_H [] [0, 2, 5, 6, 7] [] (hk 3 en_175 (rdigitsV ((l.take i).drop 0) (by simp; omega)) <| hk0) v0 (cc 2 (p := (0 ≤ (0 : Int) ∧ (0 : Int) ≤ (i : Int) ∧ (i : Int) ≤ (l.length : Int))) (by first | omega | (simp; omega) | (simp; done) | (intros; simp_all; omega) | (intros; simp_all; done)) <| c0) ?_
     refine SW_seq ?_
     refine SW_P [] [0, 2, 5, 6, 29] ?_
     refine SW_cond (q := !(digsB ((l.take i).drop 0))) (by kernel_rfl) (fun c4 => ?_) (fun c4 => ?_)
     ·try simp only [Bool.and_eq_true, Bool.or_eq_true, Bool.and_eq_false_iff, Bool.or_eq_false_iff, Bool.not_eq_true', Bool.not_eq_false', decide_eq_true_eq, decide_eq_false_iff_not] at c4
      refine SW_P [] [2, 3] ?_
      refine SW_ret ?_
      refine RK wR [(.agg [(.str []), (.str []), (.str [])]), (.int .i64 30)] ?_
      refine Same.of_eq ?_
      simp only [pack]
      have h0 : evrE l = 30 := evrE_bad (idx_hit f1_2 (by omega) (UInt8.toNat_inj.1 (by show _ = 58; omega))) (by simpa using c4)
      have h1 : evrP l = ([], [], []) := evrP_bad h0.symm
      rw [h0, h1]
     ·try simp only [Bool.and_eq_true, Bool.or_eq_true, Bool.and_eq_false_iff, Bool.or_eq_false_iff, Bool.not_eq_true', Bool.not_eq_false', decide_eq_true_eq, decide_eq_false_iff_not] at c4
      refine SW_skip ?_
      refine SW_H [] [0, 2, 5, 6] [] hk0 v0 (cc 2 (p := (0 ≤ (0 : Int) ∧ (0 : Int) ≤ (i : Int) ∧ (i : Int) ≤ (l.length : Int))) (by first | omega | (simp; omega) | (simp; done) | (intros; simp_all; omega) | (intros; simp_all; done)) <| c0) ?_
      refine SW_H (CS := [(2, (-9223372036854775808 ≤ (i : Int) + 1 ∧ (i : Int) + 1 ≤ 9223372036854775807)), (3, (0 ≤ (i : Int) + 1 ∧ (i : Int) + 1 ≤ (l.length : Int) ∧ (l.length : Int) ≤ (l.length : Int)))]) [] [0, 2, 5] [] hk0 v0 (by refine cc _ ?_ <| cc _ ?_ c0 <;> first | omega | (simp; omega) | (simp; done) | (intros; simp_all; omega) | (intros; simp_all; done)) ?_
      refine SW_exit ?_
      refine ⟨by kernel_rfl, ((l.take l.length).drop (i + 1)), ((l.take i).drop 0), ?_, ?_, ?_, (by kernel_rfl)⟩
      all_goals have hz : Lib.indexByte l 58 = (i : Int) := idx_hit f1_2 (by omega) (UInt8.toNat_inj.1 (by show _ = 58; omega))
      all_goals rw [hz]
      ·rw [if_pos (by omega), List.take_length, Int.toNat_natCast]; try (congr 1; omega)
      ·rw [if_pos (by omega), Int.toNat_natCast]; simp
      ·intro _; rw [Int.toNat_natCast]; simpa using c4
   ·refine SW_exit ?_
    refine ⟨by kernel_rfl, l, [], ?_, ?_, ?_, (by kernel_rfl)⟩
    all_goals have hz : Lib.indexByte l 58 = -1 := idx_end f1_2 (by omega)
    all_goals rw [hz]
    ·rw [if_neg (by omega)]
    ·rw [if_neg (by omega)]
    ·intro h; exact absurd h (by omega)
  ·rintro y1 ⟨r, ep, hr, hep, hdg, rfl⟩
   have hrl : r.length ≤ l.length := by rw [hr]; split <;> simp
   refine SW_P [] [0, 2, 5] ?_
   refine SW_C (fun y => ∃ (v : List UInt8) (rl : List UInt8), v = (if 0 ≤ lastBefore r 45 r.length then r.take (lastBefore r 45 r.length).toNat else r) ∧ rl = (if 0 ≤ lastBefore r 45 r.length then r.drop ((lastBefore r 45 r.length).toNat + 1) else []) ∧ (0 ≤ lastBefore r 45 r.length → ¬ rl = []) ∧ y = ⟨[(0, (.str r)), (2, (.ptr 0 0)), (5, (.ptr 1 0))], [(0, (.row [(.str []), (.str []), (.str [])] 136)), (1, (.row [(.str ep), (.str v), (.str rl)] 136))], 2⟩) [0, 2, 5] 2 (by omega) ?_ ?_
   ·refine SW_H [] [0, 2, 5, 8] [] hk0 v0 (cc 2 (p := (-9223372036854775808 ≤ (r.length : Int) - 1 ∧ (r.length : Int) - 1 ≤ 9223372036854775807)) (by first | omega | (simp; omega) | (simp; done) | (intros; simp_all; omega) | (intros; simp_all; done)) <| c0) ?_
    refine SW_block ?_
    refine SW_L (fun g y => ∃ (k : Nat), k ≤ r.length ∧ lastBefore r 45 r.length = lastBefore r 45 k ∧ y = ⟨[(0, (.str r)), (2, (.ptr 0 0)), (5, (.ptr 1 0)), (8, (.int .i64 ((k : Int) - 1)))], [(0, (.row [(.str []), (.str []), (.str [])] 136)), (1, (.row [(.str ep), (.str r), (.str [])] 136))], 2⟩ ∧ g = k + 1) [0, 2, 5, 8] 2 _ (by omega) ⟨r.length, (by omega), (by rfl), (by kernel_rfl), rfl⟩ ?_
    rintro g2 y2 ⟨k, f2_1, f2_2, rfl, rfl⟩
    refine SW_seq ?_
    refine SW_P [] [0, 2, 5, 8, 45] ?_
    refine SW_if (p := 0 ≤ ((k : Int) - 1)) (by kernel_rfl) (fun c5 => ?_) (fun c5 => ?_)
    ·refine SW_skip ?_
     refine SW_seq ?_
     refine SW_block ?_
     refine SW_H [] [0, 2, 5, 8, 51] [] hk0 v0 (cc 2 (p := (0 ≤ (k : Int) - 1 ∧ ((k : Int) - 1).toNat < r.length)) (by first | omega | (simp; omega) | (simp; done) | (intros; simp_all; omega) | (intros; simp_all; done)) <| c0) ?_
     refine SW_if (p := ((byteAt r (((k : Int) - 1).toNat)).toNat : Int) = 45) (by kernel_rfl) (fun c6 => ?_) (fun c6 => ?_)
     ·have hk1 : ((k : Int) - 1).toNat = k - 1 := by omega
      rw [hk1] at c6
      refine SW_H [] [0, 2, 5, 8] [] hk0 v0 (cc 2 (p := (0 ≤ (0 : Int) ∧ (0 : Int) ≤ (k : Int) - 1 ∧ (k : Int) - 1 ≤ (r.length : Int))) (by first | omega | (simp; omega) | (simp; done) | (intros; simp_all; omega) | (intros; simp_all; done)) <| c0) ?_
      refine SW_H (CS := [(2, (-9223372036854775808 ≤ ((k : Int) - 1) + 1 ∧ ((k : Int) - 1) + 1 ≤ 9223372036854775807)), (3, (0 ≤ ((k : Int) - 1) + 1 ∧ ((k : Int) - 1) + 1 ≤ (r.length : Int) ∧ (r.length : Int) ≤ (r.length : Int)))]) [] [0, 2, 5] [] hk0 v0 (by refine cc _ ?_ <| cc _ ?_ c0 <;> first | omega | (simp; omega) | (simp; done) | (intros; simp_all; omega) | (intros; simp_all; done)) ?_
      refine SW_seq ?_
      refine SW_P [] [0, 2, 5, 63] ?_
      refine SW_if (p := (r.take r.length).drop ((((k : Int) - 1) + 1).toNat) = []) (by kernel_rfl) (fun c7 => ?_) (fun c7 => ?_)
      ·refine SW_P [] [2, 3] ?_
       refine SW_ret ?_
       refine RK wR [(.agg [(.str []), (.str []), (.str [])]), (.int .i64 30)] ?_
       refine Same.of_eq ?_
       simp only [pack]
       have h0 : evrE l = 30 := by
        have hy : lastBefore r 45 r.length = ((k - 1 : Nat) : Int) := by rw [f2_2, lastBefore_pos (by omega), if_pos (UInt8.toNat_inj.1 (by show _ = 45; omega))]
        exact evr_rel_bad hh hr hdg (by omega) (by rw [hy, Int.toNat_natCast, ← c7]; simp; congr 1; omega)
       have h1 : evrP l = ([], [], []) := evrP_bad h0.symm
       rw [h0, h1]
      ·refine SW_skip ?_
       refine SW_exit ?_
       refine ⟨by kernel_rfl, ((r.take (((k : Int) - 1).toNat)).drop 0), ((r.take r.length).drop ((((k : Int) - 1) + 1).toNat)), ?_, ?_, ?_, (by kernel_rfl)⟩
       all_goals have hy : lastBefore r 45 r.length = ((k - 1 : Nat) : Int) := by rw [f2_2, lastBefore_pos (by omega), if_pos (UInt8.toNat_inj.1 (by show _ = 45; omega))]
       all_goals rw [hy]
       ·rw [if_pos (by omega), Int.toNat_natCast]; simp; try (congr 1; omega)
       ·rw [if_pos (by omega), Int.toNat_natCast]; simp; try (congr 1; omega)
       ·exact fun _ => c7
     ·have hk1 : ((k : Int) - 1).toNat = k - 1 := by omega
      rw [hk1] at c6
      refine SW_skip ?_
      refine SW_reg ?_
      refine SO_HA 0 [] [0, 2, 5, 8] [] hk0 v0 (cc 1 (p := (-9223372036854775808 ≤ ((k : Int) - 1) - 1 ∧ ((k : Int) - 1) - 1 ≤ 9223372036854775807)) (by first | omega | (simp; omega) | (simp; done) | (intros; simp_all; omega) | (intros; simp_all; done)) <| c0) ?_
      refine ⟨by kernel_rfl, _, ?_, (k - 1), ?_, ?_, (Eq.trans (b := (⟨[(0, (.str r)), (2, (.ptr 0 0)), (5, (.ptr 1 0)), (8, (.int .i64 (((k : Int) - 1) - 1)))], [(0, (.row [(.str []), (.str []), (.str [])] 136)), (1, (.row [(.str ep), (.str r), (.str [])] 136))], 2⟩ : St)) (by kernel_rfl) (by rw [show (k : Int) - 1 - 1 = ((k - 1 : Nat) : Int) - 1 from by omega])), rfl⟩
      ·omega
      ·omega
      ·rw [f2_2, lastBefore_pos (by omega), if_neg (fun e => c6 (by rw [e]; rfl))]
    ·refine SW_exit ?_
     refine ⟨by kernel_rfl, r, [], ?_, ?_, ?_, (by kernel_rfl)⟩
     all_goals have hy : lastBefore r 45 r.length = -1 := by rw [f2_2, show k = 0 by omega]; rfl
     all_goals rw [hy]
     ·rw [if_neg (by omega)]
     ·rw [if_neg (by omega)]
     ·intro h; exact absurd h (by omega)
   ·rintro y2 ⟨v, rl, hv, hrr, hnn, rfl⟩
    refine SW_seq ?_
    obtain ⟨b1, hb1⟩ : ∃ b, b = (decide (v = [])) := ⟨_, rfl⟩
    refine SW_H (CS := [(5, (!b1) = true → (!b1) = true), (6, (b1 = false → (!b1) = true))]) [69] [2, 5, 71] [] (hkg 5 (!b1) en_176 (fun cg => inV 58 r (by omega)) <| hk0) (vk 4 68 (a := .bool (decide (v = []))) (b := .bool b1) (Imp.of_eq (by rw [hb1])) <| v0) (by refine cc _ ?_ <| cc _ ?_ c0 <;> first | omega | (simp; omega) | (simp; done) | (intros; simp_all; omega) | (intros; simp_all; done)) ?_
    refine SW_cond (q := b1 || (r.contains 58)) (by kernel_rfl) (fun c8 => ?_) (fun c8 => ?_)
    ·subst hb1
     try simp only [Bool.and_eq_true, Bool.or_eq_true, Bool.and_eq_false_iff, Bool.or_eq_false_iff, Bool.not_eq_true', Bool.not_eq_false', decide_eq_true_eq, decide_eq_false_iff_not] at c8
     refine SW_P [] [2, 3] ?_
     refine SW_ret ?_
     refine RK wR [(.agg [(.str []), (.str []), (.str [])]), (.int .i64 30)] ?_
     refine Same.of_eq ?_
     simp only [pack]
     have h0 : evrE l = 30 := by rw [(evr_fin hh hr hep hdg hv hrr hnn).1, if_pos (by simpa using c8)]
     have h1 : evrP l = ([], [], []) := evrP_bad h0.symm
     rw [h0, h1]
    ·subst hb1
     try simp only [Bool.and_eq_true, Bool.or_eq_true, Bool.and_eq_false_iff, Bool.or_eq_false_iff, Bool.not_eq_true', Bool.not_eq_false', decide_eq_true_eq, decide_eq_false_iff_not] at c8
     refine SW_skip ?_
     refine SW_P [] [2, 3] ?_
     refine SW_ret ?_
     refine RK wR [(.agg [(.str ep), (.str v), (.str rl)]), (.int .i64 0)] ?_
     have hf := evr_fin hh hr hep hdg hv hrr hnn
     have h0 : evrE l = 0 := by rw [hf.1, if_neg (by simpa using c8)]
     exact Same.of_eq (by simp only [pack]; rw [evrP_ok h0.symm, hf.2, h0])
end Sv
end Go.Proofs.YtlfjokcbkopfeaaGreatDoor
end
section
namespace Go.Proofs.YtlfjokcbkopfeaaGreatDoor
open Go Go.RowKit
set_option linter.unusedSimpArgs false
set_option linter.unusedVariables false
structure PkgT where
  name : List UInt8
  evr : List UInt8
  arch : List UInt8
  vendor : List UInt8
  provides : List DepT
  requires : List DepT
  pre : List DepT
  conflicts : List DepT
  obsoletes : List DepT
  recommends : List DepT
  supplements : List DepT
  files : List (List UInt8)
  deriving Inhabited
structure RepoT where
  name : List UInt8
  prio : Int
  inst : Bool
  pkgs : List PkgT
  deriving Inhabited
def PkgT.depSize (p : PkgT) : Nat := argsSize p.provides + argsSize p.requires + argsSize p.pre + argsSize p.conflicts + argsSize p.obsoletes + argsSize p.recommends + argsSize p.supplements
def filesSize : List (List UInt8) → Nat
  | [] => 0
  | x :: r => 1 + x.length + filesSize r
theorem files_len : ∀ l : List (List UInt8), l.length ≤ filesSize l
  | [] => Nat.zero_le _
  | x :: r => by have := files_len r; simp only [filesSize, List.length_cons]; omega
theorem file_len : ∀ {l : List (List UInt8)} {i : Nat}, i < l.length → (nth l i).length ≤ filesSize l
  | [], _, h => by simp at h
  | x :: r, 0, _ => by simp only [filesSize]; show x.length ≤ _; omega
  | x :: r, i + 1, h => by
    have := file_len (l := r) (i := i) (by simpa using h)
    simp only [filesSize]; show (nth r i).length ≤ _; omega
def PkgT.size (p : PkgT) : Nat := 1 + p.name.length + p.evr.length + p.arch.length + p.vendor.length + p.depSize + filesSize p.files
theorem PkgT.sizes (p : PkgT) : p.name.length ≤ p.size ∧ p.evr.length ≤ p.size ∧ p.arch.length ≤ p.size ∧ p.vendor.length ≤ p.size ∧ p.depSize ≤ p.size ∧ filesSize p.files ≤ p.size := by
  unfold PkgT.size; omega
namespace Sv
noncomputable def pkgX (p : PkgT) : AV := .agg [.str p.name, .str p.evr, .str p.arch, .str p.vendor, deps p.provides, deps p.requires, deps p.pre, deps p.conflicts, deps p.obsoletes, deps p.recommends, deps p.supplements, strs p.files]
noncomputable def repoX (r : RepoT) : AV := .agg [.str r.name, .int .i64 r.prio, .bool r.inst, rowOf 12 pkgX r.pkgs]
theorem set_self {α β : Type} [Inhabited α] (f : α → β) (l : List α) (i : Nat) : (l.map f).set i (f (nth l i)) = l.map f := by
  refine List.ext_getElem? fun j => ?_
  rw [List.getElem?_set]
  by_cases h : i = j
  · subst h
    by_cases hi : i < l.length
    · simp [hi, nth]
    · rw [if_pos rfl, if_neg (by simpa using hi), List.getElem?_eq_none (by simpa using hi)]
  · rw [if_neg h]
theorem get_map {α β : Type} [Inhabited α] (f : α → β) {l : List α} {i : Nat} (h : i < l.length) : (l.map f)[i]? = some (f (nth l i)) := by simp [nth, h]
theorem size_args (d : DepT) : argsSize d.args + 1 + d.name.length + d.evr.length = d.size := by cases d; simp only [DepT.size, DepT.args, DepT.name, DepT.evr]
theorem args_len : ∀ l : List DepT, l.length ≤ argsSize l
  | [] => Nat.zero_le _
  | d :: r => by
    have := args_len r
    have : 1 ≤ d.size := by cases d; simp only [DepT.size]; omega
    simp only [argsSize, List.length_cons]; omega
theorem args_nth_size {l : List DepT} {i : Nat} (h : i < l.length) : argsSize (nth l i).args < argsSize l := by
  have h1 := argsSize_nth (l := l) (i := i) h
  have h2 := size_args (nth l i)
  omega
theorem range_all {α β : Type} [Inhabited α] {l : List α} (f : α → β) : (List.range l.length).map (fun k => f (nth l k)) = l.map f := by
  refine List.ext_getElem (by simp) fun j h1 h2 => ?_
  simp only [List.length_map, List.length_range] at h1
  simp [nth, h1]
theorem own_start {α : Type} [Inhabited α] (f : α → AV) (l : List α) : ([] : List AV) ++ (List.range l.length).map (fun k => f (nth l k)) = l.map f := by rw [List.nil_append, range_all]
end Sv
end Go.Proofs.YtlfjokcbkopfeaaGreatDoor
end
section
namespace Go.Proofs.YtlfjokcbkopfeaaGreatDoor
open Go Go.RowKit
namespace Sv
attribute [local irreducible] SW SO holds
def idxF {α : Type} (p : α → Bool) : List α → Int
 | [] => -1
 | x :: r => if p x then 0 else if idxF p r < 0 then -1 else idxF p r + 1
theorem idxF_le {α : Type} (p : α → Bool) : ∀ l : List α, -1 ≤ idxF p l ∧ idxF p l < l.length
 | [] => by simp [idxF]
 | x :: r => by
  have := idxF_le p r
  unfold idxF
  simp only [List.length_cons]
  split
  ·omega
  ·split <;> omega
theorem idxF_at {α : Type} [Inhabited α] {p : α → Bool} : ∀ {l : List α} {i : Nat}, i < l.length → (∀ j, j < i → p (nth l j) = false) → p (nth l i) = true → idxF p l = (i : Int)
 | [], _, h, _, _ => by simp at h
 | x :: r, 0, _, _, h => by
  have : p x = true := h
  simp [idxF, this]
 | x :: r, i + 1, hi, h, hp => by
  have h0 : p x = false := h 0 (by omega)
  have := idxF_at (l := r) (i := i) (by simpa using hi) (fun j hj => h (j + 1) (by omega)) hp
  unfold idxF
  rw [if_neg (by simp [h0]), this, if_neg (by omega)]; omega
theorem idxF_no {α : Type} [Inhabited α] {p : α → Bool} : ∀ {l : List α}, (∀ j, j < l.length → p (nth l j) = false) → idxF p l = -1
 | [], _ => rfl
 | x :: r, h => by
  have h0 : p x = false := h 0 (by simp)
  have := idxF_no (l := r) (fun j hj => h (j + 1) (by simpa using hj))
  unfold idxF
  rw [if_neg (by simp [h0]), this]; rfl
theorem idxF_any {α : Type} (p : α → Bool) : ∀ l : List α, decide (0 ≤ idxF p l) = l.any p
 | [] => rfl
 | x :: r => by
  have := idxF_any p r
  unfold idxF
  rw [List.any_cons, ← this]
  split
  ·rename_i h; simp [h]
  ·rename_i h
   have h' : p x = false := by simpa using h
   rw [h', Bool.false_or]
   split
   ·rename_i h2; rw [decide_eq_false (by omega), decide_eq_false (by omega)]
   ·rename_i h2; rw [decide_eq_true (by omega), decide_eq_true (by omega)]
theorem formB_name {d : DepT} (h : d.kind = 1) : formB d = formName d.name d.op d.evr d.args.length := by cases d; unfold formB; exact if_pos h
theorem formB_not {d : DepT} (h : ¬ d.kind = 1) : formB d = (!formBad d.kind d.name d.op d.evr d.args.length && argsForm d.kind d.args) := by cases d; unfold formB; exact if_neg h
theorem partsN_one {d : DepT} (h : d.kind = 1) : partsN d = 1 := by cases d; unfold partsN; exact if_pos h
theorem partsN_not {d : DepT} (h : ¬ d.kind = 1) : partsN d = argsParts d.args := by cases d; unfold partsN; exact if_neg h
theorem namesN_eq (d : DepT) : namesN d = (if d.kind = 1 then 1 else 0) + argsNames d.args := by cases d; unfold namesN; rfl
theorem most_at (k : Int) : (alook [((4 : Int), (3 : Int)), (6, 2)] k).getD 0 = mostN k := by
 have := most_look k
 have e : aput (aput ([] : List (Int × Int)) 4 3) 6 2 = [(4, 3), (6, 2)] := rfl
 rw [e] at this
 cases h : alook [((4 : Int), (3 : Int)), (6, 2)] k <;> simp_all
set_option maxHeartbeats 400000 in
set_option maxRecDepth 100000 in
theorem depF_idx (l : List DepT) (a : AV) (p : DepT → Bool) (hl : l.length ≤ 4611686018427387904) (ha : ∀ i, i < l.length → FunV Tryz.prog a [(.agg [(.int .i64 ((nth l i).kind)), (.str ((nth l i).name)), (.int .i64 ((nth l i).op)), (.str ((nth l i).evr)), (.row 5 (nth l i).args.length (depAt (nth l i).args))])] (.bool (p (nth l i)))) :
  FnV Tryz.prog 132 [(rowOf 5 depX l), (.clo a)] (.int .i64 (idxF p l)) := by
 refine FnV_intro [.tmp 4] Tryz.func132 rfl Tryz.ntmps132 rfl rfl (fun B F hF => ?_)
 refine SW_P [] [0, 1] ?_
 refine SW_seq ?_
 refine SW_P [] [0, 1, 7, 8] ?_
 refine SW_block ?_
 refine SW_L (fun g y => ∃ (i : Nat), i ≤ l.length ∧ (∀ j, j < i → p (nth l j) = false) ∧ y = ⟨[(0, (rowOf 5 depX l)), (1, (.clo a)), (7, (.int .i64 ((l.length : Int)))), (8, (.int .i64 ((i : Int))))], [], 0⟩ ∧ g = l.length - i) [0, 1, 7, 8] 0 _ (by omega) ⟨0, (by omega), (by exact fun j hj => by omega), (by kernel_rfl), rfl⟩ ?_
 rintro g1 y1 ⟨i, f1_1, f1_2, rfl, rfl⟩
 refine SW_P [] [0, 1, 7, 8, 9] ?_
 refine SW_seq ?_
 refine SW_if (p := (i : Int) < (l.length : Int)) (by kernel_rfl) (fun c1 => ?_) (fun c1 => ?_)
 ·refine SW_skip ?_
  refine SW_seq ?_
  refine SW_block ?_
  refine SW_P [] [0, 1, 5, 7, 8] ?_
  refine SW_seq ?_
  refine SW_reg ?_
  refine SO_H 5 0 [] [0, 1, 5, 7, 8, 11, 15] [] hk0 v0 (cc 3 (p := (0 ≤ (i : Int) ∧ i < l.length)) (by first | omega | (simp; omega) | (simp; done) | (intros; simp_all; omega) | (intros; simp_all; done)) <| c0) ?_
  refine SO_callA (s' := [(0, (rowOf 5 depX l)), (1, (.clo a)), (5, (.int .i64 ((i : Int)))), (7, (.int .i64 ((l.length : Int)))), (8, (.int .i64 ((i : Int)))), (11, (.clo a)), (15, (.agg [(.int .i64 ((nth l i).kind)), (.str ((nth l i).name)), (.int .i64 ((nth l i).op)), (.str ((nth l i).evr)), (.row 5 (nth l i).args.length (depAt (nth l i).args))])), (16, (.bool (p (nth l i))))]) (a := (.clo a)) (al := [(.agg [(.int .i64 ((nth l i).kind)), (.str ((nth l i).name)), (.int .i64 ((nth l i).op)), (.str ((nth l i).evr)), (.row 5 (nth l i).args.length (depAt (nth l i).args))])]) (r := (.bool (p (nth l i)))) (by kernel_rfl) (by kernel_rfl) (by kernel_rfl) (by kernel_rfl) (by kernel_rfl) ((ha i (by omega)).clo) (by kernel_rfl) ?_
  refine SO_nil ?_
  refine SW_cond (q := p (nth l i)) (by kernel_rfl) (fun c2 => ?_) (fun c2 => ?_)
  ·try simp only [Bool.and_eq_true, Bool.or_eq_true, Bool.and_eq_false_iff, Bool.or_eq_false_iff, Bool.not_eq_true', Bool.not_eq_false', decide_eq_true_eq, decide_eq_false_iff_not] at c2
   refine SW_P [] [4] ?_
   refine SW_ret ?_
   refine RK wR [(.int .i64 ((i : Int)))] ?_
   exact Same.of_eq (by rw [idxF_at (by omega) f1_2 (by simp_all)]; rfl)
  ·try simp only [Bool.and_eq_true, Bool.or_eq_true, Bool.and_eq_false_iff, Bool.or_eq_false_iff, Bool.not_eq_true', Bool.not_eq_false', decide_eq_true_eq, decide_eq_false_iff_not] at c2
   refine SW_skip ?_
   refine SW_reg ?_
   refine SO_HA 0 [] [0, 1, 7, 8] [] hk0 v0 (cc 0 (p := (-9223372036854775808 ≤ (i : Int) + 1 ∧ (i : Int) + 1 ≤ 9223372036854775807)) (by first | omega | (simp; omega) | (simp; done) | (intros; simp_all; omega) | (intros; simp_all; done)) <| c0) ?_
   refine ⟨by kernel_rfl, _, ?_, i + 1, ?_, ?_, (by kernel_rfl), rfl⟩
   ·omega
   ·omega
   ·intro j hj
    by_cases h : j = i
    ·subst h; simp_all
    ·exact f1_2 j (by omega)
 ·refine SW_exit ?_
  refine SW_P [] [4] ?_
  refine SW_ret ?_
  refine RK wR [(.int .i64 (-1))] ?_
  exact Same.of_eq (by rw [idxF_no (fun j hj => f1_2 j (by omega))]; rfl)
set_option maxHeartbeats 400000 in
set_option maxRecDepth 100000 in
theorem depF_has (l : List DepT) (a : AV) (p : DepT → Bool) (hl : l.length ≤ 4611686018427387904) (ha : ∀ i, i < l.length → FunV Tryz.prog a [(.agg [(.int .i64 ((nth l i).kind)), (.str ((nth l i).name)), (.int .i64 ((nth l i).op)), (.str ((nth l i).evr)), (.row 5 (nth l i).args.length (depAt (nth l i).args))])] (.bool (p (nth l i)))) :
  FnV Tryz.prog 83 [(rowOf 5 depX l), (.clo a)] (.bool (l.any p)) := by
 refine FnV_intro [.tmp 4] Tryz.func83 rfl Tryz.ntmps83 rfl rfl (fun B F hF => ?_)
 refine SW_P [] [0, 1] ?_
 refine SW_H [] [4] [] (hk 2 en_132 (depF_idx l a p hl ha) <| hk0) v0 c0 ?_
 refine SW_ret ?_
 refine RK wR [(.bool (decide (0 ≤ (idxF p l))))] ?_
 exact Same.of_eq (by simp only [pack]; rw [idxF_any])
set_option maxHeartbeats 400000 in
set_option maxRecDepth 100000 in
theorem formc_ok (a d : DepT) (ih : FnV Tryz.prog 66 [depX a] (.bool (formB a))) :
  FnV Tryz.prog 124 [(.agg [(.int .i64 a.kind), (.str a.name), (.int .i64 a.op), (.str a.evr), (.row 5 a.args.length (depAt a.args))]), (.fp (.agg [(.int .i64 d.kind), (.str d.name), (.int .i64 d.op), (.str d.evr), (.row 5 d.args.length (depAt d.args))]))] (.bool (formP d.kind a)) := by
 refine FnV_intro [.tmp 3] Tryz.func124 rfl Tryz.ntmps124 rfl rfl (fun B F hF => ?_)
 refine SW_H [] [1, 2] [(1, 2)] hk0 v0 c0 ?_
 obtain ⟨b1, hb1⟩ : ∃ b, b = (decide (a.kind = 1)) := ⟨_, rfl⟩
 obtain ⟨b2, hb2⟩ : ∃ b, b = (b1 || (decide (a.kind = 5))) := ⟨_, rfl⟩
 refine SW_H (CS := [(5, ((!b1) = true → (!b1) = true)), (6, ((!b1) = true → (!b1) = true)), (7, (b1 = false → (!b1) = true)), (10, ((!b2) = true → (!b2) = true)), (11, ((!b2) = true → (!b2) = true)), (12, (b2 = false → (!b2) = true))]) [9, 10, 11, 14, 15, 16] [1, 2, 4] [] hk0 (vk 4 8 (a := .bool (decide (a.kind = 1))) (b := .bool b1) (Imp.of_eq (by rw [hb1])) <| vk 9 13 (a := .bool (b1 || (decide (a.kind = 5)))) (b := .bool b2) (Imp.of_eq (by rw [hb2])) <| v0) (by refine cc _ ?_ <| cc _ ?_ <| cc _ ?_ <| cc _ ?_ <| cc _ ?_ <| cc _ ?_ c0 <;> first | omega | (simp; omega) | (simp; done) | (intros; simp_all; omega) | (intros; simp_all; done)) ?_
 obtain ⟨b3, hb3⟩ : ∃ b, b = (decide (5 ≤ d.kind)) := ⟨_, rfl⟩
 obtain ⟨b4, hb4⟩ : ∃ b, b = (b3 && (!(b2 || (decide (a.kind = 6))))) := ⟨_, rfl⟩
 refine SW_H (CS := [(5, (b3 = true → b3 = true)), (6, (b3 = true → b3 = true)), (9, (!b4) = true → (!b4) = true), (10, ((!b4) = true → (!b4) = true)), (11, (b4 = false → (!b4) = true))]) [22, 23, 26, 28] [3] [] (hkg 9 (!b4) en_66 (fun cg => ih) <| hk0) (vk 4 21 (a := .bool (decide (5 ≤ d.kind))) (b := .bool b3) (Imp.of_eq (by rw [hb3])) <| vk 8 25 (a := .bool (b3 && (!(b2 || (decide (a.kind = 6)))))) (b := .bool b4) (Imp.of_eq (by rw [hb4])) <| v0) (by refine cc _ ?_ <| cc _ ?_ <| cc _ ?_ <| cc _ ?_ <| cc _ ?_ c0 <;> first | omega | (simp; omega) | (simp; done) | (intros; simp_all; omega) | (intros; simp_all; done)) ?_
 refine SW_ret ?_
 refine RK wR [(.bool (b4 || (!(formB a))))] ?_
 subst hb4 hb3 hb2 hb1
 refine Same.of_eq ?_
 simp only [pack]
 congr 1
 unfold formP kindOK
 rw [Bool.eq_iff_iff]
 simp only [Bool.and_eq_true, Bool.or_eq_true, Bool.not_eq_true', Bool.and_eq_false_iff, Bool.or_eq_false_iff, decide_eq_true_eq, decide_eq_false_iff_not]
 cases formB a <;> simp <;> omega
set_option maxHeartbeats 1000000 in
set_option maxRecDepth 100000 in
theorem formV_step (d : DepT) (hs : d.size ≤ 4194304) (ih : ∀ i, i < d.args.length → FnV Tryz.prog 66 [depX (nth d.args i)] (.bool (formB (nth d.args i)))) :
  FnV Tryz.prog 66 [(.agg [(.int .i64 d.kind), (.str d.name), (.int .i64 d.op), (.str d.evr), (.row 5 d.args.length (depAt d.args))])] (.bool (formB d)) := by
 have hda := size_args d
 have hal := args_len d.args
 refine FnV_intro [.tmp 2] Tryz.func66 rfl Tryz.ntmps66 rfl rfl (fun B F hF => ?_)
 refine SW_H [] [1] [(1, 1)] hk0 v0 c0 ?_
 refine SW_seq ?_
 refine SW_P [] [1, 8] ?_
 refine SW_if (p := d.kind = 1) (by kernel_rfl) (fun c1 => ?_) (fun c1 => ?_)
 ·refine SW_H [] [1, 4] [(8, 3)] (hk 2 en_102 (evrParseV d.evr (by omega)) <| hk0) v0 c0 ?_
  obtain ⟨b1, hb1⟩ : ∃ b, b = ((nameB d.name) && (decide ((d.args.length : Int) = 0))) := ⟨_, rfl⟩
  obtain ⟨b2, hb2⟩ : ∃ b, b = (b1 && (((decide (d.op = 0)) && (decide (d.evr = []))) || (((decide (1 ≤ d.op)) && (decide (d.op ≤ 7))) && (decide ((evrE d.evr) = 0))))) := ⟨_, rfl⟩
  have qh1 : (((nameB d.name) = true → (nameB d.name) = true)) ∧ (((nameB d.name) = true → (nameB d.name) = true)) ∧ (((nameB d.name) = true → (nameB d.name) = true)) ∧ (((nameB d.name) = true → (nameB d.name) = true)) ∧ ((b1 = true → b1 = true)) ∧ ((b1 = true → b1 = true)) ∧ ((b1 = true → b1 = true)) ∧ (((b1 && (decide (d.op = 0))) = true → (b1 && (decide (d.op = 0))) = true)) ∧ (((b1 && (decide (d.op = 0))) = true → (b1 && (decide (d.op = 0))) = true)) ∧ ((b1 = true → (b1 = true) ∧ ((decide (d.op = 0)) = true → (b1 && (decide (d.op = 0))) = true))) ∧ ((b1 = true → b1 = true)) ∧ (((b1 && (!((decide (d.op = 0)) && (decide (d.evr = []))))) = true → (b1 && (!((decide (d.op = 0)) && (decide (d.evr = []))))) = true)) ∧ (((b1 && (!((decide (d.op = 0)) && (decide (d.evr = []))))) = true → (b1 && (!((decide (d.op = 0)) && (decide (d.evr = []))))) = true)) ∧ (((b1 && (!((decide (d.op = 0)) && (decide (d.evr = []))))) = true → (b1 && (!((decide (d.op = 0)) && (decide (d.evr = []))))) = true)) ∧ ((((b1 && (!((decide (d.op = 0)) && (decide (d.evr = []))))) && (decide (1 ≤ d.op))) = true → ((b1 && (!((decide (d.op = 0)) && (decide (d.evr = []))))) && (decide (1 ≤ d.op))) = true)) ∧ ((((b1 && (!((decide (d.op = 0)) && (decide (d.evr = []))))) && (decide (1 ≤ d.op))) = true → ((b1 && (!((decide (d.op = 0)) && (decide (d.evr = []))))) && (decide (1 ≤ d.op))) = true)) ∧ (((b1 && (!((decide (d.op = 0)) && (decide (d.evr = []))))) = true → ((b1 && (!((decide (d.op = 0)) && (decide (d.evr = []))))) = true) ∧ ((decide (1 ≤ d.op)) = true → ((b1 && (!((decide (d.op = 0)) && (decide (d.evr = []))))) && (decide (1 ≤ d.op))) = true))) ∧ (((b1 && (!((decide (d.op = 0)) && (decide (d.evr = []))))) = true → (b1 && (!((decide (d.op = 0)) && (decide (d.evr = []))))) = true)) ∧ ((((b1 && (!((decide (d.op = 0)) && (decide (d.evr = []))))) && ((decide (1 ≤ d.op)) && (decide (d.op ≤ 7)))) = true → ((b1 && (!((decide (d.op = 0)) && (decide (d.evr = []))))) && ((decide (1 ≤ d.op)) && (decide (d.op ≤ 7)))) = true)) ∧ (((b1 && (!((decide (d.op = 0)) && (decide (d.evr = []))))) = true → ((b1 && (!((decide (d.op = 0)) && (decide (d.evr = []))))) = true) ∧ (((decide (1 ≤ d.op)) && (decide (d.op ≤ 7))) = true → ((b1 && (!((decide (d.op = 0)) && (decide (d.evr = []))))) && ((decide (1 ≤ d.op)) && (decide (d.op ≤ 7)))) = true))) ∧ ((b1 = true → (b1 = true) ∧ (((decide (d.op = 0)) && (decide (d.evr = []))) = false → (b1 && (!((decide (d.op = 0)) && (decide (d.evr = []))))) = true))) ∧ ((b1 = true → b1 = true)) := by
   first | omega | (simp; omega) | (simp; done) | (intros; simp_all; omega) | (intros; simp_all; done) | (intros; simp_all; by_cases h : d.op = 0 <;> simp_all)
  refine SW_H [19, 20, 21, 22, 25, 26, 27, 28, 29, 30, 31, 32, 33, 34, 35, 36, 37, 38, 39, 40, 41, 42, 43, 44, 45, 46] [2] [] (hk 2 en_46 (NameV d.name (by omega)) <| hk0) (vk 9 23 (a := .bool ((nameB d.name) && (decide ((d.args.length : Int) = 0)))) (b := .bool b1) (Imp.of_eq (by rw [hb1])) <| vk 33 47 (a := .bool (b1 && (((decide (d.op = 0)) && (decide (d.evr = []))) || (((decide (1 ≤ d.op)) && (decide (d.op ≤ 7))) && (decide ((evrE d.evr) = 0)))))) (b := .bool b2) (Imp.of_eq (by rw [hb2])) <| v0) (cc 5 (p := ((nameB d.name) = true → (nameB d.name) = true)) qh1.1 <| cc 6 (p := ((nameB d.name) = true → (nameB d.name) = true)) qh1.2.1 <| cc 7 (p := ((nameB d.name) = true → (nameB d.name) = true)) qh1.2.2.1 <| cc 8 (p := ((nameB d.name) = true → (nameB d.name) = true)) qh1.2.2.2.1 <| cc 11 (p := (b1 = true → b1 = true)) qh1.2.2.2.2.1 <| cc 12 (p := (b1 = true → b1 = true)) qh1.2.2.2.2.2.1 <| cc 13 (p := (b1 = true → b1 = true)) qh1.2.2.2.2.2.2.1 <| cc 15 (p := ((b1 && (decide (d.op = 0))) = true → (b1 && (decide (d.op = 0))) = true)) qh1.2.2.2.2.2.2.2.1 <| cc 16 (p := ((b1 && (decide (d.op = 0))) = true → (b1 && (decide (d.op = 0))) = true)) qh1.2.2.2.2.2.2.2.2.1 <| cc 17 (p := (b1 = true → (b1 = true) ∧ ((decide (d.op = 0)) = true → (b1 && (decide (d.op = 0))) = true))) qh1.2.2.2.2.2.2.2.2.2.1 <| cc 18 (p := (b1 = true → b1 = true)) qh1.2.2.2.2.2.2.2.2.2.2.1 <| cc 20 (p := ((b1 && (!((decide (d.op = 0)) && (decide (d.evr = []))))) = true → (b1 && (!((decide (d.op = 0)) && (decide (d.evr = []))))) = true)) qh1.2.2.2.2.2.2.2.2.2.2.2.1 <| cc 21 (p := ((b1 && (!((decide (d.op = 0)) && (decide (d.evr = []))))) = true → (b1 && (!((decide (d.op = 0)) && (decide (d.evr = []))))) = true)) qh1.2.2.2.2.2.2.2.2.2.2.2.2.1 <| cc 22 (p := ((b1 && (!((decide (d.op = 0)) && (decide (d.evr = []))))) = true → (b1 && (!((decide (d.op = 0)) && (decide (d.evr = []))))) = true)) qh1.2.2.2.2.2.2.2.2.2.2.2.2.2.1 <| cc 24 (p := (((b1 && (!((decide (d.op = 0)) && (decide (d.evr = []))))) && (decide (1 ≤ d.op))) = true → ((b1 && (!((decide (d.op = 0)) && (decide (d.evr = []))))) && (decide (1 ≤ d.op))) = true)) qh1.2.2.2.2.2.2.2.2.2.2.2.2.2.2.1 <| cc 25 (p := (((b1 && (!((decide (d.op = 0)) && (decide (d.evr = []))))) && (decide (1 ≤ d.op))) = true → ((b1 && (!((decide (d.op = 0)) && (decide (d.evr = []))))) && (decide (1 ≤ d.op))) = true)) qh1.2.2.2.2.2.2.2.2.2.2.2.2.2.2.2.1 <| cc 26 (p := ((b1 && (!((decide (d.op = 0)) && (decide (d.evr = []))))) = true → ((b1 && (!((decide (d.op = 0)) && (decide (d.evr = []))))) = true) ∧ ((decide (1 ≤ d.op)) = true → ((b1 && (!((decide (d.op = 0)) && (decide (d.evr = []))))) && (decide (1 ≤ d.op))) = true))) qh1.2.2.2.2.2.2.2.2.2.2.2.2.2.2.2.2.1 <| cc 27 (p := ((b1 && (!((decide (d.op = 0)) && (decide (d.evr = []))))) = true → (b1 && (!((decide (d.op = 0)) && (decide (d.evr = []))))) = true)) qh1.2.2.2.2.2.2.2.2.2.2.2.2.2.2.2.2.2.1 <| cc 29 (p := (((b1 && (!((decide (d.op = 0)) && (decide (d.evr = []))))) && ((decide (1 ≤ d.op)) && (decide (d.op ≤ 7)))) = true → ((b1 && (!((decide (d.op = 0)) && (decide (d.evr = []))))) && ((decide (1 ≤ d.op)) && (decide (d.op ≤ 7)))) = true)) qh1.2.2.2.2.2.2.2.2.2.2.2.2.2.2.2.2.2.2.1 <| cc 30 (p := ((b1 && (!((decide (d.op = 0)) && (decide (d.evr = []))))) = true → ((b1 && (!((decide (d.op = 0)) && (decide (d.evr = []))))) = true) ∧ (((decide (1 ≤ d.op)) && (decide (d.op ≤ 7))) = true → ((b1 && (!((decide (d.op = 0)) && (decide (d.evr = []))))) && ((decide (1 ≤ d.op)) && (decide (d.op ≤ 7)))) = true))) qh1.2.2.2.2.2.2.2.2.2.2.2.2.2.2.2.2.2.2.2.1 <| cc 31 (p := (b1 = true → (b1 = true) ∧ (((decide (d.op = 0)) && (decide (d.evr = []))) = false → (b1 && (!((decide (d.op = 0)) && (decide (d.evr = []))))) = true))) qh1.2.2.2.2.2.2.2.2.2.2.2.2.2.2.2.2.2.2.2.2.1 <| cc 32 (p := (b1 = true → b1 = true)) qh1.2.2.2.2.2.2.2.2.2.2.2.2.2.2.2.2.2.2.2.2.2 <| c0) ?_
  refine SW_ret ?_
  refine RK wR [(.bool b2)] ?_
  subst hb2 hb1
  refine Same.of_eq ?_
  simp only [pack]
  rw [formB_name c1, form_name]
  congr 1
  rw [Bool.eq_iff_iff]
  simp only [Bool.and_eq_true, Bool.or_eq_true, decide_eq_true_eq, and_assoc]
  rw [show ((d.args.length : Int) = 0) = (d.args.length = 0) from propext (by omega)]
 ·refine SW_skip ?_
  refine SW_seq ?_
  refine SW_reg ?_
  refine SO_H 1 0 [] [1, 48] [] hk0 v0 c0 ?_
  refine SO_mi (b := 1) (k := 4) (a := 3) (c := 0) (es := []) (m := []) (by kernel_rfl) (by kernel_rfl) (by kernel_rfl) (by kernel_rfl) (by kernel_rfl) (by kernel_rfl) (by kernel_rfl) Tryz.underlying155 Tryz.underlying3 ?_
  refine SO_mi (b := 1) (k := 6) (a := 2) (c := 1) (es := [(.int .i64 4, .int .i64 3, 0)]) (m := [(4, 3)]) (by kernel_rfl) (by kernel_rfl) (by kernel_rfl) (by kernel_rfl) (by kernel_rfl) (by kernel_rfl) (by kernel_rfl) Tryz.underlying155 Tryz.underlying3 ?_
  refine SO_H 3 3 [] [1, 49, 51] [] hk0 v0 c0 ?_
  refine SO_ml (b := 1) (c := 2) (es := [(.int .i64 4, .int .i64 3, 0), (.int .i64 6, .int .i64 2, 1)]) (m := [(4, 3), (6, 2)]) (s' := [(1, (.fp (.agg [(.int .i64 d.kind), (.str d.name), (.int .i64 d.op), (.str d.evr), (.row 5 d.args.length (depAt d.args))]))), (49, (.map 1)), (51, (.int .i64 d.kind)), (52, (.int .i64 (mostN d.kind)))]) (by kernel_rfl) (by kernel_rfl) (by kernel_rfl) (by kernel_rfl) (by kernel_rfl) Tryz.underlying155 Tryz.underlying3 (fun _ => by kernel_rfl) (most_at d.kind) (by kernel_rfl) ?_
  refine SO_HA 7 [] [1, 5] [] hk0 v0 c0 ?_
  refine SW_seq ?_
  obtain ⟨b3, hb3⟩ : ∃ b, b = (decide (d.kind < 2)) := ⟨_, rfl⟩
  obtain ⟨b4, hb4⟩ : ∃ b, b = (b3 || (decide (6 < d.kind))) := ⟨_, rfl⟩
  obtain ⟨b5, hb5⟩ : ∃ b, b = (b4 || (!decide (d.name = []))) := ⟨_, rfl⟩
  obtain ⟨b6, hb6⟩ : ∃ b, b = (b5 || (!decide (d.op = 0))) := ⟨_, rfl⟩
  obtain ⟨b7, hb7⟩ : ∃ b, b = (b6 || (!decide (d.evr = []))) := ⟨_, rfl⟩
  obtain ⟨b8, hb8⟩ : ∃ b, b = (b7 || (decide ((d.args.length : Int) < 2))) := ⟨_, rfl⟩
  refine SW_H (CS := [(5, ((!b3) = true → (!b3) = true)), (6, ((!b3) = true → (!b3) = true)), (7, (b3 = false → (!b3) = true)), (10, ((!b4) = true → (!b4) = true)), (11, ((!b4) = true → (!b4) = true)), (12, (b4 = false → (!b4) = true)), (15, ((!b5) = true → (!b5) = true)), (16, ((!b5) = true → (!b5) = true)), (17, (b5 = false → (!b5) = true)), (20, ((!b6) = true → (!b6) = true)), (21, ((!b6) = true → (!b6) = true)), (22, (b6 = false → (!b6) = true)), (25, ((!b7) = true → (!b7) = true)), (26, ((!b7) = true → (!b7) = true)), (27, ((!b7) = true → (!b7) = true)), (28, (b7 = false → (!b7) = true)), (31, ((!b8) = true → (!b8) = true)), (32, ((!b8) = true → (!b8) = true)), (34, (((!b8) && (decide (0 < (mostN d.kind)))) = true → ((!b8) && (decide (0 < (mostN d.kind)))) = true)), (35, (((!b8) && (decide (0 < (mostN d.kind)))) = true → ((!b8) && (decide (0 < (mostN d.kind)))) = true)), (37, (((!b8) && (decide (0 < (mostN d.kind)))) = true → ((!b8) && (decide (0 < (mostN d.kind)))) = true ∧ ((!b8) && (decide (0 < (mostN d.kind)))) = true)), (38, ((!b8) = true → ((!b8) = true) ∧ ((decide (0 < (mostN d.kind))) = true → ((!b8) && (decide (0 < (mostN d.kind)))) = true))), (39, (b8 = false → (!b8) = true))]) [57, 58, 59, 62, 63, 64, 67, 68, 69, 72, 73, 74, 77, 78, 79, 80, 83, 84, 85, 86, 87, 88, 89, 90, 91] [1, 92] [] hk0 (vk 4 56 (a := .bool (decide (d.kind < 2))) (b := .bool b3) (Imp.of_eq (by rw [hb3])) <| vk 9 61 (a := .bool (b3 || (decide (6 < d.kind)))) (b := .bool b4) (Imp.of_eq (by rw [hb4])) <| vk 14 66 (a := .bool (b4 || (!decide (d.name = [])))) (b := .bool b5) (Imp.of_eq (by rw [hb5])) <| vk 19 71 (a := .bool (b5 || (!decide (d.op = 0)))) (b := .bool b6) (Imp.of_eq (by rw [hb6])) <| vk 24 76 (a := .bool (b6 || (!decide (d.evr = [])))) (b := .bool b7) (Imp.of_eq (by rw [hb7])) <| vk 30 82 (a := .bool (b7 || (decide ((d.args.length : Int) < 2)))) (b := .bool b8) (Imp.of_eq (by rw [hb8])) <| v0) (by refine cc _ ?_ <| cc _ ?_ <| cc _ ?_ <| cc _ ?_ <| cc _ ?_ <| cc _ ?_ <| cc _ ?_ <| cc _ ?_ <| cc _ ?_ <| cc _ ?_ <| cc _ ?_ <| cc _ ?_ <| cc _ ?_ <| cc _ ?_ <| cc _ ?_ <| cc _ ?_ <| cc _ ?_ <| cc _ ?_ <| cc _ ?_ <| cc _ ?_ <| cc _ ?_ <| cc _ ?_ <| cc _ ?_ c0 <;> first | omega | (simp; omega) | (simp; done) | (intros; simp_all; omega) | (intros; simp_all; done)) ?_
  refine SW_cond (q := b8 || ((decide (0 < (mostN d.kind))) && (decide ((mostN d.kind) < (d.args.length : Int))))) (by kernel_rfl) (fun c2 => ?_) (fun c2 => ?_)
  ·subst hb8 hb7 hb6 hb5 hb4 hb3
   try simp only [Bool.and_eq_true, Bool.or_eq_true, Bool.and_eq_false_iff, Bool.or_eq_false_iff, Bool.not_eq_true', Bool.not_eq_false', decide_eq_true_eq, decide_eq_false_iff_not] at c2
   refine SW_P [] [2] ?_
   refine SW_ret ?_
   refine RK wR [(.bool false)] ?_
   refine Same.of_eq ?_
   simp only [pack]
   rw [formB_not c1, form_bad, decide_eq_true (by rcases c2 with (((((h | h) | h) | h) | h) | h) | h <;> first | (simp [h]; done) | (have h' : d.args.length < 2 := (by omega); simp [h']))]
   rfl
  ·subst hb8 hb7 hb6 hb5 hb4 hb3
   try simp only [Bool.and_eq_true, Bool.or_eq_true, Bool.and_eq_false_iff, Bool.or_eq_false_iff, Bool.not_eq_true', Bool.not_eq_false', decide_eq_true_eq, decide_eq_false_iff_not] at c2
   refine SW_skip ?_
   refine SW_H [] [2] [] (hk 3 (al := [(rowOf 5 depX d.args), (.fn 124 [] [(.fp (.agg [(.int .i64 d.kind), (.str d.name), (.int .i64 d.op), (.str d.evr), (.row 5 d.args.length (depAt d.args))]))])]) en_83 ((depF_has d.args (.fn 124 [] [.fp (depX d)]) (formP d.kind) (by omega) (fun i hi => FunV.of (by exact en_124) (formc_ok (nth d.args i) d (ih i hi)))).of_args (ImpL.cons Imp.refl (ImpL.cons (Imp.clo (by kernel_rfl)) ImpL.nil))) <| hk0) (vk 3 94 (deps_of d.args) <| v0) c0 ?_
   refine SW_ret ?_
   refine RK wR [(.bool (!(d.args.any (formP d.kind))))] ?_
   refine Same.of_eq ?_
   simp only [pack]
   rw [formB_not c1, form_bad, decide_eq_false (by rcases c2 with ⟨⟨⟨⟨⟨⟨h1, h2⟩, h3⟩, h4⟩, h5⟩, h6⟩, h7⟩; simp [h3, h4, h5]; omega), args_any]
   simp
theorem form_ok (d : DepT) : d.size ≤ 4194304 → FnV Tryz.prog 66 [depX d] (.bool (formB d)) :=
 dep_ind (C := fun d => d.size ≤ 4194304 → FnV Tryz.prog 66 [depX d] (.bool (formB d))) (fun d ih hs => formV_step d hs fun i hi => ih i hi (by have := size_nth hi; omega)) d
set_option maxHeartbeats 1000000 in
set_option maxRecDepth 100000 in
theorem refFormV_step (d : DepT) (hs : d.size ≤ 4194304) (ih : ∀ i, i < d.args.length → FnV Tryz.prog 110 [depX (nth d.args i)] (.bool (formB (nth d.args i)))) :
  FnV Tryz.prog 110 [(.agg [(.int .i64 d.kind), (.str d.name), (.int .i64 d.op), (.str d.evr), (.row 5 d.args.length (depAt d.args))])] (.bool (formB d)) := by
 have hda := size_args d
 have hal := args_len d.args
 refine FnV_intro [.tmp 2] Tryz.func110 rfl Tryz.ntmps110 rfl rfl (fun B F hF => ?_)
 refine SW_H [] [1] [(1, 1)] hk0 v0 c0 ?_
 refine SW_seq ?_
 refine SW_P [] [1, 12] ?_
 refine SW_if (p := d.kind = 1) (by kernel_rfl) (fun c1 => ?_) (fun c1 => ?_)
 ·refine SW_H [] [1, 3] [] (hk 2 en_91 (refNameV d.name (by omega)) <| hk0) v0 c0 ?_
  refine SW_seq ?_
  obtain ⟨b1, hb1⟩ : ∃ b, b = (!(nameB d.name)) := ⟨_, rfl⟩
  obtain ⟨b2, hb2⟩ : ∃ b, b = (b1 || (decide (d.op < 0))) := ⟨_, rfl⟩
  obtain ⟨b3, hb3⟩ : ∃ b, b = (b2 || (decide (7 < d.op))) := ⟨_, rfl⟩
  refine SW_H (CS := [(4, ((!b1) = true → (!b1) = true)), (5, ((!b1) = true → (!b1) = true)), (6, (b1 = false → (!b1) = true)), (9, ((!b2) = true → (!b2) = true)), (10, ((!b2) = true → (!b2) = true)), (11, (b2 = false → (!b2) = true)), (14, ((!b3) = true → (!b3) = true)), (15, ((!b3) = true → (!b3) = true)), (16, ((!b3) = true → (!b3) = true)), (17, (b3 = false → (!b3) = true))]) [19, 20, 21, 24, 25, 26, 29, 30, 31, 32] [1, 33] [] hk0 (vk 3 18 (a := .bool (!(nameB d.name))) (b := .bool b1) (Imp.of_eq (by rw [hb1])) <| vk 8 23 (a := .bool (b1 || (decide (d.op < 0)))) (b := .bool b2) (Imp.of_eq (by rw [hb2])) <| vk 13 28 (a := .bool (b2 || (decide (7 < d.op)))) (b := .bool b3) (Imp.of_eq (by rw [hb3])) <| v0) (by refine cc _ ?_ <| cc _ ?_ <| cc _ ?_ <| cc _ ?_ <| cc _ ?_ <| cc _ ?_ <| cc _ ?_ <| cc _ ?_ <| cc _ ?_ <| cc _ ?_ c0 <;> first | omega | (simp; omega) | (simp; done) | (intros; simp_all; omega) | (intros; simp_all; done)) ?_
  refine SW_cond (q := b3 || (decide (0 < (d.args.length : Int)))) (by kernel_rfl) (fun c2 => ?_) (fun c2 => ?_)
  ·subst hb3 hb2 hb1
   try simp only [Bool.and_eq_true, Bool.or_eq_true, Bool.and_eq_false_iff, Bool.or_eq_false_iff, Bool.not_eq_true', Bool.not_eq_false', decide_eq_true_eq, decide_eq_false_iff_not] at c2
   refine SW_P [] [2] ?_
   refine SW_ret ?_
   refine RK wR [(.bool false)] ?_
   refine Same.of_eq ?_
   simp only [pack]
   rw [formB_name c1, fn_no (by rcases c2 with ((h | h) | h) | h <;> first | omega | simp_all)]
  ·subst hb3 hb2 hb1
   try simp only [Bool.and_eq_true, Bool.or_eq_true, Bool.and_eq_false_iff, Bool.or_eq_false_iff, Bool.not_eq_true', Bool.not_eq_false', decide_eq_true_eq, decide_eq_false_iff_not] at c2
   refine SW_skip ?_
   refine SW_seq ?_
   refine SW_P [] [1, 36] ?_
   refine SW_if (p := d.op = 0) (by kernel_rfl) (fun c3 => ?_) (fun c3 => ?_)
   ·refine SW_P [] [2] ?_
    refine SW_ret ?_
    refine RK wR [(.bool (decide (d.evr = [])))] ?_
    refine Same.of_eq ?_
    simp only [pack]
    rw [formB_name c1, fn_zero ⟨c2.1.1.1, by omega, by omega, by omega⟩ c3]
   ·refine SW_skip ?_
    refine SW_H [] [5] [(8, 4)] (hk 2 en_141 (ref03ParseV d.evr (by omega)) <| hk0) v0 c0 ?_
    refine SW_P [] [2] ?_
    refine SW_ret ?_
    refine RK wR [(.bool (decide ((evrE d.evr) = 0)))] ?_
    refine Same.of_eq ?_
    simp only [pack]
    rw [formB_name c1, fn_op ⟨c2.1.1.1, by omega, by omega, by omega⟩ c3]
 ·refine SW_skip ?_
  refine SW_P [] [1, 6] ?_
  refine SW_seq ?_
  obtain ⟨b4, hb4⟩ : ∃ b, b = (decide (d.kind < 2)) := ⟨_, rfl⟩
  obtain ⟨b5, hb5⟩ : ∃ b, b = (b4 || (decide (6 < d.kind))) := ⟨_, rfl⟩
  obtain ⟨b6, hb6⟩ : ∃ b, b = (b5 || (!decide (d.name = []))) := ⟨_, rfl⟩
  obtain ⟨b7, hb7⟩ : ∃ b, b = (b6 || (!decide (d.op = 0))) := ⟨_, rfl⟩
  obtain ⟨b8, hb8⟩ : ∃ b, b = (b7 || (!decide (d.evr = []))) := ⟨_, rfl⟩
  refine SW_H (CS := [(5, ((!b4) = true → (!b4) = true)), (6, ((!b4) = true → (!b4) = true)), (7, (b4 = false → (!b4) = true)), (10, ((!b5) = true → (!b5) = true)), (11, ((!b5) = true → (!b5) = true)), (12, (b5 = false → (!b5) = true)), (15, ((!b6) = true → (!b6) = true)), (16, ((!b6) = true → (!b6) = true)), (17, (b6 = false → (!b6) = true)), (20, ((!b7) = true → (!b7) = true)), (21, ((!b7) = true → (!b7) = true)), (22, (b7 = false → (!b7) = true)), (25, ((!b8) = true → (!b8) = true)), (26, (b8 = false → (!b8) = true))]) [55, 56, 57, 60, 61, 62, 65, 66, 67, 70, 71, 72, 75, 76] [1, 6, 77] [] hk0 (vk 4 54 (a := .bool (decide (d.kind < 2))) (b := .bool b4) (Imp.of_eq (by rw [hb4])) <| vk 9 59 (a := .bool (b4 || (decide (6 < d.kind)))) (b := .bool b5) (Imp.of_eq (by rw [hb5])) <| vk 14 64 (a := .bool (b5 || (!decide (d.name = [])))) (b := .bool b6) (Imp.of_eq (by rw [hb6])) <| vk 19 69 (a := .bool (b6 || (!decide (d.op = 0)))) (b := .bool b7) (Imp.of_eq (by rw [hb7])) <| vk 24 74 (a := .bool (b7 || (!decide (d.evr = [])))) (b := .bool b8) (Imp.of_eq (by rw [hb8])) <| v0) (by refine cc _ ?_ <| cc _ ?_ <| cc _ ?_ <| cc _ ?_ <| cc _ ?_ <| cc _ ?_ <| cc _ ?_ <| cc _ ?_ <| cc _ ?_ <| cc _ ?_ <| cc _ ?_ <| cc _ ?_ <| cc _ ?_ <| cc _ ?_ c0 <;> first | omega | (simp; omega) | (simp; done) | (intros; simp_all; omega) | (intros; simp_all; done)) ?_
  refine SW_cond (q := b8 || (decide ((d.args.length : Int) < 2))) (by kernel_rfl) (fun c4 => ?_) (fun c4 => ?_)
  ·subst hb8 hb7 hb6 hb5 hb4
   try simp only [Bool.and_eq_true, Bool.or_eq_true, Bool.and_eq_false_iff, Bool.or_eq_false_iff, Bool.not_eq_true', Bool.not_eq_false', decide_eq_true_eq, decide_eq_false_iff_not] at c4
   refine SW_P [] [2] ?_
   refine SW_ret ?_
   refine RK wR [(.bool false)] ?_
   refine Same.of_eq ?_
   simp only [pack]
   rw [formB_not c1, fb_head (by rcases c4 with ((((h | h) | h) | h) | h) | h <;> first | (simp [h]; done) | (have h' : d.args.length < 2 := (by omega); simp [h']))]
   rfl
  ·subst hb8 hb7 hb6 hb5 hb4
   try simp only [Bool.and_eq_true, Bool.or_eq_true, Bool.and_eq_false_iff, Bool.or_eq_false_iff, Bool.not_eq_true', Bool.not_eq_false', decide_eq_true_eq, decide_eq_false_iff_not] at c4
   refine SW_skip ?_
   refine SW_seq ?_
   obtain ⟨b9, hb9⟩ : ∃ b, b = (decide (d.kind = 4)) := ⟨_, rfl⟩
   obtain ⟨b10, hb10⟩ : ∃ b, b = (b9 && (decide (3 < (d.args.length : Int)))) := ⟨_, rfl⟩
   refine SW_H (CS := [(5, (b9 = true → b9 = true)), (6, (b9 = true → b9 = true)), (9, ((!b10) = true → (!b10) = true)), (10, ((!b10) = true → (!b10) = true)), (11, ((!b10) = true → (!b10) = true)), (13, (((!b10) && (decide (d.kind = 6))) = true → ((!b10) && (decide (d.kind = 6))) = true)), (14, ((!b10) = true → ((!b10) = true) ∧ ((decide (d.kind = 6)) = true → ((!b10) && (decide (d.kind = 6))) = true))), (15, (b10 = false → (!b10) = true))]) [82, 83, 86, 87, 88, 89, 90, 91, 92] [1, 6, 93] [] hk0 (vk 4 81 (a := .bool (decide (d.kind = 4))) (b := .bool b9) (Imp.of_eq (by rw [hb9])) <| vk 8 85 (a := .bool (b9 && (decide (3 < (d.args.length : Int))))) (b := .bool b10) (Imp.of_eq (by rw [hb10])) <| v0) (by refine cc _ ?_ <| cc _ ?_ <| cc _ ?_ <| cc _ ?_ <| cc _ ?_ <| cc _ ?_ <| cc _ ?_ <| cc _ ?_ c0 <;> first | omega | (simp; omega) | (simp; done) | (intros; simp_all; omega) | (intros; simp_all; done)) ?_
   refine SW_cond (q := b10 || ((decide (d.kind = 6)) && (decide (2 < (d.args.length : Int))))) (by kernel_rfl) (fun c5 => ?_) (fun c5 => ?_)
   ·subst hb10 hb9
    try simp only [Bool.and_eq_true, Bool.or_eq_true, Bool.and_eq_false_iff, Bool.or_eq_false_iff, Bool.not_eq_true', Bool.not_eq_false', decide_eq_true_eq, decide_eq_false_iff_not] at c5
    refine SW_P [] [2] ?_
    refine SW_ret ?_
    refine RK wR [(.bool false)] ?_
    refine Same.of_eq ?_
    simp only [pack]
    rw [formB_not c1, fb_many (by omega)]
    rfl
   ·subst hb10 hb9
    try simp only [Bool.and_eq_true, Bool.or_eq_true, Bool.and_eq_false_iff, Bool.or_eq_false_iff, Bool.not_eq_true', Bool.not_eq_false', decide_eq_true_eq, decide_eq_false_iff_not] at c5
    have hfb : formBad d.kind d.name d.op d.evr d.args.length = false := fb_ok (by rcases c4 with ⟨⟨⟨⟨⟨h1, h2⟩, h3⟩, h4⟩, h5⟩, h6⟩; simp [h3, h4, h5]; omega) (by omega)
    refine SW_skip ?_
    refine SW_seq ?_
    refine SW_P [] [1, 6, 7] ?_
    refine SW_block ?_
    refine SW_L (fun g y => ∃ (i : Nat), i ≤ d.args.length ∧ argsForm d.kind d.args = argsForm d.kind (d.args.drop i) ∧ y = ⟨[(1, (.fp (.agg [(.int .i64 d.kind), (.str d.name), (.int .i64 d.op), (.str d.evr), (.row 5 d.args.length (depAt d.args))]))), (6, (.int .i64 ((d.args.length : Int)))), (7, (.int .i64 ((i : Int))))], [], 1⟩ ∧ g = d.args.length - i) [1, 6, 7] 1 _ (by omega) ⟨0, (by omega), (by rfl), (by kernel_rfl), rfl⟩ ?_
    rintro g1 y1 ⟨i, f1_1, f1_2, rfl, rfl⟩
    refine SW_seq ?_
    refine SW_P [] [1, 6, 7, 96] ?_
    refine SW_if (p := (i : Int) < (d.args.length : Int)) (by kernel_rfl) (fun c6 => ?_) (fun c6 => ?_)
    ·refine SW_skip ?_
     refine SW_seq ?_
     refine SW_block ?_
     refine SW_H [] [1, 6, 7, 8] [] hk0 (vk 3 100 (deps_of d.args) <| v0) (cc 3 (p := (0 ≤ (i : Int) ∧ i < d.args.length)) (by first | omega | (simp; omega) | (simp; done) | (intros; simp_all; omega) | (intros; simp_all; done)) <| c0) ?_
     refine SW_seq ?_
     obtain ⟨b11, hb11⟩ : ∃ b, b = (decide (5 ≤ d.kind)) := ⟨_, rfl⟩
     obtain ⟨b12, hb12⟩ : ∃ b, b = (b11 && (!decide (((nth d.args i).kind) = 1))) := ⟨_, rfl⟩
     obtain ⟨b13, hb13⟩ : ∃ b, b = (b12 && (!decide (((nth d.args i).kind) = 5))) := ⟨_, rfl⟩
     refine SW_H (CS := [(5, (b11 = true → b11 = true)), (6, (b11 = true → b11 = true)), (9, (b12 = true → b12 = true)), (10, (b12 = true → b12 = true)), (13, (b13 = true → b13 = true)), (14, (b13 = true → b13 = true))]) [109, 110, 113, 114, 117, 118] [1, 6, 7, 119] [] hk0 (vk 4 108 (a := .bool (decide (5 ≤ d.kind))) (b := .bool b11) (Imp.of_eq (by rw [hb11])) <| vk 8 112 (a := .bool (b11 && (!decide (((nth d.args i).kind) = 1)))) (b := .bool b12) (Imp.of_eq (by rw [hb12])) <| vk 12 116 (a := .bool (b12 && (!decide (((nth d.args i).kind) = 5)))) (b := .bool b13) (Imp.of_eq (by rw [hb13])) <| v0) (by refine cc _ ?_ <| cc _ ?_ <| cc _ ?_ <| cc _ ?_ <| cc _ ?_ <| cc _ ?_ c0 <;> first | omega | (simp; omega) | (simp; done) | (intros; simp_all; omega) | (intros; simp_all; done)) ?_
     refine SW_cond (q := b13 && (!decide (((nth d.args i).kind) = 6))) (by kernel_rfl) (fun c7 => ?_) (fun c7 => ?_)
     ·subst hb13 hb12 hb11
      try simp only [Bool.and_eq_true, Bool.or_eq_true, Bool.and_eq_false_iff, Bool.or_eq_false_iff, Bool.not_eq_true', Bool.not_eq_false', decide_eq_true_eq, decide_eq_false_iff_not] at c7
      refine SW_P [] [2] ?_
      refine SW_ret ?_
      refine RK wR [(.bool false)] ?_
      refine Same.of_eq ?_
      simp only [pack]
      rw [formB_not c1, hfb, f1_2, argsForm_step (by omega), kind_no (by omega)]
      rfl
     ·subst hb13 hb12 hb11
      try simp only [Bool.and_eq_true, Bool.or_eq_true, Bool.and_eq_false_iff, Bool.or_eq_false_iff, Bool.not_eq_true', Bool.not_eq_false', decide_eq_true_eq, decide_eq_false_iff_not] at c7
      refine SW_skip ?_
      refine SW_H [] [1, 6, 7, 9] [] (hk 5 en_110 (ih i (by omega)) <| hk0) (vk 3 121 (deps_of d.args) <| v0) (cc 3 (p := (0 ≤ (i : Int) ∧ i < d.args.length)) (by first | omega | (simp; omega) | (simp; done) | (intros; simp_all; omega) | (intros; simp_all; done)) <| c0) ?_
      refine SW_P [] [1, 6, 7, 127] ?_
      refine SW_cond (q := !(formB (nth d.args i))) (by kernel_rfl) (fun c8 => ?_) (fun c8 => ?_)
      ·try simp only [Bool.and_eq_true, Bool.or_eq_true, Bool.and_eq_false_iff, Bool.or_eq_false_iff, Bool.not_eq_true', Bool.not_eq_false', decide_eq_true_eq, decide_eq_false_iff_not] at c8
       refine SW_P [] [2] ?_
       refine SW_ret ?_
       refine RK wR [(.bool false)] ?_
       refine Same.of_eq ?_
       simp only [pack]
       rw [formB_not c1, hfb, f1_2, argsForm_step (by omega), kind_yes (by omega), c8]
       rfl
      ·try simp only [Bool.and_eq_true, Bool.or_eq_true, Bool.and_eq_false_iff, Bool.or_eq_false_iff, Bool.not_eq_true', Bool.not_eq_false', decide_eq_true_eq, decide_eq_false_iff_not] at c8
       refine SW_skip ?_
       refine SW_reg ?_
       refine SO_HA 0 [] [1, 6, 7] [] hk0 v0 (cc 1 (p := (-9223372036854775808 ≤ (i : Int) + 1 ∧ (i : Int) + 1 ≤ 9223372036854775807)) (by first | omega | (simp; omega) | (simp; done) | (intros; simp_all; omega) | (intros; simp_all; done)) <| c0) ?_
       refine ⟨by kernel_rfl, _, ?_, i + 1, ?_, ?_, (by kernel_rfl), rfl⟩
       ·omega
       ·omega
       ·rw [f1_2, argsForm_step (by omega), kind_yes (by omega), c8]; rfl
    ·refine SW_exit ?_
     refine SW_P [] [2] ?_
     refine SW_ret ?_
     refine RK wR [(.bool true)] ?_
     refine Same.of_eq ?_
     simp only [pack]
     rw [formB_not c1, hfb, f1_2, List.drop_of_length_le (by omega)]
     rfl
theorem refForm_ok (d : DepT) : d.size ≤ 4194304 → FnV Tryz.prog 110 [depX d] (.bool (formB d)) :=
 dep_ind (C := fun d => d.size ≤ 4194304 → FnV Tryz.prog 110 [depX d] (.bool (formB d))) (fun d ih hs => refFormV_step d hs fun i hi => ih i hi (by have := size_nth hi; omega)) d
set_option maxHeartbeats 400000 in
set_option maxRecDepth 100000 in
theorem partsV_step (d : DepT) (hs : d.size ≤ 4194304) (ih : ∀ i, i < d.args.length → FnV Tryz.prog 111 [depX (nth d.args i)] (.int .i64 (partsN (nth d.args i) : Int))) :
  FnV Tryz.prog 111 [(.agg [(.int .i64 d.kind), (.str d.name), (.int .i64 d.op), (.str d.evr), (.row 5 d.args.length (depAt d.args))])] (.int .i64 ((partsN d : Int))) := by
 have hda := size_args d
 have hal := args_len d.args
 refine FnV_intro [.tmp 2] Tryz.func111 rfl Tryz.ntmps111 rfl rfl (fun B F hF => ?_)
 refine SW_H [] [1] [(1, 1)] hk0 v0 c0 ?_
 refine SW_seq ?_
 refine SW_P [] [1, 7] ?_
 refine SW_if (p := d.kind = 1) (by kernel_rfl) (fun c1 => ?_) (fun c1 => ?_)
 ·refine SW_P [] [2] ?_
  refine SW_ret ?_
  refine RK wR [(.int .i64 1)] ?_
  refine Same.of_eq ?_
  simp only [pack]
  rw [partsN_one c1]
  rfl
 ·refine SW_skip ?_
  refine SW_P [] [1, 3] ?_
  refine SW_seq ?_
  refine SW_P [] [1, 3, 4] ?_
  refine SW_block ?_
  refine SW_L (fun g y => ∃ (i : Nat), i ≤ d.args.length ∧ y = ⟨[(1, (.fp (.agg [(.int .i64 d.kind), (.str d.name), (.int .i64 d.op), (.str d.evr), (.row 5 d.args.length (depAt d.args))]))), (3, (.int .i64 ((argsParts (d.args.take i) : Int)))), (4, (.int .i64 ((i : Int))))], [], 1⟩ ∧ g = d.args.length - i) [1, 3, 4] 1 _ (by omega) ⟨0, (by omega), (by kernel_rfl), rfl⟩ ?_
  rintro g1 y1 ⟨i, f1_1, rfl, rfl⟩
  have hb1 := argsParts_le (d.args.take i)
  have hb2 := fun h => argsSize_take (l := d.args) (i := i) h
  have hb3 := partsN_le (nth d.args i)
  refine SW_seq ?_
  refine SW_P [] [1, 3, 4, 12] ?_
  refine SW_if (p := (i : Int) < (d.args.length : Int)) (by kernel_rfl) (fun c2 => ?_) (fun c2 => ?_)
  ·refine SW_skip ?_
   refine SW_seq ?_
   refine SW_block ?_
   refine SW_reg ?_
   refine SO_HA (CS := [(4, (0 ≤ (i : Int) ∧ i < d.args.length)), (7, (-9223372036854775808 ≤ (argsParts (d.args.take i) : Int) + (partsN (nth d.args i) : Int) ∧ (argsParts (d.args.take i) : Int) + (partsN (nth d.args i) : Int) ≤ 9223372036854775807))]) 0 [] [1, 3, 4] [] (hk 6 en_111 (ih i (by omega)) <| hk0) (vk 4 17 (deps_of d.args) <| v0) (by refine cc _ ?_ <| cc _ ?_ c0 <;> first | omega | (simp; omega) | (simp; done) | (intros; simp_all; omega) | (intros; simp_all; done)) ?_
   refine SW_reg ?_
   refine SO_HA 0 [] [1, 3, 4] [] hk0 v0 (cc 1 (p := (-9223372036854775808 ≤ (i : Int) + 1 ∧ (i : Int) + 1 ≤ 9223372036854775807)) (by first | omega | (simp; omega) | (simp; done) | (intros; simp_all; omega) | (intros; simp_all; done)) <| c0) ?_
   refine ⟨by kernel_rfl, _, ?_, i + 1, ?_, (Eq.trans (b := (⟨[(1, (.fp (.agg [(.int .i64 d.kind), (.str d.name), (.int .i64 d.op), (.str d.evr), (.row 5 d.args.length (depAt d.args))]))), (3, (.int .i64 ((argsParts (d.args.take i) : Int) + (partsN (nth d.args i) : Int)))), (4, (.int .i64 ((i : Int) + 1)))], [], 1⟩ : St)) (by kernel_rfl) (by rw [argsParts_take (by omega)]; rfl)), rfl⟩
   ·omega
   ·omega
  ·refine SW_exit ?_
   refine SW_P [] [2] ?_
   refine SW_ret ?_
   refine RK wR [(.int .i64 ((argsParts (d.args.take i) : Int)))] ?_
   refine Same.of_eq ?_
   simp only [pack]
   rw [partsN_not c1, List.take_of_length_le (by omega)]
theorem partsV (d : DepT) : d.size ≤ 4194304 → FnV Tryz.prog 111 [depX d] (.int .i64 (partsN d : Int)) :=
 dep_ind (C := fun d => d.size ≤ 4194304 → FnV Tryz.prog 111 [depX d] (.int .i64 (partsN d : Int))) (fun d ih hs => partsV_step d hs fun i hi => ih i hi (by have := size_nth hi; omega)) d
def ownC (d : DepT) : Nat := if d.kind = 1 then 1 else 0
set_option maxHeartbeats 400000 in
set_option maxRecDepth 100000 in
theorem countC_ok (l : List UInt8) (m : Nat) (hm : m ≤ 9000000) :
  CallS Tryz.prog 68 [(.str l), (.ptr 0 0)] [(0, (.row [(.int .i64 (((m : Nat) : Int)))] 3))] 1 (.tup []) [(0, (.row [(.int .i64 (((m + 1 : Nat) : Int)))] 3))] := by
 refine CallS_intro [] Tryz.func68 rfl Tryz.ntmps68 rfl rfl (by kernel_rfl) (by kernel_rfl) (by kernel_rfl) (fun B F hF => ?_)
 refine SW_reg ?_
 refine SO_HA 0 [] [] [] hk0 v0 (cc 1 (p := (-9223372036854775808 ≤ ((m : Nat) : Int) + 1 ∧ ((m : Nat) : Int) + 1 ≤ 9223372036854775807)) (by first | omega | (simp; omega) | (simp; done) | (intros; simp_all; omega) | (intros; simp_all; done)) <| c0) ?_
 refine retS_mk (.inr rfl) (al := []) (by kernel_rfl) ?_ ((by kernel_rfl : cutH 1 _ = some [(0, (.row [(.int .i64 (((m : Nat) : Int) + 1))] 3))]).trans ?_)
 ·rfl
 ·rfl
set_option maxHeartbeats 400000 in
set_option maxRecDepth 100000 in
theorem allV_step (d : DepT) (m : Nat) (hs : m + d.size ≤ 8388608) (ih : ∀ i m, i < d.args.length → m + (nth d.args i).size ≤ 8388608 → CallS Tryz.prog 67 [depX (nth d.args i), .fn 68 [] [.ptr 0 0]] [(0, .row [.int .i64 ((m : Nat) : Int)] 3)] 1 (.tup []) [(0, .row [.int .i64 ((m + namesN (nth d.args i) : Nat) : Int)] 3)]) :
  CallS Tryz.prog 67 [(.agg [(.int .i64 d.kind), (.str d.name), (.int .i64 d.op), (.str d.evr), (.row 5 d.args.length (depAt d.args))]), (.fn 68 [] [(.ptr 0 0)])] [(0, (.row [(.int .i64 (((m : Nat) : Int)))] 3))] 1 (.tup []) [(0, (.row [(.int .i64 (((m + namesN d : Nat) : Int)))] 3))] := by
 have hda := size_args d
 have hal := args_len d.args
 have ho : ownC d ≤ 1 := by unfold ownC; split <;> omega
 refine CallS_intro [] Tryz.func67 rfl Tryz.ntmps67 rfl rfl (by kernel_rfl) (by kernel_rfl) (by kernel_rfl) (fun B F hF => ?_)
 refine SW_P [] [1, 2] ?_
 refine SW_still 2 (y := ⟨[(1, (.fn 68 [] [(.ptr 0 0)])), (2, (.fp (.agg [(.int .i64 d.kind), (.str d.name), (.int .i64 d.op), (.str d.evr), (.row 5 d.args.length (depAt d.args))])))], [(0, (.row [(.int .i64 (((m : Nat) : Int)))] 3))], 2⟩) (by kernel_rfl) ?_
 refine SW_C (fun y => y = ⟨[(1, (.fn 68 [] [(.ptr 0 0)])), (2, (.fp (.agg [(.int .i64 d.kind), (.str d.name), (.int .i64 d.op), (.str d.evr), (.row 5 d.args.length (depAt d.args))])))], [(0, (.row [(.int .i64 (((m + ownC d : Nat) : Int)))] 3))], 2⟩) [1, 2] 2 (by omega) ?_ ?_
 ·refine SW_P [] [1, 2, 8] ?_
  refine SW_if (p := d.kind = 1) (by kernel_rfl) (fun c1 => ?_) (fun c1 => ?_)
  ·refine SW_reg ?_
   refine SO_H 3 0 [] [1, 2, 9, 11] [] hk0 v0 c0 ?_
   refine SO_callSv [0] (f := 68) (cap := [(.ptr 0 0)]) (al := [(.str d.name)]) (al' := [(.str d.name), (.ptr 0 0)]) (r := (.tup [])) (r' := (.tup [])) (s' := [(1, (.fn 68 [] [(.ptr 0 0)])), (2, (.fp (.agg [(.int .i64 d.kind), (.str d.name), (.int .i64 d.op), (.str d.evr), (.row 5 d.args.length (depAt d.args))]))), (9, (.fn 68 [] [(.ptr 0 0)])), (11, (.str d.name)), (12, (.tup []))]) (H := [(0, (.row [(.int .i64 (((m : Nat) : Int)))] 3))]) (H' := [(0, (.row [(.int .i64 (((m + 1 : Nat) : Int)))] 3))]) (h2 := [(0, (.row [(.int .i64 (((m + 1 : Nat) : Int)))] 3))]) (by kernel_rfl) (by kernel_rfl) (by exact en_68) (by kernel_rfl) (by kernel_rfl) (by kernel_rfl) (by kernel_rfl) (by kernel_rfl) (countC_ok d.name m (by omega)) (by kernel_rfl) (by kernel_rfl) (by kernel_rfl) ?_
   refine SO_nil ?_
   refine ⟨by kernel_rfl, (Eq.trans (b := (⟨[(1, (.fn 68 [] [(.ptr 0 0)])), (2, (.fp (.agg [(.int .i64 d.kind), (.str d.name), (.int .i64 d.op), (.str d.evr), (.row 5 d.args.length (depAt d.args))])))], [(0, (.row [(.int .i64 (((m + 1 : Nat) : Int)))] 3))], 2⟩ : St)) (by kernel_rfl) (by unfold ownC; rw [if_pos c1]))⟩
  ·refine SW_skip ?_
   refine ⟨by kernel_rfl, (Eq.trans (b := (⟨[(1, (.fn 68 [] [(.ptr 0 0)])), (2, (.fp (.agg [(.int .i64 d.kind), (.str d.name), (.int .i64 d.op), (.str d.evr), (.row 5 d.args.length (depAt d.args))])))], [(0, (.row [(.int .i64 (((m : Nat) : Int)))] 3))], 2⟩ : St)) (by kernel_rfl) (by unfold ownC; rw [if_neg c1]; rfl))⟩
 ·rintro y1 rfl
  refine SW_P [] [1, 14, 15, 16] ?_
  refine SW_block ?_
  refine SW_conv 14 (rowOf 5 depX d.args) (by kernel_rfl) (deps_of d.args) ?_
  refine SW_L (fun g y => ∃ (i : Nat), i ≤ d.args.length ∧ y = ⟨[(1, (.fn 68 [] [(.ptr 0 0)])), (14, (rowOf 5 depX d.args)), (15, (.int .i64 ((d.args.length : Int)))), (16, (.int .i64 ((i : Int))))], [(0, (.row [(.int .i64 (((m + ownC d + argsNames (d.args.take i) : Nat) : Int)))] 3))], 2⟩ ∧ g = d.args.length - i) [1, 14, 15, 16] 2 _ (by omega) ⟨0, (by omega), (Eq.trans (b := (⟨[(1, (.fn 68 [] [(.ptr 0 0)])), (14, (rowOf 5 depX d.args)), (15, (.int .i64 ((d.args.length : Int)))), (16, (.int .i64 0))], [(0, (.row [(.int .i64 (((m + ownC d : Nat) : Int)))] 3))], 2⟩ : St)) (by kernel_rfl) (by simp only [List.take_zero, argsNames, Nat.add_zero]; rfl)), rfl⟩ ?_
  rintro g1 y1 ⟨i, f1_1, rfl, rfl⟩
  have hb1 := argsNames_le (d.args.take i)
  have hb2 := fun h => argsSize_take (l := d.args) (i := i) h
  refine SW_P [] [1, 14, 15, 16, 17] ?_
  refine SW_seq ?_
  refine SW_if (p := (i : Int) < (d.args.length : Int)) (by kernel_rfl) (fun c2 => ?_) (fun c2 => ?_)
  ·refine SW_skip ?_
   refine SW_seq ?_
   refine SW_block ?_
   refine SW_H [] [1, 5, 14, 15, 16] [] hk0 v0 (cc 0 (p := (0 ≤ (i : Int) ∧ i < d.args.length)) (by first | omega | (simp; omega) | (simp; done) | (intros; simp_all; omega) | (intros; simp_all; done)) <| c0) ?_
   refine SW_reg ?_
   refine SO_H 2 0 [] [1, 14, 15, 16, 20, 21] [(0, 5)] hk0 v0 c0 ?_
   refine SO_callS [0] (al := [(.agg [(.int .i64 ((nth d.args i).kind)), (.str ((nth d.args i).name)), (.int .i64 ((nth d.args i).op)), (.str ((nth d.args i).evr)), (.row 5 (nth d.args i).args.length (depAt (nth d.args i).args))]), (.fn 68 [] [(.ptr 0 0)])]) (al' := [(.agg [(.int .i64 ((nth d.args i).kind)), (.str ((nth d.args i).name)), (.int .i64 ((nth d.args i).op)), (.str ((nth d.args i).evr)), (.row 5 (nth d.args i).args.length (depAt (nth d.args i).args))]), (.fn 68 [] [(.ptr 0 0)])]) (r := (.tup [])) (r' := (.tup [])) (s' := [(1, (.fn 68 [] [(.ptr 0 0)])), (14, (rowOf 5 depX d.args)), (15, (.int .i64 ((d.args.length : Int)))), (16, (.int .i64 ((i : Int)))), (20, (.agg [(.int .i64 ((nth d.args i).kind)), (.str ((nth d.args i).name)), (.int .i64 ((nth d.args i).op)), (.str ((nth d.args i).evr)), (.row 5 (nth d.args i).args.length (depAt (nth d.args i).args))])), (21, (.fn 68 [] [(.ptr 0 0)])), (22, (.tup []))]) (H := [(0, (.row [(.int .i64 (((m + ownC d + argsNames (d.args.take i) : Nat) : Int)))] 3))]) (H' := [(0, (.row [(.int .i64 (((m + ownC d + argsNames (d.args.take i) + namesN (nth d.args i) : Nat) : Int)))] 3))]) (h2 := [(0, (.row [(.int .i64 (((m + ownC d + argsNames (d.args.take i) + namesN (nth d.args i) : Nat) : Int)))] 3))]) (by kernel_rfl) (by exact en_67) (by kernel_rfl) (by kernel_rfl) (by kernel_rfl) (by kernel_rfl) (by kernel_rfl) (ih i (m + ownC d + argsNames (d.args.take i)) (by omega) (by have := hb2 (by omega); omega)) (by kernel_rfl) (by kernel_rfl) (by kernel_rfl) ?_
   refine SO_nil ?_
   refine SW_reg ?_
   refine SO_HA 0 [] [1, 14, 15, 16] [] hk0 v0 (cc 0 (p := (-9223372036854775808 ≤ (i : Int) + 1 ∧ (i : Int) + 1 ≤ 9223372036854775807)) (by first | omega | (simp; omega) | (simp; done) | (intros; simp_all; omega) | (intros; simp_all; done)) <| c0) ?_
   refine ⟨by kernel_rfl, _, ?_, i + 1, ?_, (Eq.trans (b := (⟨[(1, (.fn 68 [] [(.ptr 0 0)])), (14, (rowOf 5 depX d.args)), (15, (.int .i64 ((d.args.length : Int)))), (16, (.int .i64 ((i : Int) + 1)))], [(0, (.row [(.int .i64 (((m + ownC d + argsNames (d.args.take i) + namesN (nth d.args i) : Nat) : Int)))] 3))], 2⟩ : St)) (by kernel_rfl) (by rw [argsNames_take (by omega)]; simp only [Nat.add_assoc]; rfl)), rfl⟩
   all_goals omega
  ·refine SW_exit ?_
   refine retS_mk (.inr rfl) (al := []) (by kernel_rfl) ?_ ((by kernel_rfl : cutH 1 _ = some [(0, (.row [(.int .i64 (((m + ownC d + argsNames (d.args.take i) : Nat) : Int)))] 3))]).trans ?_)
   ·rfl
   ·rw [namesN_eq, List.take_of_length_le (by omega)]; simp only [ownC, Nat.add_assoc]
theorem all_ok' (d : DepT) : ∀ m, m + d.size ≤ 8388608 → CallS Tryz.prog 67 [depX d, .fn 68 [] [.ptr 0 0]] [(0, .row [.int .i64 ((m : Nat) : Int)] 3)] 1 (.tup []) [(0, .row [.int .i64 ((m + namesN d : Nat) : Int)] 3)] :=
 dep_ind (C := fun d => ∀ m, m + d.size ≤ 8388608 → CallS Tryz.prog 67 [depX d, .fn 68 [] [.ptr 0 0]] [(0, .row [.int .i64 ((m : Nat) : Int)] 3)] 1 (.tup []) [(0, .row [.int .i64 ((m + namesN d : Nat) : Int)] 3)]) (fun d ih m hs => allV_step d m hs fun i m hi h => ih i hi m h) d
set_option maxHeartbeats 400000 in
set_option maxRecDepth 100000 in
theorem CheckV (d : DepT) (hs : d.size ≤ 4194304) :
  FnV Tryz.prog 22 [(.agg [(.int .i64 d.kind), (.str d.name), (.int .i64 d.op), (.str d.evr), (.row 5 d.args.length (depAt d.args))])] (.int .i64 (checkE d)) := by
 refine FnV_intro [.tmp 2] Tryz.func22 rfl Tryz.ntmps22 rfl rfl (fun B F hF => ?_)
 refine SW_H [] [1] [(1, 1)] hk0 v0 c0 ?_
 refine SW_seq ?_
 refine SW_H [] [1, 6] [] (hk 1 en_66 (form_ok d hs) <| hk0) v0 c0 ?_
 refine SW_cond (q := !(formB d)) (by kernel_rfl) (fun c1 => ?_) (fun c1 => ?_)
 ·try simp only [Bool.and_eq_true, Bool.or_eq_true, Bool.and_eq_false_iff, Bool.or_eq_false_iff, Bool.not_eq_true', Bool.not_eq_false', decide_eq_true_eq, decide_eq_false_iff_not] at c1
  refine SW_P [] [2] ?_
  refine SW_ret ?_
  refine RK wR [(.int .i64 50)] ?_
  refine Same.of_eq ?_
  simp only [pack]
  rw [checkE, c1]
  rfl
 ·try simp only [Bool.and_eq_true, Bool.or_eq_true, Bool.and_eq_false_iff, Bool.or_eq_false_iff, Bool.not_eq_true', Bool.not_eq_false', decide_eq_true_eq, decide_eq_false_iff_not] at c1
  refine SW_skip ?_
  refine SW_P [] [1, 3] ?_
  refine SW_seq ?_
  refine SW_reg ?_
  refine SO_H 2 0 [] [3, 7, 8] [] hk0 v0 c0 ?_
  refine SO_callS [1] (al := [(.agg [(.int .i64 d.kind), (.str d.name), (.int .i64 d.op), (.str d.evr), (.row 5 d.args.length (depAt d.args))]), (.fn 68 [] [(.ptr 1 0)])]) (al' := [(.agg [(.int .i64 d.kind), (.str d.name), (.int .i64 d.op), (.str d.evr), (.row 5 d.args.length (depAt d.args))]), (.fn 68 [] [(.ptr 0 0)])]) (r := (.tup [])) (r' := (.tup [])) (s' := [(3, (.ptr 1 0)), (7, (.agg [(.int .i64 d.kind), (.str d.name), (.int .i64 d.op), (.str d.evr), (.row 5 d.args.length (depAt d.args))])), (8, (.fn 68 [] [(.ptr 1 0)])), (9, (.tup []))]) (H := [(0, (.row [(.int .i64 0)] 3))]) (H' := [(0, (.row [(.int .i64 (((0 + namesN d : Nat) : Int)))] 3))]) (h2 := [(1, (.row [(.int .i64 (((0 + namesN d : Nat) : Int)))] 3))]) (by kernel_rfl) (by exact en_67) (by kernel_rfl) (by kernel_rfl) (by kernel_rfl) (by kernel_rfl) (by kernel_rfl) (all_ok' d 0 (by omega)) (by kernel_rfl) (by kernel_rfl) (by kernel_rfl) ?_
  refine SO_nil ?_
  refine SW_seq ?_
  refine SW_P [] [11] ?_
  refine SW_if (p := 16 < ((0 + namesN d : Nat) : Int)) (by kernel_rfl) (fun c2 => ?_) (fun c2 => ?_)
  ·refine SW_P [] [2] ?_
   refine SW_ret ?_
   refine RK wR [(.int .i64 51)] ?_
   refine Same.of_eq ?_
   simp only [pack]
   rw [checkE, c1, if_pos rfl, if_pos (by have := names_parts d c1; omega)]
  ·refine SW_skip ?_
   refine SW_P [] [2] ?_
   refine SW_ret ?_
   refine RK wR [(.int .i64 0)] ?_
   refine Same.of_eq ?_
   simp only [pack]
   rw [checkE, c1, if_pos rfl, if_neg (by have := names_parts d c1; omega)]
set_option maxHeartbeats 400000 in
set_option maxRecDepth 100000 in
theorem refCheckV (d : DepT) (hs : d.size ≤ 4194304) :
  FnV Tryz.prog 52 [(.agg [(.int .i64 d.kind), (.str d.name), (.int .i64 d.op), (.str d.evr), (.row 5 d.args.length (depAt d.args))])] (.int .i64 (checkE d)) := by
 refine FnV_intro [.tmp 2] Tryz.func52 rfl Tryz.ntmps52 rfl rfl (fun B F hF => ?_)
 refine SW_H [] [1] [(1, 1)] hk0 v0 c0 ?_
 refine SW_H [] [1, 3] [] (hk 1 en_110 (refForm_ok d hs) <| hk0) v0 c0 ?_
 refine SW_seq ?_
 refine SW_P [] [1, 7] ?_
 refine SW_cond (q := !(formB d)) (by kernel_rfl) (fun c1 => ?_) (fun c1 => ?_)
 ·try simp only [Bool.and_eq_true, Bool.or_eq_true, Bool.and_eq_false_iff, Bool.or_eq_false_iff, Bool.not_eq_true', Bool.not_eq_false', decide_eq_true_eq, decide_eq_false_iff_not] at c1
  refine SW_P [] [2] ?_
  refine SW_ret ?_
  refine RK wR [(.int .i64 50)] ?_
  refine Same.of_eq ?_
  simp only [pack]
  rw [checkE, c1]
  rfl
 ·try simp only [Bool.and_eq_true, Bool.or_eq_true, Bool.and_eq_false_iff, Bool.or_eq_false_iff, Bool.not_eq_true', Bool.not_eq_false', decide_eq_true_eq, decide_eq_false_iff_not] at c1
  refine SW_skip ?_
  refine SW_seq ?_
  refine SW_H [] [10] [] (hk 1 en_111 (partsV d hs) <| hk0) v0 c0 ?_
  refine SW_if (p := 16 < (partsN d : Int)) (by kernel_rfl) (fun c2 => ?_) (fun c2 => ?_)
  ·refine SW_P [] [2] ?_
   refine SW_ret ?_
   refine RK wR [(.int .i64 51)] ?_
   refine Same.of_eq ?_
   simp only [pack]
   rw [checkE, c1, if_pos rfl, if_pos (by omega)]
  ·refine SW_skip ?_
   refine SW_P [] [2] ?_
   refine SW_ret ?_
   refine RK wR [(.int .i64 0)] ?_
   refine Same.of_eq ?_
   simp only [pack]
   rw [checkE, c1, if_pos rfl, if_neg (by omega)]
end Sv
end Go.Proofs.YtlfjokcbkopfeaaGreatDoor
end
section
namespace Go.Proofs.YtlfjokcbkopfeaaGreatDoor
open Go Go.RowKit
namespace Sv
attribute [local irreducible] SW SO holds
theorem en_157 : Enters Tryz.prog 157 := enters_of Tryz.func157 (by kernel_rfl) rfl
theorem en_109 : Enters Tryz.prog 109 := enters_of Tryz.func109 (by kernel_rfl) rfl
theorem en_108 : Enters Tryz.prog 108 := enters_of Tryz.func108 (by kernel_rfl) rfl
theorem en_107 : Enters Tryz.prog 107 := enters_of Tryz.func107 (by kernel_rfl) rfl
theorem en_51 : Enters Tryz.prog 51 := enters_of Tryz.func51 (by kernel_rfl) rfl
theorem en_96 : Enters Tryz.prog 96 := enters_of Tryz.func96 (by kernel_rfl) rfl
theorem en_47 : Enters Tryz.prog 47 := enters_of Tryz.func47 (by kernel_rfl) rfl
set_option maxHeartbeats 400000 in
set_option maxRecDepth 100000 in
theorem cloneS_any (l : List (List UInt8)) (hl : l.length ≤ 4611686018427) :
  FnV Tryz.prog 109 [(strs l)] (strs l) := by
 refine FnV_intro [.tmp 2] Tryz.func109 rfl Tryz.ntmps109 rfl rfl (fun B F hF => ?_)
 refine SW_P [] [0] ?_
 refine SW_seq ?_
 refine SW_seq ?_
 refine SW_reg ?_
 refine SO_H 1 0 [] [0, 3] [] hk0 v0 c0 ?_
 refine SO_nilrow (G := rowG (strs l)) (sz := 1) (m := l.length) (e := 9) (by kernel_rfl) (by kernel_rfl) (by kernel_rfl) (by kernel_rfl) (fun nq1 => ⟨[(0, (strs l)), (3, (strs l)), (4, (.bool nq1))], by kernel_rfl, fun hnq1 => ?_⟩)
 refine SO_nil ?_
 refine SW_cond (q := nq1) (by kernel_rfl) (fun c1 => ?_) (fun c1 => ?_)
 ·try simp only [Bool.and_eq_true, Bool.or_eq_true, Bool.and_eq_false_iff, Bool.or_eq_false_iff, Bool.not_eq_true', Bool.not_eq_false', decide_eq_true_eq, decide_eq_false_iff_not] at c1
  refine SW_P [] [2] ?_
  refine SW_ret ?_
  refine RK wR [.nils] ?_
  simp only [pack]
  exact (Same.of_eq rfl).trans (Imp.same (by have := hnq1 (by simp_all); have : l = [] := List.length_eq_zero_iff.1 this; subst this; exact Imp.nil))
 ·try simp only [Bool.and_eq_true, Bool.or_eq_true, Bool.and_eq_false_iff, Bool.or_eq_false_iff, Bool.not_eq_true', Bool.not_eq_false', decide_eq_true_eq, decide_eq_false_iff_not] at c1
  refine SW_skip ?_
  refine SW_H [] [2] [] hk0 v0 (cc 2 (p := ((([] : List AV).length + l.length) * 16 ≤ 140737488355328)) (by first | omega | (simp; omega) | (simp; done) | (intros; simp_all; omega) | (intros; simp_all; done)) <| c0) ?_
  refine SW_ret ?_
  refine RK wR [(.row 1 (([] : List AV) ++ ((List.range l.length).map (fun kx => ((.str (nth l kx)) : AV)))).length (fun ix => (([] : List AV) ++ ((List.range l.length).map (fun kx => ((.str (nth l kx)) : AV)))).getD ix junk))] ?_
  simp only [pack]
  exact Same.grown (f := AV.str) (l := l) (by simp [range_all])
set_option maxHeartbeats 400000 in
set_option maxRecDepth 100000 in
theorem own_step (l : List DepT) (hs : argsSize l ≤ 4194304) (ih : ∀ i, i < l.length → FnV Tryz.prog 108 [deps (nth l i).args] (.row 5 (nth l i).args.length (depAt (nth l i).args))) :
  FnV Tryz.prog 108 [(rowOf 5 depX l)] (.row 5 l.length (depAt l)) := by
 have hal := args_len l
 refine FnV_intro [.tmp 2] Tryz.func108 rfl Tryz.ntmps108 rfl rfl (fun B F hF => ?_)
 refine SW_P [] [0] ?_
 refine SW_seq ?_
 refine SW_reg ?_
 refine SO_H 1 0 [] [5] [] hk0 v0 c0 ?_
 refine SO_inl [.tmp 2] (al := [(rowOf 5 depX l)]) (s0 := [(5, (rowOf 5 depX l))]) (by kernel_rfl) (by exact en_157) (by kernel_rfl) Tryz.func157 rfl Tryz.ntmps157 rfl (by kernel_rfl) (by kernel_rfl) (fun F1 hF1 hle1 => ?_)
 refine SW_P [] [0] ?_
 refine SW_seq ?_
 refine SW_seq ?_
 refine SW_reg ?_
 refine SO_H 1 0 [] [0, 3] [] hk0 v0 c0 ?_
 refine SO_nilrow (G := rowG (rowOf 5 depX l)) (sz := 5) (m := l.length) (e := 25) (by kernel_rfl) (by kernel_rfl) (by kernel_rfl) (by kernel_rfl) (fun nq1_1 => ⟨[(0, (rowOf 5 depX l)), (3, (rowOf 5 depX l)), (4, (.bool nq1_1))], by kernel_rfl, fun hnq1_1 => ?_⟩)
 refine SO_nil ?_
 refine SW_cond (q := nq1_1) (by kernel_rfl) (fun c1 => ?_) (fun c1 => ?_)
 ·try simp only [Bool.and_eq_true, Bool.or_eq_true, Bool.and_eq_false_iff, Bool.or_eq_false_iff, Bool.not_eq_true', Bool.not_eq_false', decide_eq_true_eq, decide_eq_false_iff_not] at c1
  refine SW_P [] [2] ?_
  refine SW_ret ?_
  refine inlK_mk (.inl rfl) (al := [.nils]) (s' := [(5, (rowOf 5 depX l)), (6, .nils)]) (by kernel_rfl) (by kernel_rfl) ?_
  refine SO_HA 2 [] [0] [] hk0 v0 c0 ?_
  refine SW_seq ?_
  refine SW_P [] [0, 7, 8, 9] ?_
  refine SW_block ?_
  refine SW_rounds 1 ?_
  refine SR_round ?_
  refine SW_P [] [0, 7, 8, 9, 10] ?_
  refine SW_seq ?_
  refine SW_false (by kernel_rfl) ?_
  refine SW_exit ?_
  refine SW_P [] [2] ?_
  refine SW_ret ?_
  refine RK wR [.nils] ?_
  have h0 : l = [] := List.length_eq_zero_iff.1 (hnq1_1 c1)
  subst h0
  exact (Same.nil (f := depX)).trans (deps_to []).same
 ·try simp only [Bool.and_eq_true, Bool.or_eq_true, Bool.and_eq_false_iff, Bool.or_eq_false_iff, Bool.not_eq_true', Bool.not_eq_false', decide_eq_true_eq, decide_eq_false_iff_not] at c1
  refine SW_skip ?_
  refine SW_H [] [2] [] hk0 v0 (cc 2 (p := ((([] : List AV).length + l.length) * 72 ≤ 140737488355328)) (by first | omega | (simp; omega) | (simp; done) | (intros; simp_all; omega) | (intros; simp_all; done)) <| c0) ?_
  refine SW_ret ?_
  refine inlK_mk (.inl rfl) (al := [(.own 1)]) (s' := [(5, (rowOf 5 depX l)), (6, (.own 1))]) (by kernel_rfl) (by kernel_rfl) ?_
  refine SO_HA 2 [] [0] [] hk0 v0 c0 ?_
  refine SW_seq ?_
  refine SW_P [] [0, 7, 8, 9] ?_
  refine SW_block ?_
  refine SW_L (fun g y => ∃ (i : Nat), i ≤ l.length ∧ y = ⟨[(0, (.own 1)), (7, (.own 1)), (8, (.int .i64 (((l.map depX).length : Int)))), (9, (.int .i64 ((i : Int))))], [(1, (.grow (l.map depX) 25 5))], 2⟩ ∧ g = l.length - i) [0, 7, 8, 9] 2 _ (by omega) ⟨0, (by omega), (Eq.trans (b := (⟨[(0, (.own 1)), (7, (.own 1)), (8, (.int .i64 (((([] : List AV) ++ ((List.range l.length).map (fun kx => ((.agg [(.int .i64 ((nth l kx).kind)), (.str ((nth l kx).name)), (.int .i64 ((nth l kx).op)), (.str ((nth l kx).evr)), (.row 5 (nth l kx).args.length (depAt (nth l kx).args))]) : AV)))).length : Int)))), (9, (.int .i64 0))], [(1, (.grow (([] : List AV) ++ ((List.range l.length).map (fun kx => ((.agg [(.int .i64 ((nth l kx).kind)), (.str ((nth l kx).name)), (.int .i64 ((nth l kx).op)), (.str ((nth l kx).evr)), (.row 5 (nth l kx).args.length (depAt (nth l kx).args))]) : AV)))) 25 5))], 2⟩ : St)) (by kernel_rfl) (by rw [show (([] : List AV) ++ ((List.range l.length).map (fun kx => ((.agg [(.int .i64 ((nth l kx).kind)), (.str ((nth l kx).name)), (.int .i64 ((nth l kx).op)), (.str ((nth l kx).evr)), (.row 5 (nth l kx).args.length (depAt (nth l kx).args))]) : AV)))) = l.map depX from own_start depX l]; rfl)), rfl⟩ ?_
  rintro g2 y2 ⟨i, f2_1, rfl, rfl⟩
  have hlm : (l.map depX).length = l.length := List.length_map _
  refine SW_P [] [0, 7, 8, 9, 10] ?_
  refine SW_seq ?_
  refine SW_if (p := (i : Int) < ((l.map depX).length : Int)) (by kernel_rfl) (fun c2 => ?_) (fun c2 => ?_)
  ·refine SW_skip ?_
   refine SW_seq ?_
   refine SW_block ?_
   refine SW_seq ?_
   refine SW_reg ?_
   refine SO_H 1 0 [] [0, 7, 8, 9, 11] [] hk0 v0 c0 ?_
   refine SO_opidx (b := 1) (i := i) (es := l.map depX) (e := 25) (sz := 5) (k := .i64) (s' := [(0, (.own 1)), (7, (.own 1)), (8, (.int .i64 (((l.map depX).length : Int)))), (9, (.int .i64 ((i : Int)))), (11, (.int .i64 ((i : Int)))), (12, (.op 1 (i * 5)))]) (by kernel_rfl) (by kernel_rfl) (by kernel_rfl) (by kernel_rfl) (by kernel_rfl) (by kernel_rfl) (by first | (rw [List.length_map]; omega) | simp_all) (by kernel_rfl) ?_
   refine SO_opload (b := 1) (e := 25) (sz := 5) (es := l.map depX) (o := i * 5) (i := i) (j := 0) (a := (.agg [(.int .i64 ((nth l i).kind)), (.str ((nth l i).name)), (.int .i64 ((nth l i).op)), (.str ((nth l i).evr)), (.row 5 (nth l i).args.length (depAt (nth l i).args))])) (r := (.agg [(.int .i64 ((nth l i).kind)), (.str ((nth l i).name)), (.int .i64 ((nth l i).op)), (.str ((nth l i).evr)), (.row 5 (nth l i).args.length (depAt (nth l i).args))])) (s' := [(0, (.own 1)), (7, (.own 1)), (8, (.int .i64 (((l.map depX).length : Int)))), (9, (.int .i64 ((i : Int)))), (11, (.int .i64 ((i : Int)))), (12, (.op 1 (i * 5))), (13, (.agg [(.int .i64 ((nth l i).kind)), (.str ((nth l i).name)), (.int .i64 ((nth l i).op)), (.str ((nth l i).evr)), (.row 5 (nth l i).args.length (depAt (nth l i).args))]))]) (by kernel_rfl) (by kernel_rfl) rfl (by kernel_rfl) (get_map (l := l) depX (by omega)) (by kernel_rfl) (by kernel_rfl) ?_
   refine SO_HA 3 [] [0, 3, 4, 7, 8, 9] [] hk0 v0 c0 ?_
   refine SW_reg ?_
   refine SO_H 5 0 [] [0, 7, 8, 9, 14, 15, 18] [(0, 4)] (hk 4 en_108 (ih i (by omega)) <| hk0) (vk 4 17 (deps_of (nth l i).args) <| v0) c0 ?_
   refine SO_opidx (b := 1) (i := i) (es := l.map depX) (e := 25) (sz := 5) (k := .i64) (s' := [(0, (.own 1)), (7, (.own 1)), (8, (.int .i64 (((l.map depX).length : Int)))), (9, (.int .i64 ((i : Int)))), (14, (.own 1)), (15, (.int .i64 ((i : Int)))), (18, (.row 5 ((nth l i).args).length (depAt ((nth l i).args)))), (19, (.op 1 (i * 5)))]) (by kernel_rfl) (by kernel_rfl) (by kernel_rfl) (by kernel_rfl) (by kernel_rfl) (by kernel_rfl) (by first | (rw [List.length_map]; omega) | simp_all) (by kernel_rfl) ?_
   refine SO_opfld (b := 1) (o := i * 5) (off := 4) (s' := [(0, (.own 1)), (7, (.own 1)), (8, (.int .i64 (((l.map depX).length : Int)))), (9, (.int .i64 ((i : Int)))), (14, (.own 1)), (15, (.int .i64 ((i : Int)))), (18, (.row 5 ((nth l i).args).length (depAt ((nth l i).args)))), (19, (.op 1 (i * 5))), (20, (.op 1 (i * 5 + 4)))]) (by kernel_rfl) (by kernel_rfl) (by kernel_rfl) (by kernel_rfl) ?_
   refine SO_opstore (b := 1) (e := 25) (sz := 5) (es := l.map depX) (o := i * 5 + 4) (i := i) (j := 4) (a := (.agg [(.int .i64 ((nth l i).kind)), (.str ((nth l i).name)), (.int .i64 ((nth l i).op)), (.str ((nth l i).evr)), (.row 5 (nth l i).args.length (depAt (nth l i).args))])) (r := (.agg [(.int .i64 ((nth l i).kind)), (.str ((nth l i).name)), (.int .i64 ((nth l i).op)), (.str ((nth l i).evr)), (.row 5 ((nth l i).args).length (depAt ((nth l i).args)))])) (v := (.row 5 ((nth l i).args).length (depAt ((nth l i).args)))) (s' := [(0, (.own 1)), (7, (.own 1)), (8, (.int .i64 (((l.map depX).length : Int)))), (9, (.int .i64 ((i : Int)))), (14, (.own 1)), (15, (.int .i64 ((i : Int)))), (18, (.row 5 ((nth l i).args).length (depAt ((nth l i).args)))), (19, (.op 1 (i * 5))), (20, (.op 1 (i * 5 + 4)))]) (by kernel_rfl) (by kernel_rfl) rfl (by kernel_rfl) (by kernel_rfl) (get_map (l := l) depX (by omega)) (by kernel_rfl) (by kernel_rfl) ?_
   refine SO_nil ?_
   refine SW_reg ?_
   refine SO_HA 0 [] [0, 7, 8, 9] [] hk0 v0 (cc 0 (p := (-9223372036854775808 ≤ (i : Int) + 1 ∧ (i : Int) + 1 ≤ 9223372036854775807)) (by first | omega | (simp; omega) | (simp; done) | (intros; simp_all; omega) | (intros; simp_all; done)) <| c0) ?_
   refine ⟨by kernel_rfl, _, ?_, i + 1, ?_, (Eq.trans (b := (⟨[(0, (.own 1)), (7, (.own 1)), (8, (.int .i64 (((l.map depX).length : Int)))), (9, (.int .i64 ((i : Int) + 1)))], [(1, (.grow ((l.map depX).set i (.agg [(.int .i64 ((nth l i).kind)), (.str ((nth l i).name)), (.int .i64 ((nth l i).op)), (.str ((nth l i).evr)), (.row 5 ((nth l i).args).length (depAt ((nth l i).args)))])) 25 5))], 2⟩ : St)) (by kernel_rfl) (congrArg (fun es => St.mk _ [(1, AO.grow es _ _)] _) (set_self depX l i))), rfl⟩
   all_goals omega
  ·refine SW_exit ?_
   refine SW_P [] [2] ?_
   refine SW_ret ?_
   refine RK wR [(.row 5 (l.map depX).length (fun ix => (l.map depX).getD ix junk))] ?_
   simp only [pack]
   exact (Same.grown (f := depX) (l := l) rfl).trans (deps_to l).same
theorem own_raw (l : List DepT) : argsSize l ≤ 4194304 → FnV Tryz.prog 108 [deps l] (.row 5 l.length (depAt l)) := by
 have key : ∀ n (l : List DepT), argsSize l ≤ n → argsSize l ≤ 4194304 → FnV Tryz.prog 108 [deps l] (.row 5 l.length (depAt l)) := by
  intro n
  induction n with
  | zero => exact fun l h hs => own_step l hs fun i hi => by have := args_nth_size hi; omega
  | succ n ih => exact fun l h hs => own_step l hs fun i hi => by have := args_nth_size hi; exact ih _ (by omega) (by omega)
 exact key _ l (Nat.le_refl _)
theorem own_any (l : List DepT) (hs : argsSize l ≤ 4194304) : FnV Tryz.prog 108 [deps l] (deps l) := (own_raw l hs).to (deps_of l).same
set_option maxHeartbeats 400000 in
set_option maxRecDepth 100000 in
theorem copied_any (p : PkgT) (hs : p.depSize ≤ 4194304) (hf : p.files.length ≤ 4611686018427) :
  FnV Tryz.prog 51 [(pkgX p)] (pkgX p) := by
 unfold PkgT.depSize at hs
 refine FnV_intro [.cell 2 38] Tryz.func51 rfl Tryz.ntmps51 rfl rfl (fun B F hF => ?_)
 refine SW_P [] [1, 2] ?_
 refine SW_seq ?_
 refine SW_seq ?_
 refine SW_reg ?_
 refine SO_inl [.tmp 2] (al := [(.ptr 0 0)]) (s0 := [(1, (.ptr 0 0)), (2, (.ptr 1 0))]) (by kernel_rfl) (by exact en_107) (by kernel_rfl) Tryz.func107 rfl Tryz.ntmps107 rfl (by kernel_rfl) (by kernel_rfl) (fun F1 hF1 hle1 => ?_)
 refine SW_P [] [0] ?_
 refine SW_D [] [2] [] hk0 v0 c0 ?_
 refine SW_ret ?_
 refine inlK_mk (.inl rfl) (al := [(.sl 2 0 7 7 false)]) (s' := [(1, (.ptr 0 0)), (2, (.ptr 1 0)), (5, (.sl 2 0 7 7 false))]) (by kernel_rfl) (by kernel_rfl) ?_
 refine SO_HA 1 [] [1, 2, 5, 6, 7] [] hk0 v0 c0 ?_
 refine SW_block ?_
 refine SW_rounds 8 ?_
 refine SR_round ?_
 refine SW_P [] [1, 2, 5, 6, 7, 8] ?_
 refine SW_seq ?_
 refine SW_true (by kernel_rfl) ?_
 refine SW_skip ?_
 refine SW_seq ?_
 refine SW_block ?_
 refine SW_P [] [1, 2, 4, 5, 6, 7] ?_
 refine SW_reg ?_
 refine SO_HA 0 [] [1, 2, 5, 6, 7] [] (hk 4 en_108 (own_any p.provides (by omega)) <| hk0) v0 c0 ?_
 refine SW_reg ?_
 refine SO_HA 0 [] [1, 2, 5, 6, 7] [] hk0 v0 (cc 0 (p := (-9223372036854775808 ≤ (1 : Int) ∧ (1 : Int) ≤ 9223372036854775807)) (by first | omega | (simp; omega) | (simp; done) | (intros; simp_all; omega) | (intros; simp_all; done)) <| c0) ?_
 refine SR_round ?_
 refine SW_P [] [1, 2, 5, 6, 7, 8] ?_
 refine SW_seq ?_
 refine SW_true (by kernel_rfl) ?_
 refine SW_skip ?_
 refine SW_seq ?_
 refine SW_block ?_
 refine SW_P [] [1, 2, 4, 5, 6, 7] ?_
 refine SW_reg ?_
 refine SO_HA 0 [] [1, 2, 5, 6, 7] [] (hk 4 en_108 (own_any p.requires (by omega)) <| hk0) v0 c0 ?_
 refine SW_reg ?_
 refine SO_HA 0 [] [1, 2, 5, 6, 7] [] hk0 v0 (cc 0 (p := (-9223372036854775808 ≤ (2 : Int) ∧ (2 : Int) ≤ 9223372036854775807)) (by first | omega | (simp; omega) | (simp; done) | (intros; simp_all; omega) | (intros; simp_all; done)) <| c0) ?_
 refine SR_round ?_
 refine SW_P [] [1, 2, 5, 6, 7, 8] ?_
 refine SW_seq ?_
 refine SW_true (by kernel_rfl) ?_
 refine SW_skip ?_
 refine SW_seq ?_
 refine SW_block ?_
 refine SW_P [] [1, 2, 4, 5, 6, 7] ?_
 refine SW_reg ?_
 refine SO_HA 0 [] [1, 2, 5, 6, 7] [] (hk 4 en_108 (own_any p.pre (by omega)) <| hk0) v0 c0 ?_
 refine SW_reg ?_
 refine SO_HA 0 [] [1, 2, 5, 6, 7] [] hk0 v0 (cc 0 (p := (-9223372036854775808 ≤ (3 : Int) ∧ (3 : Int) ≤ 9223372036854775807)) (by first | omega | (simp; omega) | (simp; done) | (intros; simp_all; omega) | (intros; simp_all; done)) <| c0) ?_
 refine SR_round ?_
 refine SW_P [] [1, 2, 5, 6, 7, 8] ?_
 refine SW_seq ?_
 refine SW_true (by kernel_rfl) ?_
 refine SW_skip ?_
 refine SW_seq ?_
 refine SW_block ?_
 refine SW_P [] [1, 2, 4, 5, 6, 7] ?_
 refine SW_reg ?_
 refine SO_HA 0 [] [1, 2, 5, 6, 7] [] (hk 4 en_108 (own_any p.conflicts (by omega)) <| hk0) v0 c0 ?_
 refine SW_reg ?_
 refine SO_HA 0 [] [1, 2, 5, 6, 7] [] hk0 v0 (cc 0 (p := (-9223372036854775808 ≤ (4 : Int) ∧ (4 : Int) ≤ 9223372036854775807)) (by first | omega | (simp; omega) | (simp; done) | (intros; simp_all; omega) | (intros; simp_all; done)) <| c0) ?_
 refine SR_round ?_
 refine SW_P [] [1, 2, 5, 6, 7, 8] ?_
 refine SW_seq ?_
 refine SW_true (by kernel_rfl) ?_
 refine SW_skip ?_
 refine SW_seq ?_
 refine SW_block ?_
 refine SW_P [] [1, 2, 4, 5, 6, 7] ?_
 refine SW_reg ?_
 refine SO_HA 0 [] [1, 2, 5, 6, 7] [] (hk 4 en_108 (own_any p.obsoletes (by omega)) <| hk0) v0 c0 ?_
 refine SW_reg ?_
 refine SO_HA 0 [] [1, 2, 5, 6, 7] [] hk0 v0 (cc 0 (p := (-9223372036854775808 ≤ (5 : Int) ∧ (5 : Int) ≤ 9223372036854775807)) (by first | omega | (simp; omega) | (simp; done) | (intros; simp_all; omega) | (intros; simp_all; done)) <| c0) ?_
 refine SR_round ?_
 refine SW_P [] [1, 2, 5, 6, 7, 8] ?_
 refine SW_seq ?_
 refine SW_true (by kernel_rfl) ?_
 refine SW_skip ?_
 refine SW_seq ?_
 refine SW_block ?_
 refine SW_P [] [1, 2, 4, 5, 6, 7] ?_
 refine SW_reg ?_
 refine SO_HA 0 [] [1, 2, 5, 6, 7] [] (hk 4 en_108 (own_any p.recommends (by omega)) <| hk0) v0 c0 ?_
 refine SW_reg ?_
 refine SO_HA 0 [] [1, 2, 5, 6, 7] [] hk0 v0 (cc 0 (p := (-9223372036854775808 ≤ (6 : Int) ∧ (6 : Int) ≤ 9223372036854775807)) (by first | omega | (simp; omega) | (simp; done) | (intros; simp_all; omega) | (intros; simp_all; done)) <| c0) ?_
 refine SR_round ?_
 refine SW_P [] [1, 2, 5, 6, 7, 8] ?_
 refine SW_seq ?_
 refine SW_true (by kernel_rfl) ?_
 refine SW_skip ?_
 refine SW_seq ?_
 refine SW_block ?_
 refine SW_P [] [1, 2, 4, 5, 6, 7] ?_
 refine SW_reg ?_
 refine SO_HA 0 [] [1, 2, 5, 6, 7] [] (hk 4 en_108 (own_any p.supplements (by omega)) <| hk0) v0 c0 ?_
 refine SW_reg ?_
 refine SO_HA 0 [] [1, 2, 5, 6, 7] [] hk0 v0 (cc 0 (p := (-9223372036854775808 ≤ (7 : Int) ∧ (7 : Int) ≤ 9223372036854775807)) (by first | omega | (simp; omega) | (simp; done) | (intros; simp_all; omega) | (intros; simp_all; done)) <| c0) ?_
 refine SR_round ?_
 refine SW_P [] [1, 2, 5, 6, 7, 8] ?_
 refine SW_seq ?_
 refine SW_false (by kernel_rfl) ?_
 refine SW_exit ?_
 refine SW_H [] [1, 2] [] (hk 2 en_109 (cloneS_any p.files hf) <| hk0) v0 c0 ?_
 refine SW_P [] [2] ?_
 refine SW_ret ?_
 refine RK wR [(pkgX p)] ?_
 exact Same.of_eq rfl
end Sv
end Go.Proofs.YtlfjokcbkopfeaaGreatDoor
end
section
namespace Go.Proofs.YtlfjokcbkopfeaaGreatDoor
open Go Go.RowKit
set_option linter.unusedSimpArgs false
set_option linter.unusedVariables false
namespace Sv
theorem idxFuncFrom_all {l : List UInt8} {p : Nat → Bool} (hp : ∀ r, 128 ≤ r → p r = true) : ∀ (fuel pos : Nat), l.length ≤ pos + fuel → decide (Lib.idxFuncFrom p true ⟨l.toArray⟩ fuel pos < 0) = (l.drop pos).all (fun b => !p b.toNat)
  | 0, pos, h => by
    rw [List.drop_of_length_le (by omega)]; rfl
  | fuel + 1, pos, h => by
    have hsz : (⟨l.toArray⟩ : ByteArray).size = l.length := S_size l
    by_cases hpos : pos < l.length
    · have hdrop : l.drop pos = byteAt l pos :: l.drop (pos + 1) := by
        rw [List.drop_eq_getElem_cons hpos, byteAt_eq hpos]
      rw [hdrop, List.all_cons]
      simp only [Lib.idxFuncFrom, hsz, hpos, if_true]
      by_cases ha : (byteAt l pos).toNat < 128
      · rw [decode_ascii' hpos ha]
        simp only
        cases hc : p (byteAt l pos).toNat with
        | true => simp
        | false =>
          have := idxFuncFrom_all (l := l) hp fuel (pos + 1) (by omega)
          simpa using this
      · have hh := decode_high hpos (by omega)
        have h1 := hp _ hh.1
        have h2 := hp (byteAt l pos).toNat (by omega)
        rw [h1, h2]; simp
    · rw [List.drop_of_length_le (by omega)]
      have : ¬ pos < (⟨l.toArray⟩ : ByteArray).size := by rw [hsz]; exact hpos
      simp [Lib.idxFuncFrom, this]
theorem idxFunc_all {l : List UInt8} {p : Nat → Bool} (hp : ∀ r, 128 ≤ r → p r = true) : decide (Lib.idxFunc p true ⟨l.toArray⟩ < 0) = l.all (fun b => !p b.toNat) := by
  have := idxFuncFrom_all (l := l) hp l.length 0 (by omega)
  rw [List.drop_zero] at this
  rw [← this]
  unfold Lib.idxFunc
  rw [show (⟨l.toArray⟩ : ByteArray).size = l.length from S_size l]
theorem IndexFuncV (s : List UInt8) (g : Nat) (cap : List AV) (p : Nat → Bool) (he : Enters Tryz.prog g) (hc : frzl cap = true) (h : ∀ x : Nat, x ≤ 1114111 → FnV Tryz.prog g (.int .i32 x :: cap) (.bool (p x))) :
    FnV Tryz.prog 100 [.str s, .fn g [] cap] (.int .i64 (Lib.idxFunc p true ⟨s.toArray⟩)) := by
  intro F w vs hF hv
  obtain ⟨v, r1, rfl, h1, hv⟩ := hv.cons_inv
  obtain ⟨v2, rfl, h2⟩ := hv.single_inv
  simp only [VR] at h1 h2
  subst h1
  obtain ⟨vf, vc, q1, q2, rfl⟩ := h2
  rw [q1.nil_inv]
  refine (Tryz.strings_IndexFunc_grows g vc.toArray (fun args w => he args w) p ⟨s.toArray⟩ w ?_).mono ?_
  · intro W x hx hb
    have hF' : Fro F W := fun b o e => (hb.block b (block_lt (hF b o e))).trans (hF b o e)
    have key : Calls Tryz.prog g (Value.int .i32 x :: vc).toArray W (fun e w' => e = .returned (.bool (p x)) ∧ Below W.heap.size W w') := by
      refine (h x hx F W (.int .i32 x :: vc) hF' (.cons (by simp only [VR]) q2)).mono ?_
      rintro e w' ⟨v, he, hb', F', _, _, _, hr⟩
      simp only [VR] at hr; subst hr
      exact ⟨he, hb'⟩
    have e : (#[Proofs.encR x] ++ vc.toArray) = (Value.int .i32 x :: vc).toArray := by apply Array.ext'; simp [Proofs.encR]
    rw [e]; exact key
  · rintro e w' ⟨he, hb⟩
    exact ⟨_, he, hb, F, fun _ _ e => e, fun b o e => (hb.block b (block_lt (hF b o e))).trans (hF b o e), fun _ _ e => .inl e, by simp only [VR]⟩
theorem HasPrefixV (s : List UInt8) (c : UInt8) (hl : s.length ≤ 9223372036854775807) : FnV Tryz.prog 106 [.str s, .str [c]] (.bool (headIs s c)) := by
  intro F w vs hF hv
  obtain ⟨v, r1, rfl, h1, hv⟩ := hv.cons_inv
  obtain ⟨v2, rfl, h2⟩ := hv.single_inv
  simp only [VR] at h1 h2
  subst h1 h2
  refine (HasPrefix_any s c w hl).mono ?_
  rintro e w' ⟨v, he, rfl, rfl⟩
  exact ⟨_, he, Below.refl _ _, F, fun _ _ e => e, hF, fun _ _ e => .inl e, by simp only [VR]⟩
theorem nameB_pos {l : List UInt8} (h : nameB l = true) : 0 < l.length := by
  cases l with
  | nil => exact absurd h (by decide)
  | cons a r => simp
theorem any_not {α : Type} {l : List α} (p : α → Bool) : (l.any fun x => !p x) = !l.all p := by
  induction l with
  | nil => rfl
  | cons a r ih => simp only [List.any_cons, List.all_cons, ih, Bool.not_and]
end Sv
end Go.Proofs.YtlfjokcbkopfeaaGreatDoor
end
section
namespace Go.Proofs.YtlfjokcbkopfeaaGreatDoor
open Go Go.RowKit
namespace Sv
attribute [local irreducible] SW SO holds
end Sv
end Go.Proofs.YtlfjokcbkopfeaaGreatDoor
end
section
namespace Go.Proofs.YtlfjokcbkopfeaaGreatDoor
open Go Go.RowKit
namespace Sv
attribute [local irreducible] SW SO holds
end Sv
end Go.Proofs.YtlfjokcbkopfeaaGreatDoor
end
section
namespace Go.Proofs.YtlfjokcbkopfeaaGreatDoor
open Go Go.RowKit
set_option linter.unusedSimpArgs false
set_option linter.unusedVariables false
namespace Sv
section
variable {P : Program} {ds : List Deferred}
variable {B : Bas} {F : Cx} {n : Nat} {K : Exit → St → Prop} {x : St}
def SWD (P : Program) (ds : List Deferred) (n : Nat) (c : Code) (B : Bas) (F : Cx) (K : Exit → St → Prop) (x : St) : Prop := ∀ φ σ w, Holds B F n x φ σ w → D.W P ds n c (conc B F n K) σ w
end
attribute [local irreducible] SW SO SWD holds
end Sv
end Go.Proofs.YtlfjokcbkopfeaaGreatDoor
end
