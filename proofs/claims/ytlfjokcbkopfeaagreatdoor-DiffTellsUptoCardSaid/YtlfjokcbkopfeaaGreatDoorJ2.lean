/- The texts S36, S37, S38, DepV, NamV, Evr1, CmpV, EvrV, EvrW, PkgV, FormV, Pool1, RuneV, NextV, OneV, ParseL, Pool2, Pool3 of the proof, joined. Each says at its theorems what it proves. -/
import Derived.Test.YtlfjokcbkopfeaaGreatDoorJ1
set_option linter.unusedSimpArgs false
set_option linter.unusedVariables false
section
namespace Go.Proofs.YtlfjokcbkopfeaaGreatDoor
open Go Go.RowKit
set_option linter.unusedSimpArgs false
set_option linter.unusedVariables false
namespace Sv
abbrev I4 := List St × List (Nat × Prop) × List (Nat × List AV × Bool) × List (Nat × List AV)
noncomputable def noT (i : Nat) : List (Nat × Nat) → Bool
  | [] => true
  | t :: l => !Nat.beq t.1 i && noT i l
noncomputable def Q0z : Op → Bool
  | .call { callee := .value _, args := _, argTypes := _ } => true
  | _ => false
noncomputable def H4 (P : Program) (E : Bool) (n : Nat) (ops : Array Oper) (lz : List Nat) (V : List Conv) (T : List (Nat × Nat)) (listed : Array Bool) (x : St) : List Nat → Option (Nat × List AV × St × Option Prop)
  | [] => none
  | i :: l => bif Region.free .any ops listed i && noT i T then (match ops[i]? with
    | some o => bif Q0z o.op then H4 P E n ops lz V T listed x l else (match Fx i V x with
      | some (x1, m) => match Kk P E n ops lz o x1 with
        | some (y, C) => some (i, m, y, C)
        | none => H4 P E n ops lz V T listed x l
      | none => H4 P E n ops lz V T listed x l)
    | none => H4 P E n ops lz V T listed x l) else H4 P E n ops lz V T listed x l
noncomputable def Pd (f : Nat → Option I4) : List Nat → Option I4
  | [] => some ([], [], [], [])
  | i :: l => match f i with
    | some (a, b, c, d) => match Pd f l with
      | some (a', b', c', d') => some (a ++ a', b ++ b', c ++ c', d ++ d')
      | none => none
    | none => none
noncomputable def F7 (P : Program) (n : Nat) (ops : Array Oper) (lz ts : List Nat) (H : List Hint) (V : List Conv) (T : List (Nat × Nat)) : Nat → Bool → Array Bool → St → Option I4
  | 0, E, listed, x => match Region.ready .any ops listed with
    | [] => match Fm ts x.s with
      | some s => some ([⟨s, x.h, x.nx⟩], [], [], [])
      | none => none
    | _ :: _ => none
  | fuel + 1, E, listed, x => match Region.ready .any ops listed with
    | [] => match Fm ts x.s with
      | some s => some ([⟨s, x.h, x.nx⟩], [], [], [])
      | none => none
    | a :: l => match H4 P E n ops lz V T listed x (a :: l) with
      | some (i, m, y, C) => match F7 P n ops lz ts H V T fuel E (listed.setIfInBounds i true) y with
        | some (fs, cs, ms, vs) => some (fs, H6 i C cs, ms, (i, m) :: vs)
        | none => none
      | none => Pd (fun i => match ops[i]? with
        | some o => match Gl P i T x with
          | some x0 => match Fx i V x0 with
            | some (x1, m) => match Kj P n ops lz H i o x1 with
              | some (y, C, A) => match F7 P n ops lz ts H V T fuel (E && noT i T && A.isNone) (listed.setIfInBounds i true) y with
                | some (fs, cs, ms, vs) => some (fs, H6 i C cs, Li i A ms, (i, m) :: vs)
                | none => none
              | none => none
            | none => none
          | none => none
        | none => none) (a :: l)
section
variable {P : Program} {B : Bas} {w : World} {F F0 : Cx} {n : Nat} {φ : Phi} {σ : Nat → Value} {K : Exit → St → Prop} {KK : St → Prop} {x y : St} {E : Bool} {ops : Array Oper} {fuel : Nat} {listed : Array Bool} {H : List Hint} {V : List Conv} {T : List (Nat × Nat)} {CS : List (Nat × Prop)} {lz ts : List Nat} {i : Nat} {o : Oper} {C : Option Prop} {A : Option (List AV × Bool)}
theorem Um {j : Nat} : ∀ {T : List (Nat × Nat)} {x y : St}, Gl P j T x = some y → noT j T = true → y = x
  | [], x, y, h, _ => by cases h; rfl
  | t :: r, x, y, h, k => by
    unfold noT at k
    simp only [Bool.and_eq_true, Bool.not_eq_true'] at k
    unfold Gl at h
    rw [k.1, cond_false] at h
    exact Um h k.2
theorem Qh {j : Nat} : ∀ {T : List (Nat × Nat)} {x y : St} {φ : Phi}, Gl P j T x = some y → Holds B F n x φ σ w → ∃ φ', Holds B F n y φ' σ w
  | [], x, y, φ, h, hx => by cases h; exact ⟨φ, hx⟩
  | t :: l, x, y, φ, h, hx => by
    unfold Gl at h
    cases hb : Nat.beq t.1 j with
    | false => rw [hb, cond_false] at h; exact Qh h hx
    | true =>
      rw [hb, cond_true] at h
      split at h
      · rename_i z hz
        obtain ⟨φ', h'⟩ := hx.still hz
        exact Qh h h'
      · cases h
theorem Ph {j : Nat} : ∀ {V : List Conv} {x y : St} {m : List AV}, VOk V → Fx j V x = some (y, m) → m = Fy j V → Holds B F n x φ σ w → Holds B F n y φ σ w
  | [], x, y, m, _, h, _, hx => by cases h; exact hx
  | v :: l, x, y, m, hV, h, hm, hx => by
    unfold Fx at h
    unfold Fy at hm
    cases hb : Nat.beq v.i j with
    | false => rw [hb, cond_false] at h hm; exact Ph hV.2 h hm hx
    | true =>
      rw [hb, cond_true] at h hm
      split at h
      · rename_i a ha
        split at h
        · rename_i z m' hz
          cases h
          simp only [List.cons.injEq] at hm
          exact Ph hV.2 hz hm.2 (hx.conv ha (by rw [hm.1]; exact hV.1))
        · cases h
      · cases h
theorem Yw : ∀ {l : List Nat} {i : Nat} {m : List AV} {y : St} {C : Option Prop}, H4 P E n ops lz V T listed x l = some (i, m, y, C) → i ∈ l ∧ Region.free .any ops listed i = true ∧ ∃ o x1, ops[i]? = some o ∧ Fx i V x = some (x1, m) ∧ Kk P E n ops lz o x1 = some (y, C)
  | [], i, m, y, C, h => by cases h
  | a :: l, i, m, y, C, h => by
    have more : H4 P E n ops lz V T listed x l = some (i, m, y, C) → i ∈ a :: l ∧ Region.free .any ops listed i = true ∧ ∃ o x1, ops[i]? = some o ∧ Fx i V x = some (x1, m) ∧ Kk P E n ops lz o x1 = some (y, C) := fun k => by
      obtain ⟨k1, k2⟩ := Yw k; exact ⟨List.mem_cons_of_mem _ k1, k2⟩
    unfold H4 at h
    cases hb : Region.free .any ops listed a && noT a T with
    | false => rw [hb, cond_false] at h; exact more h
    | true =>
      rw [hb, cond_true] at h
      simp only [Bool.and_eq_true] at hb
      split at h
      · rename_i o ho
        cases hk : Q0z o.op with
        | true => rw [hk, cond_true] at h; exact more h
        | false =>
          rw [hk, cond_false] at h
          split at h
          · rename_i x1 m1 hx1
            split at h
            · rename_i y1 C1 hy1
              simp only [Option.some.injEq, Prod.mk.injEq] at h
              obtain ⟨rfl, rfl, rfl, rfl⟩ := h
              exact ⟨List.mem_cons_self, hb.1, o, x1, ho, hx1, hy1⟩
            · exact more h
          · exact more h
      · exact more h
theorem Q0h {f : Nat → Option I4} : ∀ {l : List Nat} {a : List St} {b : List (Nat × Prop)} {c : List (Nat × List AV × Bool)} {d : List (Nat × List AV)}, Pd f l = some (a, b, c, d) →
    ∀ i ∈ l, ∃ a' b' c' d', f i = some (a', b', c', d') ∧ (∀ y ∈ a', y ∈ a) ∧ (∀ y ∈ b', y ∈ b) ∧ (∀ y ∈ c', y ∈ c) ∧ ∀ y ∈ d', y ∈ d
  | [], a, b, c, d, h, i, hi => by cases hi
  | j :: l, a, b, c, d, h, i, hi => by
    unfold Pd at h
    split at h
    · rename_i a1 b1 c1 d1 h1
      split at h
      · rename_i a2 b2 c2 d2 h2
        simp only [Option.some.injEq, Prod.mk.injEq] at h
        obtain ⟨rfl, rfl, rfl, rfl⟩ := h
        rcases List.mem_cons.1 hi with rfl | hi
        · exact ⟨a1, b1, c1, d1, h1, fun y hy => List.mem_append_left _ hy, fun y hy => List.mem_append_left _ hy, fun y hy => List.mem_append_left _ hy, fun y hy => List.mem_append_left _ hy⟩
        · obtain ⟨a', b', c', d', k1, k2, k3, k4, k5⟩ := Q0h h2 i hi
          exact ⟨a', b', c', d', k1, fun y hy => List.mem_append_right _ (k2 y hy), fun y hy => List.mem_append_right _ (k3 y hy), fun y hy => List.mem_append_right _ (k4 y hy), fun y hy => List.mem_append_right _ (k5 y hy)⟩
      · cases h
    · cases h
theorem X4b {l : List Nat} (hr : Region.ready .any ops listed = l) (hl : l ≠ []) (h : ∀ i ∈ l, SN P n ops B F KK F0 E fuel listed i x) : SG P n ops B F KK F0 E (fuel + 1) listed x := by
  unfold SG
  intro φ σ w hx hE
  exact Pu hr hl fun k hk => h k hk φ σ w hx hE
theorem X4c {m : List AV} (hV : VOk V) (h : Fx i V x = some (y, m)) (hm : m = Fy i V) (k : SG P n ops B F KK F0 E fuel listed y) : SG P n ops B F KK F0 E fuel listed x := by
  unfold SG at k ⊢
  exact fun φ σ w hx hE => k φ σ w (Ph hV h hm hx) hE
theorem X35 {m : List AV} {j : Nat} (hV : VOk V) (h : Fx j V x = some (y, m)) (hm : m = Fy j V) (k : SN P n ops B F KK F0 E fuel listed i y) : SN P n ops B F KK F0 E fuel listed i x :=
  fun φ σ w hx hE => k φ σ w (Ph hV h hm hx) hE
theorem X33 {j : Nat} (h : Gl P j T x = some y) (k : SN P n ops B F KK F0 (E && noT j T) fuel listed i y) : SN P n ops B F KK F0 E fuel listed i x := by
  intro φ σ w hx hE
  cases hn : noT j T with
  | true =>
    have := Um h hn; subst this
    rw [hn, Bool.and_true] at k
    exact k φ σ w hx hE
  | false =>
    rw [hn, Bool.and_false] at k
    obtain ⟨φ', h'⟩ := Qh h hx
    obtain ⟨o, h1, h2⟩ := k φ' σ w h' (fun q => by cases q)
    exact ⟨o, h1, h2⟩
theorem Q6j (hs : Region.noSelect ops = true) (hH : HOk P H) (hV : VOk V) (hCS : COk CS) : ∀ {fuel : Nat} {E : Bool} {listed : Array Bool} {x : St} {fs : List St} {cs : List (Nat × Prop)} {ms : List (Nat × List AV × Bool)} {vs : List (Nat × List AV)},
    F7 P n ops lz ts H V T fuel E listed x = some (fs, cs, ms, vs) → J8 H V CS cs ms vs → (∀ y ∈ fs, KK y) → SG P n ops B F KK F0 E fuel listed x := by
  have fin : ∀ {fuel : Nat} {E : Bool} {listed : Array Bool} {x : St} {fs : List St} {cs : List (Nat × Prop)} {ms : List (Nat × List AV × Bool)} {vs : List (Nat × List AV)}, Region.ready .any ops listed = [] →
      (match Fm ts x.s with | some s => some (([⟨s, x.h, x.nx⟩], [], [], []) : I4) | none => none) = some (fs, cs, ms, vs) → (∀ y ∈ fs, KK y) → SG P n ops B F KK F0 E fuel listed x := by
    intro fuel E listed x fs cs ms vs hr h hk
    split at h
    · rename_i s hsel
      simp only [Option.some.injEq, Prod.mk.injEq] at h
      obtain ⟨rfl, _⟩ := h
      exact Tv ts hsel (Gj hr (hk _ (by simp)))
    · cases h
  intro fuel
  induction fuel with
  | zero =>
    intro E listed x fs cs ms vs h hf hk
    unfold F7 at h
    split at h
    · rename_i hr; exact fin hr h hk
    · cases h
  | succ fuel ih =>
    intro E listed x fs cs ms vs h hf hk
    unfold F7 at h
    split at h
    · rename_i hr; exact fin hr h hk
    · rename_i a l hr
      obtain ⟨f1, f2, f3⟩ := hf
      split at h
      · rename_i i m y C hfi
        split at h
        · rename_i fs' cs' ms' vs' hrec
          simp only [Option.some.injEq, Prod.mk.injEq] at h
          obtain ⟨rfl, rfl, rfl, rfl⟩ := h
          obtain ⟨hi, hfree, o, x1, ho, hx1, hy⟩ := Yw hfi
          have hC : Bg C := by
            cases C with
            | none => trivial
            | some p =>
              have e : p = Gw CS i := f1 (i, p) (by simp [H6])
              show p
              rw [e]; exact O3 i hCS
          have f' : J8 H V CS cs' ms' vs' := by
            refine ⟨fun c hc => f1 c ?_, f2, fun v hv => f3 v (by simp [hv])⟩
            cases C <;> simp [H6, hc]
          exact X4c hV hx1 (f3 (i, m) (by simp)) (Q2i i lz ho hs hfree (by rw [hr]; simpa using hi) hy hC (ih hrec f' hk))
        · cases h
      · refine X4b hr (by simp) fun i hi => ?_
        obtain ⟨fs1, cs1, ms1, vs1, h1, g1, g2, g3, g4⟩ := Q0h h i hi
        split at h1
        · rename_i o ho
          split at h1
          · rename_i x0 hx0
            split at h1
            · rename_i x1 m hx1
              split at h1
              · rename_i y C A hy
                split at h1
                · rename_i fs' cs' ms' vs' hrec
                  simp only [Option.some.injEq, Prod.mk.injEq] at h1
                  obtain ⟨rfl, rfl, rfl, rfl⟩ := h1
                  have hC : Bg C := by
                    cases C with
                    | none => trivial
                    | some p =>
                      have e : p = Gw CS i := f1 (i, p) (g2 _ (by simp [H6]))
                      show p
                      rw [e]; exact O3 i hCS
                  have hA : ∀ a, A = some a → a = Gs H i := by
                    rintro a rfl
                    exact f2 (i, a) (g3 _ (by simp [Li]))
                  have f' : J8 H V CS cs' ms' vs' := by
                    refine ⟨fun c hc => f1 c (g2 _ ?_), fun a ha => f2 a (g3 _ ?_), fun v hv => f3 v (g4 _ (by simp [hv]))⟩
                    · cases C <;> simp [H6, hc]
                    · cases A <;> simp [Li, ha]
                  exact X33 hx0 (X35 hV hx1 (f3 (i, m) (g4 _ (by simp))) (Q3v ho hy hC hH hA (ih hrec f' fun y hy => hk y (g1 y hy))))
                · cases h1
              · cases h1
            · cases h1
          · cases h1
        · cases h1
noncomputable def stD (r : Option I4) : St := match r with
  | some (y :: _, _) => y
  | _ => ⟨[], [], 0⟩
noncomputable def P9 (H : List Hint) (V : List Conv) (CS : List (Nat × Prop)) (r : Option I4) : Option I4 := match r with
  | some (fs, cs, ms, vs) => some (fs.map fun _ => stD r, cs.map fun c => (c.1, Gw CS c.1), ms.map fun a => (a.1, Gs H a.1), vs.map fun v => (v.1, Fy v.1 V))
  | none => some ([], [], [], [])
theorem Gh {id : Nat} {l : List Oper} (lz ts : List Nat) (T : List (Nat × Nat)) (hH : HOk P H) (hV : VOk V) (hCS : COk CS) (next : K .normal (stD (F7 P n l.toArray lz ts H V T l.length true (Array.replicate l.length false) x)))
    (hm : P.follows .mixedOrders = true := by kernel_rfl) (hs : Region.noSelect l.toArray = true := by kernel_rfl)
    (h : F7 P n l.toArray lz ts H V T l.length true (Array.replicate l.length false) x = P9 H V CS (F7 P n l.toArray lz ts H V T l.length true (Array.replicate l.length false) x) := by kernel_rfl) : SW P n (.region id l.toArray true) B F K x := by
  refine I3 hm fun F0 _ => ?_
  cases hr : F7 P n l.toArray lz ts H V T l.length true (Array.replicate l.length false) x with
  | none => rw [hr] at h; cases h
  | some q =>
    obtain ⟨fs, cs, ms, vs⟩ := q
    rw [hr] at h next
    simp only [P9, Option.some.injEq, Prod.mk.injEq] at h
    refine Q6j hs hH hV hCS hr ⟨K0 (f := Gw CS) h.2.1, K0 (f := Gs H) h.2.2.1, K0 (f := fun j => Fy j V) h.2.2.2⟩ fun y hy => ?_
    rw [h.1] at hy
    obtain ⟨_, _, rfl⟩ := List.mem_map.1 hy
    exact next
theorem Cn {id : Nat} {l : List Oper} {d : Code} (lz ts : List Nat) (T : List (Nat × Nat)) (hH : HOk P H) (hV : VOk V) (hCS : COk CS) (next : SW P n d B F K (stD (F7 P n l.toArray lz ts H V T l.length true (Array.replicate l.length false) x)))
    (hm : P.follows .mixedOrders = true := by kernel_rfl) (hs : Region.noSelect l.toArray = true := by kernel_rfl)
    (h : F7 P n l.toArray lz ts H V T l.length true (Array.replicate l.length false) x = P9 H V CS (F7 P n l.toArray lz ts H V T l.length true (Array.replicate l.length false) x) := by kernel_rfl) : SW P n (.seq (.region id l.toArray true) d) B F K x := Ab (Gh lz ts T hH hV hCS next hm hs h)
noncomputable def gcD (ts : List Nat) (m : Nat) (x : St) : St := match gcS ts m x with
  | some y => y
  | none => ⟨[], [], 0⟩
noncomputable def gcB (ts : List Nat) (m : Nat) (x : St) : Bool := match gcS ts m x with
  | some _ => true
  | none => false
theorem R6 {m : Nat} (h : gcB ts m x = true) : gcS ts m x = some (gcD ts m x) := by
  unfold gcB at h
  unfold gcD
  split at h
  · rename_i y hy; rw [hy]
  · cases h
theorem Bq {c : Code} (I : Nat → St → Prop) (ts : List Nat) (m g : Nat) (hlo : F.lo ≤ m) (h0 : I g (gcD ts m x)) (round : ∀ g y, I g y → SW P n c B F (Ja (fun z => gcB ts m z = true ∧ ∃ g', g' < g ∧ I g' (gcD ts m z)) K) y) (k : gcB ts m x = true := by kernel_rfl) : SW P n (.loop c) B F K x :=
  X3s I ts m g hlo (R6 k) h0 fun g y hI => Q18 (round g y hI) fun e z hz => by
    cases e with
    | normal => obtain ⟨h1, g', h2, h3⟩ := hz; exact ⟨_, R6 h1, g', h2, h3⟩
    | _ => exact hz
theorem Da {c d : Code} (I : St → Prop) (ts : List Nat) (m : Nat) (hlo : F.lo ≤ m) (h : SW P n c B F (Ja (fun z => gcB ts m z = true ∧ I (gcD ts m z)) K) x) (r : ∀ y, I y → SW P n d B F K y) : SW P n (.seq c d) B F K x :=
  X3t (fun z => gcB ts m z = true ∧ I (gcD ts m z)) h fun z hz => Py ts m hlo (R6 hz.1) (r _ hz.2)
theorem RK {rs : List ResultVar} {r : AV} {e : Exit} (he : e = .ret ∨ e = .normal) (rl : List AV) (h3 : Same (Ah rl) r)
    (h : (match G5 P rs x with | some al => (match frzVl P x.h al with | some q => some q.1 | none => none) | none => none) = some rl := by kernel_rfl) : Q2 P rs r e x := by
  split at h
  · rename_i al ha
    split at h
    · rename_i q hq
      obtain ⟨rl', h'⟩ := q
      cases h
      exact Q45 he ha hq h3
    · cases h
  · cases h
end
theorem Oo {q : Bool} {c : Option Prop} (p : Option Prop) (h : c = p) (k : q = true → Bg p) : q = true → Bg c := by subst h; exact k
noncomputable def Jb : AV → Nat → AV
  | .row _ _ g => g
  | _ => fun _ => Bl
theorem wR : Exit.ret = .ret ∨ Exit.ret = .normal := .inl rfl
end Sv
end Go.Proofs.YtlfjokcbkopfeaaGreatDoor
end
section
namespace Go.Proofs.YtlfjokcbkopfeaaGreatDoor
open Go Go.RowKit
set_option linter.unusedSimpArgs false
set_option linter.unusedVariables false
namespace Sv
noncomputable def I6 (P : Program) (n : Nat) (ops : Array Oper) (lz : List Nat) (i : Nat) (x : St) : Option (St × Option Prop) := match ops[i]? with
  | some o => Ih P n ops lz o x
  | none => none
noncomputable def stR (r : Option (St × Option Prop)) : St := match r with
  | some (y, _) => y
  | none => ⟨[], [], 0⟩
noncomputable def S5 (r : Option (St × Option Prop)) : Option Prop := match r with
  | some (_, C) => C
  | none => some False
noncomputable def stL (r : Option (St × Option Prop × Array Bool)) : St := match r with
  | some (y, _) => y
  | none => ⟨[], [], 0⟩
noncomputable def X11 (r : Option (St × Option Prop × Array Bool)) : Option Prop := match r with
  | some (_, C, _) => C
  | none => some False
noncomputable def lsL (r : Option (St × Option Prop × Array Bool)) : Array Bool := match r with
  | some (_, _, L) => L
  | none => #[]
noncomputable def Uw (ts : List Nat) (s : Fr) : Fr := match Fm ts s with
  | some r => r
  | none => []
noncomputable def Ux (ts : List Nat) (s : Fr) : Bool := match Fm ts s with
  | some _ => true
  | none => false
noncomputable def lsD (n : Nat) (l : List Nat) : Array Bool := l.foldl (fun a i => a.setIfInBounds i true) (Array.replicate n false)
section
variable {P : Program} {B : Bas} {w : World} {F F0 : Cx} {n : Nat} {KK : St → Prop} {x : St} {E : Bool} {ops : Array Oper} {fuel fuel' : Nat} {listed : Array Bool} {C : Option Prop}
theorem Up {lz : List Nat} {i : Nat} (h : S5 (I6 P n ops lz i x) = C) (hC : Bg C) : ∃ o, ops[i]? = some o ∧ Ih P n ops lz o x = some (stR (I6 P n ops lz i x), C) := by
  unfold I6 at h ⊢
  split at h
  · rename_i o ho
    refine ⟨o, ho, ?_⟩
    cases hs : Ih P n ops lz o x with
    | none => rw [hs] at h; subst h; exact hC.elim
    | some q => obtain ⟨y, D⟩ := q; rw [hs] at h; subst h; rfl
  · subst h; exact hC.elim
theorem Ba (i : Nat) (lz : List Nat) (hC : Bg C) (next : SG P n ops B F KK F0 E fuel (listed.setIfInBounds i true) (stR (I6 P n ops lz i x))) (h : S5 (I6 P n ops lz i x) = C := by kernel_rfl) : SN P n ops B F KK F0 E fuel listed i x := by
  obtain ⟨o, h1, h2⟩ := Up h hC
  exact Q2g i lz h1 h2 hC next
theorem Cq (i : Nat) (lz : List Nat) (hC : Bg C) (next : SG P n ops B F KK F0 E fuel (listed.setIfInBounds i true) (stR (I6 P n ops lz i x))) (hr : Region.ready .any ops listed = [i] := by kernel_rfl) (h : S5 (I6 P n ops lz i x) = C := by kernel_rfl) : SG P n ops B F KK F0 E (fuel + 1) listed x := by
  obtain ⟨o, h1, h2⟩ := Up h hC
  exact X38 i lz hr h1 h2 hC next
theorem Ax (ts : List Nat) (next : SG P n ops B F KK F0 E fuel listed ⟨Uw ts x.s, x.h, x.nx⟩) (h : Ux ts x.s = true := by kernel_rfl) : SG P n ops B F KK F0 E fuel listed x := by
  unfold Ux at h
  unfold Uw at next
  split at h
  · rename_i r hr
    rw [hr] at next
    exact Tv ts hr next
  · cases h
theorem Cs (lz is ts : List Nat) (hC : Bg C) (next : SG P n ops B F KK F0 E fuel (lsL (K5 P E n ops lz is ts listed x)) (stL (K5 P E n ops lz is ts listed x))) (hs : Region.noSelect ops = true := by kernel_rfl) (hf : fuel' = fuel + is.length := by kernel_rfl)
    (h : X11 (K5 P E n ops lz is ts listed x) = C := by kernel_rfl) : SG P n ops B F KK F0 E fuel' listed x := by
  cases hq : K5 P E n ops lz is ts listed x with
  | none => rw [hq] at h; subst h; exact hC.elim
  | some q =>
    obtain ⟨y, D, L⟩ := q
    rw [hq] at h next
    subst h
    exact X4a is ts hs hq hf hC next
theorem Bc {E' : Bool} {fuel' : Nat} {listed' : Array Bool} {x' : St} (m : SG P n ops B F KK F0 E' fuel' listed' x') (hE : E' = E := by kernel_rfl) (hf : fuel' = fuel := by kernel_rfl) (hl : listed' = listed := by kernel_rfl) (hx : x' = x := by kernel_rfl) : SG P n ops B F KK F0 E fuel listed x := X39 m hE hf hl hx
end
end Sv
end Go.Proofs.YtlfjokcbkopfeaaGreatDoor
end
section
namespace Go.Proofs.YtlfjokcbkopfeaaGreatDoor
open Go Go.RowKit
set_option linter.unusedSimpArgs false
set_option linter.unusedVariables false
namespace Sv
noncomputable def mis : List (AV × AV × Nat) → Option (List (Int × Int))
  | [] => some []
  | (.int .i64 k, .int .i64 a, _) :: r => match mis r with
    | some l => some ((k, a) :: l)
    | none => none
  | _ => none
theorem Rq {φ : Phi} : ∀ {es : List (AV × AV × Nat)} {l : List MapEntry} {m : List (Int × Int)}, MR φ es l → mis es = some m → l.map (fun e => (e.key, e.val)) = Dn I64 I64 m
  | [], _, _, h, k => by cases k; simp only [MR] at h; subst h; rfl
  | (a, v, c) :: r, _, _, h, k => by
    simp only [MR] at h
    obtain ⟨e, l', rfl, h1, h2, _, h4⟩ := h
    unfold mis at k
    split at k
    · cases ‹_ = []›
    · rename_i q
      cases q
      split at k
      · rename_i hm
        cases k
        simp only [VR] at h1 h2
        simp only [List.map_cons, Dn, Rq h4 hm, h1, h2]
      · cases k
    · cases k
theorem MR.snoc {φ : Phi} {a v : AV} {e : MapEntry} (h1 : VR φ a e.key) (h2 : VR φ v e.val) : ∀ {es : List (AV × AV × Nat)} {l : List MapEntry}, MR φ es l → MR φ (es ++ [(a, v, e.born)]) (l ++ [e])
  | [], _, h => by simp only [MR] at h; subst h; simp only [List.nil_append, MR]; exact ⟨e, [], rfl, h1, h2, rfl, rfl⟩
  | (b, u, c) :: r, _, h => by
    simp only [MR] at h
    obtain ⟨e', l', rfl, k1, k2, k3, k4⟩ := h
    simp only [List.cons_append, MR]
    exact ⟨e', _, rfl, k1, k2, k3, MR.snoc h1 h2 k4⟩
section
variable {P : Program} {B : Bas} {w : World} {F : Cx} {n : Nat} {φ : Phi} {σ : Nat → Value} {K : Exit → St → Prop} {x : St} {ops : Array Oper}
theorem Q2d {rest : List Oper} {t kt et : TypeId} {X I Y : Operand} {ty : TypeId} {ps : String} {af : Array Edge} {g : Option (Nat × Bool)} {b c : Nat} {es : List (AV × AV × Nat)} {m : List (Int × Int)} {k a : Int}
    (hg : C5 ops x.s g = true) (hX : evA x.s X = some (.map b)) (hI : evA x.s I = some (.int .i64 k)) (hY : evA x.s Y = some (.int .i64 a)) (hb : Be b x.h = some (.map es c)) (hm : mis es = some m) (hn : Bo m k = none)
    (ht : P.underlying t = some (.map kt et)) (hk : P.underlying kt = some (.int .i64)) (next : SO P n ops rest B F K ⟨x.s, B6 b (.map (es ++ [(.int .i64 k, .int .i64 a, c)]) (c + 1)) x.h, x.nx⟩) : SO P n ops (⟨none, .insert t X I Y, ty, ps, af, g⟩ :: rest) B F K x := by
  intro φ σ w hx
  have v1 := hx.fr.ev _ _ hX
  have v2 := hx.fr.ev _ _ hI
  have v3 := hx.fr.ev _ _ hY
  simp only [VR] at v1 v2 v3
  obtain ⟨x0, κ, e0, v1⟩ := v1
  obtain ⟨x1, κ1, l, h1, h2, h3⟩ := hx.rel.obj b _ hb
  rw [e0] at h1; cases h1
  have he := Rq h3 hm
  obtain ⟨r, f1, f2, f3⟩ := Qx (Rt hk) k l.toList m he w
  rw [hn] at f2
  have hc := (Rt hk).check false 9999 k w
  have hlt : x0 < w.heap.size := Ev h2
  cases r with
  | some p => simp at f2
  | none =>
    refine J6 (w' := { w with heap := w.heap.setIfInBounds x0 (.map (l.push { key := I64 k, val := I64 a, born := c }) (c + 1)) }) (De hx.fr hg) ?_ (next φ _ _ ⟨hx.fr, ?_, hx.dom, hx.old, hx.new, hx.base⟩)
    · have v2' : ev n σ I = I64 k := v2
      have v3' : ev n σ Y = I64 a := v3
      simp [execOp, v1, v2', v3', Instr.mapUpdate, run_underlying ht, getObj, setObj, Sem.run, h2, hc, f1, go_sem]
    · refine hx.rel.set hb rfl rfl e0 rfl rfl rfl (by simp) (fun j hj => by simp [Array.getElem?_setIfInBounds, Ne.symm hj]) ⟨x0, κ, _, e0, (by simp [hlt]; rfl), ?_⟩
      rw [Array.toList_push]
      exact MR.snoc (e := { key := I64 k, val := I64 a, born := c }) (by simp only [VR]) (by simp only [VR]) h3
theorem X3w {rest : List Oper} {t kt et : TypeId} {X I : Operand} {dst : Option Tmp} {ty : TypeId} {ps : String} {af : Array Edge} {g : Option (Nat × Bool)} {b c : Nat} {es : List (AV × AV × Nat)} {m : List (Int × Int)} {k r : Int} {s' : Fr}
    (hg : C5 ops x.s g = true) (hX : evA x.s X = some (.map b)) (hI : evA x.s I = some (.int .i64 k)) (hb : Be b x.h = some (.map es c)) (hm : mis es = some m)
    (ht : P.underlying t = some (.map kt et)) (hk : P.underlying kt = some (.int .i64)) (hz : ∀ w, (zeroValue et).run P w = .ok (.int .i64 0) w) (hr : (Bo m k).getD 0 = r)
    (hp : B1 n dst (.int .i64 r) x.s = some s') (next : SO P n ops rest B F K ⟨s', Co b x.h, x.nx⟩) : SO P n ops (⟨dst, .lookup t X I false, ty, ps, af, g⟩ :: rest) B F K x := by
  intro φ σ w hx
  have v1 := hx.fr.ev _ _ hX
  have v2 := hx.fr.ev _ _ hI
  simp only [VR] at v1 v2
  obtain ⟨x0, κ, e0, v1⟩ := v1
  obtain ⟨x1, κ1, l, h1, h2, h3⟩ := hx.rel.obj b _ hb
  rw [e0] at h1; cases h1
  have he := Rq h3 hm
  refine C9 (De hx.fr hg) (Tx (enc := I64) (val := I64) (k := k) (m := m) v1 v2 ⟨_, _, h2, he⟩ (Rt hk) ht hz) (next φ _ w ⟨hx.fr.put hp ?_, hx.rel.del b, hx.dom, hx.old, hx.new, hx.base⟩)
  rw [← hr]
  cases Bo m k <;> simp [VR, I64]
end
end Sv
end Go.Proofs.YtlfjokcbkopfeaaGreatDoor
end
section
namespace Go.Proofs.YtlfjokcbkopfeaaGreatDoor
open Go Go.RowKit
set_option linter.unusedSimpArgs false
set_option linter.unusedVariables false
def DepT.name : DepT → List UInt8 | .mk _ nm _ _ _ => nm
def DepT.op : DepT → Int | .mk _ _ op _ _ => op
def DepT.evr : DepT → List UInt8 | .mk _ _ _ ev _ => ev
def DepT.args : DepT → List DepT | .mk _ _ _ _ a => a
namespace Sv
mutual
noncomputable def Sx : DepT → AV
  | .mk k nm op ev args => .agg [.int .i64 k, .str nm, .int .i64 op, .str ev, .row 5 args.length (depAt args)]
noncomputable def depAt : List DepT → Nat → AV
  | [], _ => Bl
  | d :: _, 0 => Sx d
  | _ :: r, i + 1 => depAt r i
end
noncomputable def A9 (d : DepT) : AV := .agg [.int .i64 d.kind, .str d.name, .int .i64 d.op, .str d.evr, .row 5 d.args.length (depAt d.args)]
theorem X1s (d : DepT) : Sx d = A9 d := by cases d; unfold Sx; rfl
theorem Sy : ∀ {l : List DepT} {i : Nat}, i < l.length → depAt l i = A9 (nth l i)
  | [], _, h => by simp at h
  | d :: r, 0, _ => by unfold depAt; exact X1s d
  | d :: r, i + 1, h => by
    unfold depAt
    exact Sy (l := r) (by simpa using h)
noncomputable abbrev Dj (l : List DepT) : AV := Ai 5 A9 l
theorem Jz (l : List DepT) : Imp (.row 5 l.length (depAt l)) (Dj l) := Imp.row fun i hi => Imp.of_eq (Sy hi)
theorem Sw (l : List DepT) : Imp (Dj l) (.row 5 l.length (depAt l)) := Imp.row fun i hi => Imp.of_eq (Sy hi).symm
theorem VRl.of_imp {a b : AV} {l : List AV} (h : Imp a b) : ∀ {p : List AV} {φ : Phi} {vs : List Value}, VRl φ (p ++ a :: l) vs → VRl φ (p ++ b :: l) vs
  | [], φ, vs, k => by
    obtain ⟨v, vs', rfl, h1, h2⟩ := VRl.cons_inv (a := a) (l := l) k
    exact VRl.cons (h φ v h1) h2
  | x :: p, φ, vs, k => by
    obtain ⟨v, vs', rfl, h1, h2⟩ := VRl.cons_inv (a := x) (l := p ++ a :: l) k
    exact VRl.cons h1 (VRl.of_imp h h2)
theorem Imp.agg {a b : AV} {p l : List AV} (h : Imp a b) : Imp (.agg (p ++ a :: l)) (.agg (p ++ b :: l)) := by
  intro φ v k
  simp only [VR] at k ⊢
  obtain ⟨vs, h1, h2⟩ := k; exact ⟨vs, VRl.of_imp h h1, h2⟩
theorem X1r (d : DepT) : Imp (.agg [.int .i64 d.kind, .str d.name, .int .i64 d.op, .str d.evr, Dj d.args]) (A9 d) := Imp.agg (p := [.int .i64 d.kind, .str d.name, .int .i64 d.op, .str d.evr]) (Sw d.args)
theorem No {d : DepT} {i : Nat} (h : i < d.args.length) : (nth d.args i).size < d.size := by
  cases d with
  | mk k nm op ev args =>
    have := My (l := args) (i := i) h
    show (nth args i).size < (DepT.mk k nm op ev args).size
    simp only [DepT.size]; omega
theorem Pf {C : DepT → Prop} (h : ∀ d, (∀ i, i < d.args.length → C (nth d.args i)) → C d) (d : DepT) : C d := by
  have key : ∀ n d, d.size ≤ n → C d := by
    intro n
    induction n with
    | zero => intro d hd; cases d; unfold DepT.size at hd; omega
    | succ n ih => intro d hd; exact h d fun i hi => ih _ (by have := No hi; omega)
  exact key d.size d (Nat.le_refl _)
end Sv
end Go.Proofs.YtlfjokcbkopfeaaGreatDoor
end
section
namespace Go.Proofs.YtlfjokcbkopfeaaGreatDoor
open Go Go.RowKit
namespace Sv
attribute [local irreducible] SW SO Bg
set_option maxHeartbeats 400000 in
set_option maxRecDepth 100000 in
theorem Q8g (ls : List (List UInt8)) (s : List UInt8) (hl : ls.length ≤ 4611686018427387904) :
  FnV Tryz.prog 138 [(Ct ls), (.str s)] (.int .i64 (Ek ls s 0)) := by
 refine A1 [.tmp 4] Tryz.func138 rfl Tryz.ntmps138 rfl rfl (fun B F hF => ?_)
 refine Aa [] [0, 1] ?_
 refine Ab ?_
 refine Aa [] [0, 1, 7, 8] ?_
 refine A0 ?_
 refine Bq (fun g y => ∃ (i : Nat), i ≤ ls.length ∧ Ek ls s 0 = Ek (ls.drop i) s i ∧ y = ⟨[(0, (Ct ls)), (1, (.str s)), (7, (.int .i64 ((ls.length : Int)))), (8, (.int .i64 ((i : Int))))], [], 0⟩ ∧ g = ls.length - i) [0, 1, 7, 8] 0 _ (by omega) ⟨0, (by omega), (by rfl), (by kernel_rfl), rfl⟩ ?_
 rintro g1 y1 ⟨i, f1_1, f1_2, rfl, rfl⟩
 refine Aa [] [0, 1, 7, 8, 9] ?_
 refine Ab ?_
 refine A2 (p := (i : Int) < (ls.length : Int)) (by kernel_rfl) (fun c1 => ?_) (fun c1 => ?_)
 ·refine Ag ?_
  refine Ab ?_
  refine A0 ?_
  refine Aa [] [0, 1, 5, 7, 8] ?_
  refine Ad [] [0, 1, 5, 7, 8, 16] [] hk0 v0 (cc 3 (p := (0 ≤ (i : Int) ∧ i < ls.length)) (by first | omega | (simp; omega) | (simp; done) | (intros; simp_all; omega) | (intros; simp_all; done)) <| c0) ?_
  refine A2 (p := s = nth ls i) (by kernel_rfl) (fun c2 => ?_) (fun c2 => ?_)
  ·refine Aa [] [4] ?_
   refine Af ?_
   refine RK wR [(.int .i64 ((i : Int)))] ?_
   exact Same.of_eq (by rw [f1_2, T2 s (by omega), if_pos c2]; rfl)
  ·refine Ag ?_
   refine Ar ?_
   refine Aw 0 [] [0, 1, 7, 8] [] hk0 v0 (cc 0 (p := (-9223372036854775808 ≤ (i : Int) + 1 ∧ (i : Int) + 1 ≤ 9223372036854775807)) (by first | omega | (simp; omega) | (simp; done) | (intros; simp_all; omega) | (intros; simp_all; done)) <| c0) ?_
   refine ⟨by kernel_rfl, _, ?_, i + 1, ?_, ?_, (by kernel_rfl), rfl⟩
   ·omega
   ·omega
   ·rw [f1_2, T2 s (by omega), if_neg c2]
 ·refine Bj ?_
  refine Aa [] [4] ?_
  refine Af ?_
  refine RK wR [(.int .i64 (-1))] ?_
  exact Same.of_eq (by rw [f1_2, List.drop_of_length_le (by omega)]; rfl)
set_option maxHeartbeats 400000 in
set_option maxRecDepth 100000 in
theorem Q0s (ls : List (List UInt8)) (s : List UInt8) (hl : ls.length ≤ 4611686018427387904) :
  FnV Tryz.prog 93 [(Ct ls), (.str s)] (.bool (decide (0 ≤ Ek ls s 0))) := by
 refine A1 [.tmp 4] Tryz.func93 rfl Tryz.ntmps93 rfl rfl (fun B F hF => ?_)
 refine Aa [] [0, 1] ?_
 refine Ad [] [4] [] (hk 2 X07 (Q8g ls s hl) <| hk0) v0 c0 ?_
 refine Af ?_
 refine RK wR [(.bool (decide (0 ≤ (Ek ls s 0))))] ?_
 exact Same.of_eq (by first | rfl | (simp only [Ah]; simp_all))
set_option maxHeartbeats 400000 in
set_option maxRecDepth 100000 in
theorem Q37  :
  FnV Tryz.prog 94 [] (Ct signsL) := by
 refine A1 [.tmp 0] Tryz.func94 rfl Tryz.ntmps94 rfl rfl (fun B F hF => ?_)
 refine Aa [] [] ?_
 refine Aa [] [0] ?_
 refine Af ?_
 refine RK wR [(.row 1 8 (fun ix => (Em 1 8 [(.str []), (.str ([60])), (.str ([61])), (.str ([60, 61])), (.str ([62])), (.str ([60, 62])), (.str ([62, 61])), (.str ([60, 61, 62]))]).getD ix Bl))] ?_
 exact (Imp.list (f := AV.str) (l := signsL) rfl).same
set_option maxHeartbeats 400000 in
set_option maxRecDepth 100000 in
theorem Q2z  :
  FnV Tryz.prog 95 [] (Ct Kc) := by
 refine A1 [.tmp 0] Tryz.func95 rfl Tryz.ntmps95 rfl rfl (fun B F hF => ?_)
 refine Aa [] [] ?_
 refine Aa [] [0] ?_
 refine Af ?_
 refine RK wR [(.row 1 7 (fun ix => (Em 1 7 [(.str []), (.str []), (.str ([97, 110, 100])), (.str ([111, 114])), (.str ([105, 102])), (.str ([119, 105, 116, 104])), (.str ([119, 105, 116, 104, 111, 117, 116]))]).getD ix Bl))] ?_
 exact (Imp.list (f := AV.str) (l := Kc) rfl).same
set_option maxHeartbeats 1000000 in
set_option maxRecDepth 100000 in
theorem P2 (l : List UInt8) (hl : l.length ≤ 9223372036854775807) :
  FnV Tryz.prog 46 [(.str l)] (.bool (Bh l)) := by
 have hp : l = [] ∨ 0 < l.length := by cases l <;> simp
 refine A1 [.tmp 2] Tryz.func46 rfl Tryz.ntmps46 rfl rfl (fun B F hF => ?_)
 refine Aa [] [0] ?_
 refine Ab ?_
 obtain ⟨b1, hb1⟩ : ∃ b, b = (decide (l = [])) := ⟨_, rfl⟩
 obtain ⟨b2, hb2⟩ : ∃ b, b = (b1 || (decide (60 < (l.length : Int)))) := ⟨_, rfl⟩
 obtain ⟨b3, hb3⟩ : ∃ b, b = (b2 || (decide (((Ae l 0).toNat : Int) = 40))) := ⟨_, rfl⟩
 obtain ⟨b4, hb4⟩ : ∃ b, b = (b3 || (decide (((Ae l 0).toNat : Int) = 41))) := ⟨_, rfl⟩
 obtain ⟨b5, hb5⟩ : ∃ b, b = (b4 || (decide (l = [101, 108, 115, 101]))) := ⟨_, rfl⟩
 obtain ⟨b6, hb6⟩ : ∃ b, b = (b5 || (decide (0 ≤ Ek signsL l 0))) := ⟨_, rfl⟩
 have qh1 : (((!b1) = true → (!b1) = true)) ∧ (((!b1) = true → (!b1) = true)) ∧ ((b1 = false → (!b1) = true)) ∧ (((!b2) = true → ((!b2) = true) ∧ (0 ≤ (0 : Int) ∧ 0 < l.length))) ∧ (((!b2) = true → (!b2) = true)) ∧ ((b2 = false → (!b2) = true)) ∧ (((!b3) = true → ((!b3) = true) ∧ (0 ≤ (0 : Int) ∧ 0 < l.length))) ∧ (((!b3) = true → (!b3) = true)) ∧ ((b3 = false → (!b3) = true)) ∧ (((!b4) = true → (!b4) = true)) ∧ ((b4 = false → (!b4) = true)) := by
  rcases hp with hp | hp <;> simp_all
 refine Ad [9, 10, 11, 14, 15, 16, 19, 20, 21, 24, 25, 29, 34] [0, 36] [] (hkg 22 (!b5) Q9p (fun cg => Q37) <| hkg 24 (!b5) Y9 (fun cg => (Q0s signsL l (by decide))) <| hkg 27 (!b6) Q9o (fun cg => Q2z) <| hkg 29 (!b6) Y9 (fun cg => (Q0s Kc l (by decide))) <| hk0) (vk 3 8 (a := .bool (decide (l = []))) (b := .bool b1) (Imp.of_eq (by rw [hb1])) <| vk 8 13 (a := .bool (b1 || (decide (60 < (l.length : Int))))) (b := .bool b2) (Imp.of_eq (by rw [hb2])) <| vk 12 17 (a := .bool (b2 || (decide (((Ae l 0).toNat : Int) = 40)))) (b := .bool b3) (Imp.of_eq (by rw [hb3])) <| vk 17 22 (a := .bool (b3 || (decide (((Ae l 0).toNat : Int) = 41)))) (b := .bool b4) (Imp.of_eq (by rw [hb4])) <| vk 22 27 (a := .bool (b4 || (decide (l = [101, 108, 115, 101])))) (b := .bool b5) (Imp.of_eq (by rw [hb5])) <| vk 27 32 (a := .bool (b5 || (decide (0 ≤ Ek signsL l 0)))) (b := .bool b6) (Imp.of_eq (by rw [hb6])) <| v0) (cc 4 (p := ((!b1) = true → (!b1) = true)) qh1.1 <| cc 5 (p := ((!b1) = true → (!b1) = true)) qh1.2.1 <| cc 6 (p := (b1 = false → (!b1) = true)) qh1.2.2.1 <| cc 9 (p := ((!b2) = true → ((!b2) = true) ∧ (0 ≤ (0 : Int) ∧ 0 < l.length))) qh1.2.2.2.1 <| cc 10 (p := ((!b2) = true → (!b2) = true)) qh1.2.2.2.2.1 <| cc 11 (p := (b2 = false → (!b2) = true)) qh1.2.2.2.2.2.1 <| cc 14 (p := ((!b3) = true → ((!b3) = true) ∧ (0 ≤ (0 : Int) ∧ 0 < l.length))) qh1.2.2.2.2.2.2.1 <| cc 15 (p := ((!b3) = true → (!b3) = true)) qh1.2.2.2.2.2.2.2.1 <| cc 16 (p := (b3 = false → (!b3) = true)) qh1.2.2.2.2.2.2.2.2.1 <| cc 19 (p := ((!b4) = true → (!b4) = true)) qh1.2.2.2.2.2.2.2.2.2.1 <| cc 20 (p := (b4 = false → (!b4) = true)) qh1.2.2.2.2.2.2.2.2.2.2 <| cc 24 (p := (!b5) = true → (!b5) = true ∧ (!b5) = true) (by first | omega | (simp; omega) | (simp; done) | (intros; simp_all; omega) | (intros; simp_all; done)) <| cc 25 (p := (b5 = false → (!b5) = true)) (by first | omega | (simp; omega) | (simp; done) | (intros; simp_all; omega) | (intros; simp_all; done)) <| cc 29 (p := (!b6) = true → (!b6) = true ∧ (!b6) = true) (by first | omega | (simp; omega) | (simp; done) | (intros; simp_all; omega) | (intros; simp_all; done)) <| cc 30 (p := (b6 = false → (!b6) = true)) (by first | omega | (simp; omega) | (simp; done) | (intros; simp_all; omega) | (intros; simp_all; done)) <| c0) ?_
 refine A3 (q := b6 || (decide (0 ≤ Ek Kc l 0))) (by kernel_rfl) (fun c1 => ?_) (fun c1 => ?_)
 ·subst hb6 hb5 hb4 hb3 hb2 hb1
  try simp only [Bool.and_eq_true, Bool.or_eq_true, Bool.and_eq_false_iff, Bool.or_eq_false_iff, Bool.not_eq_true', Bool.not_eq_false', decide_eq_true_eq, decide_eq_false_iff_not] at c1
  refine Aa [] [2] ?_
  refine Af ?_
  refine RK wR [(.bool false)] ?_
  have h0 : Ft l = true := by
   unfold Ft
   rcases c1 with (((((h | h) | h) | h) | h) | h) | h <;> first | (simp [h]; done) | (have h' : 60 < l.length := (by omega); simp [h']; done) | (have h' : (Ae l 0).toNat = 40 := (by omega); simp [h']; done) | (have h' : (Ae l 0).toNat = 41 := (by omega); simp [h']; done)
  exact Same.of_eq (by simp only [Ah]; rw [Bh, h0]; rfl)
 ·subst hb6 hb5 hb4 hb3 hb2 hb1
  try simp only [Bool.and_eq_true, Bool.or_eq_true, Bool.and_eq_false_iff, Bool.or_eq_false_iff, Bool.not_eq_true', Bool.not_eq_false', decide_eq_true_eq, decide_eq_false_iff_not] at c1
  have hnh : Ft l = false := by
   unfold Ft
   simp only [Bool.or_eq_false_iff, decide_eq_false_iff_not]
   exact ⟨c1.1.1.1.1.1.1, by omega, by omega, by omega, c1.1.1.2, c1.1.2, c1.2⟩
  refine Ag ?_
  refine Aa [] [0, 3] ?_
  refine Ab ?_
  refine Aa [] [0, 3, 38, 39] ?_
  refine A0 ?_
  refine Bq (fun g y => ∃ (k : Nat) (n : Int), k ≤ l.length ∧ Fp l 0 = Fp (l.drop k) n ∧ (0 ≤ n ∧ n ≤ k) ∧ l.length ≤ 60 ∧ Ft l = false ∧ y = ⟨[(0, (.str l)), (3, (.int .i64 n)), (38, (.int .i64 ((l.length : Int)))), (39, (.int .i64 ((k : Int))))], [], 0⟩ ∧ g = l.length - k) [0, 3, 38, 39] 0 _ (by omega) ⟨0, 0, (by omega), (by rfl), (by omega), (by exact Ym hnh), (by exact hnh), (by kernel_rfl), rfl⟩ ?_
  rintro g1 y1 ⟨k, n, f1_1, f1_2, f1_3, f1_4, f1_5, rfl, rfl⟩
  refine Aa [] [0, 3, 38, 39, 40] ?_
  refine Ab ?_
  refine A2 (p := (k : Int) < (l.length : Int)) (by kernel_rfl) (fun c2 => ?_) (fun c2 => ?_)
  ·refine Ag ?_
   refine Ab ?_
   refine A0 ?_
   refine Aa [] [0, 3, 4, 38, 39] ?_
   refine Da (fun y => ¬ ((Ae l k).toNat < 33 ∨ 126 < (Ae l k).toNat) ∧ y = ⟨[(0, (.str l)), (3, (.int .i64 ((if (Ae l k).toNat = 40 then n + 1 else if (Ae l k).toNat = 41 then n - 1 else n)))), (38, (.int .i64 ((l.length : Int)))), (39, (.int .i64 ((k : Int))))], [], 0⟩) [0, 3, 38, 39] 0 (by omega) ?_ ?_
   ·refine Ad [] [0, 3, 5, 38, 39] [] hk0 v0 (cc 2 (p := (0 ≤ (k : Int) ∧ k < l.length)) (by first | omega | (simp; omega) | (simp; done) | (intros; simp_all; omega) | (intros; simp_all; done)) <| c0) ?_
    refine A0 ?_
    obtain ⟨b7, hb7⟩ : ∃ b, b = (decide (((Ae l k).toNat : Int) < 33)) := ⟨_, rfl⟩
    obtain ⟨b8, hb8⟩ : ∃ b, b = (b7 || (decide (126 < ((Ae l k).toNat : Int)))) := ⟨_, rfl⟩
    refine Ad (CS := [(4, ((!b7) = true → (!b7) = true)), (5, (b7 = false → (!b7) = true))]) [49, 50] [0, 3, 5, 38, 39, 45] [] hk0 (vk 3 48 (a := .bool (decide (((Ae l k).toNat : Int) < 33))) (b := .bool b7) (Imp.of_eq (by rw [hb7])) <| vk 6 51 (a := .bool (b7 || (decide (126 < ((Ae l k).toNat : Int))))) (b := .bool b8) (Imp.of_eq (by rw [hb8])) <| v0) (by refine cc _ ?_ <| cc _ ?_ c0 <;> first | omega | (simp; omega) | (simp; done) | (intros; simp_all; omega) | (intros; simp_all; done)) ?_
    refine A3 (q := b8) (by kernel_rfl) (fun c3 => ?_) (fun c3 => ?_)
    ·subst hb8 hb7
     try simp only [Bool.and_eq_true, Bool.or_eq_true, Bool.and_eq_false_iff, Bool.or_eq_false_iff, Bool.not_eq_true', Bool.not_eq_false', decide_eq_true_eq, decide_eq_false_iff_not] at c3
     have hub : (Ae l k).toNat < 33 ∨ 126 < (Ae l k).toNat := by omega
     refine Aa [] [2] ?_
     refine Af ?_
     refine RK wR [(.bool false)] ?_
     exact Same.of_eq (by simp only [Ah]; rw [Bh, f1_2, Iu (by omega), Fp, if_pos hub]; simp)
    ·subst hb8 hb7
     try simp only [Bool.and_eq_true, Bool.or_eq_true, Bool.and_eq_false_iff, Bool.or_eq_false_iff, Bool.not_eq_true', Bool.not_eq_false', decide_eq_true_eq, decide_eq_false_iff_not] at c3
     have hub : ¬ ((Ae l k).toNat < 33 ∨ 126 < (Ae l k).toNat) := by omega
     refine Aa [] [0, 3, 5, 38, 39, 52] ?_
     refine A2 (p := ((Ae l k).toNat : Int) = 40) (by kernel_rfl) (fun c4 => ?_) (fun c4 => ?_)
     ·refine Ar ?_
      refine Aw 0 [] [0, 3, 38, 39] [] hk0 v0 (cc 1 (p := (-9223372036854775808 ≤ n + 1 ∧ n + 1 ≤ 9223372036854775807)) (by first | omega | (simp; omega) | (simp; done) | (intros; simp_all; omega) | (intros; simp_all; done)) <| c0) ?_
      refine ⟨by kernel_rfl, ?_, (Eq.trans (b := (⟨[(0, (.str l)), (3, (.int .i64 (n + 1))), (38, (.int .i64 ((l.length : Int)))), (39, (.int .i64 ((k : Int))))], [], 0⟩ : St)) (by kernel_rfl) (by rw [show (if (Ae l k).toNat = 40 then n + 1 else if (Ae l k).toNat = 41 then n - 1 else n) = n + 1 from by (repeat' split) <;> omega]))⟩
      exact hub
     ·refine Aa [] [0, 3, 38, 39, 57] ?_
      refine A2 (p := ((Ae l k).toNat : Int) = 41) (by kernel_rfl) (fun c5 => ?_) (fun c5 => ?_)
      ·refine Ar ?_
       refine Aw 0 [] [0, 3, 38, 39] [] hk0 v0 (cc 1 (p := (-9223372036854775808 ≤ n - 1 ∧ n - 1 ≤ 9223372036854775807)) (by first | omega | (simp; omega) | (simp; done) | (intros; simp_all; omega) | (intros; simp_all; done)) <| c0) ?_
       refine ⟨by kernel_rfl, ?_, (Eq.trans (b := (⟨[(0, (.str l)), (3, (.int .i64 (n - 1))), (38, (.int .i64 ((l.length : Int)))), (39, (.int .i64 ((k : Int))))], [], 0⟩ : St)) (by kernel_rfl) (by rw [show (if (Ae l k).toNat = 40 then n + 1 else if (Ae l k).toNat = 41 then n - 1 else n) = n - 1 from by (repeat' split) <;> omega]))⟩
       exact hub
      ·refine Ag ?_
       refine ⟨by kernel_rfl, ?_, (Eq.trans (b := (⟨[(0, (.str l)), (3, (.int .i64 n)), (38, (.int .i64 ((l.length : Int)))), (39, (.int .i64 ((k : Int))))], [], 0⟩ : St)) (by kernel_rfl) (by rw [show (if (Ae l k).toNat = 40 then n + 1 else if (Ae l k).toNat = 41 then n - 1 else n) = n from by (repeat' split) <;> omega]))⟩
       exact hub
   ·rintro y1 ⟨hub, rfl⟩
    refine Aa [] [0, 3, 38, 39, 63] ?_
    refine A2 (p := (if (Ae l k).toNat = 40 then n + 1 else if (Ae l k).toNat = 41 then n - 1 else n) < 0) (by kernel_rfl) (fun c6 => ?_) (fun c6 => ?_)
    ·refine Aa [] [2] ?_
     refine Af ?_
     refine RK wR [(.bool false)] ?_
     exact Same.of_eq (by simp only [Ah]; rw [Bh, f1_2, Od (by omega) hub]; simp only [if_pos c6]; simp)
    ·refine Ag ?_
     refine Ar ?_
     refine Aw 0 [] [0, 3, 38, 39] [] hk0 v0 (cc 0 (p := (-9223372036854775808 ≤ (k : Int) + 1 ∧ (k : Int) + 1 ≤ 9223372036854775807)) (by first | omega | (simp; omega) | (simp; done) | (intros; simp_all; omega) | (intros; simp_all; done)) <| c0) ?_
     refine ⟨by kernel_rfl, _, ?_, k + 1, (if (Ae l k).toNat = 40 then n + 1 else if (Ae l k).toNat = 41 then n - 1 else n), ?_, ?_, ?_, ?_, ?_, (by kernel_rfl), rfl⟩
     ·omega
     ·omega
     ·rw [f1_2, Od (by omega) hub]; simp only [if_neg c6]
     ·constructor <;> ((repeat' split) <;> omega)
     ·exact f1_4
     ·exact f1_5
  ·refine Bj ?_
   refine Aa [] [2] ?_
   refine Af ?_
   refine RK wR [(.bool (decide (n = 0)))] ?_
   exact Same.of_eq (by simp only [Ah]; rw [Bh, f1_5, f1_2, List.drop_of_length_le (by omega), Fp]; simp)
set_option maxHeartbeats 400000 in
set_option maxRecDepth 100000 in
theorem Q22 (s : List UInt8) :
  FnV Tryz.prog 139 [(.str s)] (.bool (Kd s)) := by
 refine A1 [.tmp 2] Tryz.func139 rfl Tryz.ntmps139 rfl rfl (fun B F hF => ?_)
 refine Aa [] [0] ?_
 obtain ⟨b1, hb1⟩ : ∃ b, b = (decide (s = [97, 110, 100])) := ⟨_, rfl⟩
 obtain ⟨b2, hb2⟩ : ∃ b, b = (b1 || (decide (s = [111, 114]))) := ⟨_, rfl⟩
 obtain ⟨b3, hb3⟩ : ∃ b, b = (b2 || (decide (s = [105, 102]))) := ⟨_, rfl⟩
 obtain ⟨b4, hb4⟩ : ∃ b, b = (b3 || (decide (s = [101, 108, 115, 101]))) := ⟨_, rfl⟩
 obtain ⟨b5, hb5⟩ : ∃ b, b = (b4 || (decide (s = [119, 105, 116, 104]))) := ⟨_, rfl⟩
 obtain ⟨b6, hb6⟩ : ∃ b, b = (b5 || (decide (s = [119, 105, 116, 104, 111, 117, 116]))) := ⟨_, rfl⟩
 refine Ad (CS := [(4, ((!b1) = true → (!b1) = true)), (5, (b1 = false → (!b1) = true)), (8, ((!b2) = true → (!b2) = true)), (9, (b2 = false → (!b2) = true)), (12, ((!b3) = true → (!b3) = true)), (13, (b3 = false → (!b3) = true)), (16, ((!b4) = true → (!b4) = true)), (17, (b4 = false → (!b4) = true)), (20, ((!b5) = true → (!b5) = true)), (21, (b5 = false → (!b5) = true))]) [6, 7, 10, 11, 14, 15, 18, 19, 22, 23] [2] [] hk0 (vk 3 5 (a := .bool (decide (s = [97, 110, 100]))) (b := .bool b1) (Imp.of_eq (by rw [hb1])) <| vk 7 9 (a := .bool (b1 || (decide (s = [111, 114])))) (b := .bool b2) (Imp.of_eq (by rw [hb2])) <| vk 11 13 (a := .bool (b2 || (decide (s = [105, 102])))) (b := .bool b3) (Imp.of_eq (by rw [hb3])) <| vk 15 17 (a := .bool (b3 || (decide (s = [101, 108, 115, 101])))) (b := .bool b4) (Imp.of_eq (by rw [hb4])) <| vk 19 21 (a := .bool (b4 || (decide (s = [119, 105, 116, 104])))) (b := .bool b5) (Imp.of_eq (by rw [hb5])) <| vk 22 24 (a := .bool (b5 || (decide (s = [119, 105, 116, 104, 111, 117, 116])))) (b := .bool b6) (Imp.of_eq (by rw [hb6])) <| v0) (by refine cc _ ?_ <| cc _ ?_ <| cc _ ?_ <| cc _ ?_ <| cc _ ?_ <| cc _ ?_ <| cc _ ?_ <| cc _ ?_ <| cc _ ?_ <| cc _ ?_ c0 <;> first | omega | (simp; omega) | (simp; done) | (intros; simp_all; omega) | (intros; simp_all; done)) ?_
 refine Af ?_
 refine RK wR [(.bool b6)] ?_
 subst hb6 hb5 hb4 hb3 hb2 hb1
 exact Same.of_eq (by simp only [Ah]; unfold Kd; simp only [Bool.or_assoc])
set_option maxHeartbeats 400000 in
set_option maxRecDepth 100000 in
theorem Q38 (s : List UInt8) :
  FnV Tryz.prog 140 [(.str s)] (.int .i64 (E8 s)) := by
 refine A1 [.tmp 2] Tryz.func140 rfl Tryz.ntmps140 rfl rfl (fun B F hF => ?_)
 refine Aa [] [0] ?_
 refine Ab ?_
 refine Aa [] [3] ?_
 refine A0 ?_
 refine Aa [] [3, 4] ?_
 refine A2 (p := s = [60]) (by kernel_rfl) (fun c1 => ?_) (fun c1 => ?_)
 ·refine Aa [] [2] ?_
  refine Af ?_
  refine RK wR [(.int .i64 1)] ?_
  exact Same.of_eq (by simp only [Ah]; congr 1; simp [E8, *])
 ·refine Aa [] [3, 6] ?_
  refine A2 (p := s = [61]) (by kernel_rfl) (fun c2 => ?_) (fun c2 => ?_)
  ·refine Aa [] [2] ?_
   refine Af ?_
   refine RK wR [(.int .i64 2)] ?_
   exact Same.of_eq (by simp only [Ah]; congr 1; simp [E8, *])
  ·refine Aa [] [3, 8] ?_
   refine A2 (p := s = [60, 61]) (by kernel_rfl) (fun c3 => ?_) (fun c3 => ?_)
   ·refine Aa [] [2] ?_
    refine Af ?_
    refine RK wR [(.int .i64 3)] ?_
    exact Same.of_eq (by simp only [Ah]; congr 1; simp [E8, *])
   ·refine Aa [] [3, 10] ?_
    refine A2 (p := s = [62]) (by kernel_rfl) (fun c4 => ?_) (fun c4 => ?_)
    ·refine Aa [] [2] ?_
     refine Af ?_
     refine RK wR [(.int .i64 4)] ?_
     exact Same.of_eq (by simp only [Ah]; congr 1; simp [E8, *])
    ·refine Aa [] [3, 12] ?_
     refine A2 (p := s = [60, 62]) (by kernel_rfl) (fun c5 => ?_) (fun c5 => ?_)
     ·refine Aa [] [2] ?_
      refine Af ?_
      refine RK wR [(.int .i64 5)] ?_
      exact Same.of_eq (by simp only [Ah]; congr 1; simp [E8, *])
     ·refine Aa [] [3, 14] ?_
      refine A2 (p := s = [62, 61]) (by kernel_rfl) (fun c6 => ?_) (fun c6 => ?_)
      ·refine Aa [] [2] ?_
       refine Af ?_
       refine RK wR [(.int .i64 6)] ?_
       exact Same.of_eq (by simp only [Ah]; congr 1; simp [E8, *])
      ·refine Aa [] [16] ?_
       refine A2 (p := s = [60, 61, 62]) (by kernel_rfl) (fun c7 => ?_) (fun c7 => ?_)
       ·refine Aa [] [2] ?_
        refine Af ?_
        refine RK wR [(.int .i64 7)] ?_
        exact Same.of_eq (by simp only [Ah]; congr 1; simp [E8, *])
       ·refine Ag ?_
        refine Aa [] [2] ?_
        refine Af ?_
        refine RK wR [(.int .i64 0)] ?_
        exact Same.of_eq (by simp only [Ah]; congr 1; simp [E8, *])
set_option maxHeartbeats 1000000 in
set_option maxRecDepth 100000 in
theorem Nz (l : List UInt8) (hl : l.length ≤ 9223372036854775807) :
  FnV Tryz.prog 91 [(.str l)] (.bool (Bh l)) := by
 have hp : l.length < 1 ∨ 0 < l.length := by omega
 refine A1 [.tmp 2] Tryz.func91 rfl Tryz.ntmps91 rfl rfl (fun B F hF => ?_)
 refine Aa [] [0] ?_
 refine Ad [] [0, 3] [] (hk 1 X06 (Q22 l) <| hk0) v0 c0 ?_
 refine Ab ?_
 obtain ⟨b1, hb1⟩ : ∃ b, b = (decide ((l.length : Int) < 1)) := ⟨_, rfl⟩
 obtain ⟨b2, hb2⟩ : ∃ b, b = (b1 || (decide (60 < (l.length : Int)))) := ⟨_, rfl⟩
 obtain ⟨b3, hb3⟩ : ∃ b, b = (b2 || (decide (((Ae l 0).toNat : Int) = 40))) := ⟨_, rfl⟩
 obtain ⟨b4, hb4⟩ : ∃ b, b = (b3 || (decide (((Ae l 0).toNat : Int) = 41))) := ⟨_, rfl⟩
 obtain ⟨b5, hb5⟩ : ∃ b, b = (b4 || (Kd l)) := ⟨_, rfl⟩
 have qh1 : (((!b1) = true → (!b1) = true)) ∧ (((!b1) = true → (!b1) = true)) ∧ ((b1 = false → (!b1) = true)) ∧ (((!b2) = true → ((!b2) = true) ∧ (0 ≤ (0 : Int) ∧ 0 < l.length))) ∧ (((!b2) = true → (!b2) = true)) ∧ ((b2 = false → (!b2) = true)) ∧ (((!b3) = true → ((!b3) = true) ∧ (0 ≤ (0 : Int) ∧ 0 < l.length))) ∧ (((!b3) = true → (!b3) = true)) ∧ ((b3 = false → (!b3) = true)) ∧ ((b4 = false → (!b4) = true)) := by
  rcases hp with hp | hp <;> simp_all
 refine Ad [12, 13, 14, 17, 18, 19, 22, 23, 24, 27, 30, 32] [0, 33] [] (hkg 23 (!b5) X04 (fun cg => Q38 l) <| hk0) (vk 4 11 (a := .bool (decide ((l.length : Int) < 1))) (b := .bool b1) (Imp.of_eq (by rw [hb1])) <| vk 9 16 (a := .bool (b1 || (decide (60 < (l.length : Int))))) (b := .bool b2) (Imp.of_eq (by rw [hb2])) <| vk 13 20 (a := .bool (b2 || (decide (((Ae l 0).toNat : Int) = 40)))) (b := .bool b3) (Imp.of_eq (by rw [hb3])) <| vk 18 25 (a := .bool (b3 || (decide (((Ae l 0).toNat : Int) = 41)))) (b := .bool b4) (Imp.of_eq (by rw [hb4])) <| vk 22 29 (a := .bool (b4 || (Kd l))) (b := .bool b5) (Imp.of_eq (by rw [hb5])) <| v0) (cc 5 (p := ((!b1) = true → (!b1) = true)) qh1.1 <| cc 6 (p := ((!b1) = true → (!b1) = true)) qh1.2.1 <| cc 7 (p := (b1 = false → (!b1) = true)) qh1.2.2.1 <| cc 10 (p := ((!b2) = true → ((!b2) = true) ∧ (0 ≤ (0 : Int) ∧ 0 < l.length))) qh1.2.2.2.1 <| cc 11 (p := ((!b2) = true → (!b2) = true)) qh1.2.2.2.2.1 <| cc 12 (p := (b2 = false → (!b2) = true)) qh1.2.2.2.2.2.1 <| cc 15 (p := ((!b3) = true → ((!b3) = true) ∧ (0 ≤ (0 : Int) ∧ 0 < l.length))) qh1.2.2.2.2.2.2.1 <| cc 16 (p := ((!b3) = true → (!b3) = true)) qh1.2.2.2.2.2.2.2.1 <| cc 17 (p := (b3 = false → (!b3) = true)) qh1.2.2.2.2.2.2.2.2.1 <| cc 20 (p := (b4 = false → (!b4) = true)) qh1.2.2.2.2.2.2.2.2.2 <| cc 23 (p := (!b5) = true → (!b5) = true) (by first | omega | (simp; omega) | (simp; done) | (intros; simp_all; omega) | (intros; simp_all; done)) <| cc 24 (p := ((!b5) = true → (!b5) = true)) (by first | omega | (simp; omega) | (simp; done) | (intros; simp_all; omega) | (intros; simp_all; done)) <| cc 25 (p := (b5 = false → (!b5) = true)) (by first | omega | (simp; omega) | (simp; done) | (intros; simp_all; omega) | (intros; simp_all; done)) <| c0) ?_
 refine A3 (q := b5 || (!decide ((E8 l) = 0))) (by kernel_rfl) (fun c1 => ?_) (fun c1 => ?_)
 ·subst hb5 hb4 hb3 hb2 hb1
  try simp only [Bool.and_eq_true, Bool.or_eq_true, Bool.and_eq_false_iff, Bool.or_eq_false_iff, Bool.not_eq_true', Bool.not_eq_false', decide_eq_true_eq, decide_eq_false_iff_not] at c1
  refine Aa [] [2] ?_
  refine Af ?_
  refine RK wR [(.bool false)] ?_
  have h0 : Ft l = true := by
   rw [← Vd]
   unfold N0
   rcases c1 with ((((h | h) | h) | h) | h) | h <;> first | (simp [h]; done) | (have h' : l.length < 1 := (by omega); simp [h']; done) | (have h' : 60 < l.length := (by omega); simp [h']; done) | (have h' : (Ae l 0).toNat = 40 := (by omega); simp [h']; done) | (have h' : (Ae l 0).toNat = 41 := (by omega); simp [h']; done) | (have h' : ¬ E8 l = 0 := (by omega); simp [h']; done)
  exact Same.of_eq (by simp only [Ah]; rw [Bh, h0]; rfl)
 ·subst hb5 hb4 hb3 hb2 hb1
  try simp only [Bool.and_eq_true, Bool.or_eq_true, Bool.and_eq_false_iff, Bool.or_eq_false_iff, Bool.not_eq_true', Bool.not_eq_false', decide_eq_true_eq, decide_eq_false_iff_not] at c1
  have hnh : Ft l = false := by
   rw [← Vd]
   unfold N0
   simp only [Bool.or_eq_false_iff, decide_eq_false_iff_not]
   exact ⟨by omega, by omega, by omega, by omega, c1.1.2, by omega⟩
  refine Ag ?_
  refine Aa [] [0, 4] ?_
  refine Ab ?_
  refine Aa [] [0, 4, 5] ?_
  refine A0 ?_
  refine Bq (fun g y => ∃ (k : Nat) (n : Int), k ≤ l.length ∧ Fp l 0 = Fp (l.drop k) n ∧ (0 ≤ n ∧ n ≤ k) ∧ l.length ≤ 60 ∧ Ft l = false ∧ y = ⟨[(0, (.str l)), (4, (.int .i64 n)), (5, (.int .i64 ((k : Int))))], [], 0⟩ ∧ g = l.length - k) [0, 4, 5] 0 _ (by omega) ⟨0, 0, (by omega), (by rfl), (by omega), (by exact Ym hnh), (by exact hnh), (by kernel_rfl), rfl⟩ ?_
  rintro g1 y1 ⟨k, n, f1_1, f1_2, f1_3, f1_4, f1_5, rfl, rfl⟩
  refine Ab ?_
  refine Aa [] [0, 4, 5, 37] ?_
  refine A2 (p := (k : Int) < (l.length : Int)) (by kernel_rfl) (fun c2 => ?_) (fun c2 => ?_)
  ·refine Ag ?_
   refine Ab ?_
   refine A0 ?_
   refine Ab ?_
   obtain ⟨b6, hb6⟩ : ∃ b, b = (decide (((Ae l k).toNat : Int) < 33)) := ⟨_, rfl⟩
   refine Ad (CS := [(2, (0 ≤ (k : Int) ∧ k < l.length)), (7, ((!b6) = true → ((!b6) = true ∧ (!b6) = true) ∧ (0 ≤ (k : Int) ∧ k < l.length))), (8, ((!b6) = true → (!b6) = true)), (9, (b6 = false → (!b6) = true))]) [45, 46, 47, 48] [0, 4, 5, 49] [] hk0 (vk 5 44 (a := .bool (decide (((Ae l k).toNat : Int) < 33))) (b := .bool b6) (Imp.of_eq (by rw [hb6])) <| v0) (by refine cc _ ?_ <| cc _ ?_ <| cc _ ?_ <| cc _ ?_ c0 <;> first | omega | (simp; omega) | (simp; done) | (intros; simp_all; omega) | (intros; simp_all; done)) ?_
   refine A3 (q := b6 || (decide (126 < ((Ae l k).toNat : Int)))) (by kernel_rfl) (fun c3 => ?_) (fun c3 => ?_)
   ·subst hb6
    try simp only [Bool.and_eq_true, Bool.or_eq_true, Bool.and_eq_false_iff, Bool.or_eq_false_iff, Bool.not_eq_true', Bool.not_eq_false', decide_eq_true_eq, decide_eq_false_iff_not] at c3
    have hub : (Ae l k).toNat < 33 ∨ 126 < (Ae l k).toNat := by omega
    refine Aa [] [2] ?_
    refine Af ?_
    refine RK wR [(.bool false)] ?_
    exact Same.of_eq (by simp only [Ah]; rw [Bh, f1_2, Iu (by omega), Fp, if_pos hub]; simp)
   ·subst hb6
    try simp only [Bool.and_eq_true, Bool.or_eq_true, Bool.and_eq_false_iff, Bool.or_eq_false_iff, Bool.not_eq_true', Bool.not_eq_false', decide_eq_true_eq, decide_eq_false_iff_not] at c3
    have hub : ¬ ((Ae l k).toNat < 33 ∨ 126 < (Ae l k).toNat) := by omega
    refine Ag ?_
    refine Da (fun y => y = ⟨[(0, (.str l)), (4, (.int .i64 ((if (Ae l k).toNat = 40 then n + 1 else n)))), (5, (.int .i64 ((k : Int))))], [], 0⟩) [0, 4, 5] 0 (by omega) ?_ ?_
    ·refine Ad [] [0, 4, 5, 53] [] hk0 v0 (cc 2 (p := (0 ≤ (k : Int) ∧ k < l.length)) (by first | omega | (simp; omega) | (simp; done) | (intros; simp_all; omega) | (intros; simp_all; done)) <| c0) ?_
     refine A2 (p := ((Ae l k).toNat : Int) = 40) (by kernel_rfl) (fun c4 => ?_) (fun c4 => ?_)
     ·refine Ar ?_
      refine Aw 0 [] [0, 4, 5] [] hk0 v0 (cc 1 (p := (-9223372036854775808 ≤ n + 1 ∧ n + 1 ≤ 9223372036854775807)) (by first | omega | (simp; omega) | (simp; done) | (intros; simp_all; omega) | (intros; simp_all; done)) <| c0) ?_
      refine ⟨by kernel_rfl, (Eq.trans (b := (⟨[(0, (.str l)), (4, (.int .i64 (n + 1))), (5, (.int .i64 ((k : Int))))], [], 0⟩ : St)) (by kernel_rfl) (by rw [show (if (Ae l k).toNat = 40 then n + 1 else n) = n + 1 from if_pos (by omega)]))⟩
     ·refine Ag ?_
      refine ⟨by kernel_rfl, (Eq.trans (b := (⟨[(0, (.str l)), (4, (.int .i64 n)), (5, (.int .i64 ((k : Int))))], [], 0⟩ : St)) (by kernel_rfl) (by rw [show (if (Ae l k).toNat = 40 then n + 1 else n) = n from if_neg (by omega)]))⟩
    ·rintro y1 rfl
     refine Da (fun y => y = ⟨[(0, (.str l)), (4, (.int .i64 ((if (Ae l k).toNat = 40 then n + 1 else if (Ae l k).toNat = 41 then n - 1 else n)))), (5, (.int .i64 ((k : Int))))], [], 0⟩) [0, 4, 5] 0 (by omega) ?_ ?_
     ·refine Ad [] [0, 4, 5, 59] [] hk0 v0 (cc 2 (p := (0 ≤ (k : Int) ∧ k < l.length)) (by first | omega | (simp; omega) | (simp; done) | (intros; simp_all; omega) | (intros; simp_all; done)) <| c0) ?_
      refine A2 (p := ((Ae l k).toNat : Int) = 41) (by kernel_rfl) (fun c5 => ?_) (fun c5 => ?_)
      ·refine Ar ?_
       refine Aw 0 [] [0, 4, 5] [] hk0 v0 (cc 1 (p := (-9223372036854775808 ≤ (if (Ae l k).toNat = 40 then n + 1 else n) - 1 ∧ (if (Ae l k).toNat = 40 then n + 1 else n) - 1 ≤ 9223372036854775807)) (by first | omega | (simp; omega) | (simp; done) | (intros; simp_all; omega) | (intros; simp_all; done)) <| c0) ?_
       refine ⟨by kernel_rfl, (Eq.trans (b := (⟨[(0, (.str l)), (4, (.int .i64 ((if (Ae l k).toNat = 40 then n + 1 else n) - 1))), (5, (.int .i64 ((k : Int))))], [], 0⟩ : St)) (by kernel_rfl) (by rw [show (if (Ae l k).toNat = 40 then n + 1 else if (Ae l k).toNat = 41 then n - 1 else n) = (if (Ae l k).toNat = 40 then n + 1 else n) - 1 from by (repeat' split) <;> omega]))⟩
      ·refine Ag ?_
       refine ⟨by kernel_rfl, (Eq.trans (b := (⟨[(0, (.str l)), (4, (.int .i64 ((if (Ae l k).toNat = 40 then n + 1 else n)))), (5, (.int .i64 ((k : Int))))], [], 0⟩ : St)) (by kernel_rfl) (by rw [show (if (Ae l k).toNat = 40 then n + 1 else if (Ae l k).toNat = 41 then n - 1 else n) = (if (Ae l k).toNat = 40 then n + 1 else n) from by (repeat' split) <;> omega]))⟩
     ·rintro y2 rfl
      refine Aa [] [0, 4, 5, 63] ?_
      refine A2 (p := (if (Ae l k).toNat = 40 then n + 1 else if (Ae l k).toNat = 41 then n - 1 else n) < 0) (by kernel_rfl) (fun c6 => ?_) (fun c6 => ?_)
      ·refine Aa [] [2] ?_
       refine Af ?_
       refine RK wR [(.bool false)] ?_
       exact Same.of_eq (by simp only [Ah]; rw [Bh, f1_2, Od (by omega) hub]; simp only [if_pos c6]; simp)
      ·refine Ag ?_
       refine Ar ?_
       refine Aw 0 [] [0, 4, 5] [] hk0 v0 (cc 1 (p := (-9223372036854775808 ≤ (k : Int) + 1 ∧ (k : Int) + 1 ≤ 9223372036854775807)) (by first | omega | (simp; omega) | (simp; done) | (intros; simp_all; omega) | (intros; simp_all; done)) <| c0) ?_
       refine ⟨by kernel_rfl, _, ?_, k + 1, (if (Ae l k).toNat = 40 then n + 1 else if (Ae l k).toNat = 41 then n - 1 else n), ?_, ?_, ?_, ?_, ?_, (by kernel_rfl), rfl⟩
       ·omega
       ·omega
       ·rw [f1_2, Od (by omega) hub]; simp only [if_neg c6]
       ·constructor <;> ((repeat' split) <;> omega)
       ·exact f1_4
       ·exact f1_5
  ·refine Bj ?_
   refine Aa [] [2] ?_
   refine Af ?_
   refine RK wR [(.bool (decide (n = 0)))] ?_
   exact Same.of_eq (by simp only [Ah]; rw [Bh, f1_5, f1_2, List.drop_of_length_le (by omega), Fp]; simp)
end Sv
end Go.Proofs.YtlfjokcbkopfeaaGreatDoor
end
section
namespace Go.Proofs.YtlfjokcbkopfeaaGreatDoor
open Go Go.RowKit
namespace Sv
attribute [local irreducible] SW SO Bg
theorem Hn : Am Tryz.prog 148 := Av Tryz.func148 (by kernel_rfl) rfl
theorem Lc : Am Tryz.prog 149 := Av Tryz.func149 (by kernel_rfl) rfl
theorem Gx : Am Tryz.prog 151 := Av Tryz.func151 (by kernel_rfl) rfl
theorem Zz : Am Tryz.prog 196 := Av Tryz.func196 (by kernel_rfl) rfl
theorem Pb : Am Tryz.prog 167 := Av Tryz.func167 (by kernel_rfl) rfl
def Aj (c : UInt8) : Bool := decide (48 ≤ c.toNat) && decide (c.toNat ≤ 57)
def Bp (c : UInt8) : Bool := (decide (97 ≤ c.toNat) && decide (c.toNat ≤ 122)) || (decide (65 ≤ c.toNat) && decide (c.toNat ≤ 90))
def Ak (p : UInt8 → Bool) (s : List UInt8) : Nat := (s.takeWhile p).length
theorem E6 (p : UInt8 → Bool) : ∀ s : List UInt8, Ak p s ≤ s.length
 | [] => Nat.le_refl _
 | a :: r => by
  have := E6 p r
  unfold Ak at this ⊢
  rw [List.takeWhile_cons]
  split <;> simp <;> omega
theorem S2 {p : UInt8 → Bool} : ∀ {s : List UInt8} {i : Nat}, i < s.length → (∀ j, j < i → p (Ae s j) = true) → p (Ae s i) = false → Ak p s = i
 | [], _, h, _, _ => by simp at h
 | a :: r, 0, _, _, h => by
  have h : p a = false := h
  unfold Ak; rw [List.takeWhile_cons, h]; rfl
 | a :: r, i + 1, hi, h, hp => by
  have h0 : p a = true := h 0 (by omega)
  have := S2 (s := r) (i := i) (by simpa using hi) (fun j hj => h (j + 1) (by omega)) hp
  unfold Ak at this ⊢
  rw [List.takeWhile_cons, h0]
  simp [this]
theorem S3 {p : UInt8 → Bool} : ∀ {s : List UInt8}, (∀ j, j < s.length → p (Ae s j) = true) → Ak p s = s.length
 | [], _ => rfl
 | a :: r, h => by
  have h0 : p a = true := h 0 (by simp)
  have := S3 (s := r) (fun j hj => h (j + 1) (by simpa using hj))
  unfold Ak at this ⊢
  rw [List.takeWhile_cons, h0]
  simp [this]
def Eb (a b : Bool) (g : Int) : Int := if (a && !b) = true then g else if (b && !a) = true then -g else 0
def Bm (s : List UInt8) : Int := if s = [] ∨ Aj (Ae s 0) = true then 0 else if (Ae s 0).toNat = 126 then -1 else if Bp (Ae s 0) = true then (Ae s 0).toNat else 256 + ((Ae s 0).toNat : Int)
set_option maxHeartbeats 400000 in
set_option maxRecDepth 100000 in
theorem H5 (c : UInt8) :
  FnV Tryz.prog 148 [(.int .u8 ((c.toNat : Int)))] (.bool (Aj c)) := by
 refine A1 [.tmp 2] Tryz.func148 rfl Tryz.ntmps148 rfl rfl (fun B F hF => ?_)
 refine Aa [] [0] ?_
 obtain ⟨b1, hb1⟩ : ∃ b, b = (decide (48 ≤ (c.toNat : Int))) := ⟨_, rfl⟩
 refine Ad (CS := [(4, (b1 = true → b1 = true)), (5, (b1 = true → b1 = true))]) [6, 7] [2] [] hk0 (vk 3 5 (a := .bool (decide (48 ≤ (c.toNat : Int)))) (b := .bool b1) (Imp.of_eq (by rw [hb1])) <| v0) (by refine cc _ ?_ <| cc _ ?_ c0 <;> first | omega | (simp; omega) | (simp; done) | (intros; simp_all; omega) | (intros; simp_all; done)) ?_
 refine Af ?_
 refine RK wR [(.bool (b1 && (decide ((c.toNat : Int) ≤ 57))))] ?_
 subst hb1
 refine Same.of_eq ?_
 simp only [Ah]
 congr 1
 unfold Aj
 rw [Bool.eq_iff_iff]
 simp only [Bool.and_eq_true, Bool.or_eq_true, decide_eq_true_eq]
 omega
set_option maxHeartbeats 400000 in
set_option maxRecDepth 100000 in
theorem Mf (c : UInt8) :
  FnV Tryz.prog 149 [(.int .u8 ((c.toNat : Int)))] (.bool (Bp c)) := by
 refine A1 [.tmp 2] Tryz.func149 rfl Tryz.ntmps149 rfl rfl (fun B F hF => ?_)
 refine Aa [] [0] ?_
 obtain ⟨b1, hb1⟩ : ∃ b, b = (decide (97 ≤ (c.toNat : Int))) := ⟨_, rfl⟩
 obtain ⟨b2, hb2⟩ : ∃ b, b = (b1 && (decide ((c.toNat : Int) ≤ 122))) := ⟨_, rfl⟩
 obtain ⟨b3, hb3⟩ : ∃ b, b = (b2 || ((decide (65 ≤ (c.toNat : Int))) && (decide ((c.toNat : Int) ≤ 90)))) := ⟨_, rfl⟩
 refine Ad (CS := [(4, (b1 = true → b1 = true)), (5, (b1 = true → b1 = true)), (8, ((!b2) = true → (!b2) = true)), (9, ((!b2) = true → (!b2) = true)), (11, (((!b2) && (decide (65 ≤ (c.toNat : Int)))) = true → ((!b2) && (decide (65 ≤ (c.toNat : Int)))) = true)), (12, ((!b2) = true → ((!b2) = true) ∧ ((decide (65 ≤ (c.toNat : Int))) = true → ((!b2) && (decide (65 ≤ (c.toNat : Int)))) = true))), (13, (b2 = false → (!b2) = true))]) [6, 7, 10, 11, 12, 13, 14, 15] [2] [] hk0 (vk 3 5 (a := .bool (decide (97 ≤ (c.toNat : Int)))) (b := .bool b1) (Imp.of_eq (by rw [hb1])) <| vk 7 9 (a := .bool (b1 && (decide ((c.toNat : Int) ≤ 122)))) (b := .bool b2) (Imp.of_eq (by rw [hb2])) <| vk 14 16 (a := .bool (b2 || ((decide (65 ≤ (c.toNat : Int))) && (decide ((c.toNat : Int) ≤ 90))))) (b := .bool b3) (Imp.of_eq (by rw [hb3])) <| v0) (by refine cc _ ?_ <| cc _ ?_ <| cc _ ?_ <| cc _ ?_ <| cc _ ?_ <| cc _ ?_ <| cc _ ?_ c0 <;> first | omega | (simp; omega) | (simp; done) | (intros; simp_all; omega) | (intros; simp_all; done)) ?_
 refine Af ?_
 refine RK wR [(.bool b3)] ?_
 subst hb3 hb2 hb1
 refine Same.of_eq ?_
 simp only [Ah]
 congr 1
 unfold Bp
 rw [Bool.eq_iff_iff]
 simp only [Bool.and_eq_true, Bool.or_eq_true, decide_eq_true_eq]
 omega
set_option maxHeartbeats 400000 in
set_option maxRecDepth 100000 in
theorem Og (a b : Bool) (g : Int) (hg : -1 ≤ g ∧ g ≤ 1) :
  FnV Tryz.prog 167 [(.bool a), (.bool b), (.int .i64 g)] (.int .i64 (Eb a b g)) := by
 refine A1 [.tmp 6] Tryz.func167 rfl Tryz.ntmps167 rfl rfl (fun B F hF => ?_)
 refine Aa [] [0, 1, 2] ?_
 refine Ab ?_
 refine A0 ?_
 refine Ad (CS := [(3, (a = true → a = true)), (4, (a = true → a = true))]) [10, 11] [0, 1, 2, 7] [] hk0 v0 (by refine cc _ ?_ <| cc _ ?_ c0 <;> first | omega | (simp; omega) | (simp; done) | (intros; simp_all; omega) | (intros; simp_all; done)) ?_
 refine A3 (q := a && (!b)) (by kernel_rfl) (fun c1 => ?_) (fun c1 => ?_)
 ·try simp only [Bool.and_eq_true, Bool.or_eq_true, Bool.and_eq_false_iff, Bool.or_eq_false_iff, Bool.not_eq_true', Bool.not_eq_false', decide_eq_true_eq, decide_eq_false_iff_not] at c1
  refine Aa [] [6] ?_
  refine Af ?_
  refine RK wR [(.int .i64 g)] ?_
  refine Same.of_eq ?_
  simp only [Ah]
  congr 1
  unfold Eb
  cases a <;> cases b <;> first | rfl | (show 0 - g = -g; omega) | (simp at c1; done) | (simp at c2; done) | contradiction
 ·try simp only [Bool.and_eq_true, Bool.or_eq_true, Bool.and_eq_false_iff, Bool.or_eq_false_iff, Bool.not_eq_true', Bool.not_eq_false', decide_eq_true_eq, decide_eq_false_iff_not] at c1
  refine Ad (CS := [(3, (b = true → b = true)), (4, (b = true → b = true))]) [17, 18] [2, 14] [] hk0 v0 (by refine cc _ ?_ <| cc _ ?_ c0 <;> first | omega | (simp; omega) | (simp; done) | (intros; simp_all; omega) | (intros; simp_all; done)) ?_
  refine A3 (q := b && (!a)) (by kernel_rfl) (fun c2 => ?_) (fun c2 => ?_)
  ·try simp only [Bool.and_eq_true, Bool.or_eq_true, Bool.and_eq_false_iff, Bool.or_eq_false_iff, Bool.not_eq_true', Bool.not_eq_false', decide_eq_true_eq, decide_eq_false_iff_not] at c2
   refine Ad [] [6] [] hk0 v0 (cc 1 (p := (-9223372036854775808 ≤ 0 - g ∧ 0 - g ≤ 9223372036854775807)) (by first | omega | (simp; omega) | (simp; done) | (intros; simp_all; omega) | (intros; simp_all; done)) <| c0) ?_
   refine Af ?_
   refine RK wR [(.int .i64 (0 - g))] ?_
   refine Same.of_eq ?_
   simp only [Ah]
   congr 1
   unfold Eb
   cases a <;> cases b <;> first | rfl | (show 0 - g = -g; omega) | (simp at c1; done) | (simp at c2; done) | contradiction
  ·try simp only [Bool.and_eq_true, Bool.or_eq_true, Bool.and_eq_false_iff, Bool.or_eq_false_iff, Bool.not_eq_true', Bool.not_eq_false', decide_eq_true_eq, decide_eq_false_iff_not] at c2
   refine Ag ?_
   refine Aa [] [6] ?_
   refine Af ?_
   refine RK wR [(.int .i64 0)] ?_
   refine Same.of_eq ?_
   simp only [Ah]
   congr 1
   unfold Eb
   cases a <;> cases b <;> first | rfl | (show 0 - g = -g; omega) | (simp at c1; done) | (simp at c2; done) | contradiction
set_option maxHeartbeats 400000 in
set_option maxRecDepth 100000 in
theorem Hq (s : List UInt8) (a : AV) (p : UInt8 → Bool) (hl : s.length ≤ 9223372036854775806) (ha : ∀ c : UInt8, FunV Tryz.prog a [.int .u8 (c.toNat : Int)] (.bool (p c))) :
  FnV Tryz.prog 151 [(.str s), (.clo a)] (.int .i64 ((Ak p s : Int))) := by
 refine A1 [.tmp 4] Tryz.func151 rfl Tryz.ntmps151 rfl rfl (fun B F hF => ?_)
 refine Aa [] [0, 1] ?_
 refine Aa [] [0, 1, 5] ?_
 refine Ab ?_
 refine A0 ?_
 refine Bq (fun g y => ∃ (i : Nat), i ≤ s.length ∧ (∀ j, j < i → p (Ae s j) = true) ∧ y = ⟨[(0, (.str s)), (1, (.clo a)), (5, (.int .i64 ((i : Int))))], [], 0⟩ ∧ g = s.length - i) [0, 1, 5] 0 _ (by omega) ⟨0, (by omega), (by exact fun j hj => by omega), (by kernel_rfl), rfl⟩ ?_
 rintro g1 y1 ⟨i, f1_1, f1_2, rfl, rfl⟩
 refine Ab ?_
 refine Ab ?_
 refine Ar ?_
 obtain ⟨b1, hb1⟩ : ∃ b, b = (decide ((i : Int) < (s.length : Int))) := ⟨_, rfl⟩
 refine Bv 5 0 [] [0, 1, 5, 10] [] hk0 v0 c0 ?_
 refine Gi 10 (a := .bool (decide ((i : Int) < (s.length : Int)))) (.bool b1) (by kernel_rfl) (Imp.of_eq (by rw [hb1])) ?_
 refine Tg b1 (fun c1 => ?_) (fun c1 => ?_)
 ·refine Gi 10 (a := .bool b1) (.bool true) (by kernel_rfl) (Imp.of_eq (by rw [c1])) ?_
  refine Bv 4 5 [] [0, 1, 5, 10, 11, 14] [] hk0 v0 (cc 8 (p := (0 ≤ (i : Int) ∧ i < s.length)) (by first | omega | (simp; omega) | (simp; done) | (intros; simp_all; omega) | (intros; simp_all; done)) <| c0) ?_
  refine G3 (s' := [(0, (.str s)), (1, (.clo a)), (5, (.int .i64 ((i : Int)))), (10, (.bool true)), (11, (.clo a)), (14, (.int .u8 (((Ae s i).toNat : Int)))), (15, (.bool (p (Ae s i))))]) (a := (.clo a)) (al := [(.int .u8 (((Ae s i).toNat : Int)))]) (r := (.bool (p (Ae s i)))) (by kernel_rfl) (by kernel_rfl) (by kernel_rfl) (by kernel_rfl) (by kernel_rfl) ((ha (Ae s i)).clo) (by kernel_rfl) ?_
  refine Aw 10 [] [0, 1, 5, 16] [] hk0 v0 c0 ?_
  refine A3 (q := p (Ae s i)) (by kernel_rfl) (fun c2 => ?_) (fun c2 => ?_)
  ·subst hb1
   try simp only [Bool.and_eq_true, Bool.or_eq_true, Bool.and_eq_false_iff, Bool.or_eq_false_iff, Bool.not_eq_true', Bool.not_eq_false', decide_eq_true_eq, decide_eq_false_iff_not] at c2
   refine Ag ?_
   refine A0 ?_
   refine Ar ?_
   refine Aw 0 [] [0, 1, 5] [] hk0 v0 (cc 1 (p := (-9223372036854775808 ≤ (i : Int) + 1 ∧ (i : Int) + 1 ≤ 9223372036854775807)) (by first | omega | (simp; omega) | (simp; done) | (intros; simp_all; omega) | (intros; simp_all; done)) <| c0) ?_
   refine ⟨by kernel_rfl, _, ?_, i + 1, ?_, ?_, (by kernel_rfl), rfl⟩
   ·simp_all; omega
   ·simp_all; omega
   ·intro j hj
    by_cases h : j = i
    ·subst h; assumption
    ·exact f1_2 j (by omega)
  ·subst hb1
   try simp only [Bool.and_eq_true, Bool.or_eq_true, Bool.and_eq_false_iff, Bool.or_eq_false_iff, Bool.not_eq_true', Bool.not_eq_false', decide_eq_true_eq, decide_eq_false_iff_not] at c2
   refine Bj ?_
   refine Aa [] [4] ?_
   refine Af ?_
   refine RK wR [(.int .i64 ((i : Int)))] ?_
   exact Same.of_eq (by simp only [Ah]; rw [S2 (i := i) (by simp_all) f1_2 (by simp_all)])
 ·refine Gi 10 (a := .bool b1) (.bool false) (by kernel_rfl) (Imp.of_eq (by rw [c1])) ?_
  refine Aw 5 [] [0, 1, 5, 16] [] hk0 v0 c0 ?_
  refine D6 (by kernel_rfl) ?_
  refine Bj ?_
  refine Aa [] [4] ?_
  refine Af ?_
  refine RK wR [(.int .i64 ((i : Int)))] ?_
  subst hb1
  exact Same.of_eq (by simp only [Ah]; rw [S3 (fun j hj => f1_2 j (by simp_all; omega))]; congr 2; simp_all; omega)
set_option maxHeartbeats 400000 in
set_option maxRecDepth 100000 in
theorem T7 (s : List UInt8) :
  FnV Tryz.prog 196 [(.str s)] (.int .i64 (Bm s)) := by
 have hb := (Ae s 0).toNat_lt
 have hp : s = [] ∨ 0 < s.length := by cases s <;> simp
 refine A1 [.tmp 2] Tryz.func196 rfl Tryz.ntmps196 rfl rfl (fun B F hF => ?_)
 refine Aa [] [0] ?_
 refine Ab ?_
 refine A0 ?_
 obtain ⟨b1, hb1⟩ : ∃ b, b = (decide (s = [])) := ⟨_, rfl⟩
 have qh1 : (((!b1) = true → ((!b1) = true) ∧ (0 ≤ (0 : Int) ∧ 0 < s.length))) := by
  rcases hp with hp | hp <;> first | (simp_all; done) | omega | (simp_all; omega) | (simp; omega)
 refine Ad [7, 8] [0, 3] [] (hkg 5 (!b1) Hn (fun cg => H5 (Ae s 0)) <| hk0) (vk 3 6 (a := .bool (decide (s = []))) (b := .bool b1) (Imp.of_eq (by rw [hb1])) <| v0) (cc 4 (p := ((!b1) = true → ((!b1) = true) ∧ (0 ≤ (0 : Int) ∧ 0 < s.length))) qh1 <| cc 5 (p := (!b1) = true → (!b1) = true) (by first | omega | (simp; omega) | (simp; done) | (intros; simp_all; omega) | (intros; simp_all; done)) <| cc 6 (p := (b1 = false → (!b1) = true)) (by first | omega | (simp; omega) | (simp; done) | (intros; simp_all; omega) | (intros; simp_all; done)) <| c0) ?_
 refine A3 (q := b1 || (Aj (Ae s 0))) (by kernel_rfl) (fun c1 => ?_) (fun c1 => ?_)
 ·subst hb1
  try simp only [Bool.and_eq_true, Bool.or_eq_true, Bool.and_eq_false_iff, Bool.or_eq_false_iff, Bool.not_eq_true', Bool.not_eq_false', decide_eq_true_eq, decide_eq_false_iff_not] at c1
  refine Aa [] [2] ?_
  refine Af ?_
  refine RK wR [(.int .i64 0)] ?_
  refine Same.of_eq ?_
  simp only [Ah]
  congr 1
  unfold Bm
  rw [if_pos c1]
 ·subst hb1
  try simp only [Bool.and_eq_true, Bool.or_eq_true, Bool.and_eq_false_iff, Bool.or_eq_false_iff, Bool.not_eq_true', Bool.not_eq_false', decide_eq_true_eq, decide_eq_false_iff_not] at c1
  have qh2 : ((0 ≤ (0 : Int) ∧ 0 < s.length)) := by
   rcases hp with hp | hp <;> first | (simp_all; done) | omega | (simp_all; omega) | (simp; omega)
  refine Ad [] [0, 11] [] hk0 v0 (cc 1 (p := (0 ≤ (0 : Int) ∧ 0 < s.length)) qh2 <| c0) ?_
  refine A2 (p := ((Ae s 0).toNat : Int) = 126) (by kernel_rfl) (fun c2 => ?_) (fun c2 => ?_)
  ·refine Aa [] [2] ?_
   refine Af ?_
   refine RK wR [(.int .i64 (-1))] ?_
   refine Same.of_eq ?_
   simp only [Ah]
   congr 1
   unfold Bm
   rw [if_neg (by simp_all), if_pos (by omega)]
  ·have qh3 : ((0 ≤ (0 : Int) ∧ 0 < s.length)) := by
    rcases hp with hp | hp <;> first | (simp_all; done) | omega | (simp_all; omega) | (simp; omega)
   refine Ad [] [0, 15] [] (hk 2 Lc (Mf (Ae s 0)) <| hk0) v0 (cc 1 (p := (0 ≤ (0 : Int) ∧ 0 < s.length)) qh3 <| c0) ?_
   refine A3 (q := Bp (Ae s 0)) (by kernel_rfl) (fun c3 => ?_) (fun c3 => ?_)
   ·try simp only [Bool.and_eq_true, Bool.or_eq_true, Bool.and_eq_false_iff, Bool.or_eq_false_iff, Bool.not_eq_true', Bool.not_eq_false', decide_eq_true_eq, decide_eq_false_iff_not] at c3
    have qh4 : ((0 ≤ (0 : Int) ∧ 0 < s.length)) ∧ ((-9223372036854775808 ≤ ((Ae s 0).toNat : Int) ∧ ((Ae s 0).toNat : Int) ≤ 9223372036854775807)) := by
     rcases hp with hp | hp <;> first | (simp_all; done) | omega | (simp_all; omega) | (simp; omega)
    refine Ad [] [2] [] hk0 v0 (cc 1 (p := (0 ≤ (0 : Int) ∧ 0 < s.length)) qh4.1 <| cc 2 (p := (-9223372036854775808 ≤ ((Ae s 0).toNat : Int) ∧ ((Ae s 0).toNat : Int) ≤ 9223372036854775807)) qh4.2 <| c0) ?_
    refine Af ?_
    refine RK wR [(.int .i64 (((Ae s 0).toNat : Int)))] ?_
    refine Same.of_eq ?_
    simp only [Ah]
    congr 1
    unfold Bm
    rw [if_neg (by simp_all), if_neg (by omega), if_pos (by assumption)]
   ·try simp only [Bool.and_eq_true, Bool.or_eq_true, Bool.and_eq_false_iff, Bool.or_eq_false_iff, Bool.not_eq_true', Bool.not_eq_false', decide_eq_true_eq, decide_eq_false_iff_not] at c3
    refine Ag ?_
    have qh5 : ((0 ≤ (0 : Int) ∧ 0 < s.length)) ∧ ((-9223372036854775808 ≤ ((Ae s 0).toNat : Int) ∧ ((Ae s 0).toNat : Int) ≤ 9223372036854775807)) ∧ ((-9223372036854775808 ≤ 256 + ((Ae s 0).toNat : Int) ∧ 256 + ((Ae s 0).toNat : Int) ≤ 9223372036854775807)) := by
     rcases hp with hp | hp <;> first | (simp_all; done) | omega | (simp_all; omega) | (simp; omega)
    refine Ad [] [2] [] hk0 v0 (cc 1 (p := (0 ≤ (0 : Int) ∧ 0 < s.length)) qh5.1 <| cc 2 (p := (-9223372036854775808 ≤ ((Ae s 0).toNat : Int) ∧ ((Ae s 0).toNat : Int) ≤ 9223372036854775807)) qh5.2.1 <| cc 3 (p := (-9223372036854775808 ≤ 256 + ((Ae s 0).toNat : Int) ∧ 256 + ((Ae s 0).toNat : Int) ≤ 9223372036854775807)) qh5.2.2 <| c0) ?_
    refine Af ?_
    refine RK wR [(.int .i64 (256 + ((Ae s 0).toNat : Int)))] ?_
    refine Same.of_eq ?_
    simp only [Ah]
    congr 1
    unfold Bm
    rw [if_neg (by simp_all), if_neg (by omega), if_neg (by simp_all)]
end Sv
end Go.Proofs.YtlfjokcbkopfeaaGreatDoor
end
section
namespace Go.Proofs.YtlfjokcbkopfeaaGreatDoor
open Go Go.RowKit
set_option linter.unusedSimpArgs false
set_option linter.unusedVariables false
namespace Sv
theorem Q15 (s : List UInt8) (c : UInt8) (hc : c.toNat < 128) : FnV Tryz.prog 136 [.str s, .str [c]] (.str (Lib.trimLeftB s c)) := by
  intro F w vs hF hv
  obtain ⟨v, r1, rfl, h1, hv⟩ := hv.cons_inv
  obtain ⟨v2, rfl, h2⟩ := hv.single_inv
  simp only [VR] at h1 h2
  subst h1 h2
  refine (Tryz.strings_TrimLeft_one ⟨s.toArray⟩ c hc w).mono ?_
  rintro e w' ⟨he, rfl⟩
  exact ⟨_, he, Below.refl _ _, F, fun _ _ e => e, hF, fun _ _ e => .inl e, by simp only [VR, List.toList_toArray]⟩
theorem Q2t (a b : List UInt8) : FnV Tryz.prog 195 [.str a, .str b] (.int .i64 (Lib.compareBytes a b)) := by
  intro F w vs hF hv
  obtain ⟨v, r1, rfl, h1, hv⟩ := hv.cons_inv
  obtain ⟨v2, rfl, h2⟩ := hv.single_inv
  simp only [VR] at h1 h2
  subst h1 h2
  refine (Tryz.strings_Compare ⟨a.toArray⟩ ⟨b.toArray⟩ w).mono ?_
  rintro e w' ⟨he, rfl⟩
  exact ⟨_, he, Below.refl _ _, F, fun _ _ e => e, hF, fun _ _ e => .inl e, by simp only [VR, List.toList_toArray]⟩
end Sv
end Go.Proofs.YtlfjokcbkopfeaaGreatDoor
end
section
namespace Go.Proofs.YtlfjokcbkopfeaaGreatDoor
open Go Go.RowKit
namespace Sv
attribute [local irreducible] SW SO Bg
theorem FnV.of_plain {P : Program} {f : Nat} {al : List AV} {r : AV} (vs0 : List Value) (rv : Value) (ha : ∀ F vs, VRl (ofF F) al vs → vs = vs0) (hr : ∀ F, VR (ofF F) r rv) (h : ∀ w : World, Calls P f vs0.toArray w (Ret fun v w' => v = rv ∧ Below w.heap.size w w')) : FnV P f al r := by
 intro F w vs hF hv
 rw [ha F vs hv]
 refine (h w).mono ?_
 rintro e w' ⟨v, he, rfl, hb⟩
 exact ⟨_, he, hb, F, fun _ _ e => e, fun b o e => (hb.block b (Ev (hF b o e))).trans (hF b o e), fun _ _ e => .inl e, hr F⟩
theorem Q1 {P : Program} {f : Nat} {vs : Array Value} {w : World} {rv : Value} (h : Calls P f vs w (Ret fun v w' => v = rv ∧ w = w')) : Calls P f vs w (Ret fun v w' => v = rv ∧ Below w.heap.size w w') :=
 h.mono fun e w' hh => by
  obtain ⟨v, he, h1, rfl⟩ := hh
  exact ⟨v, he, h1, Below.refl _ _⟩
theorem Nf {F : Nat → Option Obj} {a b : AV} {x y : Value} (ha : ∀ F v, VR (ofF F) a v → v = x) (hb : ∀ F v, VR (ofF F) b v → v = y) {vs : List Value} (h : VRl (ofF F) [a, b] vs) : vs = [x, y] := by
 obtain ⟨v, r1, rfl, h1, hv⟩ := h.cons_inv
 obtain ⟨v2, rfl, h2⟩ := hv.single_inv
 rw [ha _ _ h1, hb _ _ h2]
theorem Kh {l : List UInt8} : ∀ F v, VR (ofF F) (.str l) v → v = Go.Proofs.YtlfjokcbkopfeaaGreatDoor.S l := fun F v h => by simpa only [VR] using h
theorem X2 {k : IntKind} {n : Int} : ∀ F v, VR (ofF F) (.int k n) v → v = .int k n := fun F v h => by simpa only [VR] using h
theorem X4u (l : List UInt8) (c : UInt8) : FnV Tryz.prog 150 [.str l, .int .u8 (c.toNat : Int)] (.int .i64 (Lib.indexByte l c)) :=
 FnV.of_plain [S l, .int .u8 (c.toNat : Int)] (.int .i64 (Lib.indexByte l c)) (fun _ _ h => Nf Kh X2 h) (fun _ => by simp only [VR]) fun w => Q1 (X4t l c w)
theorem X4r (l : List UInt8) (hl : l.length ≤ 9223372036854775807) : FnV Tryz.prog 153 [.str l, .int .u8 45] (.int .i64 (Br l 45 l.length)) :=
 FnV.of_plain [S l, .int .u8 45] (.int .i64 (Br l 45 l.length)) (fun _ _ h => Nf Kh X2 h) (fun _ => by simp only [VR]) fun w => Q1 (X4q l 45 w hl)
theorem X42 (l : List UInt8) : FnV Tryz.prog 154 [.str l, .str [58]] (.bool (l.contains 58)) :=
 FnV.of_plain [S l, S [58]] (.bool (l.contains 58)) (fun _ _ h => Nf Kh Kh h) (fun _ => by simp only [VR]) fun w => Q1 (X41 l 58 w)
theorem X40 (l : List UInt8) (hl : l.length ≤ 9223372036854775807) : FnV Tryz.prog 152 [.str l, .str [58]] (.tup [.str (if 0 ≤ Lib.indexByte l 58 then l.take (Lib.indexByte l 58).toNat else l), .str (if 0 ≤ Lib.indexByte l 58 then l.drop ((Lib.indexByte l 58).toNat + 1) else []), .bool (decide (0 ≤ Lib.indexByte l 58))]) := by
 refine FnV.of_plain [S l, S [58]] (Hp l 58) (fun _ _ h => Nf Kh Kh h) (fun F => ?_) fun w => ?_
 ·unfold Hp
  by_cases h : 0 ≤ Lib.indexByte l 58
  ·rw [if_pos h, if_pos h, if_pos h, decide_eq_true h]
   simp only [VR]; exact ⟨_, .cons (by simp only [VR]) (.cons (by simp only [VR]) (.cons (by simp only [VR]) .nil)), rfl⟩
  ·rw [if_neg h, if_neg h, if_neg h, decide_eq_false h]
   simp only [VR]; exact ⟨_, .cons (by simp only [VR]) (.cons (by simp only [VR]) (.cons (by simp only [VR]) .nil)), rfl⟩
 ·exact X4z l 58 w hl
theorem Q73 (r : List UInt8) (c : UInt8) : -1 ≤ Br r c r.length ∧ Br r c r.length < r.length := by
 rcases Xu r c r.length with h | ⟨q, h, hq⟩ <;> omega
theorem O5 {l r ep v rl : List UInt8} (hh : Hf l = true) (hr : r = (if 0 ≤ Lib.indexByte l 58 then l.drop ((Lib.indexByte l 58).toNat + 1) else l)) (he : ep = (if 0 ≤ Lib.indexByte l 58 then l.take (Lib.indexByte l 58).toNat else [])) (hd : 0 ≤ Lib.indexByte l 58 → Fh (l.take (Lib.indexByte l 58).toNat) = true)
  (hv : v = (if 0 ≤ Br r 45 r.length then r.take (Br r 45 r.length).toNat else r)) (hrl : rl = (if 0 ≤ Br r 45 r.length then r.drop ((Br r 45 r.length).toNat + 1) else [])) (hn : 0 ≤ Br r 45 r.length → ¬ rl = []) : Bz l = (if v = [] ∨ r.contains 58 = true then 30 else 0) ∧ Mo l = (ep, v, rl) := by
 constructor
 ·have ht : Ir l = Jx r := by
   unfold Ir
   rw [hh, Bool.true_and]
   by_cases h : 0 ≤ Lib.indexByte l 58
   ·rw [if_pos h, hd h, Bool.true_and, hr, if_pos h]
   ·rw [if_neg h, hr, if_neg h]
  have ht2 : Jx r = !(decide (v = []) || r.contains 58) := by
   unfold Jx
   by_cases h : 0 ≤ Br r 45 r.length
   ·have := hn h
    rw [if_pos h] at hv hrl ⊢
    rw [← hrl, ← hv, decide_eq_false this, Bool.not_or]; rfl
   ·rw [if_neg h] at hv ⊢
    rw [hv, Bool.not_or]
  unfold Bz
  rw [ht, ht2]
  by_cases h1 : v = [] <;> by_cases h2 : r.contains 58 = true <;> simp [h1, h2]
 ·unfold Mo
  simp only [← hr]
  rw [← he, ← hv, ← hrl]
set_option maxHeartbeats 400000 in
set_option maxRecDepth 100000 in
theorem Q7w (c : UInt8) :
  FnV Tryz.prog 147 [(.int .u8 ((c.toNat : Int)))] (.bool (Fd c)) := by
 refine A1 [.tmp 2] Tryz.func147 rfl Tryz.ntmps147 rfl rfl (fun B F hF => ?_)
 refine Aa [] [0] ?_
 obtain ⟨b1, hb1⟩ : ∃ b, b = ((Aj c) || (Bp c)) := ⟨_, rfl⟩
 refine Ad (CS := [(4, (!(Aj c)) = true → (!(Aj c)) = true), (5, ((Aj c) = false → (!(Aj c)) = true)), (8, (!b1) = true → (!b1) = true), (9, ((!b1) = true → (!b1) = true)), (10, (b1 = false → (!b1) = true))]) [6, 10, 12] [2] [] (hk 1 Hn (H5 c) <| hkg 4 (!(Aj c)) Lc (fun cg => Mf c) <| hkg 8 (!b1) X0y (fun cg => X4u midL c) <| hk0) (vk 7 9 (a := .bool ((Aj c) || (Bp c))) (b := .bool b1) (Imp.of_eq (by rw [hb1])) <| v0) (by refine cc _ ?_ <| cc _ ?_ <| cc _ ?_ <| cc _ ?_ <| cc _ ?_ c0 <;> first | omega | (simp; omega) | (simp; done) | (intros; simp_all; omega) | (intros; simp_all; done)) ?_
 refine Af ?_
 refine RK wR [(.bool (b1 || (decide (0 ≤ (Lib.indexByte midL c)))))] ?_
 subst hb1
 refine Same.of_eq ?_
 simp only [Ah]
 rw [X8, Bool.or_assoc]; rfl
theorem Q9i {l : List UInt8} (c : (l = [] ∨ (60 : Int) < (l.length : Int)) ∨ ¬ (Ak Fd l : Int) = (l.length : Int)) : Bz l = 30 := by
 refine Y7 ?_
 unfold Hf
 rcases c with (h | h) | h
 ·rw [h]; rfl
 ·rw [decide_eq_false (show ¬ l.length ≤ 60 by omega)]; simp
 ·rw [show l.all Fd = false from by cases hq : l.all Fd with | false => rfl | true => exact absurd ((Pi Fd l).2 hq) h]; rfl
theorem Q9j {l : List UInt8} (hh : Hf l = true) (h0 : 0 ≤ Lib.indexByte l 58) (c : (l.take (Lib.indexByte l 58).toNat = [] ∨ (9 : Int) < ((l.take (Lib.indexByte l 58).toNat).length : Int)) ∨ ¬ (Ak Aj (l.take (Lib.indexByte l 58).toNat) : Int) = ((l.take (Lib.indexByte l 58).toNat).length : Int)) : Bz l = 30 := by
 have hb : Fh (l.take (Lib.indexByte l 58).toNat) = false := by
  unfold Fh
  rcases c with (h | h) | h
  ·rw [h]; rfl
  ·rw [decide_eq_false (show ¬ (l.take (Lib.indexByte l 58).toNat).length ≤ 9 by omega)]; simp
  ·rw [show (l.take (Lib.indexByte l 58).toNat).all Ho = false from by cases hq : (l.take (Lib.indexByte l 58).toNat).all Ho with | false => rfl | true => exact absurd ((Pi Ho _).2 hq) h]; rfl
 unfold Bz Ir
 rw [hh, Bool.true_and, if_pos h0, hb]; rfl
theorem Y4 {l r : List UInt8} (hh : Hf l = true) (hr : r = (if 0 ≤ Lib.indexByte l 58 then l.drop ((Lib.indexByte l 58).toNat + 1) else l)) (hd : 0 ≤ Lib.indexByte l 58 → Fh (l.take (Lib.indexByte l 58).toNat) = true) (hy : 0 ≤ Br r 45 r.length) (h : r.drop ((Br r 45 r.length).toNat + 1) = []) : Bz l = 30 := by
 have ht : Ir l = Jx r := by
  unfold Ir
  rw [hh, Bool.true_and]
  by_cases h : 0 ≤ Lib.indexByte l 58
  ·rw [if_pos h, hd h, Bool.true_and, hr, if_pos h]
  ·rw [if_neg h, hr, if_neg h]
 unfold Bz
 rw [ht]
 unfold Jx
 rw [if_pos hy, h]; rfl
set_option maxHeartbeats 1000000 in
set_option maxRecDepth 100000 in
theorem O6 (l : List UInt8) (hl : l.length ≤ 4611686018427387904) :
  FnV Tryz.prog 102 [(.str l)] (.tup [.agg [.str (B7 l).1, .str (B7 l).2.1, .str (B7 l).2.2], .int .i64 (Bz l)]) := by
 refine A1 [.cell 2 136, .tmp 3] Tryz.func102 rfl Tryz.ntmps102 rfl rfl (fun B F hF => ?_)
 refine Aa [] [0, 2] ?_
 refine Aa [] [0, 2, 4] ?_
 refine Ab ?_
 obtain ⟨b1, hb1⟩ : ∃ b, b = (decide (l = [])) := ⟨_, rfl⟩
 obtain ⟨b2, hb2⟩ : ∃ b, b = (b1 || (decide (60 < (l.length : Int)))) := ⟨_, rfl⟩
 refine Ad (CS := [(4, ((!b1) = true → (!b1) = true)), (5, ((!b1) = true → (!b1) = true)), (6, (b1 = false → (!b1) = true)), (10, (!b2) = true → (!b2) = true ∧ (!b2) = true), (12, ((!b2) = true → (!b2) = true)), (13, ((!b2) = true → (!b2) = true ∧ (!b2) = true)), (14, (b2 = false → (!b2) = true))]) [14, 15, 16, 19, 20, 22, 23, 24] [0, 2, 25] [] (hkg 10 (!b2) (al := [(.str l), (.fn 147 [] [])]) Gx (fun cg => (Hq l (.fn 147 [] []) Fd (by first | omega | (split <;> simp <;> omega)) (fun c => FunV.of (by exact X0z) (Q7w c))).of_args (ImpL.cons Imp.refl (ImpL.cons (Imp.clo rfl) ImpL.nil))) <| hk0) (vk 3 13 (a := .bool (decide (l = []))) (b := .bool b1) (Imp.of_eq (by rw [hb1])) <| vk 8 18 (a := .bool (b1 || (decide (60 < (l.length : Int))))) (b := .bool b2) (Imp.of_eq (by rw [hb2])) <| v0) (by refine cc _ ?_ <| cc _ ?_ <| cc _ ?_ <| cc _ ?_ <| cc _ ?_ <| cc _ ?_ <| cc _ ?_ c0 <;> first | omega | (simp; omega) | (simp; done) | (intros; simp_all; omega) | (intros; simp_all; done)) ?_
 refine A3 (q := b2 || (!decide ((Ak Fd l : Int) = (l.length : Int)))) (by kernel_rfl) (fun c1 => ?_) (fun c1 => ?_)
 ·subst hb2 hb1
  try simp only [Bool.and_eq_true, Bool.or_eq_true, Bool.and_eq_false_iff, Bool.or_eq_false_iff, Bool.not_eq_true', Bool.not_eq_false', decide_eq_true_eq, decide_eq_false_iff_not] at c1
  refine Aa [] [2, 3] ?_
  refine Af ?_
  refine RK wR [(.agg [(.str []), (.str []), (.str [])]), (.int .i64 30)] ?_
  refine Same.of_eq ?_
  simp only [Ah]
  have h0 : Bz l = 30 := Q9i c1
  have h1 : B7 l = ([], [], []) := Gc h0.symm
  rw [h0, h1]
 ·subst hb2 hb1
  try simp only [Bool.and_eq_true, Bool.or_eq_true, Bool.and_eq_false_iff, Bool.or_eq_false_iff, Bool.not_eq_true', Bool.not_eq_false', decide_eq_true_eq, decide_eq_false_iff_not] at c1
  have hh : Hf l = true := by
   unfold Hf
   rw [show l.all Fd = true from (Pi Fd l).1 c1.2, decide_eq_true (show 1 ≤ l.length by have := List.length_pos_iff.2 c1.1.1; omega), decide_eq_true (by omega)]; rfl
  refine Ag ?_
  refine Aa [] [0, 2, 5] ?_
  refine Aa [] [0, 2, 5, 6] ?_
  refine Da (fun y => ∃ (r : List UInt8) (ep : List UInt8), r = (if 0 ≤ Lib.indexByte l 58 then l.drop ((Lib.indexByte l 58).toNat + 1) else l) ∧ ep = (if 0 ≤ Lib.indexByte l 58 then l.take (Lib.indexByte l 58).toNat else []) ∧ (0 ≤ Lib.indexByte l 58 → Fh (l.take (Lib.indexByte l 58).toNat) = true) ∧ y = ⟨[(2, (.ptr 0 0)), (5, (.ptr 1 0)), (6, (.str r))], [(0, (.row [(.str []), (.str []), (.str [])] 136)), (1, (.row [(.str ep), (.str []), (.str [])] 136))], 2⟩) [2, 5, 6] 2 (by omega) ?_ ?_
  ·refine Ad [] [2, 5, 6, 7, 8, 9] [] (hk 1 X0x (X40 l (by omega)) <| hk0) v0 c0 ?_
   refine Aa [] [2, 5, 6, 7, 8, 34] ?_
   refine A2 (p := 0 ≤ Lib.indexByte l 58) (by kernel_rfl) (fun c2 => ?_) (fun c2 => ?_)
   ·refine Ab ?_
    obtain ⟨b3, hb3⟩ : ∃ b, b = (decide ((if 0 ≤ Lib.indexByte l 58 then l.take (Lib.indexByte l 58).toNat else l) = [])) := ⟨_, rfl⟩
    obtain ⟨b4, hb4⟩ : ∃ b, b = (b3 || (decide (9 < ((if 0 ≤ Lib.indexByte l 58 then l.take (Lib.indexByte l 58).toNat else l).length : Int)))) := ⟨_, rfl⟩
    refine Ad (CS := [(4, ((!b3) = true → (!b3) = true)), (5, ((!b3) = true → (!b3) = true)), (6, (b3 = false → (!b3) = true)), (9, (!b4) = true → (!b4) = true), (11, ((!b4) = true → (!b4) = true)), (12, ((!b4) = true → (!b4) = true ∧ (!b4) = true)), (13, (b4 = false → (!b4) = true))]) [38, 39, 40, 43, 45, 46, 47] [2, 5, 7, 8, 48] [] (hkg 9 (!b4) (al := [(.str ((if 0 ≤ Lib.indexByte l 58 then l.take (Lib.indexByte l 58).toNat else l))), (.fn 148 [] [])]) Gx (fun cg => (Hq (if 0 ≤ Lib.indexByte l 58 then l.take (Lib.indexByte l 58).toNat else l) (.fn 148 [] []) Aj (by first | omega | (split <;> simp <;> omega)) (fun c => FunV.of (by exact Hn) (H5 c))).of_args (ImpL.cons Imp.refl (ImpL.cons (Imp.clo rfl) ImpL.nil))) <| hk0) (vk 3 37 (a := .bool (decide ((if 0 ≤ Lib.indexByte l 58 then l.take (Lib.indexByte l 58).toNat else l) = []))) (b := .bool b3) (Imp.of_eq (by rw [hb3])) <| vk 7 41 (a := .bool (b3 || (decide (9 < ((if 0 ≤ Lib.indexByte l 58 then l.take (Lib.indexByte l 58).toNat else l).length : Int))))) (b := .bool b4) (Imp.of_eq (by rw [hb4])) <| v0) (by refine cc _ ?_ <| cc _ ?_ <| cc _ ?_ <| cc _ ?_ <| cc _ ?_ <| cc _ ?_ <| cc _ ?_ c0 <;> first | omega | (simp; omega) | (simp; done) | (intros; simp_all; omega) | (intros; simp_all; done)) ?_
    refine A3 (q := b4 || (!decide ((Ak Aj (if 0 ≤ Lib.indexByte l 58 then l.take (Lib.indexByte l 58).toNat else l) : Int) = ((if 0 ≤ Lib.indexByte l 58 then l.take (Lib.indexByte l 58).toNat else l).length : Int)))) (by kernel_rfl) (fun c3 => ?_) (fun c3 => ?_)
    ·subst hb4 hb3
     try simp only [Bool.and_eq_true, Bool.or_eq_true, Bool.and_eq_false_iff, Bool.or_eq_false_iff, Bool.not_eq_true', Bool.not_eq_false', decide_eq_true_eq, decide_eq_false_iff_not] at c3
     refine Aa [] [2, 3] ?_
     refine Af ?_
     refine RK wR [(.agg [(.str []), (.str []), (.str [])]), (.int .i64 30)] ?_
     refine Same.of_eq ?_
     simp only [Ah]
     have h0 : Bz l = 30 := Q9j hh c2 (by rw [if_pos c2] at c3; exact c3)
     have h1 : B7 l = ([], [], []) := Gc h0.symm
     rw [h0, h1]
    ·subst hb4 hb3
     try simp only [Bool.and_eq_true, Bool.or_eq_true, Bool.and_eq_false_iff, Bool.or_eq_false_iff, Bool.not_eq_true', Bool.not_eq_false', decide_eq_true_eq, decide_eq_false_iff_not] at c3
     have hdg : Fh (l.take (Lib.indexByte l 58).toNat) = true := by
      rw [if_pos c2] at c3
      unfold Fh
      rw [show (l.take (Lib.indexByte l 58).toNat).all Ho = true from (Pi Ho _).1 c3.2, decide_eq_true (show 1 ≤ _ by have := List.length_pos_iff.2 c3.1.1; omega), decide_eq_true (by omega)]; rfl
     refine Ag ?_
     refine Ar ?_
     refine Ep [] [2, 5, 6] ?_
     refine ⟨by kernel_rfl, (if 0 ≤ Lib.indexByte l 58 then l.drop ((Lib.indexByte l 58).toNat + 1) else []), (if 0 ≤ Lib.indexByte l 58 then l.take (Lib.indexByte l 58).toNat else l), ?_, ?_, ?_, (by kernel_rfl)⟩
     ·simp only [if_pos c2]
     ·simp only [if_pos c2]
     ·exact fun _ => hdg
   ·refine Ag ?_
    refine ⟨by kernel_rfl, l, [], ?_, ?_, ?_, (by kernel_rfl)⟩
    ·simp only [if_neg c2]
    ·simp only [if_neg c2]
    ·exact fun h => absurd h c2
  ·rintro y1 ⟨r, ep, hr, hep, hdg, rfl⟩
   have hrl : r.length ≤ l.length := by rw [hr]; split <;> simp
   have hyb := Q73 r 45
   have hi58 := X7 l 58
   refine Aa [] [2, 5, 6] ?_
   refine Da (fun y => ∃ (v : List UInt8) (rl : List UInt8), v = (if 0 ≤ Br r 45 r.length then r.take (Br r 45 r.length).toNat else r) ∧ rl = (if 0 ≤ Br r 45 r.length then r.drop ((Br r 45 r.length).toNat + 1) else []) ∧ (0 ≤ Br r 45 r.length → ¬ rl = []) ∧ y = ⟨[(2, (.ptr 0 0)), (5, (.ptr 1 0)), (6, (.str r))], [(0, (.row [(.str []), (.str []), (.str [])] 136)), (1, (.row [(.str ep), (.str v), (.str rl)] 136))], 2⟩) [2, 5, 6] 2 (by omega) ?_ ?_
   ·refine Ad [] [2, 5, 6, 10] [] (hk 1 X0w (X4r r (by omega)) <| hk0) v0 c0 ?_
    refine Aa [] [2, 5, 6, 10, 58] ?_
    refine A2 (p := 0 ≤ (Br r 45 r.length)) (by kernel_rfl) (fun c4 => ?_) (fun c4 => ?_)
    ·refine Cn (CS := [(2, (0 ≤ (0 : Int) ∧ (0 : Int) ≤ Br r 45 r.length ∧ Br r 45 r.length ≤ (r.length : Int))), (5, (-9223372036854775808 ≤ (Br r 45 r.length) + 1 ∧ (Br r 45 r.length) + 1 ≤ 9223372036854775807)), (6, (0 ≤ (Br r 45 r.length) + 1 ∧ (Br r 45 r.length) + 1 ≤ (r.length : Int) ∧ (r.length : Int) ≤ (r.length : Int)))]) [] [2, 5, 6] [] hk0 v0 (by refine cc _ ?_ <| cc _ ?_ <| cc _ ?_ c0 <;> first | omega | (simp; omega) | (simp; done) | (intros; simp_all; omega) | (intros; simp_all; done)) ?_
     refine Aa [] [2, 5, 6, 70] ?_
     refine A2 (p := (r.take r.length).drop (((Br r 45 r.length) + 1).toNat) = []) (by kernel_rfl) (fun c5 => ?_) (fun c5 => ?_)
     ·refine Aa [] [2, 3] ?_
      refine Af ?_
      refine RK wR [(.agg [(.str []), (.str []), (.str [])]), (.int .i64 30)] ?_
      refine Same.of_eq ?_
      simp only [Ah]
      have h0 : Bz l = 30 := Y4 hh hr hdg c4 (by have h := c5; rw [List.take_length] at h; rw [← h]; congr 1; omega)
      have h1 : B7 l = ([], [], []) := Gc h0.symm
      rw [h0, h1]
     ·refine Ag ?_
      refine ⟨by kernel_rfl, ((r.take ((Br r 45 r.length : Int).toNat)).drop 0), ((r.take r.length).drop (((Br r 45 r.length) + 1).toNat)), ?_, ?_, ?_, (by kernel_rfl)⟩
      ·rw [if_pos c4]; simp
      ·rw [if_pos c4]; try rw [List.take_length]; congr 1; omega
      ·intro _; exact c5
    ·refine Ag ?_
     refine ⟨by kernel_rfl, r, [], ?_, ?_, ?_, (by kernel_rfl)⟩
     ·rw [if_neg c4]
     ·rw [if_neg c4]
     ·exact fun h => absurd h c4
   ·rintro y2 ⟨v, rl, hv, hrr, hnn, rfl⟩
    refine Ab ?_
    obtain ⟨b5, hb5⟩ : ∃ b, b = (decide (v = [])) := ⟨_, rfl⟩
    refine Ad (CS := [(5, (!b5) = true → (!b5) = true), (6, (b5 = false → (!b5) = true))]) [76] [2, 5, 78] [] (hkg 5 (!b5) X0v (fun cg => X42 r) <| hk0) (vk 4 75 (a := .bool (decide (v = []))) (b := .bool b5) (Imp.of_eq (by rw [hb5])) <| v0) (by refine cc _ ?_ <| cc _ ?_ c0 <;> first | omega | (simp; omega) | (simp; done) | (intros; simp_all; omega) | (intros; simp_all; done)) ?_
    refine A3 (q := b5 || (r.contains 58)) (by kernel_rfl) (fun c6 => ?_) (fun c6 => ?_)
    ·subst hb5
     try simp only [Bool.and_eq_true, Bool.or_eq_true, Bool.and_eq_false_iff, Bool.or_eq_false_iff, Bool.not_eq_true', Bool.not_eq_false', decide_eq_true_eq, decide_eq_false_iff_not] at c6
     refine Aa [] [2, 3] ?_
     refine Af ?_
     refine RK wR [(.agg [(.str []), (.str []), (.str [])]), (.int .i64 30)] ?_
     refine Same.of_eq ?_
     simp only [Ah]
     have h0 : Bz l = 30 := by rw [(O5 hh hr hep hdg hv hrr hnn).1, if_pos (by simpa using c6)]
     have h1 : B7 l = ([], [], []) := Gc h0.symm
     rw [h0, h1]
    ·subst hb5
     try simp only [Bool.and_eq_true, Bool.or_eq_true, Bool.and_eq_false_iff, Bool.or_eq_false_iff, Bool.not_eq_true', Bool.not_eq_false', decide_eq_true_eq, decide_eq_false_iff_not] at c6
     refine Ag ?_
     refine Aa [] [2, 3] ?_
     refine Af ?_
     refine RK wR [(.agg [(.str ep), (.str v), (.str rl)]), (.int .i64 0)] ?_
     have hf := O5 hh hr hep hdg hv hrr hnn
     have h0 : Bz l = 0 := by rw [hf.1, if_neg (by simpa using c6)]
     exact Same.of_eq (by simp only [Ah]; rw [Y5 h0.symm, hf.2, h0])
end Sv
end Go.Proofs.YtlfjokcbkopfeaaGreatDoor
end
section
namespace Go.Proofs.YtlfjokcbkopfeaaGreatDoor
open Go Go.RowKit
namespace Sv
attribute [local irreducible] SW SO Bg
set_option maxHeartbeats 400000 in
set_option maxRecDepth 100000 in
theorem Nx (c : UInt8) :
  FnV Tryz.prog 207 [(.int .u8 ((c.toNat : Int)))] (.bool (Bp c)) := by
 refine A1 [.tmp 2] Tryz.func207 rfl Tryz.ntmps207 rfl rfl (fun B F hF => ?_)
 refine Aa [] [0] ?_
 obtain ⟨b1, hb1⟩ : ∃ b, b = (decide (97 ≤ (c.toNat : Int))) := ⟨_, rfl⟩
 obtain ⟨b2, hb2⟩ : ∃ b, b = (b1 && (decide ((c.toNat : Int) ≤ 122))) := ⟨_, rfl⟩
 obtain ⟨b3, hb3⟩ : ∃ b, b = (b2 || ((decide (65 ≤ (c.toNat : Int))) && (decide ((c.toNat : Int) ≤ 90)))) := ⟨_, rfl⟩
 refine Ad (CS := [(4, (b1 = true → b1 = true)), (5, (b1 = true → b1 = true)), (8, ((!b2) = true → (!b2) = true)), (9, ((!b2) = true → (!b2) = true)), (11, (((!b2) && (decide (65 ≤ (c.toNat : Int)))) = true → ((!b2) && (decide (65 ≤ (c.toNat : Int)))) = true)), (12, ((!b2) = true → ((!b2) = true) ∧ ((decide (65 ≤ (c.toNat : Int))) = true → ((!b2) && (decide (65 ≤ (c.toNat : Int)))) = true))), (13, (b2 = false → (!b2) = true))]) [6, 7, 10, 11, 12, 13, 14, 15] [2] [] hk0 (vk 3 5 (a := .bool (decide (97 ≤ (c.toNat : Int)))) (b := .bool b1) (Imp.of_eq (by rw [hb1])) <| vk 7 9 (a := .bool (b1 && (decide ((c.toNat : Int) ≤ 122)))) (b := .bool b2) (Imp.of_eq (by rw [hb2])) <| vk 14 16 (a := .bool (b2 || ((decide (65 ≤ (c.toNat : Int))) && (decide ((c.toNat : Int) ≤ 90))))) (b := .bool b3) (Imp.of_eq (by rw [hb3])) <| v0) (by refine cc _ ?_ <| cc _ ?_ <| cc _ ?_ <| cc _ ?_ <| cc _ ?_ <| cc _ ?_ <| cc _ ?_ c0 <;> first | omega | (simp; omega) | (simp; done) | (intros; simp_all; omega) | (intros; simp_all; done)) ?_
 refine Af ?_
 refine RK wR [(.bool b3)] ?_
 subst hb3 hb2 hb1
 refine Same.of_eq ?_
 simp only [Ah]
 congr 1
 unfold Bp
 rw [Bool.eq_iff_iff]
 simp only [Bool.and_eq_true, Bool.or_eq_true, decide_eq_true_eq]
 omega
set_option maxHeartbeats 400000 in
set_option maxRecDepth 100000 in
theorem Jd (c : UInt8) :
  FnV Tryz.prog 208 [(.int .u8 ((c.toNat : Int)))] (.bool (Aj c)) := by
 refine A1 [.tmp 2] Tryz.func208 rfl Tryz.ntmps208 rfl rfl (fun B F hF => ?_)
 refine Aa [] [0] ?_
 obtain ⟨b1, hb1⟩ : ∃ b, b = (decide (48 ≤ (c.toNat : Int))) := ⟨_, rfl⟩
 refine Ad (CS := [(4, (b1 = true → b1 = true)), (5, (b1 = true → b1 = true))]) [6, 7] [2] [] hk0 (vk 3 5 (a := .bool (decide (48 ≤ (c.toNat : Int)))) (b := .bool b1) (Imp.of_eq (by rw [hb1])) <| v0) (by refine cc _ ?_ <| cc _ ?_ c0 <;> first | omega | (simp; omega) | (simp; done) | (intros; simp_all; omega) | (intros; simp_all; done)) ?_
 refine Af ?_
 refine RK wR [(.bool (b1 && (decide ((c.toNat : Int) ≤ 57))))] ?_
 subst hb1
 refine Same.of_eq ?_
 simp only [Ah]
 congr 1
 unfold Aj
 rw [Bool.eq_iff_iff]
 simp only [Bool.and_eq_true, Bool.or_eq_true, decide_eq_true_eq]
 omega
set_option maxHeartbeats 400000 in
set_option maxRecDepth 100000 in
theorem inV (c : UInt8) (l : List UInt8) (hl : l.length ≤ 4611686018427387904) :
  FnV Tryz.prog 176 [(.int .u8 ((c.toNat : Int))), (.str l)] (.bool (l.contains c)) := by
 refine A1 [.tmp 4] Tryz.func176 rfl Tryz.ntmps176 rfl rfl (fun B F hF => ?_)
 refine Aa [] [0, 1] ?_
 refine Ab ?_
 refine Aa [] [0, 1, 5] ?_
 refine A0 ?_
 refine Bq (fun g y => ∃ (k : Nat), k ≤ l.length ∧ l.contains c = (l.drop k).contains c ∧ y = ⟨[(0, (.int .u8 ((c.toNat : Int)))), (1, (.str l)), (5, (.int .i64 ((k : Int))))], [], 0⟩ ∧ g = l.length - k) [0, 1, 5] 0 _ (by omega) ⟨0, (by omega), (by rfl), (by kernel_rfl), rfl⟩ ?_
 rintro g1 y1 ⟨k, f1_1, f1_2, rfl, rfl⟩
 refine Ab ?_
 refine Aa [] [0, 1, 5, 9] ?_
 refine A2 (p := (k : Int) < (l.length : Int)) (by kernel_rfl) (fun c1 => ?_) (fun c1 => ?_)
 ·refine Ag ?_
  refine Ab ?_
  refine A0 ?_
  refine Ad [] [0, 1, 5, 16] [] hk0 v0 (cc 2 (p := (0 ≤ (k : Int) ∧ k < l.length)) (by first | omega | (simp; omega) | (simp; done) | (intros; simp_all; omega) | (intros; simp_all; done)) <| c0) ?_
  refine A2 (p := ((Ae l k).toNat : Int) = (c.toNat : Int)) (by kernel_rfl) (fun c2 => ?_) (fun c2 => ?_)
  ·refine Aa [] [4] ?_
   refine Af ?_
   refine RK wR [(.bool true)] ?_
   exact Same.of_eq (by rw [f1_2, Iu (by omega), show Ae l k = c from UInt8.toNat_inj.1 (by omega)]; simp [Ah])
  ·refine Ag ?_
   refine Ar ?_
   refine Aw 0 [] [0, 1, 5] [] hk0 v0 (cc 1 (p := (-9223372036854775808 ≤ (k : Int) + 1 ∧ (k : Int) + 1 ≤ 9223372036854775807)) (by first | omega | (simp; omega) | (simp; done) | (intros; simp_all; omega) | (intros; simp_all; done)) <| c0) ?_
   refine ⟨by kernel_rfl, _, ?_, k + 1, ?_, ?_, (by kernel_rfl), rfl⟩
   ·omega
   ·omega
   ·rw [f1_2, Iu (by omega), List.contains_cons]; have : ¬ c = Ae l k := fun e => c2 (by rw [e]); simp [this]
 ·refine Bj ?_
  refine Aa [] [4] ?_
  refine Af ?_
  refine RK wR [(.bool false)] ?_
  exact Same.of_eq (by rw [f1_2, List.drop_of_length_le (by omega)]; rfl)
set_option maxHeartbeats 400000 in
set_option maxRecDepth 100000 in
theorem Q43 (l : List UInt8) (hl : l.length ≤ 4611686018427387904) :
  FnV Tryz.prog 174 [(.str l)] (.bool (l.all Fd && (decide (1 ≤ l.length) && decide (l.length ≤ 60)))) := by
 refine A1 [.tmp 2] Tryz.func174 rfl Tryz.ntmps174 rfl rfl (fun B F hF => ?_)
 refine Aa [] [0] ?_
 refine Ab ?_
 refine Aa [] [0, 3] ?_
 refine A0 ?_
 refine Bq (fun g y => ∃ (k : Nat), k ≤ l.length ∧ (l.take k).all Fd = true ∧ y = ⟨[(0, (.str l)), (3, (.int .i64 ((k : Int))))], [], 0⟩ ∧ g = l.length - k) [0, 3] 0 _ (by omega) ⟨0, (by omega), (by rfl), (by kernel_rfl), rfl⟩ ?_
 rintro g1 y1 ⟨k, f1_1, f1_2, rfl, rfl⟩
 refine Ab ?_
 refine Aa [] [0, 3, 9] ?_
 refine A2 (p := (k : Int) < (l.length : Int)) (by kernel_rfl) (fun c1 => ?_) (fun c1 => ?_)
 ·refine Ag ?_
  refine Ab ?_
  refine A0 ?_
  refine Ad [] [0, 3, 4] [] (hk 3 O9 (Nx (Ae l k)) <| hk0) v0 (cc 2 (p := (0 ≤ (k : Int) ∧ k < l.length)) (by first | omega | (simp; omega) | (simp; done) | (intros; simp_all; omega) | (intros; simp_all; done)) <| c0) ?_
  refine Ad [] [0, 3, 4, 5] [] (hk 3 Jy (Jd (Ae l k)) <| hk0) v0 (cc 2 (p := (0 ≤ (k : Int) ∧ k < l.length)) (by first | omega | (simp; omega) | (simp; done) | (intros; simp_all; omega) | (intros; simp_all; done)) <| c0) ?_
  obtain ⟨b1, hb1⟩ : ∃ b, b = (!(Bp (Ae l k))) := ⟨_, rfl⟩
  obtain ⟨b2, hb2⟩ : ∃ b, b = (b1 && (!(Aj (Ae l k)))) := ⟨_, rfl⟩
  refine Ad (CS := [(4, (b1 = true → b1 = true)), (5, (b1 = true → b1 = true)), (9, (b2 = true → (b2 = true ∧ b2 = true) ∧ (0 ≤ (k : Int) ∧ k < l.length))), (10, b2 = true → b2 = true), (11, (b2 = true → b2 = true)), (12, (b2 = true → b2 = true))]) [23, 24, 27, 28, 29, 31] [0, 3, 32] [] (hkg 10 b2 Z1 (fun cg => inV (Ae l k) midL (by decide)) <| hk0) (vk 3 22 (a := .bool (!(Bp (Ae l k)))) (b := .bool b1) (Imp.of_eq (by rw [hb1])) <| vk 7 26 (a := .bool (b1 && (!(Aj (Ae l k))))) (b := .bool b2) (Imp.of_eq (by rw [hb2])) <| v0) (by refine cc _ ?_ <| cc _ ?_ <| cc _ ?_ <| cc _ ?_ <| cc _ ?_ <| cc _ ?_ c0 <;> first | omega | (simp; omega) | (simp; done) | (intros; simp_all; omega) | (intros; simp_all; done)) ?_
  refine A3 (q := b2 && (!(midL.contains (Ae l k)))) (by kernel_rfl) (fun c2 => ?_) (fun c2 => ?_)
  ·subst hb2 hb1
   try simp only [Bool.and_eq_true, Bool.or_eq_true, Bool.and_eq_false_iff, Bool.or_eq_false_iff, Bool.not_eq_true', Bool.not_eq_false', decide_eq_true_eq, decide_eq_false_iff_not] at c2
   refine Aa [] [2] ?_
   refine Af ?_
   refine RK wR [(.bool false)] ?_
   exact Same.of_eq (by simp only [Ah]; rw [Q1r (p := Fd) (k := k) (by omega) (by show (Aj _ || (Bp _ || _)) = false; simp_all)]; rfl)
  ·subst hb2 hb1
   try simp only [Bool.and_eq_true, Bool.or_eq_true, Bool.and_eq_false_iff, Bool.or_eq_false_iff, Bool.not_eq_true', Bool.not_eq_false', decide_eq_true_eq, decide_eq_false_iff_not] at c2
   refine Ag ?_
   refine Ar ?_
   refine Aw 0 [] [0, 3] [] hk0 v0 (cc 1 (p := (-9223372036854775808 ≤ (k : Int) + 1 ∧ (k : Int) + 1 ≤ 9223372036854775807)) (by first | omega | (simp; omega) | (simp; done) | (intros; simp_all; omega) | (intros; simp_all; done)) <| c0) ?_
   refine ⟨by kernel_rfl, _, ?_, k + 1, ?_, ?_, (by kernel_rfl), rfl⟩
   ·omega
   ·omega
   ·refine Q1p (by omega) f1_2 ?_
    show (Aj _ || (Bp _ || _)) = true; simp only [Bool.or_eq_true]; by_cases a1 : Aj (Ae l k) = true <;> by_cases a2 : Bp (Ae l k) = true <;> simp_all
 ·refine Bj ?_
  obtain ⟨b3, hb3⟩ : ∃ b, b = (decide (1 ≤ (l.length : Int))) := ⟨_, rfl⟩
  refine Ad (CS := [(5, (b3 = true → b3 = true)), (6, (b3 = true → b3 = true)), (7, (b3 = true → b3 = true))]) [37, 38, 39] [2] [] hk0 (vk 4 36 (a := .bool (decide (1 ≤ (l.length : Int)))) (b := .bool b3) (Imp.of_eq (by rw [hb3])) <| v0) (by refine cc _ ?_ <| cc _ ?_ <| cc _ ?_ c0 <;> first | omega | (simp; omega) | (simp; done) | (intros; simp_all; omega) | (intros; simp_all; done)) ?_
  refine Af ?_
  refine RK wR [(.bool (b3 && (decide ((l.length : Int) ≤ 60))))] ?_
  subst hb3
  have hall : l.all Fd = true := by rw [List.take_of_length_le (by omega)] at f1_2; exact f1_2
  exact Same.of_eq (by simp only [Ah]; rw [hall, show decide ((1 : Int) ≤ (l.length : Int)) = decide (1 ≤ l.length) from decide_eq_decide.2 (by omega), show decide ((l.length : Int) ≤ 60) = decide (l.length ≤ 60) from decide_eq_decide.2 (by omega)]; rfl)
set_option maxHeartbeats 400000 in
set_option maxRecDepth 100000 in
theorem Q5k (l : List UInt8) (hl : l.length ≤ 4611686018427387904) :
  FnV Tryz.prog 175 [(.str l)] (.bool (Fh l)) := by
 refine A1 [.tmp 2] Tryz.func175 rfl Tryz.ntmps175 rfl rfl (fun B F hF => ?_)
 refine Aa [] [0] ?_
 refine Ab ?_
 refine Aa [] [0, 3] ?_
 refine A0 ?_
 refine Bq (fun g y => ∃ (k : Nat), k ≤ l.length ∧ (l.take k).all Ho = true ∧ y = ⟨[(0, (.str l)), (3, (.int .i64 ((k : Int))))], [], 0⟩ ∧ g = l.length - k) [0, 3] 0 _ (by omega) ⟨0, (by omega), (by rfl), (by kernel_rfl), rfl⟩ ?_
 rintro g1 y1 ⟨k, f1_1, f1_2, rfl, rfl⟩
 refine Ab ?_
 refine Aa [] [0, 3, 8] ?_
 refine A2 (p := (k : Int) < (l.length : Int)) (by kernel_rfl) (fun c1 => ?_) (fun c1 => ?_)
 ·refine Ag ?_
  refine Ab ?_
  refine A0 ?_
  refine Ad [] [0, 3, 4] [] (hk 3 Jy (Jd (Ae l k)) <| hk0) v0 (cc 2 (p := (0 ≤ (k : Int) ∧ k < l.length)) (by first | omega | (simp; omega) | (simp; done) | (intros; simp_all; omega) | (intros; simp_all; done)) <| c0) ?_
  refine Aa [] [0, 3, 16] ?_
  refine A3 (q := !(Aj (Ae l k))) (by kernel_rfl) (fun c2 => ?_) (fun c2 => ?_)
  ·try simp only [Bool.and_eq_true, Bool.or_eq_true, Bool.and_eq_false_iff, Bool.or_eq_false_iff, Bool.not_eq_true', Bool.not_eq_false', decide_eq_true_eq, decide_eq_false_iff_not] at c2
   refine Aa [] [2] ?_
   refine Af ?_
   refine RK wR [(.bool false)] ?_
   exact Same.of_eq (by simp only [Ah]; unfold Fh; rw [Q1r (p := Ho) (k := k) (by omega) (by show Aj _ = false; simp_all)]; rfl)
  ·try simp only [Bool.and_eq_true, Bool.or_eq_true, Bool.and_eq_false_iff, Bool.or_eq_false_iff, Bool.not_eq_true', Bool.not_eq_false', decide_eq_true_eq, decide_eq_false_iff_not] at c2
   refine Ag ?_
   refine Ar ?_
   refine Aw 0 [] [0, 3] [] hk0 v0 (cc 1 (p := (-9223372036854775808 ≤ (k : Int) + 1 ∧ (k : Int) + 1 ≤ 9223372036854775807)) (by first | omega | (simp; omega) | (simp; done) | (intros; simp_all; omega) | (intros; simp_all; done)) <| c0) ?_
   refine ⟨by kernel_rfl, _, ?_, k + 1, ?_, ?_, (by kernel_rfl), rfl⟩
   ·omega
   ·omega
   ·refine Q1p (by omega) f1_2 ?_
    show Aj _ = true; simp_all
 ·refine Bj ?_
  obtain ⟨b1, hb1⟩ : ∃ b, b = (decide (1 ≤ (l.length : Int))) := ⟨_, rfl⟩
  refine Ad (CS := [(5, (b1 = true → b1 = true)), (6, (b1 = true → b1 = true)), (7, (b1 = true → b1 = true))]) [21, 22, 23] [2] [] hk0 (vk 4 20 (a := .bool (decide (1 ≤ (l.length : Int)))) (b := .bool b1) (Imp.of_eq (by rw [hb1])) <| v0) (by refine cc _ ?_ <| cc _ ?_ <| cc _ ?_ c0 <;> first | omega | (simp; omega) | (simp; done) | (intros; simp_all; omega) | (intros; simp_all; done)) ?_
  refine Af ?_
  refine RK wR [(.bool (b1 && (decide ((l.length : Int) ≤ 9))))] ?_
  subst hb1
  have hall : l.all Ho = true := by rw [List.take_of_length_le (by omega)] at f1_2; exact f1_2
  exact Same.of_eq (by simp only [Ah]; unfold Fh; rw [hall, show decide ((1 : Int) ≤ (l.length : Int)) = decide (1 ≤ l.length) from decide_eq_decide.2 (by omega), show decide ((l.length : Int) ≤ 9) = decide (l.length ≤ 9) from decide_eq_decide.2 (by omega)]; rfl)
set_option maxHeartbeats 1000000 in
set_option maxRecDepth 100000 in
theorem N1 (l : List UInt8) (hl : l.length ≤ 4611686018427387904) :
  FnV Tryz.prog 141 [(.str l)] (.tup [.agg [.str (B7 l).1, .str (B7 l).2.1, .str (B7 l).2.2], .int .i64 (Bz l)]) := by
 refine A1 [.cell 2 136, .tmp 3] Tryz.func141 rfl Tryz.ntmps141 rfl rfl (fun B F hF => ?_)
 refine Aa [] [0, 2] ?_
 refine Ad [] [0, 2, 4] [] (hk 1 X0q (Q43 l hl) <| hk0) v0 c0 ?_
 refine Ab ?_
 refine Aa [] [0, 2, 12] ?_
 refine A3 (q := !(Hf l)) (by kernel_rfl) (fun c1 => ?_) (fun c1 => ?_)
 ·try simp only [Bool.and_eq_true, Bool.or_eq_true, Bool.and_eq_false_iff, Bool.or_eq_false_iff, Bool.not_eq_true', Bool.not_eq_false', decide_eq_true_eq, decide_eq_false_iff_not] at c1
  refine Aa [] [2, 3] ?_
  refine Af ?_
  refine RK wR [(.agg [(.str []), (.str []), (.str [])]), (.int .i64 30)] ?_
  refine Same.of_eq ?_
  simp only [Ah]
  have h0 : Bz l = 30 := Y7 (by simpa using c1)
  have h1 : B7 l = ([], [], []) := Gc h0.symm
  rw [h0, h1]
 ·try simp only [Bool.and_eq_true, Bool.or_eq_true, Bool.and_eq_false_iff, Bool.or_eq_false_iff, Bool.not_eq_true', Bool.not_eq_false', decide_eq_true_eq, decide_eq_false_iff_not] at c1
  have hh : Hf l = true := by simpa using c1
  refine Ag ?_
  refine Aa [] [0, 2, 5] ?_
  refine Da (fun y => ∃ (r : List UInt8) (ep : List UInt8), r = (if 0 ≤ Lib.indexByte l 58 then l.drop ((Lib.indexByte l 58).toNat + 1) else l) ∧ ep = (if 0 ≤ Lib.indexByte l 58 then l.take (Lib.indexByte l 58).toNat else []) ∧ (0 ≤ Lib.indexByte l 58 → Fh (l.take (Lib.indexByte l 58).toNat) = true) ∧ y = ⟨[(0, (.str r)), (2, (.ptr 0 0)), (5, (.ptr 1 0))], [(0, (.row [(.str []), (.str []), (.str [])] 136)), (1, (.row [(.str ep), (.str []), (.str [])] 136))], 2⟩) [0, 2, 5] 2 (by omega) ?_ ?_
  ·refine Aa [] [0, 2, 5, 6] ?_
   refine A0 ?_
   refine Bq (fun g y => ∃ (i : Nat), i ≤ l.length ∧ Ht l 58 i ∧ y = ⟨[(0, (.str l)), (2, (.ptr 0 0)), (5, (.ptr 1 0)), (6, (.int .i64 ((i : Int))))], [(0, (.row [(.str []), (.str []), (.str [])] 136)), (1, (.row [(.str []), (.str []), (.str [])] 136))], 2⟩ ∧ g = l.length - i) [0, 2, 5, 6] 2 _ (by omega) ⟨0, (by omega), (by exact Q8j l 58), (by kernel_rfl), rfl⟩ ?_
   rintro g1 y1 ⟨i, f1_1, f1_2, rfl, rfl⟩
   refine Ab ?_
   refine Aa [] [0, 2, 5, 6, 17] ?_
   refine A2 (p := (i : Int) < (l.length : Int)) (by kernel_rfl) (fun c2 => ?_) (fun c2 => ?_)
   ·refine Ag ?_
    refine Ab ?_
    refine A0 ?_
    refine Ab ?_
    refine Ad [] [0, 2, 5, 6, 23] [] hk0 v0 (cc 2 (p := (0 ≤ (i : Int) ∧ i < l.length)) (by first | omega | (simp; omega) | (simp; done) | (intros; simp_all; omega) | (intros; simp_all; done)) <| c0) ?_
    refine Cm (p := ((Ae l i).toNat : Int) = 58) (by kernel_rfl) (fun c3 => ?_) (fun c3 => ?_)
    ·refine Bj ?_
     refine Ar ?_
     refine Aw 0 [] [0, 2, 5, 6] [] hk0 v0 (cc 1 (p := (-9223372036854775808 ≤ (i : Int) + 1 ∧ (i : Int) + 1 ≤ 9223372036854775807)) (by first | omega | (simp; omega) | (simp; done) | (intros; simp_all; omega) | (intros; simp_all; done)) <| c0) ?_
     refine ⟨by kernel_rfl, _, ?_, i + 1, ?_, ?_, (by kernel_rfl), rfl⟩
     ·omega
     ·omega
     ·exact Q8i f1_2 (by omega) (fun e => by rw [e] at c3; simp at c3)
    ·refine Ag ?_
     refine Ad [] [0, 2, 5, 6, 7] [] (hk 3 X0p (Q5k ((l.take i).drop 0) (by simp; omega)) <| hk0) v0 (cc 2 (p := (0 ≤ (0 : Int) ∧ (0 : Int) ≤ (i : Int) ∧ (i : Int) ≤ (l.length : Int))) (by first | omega | (simp; omega) | (simp; done) | (intros; simp_all; omega) | (intros; simp_all; done)) <| c0) ?_
     refine Ab ?_
     refine Aa [] [0, 2, 5, 6, 29] ?_
     refine A3 (q := !(Fh ((l.take i).drop 0))) (by kernel_rfl) (fun c4 => ?_) (fun c4 => ?_)
     ·try simp only [Bool.and_eq_true, Bool.or_eq_true, Bool.and_eq_false_iff, Bool.or_eq_false_iff, Bool.not_eq_true', Bool.not_eq_false', decide_eq_true_eq, decide_eq_false_iff_not] at c4
      refine Aa [] [2, 3] ?_
      refine Af ?_
      refine RK wR [(.agg [(.str []), (.str []), (.str [])]), (.int .i64 30)] ?_
      refine Same.of_eq ?_
      simp only [Ah]
      have h0 : Bz l = 30 := Q9k (Ya f1_2 (by omega) (UInt8.toNat_inj.1 (by show _ = 58; omega))) (by simpa using c4)
      have h1 : B7 l = ([], [], []) := Gc h0.symm
      rw [h0, h1]
     ·try simp only [Bool.and_eq_true, Bool.or_eq_true, Bool.and_eq_false_iff, Bool.or_eq_false_iff, Bool.not_eq_true', Bool.not_eq_false', decide_eq_true_eq, decide_eq_false_iff_not] at c4
      refine Ag ?_
      refine Ad [] [0, 2, 5, 6] [] hk0 v0 (cc 2 (p := (0 ≤ (0 : Int) ∧ (0 : Int) ≤ (i : Int) ∧ (i : Int) ≤ (l.length : Int))) (by first | omega | (simp; omega) | (simp; done) | (intros; simp_all; omega) | (intros; simp_all; done)) <| c0) ?_
      refine Ad (CS := [(2, (-9223372036854775808 ≤ (i : Int) + 1 ∧ (i : Int) + 1 ≤ 9223372036854775807)), (3, (0 ≤ (i : Int) + 1 ∧ (i : Int) + 1 ≤ (l.length : Int) ∧ (l.length : Int) ≤ (l.length : Int)))]) [] [0, 2, 5] [] hk0 v0 (by refine cc _ ?_ <| cc _ ?_ c0 <;> first | omega | (simp; omega) | (simp; done) | (intros; simp_all; omega) | (intros; simp_all; done)) ?_
      refine Bj ?_
      refine ⟨by kernel_rfl, ((l.take l.length).drop (i + 1)), ((l.take i).drop 0), ?_, ?_, ?_, (by kernel_rfl)⟩
      all_goals have hz : Lib.indexByte l 58 = (i : Int) := Ya f1_2 (by omega) (UInt8.toNat_inj.1 (by show _ = 58; omega))
      all_goals rw [hz]
      ·rw [if_pos (by omega), List.take_length, Int.toNat_natCast]; try (congr 1; omega)
      ·rw [if_pos (by omega), Int.toNat_natCast]; simp
      ·intro _; rw [Int.toNat_natCast]; simpa using c4
   ·refine Bj ?_
    refine ⟨by kernel_rfl, l, [], ?_, ?_, ?_, (by kernel_rfl)⟩
    all_goals have hz : Lib.indexByte l 58 = -1 := Q8k f1_2 (by omega)
    all_goals rw [hz]
    ·rw [if_neg (by omega)]
    ·rw [if_neg (by omega)]
    ·intro h; exact absurd h (by omega)
  ·rintro y1 ⟨r, ep, hr, hep, hdg, rfl⟩
   have hrl : r.length ≤ l.length := by rw [hr]; split <;> simp
   refine Aa [] [0, 2, 5] ?_
   refine Da (fun y => ∃ (v : List UInt8) (rl : List UInt8), v = (if 0 ≤ Br r 45 r.length then r.take (Br r 45 r.length).toNat else r) ∧ rl = (if 0 ≤ Br r 45 r.length then r.drop ((Br r 45 r.length).toNat + 1) else []) ∧ (0 ≤ Br r 45 r.length → ¬ rl = []) ∧ y = ⟨[(0, (.str r)), (2, (.ptr 0 0)), (5, (.ptr 1 0))], [(0, (.row [(.str []), (.str []), (.str [])] 136)), (1, (.row [(.str ep), (.str v), (.str rl)] 136))], 2⟩) [0, 2, 5] 2 (by omega) ?_ ?_
   ·refine Ad [] [0, 2, 5, 8] [] hk0 v0 (cc 2 (p := (-9223372036854775808 ≤ (r.length : Int) - 1 ∧ (r.length : Int) - 1 ≤ 9223372036854775807)) (by first | omega | (simp; omega) | (simp; done) | (intros; simp_all; omega) | (intros; simp_all; done)) <| c0) ?_
    refine A0 ?_
    refine Bq (fun g y => ∃ (k : Nat), k ≤ r.length ∧ Br r 45 r.length = Br r 45 k ∧ y = ⟨[(0, (.str r)), (2, (.ptr 0 0)), (5, (.ptr 1 0)), (8, (.int .i64 ((k : Int) - 1)))], [(0, (.row [(.str []), (.str []), (.str [])] 136)), (1, (.row [(.str ep), (.str r), (.str [])] 136))], 2⟩ ∧ g = k + 1) [0, 2, 5, 8] 2 _ (by omega) ⟨r.length, (by omega), (by rfl), (by kernel_rfl), rfl⟩ ?_
    rintro g2 y2 ⟨k, f2_1, f2_2, rfl, rfl⟩
    refine Ab ?_
    refine Aa [] [0, 2, 5, 8, 45] ?_
    refine A2 (p := 0 ≤ ((k : Int) - 1)) (by kernel_rfl) (fun c5 => ?_) (fun c5 => ?_)
    ·refine Ag ?_
     refine Ab ?_
     refine A0 ?_
     refine Ad [] [0, 2, 5, 8, 51] [] hk0 v0 (cc 2 (p := (0 ≤ (k : Int) - 1 ∧ ((k : Int) - 1).toNat < r.length)) (by first | omega | (simp; omega) | (simp; done) | (intros; simp_all; omega) | (intros; simp_all; done)) <| c0) ?_
     refine A2 (p := ((Ae r (((k : Int) - 1).toNat)).toNat : Int) = 45) (by kernel_rfl) (fun c6 => ?_) (fun c6 => ?_)
     ·have hk1 : ((k : Int) - 1).toNat = k - 1 := by omega
      rw [hk1] at c6
      refine Ad [] [0, 2, 5, 8] [] hk0 v0 (cc 2 (p := (0 ≤ (0 : Int) ∧ (0 : Int) ≤ (k : Int) - 1 ∧ (k : Int) - 1 ≤ (r.length : Int))) (by first | omega | (simp; omega) | (simp; done) | (intros; simp_all; omega) | (intros; simp_all; done)) <| c0) ?_
      refine Ad (CS := [(2, (-9223372036854775808 ≤ ((k : Int) - 1) + 1 ∧ ((k : Int) - 1) + 1 ≤ 9223372036854775807)), (3, (0 ≤ ((k : Int) - 1) + 1 ∧ ((k : Int) - 1) + 1 ≤ (r.length : Int) ∧ (r.length : Int) ≤ (r.length : Int)))]) [] [0, 2, 5] [] hk0 v0 (by refine cc _ ?_ <| cc _ ?_ c0 <;> first | omega | (simp; omega) | (simp; done) | (intros; simp_all; omega) | (intros; simp_all; done)) ?_
      refine Ab ?_
      refine Aa [] [0, 2, 5, 63] ?_
      refine A2 (p := (r.take r.length).drop ((((k : Int) - 1) + 1).toNat) = []) (by kernel_rfl) (fun c7 => ?_) (fun c7 => ?_)
      ·refine Aa [] [2, 3] ?_
       refine Af ?_
       refine RK wR [(.agg [(.str []), (.str []), (.str [])]), (.int .i64 30)] ?_
       refine Same.of_eq ?_
       simp only [Ah]
       have h0 : Bz l = 30 := by
        have hy : Br r 45 r.length = ((k - 1 : Nat) : Int) := by rw [f2_2, Mg (by omega), if_pos (UInt8.toNat_inj.1 (by show _ = 45; omega))]
        exact Y4 hh hr hdg (by omega) (by rw [hy, Int.toNat_natCast, ← c7]; simp; congr 1; omega)
       have h1 : B7 l = ([], [], []) := Gc h0.symm
       rw [h0, h1]
      ·refine Ag ?_
       refine Bj ?_
       refine ⟨by kernel_rfl, ((r.take (((k : Int) - 1).toNat)).drop 0), ((r.take r.length).drop ((((k : Int) - 1) + 1).toNat)), ?_, ?_, ?_, (by kernel_rfl)⟩
       all_goals have hy : Br r 45 r.length = ((k - 1 : Nat) : Int) := by rw [f2_2, Mg (by omega), if_pos (UInt8.toNat_inj.1 (by show _ = 45; omega))]
       all_goals rw [hy]
       ·rw [if_pos (by omega), Int.toNat_natCast]; simp; try (congr 1; omega)
       ·rw [if_pos (by omega), Int.toNat_natCast]; simp; try (congr 1; omega)
       ·exact fun _ => c7
     ·have hk1 : ((k : Int) - 1).toNat = k - 1 := by omega
      rw [hk1] at c6
      refine Ag ?_
      refine Ar ?_
      refine Aw 0 [] [0, 2, 5, 8] [] hk0 v0 (cc 1 (p := (-9223372036854775808 ≤ ((k : Int) - 1) - 1 ∧ ((k : Int) - 1) - 1 ≤ 9223372036854775807)) (by first | omega | (simp; omega) | (simp; done) | (intros; simp_all; omega) | (intros; simp_all; done)) <| c0) ?_
      refine ⟨by kernel_rfl, _, ?_, (k - 1), ?_, ?_, (Eq.trans (b := (⟨[(0, (.str r)), (2, (.ptr 0 0)), (5, (.ptr 1 0)), (8, (.int .i64 (((k : Int) - 1) - 1)))], [(0, (.row [(.str []), (.str []), (.str [])] 136)), (1, (.row [(.str ep), (.str r), (.str [])] 136))], 2⟩ : St)) (by kernel_rfl) (by rw [show (k : Int) - 1 - 1 = ((k - 1 : Nat) : Int) - 1 from by omega])), rfl⟩
      ·omega
      ·omega
      ·rw [f2_2, Mg (by omega), if_neg (fun e => c6 (by rw [e]; rfl))]
    ·refine Bj ?_
     refine ⟨by kernel_rfl, r, [], ?_, ?_, ?_, (by kernel_rfl)⟩
     all_goals have hy : Br r 45 r.length = -1 := by rw [f2_2, show k = 0 by omega]; rfl
     all_goals rw [hy]
     ·rw [if_neg (by omega)]
     ·rw [if_neg (by omega)]
     ·intro h; exact absurd h (by omega)
   ·rintro y2 ⟨v, rl, hv, hrr, hnn, rfl⟩
    refine Ab ?_
    obtain ⟨b1, hb1⟩ : ∃ b, b = (decide (v = [])) := ⟨_, rfl⟩
    refine Ad (CS := [(5, (!b1) = true → (!b1) = true), (6, (b1 = false → (!b1) = true))]) [69] [2, 5, 71] [] (hkg 5 (!b1) Z1 (fun cg => inV 58 r (by omega)) <| hk0) (vk 4 68 (a := .bool (decide (v = []))) (b := .bool b1) (Imp.of_eq (by rw [hb1])) <| v0) (by refine cc _ ?_ <| cc _ ?_ c0 <;> first | omega | (simp; omega) | (simp; done) | (intros; simp_all; omega) | (intros; simp_all; done)) ?_
    refine A3 (q := b1 || (r.contains 58)) (by kernel_rfl) (fun c8 => ?_) (fun c8 => ?_)
    ·subst hb1
     try simp only [Bool.and_eq_true, Bool.or_eq_true, Bool.and_eq_false_iff, Bool.or_eq_false_iff, Bool.not_eq_true', Bool.not_eq_false', decide_eq_true_eq, decide_eq_false_iff_not] at c8
     refine Aa [] [2, 3] ?_
     refine Af ?_
     refine RK wR [(.agg [(.str []), (.str []), (.str [])]), (.int .i64 30)] ?_
     refine Same.of_eq ?_
     simp only [Ah]
     have h0 : Bz l = 30 := by rw [(O5 hh hr hep hdg hv hrr hnn).1, if_pos (by simpa using c8)]
     have h1 : B7 l = ([], [], []) := Gc h0.symm
     rw [h0, h1]
    ·subst hb1
     try simp only [Bool.and_eq_true, Bool.or_eq_true, Bool.and_eq_false_iff, Bool.or_eq_false_iff, Bool.not_eq_true', Bool.not_eq_false', decide_eq_true_eq, decide_eq_false_iff_not] at c8
     refine Ag ?_
     refine Aa [] [2, 3] ?_
     refine Af ?_
     refine RK wR [(.agg [(.str ep), (.str v), (.str rl)]), (.int .i64 0)] ?_
     have hf := O5 hh hr hep hdg hv hrr hnn
     have h0 : Bz l = 0 := by rw [hf.1, if_neg (by simpa using c8)]
     exact Same.of_eq (by simp only [Ah]; rw [Y5 h0.symm, hf.2, h0])
end Sv
end Go.Proofs.YtlfjokcbkopfeaaGreatDoor
end
section
namespace Go.Proofs.YtlfjokcbkopfeaaGreatDoor
open Go Go.RowKit
set_option linter.unusedSimpArgs false
set_option linter.unusedVariables false
structure PkgT where
  name : List UInt8
  evr : List UInt8
  arch : List UInt8
  vendor : List UInt8
  provides : List DepT
  requires : List DepT
  pre : List DepT
  conflicts : List DepT
  obsoletes : List DepT
  recommends : List DepT
  supplements : List DepT
  files : List (List UInt8)
  deriving Inhabited
structure RepoT where
  name : List UInt8
  prio : Int
  inst : Bool
  pkgs : List PkgT
  deriving Inhabited
def PkgT.depSize (p : PkgT) : Nat := argsSize p.provides + argsSize p.requires + argsSize p.pre + argsSize p.conflicts + argsSize p.obsoletes + argsSize p.recommends + argsSize p.supplements
def Gb : List (List UInt8) → Nat
  | [] => 0
  | x :: r => 1 + x.length + Gb r
theorem Jw : ∀ l : List (List UInt8), l.length ≤ Gb l
  | [] => Nat.zero_le _
  | x :: r => by have := Jw r; simp only [Gb, List.length_cons]; omega
theorem Sc : ∀ {l : List (List UInt8)} {i : Nat}, i < l.length → (nth l i).length ≤ Gb l
  | [], _, h => by simp at h
  | x :: r, 0, _ => by simp only [Gb]; show x.length ≤ _; omega
  | x :: r, i + 1, h => by
    have := Sc (l := r) (i := i) (by simpa using h)
    simp only [Gb]; show (nth r i).length ≤ _; omega
def PkgT.size (p : PkgT) : Nat := 1 + p.name.length + p.evr.length + p.arch.length + p.vendor.length + p.depSize + Gb p.files
theorem PkgT.sizes (p : PkgT) : p.name.length ≤ p.size ∧ p.evr.length ≤ p.size ∧ p.arch.length ≤ p.size ∧ p.vendor.length ≤ p.size ∧ p.depSize ≤ p.size ∧ Gb p.files ≤ p.size := by
  unfold PkgT.size; omega
namespace Sv
noncomputable def Aq (p : PkgT) : AV := .agg [.str p.name, .str p.evr, .str p.arch, .str p.vendor, Dj p.provides, Dj p.requires, Dj p.pre, Dj p.conflicts, Dj p.obsoletes, Dj p.recommends, Dj p.supplements, Ct p.files]
noncomputable def Bd (r : RepoT) : AV := .agg [.str r.name, .int .i64 r.prio, .bool r.inst, Ai 12 Aq r.pkgs]
theorem Q4a {α β : Type} [Inhabited α] (f : α → β) (l : List α) (i : Nat) : (l.map f).set i (f (nth l i)) = l.map f := by
  refine List.ext_getElem? fun j => ?_
  rw [List.getElem?_set]
  by_cases h : i = j
  · subst h
    by_cases hi : i < l.length
    · simp [hi, nth]
    · rw [if_pos rfl, if_neg (by simpa using hi), List.getElem?_eq_none (by simpa using hi)]
  · rw [if_neg h]
theorem Oy {α β : Type} [Inhabited α] (f : α → β) {l : List α} {i : Nat} (h : i < l.length) : (l.map f)[i]? = some (f (nth l i)) := by simp [nth, h]
theorem I7 (d : DepT) : argsSize d.args + 1 + d.name.length + d.evr.length = d.size := by cases d; simp only [DepT.size, DepT.args, DepT.name, DepT.evr]
theorem Ew : ∀ l : List DepT, l.length ≤ argsSize l
  | [] => Nat.zero_le _
  | d :: r => by
    have := Ew r
    have : 1 ≤ d.size := by cases d; simp only [DepT.size]; omega
    simp only [argsSize, List.length_cons]; omega
theorem Q1e {l : List DepT} {i : Nat} (h : i < l.length) : argsSize (nth l i).args < argsSize l := by
  have h1 := My (l := l) (i := i) h
  have h2 := I7 (nth l i)
  omega
theorem Q5 {α β : Type} [Inhabited α] {l : List α} (f : α → β) : (List.range l.length).map (fun k => f (nth l k)) = l.map f := by
  refine List.ext_getElem (by simp) fun j h1 h2 => ?_
  simp only [List.length_map, List.length_range] at h1
  simp [nth, h1]
theorem Q6g {α : Type} [Inhabited α] (f : α → AV) (l : List α) : ([] : List AV) ++ (List.range l.length).map (fun k => f (nth l k)) = l.map f := by rw [List.nil_append, Q5]
end Sv
end Go.Proofs.YtlfjokcbkopfeaaGreatDoor
end
section
namespace Go.Proofs.YtlfjokcbkopfeaaGreatDoor
open Go Go.RowKit
namespace Sv
attribute [local irreducible] SW SO Bg
def Cj {α : Type} (p : α → Bool) : List α → Int
 | [] => -1
 | x :: r => if p x then 0 else if Cj p r < 0 then -1 else Cj p r + 1
theorem Ow {α : Type} (p : α → Bool) : ∀ l : List α, -1 ≤ Cj p l ∧ Cj p l < l.length
 | [] => by simp [Cj]
 | x :: r => by
  have := Ow p r
  unfold Cj
  simp only [List.length_cons]
  split
  ·omega
  ·split <;> omega
theorem Js {α : Type} [Inhabited α] {p : α → Bool} : ∀ {l : List α} {i : Nat}, i < l.length → (∀ j, j < i → p (nth l j) = false) → p (nth l i) = true → Cj p l = (i : Int)
 | [], _, h, _, _ => by simp at h
 | x :: r, 0, _, _, h => by
  have : p x = true := h
  simp [Cj, this]
 | x :: r, i + 1, hi, h, hp => by
  have h0 : p x = false := h 0 (by omega)
  have := Js (l := r) (i := i) (by simpa using hi) (fun j hj => h (j + 1) (by omega)) hp
  unfold Cj
  rw [if_neg (by simp [h0]), this, if_neg (by omega)]; omega
theorem Jr {α : Type} [Inhabited α] {p : α → Bool} : ∀ {l : List α}, (∀ j, j < l.length → p (nth l j) = false) → Cj p l = -1
 | [], _ => rfl
 | x :: r, h => by
  have h0 : p x = false := h 0 (by simp)
  have := Jr (l := r) (fun j hj => h (j + 1) (by simpa using hj))
  unfold Cj
  rw [if_neg (by simp [h0]), this]; rfl
theorem K2 {α : Type} (p : α → Bool) : ∀ l : List α, decide (0 ≤ Cj p l) = l.any p
 | [] => rfl
 | x :: r => by
  have := K2 p r
  unfold Cj
  rw [List.any_cons, ← this]
  split
  ·rename_i h; simp [h]
  ·rename_i h
   have h' : p x = false := by simpa using h
   rw [h', Bool.false_or]
   split
   ·rename_i h2; rw [decide_eq_false (by omega), decide_eq_false (by omega)]
   ·rename_i h2; rw [decide_eq_true (by omega), decide_eq_true (by omega)]
theorem O0 {d : DepT} (h : d.kind = 1) : Db d = Hj d.name d.op d.evr d.args.length := by cases d; unfold Db; exact if_pos h
theorem Jv {d : DepT} (h : ¬ d.kind = 1) : Db d = (!Gv d.kind d.name d.op d.evr d.args.length && argsForm d.kind d.args) := by cases d; unfold Db; exact if_neg h
theorem Q6e {d : DepT} (h : d.kind = 1) : D3 d = 1 := by cases d; unfold D3; exact if_pos h
theorem Q6f {d : DepT} (h : ¬ d.kind = 1) : D3 d = argsParts d.args := by cases d; unfold D3; exact if_neg h
theorem Q7e (d : DepT) : Eg d = (if d.kind = 1 then 1 else 0) + argsNames d.args := by cases d; unfold Eg; rfl
theorem Q7m (k : Int) : (Bo [((4 : Int), (3 : Int)), (6, 2)] k).getD 0 = Eh k := by
 have := Q7l k
 have e : Du (Du ([] : List (Int × Int)) 4 3) 6 2 = [(4, 3), (6, 2)] := rfl
 rw [e] at this
 cases h : Bo [((4 : Int), (3 : Int)), (6, 2)] k <;> simp_all
set_option maxHeartbeats 400000 in
set_option maxRecDepth 100000 in
theorem X1t (l : List DepT) (a : AV) (p : DepT → Bool) (hl : l.length ≤ 4611686018427387904) (ha : ∀ i, i < l.length → FunV Tryz.prog a [(.agg [(.int .i64 ((nth l i).kind)), (.str ((nth l i).name)), (.int .i64 ((nth l i).op)), (.str ((nth l i).evr)), (.row 5 (nth l i).args.length (depAt (nth l i).args))])] (.bool (p (nth l i)))) :
  FnV Tryz.prog 132 [(Ai 5 A9 l), (.clo a)] (.int .i64 (Cj p l)) := by
 refine A1 [.tmp 4] Tryz.func132 rfl Tryz.ntmps132 rfl rfl (fun B F hF => ?_)
 refine Aa [] [0, 1] ?_
 refine Ab ?_
 refine Aa [] [0, 1, 7, 8] ?_
 refine A0 ?_
 refine Bq (fun g y => ∃ (i : Nat), i ≤ l.length ∧ (∀ j, j < i → p (nth l j) = false) ∧ y = ⟨[(0, (Ai 5 A9 l)), (1, (.clo a)), (7, (.int .i64 ((l.length : Int)))), (8, (.int .i64 ((i : Int))))], [], 0⟩ ∧ g = l.length - i) [0, 1, 7, 8] 0 _ (by omega) ⟨0, (by omega), (by exact fun j hj => by omega), (by kernel_rfl), rfl⟩ ?_
 rintro g1 y1 ⟨i, f1_1, f1_2, rfl, rfl⟩
 refine Aa [] [0, 1, 7, 8, 9] ?_
 refine Ab ?_
 refine A2 (p := (i : Int) < (l.length : Int)) (by kernel_rfl) (fun c1 => ?_) (fun c1 => ?_)
 ·refine Ag ?_
  refine Ab ?_
  refine A0 ?_
  refine Aa [] [0, 1, 5, 7, 8] ?_
  refine Ab ?_
  refine Ar ?_
  refine Bv 5 0 [] [0, 1, 5, 7, 8, 11, 15] [] hk0 v0 (cc 3 (p := (0 ≤ (i : Int) ∧ i < l.length)) (by first | omega | (simp; omega) | (simp; done) | (intros; simp_all; omega) | (intros; simp_all; done)) <| c0) ?_
  refine G3 (s' := [(0, (Ai 5 A9 l)), (1, (.clo a)), (5, (.int .i64 ((i : Int)))), (7, (.int .i64 ((l.length : Int)))), (8, (.int .i64 ((i : Int)))), (11, (.clo a)), (15, (.agg [(.int .i64 ((nth l i).kind)), (.str ((nth l i).name)), (.int .i64 ((nth l i).op)), (.str ((nth l i).evr)), (.row 5 (nth l i).args.length (depAt (nth l i).args))])), (16, (.bool (p (nth l i))))]) (a := (.clo a)) (al := [(.agg [(.int .i64 ((nth l i).kind)), (.str ((nth l i).name)), (.int .i64 ((nth l i).op)), (.str ((nth l i).evr)), (.row 5 (nth l i).args.length (depAt (nth l i).args))])]) (r := (.bool (p (nth l i)))) (by kernel_rfl) (by kernel_rfl) (by kernel_rfl) (by kernel_rfl) (by kernel_rfl) ((ha i (by omega)).clo) (by kernel_rfl) ?_
  refine B2 ?_
  refine A3 (q := p (nth l i)) (by kernel_rfl) (fun c2 => ?_) (fun c2 => ?_)
  ·try simp only [Bool.and_eq_true, Bool.or_eq_true, Bool.and_eq_false_iff, Bool.or_eq_false_iff, Bool.not_eq_true', Bool.not_eq_false', decide_eq_true_eq, decide_eq_false_iff_not] at c2
   refine Aa [] [4] ?_
   refine Af ?_
   refine RK wR [(.int .i64 ((i : Int)))] ?_
   exact Same.of_eq (by rw [Js (by omega) f1_2 (by simp_all)]; rfl)
  ·try simp only [Bool.and_eq_true, Bool.or_eq_true, Bool.and_eq_false_iff, Bool.or_eq_false_iff, Bool.not_eq_true', Bool.not_eq_false', decide_eq_true_eq, decide_eq_false_iff_not] at c2
   refine Ag ?_
   refine Ar ?_
   refine Aw 0 [] [0, 1, 7, 8] [] hk0 v0 (cc 0 (p := (-9223372036854775808 ≤ (i : Int) + 1 ∧ (i : Int) + 1 ≤ 9223372036854775807)) (by first | omega | (simp; omega) | (simp; done) | (intros; simp_all; omega) | (intros; simp_all; done)) <| c0) ?_
   refine ⟨by kernel_rfl, _, ?_, i + 1, ?_, ?_, (by kernel_rfl), rfl⟩
   ·omega
   ·omega
   ·intro j hj
    by_cases h : j = i
    ·subst h; simp_all
    ·exact f1_2 j (by omega)
 ·refine Bj ?_
  refine Aa [] [4] ?_
  refine Af ?_
  refine RK wR [(.int .i64 (-1))] ?_
  exact Same.of_eq (by rw [Jr (fun j hj => f1_2 j (by omega))]; rfl)
set_option maxHeartbeats 400000 in
set_option maxRecDepth 100000 in
theorem Q0m (l : List DepT) (a : AV) (p : DepT → Bool) (hl : l.length ≤ 4611686018427387904) (ha : ∀ i, i < l.length → FunV Tryz.prog a [(.agg [(.int .i64 ((nth l i).kind)), (.str ((nth l i).name)), (.int .i64 ((nth l i).op)), (.str ((nth l i).evr)), (.row 5 (nth l i).args.length (depAt (nth l i).args))])] (.bool (p (nth l i)))) :
  FnV Tryz.prog 83 [(Ai 5 A9 l), (.clo a)] (.bool (l.any p)) := by
 refine A1 [.tmp 4] Tryz.func83 rfl Tryz.ntmps83 rfl rfl (fun B F hF => ?_)
 refine Aa [] [0, 1] ?_
 refine Ad [] [4] [] (hk 2 X1a (X1t l a p hl ha) <| hk0) v0 c0 ?_
 refine Af ?_
 refine RK wR [(.bool (decide (0 ≤ (Cj p l))))] ?_
 exact Same.of_eq (by simp only [Ah]; rw [K2])
set_option maxHeartbeats 400000 in
set_option maxRecDepth 100000 in
theorem Q80 (a d : DepT) (ih : FnV Tryz.prog 66 [A9 a] (.bool (Db a))) :
  FnV Tryz.prog 124 [(.agg [(.int .i64 a.kind), (.str a.name), (.int .i64 a.op), (.str a.evr), (.row 5 a.args.length (depAt a.args))]), (.fp (.agg [(.int .i64 d.kind), (.str d.name), (.int .i64 d.op), (.str d.evr), (.row 5 d.args.length (depAt d.args))]))] (.bool (K7 d.kind a)) := by
 refine A1 [.tmp 3] Tryz.func124 rfl Tryz.ntmps124 rfl rfl (fun B F hF => ?_)
 refine Ad [] [1, 2] [(1, 2)] hk0 v0 c0 ?_
 obtain ⟨b1, hb1⟩ : ∃ b, b = (decide (a.kind = 1)) := ⟨_, rfl⟩
 obtain ⟨b2, hb2⟩ : ∃ b, b = (b1 || (decide (a.kind = 5))) := ⟨_, rfl⟩
 refine Ad (CS := [(5, ((!b1) = true → (!b1) = true)), (6, ((!b1) = true → (!b1) = true)), (7, (b1 = false → (!b1) = true)), (10, ((!b2) = true → (!b2) = true)), (11, ((!b2) = true → (!b2) = true)), (12, (b2 = false → (!b2) = true))]) [9, 10, 11, 14, 15, 16] [1, 2, 4] [] hk0 (vk 4 8 (a := .bool (decide (a.kind = 1))) (b := .bool b1) (Imp.of_eq (by rw [hb1])) <| vk 9 13 (a := .bool (b1 || (decide (a.kind = 5)))) (b := .bool b2) (Imp.of_eq (by rw [hb2])) <| v0) (by refine cc _ ?_ <| cc _ ?_ <| cc _ ?_ <| cc _ ?_ <| cc _ ?_ <| cc _ ?_ c0 <;> first | omega | (simp; omega) | (simp; done) | (intros; simp_all; omega) | (intros; simp_all; done)) ?_
 obtain ⟨b3, hb3⟩ : ∃ b, b = (decide (5 ≤ d.kind)) := ⟨_, rfl⟩
 obtain ⟨b4, hb4⟩ : ∃ b, b = (b3 && (!(b2 || (decide (a.kind = 6))))) := ⟨_, rfl⟩
 refine Ad (CS := [(5, (b3 = true → b3 = true)), (6, (b3 = true → b3 = true)), (9, (!b4) = true → (!b4) = true), (10, ((!b4) = true → (!b4) = true)), (11, (b4 = false → (!b4) = true))]) [22, 23, 26, 28] [3] [] (hkg 9 (!b4) Zg (fun cg => ih) <| hk0) (vk 4 21 (a := .bool (decide (5 ≤ d.kind))) (b := .bool b3) (Imp.of_eq (by rw [hb3])) <| vk 8 25 (a := .bool (b3 && (!(b2 || (decide (a.kind = 6)))))) (b := .bool b4) (Imp.of_eq (by rw [hb4])) <| v0) (by refine cc _ ?_ <| cc _ ?_ <| cc _ ?_ <| cc _ ?_ <| cc _ ?_ c0 <;> first | omega | (simp; omega) | (simp; done) | (intros; simp_all; omega) | (intros; simp_all; done)) ?_
 refine Af ?_
 refine RK wR [(.bool (b4 || (!(Db a))))] ?_
 subst hb4 hb3 hb2 hb1
 refine Same.of_eq ?_
 simp only [Ah]
 congr 1
 unfold K7 H2
 rw [Bool.eq_iff_iff]
 simp only [Bool.and_eq_true, Bool.or_eq_true, Bool.not_eq_true', Bool.and_eq_false_iff, Bool.or_eq_false_iff, decide_eq_true_eq, decide_eq_false_iff_not]
 cases Db a <;> simp <;> omega
set_option maxHeartbeats 1000000 in
set_option maxRecDepth 100000 in
theorem Q82 (d : DepT) (hs : d.size ≤ 4194304) (ih : ∀ i, i < d.args.length → FnV Tryz.prog 66 [A9 (nth d.args i)] (.bool (Db (nth d.args i)))) :
  FnV Tryz.prog 66 [(.agg [(.int .i64 d.kind), (.str d.name), (.int .i64 d.op), (.str d.evr), (.row 5 d.args.length (depAt d.args))])] (.bool (Db d)) := by
 have hda := I7 d
 have hal := Ew d.args
 refine A1 [.tmp 2] Tryz.func66 rfl Tryz.ntmps66 rfl rfl (fun B F hF => ?_)
 refine Ad [] [1] [(1, 1)] hk0 v0 c0 ?_
 refine Ab ?_
 refine Aa [] [1, 8] ?_
 refine A2 (p := d.kind = 1) (by kernel_rfl) (fun c1 => ?_) (fun c1 => ?_)
 ·refine Ad [] [1, 4] [(8, 3)] (hk 2 Mu (O6 d.evr (by omega)) <| hk0) v0 c0 ?_
  obtain ⟨b1, hb1⟩ : ∃ b, b = ((Bh d.name) && (decide ((d.args.length : Int) = 0))) := ⟨_, rfl⟩
  obtain ⟨b2, hb2⟩ : ∃ b, b = (b1 && (((decide (d.op = 0)) && (decide (d.evr = []))) || (((decide (1 ≤ d.op)) && (decide (d.op ≤ 7))) && (decide ((Bz d.evr) = 0))))) := ⟨_, rfl⟩
  have qh1 : (((Bh d.name) = true → (Bh d.name) = true)) ∧ (((Bh d.name) = true → (Bh d.name) = true)) ∧ (((Bh d.name) = true → (Bh d.name) = true)) ∧ (((Bh d.name) = true → (Bh d.name) = true)) ∧ ((b1 = true → b1 = true)) ∧ ((b1 = true → b1 = true)) ∧ ((b1 = true → b1 = true)) ∧ (((b1 && (decide (d.op = 0))) = true → (b1 && (decide (d.op = 0))) = true)) ∧ (((b1 && (decide (d.op = 0))) = true → (b1 && (decide (d.op = 0))) = true)) ∧ ((b1 = true → (b1 = true) ∧ ((decide (d.op = 0)) = true → (b1 && (decide (d.op = 0))) = true))) ∧ ((b1 = true → b1 = true)) ∧ (((b1 && (!((decide (d.op = 0)) && (decide (d.evr = []))))) = true → (b1 && (!((decide (d.op = 0)) && (decide (d.evr = []))))) = true)) ∧ (((b1 && (!((decide (d.op = 0)) && (decide (d.evr = []))))) = true → (b1 && (!((decide (d.op = 0)) && (decide (d.evr = []))))) = true)) ∧ (((b1 && (!((decide (d.op = 0)) && (decide (d.evr = []))))) = true → (b1 && (!((decide (d.op = 0)) && (decide (d.evr = []))))) = true)) ∧ ((((b1 && (!((decide (d.op = 0)) && (decide (d.evr = []))))) && (decide (1 ≤ d.op))) = true → ((b1 && (!((decide (d.op = 0)) && (decide (d.evr = []))))) && (decide (1 ≤ d.op))) = true)) ∧ ((((b1 && (!((decide (d.op = 0)) && (decide (d.evr = []))))) && (decide (1 ≤ d.op))) = true → ((b1 && (!((decide (d.op = 0)) && (decide (d.evr = []))))) && (decide (1 ≤ d.op))) = true)) ∧ (((b1 && (!((decide (d.op = 0)) && (decide (d.evr = []))))) = true → ((b1 && (!((decide (d.op = 0)) && (decide (d.evr = []))))) = true) ∧ ((decide (1 ≤ d.op)) = true → ((b1 && (!((decide (d.op = 0)) && (decide (d.evr = []))))) && (decide (1 ≤ d.op))) = true))) ∧ (((b1 && (!((decide (d.op = 0)) && (decide (d.evr = []))))) = true → (b1 && (!((decide (d.op = 0)) && (decide (d.evr = []))))) = true)) ∧ ((((b1 && (!((decide (d.op = 0)) && (decide (d.evr = []))))) && ((decide (1 ≤ d.op)) && (decide (d.op ≤ 7)))) = true → ((b1 && (!((decide (d.op = 0)) && (decide (d.evr = []))))) && ((decide (1 ≤ d.op)) && (decide (d.op ≤ 7)))) = true)) ∧ (((b1 && (!((decide (d.op = 0)) && (decide (d.evr = []))))) = true → ((b1 && (!((decide (d.op = 0)) && (decide (d.evr = []))))) = true) ∧ (((decide (1 ≤ d.op)) && (decide (d.op ≤ 7))) = true → ((b1 && (!((decide (d.op = 0)) && (decide (d.evr = []))))) && ((decide (1 ≤ d.op)) && (decide (d.op ≤ 7)))) = true))) ∧ ((b1 = true → (b1 = true) ∧ (((decide (d.op = 0)) && (decide (d.evr = []))) = false → (b1 && (!((decide (d.op = 0)) && (decide (d.evr = []))))) = true))) ∧ ((b1 = true → b1 = true)) := by
   first | omega | (simp; omega) | (simp; done) | (intros; simp_all; omega) | (intros; simp_all; done) | (intros; simp_all; by_cases h : d.op = 0 <;> simp_all)
  refine Ad [19, 20, 21, 22, 25, 26, 27, 28, 29, 30, 31, 32, 33, 34, 35, 36, 37, 38, 39, 40, 41, 42, 43, 44, 45, 46] [2] [] (hk 2 Mr (P2 d.name (by omega)) <| hk0) (vk 9 23 (a := .bool ((Bh d.name) && (decide ((d.args.length : Int) = 0)))) (b := .bool b1) (Imp.of_eq (by rw [hb1])) <| vk 33 47 (a := .bool (b1 && (((decide (d.op = 0)) && (decide (d.evr = []))) || (((decide (1 ≤ d.op)) && (decide (d.op ≤ 7))) && (decide ((Bz d.evr) = 0)))))) (b := .bool b2) (Imp.of_eq (by rw [hb2])) <| v0) (cc 5 (p := ((Bh d.name) = true → (Bh d.name) = true)) qh1.1 <| cc 6 (p := ((Bh d.name) = true → (Bh d.name) = true)) qh1.2.1 <| cc 7 (p := ((Bh d.name) = true → (Bh d.name) = true)) qh1.2.2.1 <| cc 8 (p := ((Bh d.name) = true → (Bh d.name) = true)) qh1.2.2.2.1 <| cc 11 (p := (b1 = true → b1 = true)) qh1.2.2.2.2.1 <| cc 12 (p := (b1 = true → b1 = true)) qh1.2.2.2.2.2.1 <| cc 13 (p := (b1 = true → b1 = true)) qh1.2.2.2.2.2.2.1 <| cc 15 (p := ((b1 && (decide (d.op = 0))) = true → (b1 && (decide (d.op = 0))) = true)) qh1.2.2.2.2.2.2.2.1 <| cc 16 (p := ((b1 && (decide (d.op = 0))) = true → (b1 && (decide (d.op = 0))) = true)) qh1.2.2.2.2.2.2.2.2.1 <| cc 17 (p := (b1 = true → (b1 = true) ∧ ((decide (d.op = 0)) = true → (b1 && (decide (d.op = 0))) = true))) qh1.2.2.2.2.2.2.2.2.2.1 <| cc 18 (p := (b1 = true → b1 = true)) qh1.2.2.2.2.2.2.2.2.2.2.1 <| cc 20 (p := ((b1 && (!((decide (d.op = 0)) && (decide (d.evr = []))))) = true → (b1 && (!((decide (d.op = 0)) && (decide (d.evr = []))))) = true)) qh1.2.2.2.2.2.2.2.2.2.2.2.1 <| cc 21 (p := ((b1 && (!((decide (d.op = 0)) && (decide (d.evr = []))))) = true → (b1 && (!((decide (d.op = 0)) && (decide (d.evr = []))))) = true)) qh1.2.2.2.2.2.2.2.2.2.2.2.2.1 <| cc 22 (p := ((b1 && (!((decide (d.op = 0)) && (decide (d.evr = []))))) = true → (b1 && (!((decide (d.op = 0)) && (decide (d.evr = []))))) = true)) qh1.2.2.2.2.2.2.2.2.2.2.2.2.2.1 <| cc 24 (p := (((b1 && (!((decide (d.op = 0)) && (decide (d.evr = []))))) && (decide (1 ≤ d.op))) = true → ((b1 && (!((decide (d.op = 0)) && (decide (d.evr = []))))) && (decide (1 ≤ d.op))) = true)) qh1.2.2.2.2.2.2.2.2.2.2.2.2.2.2.1 <| cc 25 (p := (((b1 && (!((decide (d.op = 0)) && (decide (d.evr = []))))) && (decide (1 ≤ d.op))) = true → ((b1 && (!((decide (d.op = 0)) && (decide (d.evr = []))))) && (decide (1 ≤ d.op))) = true)) qh1.2.2.2.2.2.2.2.2.2.2.2.2.2.2.2.1 <| cc 26 (p := ((b1 && (!((decide (d.op = 0)) && (decide (d.evr = []))))) = true → ((b1 && (!((decide (d.op = 0)) && (decide (d.evr = []))))) = true) ∧ ((decide (1 ≤ d.op)) = true → ((b1 && (!((decide (d.op = 0)) && (decide (d.evr = []))))) && (decide (1 ≤ d.op))) = true))) qh1.2.2.2.2.2.2.2.2.2.2.2.2.2.2.2.2.1 <| cc 27 (p := ((b1 && (!((decide (d.op = 0)) && (decide (d.evr = []))))) = true → (b1 && (!((decide (d.op = 0)) && (decide (d.evr = []))))) = true)) qh1.2.2.2.2.2.2.2.2.2.2.2.2.2.2.2.2.2.1 <| cc 29 (p := (((b1 && (!((decide (d.op = 0)) && (decide (d.evr = []))))) && ((decide (1 ≤ d.op)) && (decide (d.op ≤ 7)))) = true → ((b1 && (!((decide (d.op = 0)) && (decide (d.evr = []))))) && ((decide (1 ≤ d.op)) && (decide (d.op ≤ 7)))) = true)) qh1.2.2.2.2.2.2.2.2.2.2.2.2.2.2.2.2.2.2.1 <| cc 30 (p := ((b1 && (!((decide (d.op = 0)) && (decide (d.evr = []))))) = true → ((b1 && (!((decide (d.op = 0)) && (decide (d.evr = []))))) = true) ∧ (((decide (1 ≤ d.op)) && (decide (d.op ≤ 7))) = true → ((b1 && (!((decide (d.op = 0)) && (decide (d.evr = []))))) && ((decide (1 ≤ d.op)) && (decide (d.op ≤ 7)))) = true))) qh1.2.2.2.2.2.2.2.2.2.2.2.2.2.2.2.2.2.2.2.1 <| cc 31 (p := (b1 = true → (b1 = true) ∧ (((decide (d.op = 0)) && (decide (d.evr = []))) = false → (b1 && (!((decide (d.op = 0)) && (decide (d.evr = []))))) = true))) qh1.2.2.2.2.2.2.2.2.2.2.2.2.2.2.2.2.2.2.2.2.1 <| cc 32 (p := (b1 = true → b1 = true)) qh1.2.2.2.2.2.2.2.2.2.2.2.2.2.2.2.2.2.2.2.2.2 <| c0) ?_
  refine Af ?_
  refine RK wR [(.bool b2)] ?_
  subst hb2 hb1
  refine Same.of_eq ?_
  simp only [Ah]
  rw [O0 c1, Yo]
  congr 1
  rw [Bool.eq_iff_iff]
  simp only [Bool.and_eq_true, Bool.or_eq_true, decide_eq_true_eq, and_assoc]
  rw [show ((d.args.length : Int) = 0) = (d.args.length = 0) from propext (by omega)]
 ·refine Ag ?_
  refine Ab ?_
  refine Ar ?_
  refine Bv 1 0 [] [1, 48] [] hk0 v0 c0 ?_
  refine Q2d (b := 1) (k := 4) (a := 3) (c := 0) (es := []) (m := []) (by kernel_rfl) (by kernel_rfl) (by kernel_rfl) (by kernel_rfl) (by kernel_rfl) (by kernel_rfl) (by kernel_rfl) Tryz.underlying155 Tryz.underlying3 ?_
  refine Q2d (b := 1) (k := 6) (a := 2) (c := 1) (es := [(.int .i64 4, .int .i64 3, 0)]) (m := [(4, 3)]) (by kernel_rfl) (by kernel_rfl) (by kernel_rfl) (by kernel_rfl) (by kernel_rfl) (by kernel_rfl) (by kernel_rfl) Tryz.underlying155 Tryz.underlying3 ?_
  refine Bv 3 3 [] [1, 49, 51] [] hk0 v0 c0 ?_
  refine X3w (b := 1) (c := 2) (es := [(.int .i64 4, .int .i64 3, 0), (.int .i64 6, .int .i64 2, 1)]) (m := [(4, 3), (6, 2)]) (s' := [(1, (.fp (.agg [(.int .i64 d.kind), (.str d.name), (.int .i64 d.op), (.str d.evr), (.row 5 d.args.length (depAt d.args))]))), (49, (.map 1)), (51, (.int .i64 d.kind)), (52, (.int .i64 (Eh d.kind)))]) (by kernel_rfl) (by kernel_rfl) (by kernel_rfl) (by kernel_rfl) (by kernel_rfl) Tryz.underlying155 Tryz.underlying3 (fun _ => by kernel_rfl) (Q7m d.kind) (by kernel_rfl) ?_
  refine Aw 7 [] [1, 5] [] hk0 v0 c0 ?_
  refine Ab ?_
  obtain ⟨b3, hb3⟩ : ∃ b, b = (decide (d.kind < 2)) := ⟨_, rfl⟩
  obtain ⟨b4, hb4⟩ : ∃ b, b = (b3 || (decide (6 < d.kind))) := ⟨_, rfl⟩
  obtain ⟨b5, hb5⟩ : ∃ b, b = (b4 || (!decide (d.name = []))) := ⟨_, rfl⟩
  obtain ⟨b6, hb6⟩ : ∃ b, b = (b5 || (!decide (d.op = 0))) := ⟨_, rfl⟩
  obtain ⟨b7, hb7⟩ : ∃ b, b = (b6 || (!decide (d.evr = []))) := ⟨_, rfl⟩
  obtain ⟨b8, hb8⟩ : ∃ b, b = (b7 || (decide ((d.args.length : Int) < 2))) := ⟨_, rfl⟩
  refine Ad (CS := [(5, ((!b3) = true → (!b3) = true)), (6, ((!b3) = true → (!b3) = true)), (7, (b3 = false → (!b3) = true)), (10, ((!b4) = true → (!b4) = true)), (11, ((!b4) = true → (!b4) = true)), (12, (b4 = false → (!b4) = true)), (15, ((!b5) = true → (!b5) = true)), (16, ((!b5) = true → (!b5) = true)), (17, (b5 = false → (!b5) = true)), (20, ((!b6) = true → (!b6) = true)), (21, ((!b6) = true → (!b6) = true)), (22, (b6 = false → (!b6) = true)), (25, ((!b7) = true → (!b7) = true)), (26, ((!b7) = true → (!b7) = true)), (27, ((!b7) = true → (!b7) = true)), (28, (b7 = false → (!b7) = true)), (31, ((!b8) = true → (!b8) = true)), (32, ((!b8) = true → (!b8) = true)), (34, (((!b8) && (decide (0 < (Eh d.kind)))) = true → ((!b8) && (decide (0 < (Eh d.kind)))) = true)), (35, (((!b8) && (decide (0 < (Eh d.kind)))) = true → ((!b8) && (decide (0 < (Eh d.kind)))) = true)), (37, (((!b8) && (decide (0 < (Eh d.kind)))) = true → ((!b8) && (decide (0 < (Eh d.kind)))) = true ∧ ((!b8) && (decide (0 < (Eh d.kind)))) = true)), (38, ((!b8) = true → ((!b8) = true) ∧ ((decide (0 < (Eh d.kind))) = true → ((!b8) && (decide (0 < (Eh d.kind)))) = true))), (39, (b8 = false → (!b8) = true))]) [57, 58, 59, 62, 63, 64, 67, 68, 69, 72, 73, 74, 77, 78, 79, 80, 83, 84, 85, 86, 87, 88, 89, 90, 91] [1, 92] [] hk0 (vk 4 56 (a := .bool (decide (d.kind < 2))) (b := .bool b3) (Imp.of_eq (by rw [hb3])) <| vk 9 61 (a := .bool (b3 || (decide (6 < d.kind)))) (b := .bool b4) (Imp.of_eq (by rw [hb4])) <| vk 14 66 (a := .bool (b4 || (!decide (d.name = [])))) (b := .bool b5) (Imp.of_eq (by rw [hb5])) <| vk 19 71 (a := .bool (b5 || (!decide (d.op = 0)))) (b := .bool b6) (Imp.of_eq (by rw [hb6])) <| vk 24 76 (a := .bool (b6 || (!decide (d.evr = [])))) (b := .bool b7) (Imp.of_eq (by rw [hb7])) <| vk 30 82 (a := .bool (b7 || (decide ((d.args.length : Int) < 2)))) (b := .bool b8) (Imp.of_eq (by rw [hb8])) <| v0) (by refine cc _ ?_ <| cc _ ?_ <| cc _ ?_ <| cc _ ?_ <| cc _ ?_ <| cc _ ?_ <| cc _ ?_ <| cc _ ?_ <| cc _ ?_ <| cc _ ?_ <| cc _ ?_ <| cc _ ?_ <| cc _ ?_ <| cc _ ?_ <| cc _ ?_ <| cc _ ?_ <| cc _ ?_ <| cc _ ?_ <| cc _ ?_ <| cc _ ?_ <| cc _ ?_ <| cc _ ?_ <| cc _ ?_ c0 <;> first | omega | (simp; omega) | (simp; done) | (intros; simp_all; omega) | (intros; simp_all; done)) ?_
  refine A3 (q := b8 || ((decide (0 < (Eh d.kind))) && (decide ((Eh d.kind) < (d.args.length : Int))))) (by kernel_rfl) (fun c2 => ?_) (fun c2 => ?_)
  ·subst hb8 hb7 hb6 hb5 hb4 hb3
   try simp only [Bool.and_eq_true, Bool.or_eq_true, Bool.and_eq_false_iff, Bool.or_eq_false_iff, Bool.not_eq_true', Bool.not_eq_false', decide_eq_true_eq, decide_eq_false_iff_not] at c2
   refine Aa [] [2] ?_
   refine Af ?_
   refine RK wR [(.bool false)] ?_
   refine Same.of_eq ?_
   simp only [Ah]
   rw [Jv c1, Yp, decide_eq_true (by rcases c2 with (((((h | h) | h) | h) | h) | h) | h <;> first | (simp [h]; done) | (have h' : d.args.length < 2 := (by omega); simp [h']))]
   rfl
  ·subst hb8 hb7 hb6 hb5 hb4 hb3
   try simp only [Bool.and_eq_true, Bool.or_eq_true, Bool.and_eq_false_iff, Bool.or_eq_false_iff, Bool.not_eq_true', Bool.not_eq_false', decide_eq_true_eq, decide_eq_false_iff_not] at c2
   refine Ag ?_
   refine Ad [] [2] [] (hk 3 (al := [(Ai 5 A9 d.args), (.fn 124 [] [(.fp (.agg [(.int .i64 d.kind), (.str d.name), (.int .i64 d.op), (.str d.evr), (.row 5 d.args.length (depAt d.args))]))])]) Zb ((Q0m d.args (.fn 124 [] [.fp (A9 d)]) (K7 d.kind) (by omega) (fun i hi => FunV.of (by exact X1e) (Q80 (nth d.args i) d (ih i hi)))).of_args (ImpL.cons Imp.refl (ImpL.cons (Imp.clo (by kernel_rfl)) ImpL.nil))) <| hk0) (vk 3 94 (Jz d.args) <| v0) c0 ?_
   refine Af ?_
   refine RK wR [(.bool (!(d.args.any (K7 d.kind))))] ?_
   refine Same.of_eq ?_
   simp only [Ah]
   rw [Jv c1, Yp, decide_eq_false (by rcases c2 with ⟨⟨⟨⟨⟨⟨h1, h2⟩, h3⟩, h4⟩, h5⟩, h6⟩, h7⟩; simp [h3, h4, h5]; omega), Q1f]
   simp
theorem Q81 (d : DepT) : d.size ≤ 4194304 → FnV Tryz.prog 66 [A9 d] (.bool (Db d)) :=
 Pf (C := fun d => d.size ≤ 4194304 → FnV Tryz.prog 66 [A9 d] (.bool (Db d))) (fun d ih hs => Q82 d hs fun i hi => ih i hi (by have := No hi; omega)) d
set_option maxHeartbeats 1000000 in
set_option maxRecDepth 100000 in
theorem Q5c (d : DepT) (hs : d.size ≤ 4194304) (ih : ∀ i, i < d.args.length → FnV Tryz.prog 110 [A9 (nth d.args i)] (.bool (Db (nth d.args i)))) :
  FnV Tryz.prog 110 [(.agg [(.int .i64 d.kind), (.str d.name), (.int .i64 d.op), (.str d.evr), (.row 5 d.args.length (depAt d.args))])] (.bool (Db d)) := by
 have hda := I7 d
 have hal := Ew d.args
 refine A1 [.tmp 2] Tryz.func110 rfl Tryz.ntmps110 rfl rfl (fun B F hF => ?_)
 refine Ad [] [1] [(1, 1)] hk0 v0 c0 ?_
 refine Ab ?_
 refine Aa [] [1, 12] ?_
 refine A2 (p := d.kind = 1) (by kernel_rfl) (fun c1 => ?_) (fun c1 => ?_)
 ·refine Ad [] [1, 3] [] (hk 2 Mq (Nz d.name (by omega)) <| hk0) v0 c0 ?_
  refine Ab ?_
  obtain ⟨b1, hb1⟩ : ∃ b, b = (!(Bh d.name)) := ⟨_, rfl⟩
  obtain ⟨b2, hb2⟩ : ∃ b, b = (b1 || (decide (d.op < 0))) := ⟨_, rfl⟩
  obtain ⟨b3, hb3⟩ : ∃ b, b = (b2 || (decide (7 < d.op))) := ⟨_, rfl⟩
  refine Ad (CS := [(4, ((!b1) = true → (!b1) = true)), (5, ((!b1) = true → (!b1) = true)), (6, (b1 = false → (!b1) = true)), (9, ((!b2) = true → (!b2) = true)), (10, ((!b2) = true → (!b2) = true)), (11, (b2 = false → (!b2) = true)), (14, ((!b3) = true → (!b3) = true)), (15, ((!b3) = true → (!b3) = true)), (16, ((!b3) = true → (!b3) = true)), (17, (b3 = false → (!b3) = true))]) [19, 20, 21, 24, 25, 26, 29, 30, 31, 32] [1, 33] [] hk0 (vk 3 18 (a := .bool (!(Bh d.name))) (b := .bool b1) (Imp.of_eq (by rw [hb1])) <| vk 8 23 (a := .bool (b1 || (decide (d.op < 0)))) (b := .bool b2) (Imp.of_eq (by rw [hb2])) <| vk 13 28 (a := .bool (b2 || (decide (7 < d.op)))) (b := .bool b3) (Imp.of_eq (by rw [hb3])) <| v0) (by refine cc _ ?_ <| cc _ ?_ <| cc _ ?_ <| cc _ ?_ <| cc _ ?_ <| cc _ ?_ <| cc _ ?_ <| cc _ ?_ <| cc _ ?_ <| cc _ ?_ c0 <;> first | omega | (simp; omega) | (simp; done) | (intros; simp_all; omega) | (intros; simp_all; done)) ?_
  refine A3 (q := b3 || (decide (0 < (d.args.length : Int)))) (by kernel_rfl) (fun c2 => ?_) (fun c2 => ?_)
  ·subst hb3 hb2 hb1
   try simp only [Bool.and_eq_true, Bool.or_eq_true, Bool.and_eq_false_iff, Bool.or_eq_false_iff, Bool.not_eq_true', Bool.not_eq_false', decide_eq_true_eq, decide_eq_false_iff_not] at c2
   refine Aa [] [2] ?_
   refine Af ?_
   refine RK wR [(.bool false)] ?_
   refine Same.of_eq ?_
   simp only [Ah]
   rw [O0 c1, Q85 (by rcases c2 with ((h | h) | h) | h <;> first | omega | simp_all)]
  ·subst hb3 hb2 hb1
   try simp only [Bool.and_eq_true, Bool.or_eq_true, Bool.and_eq_false_iff, Bool.or_eq_false_iff, Bool.not_eq_true', Bool.not_eq_false', decide_eq_true_eq, decide_eq_false_iff_not] at c2
   refine Ag ?_
   refine Ab ?_
   refine Aa [] [1, 36] ?_
   refine A2 (p := d.op = 0) (by kernel_rfl) (fun c3 => ?_) (fun c3 => ?_)
   ·refine Aa [] [2] ?_
    refine Af ?_
    refine RK wR [(.bool (decide (d.evr = [])))] ?_
    refine Same.of_eq ?_
    simp only [Ah]
    rw [O0 c1, Q83 ⟨c2.1.1.1, by omega, by omega, by omega⟩ c3]
   ·refine Ag ?_
    refine Ad [] [5] [(8, 4)] (hk 2 Mt (N1 d.evr (by omega)) <| hk0) v0 c0 ?_
    refine Aa [] [2] ?_
    refine Af ?_
    refine RK wR [(.bool (decide ((Bz d.evr) = 0)))] ?_
    refine Same.of_eq ?_
    simp only [Ah]
    rw [O0 c1, Q84 ⟨c2.1.1.1, by omega, by omega, by omega⟩ c3]
 ·refine Ag ?_
  refine Aa [] [1, 6] ?_
  refine Ab ?_
  obtain ⟨b4, hb4⟩ : ∃ b, b = (decide (d.kind < 2)) := ⟨_, rfl⟩
  obtain ⟨b5, hb5⟩ : ∃ b, b = (b4 || (decide (6 < d.kind))) := ⟨_, rfl⟩
  obtain ⟨b6, hb6⟩ : ∃ b, b = (b5 || (!decide (d.name = []))) := ⟨_, rfl⟩
  obtain ⟨b7, hb7⟩ : ∃ b, b = (b6 || (!decide (d.op = 0))) := ⟨_, rfl⟩
  obtain ⟨b8, hb8⟩ : ∃ b, b = (b7 || (!decide (d.evr = []))) := ⟨_, rfl⟩
  refine Ad (CS := [(5, ((!b4) = true → (!b4) = true)), (6, ((!b4) = true → (!b4) = true)), (7, (b4 = false → (!b4) = true)), (10, ((!b5) = true → (!b5) = true)), (11, ((!b5) = true → (!b5) = true)), (12, (b5 = false → (!b5) = true)), (15, ((!b6) = true → (!b6) = true)), (16, ((!b6) = true → (!b6) = true)), (17, (b6 = false → (!b6) = true)), (20, ((!b7) = true → (!b7) = true)), (21, ((!b7) = true → (!b7) = true)), (22, (b7 = false → (!b7) = true)), (25, ((!b8) = true → (!b8) = true)), (26, (b8 = false → (!b8) = true))]) [55, 56, 57, 60, 61, 62, 65, 66, 67, 70, 71, 72, 75, 76] [1, 6, 77] [] hk0 (vk 4 54 (a := .bool (decide (d.kind < 2))) (b := .bool b4) (Imp.of_eq (by rw [hb4])) <| vk 9 59 (a := .bool (b4 || (decide (6 < d.kind)))) (b := .bool b5) (Imp.of_eq (by rw [hb5])) <| vk 14 64 (a := .bool (b5 || (!decide (d.name = [])))) (b := .bool b6) (Imp.of_eq (by rw [hb6])) <| vk 19 69 (a := .bool (b6 || (!decide (d.op = 0)))) (b := .bool b7) (Imp.of_eq (by rw [hb7])) <| vk 24 74 (a := .bool (b7 || (!decide (d.evr = [])))) (b := .bool b8) (Imp.of_eq (by rw [hb8])) <| v0) (by refine cc _ ?_ <| cc _ ?_ <| cc _ ?_ <| cc _ ?_ <| cc _ ?_ <| cc _ ?_ <| cc _ ?_ <| cc _ ?_ <| cc _ ?_ <| cc _ ?_ <| cc _ ?_ <| cc _ ?_ <| cc _ ?_ <| cc _ ?_ c0 <;> first | omega | (simp; omega) | (simp; done) | (intros; simp_all; omega) | (intros; simp_all; done)) ?_
  refine A3 (q := b8 || (decide ((d.args.length : Int) < 2))) (by kernel_rfl) (fun c4 => ?_) (fun c4 => ?_)
  ·subst hb8 hb7 hb6 hb5 hb4
   try simp only [Bool.and_eq_true, Bool.or_eq_true, Bool.and_eq_false_iff, Bool.or_eq_false_iff, Bool.not_eq_true', Bool.not_eq_false', decide_eq_true_eq, decide_eq_false_iff_not] at c4
   refine Aa [] [2] ?_
   refine Af ?_
   refine RK wR [(.bool false)] ?_
   refine Same.of_eq ?_
   simp only [Ah]
   rw [Jv c1, Q9f (by rcases c4 with ((((h | h) | h) | h) | h) | h <;> first | (simp [h]; done) | (have h' : d.args.length < 2 := (by omega); simp [h']))]
   rfl
  ·subst hb8 hb7 hb6 hb5 hb4
   try simp only [Bool.and_eq_true, Bool.or_eq_true, Bool.and_eq_false_iff, Bool.or_eq_false_iff, Bool.not_eq_true', Bool.not_eq_false', decide_eq_true_eq, decide_eq_false_iff_not] at c4
   refine Ag ?_
   refine Ab ?_
   obtain ⟨b9, hb9⟩ : ∃ b, b = (decide (d.kind = 4)) := ⟨_, rfl⟩
   obtain ⟨b10, hb10⟩ : ∃ b, b = (b9 && (decide (3 < (d.args.length : Int)))) := ⟨_, rfl⟩
   refine Ad (CS := [(5, (b9 = true → b9 = true)), (6, (b9 = true → b9 = true)), (9, ((!b10) = true → (!b10) = true)), (10, ((!b10) = true → (!b10) = true)), (11, ((!b10) = true → (!b10) = true)), (13, (((!b10) && (decide (d.kind = 6))) = true → ((!b10) && (decide (d.kind = 6))) = true)), (14, ((!b10) = true → ((!b10) = true) ∧ ((decide (d.kind = 6)) = true → ((!b10) && (decide (d.kind = 6))) = true))), (15, (b10 = false → (!b10) = true))]) [82, 83, 86, 87, 88, 89, 90, 91, 92] [1, 6, 93] [] hk0 (vk 4 81 (a := .bool (decide (d.kind = 4))) (b := .bool b9) (Imp.of_eq (by rw [hb9])) <| vk 8 85 (a := .bool (b9 && (decide (3 < (d.args.length : Int))))) (b := .bool b10) (Imp.of_eq (by rw [hb10])) <| v0) (by refine cc _ ?_ <| cc _ ?_ <| cc _ ?_ <| cc _ ?_ <| cc _ ?_ <| cc _ ?_ <| cc _ ?_ <| cc _ ?_ c0 <;> first | omega | (simp; omega) | (simp; done) | (intros; simp_all; omega) | (intros; simp_all; done)) ?_
   refine A3 (q := b10 || ((decide (d.kind = 6)) && (decide (2 < (d.args.length : Int))))) (by kernel_rfl) (fun c5 => ?_) (fun c5 => ?_)
   ·subst hb10 hb9
    try simp only [Bool.and_eq_true, Bool.or_eq_true, Bool.and_eq_false_iff, Bool.or_eq_false_iff, Bool.not_eq_true', Bool.not_eq_false', decide_eq_true_eq, decide_eq_false_iff_not] at c5
    refine Aa [] [2] ?_
    refine Af ?_
    refine RK wR [(.bool false)] ?_
    refine Same.of_eq ?_
    simp only [Ah]
    rw [Jv c1, Q9e (by omega)]
    rfl
   ·subst hb10 hb9
    try simp only [Bool.and_eq_true, Bool.or_eq_true, Bool.and_eq_false_iff, Bool.or_eq_false_iff, Bool.not_eq_true', Bool.not_eq_false', decide_eq_true_eq, decide_eq_false_iff_not] at c5
    have hfb : Gv d.kind d.name d.op d.evr d.args.length = false := Q9d (by rcases c4 with ⟨⟨⟨⟨⟨h1, h2⟩, h3⟩, h4⟩, h5⟩, h6⟩; simp [h3, h4, h5]; omega) (by omega)
    refine Ag ?_
    refine Ab ?_
    refine Aa [] [1, 6, 7] ?_
    refine A0 ?_
    refine Bq (fun g y => ∃ (i : Nat), i ≤ d.args.length ∧ argsForm d.kind d.args = argsForm d.kind (d.args.drop i) ∧ y = ⟨[(1, (.fp (.agg [(.int .i64 d.kind), (.str d.name), (.int .i64 d.op), (.str d.evr), (.row 5 d.args.length (depAt d.args))]))), (6, (.int .i64 ((d.args.length : Int)))), (7, (.int .i64 ((i : Int))))], [], 1⟩ ∧ g = d.args.length - i) [1, 6, 7] 1 _ (by omega) ⟨0, (by omega), (by rfl), (by kernel_rfl), rfl⟩ ?_
    rintro g1 y1 ⟨i, f1_1, f1_2, rfl, rfl⟩
    refine Ab ?_
    refine Aa [] [1, 6, 7, 96] ?_
    refine A2 (p := (i : Int) < (d.args.length : Int)) (by kernel_rfl) (fun c6 => ?_) (fun c6 => ?_)
    ·refine Ag ?_
     refine Ab ?_
     refine A0 ?_
     refine Ad [] [1, 6, 7, 8] [] hk0 (vk 3 100 (Jz d.args) <| v0) (cc 3 (p := (0 ≤ (i : Int) ∧ i < d.args.length)) (by first | omega | (simp; omega) | (simp; done) | (intros; simp_all; omega) | (intros; simp_all; done)) <| c0) ?_
     refine Ab ?_
     obtain ⟨b11, hb11⟩ : ∃ b, b = (decide (5 ≤ d.kind)) := ⟨_, rfl⟩
     obtain ⟨b12, hb12⟩ : ∃ b, b = (b11 && (!decide (((nth d.args i).kind) = 1))) := ⟨_, rfl⟩
     obtain ⟨b13, hb13⟩ : ∃ b, b = (b12 && (!decide (((nth d.args i).kind) = 5))) := ⟨_, rfl⟩
     refine Ad (CS := [(5, (b11 = true → b11 = true)), (6, (b11 = true → b11 = true)), (9, (b12 = true → b12 = true)), (10, (b12 = true → b12 = true)), (13, (b13 = true → b13 = true)), (14, (b13 = true → b13 = true))]) [109, 110, 113, 114, 117, 118] [1, 6, 7, 119] [] hk0 (vk 4 108 (a := .bool (decide (5 ≤ d.kind))) (b := .bool b11) (Imp.of_eq (by rw [hb11])) <| vk 8 112 (a := .bool (b11 && (!decide (((nth d.args i).kind) = 1)))) (b := .bool b12) (Imp.of_eq (by rw [hb12])) <| vk 12 116 (a := .bool (b12 && (!decide (((nth d.args i).kind) = 5)))) (b := .bool b13) (Imp.of_eq (by rw [hb13])) <| v0) (by refine cc _ ?_ <| cc _ ?_ <| cc _ ?_ <| cc _ ?_ <| cc _ ?_ <| cc _ ?_ c0 <;> first | omega | (simp; omega) | (simp; done) | (intros; simp_all; omega) | (intros; simp_all; done)) ?_
     refine A3 (q := b13 && (!decide (((nth d.args i).kind) = 6))) (by kernel_rfl) (fun c7 => ?_) (fun c7 => ?_)
     ·subst hb13 hb12 hb11
      try simp only [Bool.and_eq_true, Bool.or_eq_true, Bool.and_eq_false_iff, Bool.or_eq_false_iff, Bool.not_eq_true', Bool.not_eq_false', decide_eq_true_eq, decide_eq_false_iff_not] at c7
      refine Aa [] [2] ?_
      refine Af ?_
      refine RK wR [(.bool false)] ?_
      refine Same.of_eq ?_
      simp only [Ah]
      rw [Jv c1, hfb, f1_2, Ti (by omega), Q78 (by omega)]
      rfl
     ·subst hb13 hb12 hb11
      try simp only [Bool.and_eq_true, Bool.or_eq_true, Bool.and_eq_false_iff, Bool.or_eq_false_iff, Bool.not_eq_true', Bool.not_eq_false', decide_eq_true_eq, decide_eq_false_iff_not] at c7
      refine Ag ?_
      refine Ad [] [1, 6, 7, 9] [] (hk 5 Q0f (ih i (by omega)) <| hk0) (vk 3 121 (Jz d.args) <| v0) (cc 3 (p := (0 ≤ (i : Int) ∧ i < d.args.length)) (by first | omega | (simp; omega) | (simp; done) | (intros; simp_all; omega) | (intros; simp_all; done)) <| c0) ?_
      refine Aa [] [1, 6, 7, 127] ?_
      refine A3 (q := !(Db (nth d.args i))) (by kernel_rfl) (fun c8 => ?_) (fun c8 => ?_)
      ·try simp only [Bool.and_eq_true, Bool.or_eq_true, Bool.and_eq_false_iff, Bool.or_eq_false_iff, Bool.not_eq_true', Bool.not_eq_false', decide_eq_true_eq, decide_eq_false_iff_not] at c8
       refine Aa [] [2] ?_
       refine Af ?_
       refine RK wR [(.bool false)] ?_
       refine Same.of_eq ?_
       simp only [Ah]
       rw [Jv c1, hfb, f1_2, Ti (by omega), Xx (by omega), c8]
       rfl
      ·try simp only [Bool.and_eq_true, Bool.or_eq_true, Bool.and_eq_false_iff, Bool.or_eq_false_iff, Bool.not_eq_true', Bool.not_eq_false', decide_eq_true_eq, decide_eq_false_iff_not] at c8
       refine Ag ?_
       refine Ar ?_
       refine Aw 0 [] [1, 6, 7] [] hk0 v0 (cc 1 (p := (-9223372036854775808 ≤ (i : Int) + 1 ∧ (i : Int) + 1 ≤ 9223372036854775807)) (by first | omega | (simp; omega) | (simp; done) | (intros; simp_all; omega) | (intros; simp_all; done)) <| c0) ?_
       refine ⟨by kernel_rfl, _, ?_, i + 1, ?_, ?_, (by kernel_rfl), rfl⟩
       ·omega
       ·omega
       ·rw [f1_2, Ti (by omega), Xx (by omega), c8]; rfl
    ·refine Bj ?_
     refine Aa [] [2] ?_
     refine Af ?_
     refine RK wR [(.bool true)] ?_
     refine Same.of_eq ?_
     simp only [Ah]
     rw [Jv c1, hfb, f1_2, List.drop_of_length_le (by omega)]
     rfl
theorem Q5b (d : DepT) : d.size ≤ 4194304 → FnV Tryz.prog 110 [A9 d] (.bool (Db d)) :=
 Pf (C := fun d => d.size ≤ 4194304 → FnV Tryz.prog 110 [A9 d] (.bool (Db d))) (fun d ih hs => Q5c d hs fun i hi => ih i hi (by have := No hi; omega)) d
set_option maxHeartbeats 400000 in
set_option maxRecDepth 100000 in
theorem Q6c (d : DepT) (hs : d.size ≤ 4194304) (ih : ∀ i, i < d.args.length → FnV Tryz.prog 111 [A9 (nth d.args i)] (.int .i64 (D3 (nth d.args i) : Int))) :
  FnV Tryz.prog 111 [(.agg [(.int .i64 d.kind), (.str d.name), (.int .i64 d.op), (.str d.evr), (.row 5 d.args.length (depAt d.args))])] (.int .i64 ((D3 d : Int))) := by
 have hda := I7 d
 have hal := Ew d.args
 refine A1 [.tmp 2] Tryz.func111 rfl Tryz.ntmps111 rfl rfl (fun B F hF => ?_)
 refine Ad [] [1] [(1, 1)] hk0 v0 c0 ?_
 refine Ab ?_
 refine Aa [] [1, 7] ?_
 refine A2 (p := d.kind = 1) (by kernel_rfl) (fun c1 => ?_) (fun c1 => ?_)
 ·refine Aa [] [2] ?_
  refine Af ?_
  refine RK wR [(.int .i64 1)] ?_
  refine Same.of_eq ?_
  simp only [Ah]
  rw [Q6e c1]
  rfl
 ·refine Ag ?_
  refine Aa [] [1, 3] ?_
  refine Ab ?_
  refine Aa [] [1, 3, 4] ?_
  refine A0 ?_
  refine Bq (fun g y => ∃ (i : Nat), i ≤ d.args.length ∧ y = ⟨[(1, (.fp (.agg [(.int .i64 d.kind), (.str d.name), (.int .i64 d.op), (.str d.evr), (.row 5 d.args.length (depAt d.args))]))), (3, (.int .i64 ((argsParts (d.args.take i) : Int)))), (4, (.int .i64 ((i : Int))))], [], 1⟩ ∧ g = d.args.length - i) [1, 3, 4] 1 _ (by omega) ⟨0, (by omega), (by kernel_rfl), rfl⟩ ?_
  rintro g1 y1 ⟨i, f1_1, rfl, rfl⟩
  have hb1 := argsParts_le (d.args.take i)
  have hb2 := fun h => Q1g (l := d.args) (i := i) h
  have hb3 := V5 (nth d.args i)
  refine Ab ?_
  refine Aa [] [1, 3, 4, 12] ?_
  refine A2 (p := (i : Int) < (d.args.length : Int)) (by kernel_rfl) (fun c2 => ?_) (fun c2 => ?_)
  ·refine Ag ?_
   refine Ab ?_
   refine A0 ?_
   refine Ar ?_
   refine Aw (CS := [(4, (0 ≤ (i : Int) ∧ i < d.args.length)), (7, (-9223372036854775808 ≤ (argsParts (d.args.take i) : Int) + (D3 (nth d.args i) : Int) ∧ (argsParts (d.args.take i) : Int) + (D3 (nth d.args i) : Int) ≤ 9223372036854775807))]) 0 [] [1, 3, 4] [] (hk 6 Q0e (ih i (by omega)) <| hk0) (vk 4 17 (Jz d.args) <| v0) (by refine cc _ ?_ <| cc _ ?_ c0 <;> first | omega | (simp; omega) | (simp; done) | (intros; simp_all; omega) | (intros; simp_all; done)) ?_
   refine Ar ?_
   refine Aw 0 [] [1, 3, 4] [] hk0 v0 (cc 1 (p := (-9223372036854775808 ≤ (i : Int) + 1 ∧ (i : Int) + 1 ≤ 9223372036854775807)) (by first | omega | (simp; omega) | (simp; done) | (intros; simp_all; omega) | (intros; simp_all; done)) <| c0) ?_
   refine ⟨by kernel_rfl, _, ?_, i + 1, ?_, (Eq.trans (b := (⟨[(1, (.fp (.agg [(.int .i64 d.kind), (.str d.name), (.int .i64 d.op), (.str d.evr), (.row 5 d.args.length (depAt d.args))]))), (3, (.int .i64 ((argsParts (d.args.take i) : Int) + (D3 (nth d.args i) : Int)))), (4, (.int .i64 ((i : Int) + 1)))], [], 1⟩ : St)) (by kernel_rfl) (by rw [X2w (by omega)]; rfl)), rfl⟩
   ·omega
   ·omega
  ·refine Bj ?_
   refine Aa [] [2] ?_
   refine Af ?_
   refine RK wR [(.int .i64 ((argsParts (d.args.take i) : Int)))] ?_
   refine Same.of_eq ?_
   simp only [Ah]
   rw [Q6f c1, List.take_of_length_le (by omega)]
theorem Q6d (d : DepT) : d.size ≤ 4194304 → FnV Tryz.prog 111 [A9 d] (.int .i64 (D3 d : Int)) :=
 Pf (C := fun d => d.size ≤ 4194304 → FnV Tryz.prog 111 [A9 d] (.int .i64 (D3 d : Int))) (fun d ih hs => Q6c d hs fun i hi => ih i hi (by have := No hi; omega)) d
def Fb (d : DepT) : Nat := if d.kind = 1 then 1 else 0
set_option maxHeartbeats 400000 in
set_option maxRecDepth 100000 in
theorem X1z (l : List UInt8) (m : Nat) (hm : m ≤ 9000000) :
  Gk Tryz.prog 68 [(.str l), (.ptr 0 0)] [(0, (.row [(.int .i64 (((m : Nat) : Int)))] 3))] 1 (.tup []) [(0, (.row [(.int .i64 (((m + 1 : Nat) : Int)))] 3))] := by
 refine Nc [] Tryz.func68 rfl Tryz.ntmps68 rfl rfl (by kernel_rfl) (by kernel_rfl) (by kernel_rfl) (fun B F hF => ?_)
 refine Ar ?_
 refine Aw 0 [] [] [] hk0 v0 (cc 1 (p := (-9223372036854775808 ≤ ((m : Nat) : Int) + 1 ∧ ((m : Nat) : Int) + 1 ≤ 9223372036854775807)) (by first | omega | (simp; omega) | (simp; done) | (intros; simp_all; omega) | (intros; simp_all; done)) <| c0) ?_
 refine E4 (.inr rfl) (al := []) (by kernel_rfl) ?_ ((by kernel_rfl : Dk 1 _ = some [(0, (.row [(.int .i64 (((m : Nat) : Int) + 1))] 3))]).trans ?_)
 ·rfl
 ·rfl
set_option maxHeartbeats 400000 in
set_option maxRecDepth 100000 in
theorem X26 (d : DepT) (m : Nat) (hs : m + d.size ≤ 8388608) (ih : ∀ i m, i < d.args.length → m + (nth d.args i).size ≤ 8388608 → Gk Tryz.prog 67 [A9 (nth d.args i), .fn 68 [] [.ptr 0 0]] [(0, .row [.int .i64 ((m : Nat) : Int)] 3)] 1 (.tup []) [(0, .row [.int .i64 ((m + Eg (nth d.args i) : Nat) : Int)] 3)]) :
  Gk Tryz.prog 67 [(.agg [(.int .i64 d.kind), (.str d.name), (.int .i64 d.op), (.str d.evr), (.row 5 d.args.length (depAt d.args))]), (.fn 68 [] [(.ptr 0 0)])] [(0, (.row [(.int .i64 (((m : Nat) : Int)))] 3))] 1 (.tup []) [(0, (.row [(.int .i64 (((m + Eg d : Nat) : Int)))] 3))] := by
 have hda := I7 d
 have hal := Ew d.args
 have ho : Fb d ≤ 1 := by unfold Fb; split <;> omega
 refine Nc [] Tryz.func67 rfl Tryz.ntmps67 rfl rfl (by kernel_rfl) (by kernel_rfl) (by kernel_rfl) (fun B F hF => ?_)
 refine Aa [] [1, 2] ?_
 refine Tp 2 (y := ⟨[(1, (.fn 68 [] [(.ptr 0 0)])), (2, (.fp (.agg [(.int .i64 d.kind), (.str d.name), (.int .i64 d.op), (.str d.evr), (.row 5 d.args.length (depAt d.args))])))], [(0, (.row [(.int .i64 (((m : Nat) : Int)))] 3))], 2⟩) (by kernel_rfl) ?_
 refine Da (fun y => y = ⟨[(1, (.fn 68 [] [(.ptr 0 0)])), (2, (.fp (.agg [(.int .i64 d.kind), (.str d.name), (.int .i64 d.op), (.str d.evr), (.row 5 d.args.length (depAt d.args))])))], [(0, (.row [(.int .i64 (((m + Fb d : Nat) : Int)))] 3))], 2⟩) [1, 2] 2 (by omega) ?_ ?_
 ·refine Aa [] [1, 2, 8] ?_
  refine A2 (p := d.kind = 1) (by kernel_rfl) (fun c1 => ?_) (fun c1 => ?_)
  ·refine Ar ?_
   refine Bv 3 0 [] [1, 2, 9, 11] [] hk0 v0 c0 ?_
   refine P1 [0] (f := 68) (cap := [(.ptr 0 0)]) (al := [(.str d.name)]) (al' := [(.str d.name), (.ptr 0 0)]) (r := (.tup [])) (r' := (.tup [])) (s' := [(1, (.fn 68 [] [(.ptr 0 0)])), (2, (.fp (.agg [(.int .i64 d.kind), (.str d.name), (.int .i64 d.op), (.str d.evr), (.row 5 d.args.length (depAt d.args))]))), (9, (.fn 68 [] [(.ptr 0 0)])), (11, (.str d.name)), (12, (.tup []))]) (H := [(0, (.row [(.int .i64 (((m : Nat) : Int)))] 3))]) (H' := [(0, (.row [(.int .i64 (((m + 1 : Nat) : Int)))] 3))]) (h2 := [(0, (.row [(.int .i64 (((m + 1 : Nat) : Int)))] 3))]) (by kernel_rfl) (by kernel_rfl) (by exact Q91) (by kernel_rfl) (by kernel_rfl) (by kernel_rfl) (by kernel_rfl) (by kernel_rfl) (X1z d.name m (by omega)) (by kernel_rfl) (by kernel_rfl) (by kernel_rfl) ?_
   refine B2 ?_
   refine ⟨by kernel_rfl, (Eq.trans (b := (⟨[(1, (.fn 68 [] [(.ptr 0 0)])), (2, (.fp (.agg [(.int .i64 d.kind), (.str d.name), (.int .i64 d.op), (.str d.evr), (.row 5 d.args.length (depAt d.args))])))], [(0, (.row [(.int .i64 (((m + 1 : Nat) : Int)))] 3))], 2⟩ : St)) (by kernel_rfl) (by unfold Fb; rw [if_pos c1]))⟩
  ·refine Ag ?_
   refine ⟨by kernel_rfl, (Eq.trans (b := (⟨[(1, (.fn 68 [] [(.ptr 0 0)])), (2, (.fp (.agg [(.int .i64 d.kind), (.str d.name), (.int .i64 d.op), (.str d.evr), (.row 5 d.args.length (depAt d.args))])))], [(0, (.row [(.int .i64 (((m : Nat) : Int)))] 3))], 2⟩ : St)) (by kernel_rfl) (by unfold Fb; rw [if_neg c1]; rfl))⟩
 ·rintro y1 rfl
  refine Aa [] [1, 14, 15, 16] ?_
  refine A0 ?_
  refine Q2b 14 (Ai 5 A9 d.args) (by kernel_rfl) (Jz d.args) ?_
  refine Bq (fun g y => ∃ (i : Nat), i ≤ d.args.length ∧ y = ⟨[(1, (.fn 68 [] [(.ptr 0 0)])), (14, (Ai 5 A9 d.args)), (15, (.int .i64 ((d.args.length : Int)))), (16, (.int .i64 ((i : Int))))], [(0, (.row [(.int .i64 (((m + Fb d + argsNames (d.args.take i) : Nat) : Int)))] 3))], 2⟩ ∧ g = d.args.length - i) [1, 14, 15, 16] 2 _ (by omega) ⟨0, (by omega), (Eq.trans (b := (⟨[(1, (.fn 68 [] [(.ptr 0 0)])), (14, (Ai 5 A9 d.args)), (15, (.int .i64 ((d.args.length : Int)))), (16, (.int .i64 0))], [(0, (.row [(.int .i64 (((m + Fb d : Nat) : Int)))] 3))], 2⟩ : St)) (by kernel_rfl) (by simp only [List.take_zero, argsNames, Nat.add_zero]; rfl)), rfl⟩ ?_
  rintro g1 y1 ⟨i, f1_1, rfl, rfl⟩
  have hb1 := argsNames_le (d.args.take i)
  have hb2 := fun h => Q1g (l := d.args) (i := i) h
  refine Aa [] [1, 14, 15, 16, 17] ?_
  refine Ab ?_
  refine A2 (p := (i : Int) < (d.args.length : Int)) (by kernel_rfl) (fun c2 => ?_) (fun c2 => ?_)
  ·refine Ag ?_
   refine Ab ?_
   refine A0 ?_
   refine Ad [] [1, 5, 14, 15, 16] [] hk0 v0 (cc 0 (p := (0 ≤ (i : Int) ∧ i < d.args.length)) (by first | omega | (simp; omega) | (simp; done) | (intros; simp_all; omega) | (intros; simp_all; done)) <| c0) ?_
   refine Ar ?_
   refine Bv 2 0 [] [1, 14, 15, 16, 20, 21] [(0, 5)] hk0 v0 c0 ?_
   refine Lo [0] (al := [(.agg [(.int .i64 ((nth d.args i).kind)), (.str ((nth d.args i).name)), (.int .i64 ((nth d.args i).op)), (.str ((nth d.args i).evr)), (.row 5 (nth d.args i).args.length (depAt (nth d.args i).args))]), (.fn 68 [] [(.ptr 0 0)])]) (al' := [(.agg [(.int .i64 ((nth d.args i).kind)), (.str ((nth d.args i).name)), (.int .i64 ((nth d.args i).op)), (.str ((nth d.args i).evr)), (.row 5 (nth d.args i).args.length (depAt (nth d.args i).args))]), (.fn 68 [] [(.ptr 0 0)])]) (r := (.tup [])) (r' := (.tup [])) (s' := [(1, (.fn 68 [] [(.ptr 0 0)])), (14, (Ai 5 A9 d.args)), (15, (.int .i64 ((d.args.length : Int)))), (16, (.int .i64 ((i : Int)))), (20, (.agg [(.int .i64 ((nth d.args i).kind)), (.str ((nth d.args i).name)), (.int .i64 ((nth d.args i).op)), (.str ((nth d.args i).evr)), (.row 5 (nth d.args i).args.length (depAt (nth d.args i).args))])), (21, (.fn 68 [] [(.ptr 0 0)])), (22, (.tup []))]) (H := [(0, (.row [(.int .i64 (((m + Fb d + argsNames (d.args.take i) : Nat) : Int)))] 3))]) (H' := [(0, (.row [(.int .i64 (((m + Fb d + argsNames (d.args.take i) + Eg (nth d.args i) : Nat) : Int)))] 3))]) (h2 := [(0, (.row [(.int .i64 (((m + Fb d + argsNames (d.args.take i) + Eg (nth d.args i) : Nat) : Int)))] 3))]) (by kernel_rfl) (by exact Zf) (by kernel_rfl) (by kernel_rfl) (by kernel_rfl) (by kernel_rfl) (by kernel_rfl) (ih i (m + Fb d + argsNames (d.args.take i)) (by omega) (by have := hb2 (by omega); omega)) (by kernel_rfl) (by kernel_rfl) (by kernel_rfl) ?_
   refine B2 ?_
   refine Ar ?_
   refine Aw 0 [] [1, 14, 15, 16] [] hk0 v0 (cc 0 (p := (-9223372036854775808 ≤ (i : Int) + 1 ∧ (i : Int) + 1 ≤ 9223372036854775807)) (by first | omega | (simp; omega) | (simp; done) | (intros; simp_all; omega) | (intros; simp_all; done)) <| c0) ?_
   refine ⟨by kernel_rfl, _, ?_, i + 1, ?_, (Eq.trans (b := (⟨[(1, (.fn 68 [] [(.ptr 0 0)])), (14, (Ai 5 A9 d.args)), (15, (.int .i64 ((d.args.length : Int)))), (16, (.int .i64 ((i : Int) + 1)))], [(0, (.row [(.int .i64 (((m + Fb d + argsNames (d.args.take i) + Eg (nth d.args i) : Nat) : Int)))] 3))], 2⟩ : St)) (by kernel_rfl) (by rw [X2x (by omega)]; simp only [Nat.add_assoc]; rfl)), rfl⟩
   all_goals omega
  ·refine Bj ?_
   refine E4 (.inr rfl) (al := []) (by kernel_rfl) ?_ ((by kernel_rfl : Dk 1 _ = some [(0, (.row [(.int .i64 (((m + Fb d + argsNames (d.args.take i) : Nat) : Int)))] 3))]).trans ?_)
   ·rfl
   ·rw [Q7e, List.take_of_length_le (by omega)]; simp only [Fb, Nat.add_assoc]
theorem X25 (d : DepT) : ∀ m, m + d.size ≤ 8388608 → Gk Tryz.prog 67 [A9 d, .fn 68 [] [.ptr 0 0]] [(0, .row [.int .i64 ((m : Nat) : Int)] 3)] 1 (.tup []) [(0, .row [.int .i64 ((m + Eg d : Nat) : Int)] 3)] :=
 Pf (C := fun d => ∀ m, m + d.size ≤ 8388608 → Gk Tryz.prog 67 [A9 d, .fn 68 [] [.ptr 0 0]] [(0, .row [.int .i64 ((m : Nat) : Int)] 3)] 1 (.tup []) [(0, .row [.int .i64 ((m + Eg d : Nat) : Int)] 3)]) (fun d ih m hs => X26 d m hs fun i m hi h => ih i hi m h) d
set_option maxHeartbeats 400000 in
set_option maxRecDepth 100000 in
theorem Q2u (d : DepT) (hs : d.size ≤ 4194304) :
  FnV Tryz.prog 22 [(.agg [(.int .i64 d.kind), (.str d.name), (.int .i64 d.op), (.str d.evr), (.row 5 d.args.length (depAt d.args))])] (.int .i64 (C3 d)) := by
 refine A1 [.tmp 2] Tryz.func22 rfl Tryz.ntmps22 rfl rfl (fun B F hF => ?_)
 refine Ad [] [1] [(1, 1)] hk0 v0 c0 ?_
 refine Ab ?_
 refine Ad [] [1, 6] [] (hk 1 Zg (Q81 d hs) <| hk0) v0 c0 ?_
 refine A3 (q := !(Db d)) (by kernel_rfl) (fun c1 => ?_) (fun c1 => ?_)
 ·try simp only [Bool.and_eq_true, Bool.or_eq_true, Bool.and_eq_false_iff, Bool.or_eq_false_iff, Bool.not_eq_true', Bool.not_eq_false', decide_eq_true_eq, decide_eq_false_iff_not] at c1
  refine Aa [] [2] ?_
  refine Af ?_
  refine RK wR [(.int .i64 50)] ?_
  refine Same.of_eq ?_
  simp only [Ah]
  rw [C3, c1]
  rfl
 ·try simp only [Bool.and_eq_true, Bool.or_eq_true, Bool.and_eq_false_iff, Bool.or_eq_false_iff, Bool.not_eq_true', Bool.not_eq_false', decide_eq_true_eq, decide_eq_false_iff_not] at c1
  refine Ag ?_
  refine Aa [] [1, 3] ?_
  refine Ab ?_
  refine Ar ?_
  refine Bv 2 0 [] [3, 7, 8] [] hk0 v0 c0 ?_
  refine Lo [1] (al := [(.agg [(.int .i64 d.kind), (.str d.name), (.int .i64 d.op), (.str d.evr), (.row 5 d.args.length (depAt d.args))]), (.fn 68 [] [(.ptr 1 0)])]) (al' := [(.agg [(.int .i64 d.kind), (.str d.name), (.int .i64 d.op), (.str d.evr), (.row 5 d.args.length (depAt d.args))]), (.fn 68 [] [(.ptr 0 0)])]) (r := (.tup [])) (r' := (.tup [])) (s' := [(3, (.ptr 1 0)), (7, (.agg [(.int .i64 d.kind), (.str d.name), (.int .i64 d.op), (.str d.evr), (.row 5 d.args.length (depAt d.args))])), (8, (.fn 68 [] [(.ptr 1 0)])), (9, (.tup []))]) (H := [(0, (.row [(.int .i64 0)] 3))]) (H' := [(0, (.row [(.int .i64 (((0 + Eg d : Nat) : Int)))] 3))]) (h2 := [(1, (.row [(.int .i64 (((0 + Eg d : Nat) : Int)))] 3))]) (by kernel_rfl) (by exact Zf) (by kernel_rfl) (by kernel_rfl) (by kernel_rfl) (by kernel_rfl) (by kernel_rfl) (X25 d 0 (by omega)) (by kernel_rfl) (by kernel_rfl) (by kernel_rfl) ?_
  refine B2 ?_
  refine Ab ?_
  refine Aa [] [11] ?_
  refine A2 (p := 16 < ((0 + Eg d : Nat) : Int)) (by kernel_rfl) (fun c2 => ?_) (fun c2 => ?_)
  ·refine Aa [] [2] ?_
   refine Af ?_
   refine RK wR [(.int .i64 51)] ?_
   refine Same.of_eq ?_
   simp only [Ah]
   rw [C3, c1, if_pos rfl, if_pos (by have := Ro d c1; omega)]
  ·refine Ag ?_
   refine Aa [] [2] ?_
   refine Af ?_
   refine RK wR [(.int .i64 0)] ?_
   refine Same.of_eq ?_
   simp only [Ah]
   rw [C3, c1, if_pos rfl, if_neg (by have := Ro d c1; omega)]
set_option maxHeartbeats 400000 in
set_option maxRecDepth 100000 in
theorem Q5g (d : DepT) (hs : d.size ≤ 4194304) :
  FnV Tryz.prog 52 [(.agg [(.int .i64 d.kind), (.str d.name), (.int .i64 d.op), (.str d.evr), (.row 5 d.args.length (depAt d.args))])] (.int .i64 (C3 d)) := by
 refine A1 [.tmp 2] Tryz.func52 rfl Tryz.ntmps52 rfl rfl (fun B F hF => ?_)
 refine Ad [] [1] [(1, 1)] hk0 v0 c0 ?_
 refine Ad [] [1, 3] [] (hk 1 Q0f (Q5b d hs) <| hk0) v0 c0 ?_
 refine Ab ?_
 refine Aa [] [1, 7] ?_
 refine A3 (q := !(Db d)) (by kernel_rfl) (fun c1 => ?_) (fun c1 => ?_)
 ·try simp only [Bool.and_eq_true, Bool.or_eq_true, Bool.and_eq_false_iff, Bool.or_eq_false_iff, Bool.not_eq_true', Bool.not_eq_false', decide_eq_true_eq, decide_eq_false_iff_not] at c1
  refine Aa [] [2] ?_
  refine Af ?_
  refine RK wR [(.int .i64 50)] ?_
  refine Same.of_eq ?_
  simp only [Ah]
  rw [C3, c1]
  rfl
 ·try simp only [Bool.and_eq_true, Bool.or_eq_true, Bool.and_eq_false_iff, Bool.or_eq_false_iff, Bool.not_eq_true', Bool.not_eq_false', decide_eq_true_eq, decide_eq_false_iff_not] at c1
  refine Ag ?_
  refine Ab ?_
  refine Ad [] [10] [] (hk 1 Q0e (Q6d d hs) <| hk0) v0 c0 ?_
  refine A2 (p := 16 < (D3 d : Int)) (by kernel_rfl) (fun c2 => ?_) (fun c2 => ?_)
  ·refine Aa [] [2] ?_
   refine Af ?_
   refine RK wR [(.int .i64 51)] ?_
   refine Same.of_eq ?_
   simp only [Ah]
   rw [C3, c1, if_pos rfl, if_pos (by omega)]
  ·refine Ag ?_
   refine Aa [] [2] ?_
   refine Af ?_
   refine RK wR [(.int .i64 0)] ?_
   refine Same.of_eq ?_
   simp only [Ah]
   rw [C3, c1, if_pos rfl, if_neg (by omega)]
end Sv
end Go.Proofs.YtlfjokcbkopfeaaGreatDoor
end
section
namespace Go.Proofs.YtlfjokcbkopfeaaGreatDoor
open Go Go.RowKit
namespace Sv
attribute [local irreducible] SW SO Bg
theorem X0t : Am Tryz.prog 157 := Av Tryz.func157 (by kernel_rfl) rfl
theorem X1i : Am Tryz.prog 109 := Av Tryz.func109 (by kernel_rfl) rfl
theorem It : Am Tryz.prog 108 := Av Tryz.func108 (by kernel_rfl) rfl
theorem Q0g : Am Tryz.prog 107 := Av Tryz.func107 (by kernel_rfl) rfl
theorem Zj : Am Tryz.prog 51 := Av Tryz.func51 (by kernel_rfl) rfl
theorem Q9n : Am Tryz.prog 96 := Av Tryz.func96 (by kernel_rfl) rfl
theorem Zk : Am Tryz.prog 47 := Av Tryz.func47 (by kernel_rfl) rfl
set_option maxHeartbeats 400000 in
set_option maxRecDepth 100000 in
theorem X2a (l : List (List UInt8)) (hl : l.length ≤ 4611686018427) :
  FnV Tryz.prog 109 [(Ct l)] (Ct l) := by
 refine A1 [.tmp 2] Tryz.func109 rfl Tryz.ntmps109 rfl rfl (fun B F hF => ?_)
 refine Aa [] [0] ?_
 refine Ab ?_
 refine Ab ?_
 refine Ar ?_
 refine Bv 1 0 [] [0, 3] [] hk0 v0 c0 ?_
 refine Ts (G := Jb (Ct l)) (sz := 1) (m := l.length) (e := 9) (by kernel_rfl) (by kernel_rfl) (by kernel_rfl) (by kernel_rfl) (fun nq1 => ⟨[(0, (Ct l)), (3, (Ct l)), (4, (.bool nq1))], by kernel_rfl, fun hnq1 => ?_⟩)
 refine B2 ?_
 refine A3 (q := nq1) (by kernel_rfl) (fun c1 => ?_) (fun c1 => ?_)
 ·try simp only [Bool.and_eq_true, Bool.or_eq_true, Bool.and_eq_false_iff, Bool.or_eq_false_iff, Bool.not_eq_true', Bool.not_eq_false', decide_eq_true_eq, decide_eq_false_iff_not] at c1
  refine Aa [] [2] ?_
  refine Af ?_
  refine RK wR [.nils] ?_
  simp only [Ah]
  exact (Same.of_eq rfl).trans (Imp.same (by have := hnq1 (by simp_all); have : l = [] := List.length_eq_zero_iff.1 this; subst this; exact Imp.nil))
 ·try simp only [Bool.and_eq_true, Bool.or_eq_true, Bool.and_eq_false_iff, Bool.or_eq_false_iff, Bool.not_eq_true', Bool.not_eq_false', decide_eq_true_eq, decide_eq_false_iff_not] at c1
  refine Ag ?_
  refine Ad [] [2] [] hk0 v0 (cc 2 (p := ((([] : List AV).length + l.length) * 16 ≤ 140737488355328)) (by first | omega | (simp; omega) | (simp; done) | (intros; simp_all; omega) | (intros; simp_all; done)) <| c0) ?_
  refine Af ?_
  refine RK wR [(.row 1 (([] : List AV) ++ ((List.range l.length).map (fun kx => ((.str (nth l kx)) : AV)))).length (fun ix => (([] : List AV) ++ ((List.range l.length).map (fun kx => ((.str (nth l kx)) : AV)))).getD ix Bl))] ?_
  simp only [Ah]
  exact Same.grown (f := AV.str) (l := l) (by simp [Q5])
set_option maxHeartbeats 400000 in
set_option maxRecDepth 100000 in
theorem Wo (l : List DepT) (hs : argsSize l ≤ 4194304) (ih : ∀ i, i < l.length → FnV Tryz.prog 108 [Dj (nth l i).args] (.row 5 (nth l i).args.length (depAt (nth l i).args))) :
  FnV Tryz.prog 108 [(Ai 5 A9 l)] (.row 5 l.length (depAt l)) := by
 have hal := Ew l
 refine A1 [.tmp 2] Tryz.func108 rfl Tryz.ntmps108 rfl rfl (fun B F hF => ?_)
 refine Aa [] [0] ?_
 refine Ab ?_
 refine Ar ?_
 refine Bv 1 0 [] [5] [] hk0 v0 c0 ?_
 refine M8 [.tmp 2] (al := [(Ai 5 A9 l)]) (s0 := [(5, (Ai 5 A9 l))]) (by kernel_rfl) (by exact X0t) (by kernel_rfl) Tryz.func157 rfl Tryz.ntmps157 rfl (by kernel_rfl) (by kernel_rfl) (fun F1 hF1 hle1 => ?_)
 refine Aa [] [0] ?_
 refine Ab ?_
 refine Ab ?_
 refine Ar ?_
 refine Bv 1 0 [] [0, 3] [] hk0 v0 c0 ?_
 refine Ts (G := Jb (Ai 5 A9 l)) (sz := 5) (m := l.length) (e := 25) (by kernel_rfl) (by kernel_rfl) (by kernel_rfl) (by kernel_rfl) (fun nq1_1 => ⟨[(0, (Ai 5 A9 l)), (3, (Ai 5 A9 l)), (4, (.bool nq1_1))], by kernel_rfl, fun hnq1_1 => ?_⟩)
 refine B2 ?_
 refine A3 (q := nq1_1) (by kernel_rfl) (fun c1 => ?_) (fun c1 => ?_)
 ·try simp only [Bool.and_eq_true, Bool.or_eq_true, Bool.and_eq_false_iff, Bool.or_eq_false_iff, Bool.not_eq_true', Bool.not_eq_false', decide_eq_true_eq, decide_eq_false_iff_not] at c1
  refine Aa [] [2] ?_
  refine Af ?_
  refine Jq (.inl rfl) (al := [.nils]) (s' := [(5, (Ai 5 A9 l)), (6, .nils)]) (by kernel_rfl) (by kernel_rfl) ?_
  refine Aw 2 [] [0] [] hk0 v0 c0 ?_
  refine Ab ?_
  refine Aa [] [0, 7, 8, 9] ?_
  refine A0 ?_
  refine Px 1 ?_
  refine E7 ?_
  refine Aa [] [0, 7, 8, 9, 10] ?_
  refine Ab ?_
  refine D6 (by kernel_rfl) ?_
  refine Bj ?_
  refine Aa [] [2] ?_
  refine Af ?_
  refine RK wR [.nils] ?_
  have h0 : l = [] := List.length_eq_zero_iff.1 (hnq1_1 c1)
  subst h0
  exact (Same.nil (f := A9)).trans (Sw []).same
 ·try simp only [Bool.and_eq_true, Bool.or_eq_true, Bool.and_eq_false_iff, Bool.or_eq_false_iff, Bool.not_eq_true', Bool.not_eq_false', decide_eq_true_eq, decide_eq_false_iff_not] at c1
  refine Ag ?_
  refine Ad [] [2] [] hk0 v0 (cc 2 (p := ((([] : List AV).length + l.length) * 72 ≤ 140737488355328)) (by first | omega | (simp; omega) | (simp; done) | (intros; simp_all; omega) | (intros; simp_all; done)) <| c0) ?_
  refine Af ?_
  refine Jq (.inl rfl) (al := [(.own 1)]) (s' := [(5, (Ai 5 A9 l)), (6, (.own 1))]) (by kernel_rfl) (by kernel_rfl) ?_
  refine Aw 2 [] [0] [] hk0 v0 c0 ?_
  refine Ab ?_
  refine Aa [] [0, 7, 8, 9] ?_
  refine A0 ?_
  refine Bq (fun g y => ∃ (i : Nat), i ≤ l.length ∧ y = ⟨[(0, (.own 1)), (7, (.own 1)), (8, (.int .i64 (((l.map A9).length : Int)))), (9, (.int .i64 ((i : Int))))], [(1, (.grow (l.map A9) 25 5))], 2⟩ ∧ g = l.length - i) [0, 7, 8, 9] 2 _ (by omega) ⟨0, (by omega), (Eq.trans (b := (⟨[(0, (.own 1)), (7, (.own 1)), (8, (.int .i64 (((([] : List AV) ++ ((List.range l.length).map (fun kx => ((.agg [(.int .i64 ((nth l kx).kind)), (.str ((nth l kx).name)), (.int .i64 ((nth l kx).op)), (.str ((nth l kx).evr)), (.row 5 (nth l kx).args.length (depAt (nth l kx).args))]) : AV)))).length : Int)))), (9, (.int .i64 0))], [(1, (.grow (([] : List AV) ++ ((List.range l.length).map (fun kx => ((.agg [(.int .i64 ((nth l kx).kind)), (.str ((nth l kx).name)), (.int .i64 ((nth l kx).op)), (.str ((nth l kx).evr)), (.row 5 (nth l kx).args.length (depAt (nth l kx).args))]) : AV)))) 25 5))], 2⟩ : St)) (by kernel_rfl) (by rw [show (([] : List AV) ++ ((List.range l.length).map (fun kx => ((.agg [(.int .i64 ((nth l kx).kind)), (.str ((nth l kx).name)), (.int .i64 ((nth l kx).op)), (.str ((nth l kx).evr)), (.row 5 (nth l kx).args.length (depAt (nth l kx).args))]) : AV)))) = l.map A9 from Q6g A9 l]; rfl)), rfl⟩ ?_
  rintro g2 y2 ⟨i, f2_1, rfl, rfl⟩
  have hlm : (l.map A9).length = l.length := List.length_map _
  refine Aa [] [0, 7, 8, 9, 10] ?_
  refine Ab ?_
  refine A2 (p := (i : Int) < ((l.map A9).length : Int)) (by kernel_rfl) (fun c2 => ?_) (fun c2 => ?_)
  ·refine Ag ?_
   refine Ab ?_
   refine A0 ?_
   refine Ab ?_
   refine Ar ?_
   refine Bv 1 0 [] [0, 7, 8, 9, 11] [] hk0 v0 c0 ?_
   refine P0 (b := 1) (i := i) (es := l.map A9) (e := 25) (sz := 5) (k := .i64) (s' := [(0, (.own 1)), (7, (.own 1)), (8, (.int .i64 (((l.map A9).length : Int)))), (9, (.int .i64 ((i : Int)))), (11, (.int .i64 ((i : Int)))), (12, (.op 1 (i * 5)))]) (by kernel_rfl) (by kernel_rfl) (by kernel_rfl) (by kernel_rfl) (by kernel_rfl) (by kernel_rfl) (by first | (rw [List.length_map]; omega) | simp_all) (by kernel_rfl) ?_
   refine Tq (b := 1) (e := 25) (sz := 5) (es := l.map A9) (o := i * 5) (i := i) (j := 0) (a := (.agg [(.int .i64 ((nth l i).kind)), (.str ((nth l i).name)), (.int .i64 ((nth l i).op)), (.str ((nth l i).evr)), (.row 5 (nth l i).args.length (depAt (nth l i).args))])) (r := (.agg [(.int .i64 ((nth l i).kind)), (.str ((nth l i).name)), (.int .i64 ((nth l i).op)), (.str ((nth l i).evr)), (.row 5 (nth l i).args.length (depAt (nth l i).args))])) (s' := [(0, (.own 1)), (7, (.own 1)), (8, (.int .i64 (((l.map A9).length : Int)))), (9, (.int .i64 ((i : Int)))), (11, (.int .i64 ((i : Int)))), (12, (.op 1 (i * 5))), (13, (.agg [(.int .i64 ((nth l i).kind)), (.str ((nth l i).name)), (.int .i64 ((nth l i).op)), (.str ((nth l i).evr)), (.row 5 (nth l i).args.length (depAt (nth l i).args))]))]) (by kernel_rfl) (by kernel_rfl) rfl (by kernel_rfl) (Oy (l := l) A9 (by omega)) (by kernel_rfl) (by kernel_rfl) ?_
   refine Aw 3 [] [0, 3, 4, 7, 8, 9] [] hk0 v0 c0 ?_
   refine Ar ?_
   refine Bv 5 0 [] [0, 7, 8, 9, 14, 15, 18] [(0, 4)] (hk 4 It (ih i (by omega)) <| hk0) (vk 4 17 (Jz (nth l i).args) <| v0) c0 ?_
   refine P0 (b := 1) (i := i) (es := l.map A9) (e := 25) (sz := 5) (k := .i64) (s' := [(0, (.own 1)), (7, (.own 1)), (8, (.int .i64 (((l.map A9).length : Int)))), (9, (.int .i64 ((i : Int)))), (14, (.own 1)), (15, (.int .i64 ((i : Int)))), (18, (.row 5 ((nth l i).args).length (depAt ((nth l i).args)))), (19, (.op 1 (i * 5)))]) (by kernel_rfl) (by kernel_rfl) (by kernel_rfl) (by kernel_rfl) (by kernel_rfl) (by kernel_rfl) (by first | (rw [List.length_map]; omega) | simp_all) (by kernel_rfl) ?_
   refine Tr (b := 1) (o := i * 5) (off := 4) (s' := [(0, (.own 1)), (7, (.own 1)), (8, (.int .i64 (((l.map A9).length : Int)))), (9, (.int .i64 ((i : Int)))), (14, (.own 1)), (15, (.int .i64 ((i : Int)))), (18, (.row 5 ((nth l i).args).length (depAt ((nth l i).args)))), (19, (.op 1 (i * 5))), (20, (.op 1 (i * 5 + 4)))]) (by kernel_rfl) (by kernel_rfl) (by kernel_rfl) (by kernel_rfl) ?_
   refine X3v (b := 1) (e := 25) (sz := 5) (es := l.map A9) (o := i * 5 + 4) (i := i) (j := 4) (a := (.agg [(.int .i64 ((nth l i).kind)), (.str ((nth l i).name)), (.int .i64 ((nth l i).op)), (.str ((nth l i).evr)), (.row 5 (nth l i).args.length (depAt (nth l i).args))])) (r := (.agg [(.int .i64 ((nth l i).kind)), (.str ((nth l i).name)), (.int .i64 ((nth l i).op)), (.str ((nth l i).evr)), (.row 5 ((nth l i).args).length (depAt ((nth l i).args)))])) (v := (.row 5 ((nth l i).args).length (depAt ((nth l i).args)))) (s' := [(0, (.own 1)), (7, (.own 1)), (8, (.int .i64 (((l.map A9).length : Int)))), (9, (.int .i64 ((i : Int)))), (14, (.own 1)), (15, (.int .i64 ((i : Int)))), (18, (.row 5 ((nth l i).args).length (depAt ((nth l i).args)))), (19, (.op 1 (i * 5))), (20, (.op 1 (i * 5 + 4)))]) (by kernel_rfl) (by kernel_rfl) rfl (by kernel_rfl) (by kernel_rfl) (Oy (l := l) A9 (by omega)) (by kernel_rfl) (by kernel_rfl) ?_
   refine B2 ?_
   refine Ar ?_
   refine Aw 0 [] [0, 7, 8, 9] [] hk0 v0 (cc 0 (p := (-9223372036854775808 ≤ (i : Int) + 1 ∧ (i : Int) + 1 ≤ 9223372036854775807)) (by first | omega | (simp; omega) | (simp; done) | (intros; simp_all; omega) | (intros; simp_all; done)) <| c0) ?_
   refine ⟨by kernel_rfl, _, ?_, i + 1, ?_, (Eq.trans (b := (⟨[(0, (.own 1)), (7, (.own 1)), (8, (.int .i64 (((l.map A9).length : Int)))), (9, (.int .i64 ((i : Int) + 1)))], [(1, (.grow ((l.map A9).set i (.agg [(.int .i64 ((nth l i).kind)), (.str ((nth l i).name)), (.int .i64 ((nth l i).op)), (.str ((nth l i).evr)), (.row 5 ((nth l i).args).length (depAt ((nth l i).args)))])) 25 5))], 2⟩ : St)) (by kernel_rfl) (congrArg (fun es => St.mk _ [(1, AO.grow es _ _)] _) (Q4a A9 l i))), rfl⟩
   all_goals omega
  ·refine Bj ?_
   refine Aa [] [2] ?_
   refine Af ?_
   refine RK wR [(.row 5 (l.map A9).length (fun ix => (l.map A9).getD ix Bl))] ?_
   simp only [Ah]
   exact (Same.grown (f := A9) (l := l) rfl).trans (Sw l).same
theorem Q6h (l : List DepT) : argsSize l ≤ 4194304 → FnV Tryz.prog 108 [Dj l] (.row 5 l.length (depAt l)) := by
 have key : ∀ n (l : List DepT), argsSize l ≤ n → argsSize l ≤ 4194304 → FnV Tryz.prog 108 [Dj l] (.row 5 l.length (depAt l)) := by
  intro n
  induction n with
  | zero => exact fun l h hs => Wo l hs fun i hi => by have := Q1e hi; omega
  | succ n ih => exact fun l h hs => Wo l hs fun i hi => by have := Q1e hi; exact ih _ (by omega) (by omega)
 exact key _ l (Nat.le_refl _)
theorem Jh (l : List DepT) (hs : argsSize l ≤ 4194304) : FnV Tryz.prog 108 [Dj l] (Dj l) := (Q6h l hs).to (Jz l).same
set_option maxHeartbeats 400000 in
set_option maxRecDepth 100000 in
theorem Q0r (p : PkgT) (hs : p.depSize ≤ 4194304) (hf : p.files.length ≤ 4611686018427) :
  FnV Tryz.prog 51 [(Aq p)] (Aq p) := by
 unfold PkgT.depSize at hs
 refine A1 [.cell 2 38] Tryz.func51 rfl Tryz.ntmps51 rfl rfl (fun B F hF => ?_)
 refine Aa [] [1, 2] ?_
 refine Ab ?_
 refine Ab ?_
 refine Ar ?_
 refine M8 [.tmp 2] (al := [(.ptr 0 0)]) (s0 := [(1, (.ptr 0 0)), (2, (.ptr 1 0))]) (by kernel_rfl) (by exact Q0g) (by kernel_rfl) Tryz.func107 rfl Tryz.ntmps107 rfl (by kernel_rfl) (by kernel_rfl) (fun F1 hF1 hle1 => ?_)
 refine Aa [] [0] ?_
 refine Cn [] [2] [] hk0 v0 c0 ?_
 refine Af ?_
 refine Jq (.inl rfl) (al := [(.sl 2 0 7 7 false)]) (s' := [(1, (.ptr 0 0)), (2, (.ptr 1 0)), (5, (.sl 2 0 7 7 false))]) (by kernel_rfl) (by kernel_rfl) ?_
 refine Aw 1 [] [1, 2, 5, 6, 7] [] hk0 v0 c0 ?_
 refine A0 ?_
 refine Px 8 ?_
 refine E7 ?_
 refine Aa [] [1, 2, 5, 6, 7, 8] ?_
 refine Ab ?_
 refine Gg (by kernel_rfl) ?_
 refine Ag ?_
 refine Ab ?_
 refine A0 ?_
 refine Aa [] [1, 2, 4, 5, 6, 7] ?_
 refine Ar ?_
 refine Aw 0 [] [1, 2, 5, 6, 7] [] (hk 4 It (Jh p.provides (by omega)) <| hk0) v0 c0 ?_
 refine Ar ?_
 refine Aw 0 [] [1, 2, 5, 6, 7] [] hk0 v0 (cc 0 (p := (-9223372036854775808 ≤ (1 : Int) ∧ (1 : Int) ≤ 9223372036854775807)) (by first | omega | (simp; omega) | (simp; done) | (intros; simp_all; omega) | (intros; simp_all; done)) <| c0) ?_
 refine E7 ?_
 refine Aa [] [1, 2, 5, 6, 7, 8] ?_
 refine Ab ?_
 refine Gg (by kernel_rfl) ?_
 refine Ag ?_
 refine Ab ?_
 refine A0 ?_
 refine Aa [] [1, 2, 4, 5, 6, 7] ?_
 refine Ar ?_
 refine Aw 0 [] [1, 2, 5, 6, 7] [] (hk 4 It (Jh p.requires (by omega)) <| hk0) v0 c0 ?_
 refine Ar ?_
 refine Aw 0 [] [1, 2, 5, 6, 7] [] hk0 v0 (cc 0 (p := (-9223372036854775808 ≤ (2 : Int) ∧ (2 : Int) ≤ 9223372036854775807)) (by first | omega | (simp; omega) | (simp; done) | (intros; simp_all; omega) | (intros; simp_all; done)) <| c0) ?_
 refine E7 ?_
 refine Aa [] [1, 2, 5, 6, 7, 8] ?_
 refine Ab ?_
 refine Gg (by kernel_rfl) ?_
 refine Ag ?_
 refine Ab ?_
 refine A0 ?_
 refine Aa [] [1, 2, 4, 5, 6, 7] ?_
 refine Ar ?_
 refine Aw 0 [] [1, 2, 5, 6, 7] [] (hk 4 It (Jh p.pre (by omega)) <| hk0) v0 c0 ?_
 refine Ar ?_
 refine Aw 0 [] [1, 2, 5, 6, 7] [] hk0 v0 (cc 0 (p := (-9223372036854775808 ≤ (3 : Int) ∧ (3 : Int) ≤ 9223372036854775807)) (by first | omega | (simp; omega) | (simp; done) | (intros; simp_all; omega) | (intros; simp_all; done)) <| c0) ?_
 refine E7 ?_
 refine Aa [] [1, 2, 5, 6, 7, 8] ?_
 refine Ab ?_
 refine Gg (by kernel_rfl) ?_
 refine Ag ?_
 refine Ab ?_
 refine A0 ?_
 refine Aa [] [1, 2, 4, 5, 6, 7] ?_
 refine Ar ?_
 refine Aw 0 [] [1, 2, 5, 6, 7] [] (hk 4 It (Jh p.conflicts (by omega)) <| hk0) v0 c0 ?_
 refine Ar ?_
 refine Aw 0 [] [1, 2, 5, 6, 7] [] hk0 v0 (cc 0 (p := (-9223372036854775808 ≤ (4 : Int) ∧ (4 : Int) ≤ 9223372036854775807)) (by first | omega | (simp; omega) | (simp; done) | (intros; simp_all; omega) | (intros; simp_all; done)) <| c0) ?_
 refine E7 ?_
 refine Aa [] [1, 2, 5, 6, 7, 8] ?_
 refine Ab ?_
 refine Gg (by kernel_rfl) ?_
 refine Ag ?_
 refine Ab ?_
 refine A0 ?_
 refine Aa [] [1, 2, 4, 5, 6, 7] ?_
 refine Ar ?_
 refine Aw 0 [] [1, 2, 5, 6, 7] [] (hk 4 It (Jh p.obsoletes (by omega)) <| hk0) v0 c0 ?_
 refine Ar ?_
 refine Aw 0 [] [1, 2, 5, 6, 7] [] hk0 v0 (cc 0 (p := (-9223372036854775808 ≤ (5 : Int) ∧ (5 : Int) ≤ 9223372036854775807)) (by first | omega | (simp; omega) | (simp; done) | (intros; simp_all; omega) | (intros; simp_all; done)) <| c0) ?_
 refine E7 ?_
 refine Aa [] [1, 2, 5, 6, 7, 8] ?_
 refine Ab ?_
 refine Gg (by kernel_rfl) ?_
 refine Ag ?_
 refine Ab ?_
 refine A0 ?_
 refine Aa [] [1, 2, 4, 5, 6, 7] ?_
 refine Ar ?_
 refine Aw 0 [] [1, 2, 5, 6, 7] [] (hk 4 It (Jh p.recommends (by omega)) <| hk0) v0 c0 ?_
 refine Ar ?_
 refine Aw 0 [] [1, 2, 5, 6, 7] [] hk0 v0 (cc 0 (p := (-9223372036854775808 ≤ (6 : Int) ∧ (6 : Int) ≤ 9223372036854775807)) (by first | omega | (simp; omega) | (simp; done) | (intros; simp_all; omega) | (intros; simp_all; done)) <| c0) ?_
 refine E7 ?_
 refine Aa [] [1, 2, 5, 6, 7, 8] ?_
 refine Ab ?_
 refine Gg (by kernel_rfl) ?_
 refine Ag ?_
 refine Ab ?_
 refine A0 ?_
 refine Aa [] [1, 2, 4, 5, 6, 7] ?_
 refine Ar ?_
 refine Aw 0 [] [1, 2, 5, 6, 7] [] (hk 4 It (Jh p.supplements (by omega)) <| hk0) v0 c0 ?_
 refine Ar ?_
 refine Aw 0 [] [1, 2, 5, 6, 7] [] hk0 v0 (cc 0 (p := (-9223372036854775808 ≤ (7 : Int) ∧ (7 : Int) ≤ 9223372036854775807)) (by first | omega | (simp; omega) | (simp; done) | (intros; simp_all; omega) | (intros; simp_all; done)) <| c0) ?_
 refine E7 ?_
 refine Aa [] [1, 2, 5, 6, 7, 8] ?_
 refine Ab ?_
 refine D6 (by kernel_rfl) ?_
 refine Bj ?_
 refine Ad [] [1, 2] [] (hk 2 X1i (X2a p.files hf) <| hk0) v0 c0 ?_
 refine Aa [] [2] ?_
 refine Af ?_
 refine RK wR [(Aq p)] ?_
 exact Same.of_eq rfl
end Sv
end Go.Proofs.YtlfjokcbkopfeaaGreatDoor
end
section
namespace Go.Proofs.YtlfjokcbkopfeaaGreatDoor
open Go Go.RowKit
set_option linter.unusedSimpArgs false
set_option linter.unusedVariables false
namespace Sv
theorem Yc {l : List UInt8} {p : Nat → Bool} (hp : ∀ r, 128 ≤ r → p r = true) : ∀ (fuel pos : Nat), l.length ≤ pos + fuel → decide (Lib.idxFuncFrom p true ⟨l.toArray⟩ fuel pos < 0) = (l.drop pos).all (fun b => !p b.toNat)
  | 0, pos, h => by
    rw [List.drop_of_length_le (by omega)]; rfl
  | fuel + 1, pos, h => by
    have hsz : (⟨l.toArray⟩ : ByteArray).size = l.length := Gf l
    by_cases hpos : pos < l.length
    · have hdrop : l.drop pos = Ae l pos :: l.drop (pos + 1) := by
        rw [List.drop_eq_getElem_cons hpos, Iw hpos]
      rw [hdrop, List.all_cons]
      simp only [Lib.idxFuncFrom, hsz, hpos, if_true]
      by_cases ha : (Ae l pos).toNat < 128
      · rw [X1v hpos ha]
        simp only
        cases hc : p (Ae l pos).toNat with
        | true => simp
        | false =>
          have := Yc (l := l) hp fuel (pos + 1) (by omega)
          simpa using this
      · have hh := X1u hpos (by omega)
        have h1 := hp _ hh.1
        have h2 := hp (Ae l pos).toNat (by omega)
        rw [h1, h2]; simp
    · rw [List.drop_of_length_le (by omega)]
      have : ¬ pos < (⟨l.toArray⟩ : ByteArray).size := by rw [hsz]; exact hpos
      simp [Lib.idxFuncFrom, this]
theorem Q8l {l : List UInt8} {p : Nat → Bool} (hp : ∀ r, 128 ≤ r → p r = true) : decide (Lib.idxFunc p true ⟨l.toArray⟩ < 0) = l.all (fun b => !p b.toNat) := by
  have := Yc (l := l) hp l.length 0 (by omega)
  rw [List.drop_zero] at this
  rw [← this]
  unfold Lib.idxFunc
  rw [show (⟨l.toArray⟩ : ByteArray).size = l.length from Gf l]
theorem X4s (s : List UInt8) (g : Nat) (cap : List AV) (p : Nat → Bool) (he : Am Tryz.prog g) (hc : frzl cap = true) (h : ∀ x : Nat, x ≤ 1114111 → FnV Tryz.prog g (.int .i32 x :: cap) (.bool (p x))) :
    FnV Tryz.prog 100 [.str s, .fn g [] cap] (.int .i64 (Lib.idxFunc p true ⟨s.toArray⟩)) := by
  intro F w vs hF hv
  obtain ⟨v, r1, rfl, h1, hv⟩ := hv.cons_inv
  obtain ⟨v2, rfl, h2⟩ := hv.single_inv
  simp only [VR] at h1 h2
  subst h1
  obtain ⟨vf, vc, q1, q2, rfl⟩ := h2
  rw [q1.nil_inv]
  refine (Tryz.strings_IndexFunc_grows g vc.toArray (fun args w => he args w) p ⟨s.toArray⟩ w ?_).mono ?_
  · intro W x hx hb
    have hF' : Fro F W := fun b o e => (hb.block b (Ev (hF b o e))).trans (hF b o e)
    have key : Calls Tryz.prog g (Value.int .i32 x :: vc).toArray W (fun e w' => e = .returned (.bool (p x)) ∧ Below W.heap.size W w') := by
      refine (h x hx F W (.int .i32 x :: vc) hF' (.cons (by simp only [VR]) q2)).mono ?_
      rintro e w' ⟨v, he, hb', F', _, _, _, hr⟩
      simp only [VR] at hr; subst hr
      exact ⟨he, hb'⟩
    have e : (#[Proofs.encR x] ++ vc.toArray) = (Value.int .i32 x :: vc).toArray := by apply Array.ext'; simp [Proofs.encR]
    rw [e]; exact key
  · rintro e w' ⟨he, hb⟩
    exact ⟨_, he, hb, F, fun _ _ e => e, fun b o e => (hb.block b (Ev (hF b o e))).trans (hF b o e), fun _ _ e => .inl e, by simp only [VR]⟩
theorem Nb (s : List UInt8) (c : UInt8) (hl : s.length ≤ 9223372036854775807) : FnV Tryz.prog 106 [.str s, .str [c]] (.bool (Ay s c)) := by
  intro F w vs hF hv
  obtain ⟨v, r1, rfl, h1, hv⟩ := hv.cons_inv
  obtain ⟨v2, rfl, h2⟩ := hv.single_inv
  simp only [VR] at h1 h2
  subst h1 h2
  refine (X4w s c w hl).mono ?_
  rintro e w' ⟨v, he, rfl, rfl⟩
  exact ⟨_, he, Below.refl _ _, F, fun _ _ e => e, hF, fun _ _ e => .inl e, by simp only [VR]⟩
theorem Q7k {l : List UInt8} (h : Bh l = true) : 0 < l.length := by
  cases l with
  | nil => exact absurd h (by decide)
  | cons a r => simp
theorem X22 {α : Type} {l : List α} (p : α → Bool) : (l.any fun x => !p x) = !l.all p := by
  induction l with
  | nil => rfl
  | cons a r ih => simp only [List.any_cons, List.all_cons, ih, Bool.not_and]
end Sv
end Go.Proofs.YtlfjokcbkopfeaaGreatDoor
end
section
namespace Go.Proofs.YtlfjokcbkopfeaaGreatDoor
open Go Go.RowKit
namespace Sv
attribute [local irreducible] SW SO Bg
end Sv
end Go.Proofs.YtlfjokcbkopfeaaGreatDoor
end
section
namespace Go.Proofs.YtlfjokcbkopfeaaGreatDoor
open Go Go.RowKit
namespace Sv
attribute [local irreducible] SW SO Bg
end Sv
end Go.Proofs.YtlfjokcbkopfeaaGreatDoor
end
section
namespace Go.Proofs.YtlfjokcbkopfeaaGreatDoor
open Go Go.RowKit
set_option linter.unusedSimpArgs false
set_option linter.unusedVariables false
namespace Sv
section
variable {P : Program} {ds : List Deferred}
variable {B : Bas} {F : Cx} {n : Nat} {K : Exit → St → Prop} {x : St}
def SWD (P : Program) (ds : List Deferred) (n : Nat) (c : Code) (B : Bas) (F : Cx) (K : Exit → St → Prop) (x : St) : Prop := ∀ φ σ w, Holds B F n x φ σ w → D.W P ds n c (Lf B F n K) σ w
end
attribute [local irreducible] SW SO SWD Bg
end Sv
end Go.Proofs.YtlfjokcbkopfeaaGreatDoor
end
section
namespace Go.Proofs.YtlfjokcbkopfeaaGreatDoor
open Go Go.RowKit
namespace Sv
attribute [local irreducible] SW SO Bg
theorem X0u : Am Tryz.prog 155 := Av Tryz.func155 (by kernel_rfl) rfl
theorem X1k : Am Tryz.prog 104 := Av Tryz.func104 (by kernel_rfl) rfl
theorem Z8 : Am Tryz.prog 156 := Av Tryz.func156 (by kernel_rfl) rfl
theorem Ld : Am Tryz.prog 106 := Av Tryz.func106 (by kernel_rfl) rfl
theorem X1n : Am Tryz.prog 100 := Av Tryz.func100 (by kernel_rfl) rfl
theorem Mr : Am Tryz.prog 46 := Av Tryz.func46 (by kernel_rfl) rfl
theorem Mq : Am Tryz.prog 91 := Av Tryz.func91 (by kernel_rfl) rfl
theorem Mu : Am Tryz.prog 102 := Av Tryz.func102 (by kernel_rfl) rfl
theorem Mt : Am Tryz.prog 141 := Av Tryz.func141 (by kernel_rfl) rfl
theorem Sn : Am Tryz.prog 22 := Av Tryz.func22 (by kernel_rfl) rfl
theorem Zi : Am Tryz.prog 52 := Av Tryz.func52 (by kernel_rfl) rfl
theorem X1l : Am Tryz.prog 103 := Av Tryz.func103 (by kernel_rfl) rfl
theorem Q97 : Am Tryz.prog 50 := Av Tryz.func50 (by kernel_rfl) rfl
theorem Q9m : Am Tryz.prog 97 := Av Tryz.func97 (by kernel_rfl) rfl
theorem Q9l : Am Tryz.prog 98 := Av Tryz.func98 (by kernel_rfl) rfl
theorem Y8 : Am Tryz.prog 99 := Av Tryz.func99 (by kernel_rfl) rfl
theorem X1m : Am Tryz.prog 101 := Av Tryz.func101 (by kernel_rfl) rfl
theorem X1j : Am Tryz.prog 105 := Av Tryz.func105 (by kernel_rfl) rfl
theorem X03 : Am Tryz.prog 142 := Av Tryz.func142 (by kernel_rfl) rfl
theorem X02 : Am Tryz.prog 143 := Av Tryz.func143 (by kernel_rfl) rfl
theorem X0o : Am Tryz.prog 177 := Av Tryz.func177 (by kernel_rfl) rfl
theorem X01 : Am Tryz.prog 144 := Av Tryz.func144 (by kernel_rfl) rfl
theorem X00 : Am Tryz.prog 145 := Av Tryz.func145 (by kernel_rfl) rfl
theorem Q9q : Am Tryz.prog 92 := Av Tryz.func92 (by kernel_rfl) rfl
set_option maxHeartbeats 400000 in
set_option maxRecDepth 100000 in
theorem Q3j (l : List (List UInt8)) (a : AV) (p : (List UInt8) → Bool) (hl : l.length ≤ 4611686018427387904) (ha : ∀ i, i < l.length → FunV Tryz.prog a [(.str (nth l i))] (.bool (p (nth l i)))) :
  FnV Tryz.prog 155 [(Ct l), (.clo a)] (.int .i64 (Cj p l)) := by
 refine A1 [.tmp 4] Tryz.func155 rfl Tryz.ntmps155 rfl rfl (fun B F hF => ?_)
 refine Aa [] [0, 1] ?_
 refine Ab ?_
 refine Aa [] [0, 1, 7, 8] ?_
 refine A0 ?_
 refine Bq (fun g y => ∃ (i : Nat), i ≤ l.length ∧ (∀ j, j < i → p (nth l j) = false) ∧ y = ⟨[(0, (Ct l)), (1, (.clo a)), (7, (.int .i64 ((l.length : Int)))), (8, (.int .i64 ((i : Int))))], [], 0⟩ ∧ g = l.length - i) [0, 1, 7, 8] 0 _ (by omega) ⟨0, (by omega), (by exact fun j hj => by omega), (by kernel_rfl), rfl⟩ ?_
 rintro g1 y1 ⟨i, f1_1, f1_2, rfl, rfl⟩
 refine Aa [] [0, 1, 7, 8, 9] ?_
 refine Ab ?_
 refine A2 (p := (i : Int) < (l.length : Int)) (by kernel_rfl) (fun c1 => ?_) (fun c1 => ?_)
 ·refine Ag ?_
  refine Ab ?_
  refine A0 ?_
  refine Aa [] [0, 1, 5, 7, 8] ?_
  refine Ab ?_
  refine Ar ?_
  refine Bv 5 0 [] [0, 1, 5, 7, 8, 11, 15] [] hk0 v0 (cc 3 (p := (0 ≤ (i : Int) ∧ i < l.length)) (by first | omega | (simp; omega) | (simp; done) | (intros; simp_all; omega) | (intros; simp_all; done)) <| c0) ?_
  refine G3 (s' := [(0, (Ct l)), (1, (.clo a)), (5, (.int .i64 ((i : Int)))), (7, (.int .i64 ((l.length : Int)))), (8, (.int .i64 ((i : Int)))), (11, (.clo a)), (15, (.str (nth l i))), (16, (.bool (p (nth l i))))]) (a := (.clo a)) (al := [(.str (nth l i))]) (r := (.bool (p (nth l i)))) (by kernel_rfl) (by kernel_rfl) (by kernel_rfl) (by kernel_rfl) (by kernel_rfl) ((ha i (by omega)).clo) (by kernel_rfl) ?_
  refine B2 ?_
  refine A3 (q := p (nth l i)) (by kernel_rfl) (fun c2 => ?_) (fun c2 => ?_)
  ·try simp only [Bool.and_eq_true, Bool.or_eq_true, Bool.and_eq_false_iff, Bool.or_eq_false_iff, Bool.not_eq_true', Bool.not_eq_false', decide_eq_true_eq, decide_eq_false_iff_not] at c2
   refine Aa [] [4] ?_
   refine Af ?_
   refine RK wR [(.int .i64 ((i : Int)))] ?_
   exact Same.of_eq (by rw [Js (by omega) f1_2 (by simp_all)]; rfl)
  ·try simp only [Bool.and_eq_true, Bool.or_eq_true, Bool.and_eq_false_iff, Bool.or_eq_false_iff, Bool.not_eq_true', Bool.not_eq_false', decide_eq_true_eq, decide_eq_false_iff_not] at c2
   refine Ag ?_
   refine Ar ?_
   refine Aw 0 [] [0, 1, 7, 8] [] hk0 v0 (cc 0 (p := (-9223372036854775808 ≤ (i : Int) + 1 ∧ (i : Int) + 1 ≤ 9223372036854775807)) (by first | omega | (simp; omega) | (simp; done) | (intros; simp_all; omega) | (intros; simp_all; done)) <| c0) ?_
   refine ⟨by kernel_rfl, _, ?_, i + 1, ?_, ?_, (by kernel_rfl), rfl⟩
   ·omega
   ·omega
   ·intro j hj
    by_cases h : j = i
    ·subst h; simp_all
    ·exact f1_2 j (by omega)
 ·refine Bj ?_
  refine Aa [] [4] ?_
  refine Af ?_
  refine RK wR [(.int .i64 (-1))] ?_
  exact Same.of_eq (by rw [Jr (fun j hj => f1_2 j (by omega))]; rfl)
set_option maxHeartbeats 400000 in
set_option maxRecDepth 100000 in
theorem Q3k (l : List (List UInt8)) (a : AV) (p : (List UInt8) → Bool) (hl : l.length ≤ 4611686018427387904) (ha : ∀ i, i < l.length → FunV Tryz.prog a [(.str (nth l i))] (.bool (p (nth l i)))) :
  FnV Tryz.prog 104 [(Ct l), (.clo a)] (.bool (l.any p)) := by
 refine A1 [.tmp 4] Tryz.func104 rfl Tryz.ntmps104 rfl rfl (fun B F hF => ?_)
 refine Aa [] [0, 1] ?_
 refine Ad [] [4] [] (hk 2 X0u (Q3j l a p hl ha) <| hk0) v0 c0 ?_
 refine Af ?_
 refine RK wR [(.bool (decide (0 ≤ (Cj p l))))] ?_
 exact Same.of_eq (by simp only [Ah]; rw [K2])
def Fi (i : Nat) (d : DepT) : Bool := decide (C3 d = 0) && ((!(i == 0 || i == 4)) || decide (d.kind = 1)) && ((!(i == 0)) || decide (d.op = 0) || decide (d.op = 2))
def Di (i : Nat) (l : List DepT) : Bool := decide (l.length ≤ 16) && l.all (Fi i)
def El (p : PkgT) : Bool := Di 0 p.provides && Di 1 p.requires && Di 2 p.pre && Di 3 p.conflicts && Di 4 p.obsoletes && Di 5 p.recommends && Di 6 p.supplements
theorem all_nth {α : Type} [Inhabited α] {p : α → Bool} {l : List α} : l.all p = true ↔ ∀ j, j < l.length → p (nth l j) = true := by
 constructor
 ·intro h j hj
  rw [show nth l j = l[j] by simp [nth, hj]]; exact List.all_eq_true.1 h _ (List.getElem_mem hj)
 ·intro h
  refine List.all_eq_true.2 fun x hx => ?_
  obtain ⟨j, hj, rfl⟩ := List.getElem_of_mem hx
  have := h j hj
  rwa [show nth l j = l[j] by simp [nth, hj]] at this
theorem Xs {i : Nat} {l : List DepT} {k : Nat} (h : l.length ≤ 16) (hk : l.length ≤ k) (h2 : ∀ j, j < k → Fi i (nth l j) = true) : Di i l = true := by
 unfold Di
 rw [all_nth.2 fun j hj => h2 j (by omega), decide_eq_true h]; rfl
def PkgT.list (p : PkgT) : Nat → List DepT
 | 0 => p.provides
 | 1 => p.requires
 | 2 => p.pre
 | 3 => p.conflicts
 | 4 => p.obsoletes
 | 5 => p.recommends
 | _ => p.supplements
theorem Q0j {p : PkgT} (i : Nat) (hi : i < 7) (h : Di i (PkgT.list p i) = false) : El p = false := by
 have : i = 0 ∨ i = 1 ∨ i = 2 ∨ i = 3 ∨ i = 4 ∨ i = 5 ∨ i = 6 := by omega
 rcases this with rfl | rfl | rfl | rfl | rfl | rfl | rfl <;> (unfold El; simp only [PkgT.list] at h; simp [h])
theorem Q0k {p : PkgT} (i : Nat) (hi : i < 7) (h : 16 < (PkgT.list p i).length) : El p = false := Q0j i hi (by unfold Di; rw [decide_eq_false (by omega)]; rfl)
theorem Pe {p : PkgT} (i : Nat) {j : Nat} (hi : i < 7) (hj : j < (PkgT.list p i).length) (h : Fi i (nth (PkgT.list p i) j) = false) : El p = false := Q0j i hi (by
 unfold Di
 have : (PkgT.list p i).all (Fi i) = false := by
  cases hq : (PkgT.list p i).all (Fi i) with
  | false => rfl
  | true => rw [all_nth.1 hq j hj] at h; cases h
 rw [this, Bool.and_false])
theorem X1q {p : PkgT} (h0 : Di 0 p.provides = true) (h1 : Di 1 p.requires = true) (h2 : Di 2 p.pre = true) (h3 : Di 3 p.conflicts = true) (h4 : Di 4 p.obsoletes = true) (h5 : Di 5 p.recommends = true) (h6 : Di 6 p.supplements = true) : El p = true := by
 unfold El; rw [h0, h1, h2, h3, h4, h5, h6]; rfl
theorem Nq {i : Nat} (h : i < 7) : i = 0 ∨ i = 1 ∨ i = 2 ∨ i = 3 ∨ i = 4 ∨ i = 5 ∨ i = 6 := by omega
theorem Q0l {p : PkgT} (h : ∀ j, j < 7 → Di j (PkgT.list p j) = true) : El p = true := X1q (h 0 (by omega)) (h 1 (by omega)) (h 2 (by omega)) (h 3 (by omega)) (h 4 (by omega)) (h 5 (by omega)) (h 6 (by omega))
theorem Xq {p : PkgT} (h : p.depSize ≤ 4194304) {i k : Nat} (hi : i < 7) (hk : k < (PkgT.list p i).length) : (nth (PkgT.list p i) k).size ≤ 4194304 := by
 have h1 := My hk
 unfold PkgT.depSize at h
 rcases Nq hi with rfl | rfl | rfl | rfl | rfl | rfl | rfl <;> (simp only [PkgT.list] at h1 ⊢; omega)
theorem Xr {p : PkgT} (h : p.depSize ≤ 4194304) {i : Nat} (hi : i < 7) : (PkgT.list p i).length ≤ 4194304 := by
 unfold PkgT.depSize at h
 have h0 := Ew p.provides
 have h1 := Ew p.requires
 have h2 := Ew p.pre
 have h3 := Ew p.conflicts
 have h4 := Ew p.obsoletes
 have h5 := Ew p.recommends
 have h6 := Ew p.supplements
 rcases Nq hi with rfl | rfl | rfl | rfl | rfl | rfl | rfl <;> (simp only [PkgT.list]; omega)
set_option maxHeartbeats 400000 in
set_option maxRecDepth 100000 in
theorem Q71 (p : PkgT) :
  FnV Tryz.prog 107 [(.fp (Aq p))] (.row 1 7 (fun i => .fp (Ai 5 A9 (PkgT.list p i)))) := by
 refine A1 [.tmp 2] Tryz.func107 rfl Tryz.ntmps107 rfl rfl (fun B F hF => ?_)
 refine Aa [] [0] ?_
 refine Cn [] [2] [] hk0 v0 c0 ?_
 refine Af ?_
 refine RK wR [(.row 1 7 (fun ix => (Em 1 7 [(.fp (Ai 5 A9 p.provides)), (.fp (Ai 5 A9 p.requires)), (.fp (Ai 5 A9 p.pre)), (.fp (Ai 5 A9 p.conflicts)), (.fp (Ai 5 A9 p.obsoletes)), (.fp (Ai 5 A9 p.recommends)), (.fp (Ai 5 A9 p.supplements))]).getD ix Bl))] ?_
 simp only [Ah]
 exact (Imp.row fun i hi => Imp.of_eq (by rcases Nq hi with rfl | rfl | rfl | rfl | rfl | rfl | rfl <;> rfl)).same
set_option maxHeartbeats 400000 in
set_option maxRecDepth 100000 in
theorem Q5a (p : PkgT) :
  FnV Tryz.prog 177 [(Aq p)] (.row 1 7 (fun i => Ai 5 A9 (PkgT.list p i))) := by
 refine A1 [.tmp 2] Tryz.func177 rfl Tryz.ntmps177 rfl rfl (fun B F hF => ?_)
 refine Ad [] [1] [(1, 1)] hk0 v0 c0 ?_
 refine Aa [] [2] ?_
 refine Af ?_
 refine RK wR [(.row 1 7 (fun ix => (Em 1 7 [(Ai 5 A9 p.provides), (Ai 5 A9 p.requires), (Ai 5 A9 p.pre), (Ai 5 A9 p.conflicts), (Ai 5 A9 p.obsoletes), (Ai 5 A9 p.recommends), (Ai 5 A9 p.supplements)]).getD ix Bl))] ?_
 simp only [Ah]
 exact (Imp.row fun i hi => Imp.of_eq (by rcases Nq hi with rfl | rfl | rfl | rfl | rfl | rfl | rfl <;> rfl)).same
set_option maxHeartbeats 1000000 in
set_option maxRecDepth 100000 in
theorem X1p (p : PkgT) (hs : p.depSize ≤ 4194304) :
  FnV Tryz.prog 103 [(Aq p)] (.bool (El p)) := by
 refine A1 [.tmp 2] Tryz.func103 rfl Tryz.ntmps103 rfl rfl (fun B F hF => ?_)
 refine Ad [] [1] [(1, 1)] hk0 v0 c0 ?_
 refine Ab ?_
 refine Ad [] [8, 9, 10] [] (hk 0 Q0g (Q71 p) <| hk0) v0 c0 ?_
 refine A0 ?_
 refine Bq (fun g y => ∃ (i : Nat), i ≤ 7 ∧ (∀ j, j < i → Di j (PkgT.list p j) = true) ∧ y = ⟨[(8, (.row 1 7 (fun i => .fp (Ai 5 A9 (PkgT.list p i))))), (9, (.int .i64 7)), (10, (.int .i64 ((i : Int))))], [], 1⟩ ∧ g = 7 - i) [8, 9, 10] 1 _ (by omega) ⟨0, (by omega), (by exact fun j hj => by omega), (by kernel_rfl), rfl⟩ ?_
 rintro g1 y1 ⟨i, f1_1, f1_2, rfl, rfl⟩
 refine Aa [] [8, 9, 10, 11] ?_
 refine Ab ?_
 refine A2 (p := (i : Int) < 7) (by kernel_rfl) (fun c1 => ?_) (fun c1 => ?_)
 ·have hi0 : ((i : Int) = 0) = (i = 0) := by rw [eq_iff_iff]; omega
  have hi4 : ((i : Int) = 4) = (i = 4) := by rw [eq_iff_iff]; omega
  have hll := Xr hs (i := i) (by omega)
  refine Ag ?_
  refine Ab ?_
  refine A0 ?_
  refine Ad [] [3, 4, 8, 9, 10] [] hk0 v0 (cc 1 (p := (0 ≤ (i : Int) ∧ i < 7)) (by first | omega | (simp; omega) | (simp; done) | (intros; simp_all; omega) | (intros; simp_all; done)) <| c0) ?_
  refine Ab ?_
  refine Aa [] [3, 4, 8, 9, 10, 19] ?_
  refine A2 (p := 16 < ((PkgT.list p i).length : Int)) (by kernel_rfl) (fun c2 => ?_) (fun c2 => ?_)
  ·refine Aa [] [2] ?_
   refine Af ?_
   refine RK wR [(.bool false)] ?_
   exact Same.of_eq (by rw [Q0k i (by omega) (by omega)]; rfl)
  ·refine Ag ?_
   refine Aa [] [3, 8, 9, 10, 22, 23, 24] ?_
   refine A0 ?_
   refine Bq (fun g y => ∃ (k : Nat), k ≤ (PkgT.list p i).length ∧ (∀ j, j < k → Fi i (nth (PkgT.list p i) j) = true) ∧ y = ⟨[(3, (.int .i64 ((i : Int)))), (8, (.row 1 7 (fun i => .fp (Ai 5 A9 (PkgT.list p i))))), (9, (.int .i64 7)), (10, (.int .i64 ((i : Int)))), (22, (Ai 5 A9 (PkgT.list p i))), (23, (.int .i64 (((PkgT.list p i).length : Int)))), (24, (.int .i64 ((k : Int))))], [], 1⟩ ∧ g = (PkgT.list p i).length - k) [3, 8, 9, 10, 22, 23, 24] 1 _ (by omega) ⟨0, (by omega), (by exact fun j hj => by omega), (by kernel_rfl), rfl⟩ ?_
   rintro g2 y2 ⟨k, f2_1, f2_2, rfl, rfl⟩
   refine Aa [] [3, 8, 9, 10, 22, 23, 24, 25] ?_
   refine Ab ?_
   refine A2 (p := (k : Int) < ((PkgT.list p i).length : Int)) (by kernel_rfl) (fun c3 => ?_) (fun c3 => ?_)
   ·refine Ag ?_
    refine Ab ?_
    refine A0 ?_
    refine Ad [] [3, 6, 8, 9, 10, 22, 23, 24] [] hk0 v0 (cc 0 (p := (0 ≤ (k : Int) ∧ k < (PkgT.list p i).length)) (by first | omega | (simp; omega) | (simp; done) | (intros; simp_all; omega) | (intros; simp_all; done)) <| c0) ?_
    obtain ⟨b1, hb1⟩ : ∃ b, b = (!decide ((i : Int) = 0)) := ⟨_, rfl⟩
    obtain ⟨b2, hb2⟩ : ∃ b, b = (b1 && (!decide ((i : Int) = 4))) := ⟨_, rfl⟩
    obtain ⟨b3, hb3⟩ : ∃ b, b = (b2 || (decide (((nth (PkgT.list p i) k).kind) = 1))) := ⟨_, rfl⟩
    have qh1 : ((b1 = true → b1 = true)) ∧ ((b1 = true → b1 = true)) ∧ (((!b2) = true → (!b2) = true)) ∧ (((!b2) = true → (!b2) = true)) ∧ ((b2 = false → (!b2) = true)) := by
     first | omega | (simp; done) | (by_cases a1 : C3 (nth (PkgT.list p i) k) = 0 <;> by_cases a2 : DepT.kind (nth (PkgT.list p i) k) = 1 <;> by_cases a3 : DepT.op (nth (PkgT.list p i) k) = 0 <;> by_cases a4 : DepT.op (nth (PkgT.list p i) k) = 2 <;> by_cases b0 : i = 0 <;> by_cases b4 : i = 4 <;> simp_all)
    refine Ad [31, 32, 35, 36, 37] [3, 6, 7, 8, 9, 10, 22, 23, 24] [(0, 6)] hk0 (vk 3 30 (a := .bool (!decide ((i : Int) = 0))) (b := .bool b1) (Imp.of_eq (by rw [hb1])) <| vk 7 34 (a := .bool (b1 && (!decide ((i : Int) = 4)))) (b := .bool b2) (Imp.of_eq (by rw [hb2])) <| vk 11 38 (a := .bool (b2 || (decide (((nth (PkgT.list p i) k).kind) = 1)))) (b := .bool b3) (Imp.of_eq (by rw [hb3])) <| v0) (cc 4 (p := (b1 = true → b1 = true)) qh1.1 <| cc 5 (p := (b1 = true → b1 = true)) qh1.2.1 <| cc 8 (p := ((!b2) = true → (!b2) = true)) qh1.2.2.1 <| cc 9 (p := ((!b2) = true → (!b2) = true)) qh1.2.2.2.1 <| cc 10 (p := (b2 = false → (!b2) = true)) qh1.2.2.2.2 <| c0) ?_
    obtain ⟨b4, hb4⟩ : ∃ b, b = ((!b3) || (!decide ((C3 (nth (PkgT.list p i) k)) = 0))) := ⟨_, rfl⟩
    have qh2 : (((!(!b3)) = true → (!(!b3)) = true)) ∧ (((!b3) = false → (!(!b3)) = true)) ∧ (((!b4) = true → (!b4) = true)) ∧ (((!b4) = true → (!b4) = true)) ∧ ((((!b4) && (decide ((i : Int) = 0))) = true → ((!b4) && (decide ((i : Int) = 0))) = true)) ∧ ((((!b4) && (decide ((i : Int) = 0))) = true → ((!b4) && (decide ((i : Int) = 0))) = true)) ∧ (((!b4) = true → ((!b4) = true) ∧ ((decide ((i : Int) = 0)) = true → ((!b4) && (decide ((i : Int) = 0))) = true))) ∧ (((!b4) = true → (!b4) = true)) ∧ ((((!b4) && ((decide ((i : Int) = 0)) && (!decide (((nth (PkgT.list p i) k).op) = 0)))) = true → ((!b4) && ((decide ((i : Int) = 0)) && (!decide (((nth (PkgT.list p i) k).op) = 0)))) = true)) ∧ ((((!b4) && ((decide ((i : Int) = 0)) && (!decide (((nth (PkgT.list p i) k).op) = 0)))) = true → ((!b4) && ((decide ((i : Int) = 0)) && (!decide (((nth (PkgT.list p i) k).op) = 0)))) = true)) ∧ (((!b4) = true → ((!b4) = true) ∧ (((decide ((i : Int) = 0)) && (!decide (((nth (PkgT.list p i) k).op) = 0))) = true → ((!b4) && ((decide ((i : Int) = 0)) && (!decide (((nth (PkgT.list p i) k).op) = 0)))) = true))) ∧ ((b4 = false → (!b4) = true)) := by
     first | omega | (simp; done) | (by_cases a1 : C3 (nth (PkgT.list p i) k) = 0 <;> by_cases a2 : DepT.kind (nth (PkgT.list p i) k) = 1 <;> by_cases a3 : DepT.op (nth (PkgT.list p i) k) = 0 <;> by_cases a4 : DepT.op (nth (PkgT.list p i) k) = 2 <;> by_cases b0 : i = 0 <;> by_cases b4 : i = 4 <;> simp_all)
    refine Ad [42, 44, 47, 48, 49, 50, 51, 52, 53, 54, 55, 56, 57, 58] [3, 8, 9, 10, 22, 23, 24, 59] [] (hkg 4 (!(!b3)) Sn (fun cg => Q2u (nth (PkgT.list p i) k) (Xq hs (by omega) (by omega))) <| hk0) (vk 7 45 (a := .bool ((!b3) || (!decide ((C3 (nth (PkgT.list p i) k)) = 0)))) (b := .bool b4) (Imp.of_eq (by rw [hb4])) <| v0) (cc 4 (p := (!(!b3)) = true → (!(!b3)) = true) (by first | omega | (simp; omega) | (simp; done) | (intros; simp_all; omega) | (intros; simp_all; done)) <| cc 5 (p := ((!(!b3)) = true → (!(!b3)) = true)) qh2.1 <| cc 6 (p := ((!b3) = false → (!(!b3)) = true)) qh2.2.1 <| cc 9 (p := ((!b4) = true → (!b4) = true)) qh2.2.2.1 <| cc 10 (p := ((!b4) = true → (!b4) = true)) qh2.2.2.2.1 <| cc 12 (p := (((!b4) && (decide ((i : Int) = 0))) = true → ((!b4) && (decide ((i : Int) = 0))) = true)) qh2.2.2.2.2.1 <| cc 13 (p := (((!b4) && (decide ((i : Int) = 0))) = true → ((!b4) && (decide ((i : Int) = 0))) = true)) qh2.2.2.2.2.2.1 <| cc 14 (p := ((!b4) = true → ((!b4) = true) ∧ ((decide ((i : Int) = 0)) = true → ((!b4) && (decide ((i : Int) = 0))) = true))) qh2.2.2.2.2.2.2.1 <| cc 15 (p := ((!b4) = true → (!b4) = true)) qh2.2.2.2.2.2.2.2.1 <| cc 17 (p := (((!b4) && ((decide ((i : Int) = 0)) && (!decide (((nth (PkgT.list p i) k).op) = 0)))) = true → ((!b4) && ((decide ((i : Int) = 0)) && (!decide (((nth (PkgT.list p i) k).op) = 0)))) = true)) qh2.2.2.2.2.2.2.2.2.1 <| cc 18 (p := (((!b4) && ((decide ((i : Int) = 0)) && (!decide (((nth (PkgT.list p i) k).op) = 0)))) = true → ((!b4) && ((decide ((i : Int) = 0)) && (!decide (((nth (PkgT.list p i) k).op) = 0)))) = true)) qh2.2.2.2.2.2.2.2.2.2.1 <| cc 19 (p := ((!b4) = true → ((!b4) = true) ∧ (((decide ((i : Int) = 0)) && (!decide (((nth (PkgT.list p i) k).op) = 0))) = true → ((!b4) && ((decide ((i : Int) = 0)) && (!decide (((nth (PkgT.list p i) k).op) = 0)))) = true))) qh2.2.2.2.2.2.2.2.2.2.2.1 <| cc 20 (p := (b4 = false → (!b4) = true)) qh2.2.2.2.2.2.2.2.2.2.2.2 <| c0) ?_
    refine A3 (q := b4 || (((decide ((i : Int) = 0)) && (!decide (((nth (PkgT.list p i) k).op) = 0))) && (!decide (((nth (PkgT.list p i) k).op) = 2)))) (by kernel_rfl) (fun c4 => ?_) (fun c4 => ?_)
    ·subst hb4 hb3 hb2 hb1
     try simp only [Bool.and_eq_true, Bool.or_eq_true, Bool.and_eq_false_iff, Bool.or_eq_false_iff, Bool.not_eq_true', Bool.not_eq_false', decide_eq_true_eq, decide_eq_false_iff_not] at c4
     refine Aa [] [2] ?_
     refine Af ?_
     refine RK wR [(.bool false)] ?_
     exact Same.of_eq (by rw [Pe i (j := k) (by omega) (by omega) (by unfold Fi; by_cases a1 : C3 (nth (PkgT.list p i) k) = 0 <;> by_cases a2 : DepT.kind (nth (PkgT.list p i) k) = 1 <;> by_cases a3 : DepT.op (nth (PkgT.list p i) k) = 0 <;> by_cases a4 : DepT.op (nth (PkgT.list p i) k) = 2 <;> by_cases b0 : i = 0 <;> by_cases b4 : i = 4 <;> simp_all)]; rfl)
    ·subst hb4 hb3 hb2 hb1
     try simp only [Bool.and_eq_true, Bool.or_eq_true, Bool.and_eq_false_iff, Bool.or_eq_false_iff, Bool.not_eq_true', Bool.not_eq_false', decide_eq_true_eq, decide_eq_false_iff_not] at c4
     refine Ag ?_
     refine Ar ?_
     refine Aw 0 [] [3, 8, 9, 10, 22, 23, 24] [] hk0 v0 (cc 0 (p := (-9223372036854775808 ≤ (k : Int) + 1 ∧ (k : Int) + 1 ≤ 9223372036854775807)) (by first | omega | (simp; omega) | (simp; done) | (intros; simp_all; omega) | (intros; simp_all; done)) <| c0) ?_
     refine ⟨by kernel_rfl, _, ?_, k + 1, ?_, ?_, (by kernel_rfl), rfl⟩
     ·omega
     ·omega
     ·intro j hj
      by_cases h : j = k
      ·subst h; unfold Fi; by_cases a1 : C3 (nth (PkgT.list p i) j) = 0 <;> by_cases a2 : DepT.kind (nth (PkgT.list p i) j) = 1 <;> by_cases a3 : DepT.op (nth (PkgT.list p i) j) = 0 <;> by_cases a4 : DepT.op (nth (PkgT.list p i) j) = 2 <;> by_cases b0 : i = 0 <;> by_cases b4 : i = 4 <;> simp_all
      ·exact f2_2 j (by omega)
   ·refine Bj ?_
    refine Ar ?_
    refine Aw 0 [] [8, 9, 10] [] hk0 v0 (cc 0 (p := (-9223372036854775808 ≤ (i : Int) + 1 ∧ (i : Int) + 1 ≤ 9223372036854775807)) (by first | omega | (simp; omega) | (simp; done) | (intros; simp_all; omega) | (intros; simp_all; done)) <| c0) ?_
    refine ⟨by kernel_rfl, _, ?_, i + 1, ?_, ?_, (by kernel_rfl), rfl⟩
    ·omega
    ·omega
    ·intro j hj
     by_cases h : j = i
     ·subst h; exact Xs (k := k) (by omega) (by omega) f2_2
     ·exact f1_2 j (by omega)
 ·refine Bj ?_
  refine Aa [] [2] ?_
  refine Af ?_
  refine RK wR [(.bool true)] ?_
  exact Same.of_eq (by rw [Q0l fun j hj => f1_2 j (by omega)]; rfl)
set_option maxHeartbeats 1000000 in
set_option maxRecDepth 100000 in
theorem Q5e (p : PkgT) (hs : p.depSize ≤ 4194304) :
  FnV Tryz.prog 144 [(Aq p)] (.bool (El p)) := by
 refine A1 [.tmp 2] Tryz.func144 rfl Tryz.ntmps144 rfl rfl (fun B F hF => ?_)
 refine Ad [] [1] [(1, 1)] hk0 v0 c0 ?_
 refine Ad [] [3] [] (hk 1 X0o (Q5a p) <| hk0) v0 c0 ?_
 refine Ab ?_
 refine Aa [] [3, 4] ?_
 refine A0 ?_
 refine Bq (fun g y => ∃ (i : Nat), i ≤ 7 ∧ (∀ j, j < i → Di j (PkgT.list p j) = true) ∧ y = ⟨[(3, (.row 1 7 (fun i => Ai 5 A9 (PkgT.list p i)))), (4, (.int .i64 ((i : Int))))], [], 1⟩ ∧ g = 7 - i) [3, 4] 1 _ (by omega) ⟨0, (by omega), (by exact fun j hj => by omega), (by kernel_rfl), rfl⟩ ?_
 rintro g1 y1 ⟨i, f1_1, f1_2, rfl, rfl⟩
 refine Ab ?_
 refine Aa [] [3, 4, 12] ?_
 refine A2 (p := (i : Int) < 7) (by kernel_rfl) (fun c1 => ?_) (fun c1 => ?_)
 ·have hi0 : ((i : Int) = 0) = (i = 0) := by rw [eq_iff_iff]; omega
  have hi4 : ((i : Int) = 4) = (i = 4) := by rw [eq_iff_iff]; omega
  have hll := Xr hs (i := i) (by omega)
  refine Ag ?_
  refine Ab ?_
  refine A0 ?_
  refine Ab ?_
  refine Ad [] [3, 4, 20] [] hk0 v0 (cc 2 (p := (0 ≤ (i : Int) ∧ i < 7)) (by first | omega | (simp; omega) | (simp; done) | (intros; simp_all; omega) | (intros; simp_all; done)) <| c0) ?_
  refine A2 (p := 16 < ((PkgT.list p i).length : Int)) (by kernel_rfl) (fun c2 => ?_) (fun c2 => ?_)
  ·refine Aa [] [2] ?_
   refine Af ?_
   refine RK wR [(.bool false)] ?_
   exact Same.of_eq (by rw [Q0k i (by omega) (by omega)]; rfl)
  ·refine Ag ?_
   refine Aa [] [3, 4, 5] ?_
   refine A0 ?_
   refine Bq (fun g y => ∃ (k : Nat), k ≤ (PkgT.list p i).length ∧ (∀ j, j < k → Fi i (nth (PkgT.list p i) j) = true) ∧ y = ⟨[(3, (.row 1 7 (fun i => Ai 5 A9 (PkgT.list p i)))), (4, (.int .i64 ((i : Int)))), (5, (.int .i64 ((k : Int))))], [], 1⟩ ∧ g = (PkgT.list p i).length - k) [3, 4, 5] 1 _ (by omega) ⟨0, (by omega), (by exact fun j hj => by omega), (by kernel_rfl), rfl⟩ ?_
   rintro g2 y2 ⟨k, f2_1, f2_2, rfl, rfl⟩
   refine Ab ?_
   refine Ad [] [3, 4, 5, 27] [] hk0 v0 (cc 3 (p := (0 ≤ (i : Int) ∧ i < 7)) (by first | omega | (simp; omega) | (simp; done) | (intros; simp_all; omega) | (intros; simp_all; done)) <| c0) ?_
   refine A2 (p := (k : Int) < ((PkgT.list p i).length : Int)) (by kernel_rfl) (fun c3 => ?_) (fun c3 => ?_)
   ·refine Ag ?_
    refine Ab ?_
    refine A0 ?_
    refine Ad (CS := [(2, (0 ≤ (i : Int) ∧ i < 7)), (5, (0 ≤ (k : Int) ∧ k < (PkgT.list p i).length))]) [] [3, 4, 5, 6] [] hk0 v0 (by refine cc _ ?_ <| cc _ ?_ c0 <;> first | omega | (simp; omega) | (simp; done) | (intros; simp_all; omega) | (intros; simp_all; done)) ?_
    refine Ab ?_
    refine Ad [] [3, 4, 5, 6, 39] [(0, 6)] (hk 1 Zi (Q5g (nth (PkgT.list p i) k) (Xq hs (by omega) (by omega))) <| hk0) v0 c0 ?_
    refine Cm (p := (C3 (nth (PkgT.list p i) k)) = 0) (by kernel_rfl) (fun c4 => ?_) (fun c4 => ?_)
    ·refine Aa [] [2] ?_
     refine Af ?_
     refine RK wR [(.bool false)] ?_
     exact Same.of_eq (by rw [Pe i (j := k) (by omega) (by omega) (by unfold Fi; by_cases a1 : C3 (nth (PkgT.list p i) k) = 0 <;> by_cases a2 : DepT.kind (nth (PkgT.list p i) k) = 1 <;> by_cases a3 : DepT.op (nth (PkgT.list p i) k) = 0 <;> by_cases a4 : DepT.op (nth (PkgT.list p i) k) = 2 <;> by_cases b0 : i = 0 <;> by_cases b4 : i = 4 <;> simp_all)]; rfl)
    ·refine Ag ?_
     refine Ab ?_
     obtain ⟨b1, hb1⟩ : ∃ b, b = (decide ((i : Int) = 0)) := ⟨_, rfl⟩
     obtain ⟨b2, hb2⟩ : ∃ b, b = (b1 || (decide ((i : Int) = 4))) := ⟨_, rfl⟩
     have qh1 : (((!b1) = true → (!b1) = true)) ∧ ((b1 = false → (!b1) = true)) ∧ ((b2 = true → b2 = true)) ∧ ((b2 = true → b2 = true)) ∧ ((b2 = true → b2 = true)) := by
      first | omega | (simp; done) | (by_cases a1 : C3 (nth (PkgT.list p i) k) = 0 <;> by_cases a2 : DepT.kind (nth (PkgT.list p i) k) = 1 <;> by_cases a3 : DepT.op (nth (PkgT.list p i) k) = 0 <;> by_cases a4 : DepT.op (nth (PkgT.list p i) k) = 2 <;> by_cases b0 : i = 0 <;> by_cases b4 : i = 4 <;> simp_all)
     refine Ad [43, 44, 47, 48, 49] [3, 4, 5, 6, 50] [] hk0 (vk 3 42 (a := .bool (decide ((i : Int) = 0))) (b := .bool b1) (Imp.of_eq (by rw [hb1])) <| vk 7 46 (a := .bool (b1 || (decide ((i : Int) = 4)))) (b := .bool b2) (Imp.of_eq (by rw [hb2])) <| v0) (cc 4 (p := ((!b1) = true → (!b1) = true)) qh1.1 <| cc 5 (p := (b1 = false → (!b1) = true)) qh1.2.1 <| cc 8 (p := (b2 = true → b2 = true)) qh1.2.2.1 <| cc 9 (p := (b2 = true → b2 = true)) qh1.2.2.2.1 <| cc 10 (p := (b2 = true → b2 = true)) qh1.2.2.2.2 <| c0) ?_
     refine A3 (q := b2 && (!decide (((nth (PkgT.list p i) k).kind) = 1))) (by kernel_rfl) (fun c5 => ?_) (fun c5 => ?_)
     ·subst hb2 hb1
      try simp only [Bool.and_eq_true, Bool.or_eq_true, Bool.and_eq_false_iff, Bool.or_eq_false_iff, Bool.not_eq_true', Bool.not_eq_false', decide_eq_true_eq, decide_eq_false_iff_not] at c5
      refine Aa [] [2] ?_
      refine Af ?_
      refine RK wR [(.bool false)] ?_
      exact Same.of_eq (by rw [Pe i (j := k) (by omega) (by omega) (by unfold Fi; by_cases a1 : C3 (nth (PkgT.list p i) k) = 0 <;> by_cases a2 : DepT.kind (nth (PkgT.list p i) k) = 1 <;> by_cases a3 : DepT.op (nth (PkgT.list p i) k) = 0 <;> by_cases a4 : DepT.op (nth (PkgT.list p i) k) = 2 <;> by_cases b0 : i = 0 <;> by_cases b4 : i = 4 <;> simp_all)]; rfl)
     ·subst hb2 hb1
      try simp only [Bool.and_eq_true, Bool.or_eq_true, Bool.and_eq_false_iff, Bool.or_eq_false_iff, Bool.not_eq_true', Bool.not_eq_false', decide_eq_true_eq, decide_eq_false_iff_not] at c5
      refine Ag ?_
      obtain ⟨b3, hb3⟩ : ∃ b, b = (decide ((i : Int) = 0)) := ⟨_, rfl⟩
      obtain ⟨b4, hb4⟩ : ∃ b, b = (b3 && (!decide (((nth (PkgT.list p i) k).op) = 0))) := ⟨_, rfl⟩
      have qh2 : ((b3 = true → b3 = true)) ∧ ((b3 = true → b3 = true)) ∧ ((b3 = true → b3 = true)) ∧ ((b4 = true → b4 = true)) ∧ ((b4 = true → b4 = true)) ∧ ((b4 = true → b4 = true)) := by
       first | omega | (simp; done) | (by_cases a1 : C3 (nth (PkgT.list p i) k) = 0 <;> by_cases a2 : DepT.kind (nth (PkgT.list p i) k) = 1 <;> by_cases a3 : DepT.op (nth (PkgT.list p i) k) = 0 <;> by_cases a4 : DepT.op (nth (PkgT.list p i) k) = 2 <;> by_cases b0 : i = 0 <;> by_cases b4 : i = 4 <;> simp_all)
      refine Ad [54, 55, 56, 59, 60, 61] [3, 4, 5, 62] [] hk0 (vk 3 53 (a := .bool (decide ((i : Int) = 0))) (b := .bool b3) (Imp.of_eq (by rw [hb3])) <| vk 7 57 (a := .bool (b3 && (!decide (((nth (PkgT.list p i) k).op) = 0)))) (b := .bool b4) (Imp.of_eq (by rw [hb4])) <| v0) (cc 4 (p := (b3 = true → b3 = true)) qh2.1 <| cc 5 (p := (b3 = true → b3 = true)) qh2.2.1 <| cc 6 (p := (b3 = true → b3 = true)) qh2.2.2.1 <| cc 9 (p := (b4 = true → b4 = true)) qh2.2.2.2.1 <| cc 10 (p := (b4 = true → b4 = true)) qh2.2.2.2.2.1 <| cc 11 (p := (b4 = true → b4 = true)) qh2.2.2.2.2.2 <| c0) ?_
      refine A3 (q := b4 && (!decide (((nth (PkgT.list p i) k).op) = 2))) (by kernel_rfl) (fun c6 => ?_) (fun c6 => ?_)
      ·subst hb4 hb3
       try simp only [Bool.and_eq_true, Bool.or_eq_true, Bool.and_eq_false_iff, Bool.or_eq_false_iff, Bool.not_eq_true', Bool.not_eq_false', decide_eq_true_eq, decide_eq_false_iff_not] at c6
       refine Aa [] [2] ?_
       refine Af ?_
       refine RK wR [(.bool false)] ?_
       exact Same.of_eq (by rw [Pe i (j := k) (by omega) (by omega) (by unfold Fi; by_cases a1 : C3 (nth (PkgT.list p i) k) = 0 <;> by_cases a2 : DepT.kind (nth (PkgT.list p i) k) = 1 <;> by_cases a3 : DepT.op (nth (PkgT.list p i) k) = 0 <;> by_cases a4 : DepT.op (nth (PkgT.list p i) k) = 2 <;> by_cases b0 : i = 0 <;> by_cases b4 : i = 4 <;> simp_all)]; rfl)
      ·subst hb4 hb3
       try simp only [Bool.and_eq_true, Bool.or_eq_true, Bool.and_eq_false_iff, Bool.or_eq_false_iff, Bool.not_eq_true', Bool.not_eq_false', decide_eq_true_eq, decide_eq_false_iff_not] at c6
       refine Ag ?_
       refine Ar ?_
       refine Aw 0 [] [3, 4, 5] [] hk0 v0 (cc 1 (p := (-9223372036854775808 ≤ (k : Int) + 1 ∧ (k : Int) + 1 ≤ 9223372036854775807)) (by first | omega | (simp; omega) | (simp; done) | (intros; simp_all; omega) | (intros; simp_all; done)) <| c0) ?_
       refine ⟨by kernel_rfl, _, ?_, k + 1, ?_, ?_, (by kernel_rfl), rfl⟩
       ·omega
       ·omega
       ·intro j hj
        by_cases h : j = k
        ·subst h; unfold Fi; by_cases a1 : C3 (nth (PkgT.list p i) j) = 0 <;> by_cases a2 : DepT.kind (nth (PkgT.list p i) j) = 1 <;> by_cases a3 : DepT.op (nth (PkgT.list p i) j) = 0 <;> by_cases a4 : DepT.op (nth (PkgT.list p i) j) = 2 <;> by_cases b0 : i = 0 <;> by_cases b4 : i = 4 <;> simp_all
        ·exact f2_2 j (by omega)
   ·refine Bj ?_
    refine Ar ?_
    refine Aw 0 [] [3, 4] [] hk0 v0 (cc 1 (p := (-9223372036854775808 ≤ (i : Int) + 1 ∧ (i : Int) + 1 ≤ 9223372036854775807)) (by first | omega | (simp; omega) | (simp; done) | (intros; simp_all; omega) | (intros; simp_all; done)) <| c0) ?_
    refine ⟨by kernel_rfl, _, ?_, i + 1, ?_, ?_, (by kernel_rfl), rfl⟩
    ·omega
    ·omega
    ·intro j hj
     by_cases h : j = i
     ·subst h; exact Xs (k := k) (by omega) (by omega) f2_2
     ·exact f1_2 j (by omega)
 ·refine Bj ?_
  refine Aa [] [2] ?_
  refine Af ?_
  refine RK wR [(.bool true)] ?_
  exact Same.of_eq (by rw [Q0l fun j hj => f1_2 j (by omega)]; rfl)
end Sv
end Go.Proofs.YtlfjokcbkopfeaaGreatDoor
end
section
namespace Go.Proofs.YtlfjokcbkopfeaaGreatDoor
open Go Go.RowKit
namespace Sv
attribute [local irreducible] SW SO Bg
def E0 (x : Nat) : Bool := (decide (97 ≤ x) && decide (x ≤ 122)) || (decide (48 ≤ x) && decide (x ≤ 57)) || decide (x = 95)
def E2 (x : Nat) : Bool := decide (32 ≤ x) && decide (x ≤ 126)
def F3 (s : List UInt8) (most : Int) (q : Nat → Bool) : Bool := decide ((s.length : Int) ≤ most) && decide (Lib.idxFunc (fun x => !q x) true ⟨s.toArray⟩ < 0)
theorem Q1v (s : List UInt8) (most : Int) {q : Nat → Bool} (hq : ∀ r, 128 ≤ r → q r = false) : F3 s most q = (decide ((s.length : Int) ≤ most) && s.all fun b => q b.toNat) := by
 unfold F3; rw [Q8l (fun r hr => by rw [hq r hr]; rfl)]; simp
theorem Q31 (r : Nat) (h : 128 ≤ r) : E0 r = false := by unfold E0; simp; omega
theorem Q4g (r : Nat) (h : 128 ≤ r) : E2 r = false := by unfold E2; simp; omega
theorem Q1t {s : List UInt8} {q : Nat → Bool} {i : Nat} (hi : i < s.length) (h : q (Ae s i).toNat = false) : (s.all fun b => q b.toNat) = false := by
 rw [List.all_eq_false]
 rw [Iw hi] at h
 exact ⟨s[i], List.getElem_mem hi, by simp [h]⟩
theorem Q1s {s : List UInt8} {q : Nat → Bool} {i : Nat} (hi : s.length ≤ i) (h : ∀ j, j < i → q (Ae s j).toNat = true) : (s.all fun b => q b.toNat) = true := by
 rw [List.all_eq_true]
 intro x hx
 obtain ⟨j, hj, rfl⟩ := List.getElem_of_mem hx
 have := h j (by omega)
 rwa [Iw hj] at this
def Iy (s : List UInt8) : Bool := decide (1 ≤ s.length) && decide (s.length ≤ 20) && s.all fun b => E0 b.toNat
def Hl (f : List UInt8) : Bool := Ay f 47 && Bh f
def Gm (s : List UInt8) : Bool := s.all fun b => E2 b.toNat
def Hk (l : List (List UInt8)) : Bool := decide (l.length ≤ 16) && l.all Hl
def Pp (l : List (List UInt8)) : Bool := l.any fun x => !Hl x
def C0 (p : PkgT) : Int :=
 if Bh p.name = false then 60
 else if Bz p.evr ≠ 0 then 61
 else if Iy p.arch = false then 62
 else if (decide (p.vendor.length ≤ 60) && Gm p.vendor) = false then 63
 else if El p = false then 64
 else if Hk p.files = false then 65
 else 0
def Hz (p : PkgT) : Int :=
 if Bh p.name = false then 60
 else if ¬ Bz p.evr = 0 then 61
 else if p.arch = [] ∨ F3 p.arch 20 E0 = false then 62
 else if F3 p.vendor 60 E2 = false then 63
 else if El p = false then 64
 else if (16 : Int) < (p.files.length : Int) ∨ Pp p.files = true then 65
 else 0
theorem Jg (p : PkgT) : Hz p = C0 p := by
 have ha1 : (p.arch = [] ∨ F3 p.arch 20 E0 = false) ↔ Iy p.arch = false := by
  rw [Q1v p.arch 20 Q31]
  unfold Iy
  cases h : p.arch with
  | nil => simp
  | cons a r =>
   rw [show decide (1 ≤ (a :: r).length) = true by simp, Bool.true_and]
   rw [show decide (((a :: r).length : Int) ≤ 20) = decide ((a :: r).length ≤ 20) from decide_eq_decide.2 (by omega)]
   simp
 have ha2 : F3 p.vendor 60 E2 = (decide (p.vendor.length ≤ 60) && Gm p.vendor) := by
  unfold Gm
  rw [Q1v p.vendor 60 Q4g, show decide ((p.vendor.length : Int) ≤ 60) = decide (p.vendor.length ≤ 60) from decide_eq_decide.2 (by omega)]
 have ha3 : ((16 : Int) < (p.files.length : Int) ∨ Pp p.files = true) ↔ Hk p.files = false := by
  unfold Pp Hk
  rw [X22]
  simp only [Bool.and_eq_false_iff, decide_eq_false_iff_not, Bool.not_eq_true']
  constructor
  ·rintro (h | h)
   ·left; omega
   ·exact .inr h
  ·rintro (h | h)
   ·left; omega
   ·exact .inr h
 unfold Hz C0
 simp only [ha1, ha2, ha3]
def Hy (p : PkgT) : Int :=
 if Bh p.name = false then 60
 else if ¬ Bz p.evr = 0 then 61
 else if Iy p.arch = false then 62
 else if Gm p.vendor = false ∨ (60 : Int) < (p.vendor.length : Int) then 63
 else if El p = false then 64
 else if Hk p.files = false then 65
 else 0
theorem Jf (p : PkgT) : Hy p = C0 p := by
 have ha : (Gm p.vendor = false ∨ (60 : Int) < (p.vendor.length : Int)) ↔ (decide (p.vendor.length ≤ 60) && Gm p.vendor) = false := by
  simp only [Bool.and_eq_false_iff, decide_eq_false_iff_not]
  constructor
  ·rintro (h | h)
   ·exact .inr h
   ·left; omega
  ·rintro (h | h)
   ·right; omega
   ·exact .inl h
 unfold Hy C0
 simp only [ha]
theorem Y3 {f : List UInt8} : Hl f = (Bh f && decide (((Ae f 0).toNat : Int) = 47)) := by
 unfold Hl
 cases f with
 | nil => rw [show Bh [] = false by decide]; simp
 | cons a r =>
  have h1 : Ay (a :: r) 47 = decide (a = 47) := by simp [Ay]
  have h2 : Ae (a :: r) 0 = a := by simp [Ae]
  rw [h1, h2, Bool.and_comm]
  congr 1
  refine decide_eq_decide.2 ⟨fun h => by rw [h]; rfl, fun h => UInt8.toNat_inj.1 (by show _ = 47; omega)⟩
set_option maxHeartbeats 400000 in
set_option maxRecDepth 100000 in
theorem Q32 (x : Nat) :
  FnV Tryz.prog 97 [(.int .i32 ((x : Int)))] (.bool (E0 x)) := by
 refine A1 [.tmp 2] Tryz.func97 rfl Tryz.ntmps97 rfl rfl (fun B F hF => ?_)
 refine Aa [] [0] ?_
 obtain ⟨b1, hb1⟩ : ∃ b, b = (decide (97 ≤ (x : Int))) := ⟨_, rfl⟩
 obtain ⟨b2, hb2⟩ : ∃ b, b = (b1 && (decide ((x : Int) ≤ 122))) := ⟨_, rfl⟩
 obtain ⟨b3, hb3⟩ : ∃ b, b = (b2 || ((decide (48 ≤ (x : Int))) && (decide ((x : Int) ≤ 57)))) := ⟨_, rfl⟩
 refine Ad (CS := [(4, (b1 = true → b1 = true)), (5, (b1 = true → b1 = true)), (8, ((!b2) = true → (!b2) = true)), (9, ((!b2) = true → (!b2) = true)), (11, (((!b2) && (decide (48 ≤ (x : Int)))) = true → ((!b2) && (decide (48 ≤ (x : Int)))) = true)), (12, ((!b2) = true → ((!b2) = true) ∧ ((decide (48 ≤ (x : Int))) = true → ((!b2) && (decide (48 ≤ (x : Int)))) = true))), (13, (b2 = false → (!b2) = true)), (16, ((!b3) = true → (!b3) = true)), (17, (b3 = false → (!b3) = true))]) [6, 7, 10, 11, 12, 13, 14, 15, 18, 19] [2] [] hk0 (vk 3 5 (a := .bool (decide (97 ≤ (x : Int)))) (b := .bool b1) (Imp.of_eq (by rw [hb1])) <| vk 7 9 (a := .bool (b1 && (decide ((x : Int) ≤ 122)))) (b := .bool b2) (Imp.of_eq (by rw [hb2])) <| vk 14 16 (a := .bool (b2 || ((decide (48 ≤ (x : Int))) && (decide ((x : Int) ≤ 57))))) (b := .bool b3) (Imp.of_eq (by rw [hb3])) <| v0) (by refine cc _ ?_ <| cc _ ?_ <| cc _ ?_ <| cc _ ?_ <| cc _ ?_ <| cc _ ?_ <| cc _ ?_ <| cc _ ?_ <| cc _ ?_ c0 <;> first | omega | (simp; omega) | (simp; done) | (intros; simp_all; omega) | (intros; simp_all; done)) ?_
 refine Af ?_
 refine RK wR [(.bool (b3 || (decide ((x : Int) = 95))))] ?_
 subst hb3 hb2 hb1
 refine Same.of_eq ?_
 simp only [Ah]
 congr 1
 unfold E0
 rw [Bool.eq_iff_iff]
 simp only [Bool.and_eq_true, Bool.or_eq_true, decide_eq_true_eq]
 omega
set_option maxHeartbeats 400000 in
set_option maxRecDepth 100000 in
theorem Q4h (x : Nat) :
  FnV Tryz.prog 98 [(.int .i32 ((x : Int)))] (.bool (E2 x)) := by
 refine A1 [.tmp 2] Tryz.func98 rfl Tryz.ntmps98 rfl rfl (fun B F hF => ?_)
 refine Aa [] [0] ?_
 obtain ⟨b1, hb1⟩ : ∃ b, b = (decide (32 ≤ (x : Int))) := ⟨_, rfl⟩
 refine Ad (CS := [(4, (b1 = true → b1 = true)), (5, (b1 = true → b1 = true))]) [6, 7] [2] [] hk0 (vk 3 5 (a := .bool (decide (32 ≤ (x : Int)))) (b := .bool b1) (Imp.of_eq (by rw [hb1])) <| v0) (by refine cc _ ?_ <| cc _ ?_ c0 <;> first | omega | (simp; omega) | (simp; done) | (intros; simp_all; omega) | (intros; simp_all; done)) ?_
 refine Af ?_
 refine RK wR [(.bool (b1 && (decide ((x : Int) ≤ 126))))] ?_
 subst hb1
 refine Same.of_eq ?_
 simp only [Ah]
 congr 1
 unfold E2
 rw [Bool.eq_iff_iff]
 simp only [Bool.and_eq_true, Bool.or_eq_true, decide_eq_true_eq]
 omega
set_option maxHeartbeats 400000 in
set_option maxRecDepth 100000 in
theorem Q67 (x : Nat) (a : AV) (q : Nat → Bool) (hx : x ≤ 1114111) (ha : ∀ x : Nat, x ≤ 1114111 → FunV Tryz.prog a [.int .i32 (x : Int)] (.bool (q x))) :
  FnV Tryz.prog 101 [(.int .i32 ((x : Int))), (.fp (.agg [(.clo a)]))] (.bool (!q x)) := by
 refine A1 [.tmp 3] Tryz.func101 rfl Tryz.ntmps101 rfl rfl (fun B F hF => ?_)
 refine Aa [] [0, 1] ?_
 refine Ab ?_
 refine Ar ?_
 refine Bv 2 0 [] [4, 5] [] hk0 v0 c0 ?_
 refine G3 (s' := [(4, (.clo a)), (5, (.int .i32 ((x : Int)))), (6, (.bool (q x)))]) (a := (.clo a)) (al := [(.int .i32 ((x : Int)))]) (r := (.bool (q x))) (by kernel_rfl) (by kernel_rfl) (by kernel_rfl) (by kernel_rfl) (by kernel_rfl) ((ha x hx).clo) (by kernel_rfl) ?_
 refine Aw 3 [] [3] [] hk0 v0 c0 ?_
 refine Af ?_
 refine RK wR [(.bool (!(q x)))] ?_
 exact Same.of_eq (by first | rfl | (simp only [Ah]; simp_all))
set_option maxHeartbeats 400000 in
set_option maxRecDepth 100000 in
theorem Q1q (s : List UInt8) (most : Int) (a : AV) (q : Nat → Bool) (hl : s.length ≤ 9223372036854775807) (ha : ∀ x : Nat, x ≤ 1114111 → FunV Tryz.prog a [.int .i32 (x : Int)] (.bool (q x))) :
  FnV Tryz.prog 99 [(.str s), (.int .i64 most), (.clo a)] (.bool (F3 s most q)) := by
 refine A1 [.tmp 6] Tryz.func99 rfl Tryz.ntmps99 rfl rfl (fun B F hF => ?_)
 refine Aa [] [0, 1, 5] ?_
 refine Ab ?_
 refine Ar ?_
 obtain ⟨b2, hb2⟩ : ∃ b, b = (decide ((s.length : Int) ≤ most)) := ⟨_, rfl⟩
 refine Bv 7 0 [12, 13] [11, 12, 13] [] hk0 (vk 5 11 (a := .bool (decide ((s.length : Int) ≤ most))) (b := .bool b2) (Imp.of_eq (by rw [hb2])) <| v0) c0 ?_
 refine Tt (s' := [(11, (.bool b2)), (12, (.cond b2 (.str s))), (13, (.cond b2 (.fn 101 [] [(.ptr 0 0)]))), (14, (.cond b2 (.int .i64 (Lib.idxFunc (fun x => !q x) true ⟨s.toArray⟩))))]) (q := b2) (al := [(.str s), (.fn 101 [] [(.ptr 0 0)])]) (al' := [(.str s), (.fn 101 [] [(.fp (.agg [(.clo a)]))])]) (h' := []) (r := (.int .i64 (Lib.idxFunc (fun x => !q x) true ⟨s.toArray⟩))) (by kernel_rfl) (by exact X1n) (by kernel_rfl) (Oo (some (b2 = true ∧ b2 = true)) (by kernel_rfl) fun cg => hold (by first | omega | (simp; omega) | (simp; done) | (intros; simp_all; omega) | (intros; simp_all; done))) (by kernel_rfl) (fun cg => X4s s 101 [.fp (.agg [.clo a])] (fun x => !q x) (by exact X1m) rfl (fun x hx => Q67 x a q hx ha)) rfl (by kernel_rfl) ?_
 obtain ⟨b3, hb3⟩ : ∃ b, b = (b2 && (decide ((Lib.idxFunc (fun x => !q x) true ⟨s.toArray⟩) < 0))) := ⟨_, rfl⟩
 refine Aw (CS := [(8, (b2 = true → b2 = true)), (9, (b2 = true → b2 = true))]) 8 [15] [6] [] hk0 (vk 10 16 (a := .bool (b2 && (decide ((Lib.idxFunc (fun x => !q x) true ⟨s.toArray⟩) < 0)))) (b := .bool b3) (Imp.of_eq (by rw [hb3])) <| v0) (by refine cc _ ?_ <| cc _ ?_ c0 <;> first | omega | (simp; omega) | (simp; done) | (intros; simp_all; omega) | (intros; simp_all; done)) ?_
 refine Af ?_
 refine RK wR [(.bool b3)] ?_
 subst hb3 hb2
 exact Same.of_eq (by first | rfl | (simp only [Ah]; simp_all))
set_option maxHeartbeats 400000 in
set_option maxRecDepth 100000 in
theorem Q9c (s : List UInt8) (hl : s.length ≤ 9223372036854775807) :
  FnV Tryz.prog 105 [(.str s)] (.bool (!Hl s)) := by
 refine A1 [.tmp 2] Tryz.func105 rfl Tryz.ntmps105 rfl rfl (fun B F hF => ?_)
 refine Aa [] [0] ?_
 refine Ad (CS := [(5, (!(!(Ay s 47))) = true → (!(!(Ay s 47))) = true), (6, ((!(!(Ay s 47))) = true → (!(!(Ay s 47))) = true)), (7, ((!(Ay s 47)) = false → (!(!(Ay s 47))) = true))]) [7, 9] [2] [] (hk 1 Ld (Nb s 47 hl) <| hkg 5 (!(!(Ay s 47))) Mr (fun cg => P2 s hl) <| hk0) v0 (by refine cc _ ?_ <| cc _ ?_ <| cc _ ?_ c0 <;> first | omega | (simp; omega) | (simp; done) | (intros; simp_all; omega) | (intros; simp_all; done)) ?_
 refine Af ?_
 refine RK wR [(.bool ((!(Ay s 47)) || (!(Bh s))))] ?_
 exact Same.of_eq (by simp only [Ah]; congr 1; unfold Hl; cases Ay s 47 <;> cases Bh s <;> rfl)
set_option maxHeartbeats 1000000 in
set_option maxRecDepth 100000 in
theorem X43 (p : PkgT) (hs : p.size ≤ 4194304) :
  FnV Tryz.prog 50 [(Aq p)] (.int .i64 (C0 p)) := by
 have hsz := p.sizes
 have hfl := Jw p.files
 refine A1 [.tmp 2] Tryz.func50 rfl Tryz.ntmps50 rfl rfl (fun B F hF => ?_)
 refine Ad [] [1] [(1, 1)] hk0 v0 c0 ?_
 refine Aa [] [1, 3] ?_
 refine Aa [] [1, 3, 4] ?_
 refine Aa [] [1, 3, 4, 5] ?_
 refine Ad [] [1, 3, 4, 5, 7] [(8, 6)] (hk 2 Mu (O6 p.evr (by omega)) <| hk0) v0 c0 ?_
 refine Ab ?_
 refine A0 ?_
 refine Ad [] [1, 3, 4, 5, 7, 14] [] (hk 2 Mr (P2 p.name (by omega)) <| hk0) v0 c0 ?_
 refine A3 (q := !(Bh p.name)) (by kernel_rfl) (fun c1 => ?_) (fun c1 => ?_)
 ·try simp only [Bool.and_eq_true, Bool.or_eq_true, Bool.and_eq_false_iff, Bool.or_eq_false_iff, Bool.not_eq_true', Bool.not_eq_false', decide_eq_true_eq, decide_eq_false_iff_not] at c1
  refine Aa [] [2] ?_
  refine Af ?_
  refine RK wR [(.int .i64 60)] ?_
  refine Same.of_eq ?_
  simp only [Ah]
  congr 1
  rw [← Jg]
  unfold Hz
  simp_all
 ·try simp only [Bool.and_eq_true, Bool.or_eq_true, Bool.and_eq_false_iff, Bool.or_eq_false_iff, Bool.not_eq_true', Bool.not_eq_false', decide_eq_true_eq, decide_eq_false_iff_not] at c1
  refine Aa [] [1, 3, 4, 5, 19] ?_
  refine Cm (p := (Bz p.evr) = 0) (by kernel_rfl) (fun c2 => ?_) (fun c2 => ?_)
  ·refine Aa [] [2] ?_
   refine Af ?_
   refine RK wR [(.int .i64 61)] ?_
   refine Same.of_eq ?_
   simp only [Ah]
   congr 1
   rw [← Jg]
   unfold Hz
   simp_all
  ·refine Ab ?_
   refine Ar ?_
   obtain ⟨b2, hb2⟩ : ∃ b, b = (decide (p.arch = [])) := ⟨_, rfl⟩
   refine Bv 8 0 [27, 28, 29, 30] [1, 4, 5, 26, 27, 29, 30] [] hk0 (vk 4 26 (a := .bool (decide (p.arch = []))) (b := .bool b2) (Imp.of_eq (by rw [hb2])) <| v0) (cc 6 (p := ((!b2) = true → (!b2) = true)) (by first | omega | (simp; omega) | (simp; done) | (intros; simp_all; omega) | (intros; simp_all; done)) <| c0) ?_
   refine X3z (s' := [(1, (.fp (Aq p))), (4, (.fn 98 [] [])), (5, (.fn 99 [] [])), (26, (.bool b2)), (27, (.cond (!b2) (.fn 99 [] []))), (29, (.cond (!b2) (.str p.arch))), (30, (.cond (!b2) (.fn 97 [] []))), (31, (.cond (!b2) (.bool (F3 p.arch 20 E0))))]) (q := !b2) (al := [(.str p.arch), (.int .i64 20), (.fn 97 [] [])]) (f := 99) (cap := []) (r := (.bool (F3 p.arch 20 E0))) (by kernel_rfl) (fun cg => .inr ⟨!b2, by kernel_rfl, by first | exact cg | simp_all⟩) (by exact Y8) (by kernel_rfl) (Oo (some ((!b2) = true ∧ (!b2) = true)) (by kernel_rfl) fun cg => hold (by first | omega | (simp; omega) | (simp; done) | (intros; simp_all; omega) | (intros; simp_all; done))) (by kernel_rfl) (fun cg => (Q1q p.arch 20 (.fn 97 [] []) E0 (by omega) (fun x _ => FunV.of (by exact Q9m) (Q32 x))).of_args (ImpL.cons Imp.refl (ImpL.cons Imp.refl (ImpL.cons (Imp.clo rfl) ImpL.nil)))) (by kernel_rfl) ?_
   refine Aw (CS := [(9, ((!b2) = true → (!b2) = true)), (10, (b2 = false → (!b2) = true))]) 9 [32] [1, 4, 5, 22] [] hk0 v0 (by refine cc _ ?_ <| cc _ ?_ c0 <;> first | omega | (simp; omega) | (simp; done) | (intros; simp_all; omega) | (intros; simp_all; done)) ?_
   refine A3 (q := b2 || (!(F3 p.arch 20 E0))) (by kernel_rfl) (fun c3 => ?_) (fun c3 => ?_)
   ·subst hb2
    try simp only [Bool.and_eq_true, Bool.or_eq_true, Bool.and_eq_false_iff, Bool.or_eq_false_iff, Bool.not_eq_true', Bool.not_eq_false', decide_eq_true_eq, decide_eq_false_iff_not] at c3
    refine Aa [] [2] ?_
    refine Af ?_
    refine RK wR [(.int .i64 62)] ?_
    refine Same.of_eq ?_
    simp only [Ah]
    congr 1
    rw [← Jg]
    unfold Hz
    simp_all
   ·subst hb2
    try simp only [Bool.and_eq_true, Bool.or_eq_true, Bool.and_eq_false_iff, Bool.or_eq_false_iff, Bool.not_eq_true', Bool.not_eq_false', decide_eq_true_eq, decide_eq_false_iff_not] at c3
    refine Ab ?_
    refine Ar ?_
    refine Bv 4 0 [] [1, 35, 37, 38] [] hk0 v0 c0 ?_
    refine X30 (f := 99) (cap := []) (s' := [(1, (.fp (Aq p))), (35, (.fn 99 [] [])), (37, (.str p.vendor)), (38, (.fn 98 [] [])), (39, (.bool (F3 p.vendor 60 E2)))]) (al := [(.str p.vendor), (.int .i64 60), (.fn 98 [] [])]) (r := (.bool (F3 p.vendor 60 E2))) (by kernel_rfl) (by kernel_rfl) (by exact Y8) (by kernel_rfl) (by kernel_rfl) ((Q1q p.vendor 60 (.fn 98 [] []) E2 (by omega) (fun x _ => FunV.of (by exact Q9l) (Q4h x))).of_args (ImpL.cons Imp.refl (ImpL.cons Imp.refl (ImpL.cons (Imp.clo rfl) ImpL.nil)))) (by kernel_rfl) ?_
    refine Aw 5 [] [1, 34] [] hk0 v0 c0 ?_
    refine A3 (q := !(F3 p.vendor 60 E2)) (by kernel_rfl) (fun c4 => ?_) (fun c4 => ?_)
    ·try simp only [Bool.and_eq_true, Bool.or_eq_true, Bool.and_eq_false_iff, Bool.or_eq_false_iff, Bool.not_eq_true', Bool.not_eq_false', decide_eq_true_eq, decide_eq_false_iff_not] at c4
     refine Aa [] [2] ?_
     refine Af ?_
     refine RK wR [(.int .i64 63)] ?_
     refine Same.of_eq ?_
     simp only [Ah]
     congr 1
     rw [← Jg]
     unfold Hz
     simp_all
    ·try simp only [Bool.and_eq_true, Bool.or_eq_true, Bool.and_eq_false_iff, Bool.or_eq_false_iff, Bool.not_eq_true', Bool.not_eq_false', decide_eq_true_eq, decide_eq_false_iff_not] at c4
     refine Ad [] [1, 41] [] (hk 1 X1l (X1p p (by omega)) <| hk0) v0 c0 ?_
     refine A3 (q := !(El p)) (by kernel_rfl) (fun c5 => ?_) (fun c5 => ?_)
     ·try simp only [Bool.and_eq_true, Bool.or_eq_true, Bool.and_eq_false_iff, Bool.or_eq_false_iff, Bool.not_eq_true', Bool.not_eq_false', decide_eq_true_eq, decide_eq_false_iff_not] at c5
      refine Aa [] [2] ?_
      refine Af ?_
      refine RK wR [(.int .i64 64)] ?_
      refine Same.of_eq ?_
      simp only [Ah]
      congr 1
      rw [← Jg]
      unfold Hz
      simp_all
     ·try simp only [Bool.and_eq_true, Bool.or_eq_true, Bool.and_eq_false_iff, Bool.or_eq_false_iff, Bool.not_eq_true', Bool.not_eq_false', decide_eq_true_eq, decide_eq_false_iff_not] at c5
      obtain ⟨b3, hb3⟩ : ∃ b, b = (decide (16 < (p.files.length : Int))) := ⟨_, rfl⟩
      refine Ad (CS := [(6, ((!b3) = true → (!b3) = true)), (7, (!b3) = true → (!b3) = true), (8, (b3 = false → (!b3) = true))]) [51, 52] [45] [] (hkg 7 (!b3) (al := [(Ct p.files), (.fn 105 [] [])]) X1k (fun cg => (Q3k p.files (.fn 105 [] []) (fun x => !Hl x) (by omega) (fun i hi => FunV.of (by exact X1j) (Q9c (nth p.files i) (by have := Sc hi; omega)))).of_args (ImpL.cons Imp.refl (ImpL.cons (Imp.clo rfl) ImpL.nil))) <| hk0) (vk 5 50 (a := .bool (decide (16 < (p.files.length : Int)))) (b := .bool b3) (Imp.of_eq (by rw [hb3])) <| v0) (by refine cc _ ?_ <| cc _ ?_ <| cc _ ?_ c0 <;> first | omega | (simp; omega) | (simp; done) | (intros; simp_all; omega) | (intros; simp_all; done)) ?_
      refine A3 (q := b3 || (Pp p.files)) (by kernel_rfl) (fun c6 => ?_) (fun c6 => ?_)
      ·subst hb3
       try simp only [Bool.and_eq_true, Bool.or_eq_true, Bool.and_eq_false_iff, Bool.or_eq_false_iff, Bool.not_eq_true', Bool.not_eq_false', decide_eq_true_eq, decide_eq_false_iff_not] at c6
       refine Aa [] [2] ?_
       refine Af ?_
       refine RK wR [(.int .i64 65)] ?_
       refine Same.of_eq ?_
       simp only [Ah]
       congr 1
       rw [← Jg]
       unfold Hz
       simp_all
      ·subst hb3
       try simp only [Bool.and_eq_true, Bool.or_eq_true, Bool.and_eq_false_iff, Bool.or_eq_false_iff, Bool.not_eq_true', Bool.not_eq_false', decide_eq_true_eq, decide_eq_false_iff_not] at c6
       refine Ag ?_
       refine Aa [] [2] ?_
       refine Af ?_
       refine RK wR [(.int .i64 0)] ?_
       refine Same.of_eq ?_
       simp only [Ah]
       congr 1
       rw [← Jg]
       unfold Hz
       simp_all
set_option maxHeartbeats 400000 in
set_option maxRecDepth 100000 in
theorem Q5h (s : List UInt8) (hl : s.length ≤ 9223372036854775807) :
  FnV Tryz.prog 142 [(.str s)] (.bool (Iy s)) := by
 refine A1 [.tmp 2] Tryz.func142 rfl Tryz.ntmps142 rfl rfl (fun B F hF => ?_)
 refine Aa [] [0] ?_
 refine Ab ?_
 refine Aa [] [0, 3] ?_
 refine A0 ?_
 refine Bq (fun g y => ∃ (i : Nat), i ≤ s.length ∧ (∀ j, j < i → E0 (Ae s j).toNat = true) ∧ y = ⟨[(0, (.str s)), (3, (.int .i64 ((i : Int))))], [], 0⟩ ∧ g = s.length - i) [0, 3] 0 _ (by omega) ⟨0, (by omega), (by exact fun j hj => by omega), (by kernel_rfl), rfl⟩ ?_
 rintro g1 y1 ⟨i, f1_1, f1_2, rfl, rfl⟩
 refine Ab ?_
 refine Aa [] [0, 3, 8] ?_
 refine A2 (p := (i : Int) < (s.length : Int)) (by kernel_rfl) (fun c1 => ?_) (fun c1 => ?_)
 ·refine Ag ?_
  refine Ab ?_
  refine A0 ?_
  refine Ad [] [0, 3, 4] [] hk0 v0 (cc 2 (p := (0 ≤ (i : Int) ∧ i < s.length)) (by first | omega | (simp; omega) | (simp; done) | (intros; simp_all; omega) | (intros; simp_all; done)) <| c0) ?_
  obtain ⟨b1, hb1⟩ : ∃ b, b = (decide (((Ae s i).toNat : Int) < 97)) := ⟨_, rfl⟩
  obtain ⟨b2, hb2⟩ : ∃ b, b = (b1 || (decide (122 < ((Ae s i).toNat : Int)))) := ⟨_, rfl⟩
  obtain ⟨b3, hb3⟩ : ∃ b, b = (b2 && ((decide (((Ae s i).toNat : Int) < 48)) || (decide (57 < ((Ae s i).toNat : Int))))) := ⟨_, rfl⟩
  refine Ad (CS := [(4, ((!b1) = true → (!b1) = true)), (5, (b1 = false → (!b1) = true)), (8, (b2 = true → b2 = true)), (9, (b2 = true → b2 = true)), (11, ((b2 && (!(decide (((Ae s i).toNat : Int) < 48)))) = true → (b2 && (!(decide (((Ae s i).toNat : Int) < 48)))) = true)), (12, (b2 = true → (b2 = true) ∧ ((decide (((Ae s i).toNat : Int) < 48)) = false → (b2 && (!(decide (((Ae s i).toNat : Int) < 48)))) = true))), (13, (b2 = true → b2 = true)), (16, (b3 = true → b3 = true)), (17, (b3 = true → b3 = true))]) [17, 18, 21, 22, 23, 24, 25, 26, 29, 30] [0, 3, 31] [] hk0 (vk 3 16 (a := .bool (decide (((Ae s i).toNat : Int) < 97))) (b := .bool b1) (Imp.of_eq (by rw [hb1])) <| vk 6 19 (a := .bool (b1 || (decide (122 < ((Ae s i).toNat : Int))))) (b := .bool b2) (Imp.of_eq (by rw [hb2])) <| vk 14 27 (a := .bool (b2 && ((decide (((Ae s i).toNat : Int) < 48)) || (decide (57 < ((Ae s i).toNat : Int)))))) (b := .bool b3) (Imp.of_eq (by rw [hb3])) <| v0) (by refine cc _ ?_ <| cc _ ?_ <| cc _ ?_ <| cc _ ?_ <| cc _ ?_ <| cc _ ?_ <| cc _ ?_ <| cc _ ?_ <| cc _ ?_ c0 <;> first | omega | (simp; omega) | (simp; done) | (intros; simp_all; omega) | (intros; simp_all; done)) ?_
  refine A3 (q := b3 && (!decide (((Ae s i).toNat : Int) = 95))) (by kernel_rfl) (fun c2 => ?_) (fun c2 => ?_)
  ·subst hb3 hb2 hb1
   try simp only [Bool.and_eq_true, Bool.or_eq_true, Bool.and_eq_false_iff, Bool.or_eq_false_iff, Bool.not_eq_true', Bool.not_eq_false', decide_eq_true_eq, decide_eq_false_iff_not] at c2
   refine Aa [] [2] ?_
   refine Af ?_
   refine RK wR [(.bool false)] ?_
   refine Same.of_eq ?_
   have : s.all (fun b => E0 b.toNat) = false := Q1t (i := i) (by omega) (by unfold E0; simp only [Bool.and_eq_false_iff, Bool.or_eq_false_iff, decide_eq_false_iff_not]; omega)
   unfold Iy; rw [this, Bool.and_false]; rfl
  ·subst hb3 hb2 hb1
   try simp only [Bool.and_eq_true, Bool.or_eq_true, Bool.and_eq_false_iff, Bool.or_eq_false_iff, Bool.not_eq_true', Bool.not_eq_false', decide_eq_true_eq, decide_eq_false_iff_not] at c2
   refine Ag ?_
   refine Ar ?_
   refine Aw 0 [] [0, 3] [] hk0 v0 (cc 1 (p := (-9223372036854775808 ≤ (i : Int) + 1 ∧ (i : Int) + 1 ≤ 9223372036854775807)) (by first | omega | (simp; omega) | (simp; done) | (intros; simp_all; omega) | (intros; simp_all; done)) <| c0) ?_
   refine ⟨by kernel_rfl, _, ?_, i + 1, ?_, ?_, (by kernel_rfl), rfl⟩
   ·omega
   ·omega
   ·intro j hj
    by_cases h : j = i
    ·subst h; unfold E0; simp only [Bool.and_eq_true, Bool.or_eq_true, decide_eq_true_eq]; omega
    ·exact f1_2 j (by omega)
 ·refine Bj ?_
  obtain ⟨b4, hb4⟩ : ∃ b, b = (decide (1 ≤ (s.length : Int))) := ⟨_, rfl⟩
  refine Ad (CS := [(5, (b4 = true → b4 = true)), (6, (b4 = true → b4 = true)), (7, (b4 = true → b4 = true))]) [36, 37, 38] [2] [] hk0 (vk 4 35 (a := .bool (decide (1 ≤ (s.length : Int)))) (b := .bool b4) (Imp.of_eq (by rw [hb4])) <| v0) (by refine cc _ ?_ <| cc _ ?_ <| cc _ ?_ c0 <;> first | omega | (simp; omega) | (simp; done) | (intros; simp_all; omega) | (intros; simp_all; done)) ?_
  refine Af ?_
  refine RK wR [(.bool (b4 && (decide ((s.length : Int) ≤ 20))))] ?_
  subst hb4
  refine Same.of_eq ?_
  simp only [Ah]
  congr 1
  unfold Iy
  rw [Q1s (by omega) f1_2, show decide ((1 : Int) ≤ (s.length : Int)) = decide (1 ≤ s.length) from decide_eq_decide.2 (by omega), show decide ((s.length : Int) ≤ 20) = decide (s.length ≤ 20) from decide_eq_decide.2 (by omega)]
  simp
set_option maxHeartbeats 400000 in
set_option maxRecDepth 100000 in
theorem Q49 (s : List UInt8) (hl : s.length ≤ 9223372036854775807) :
  FnV Tryz.prog 143 [(.str s)] (.bool (Gm s)) := by
 refine A1 [.tmp 2] Tryz.func143 rfl Tryz.ntmps143 rfl rfl (fun B F hF => ?_)
 refine Aa [] [0] ?_
 refine Ab ?_
 refine Aa [] [0, 3] ?_
 refine A0 ?_
 refine Bq (fun g y => ∃ (i : Nat), i ≤ s.length ∧ (∀ j, j < i → E2 (Ae s j).toNat = true) ∧ y = ⟨[(0, (.str s)), (3, (.int .i64 ((i : Int))))], [], 0⟩ ∧ g = s.length - i) [0, 3] 0 _ (by omega) ⟨0, (by omega), (by exact fun j hj => by omega), (by kernel_rfl), rfl⟩ ?_
 rintro g1 y1 ⟨i, f1_1, f1_2, rfl, rfl⟩
 refine Ab ?_
 refine Aa [] [0, 3, 7] ?_
 refine A2 (p := (i : Int) < (s.length : Int)) (by kernel_rfl) (fun c1 => ?_) (fun c1 => ?_)
 ·refine Ag ?_
  refine Ab ?_
  refine A0 ?_
  obtain ⟨b1, hb1⟩ : ∃ b, b = (decide (((Ae s i).toNat : Int) < 32)) := ⟨_, rfl⟩
  refine Ad (CS := [(2, (0 ≤ (i : Int) ∧ i < s.length)), (7, ((!b1) = true → ((!b1) = true ∧ (!b1) = true) ∧ (0 ≤ (i : Int) ∧ i < s.length))), (8, ((!b1) = true → (!b1) = true)), (9, (b1 = false → (!b1) = true))]) [15, 16, 17, 18] [0, 3, 19] [] hk0 (vk 5 14 (a := .bool (decide (((Ae s i).toNat : Int) < 32))) (b := .bool b1) (Imp.of_eq (by rw [hb1])) <| v0) (by refine cc _ ?_ <| cc _ ?_ <| cc _ ?_ <| cc _ ?_ c0 <;> first | omega | (simp; omega) | (simp; done) | (intros; simp_all; omega) | (intros; simp_all; done)) ?_
  refine A3 (q := b1 || (decide (126 < ((Ae s i).toNat : Int)))) (by kernel_rfl) (fun c2 => ?_) (fun c2 => ?_)
  ·subst hb1
   try simp only [Bool.and_eq_true, Bool.or_eq_true, Bool.and_eq_false_iff, Bool.or_eq_false_iff, Bool.not_eq_true', Bool.not_eq_false', decide_eq_true_eq, decide_eq_false_iff_not] at c2
   refine Aa [] [2] ?_
   refine Af ?_
   refine RK wR [(.bool false)] ?_
   refine Same.of_eq ?_
   have : s.all (fun b => E2 b.toNat) = false := Q1t (i := i) (by omega) (by unfold E2; simp only [Bool.and_eq_false_iff, Bool.or_eq_false_iff, decide_eq_false_iff_not]; omega)
   unfold Gm; rw [this]; rfl
  ·subst hb1
   try simp only [Bool.and_eq_true, Bool.or_eq_true, Bool.and_eq_false_iff, Bool.or_eq_false_iff, Bool.not_eq_true', Bool.not_eq_false', decide_eq_true_eq, decide_eq_false_iff_not] at c2
   refine Ag ?_
   refine Ar ?_
   refine Aw 0 [] [0, 3] [] hk0 v0 (cc 1 (p := (-9223372036854775808 ≤ (i : Int) + 1 ∧ (i : Int) + 1 ≤ 9223372036854775807)) (by first | omega | (simp; omega) | (simp; done) | (intros; simp_all; omega) | (intros; simp_all; done)) <| c0) ?_
   refine ⟨by kernel_rfl, _, ?_, i + 1, ?_, ?_, (by kernel_rfl), rfl⟩
   ·omega
   ·omega
   ·intro j hj
    by_cases h : j = i
    ·subst h; unfold E2; simp only [Bool.and_eq_true, Bool.or_eq_true, decide_eq_true_eq]; omega
    ·exact f1_2 j (by omega)
 ·refine Bj ?_
  refine Aa [] [2] ?_
  refine Af ?_
  refine RK wR [(.bool true)] ?_
  exact Same.of_eq (by unfold Gm; rw [Q1s (by omega) f1_2]; rfl)
set_option maxHeartbeats 400000 in
set_option maxRecDepth 100000 in
theorem Q5d (l : List (List UInt8)) (hl : Gb l ≤ 4194304) :
  FnV Tryz.prog 145 [(Ct l)] (.bool (Hk l)) := by
 have hfl := Jw l
 refine A1 [.tmp 2] Tryz.func145 rfl Tryz.ntmps145 rfl rfl (fun B F hF => ?_)
 refine Aa [] [0] ?_
 refine Ab ?_
 refine Aa [] [0, 7] ?_
 refine A2 (p := 16 < (l.length : Int)) (by kernel_rfl) (fun c1 => ?_) (fun c1 => ?_)
 ·refine Aa [] [2] ?_
  refine Af ?_
  refine RK wR [(.bool false)] ?_
  exact Same.of_eq (by unfold Hk; rw [decide_eq_false (by omega)]; rfl)
 ·refine Ag ?_
  refine Ab ?_
  refine Aa [] [0, 3] ?_
  refine A0 ?_
  refine Bq (fun g y => ∃ (i : Nat), i ≤ l.length ∧ (∀ j, j < i → Hl (nth l j) = true) ∧ y = ⟨[(0, (Ct l)), (3, (.int .i64 ((i : Int))))], [], 0⟩ ∧ g = l.length - i) [0, 3] 0 _ (by omega) ⟨0, (by omega), (by exact fun j hj => by omega), (by kernel_rfl), rfl⟩ ?_
  rintro g1 y1 ⟨i, f1_1, f1_2, rfl, rfl⟩
  refine Ab ?_
  refine Aa [] [0, 3, 11] ?_
  refine A2 (p := (i : Int) < (l.length : Int)) (by kernel_rfl) (fun c2 => ?_) (fun c2 => ?_)
  ·refine Ag ?_
   refine Ab ?_
   refine A0 ?_
   refine Ad [] [0, 3, 4] [] (hk 4 Mq (Nz (nth l i) (by have := Sc (l := l) (i := i) (by omega); omega)) <| hk0) v0 (cc 2 (p := (0 ≤ (i : Int) ∧ i < l.length)) (by first | omega | (simp; omega) | (simp; done) | (intros; simp_all; omega) | (intros; simp_all; done)) <| c0) ?_
   have qh1 : (((!(!(Bh (nth l i)))) = true → ((!(!(Bh (nth l i)))) = true ∧ (!(!(Bh (nth l i)))) = true) ∧ (0 ≤ (i : Int) ∧ i < l.length))) ∧ (((!(!(Bh (nth l i)))) = true → (!(!(Bh (nth l i)))) = true)) ∧ (((!(!(Bh (nth l i)))) = true → ((!(!(Bh (nth l i)))) = true) ∧ (0 ≤ (0 : Int) ∧ 0 < (nth l i).length))) ∧ (((!(!(Bh (nth l i)))) = true → (!(!(Bh (nth l i)))) = true)) ∧ (((!(Bh (nth l i))) = false → (!(!(Bh (nth l i)))) = true)) := by
    have hp := fun h => Q7k (l := nth l i) h; simp only [Bool.not_not, Bool.not_eq_false']; exact ⟨fun hq => ⟨⟨hq, hq⟩, by omega, by omega⟩, fun hq => hq, fun hq => ⟨hq, by omega, hp hq⟩, fun hq => hq, fun hq => hq⟩
   refine Ad [22, 23, 24, 25, 26, 27] [0, 3, 28] [] hk0 v0 (cc 5 (p := ((!(!(Bh (nth l i)))) = true → ((!(!(Bh (nth l i)))) = true ∧ (!(!(Bh (nth l i)))) = true) ∧ (0 ≤ (i : Int) ∧ i < l.length))) qh1.1 <| cc 6 (p := ((!(!(Bh (nth l i)))) = true → (!(!(Bh (nth l i)))) = true)) qh1.2.1 <| cc 7 (p := ((!(!(Bh (nth l i)))) = true → ((!(!(Bh (nth l i)))) = true) ∧ (0 ≤ (0 : Int) ∧ 0 < (nth l i).length))) qh1.2.2.1 <| cc 8 (p := ((!(!(Bh (nth l i)))) = true → (!(!(Bh (nth l i)))) = true)) qh1.2.2.2.1 <| cc 9 (p := ((!(Bh (nth l i))) = false → (!(!(Bh (nth l i)))) = true)) qh1.2.2.2.2 <| c0) ?_
   refine A3 (q := (!(Bh (nth l i))) || (!decide (((Ae (nth l i) 0).toNat : Int) = 47))) (by kernel_rfl) (fun c3 => ?_) (fun c3 => ?_)
   ·try simp only [Bool.and_eq_true, Bool.or_eq_true, Bool.and_eq_false_iff, Bool.or_eq_false_iff, Bool.not_eq_true', Bool.not_eq_false', decide_eq_true_eq, decide_eq_false_iff_not] at c3
    refine Aa [] [2] ?_
    refine Af ?_
    refine RK wR [(.bool false)] ?_
    refine Same.of_eq ?_
    unfold Hk
    have : l.all Hl = false := by
     cases hq : l.all Hl with
     | false => rfl
     | true => have h1 := all_nth.1 hq i (by omega); rw [Y3] at h1; simp_all
    rw [this, Bool.and_false]; rfl
   ·try simp only [Bool.and_eq_true, Bool.or_eq_true, Bool.and_eq_false_iff, Bool.or_eq_false_iff, Bool.not_eq_true', Bool.not_eq_false', decide_eq_true_eq, decide_eq_false_iff_not] at c3
    refine Ag ?_
    refine Ar ?_
    refine Aw 0 [] [0, 3] [] hk0 v0 (cc 1 (p := (-9223372036854775808 ≤ (i : Int) + 1 ∧ (i : Int) + 1 ≤ 9223372036854775807)) (by first | omega | (simp; omega) | (simp; done) | (intros; simp_all; omega) | (intros; simp_all; done)) <| c0) ?_
    refine ⟨by kernel_rfl, _, ?_, i + 1, ?_, ?_, (by kernel_rfl), rfl⟩
    ·omega
    ·omega
    ·intro j hj
     by_cases h : j = i
     ·subst h; rw [Y3]; simp_all
     ·exact f1_2 j (by omega)
  ·refine Bj ?_
   refine Aa [] [2] ?_
   refine Af ?_
   refine RK wR [(.bool true)] ?_
   exact Same.of_eq (by unfold Hk; rw [all_nth.2 (fun j hj => f1_2 j (by omega)), decide_eq_true (by omega)]; rfl)
set_option maxHeartbeats 1000000 in
set_option maxRecDepth 100000 in
theorem Q5f (p : PkgT) (hs : p.size ≤ 4194304) :
  FnV Tryz.prog 92 [(Aq p)] (.int .i64 (C0 p)) := by
 have hsz := p.sizes
 refine A1 [.tmp 2] Tryz.func92 rfl Tryz.ntmps92 rfl rfl (fun B F hF => ?_)
 refine Ad [] [1] [(1, 1)] hk0 v0 c0 ?_
 refine Ad [] [1, 3] [] (hk 2 Mq (Nz p.name (by omega)) <| hk0) v0 c0 ?_
 refine Ab ?_
 refine Aa [] [1, 14] ?_
 refine A3 (q := !(Bh p.name)) (by kernel_rfl) (fun c1 => ?_) (fun c1 => ?_)
 ·try simp only [Bool.and_eq_true, Bool.or_eq_true, Bool.and_eq_false_iff, Bool.or_eq_false_iff, Bool.not_eq_true', Bool.not_eq_false', decide_eq_true_eq, decide_eq_false_iff_not] at c1
  refine Aa [] [2] ?_
  refine Af ?_
  refine RK wR [(.int .i64 60)] ?_
  refine Same.of_eq ?_
  simp only [Ah]
  congr 1
  rw [← Jf]
  unfold Hy
  simp_all
 ·try simp only [Bool.and_eq_true, Bool.or_eq_true, Bool.and_eq_false_iff, Bool.or_eq_false_iff, Bool.not_eq_true', Bool.not_eq_false', decide_eq_true_eq, decide_eq_false_iff_not] at c1
  refine Ag ?_
  refine Ad [] [1, 5] [(8, 4)] (hk 2 Mt (N1 p.evr (by omega)) <| hk0) v0 c0 ?_
  refine Ab ?_
  refine Aa [] [1, 22] ?_
  refine Cm (p := (Bz p.evr) = 0) (by kernel_rfl) (fun c2 => ?_) (fun c2 => ?_)
  ·refine Aa [] [2] ?_
   refine Af ?_
   refine RK wR [(.int .i64 61)] ?_
   refine Same.of_eq ?_
   simp only [Ah]
   congr 1
   rw [← Jf]
   unfold Hy
   simp_all
  ·refine Ag ?_
   refine Ad [] [1, 6] [] (hk 2 X03 (Q5h p.arch (by omega)) <| hk0) v0 c0 ?_
   refine Ab ?_
   refine Aa [] [1, 27] ?_
   refine A3 (q := !(Iy p.arch)) (by kernel_rfl) (fun c3 => ?_) (fun c3 => ?_)
   ·try simp only [Bool.and_eq_true, Bool.or_eq_true, Bool.and_eq_false_iff, Bool.or_eq_false_iff, Bool.not_eq_true', Bool.not_eq_false', decide_eq_true_eq, decide_eq_false_iff_not] at c3
    refine Aa [] [2] ?_
    refine Af ?_
    refine RK wR [(.int .i64 62)] ?_
    refine Same.of_eq ?_
    simp only [Ah]
    congr 1
    rw [← Jf]
    unfold Hy
    simp_all
   ·try simp only [Bool.and_eq_true, Bool.or_eq_true, Bool.and_eq_false_iff, Bool.or_eq_false_iff, Bool.not_eq_true', Bool.not_eq_false', decide_eq_true_eq, decide_eq_false_iff_not] at c3
    refine Ag ?_
    refine Ad [] [1, 7] [] (hk 2 X02 (Q49 p.vendor (by omega)) <| hk0) v0 c0 ?_
    refine Ab ?_
    obtain ⟨b1, hb1⟩ : ∃ b, b = (!(Gm p.vendor)) := ⟨_, rfl⟩
    refine Ad (CS := [(4, ((!b1) = true → (!b1) = true)), (5, ((!b1) = true → (!b1) = true)), (6, ((!b1) = true → (!b1) = true)), (7, (b1 = false → (!b1) = true))]) [34, 35, 36, 37] [1, 38] [] hk0 (vk 3 33 (a := .bool (!(Gm p.vendor))) (b := .bool b1) (Imp.of_eq (by rw [hb1])) <| v0) (by refine cc _ ?_ <| cc _ ?_ <| cc _ ?_ <| cc _ ?_ c0 <;> first | omega | (simp; omega) | (simp; done) | (intros; simp_all; omega) | (intros; simp_all; done)) ?_
    refine A3 (q := b1 || (decide (60 < (p.vendor.length : Int)))) (by kernel_rfl) (fun c4 => ?_) (fun c4 => ?_)
    ·subst hb1
     try simp only [Bool.and_eq_true, Bool.or_eq_true, Bool.and_eq_false_iff, Bool.or_eq_false_iff, Bool.not_eq_true', Bool.not_eq_false', decide_eq_true_eq, decide_eq_false_iff_not] at c4
     refine Aa [] [2] ?_
     refine Af ?_
     refine RK wR [(.int .i64 63)] ?_
     refine Same.of_eq ?_
     simp only [Ah]
     congr 1
     rw [← Jf]
     unfold Hy
     simp_all
    ·subst hb1
     try simp only [Bool.and_eq_true, Bool.or_eq_true, Bool.and_eq_false_iff, Bool.or_eq_false_iff, Bool.not_eq_true', Bool.not_eq_false', decide_eq_true_eq, decide_eq_false_iff_not] at c4
     refine Ag ?_
     refine Ad [] [1, 8] [] (hk 1 X01 (Q5e p (by omega)) <| hk0) v0 c0 ?_
     refine Ab ?_
     refine Aa [] [1, 42] ?_
     refine A3 (q := !(El p)) (by kernel_rfl) (fun c5 => ?_) (fun c5 => ?_)
     ·try simp only [Bool.and_eq_true, Bool.or_eq_true, Bool.and_eq_false_iff, Bool.or_eq_false_iff, Bool.not_eq_true', Bool.not_eq_false', decide_eq_true_eq, decide_eq_false_iff_not] at c5
      refine Aa [] [2] ?_
      refine Af ?_
      refine RK wR [(.int .i64 64)] ?_
      refine Same.of_eq ?_
      simp only [Ah]
      congr 1
      rw [← Jf]
      unfold Hy
      simp_all
     ·try simp only [Bool.and_eq_true, Bool.or_eq_true, Bool.and_eq_false_iff, Bool.or_eq_false_iff, Bool.not_eq_true', Bool.not_eq_false', decide_eq_true_eq, decide_eq_false_iff_not] at c5
      refine Ag ?_
      refine Ad [] [9] [] (hk 2 X00 (Q5d p.files (by omega)) <| hk0) v0 c0 ?_
      refine Ab ?_
      refine Aa [] [47] ?_
      refine A3 (q := !(Hk p.files)) (by kernel_rfl) (fun c6 => ?_) (fun c6 => ?_)
      ·try simp only [Bool.and_eq_true, Bool.or_eq_true, Bool.and_eq_false_iff, Bool.or_eq_false_iff, Bool.not_eq_true', Bool.not_eq_false', decide_eq_true_eq, decide_eq_false_iff_not] at c6
       refine Aa [] [2] ?_
       refine Af ?_
       refine RK wR [(.int .i64 65)] ?_
       refine Same.of_eq ?_
       simp only [Ah]
       congr 1
       rw [← Jf]
       unfold Hy
       simp_all
      ·try simp only [Bool.and_eq_true, Bool.or_eq_true, Bool.and_eq_false_iff, Bool.or_eq_false_iff, Bool.not_eq_true', Bool.not_eq_false', decide_eq_true_eq, decide_eq_false_iff_not] at c6
       refine Ag ?_
       refine Aa [] [2] ?_
       refine Af ?_
       refine RK wR [(.int .i64 0)] ?_
       refine Same.of_eq ?_
       simp only [Ah]
       congr 1
       rw [← Jf]
       unfold Hy
       simp_all
end Sv
end Go.Proofs.YtlfjokcbkopfeaaGreatDoor
end
