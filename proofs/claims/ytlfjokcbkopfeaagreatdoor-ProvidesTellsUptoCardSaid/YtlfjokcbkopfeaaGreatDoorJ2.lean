/- The texts S36, S37, S38, DepV, NamV, Evr1, CmpV, EvrV, EvrW, PkgV, FormV, Pool1, RuneV, NextV, OneV, ParseL, Pool2, Pool3 of the proof, joined. Each says at its theorems what it proves. -/
import Derived.Test.YtlfjokcbkopfeaaGreatDoorJ1
set_option linter.unusedSimpArgs false
set_option linter.unusedVariables false
section
namespace Go.Proofs.YtlfjokcbkopfeaaGreatDoor
open Go Go.RowKit
set_option linter.unusedSimpArgs false
set_option linter.unusedVariables false
namespace Sv
abbrev I5 := List St × List (Nat × Prop) × List (Nat × List AV × Bool) × List (Nat × List AV)
noncomputable def noT (i : Nat) : List (Nat × Nat) → Bool
  | [] => true
  | t :: l => !Nat.beq t.1 i && noT i l
noncomputable def Z2 : Op → Bool
  | .call { callee := .value _, args := _, argTypes := _ } => true
  | _ => false
noncomputable def H2 (P : Program) (E : Bool) (n : Nat) (ops : Array Oper) (lz : List Nat) (V : List Conv) (T : List (Nat × Nat)) (listed : Array Bool) (x : St) : List Nat → Option (Nat × List AV × St × Option Prop)
  | [] => none
  | i :: l => bif Region.free .any ops listed i && noT i T then (match ops[i]? with
    | some o => bif Z2 o.op then H2 P E n ops lz V T listed x l else (match Fw i V x with
      | some (x1, m) => match Km P E n ops lz o x1 with
        | some (y, C) => some (i, m, y, C)
        | none => H2 P E n ops lz V T listed x l
      | none => H2 P E n ops lz V T listed x l)
    | none => H2 P E n ops lz V T listed x l) else H2 P E n ops lz V T listed x l
noncomputable def O2 (f : Nat → Option I5) : List Nat → Option I5
  | [] => some ([], [], [], [])
  | i :: l => match f i with
    | some (a, b, c, d) => match O2 f l with
      | some (a', b', c', d') => some (a ++ a', b ++ b', c ++ c', d ++ d')
      | none => none
    | none => none
noncomputable def Gb (P : Program) (n : Nat) (ops : Array Oper) (lz ts : List Nat) (H : List Hint) (V : List Conv) (T : List (Nat × Nat)) : Nat → Bool → Array Bool → St → Option I5
  | 0, E, listed, x => match Region.ready .any ops listed with
    | [] => match Fj ts x.s with
      | some s => some ([⟨s, x.h, x.nx⟩], [], [], [])
      | none => none
    | _ :: _ => none
  | fuel + 1, E, listed, x => match Region.ready .any ops listed with
    | [] => match Fj ts x.s with
      | some s => some ([⟨s, x.h, x.nx⟩], [], [], [])
      | none => none
    | a :: l => match H2 P E n ops lz V T listed x (a :: l) with
      | some (i, m, y, C) => match Gb P n ops lz ts H V T fuel E (listed.setIfInBounds i true) y with
        | some (fs, cs, ms, vs) => some (fs, H5 i C cs, ms, (i, m) :: vs)
        | none => none
      | none => O2 (fun i => match ops[i]? with
        | some o => match Gp P i T x with
          | some x0 => match Fw i V x0 with
            | some (x1, m) => match Kl P n ops lz H i o x1 with
              | some (y, C, A) => match Gb P n ops lz ts H V T fuel (E && noT i T && A.isNone) (listed.setIfInBounds i true) y with
                | some (fs, cs, ms, vs) => some (fs, H5 i C cs, Lh i A ms, (i, m) :: vs)
                | none => none
              | none => none
            | none => none
          | none => none
        | none => none) (a :: l)
section
variable {P : Program} {B : Bas} {w : World} {F F0 : Cx} {n : Nat} {φ : Phi} {σ : Nat → Value} {K : Exit → St → Prop} {KK : St → Prop} {x y : St} {E : Bool} {ops : Array Oper} {fuel : Nat} {listed : Array Bool} {H : List Hint} {V : List Conv} {T : List (Nat × Nat)} {CS : List (Nat × Prop)} {lz ts : List Nat} {i : Nat} {o : Oper} {C : Option Prop} {A : Option (List AV × Bool)}
theorem T2 {j : Nat} : ∀ {T : List (Nat × Nat)} {x y : St}, Gp P j T x = some y → noT j T = true → y = x
  | [], x, y, h, _ => by cases h; rfl
  | t :: r, x, y, h, k => by
    unfold noT at k
    simp only [Bool.and_eq_true, Bool.not_eq_true'] at k
    unfold Gp at h
    rw [k.1, cond_false] at h
    exact T2 h k.2
theorem P2 {j : Nat} : ∀ {T : List (Nat × Nat)} {x y : St} {φ : Phi}, Gp P j T x = some y → Holds B F n x φ σ w → ∃ φ', Holds B F n y φ' σ w
  | [], x, y, φ, h, hx => by cases h; exact ⟨φ, hx⟩
  | t :: l, x, y, φ, h, hx => by
    unfold Gp at h
    cases hb : Nat.beq t.1 j with
    | false => rw [hb, cond_false] at h; exact P2 h hx
    | true =>
      rw [hb, cond_true] at h
      split at h
      · rename_i z hz
        obtain ⟨φ', h'⟩ := hx.still hz
        exact P2 h h'
      · cases h
theorem O5 {j : Nat} : ∀ {V : List Conv} {x y : St} {m : List AV}, VOk V → Fw j V x = some (y, m) → m = Fx j V → Holds B F n x φ σ w → Holds B F n y φ σ w
  | [], x, y, m, _, h, _, hx => by cases h; exact hx
  | v :: l, x, y, m, hV, h, hm, hx => by
    unfold Fw at h
    unfold Fx at hm
    cases hb : Nat.beq v.i j with
    | false => rw [hb, cond_false] at h hm; exact O5 hV.2 h hm hx
    | true =>
      rw [hb, cond_true] at h hm
      split at h
      · rename_i a ha
        split at h
        · rename_i z m' hz
          cases h
          simp only [List.cons.injEq] at hm
          exact O5 hV.2 hz hm.2 (hx.conv ha (by rw [hm.1]; exact hV.1))
        · cases h
      · cases h
theorem Yb : ∀ {l : List Nat} {i : Nat} {m : List AV} {y : St} {C : Option Prop}, H2 P E n ops lz V T listed x l = some (i, m, y, C) → i ∈ l ∧ Region.free .any ops listed i = true ∧ ∃ o x1, ops[i]? = some o ∧ Fw i V x = some (x1, m) ∧ Km P E n ops lz o x1 = some (y, C)
  | [], i, m, y, C, h => by cases h
  | a :: l, i, m, y, C, h => by
    have more : H2 P E n ops lz V T listed x l = some (i, m, y, C) → i ∈ a :: l ∧ Region.free .any ops listed i = true ∧ ∃ o x1, ops[i]? = some o ∧ Fw i V x = some (x1, m) ∧ Km P E n ops lz o x1 = some (y, C) := fun k => by
      obtain ⟨k1, k2⟩ := Yb k; exact ⟨List.mem_cons_of_mem _ k1, k2⟩
    unfold H2 at h
    cases hb : Region.free .any ops listed a && noT a T with
    | false => rw [hb, cond_false] at h; exact more h
    | true =>
      rw [hb, cond_true] at h
      simp only [Bool.and_eq_true] at hb
      split at h
      · rename_i o ho
        cases hk : Z2 o.op with
        | true => rw [hk, cond_true] at h; exact more h
        | false =>
          rw [hk, cond_false] at h
          split at h
          · rename_i x1 m1 hx1
            split at h
            · rename_i y1 C1 hy1
              simp only [Option.some.injEq, Prod.mk.injEq] at h
              obtain ⟨rfl, rfl, rfl, rfl⟩ := h
              exact ⟨List.mem_cons_self, hb.1, o, x1, ho, hx1, hy1⟩
            · exact more h
          · exact more h
      · exact more h
theorem Zn {f : Nat → Option I5} : ∀ {l : List Nat} {a : List St} {b : List (Nat × Prop)} {c : List (Nat × List AV × Bool)} {d : List (Nat × List AV)}, O2 f l = some (a, b, c, d) →
    ∀ i ∈ l, ∃ a' b' c' d', f i = some (a', b', c', d') ∧ (∀ y ∈ a', y ∈ a) ∧ (∀ y ∈ b', y ∈ b) ∧ (∀ y ∈ c', y ∈ c) ∧ ∀ y ∈ d', y ∈ d
  | [], a, b, c, d, h, i, hi => by cases hi
  | j :: l, a, b, c, d, h, i, hi => by
    unfold O2 at h
    split at h
    · rename_i a1 b1 c1 d1 h1
      split at h
      · rename_i a2 b2 c2 d2 h2
        simp only [Option.some.injEq, Prod.mk.injEq] at h
        obtain ⟨rfl, rfl, rfl, rfl⟩ := h
        rcases List.mem_cons.1 hi with rfl | hi
        · exact ⟨a1, b1, c1, d1, h1, fun y hy => List.mem_append_left _ hy, fun y hy => List.mem_append_left _ hy, fun y hy => List.mem_append_left _ hy, fun y hy => List.mem_append_left _ hy⟩
        · obtain ⟨a', b', c', d', k1, k2, k3, k4, k5⟩ := Zn h2 i hi
          exact ⟨a', b', c', d', k1, fun y hy => List.mem_append_right _ (k2 y hy), fun y hy => List.mem_append_right _ (k3 y hy), fun y hy => List.mem_append_right _ (k4 y hy), fun y hy => List.mem_append_right _ (k5 y hy)⟩
      · cases h
    · cases h
theorem X2k {l : List Nat} (hr : Region.ready .any ops listed = l) (hl : l ≠ []) (h : ∀ i ∈ l, SN P n ops B F KK F0 E fuel listed i x) : SG P n ops B F KK F0 E (fuel + 1) listed x := by
  unfold SG
  intro φ σ w hx hE
  exact Pj hr hl fun k hk => h k hk φ σ w hx hE
theorem X2l {m : List AV} (hV : VOk V) (h : Fw i V x = some (y, m)) (hm : m = Fx i V) (k : SG P n ops B F KK F0 E fuel listed y) : SG P n ops B F KK F0 E fuel listed x := by
  unfold SG at k ⊢
  exact fun φ σ w hx hE => k φ σ w (O5 hV h hm hx) hE
theorem X2f {m : List AV} {j : Nat} (hV : VOk V) (h : Fw j V x = some (y, m)) (hm : m = Fx j V) (k : SN P n ops B F KK F0 E fuel listed i y) : SN P n ops B F KK F0 E fuel listed i x :=
  fun φ σ w hx hE => k φ σ w (O5 hV h hm hx) hE
theorem X2d {j : Nat} (h : Gp P j T x = some y) (k : SN P n ops B F KK F0 (E && noT j T) fuel listed i y) : SN P n ops B F KK F0 E fuel listed i x := by
  intro φ σ w hx hE
  cases hn : noT j T with
  | true =>
    have := T2 h hn; subst this
    rw [hn, Bool.and_true] at k
    exact k φ σ w hx hE
  | false =>
    rw [hn, Bool.and_false] at k
    obtain ⟨φ', h'⟩ := P2 h hx
    obtain ⟨o, h1, h2⟩ := k φ' σ w h' (fun q => by cases q)
    exact ⟨o, h1, h2⟩
theorem Q4q (hs : Region.noSelect ops = true) (hH : HOk P H) (hV : VOk V) (hCS : COk CS) : ∀ {fuel : Nat} {E : Bool} {listed : Array Bool} {x : St} {fs : List St} {cs : List (Nat × Prop)} {ms : List (Nat × List AV × Bool)} {vs : List (Nat × List AV)},
    Gb P n ops lz ts H V T fuel E listed x = some (fs, cs, ms, vs) → Kb H V CS cs ms vs → (∀ y ∈ fs, KK y) → SG P n ops B F KK F0 E fuel listed x := by
  have fin : ∀ {fuel : Nat} {E : Bool} {listed : Array Bool} {x : St} {fs : List St} {cs : List (Nat × Prop)} {ms : List (Nat × List AV × Bool)} {vs : List (Nat × List AV)}, Region.ready .any ops listed = [] →
      (match Fj ts x.s with | some s => some (([⟨s, x.h, x.nx⟩], [], [], []) : I5) | none => none) = some (fs, cs, ms, vs) → (∀ y ∈ fs, KK y) → SG P n ops B F KK F0 E fuel listed x := by
    intro fuel E listed x fs cs ms vs hr h hk
    split at h
    · rename_i s hsel
      simp only [Option.some.injEq, Prod.mk.injEq] at h
      obtain ⟨rfl, _⟩ := h
      exact S3 ts hsel (Gn hr (hk _ (by simp)))
    · cases h
  intro fuel
  induction fuel with
  | zero =>
    intro E listed x fs cs ms vs h hf hk
    unfold Gb at h
    split at h
    · rename_i hr; exact fin hr h hk
    · cases h
  | succ fuel ih =>
    intro E listed x fs cs ms vs h hf hk
    unfold Gb at h
    split at h
    · rename_i hr; exact fin hr h hk
    · rename_i a l hr
      obtain ⟨f1, f2, f3⟩ := hf
      split at h
      · rename_i i m y C hfi
        split at h
        · rename_i fs' cs' ms' vs' hrec
          simp only [Option.some.injEq, Prod.mk.injEq] at h
          obtain ⟨rfl, rfl, rfl, rfl⟩ := h
          obtain ⟨hi, hfree, o, x1, ho, hx1, hy⟩ := Yb hfi
          have hC : Bg C := by
            cases C with
            | none => trivial
            | some p =>
              have e : p = Gw CS i := f1 (i, p) (by simp [H5])
              show p
              rw [e]; exact Oq i hCS
          have f' : Kb H V CS cs' ms' vs' := by
            refine ⟨fun c hc => f1 c ?_, f2, fun v hv => f3 v (by simp [hv])⟩
            cases C <;> simp [H5, hc]
          exact X2l hV hx1 (f3 (i, m) (by simp)) (Q1n i lz ho hs hfree (by rw [hr]; simpa using hi) hy hC (ih hrec f' hk))
        · cases h
      · refine X2k hr (by simp) fun i hi => ?_
        obtain ⟨fs1, cs1, ms1, vs1, h1, g1, g2, g3, g4⟩ := Zn h i hi
        split at h1
        · rename_i o ho
          split at h1
          · rename_i x0 hx0
            split at h1
            · rename_i x1 m hx1
              split at h1
              · rename_i y C A hy
                split at h1
                · rename_i fs' cs' ms' vs' hrec
                  simp only [Option.some.injEq, Prod.mk.injEq] at h1
                  obtain ⟨rfl, rfl, rfl, rfl⟩ := h1
                  have hC : Bg C := by
                    cases C with
                    | none => trivial
                    | some p =>
                      have e : p = Gw CS i := f1 (i, p) (g2 _ (by simp [H5]))
                      show p
                      rw [e]; exact Oq i hCS
                  have hA : ∀ a, A = some a → a = Gt H i := by
                    rintro a rfl
                    exact f2 (i, a) (g3 _ (by simp [Lh]))
                  have f' : Kb H V CS cs' ms' vs' := by
                    refine ⟨fun c hc => f1 c (g2 _ ?_), fun a ha => f2 a (g3 _ ?_), fun v hv => f3 v (g4 _ (by simp [hv]))⟩
                    · cases C <;> simp [H5, hc]
                    · cases A <;> simp [Lh, ha]
                  exact X2d hx0 (X2f hV hx1 (f3 (i, m) (g4 _ (by simp))) (Q2j ho hy hC hH hA (ih hrec f' fun y hy => hk y (g1 y hy))))
                · cases h1
              · cases h1
            · cases h1
          · cases h1
        · cases h1
noncomputable def stD (r : Option I5) : St := match r with
  | some (y :: _, _) => y
  | _ => ⟨[], [], 0⟩
noncomputable def Pt (H : List Hint) (V : List Conv) (CS : List (Nat × Prop)) (r : Option I5) : Option I5 := match r with
  | some (fs, cs, ms, vs) => some (fs.map fun _ => stD r, cs.map fun c => (c.1, Gw CS c.1), ms.map fun a => (a.1, Gt H a.1), vs.map fun v => (v.1, Fx v.1 V))
  | none => some ([], [], [], [])
theorem G1 {id : Nat} {l : List Oper} (lz ts : List Nat) (T : List (Nat × Nat)) (hH : HOk P H) (hV : VOk V) (hCS : COk CS) (next : K .normal (stD (Gb P n l.toArray lz ts H V T l.length true (Array.replicate l.length false) x)))
    (hm : P.follows .mixedOrders = true := by kernel_rfl) (hs : Region.noSelect l.toArray = true := by kernel_rfl)
    (h : Gb P n l.toArray lz ts H V T l.length true (Array.replicate l.length false) x = Pt H V CS (Gb P n l.toArray lz ts H V T l.length true (Array.replicate l.length false) x) := by kernel_rfl) : SW P n (.region id l.toArray true) B F K x := by
  refine Hr hm fun F0 _ => ?_
  cases hr : Gb P n l.toArray lz ts H V T l.length true (Array.replicate l.length false) x with
  | none => rw [hr] at h; cases h
  | some q =>
    obtain ⟨fs, cs, ms, vs⟩ := q
    rw [hr] at h next
    simp only [Pt, Option.some.injEq, Prod.mk.injEq] at h
    refine Q4q hs hH hV hCS hr ⟨K1 (f := Gw CS) h.2.1, K1 (f := Gt H) h.2.2.1, K1 (f := fun j => Fx j V) h.2.2.2⟩ fun y hy => ?_
    rw [h.1] at hy
    obtain ⟨_, _, rfl⟩ := List.mem_map.1 hy
    exact next
theorem Cg {id : Nat} {l : List Oper} {d : Code} (lz ts : List Nat) (T : List (Nat × Nat)) (hH : HOk P H) (hV : VOk V) (hCS : COk CS) (next : SW P n d B F K (stD (Gb P n l.toArray lz ts H V T l.length true (Array.replicate l.length false) x)))
    (hm : P.follows .mixedOrders = true := by kernel_rfl) (hs : Region.noSelect l.toArray = true := by kernel_rfl)
    (h : Gb P n l.toArray lz ts H V T l.length true (Array.replicate l.length false) x = Pt H V CS (Gb P n l.toArray lz ts H V T l.length true (Array.replicate l.length false) x) := by kernel_rfl) : SW P n (.seq (.region id l.toArray true) d) B F K x := Ab (G1 lz ts T hH hV hCS next hm hs h)
noncomputable def gcD (ts : List Nat) (m : Nat) (x : St) : St := match gcS ts m x with
  | some y => y
  | none => ⟨[], [], 0⟩
noncomputable def gcB (ts : List Nat) (m : Nat) (x : St) : Bool := match gcS ts m x with
  | some _ => true
  | none => false
theorem Rk {m : Nat} (h : gcB ts m x = true) : gcS ts m x = some (gcD ts m x) := by
  unfold gcB at h
  unfold gcD
  split at h
  · rename_i y hy; rw [hy]
  · cases h
theorem Bs {c : Code} (I : Nat → St → Prop) (ts : List Nat) (m g : Nat) (hlo : F.lo ≤ m) (h0 : I g (gcD ts m x)) (round : ∀ g y, I g y → SW P n c B F (Ii (fun z => gcB ts m z = true ∧ ∃ g', g' < g ∧ I g' (gcD ts m z)) K) y) (k : gcB ts m x = true := by kernel_rfl) : SW P n (.loop c) B F K x :=
  X12 I ts m g hlo (Rk k) h0 fun g y hI => Q1f (round g y hI) fun e z hz => by
    cases e with
    | normal => obtain ⟨h1, g', h2, h3⟩ := hz; exact ⟨_, Rk h1, g', h2, h3⟩
    | _ => exact hz
theorem C7 {c d : Code} (I : St → Prop) (ts : List Nat) (m : Nat) (hlo : F.lo ≤ m) (h : SW P n c B F (Ii (fun z => gcB ts m z = true ∧ I (gcD ts m z)) K) x) (r : ∀ y, I y → SW P n d B F K y) : SW P n (.seq c d) B F K x :=
  X14 (fun z => gcB ts m z = true ∧ I (gcD ts m z)) h fun z hz => M5 ts m hlo (Rk hz.1) (r _ hz.2)
theorem RK {rs : List ResultVar} {r : AV} {e : Exit} (he : e = .ret ∨ e = .normal) (rl : List AV) (h3 : Same (Aj rl) r)
    (h : (match G4 P rs x with | some al => (match frzVl P x.h al with | some q => some q.1 | none => none) | none => none) = some rl := by kernel_rfl) : No P rs r e x := by
  split at h
  · rename_i al ha
    split at h
    · rename_i q hq
      obtain ⟨rl', h'⟩ := q
      cases h
      exact Q3o he ha hq h3
    · cases h
  · cases h
end
theorem Oc {q : Bool} {c : Option Prop} (p : Option Prop) (h : c = p) (k : q = true → Bg p) : q = true → Bg c := by subst h; exact k
noncomputable def Ul : AV → Nat → AV
  | .row _ _ g => g
  | _ => fun _ => Bh
theorem wR : Exit.ret = .ret ∨ Exit.ret = .normal := .inl rfl
theorem wN : Exit.normal = .ret ∨ Exit.normal = .normal := .inr rfl
end Sv
end Go.Proofs.YtlfjokcbkopfeaaGreatDoor
end
section
namespace Go.Proofs.YtlfjokcbkopfeaaGreatDoor
open Go Go.RowKit
set_option linter.unusedSimpArgs false
set_option linter.unusedVariables false
namespace Sv
noncomputable def I8 (P : Program) (n : Nat) (ops : Array Oper) (lz : List Nat) (i : Nat) (x : St) : Option (St × Option Prop) := match ops[i]? with
  | some o => Ih P n ops lz o x
  | none => none
noncomputable def stR (r : Option (St × Option Prop)) : St := match r with
  | some (y, _) => y
  | none => ⟨[], [], 0⟩
noncomputable def Si (r : Option (St × Option Prop)) : Option Prop := match r with
  | some (_, C) => C
  | none => some False
noncomputable def stL (r : Option (St × Option Prop × Array Bool)) : St := match r with
  | some (y, _) => y
  | none => ⟨[], [], 0⟩
noncomputable def Q94 (r : Option (St × Option Prop × Array Bool)) : Option Prop := match r with
  | some (_, C, _) => C
  | none => some False
noncomputable def lsL (r : Option (St × Option Prop × Array Bool)) : Array Bool := match r with
  | some (_, _, L) => L
  | none => #[]
noncomputable def Ub (ts : List Nat) (s : Fr) : Fr := match Fj ts s with
  | some r => r
  | none => []
noncomputable def Uc (ts : List Nat) (s : Fr) : Bool := match Fj ts s with
  | some _ => true
  | none => false
noncomputable def lsD (n : Nat) (l : List Nat) : Array Bool := l.foldl (fun a i => a.setIfInBounds i true) (Array.replicate n false)
section
variable {P : Program} {B : Bas} {w : World} {F F0 : Cx} {n : Nat} {KK : St → Prop} {x : St} {E : Bool} {ops : Array Oper} {fuel fuel' : Nat} {listed : Array Bool} {C : Option Prop}
theorem T4 {lz : List Nat} {i : Nat} (h : Si (I8 P n ops lz i x) = C) (hC : Bg C) : ∃ o, ops[i]? = some o ∧ Ih P n ops lz o x = some (stR (I8 P n ops lz i x), C) := by
  unfold I8 at h ⊢
  split at h
  · rename_i o ho
    refine ⟨o, ho, ?_⟩
    cases hs : Ih P n ops lz o x with
    | none => rw [hs] at h; subst h; exact hC.elim
    | some q => obtain ⟨y, D⟩ := q; rw [hs] at h; subst h; rfl
  · subst h; exact hC.elim
theorem Bb (i : Nat) (lz : List Nat) (hC : Bg C) (next : SG P n ops B F KK F0 E fuel (listed.setIfInBounds i true) (stR (I8 P n ops lz i x))) (h : Si (I8 P n ops lz i x) = C := by kernel_rfl) : SN P n ops B F KK F0 E fuel listed i x := by
  obtain ⟨o, h1, h2⟩ := T4 h hC
  exact Q1l i lz h1 h2 hC next
theorem Cs (i : Nat) (lz : List Nat) (hC : Bg C) (next : SG P n ops B F KK F0 E fuel (listed.setIfInBounds i true) (stR (I8 P n ops lz i x))) (hr : Region.ready .any ops listed = [i] := by kernel_rfl) (h : Si (I8 P n ops lz i x) = C := by kernel_rfl) : SG P n ops B F KK F0 E (fuel + 1) listed x := by
  obtain ⟨o, h1, h2⟩ := T4 h hC
  exact X2h i lz hr h1 h2 hC next
theorem An (ts : List Nat) (next : SG P n ops B F KK F0 E fuel listed ⟨Ub ts x.s, x.h, x.nx⟩) (h : Uc ts x.s = true := by kernel_rfl) : SG P n ops B F KK F0 E fuel listed x := by
  unfold Uc at h
  unfold Ub at next
  split at h
  · rename_i r hr
    rw [hr] at next
    exact S3 ts hr next
  · cases h
theorem Cp (lz is ts : List Nat) (hC : Bg C) (next : SG P n ops B F KK F0 E fuel (lsL (K5 P E n ops lz is ts listed x)) (stL (K5 P E n ops lz is ts listed x))) (hs : Region.noSelect ops = true := by kernel_rfl) (hf : fuel' = fuel + is.length := by kernel_rfl)
    (h : Q94 (K5 P E n ops lz is ts listed x) = C := by kernel_rfl) : SG P n ops B F KK F0 E fuel' listed x := by
  cases hq : K5 P E n ops lz is ts listed x with
  | none => rw [hq] at h; subst h; exact hC.elim
  | some q =>
    obtain ⟨y, D, L⟩ := q
    rw [hq] at h next
    subst h
    exact X2j is ts hs hq hf hC next
theorem A1 {E' : Bool} {fuel' : Nat} {listed' : Array Bool} {x' : St} (m : SG P n ops B F KK F0 E' fuel' listed' x') (hE : E' = E := by kernel_rfl) (hf : fuel' = fuel := by kernel_rfl) (hl : listed' = listed := by kernel_rfl) (hx : x' = x := by kernel_rfl) : SG P n ops B F KK F0 E fuel listed x := X2i m hE hf hl hx
end
end Sv
end Go.Proofs.YtlfjokcbkopfeaaGreatDoor
end
section
namespace Go.Proofs.YtlfjokcbkopfeaaGreatDoor
open Go Go.RowKit
set_option linter.unusedSimpArgs false
set_option linter.unusedVariables false
namespace Sv
noncomputable def mis : List (AV × AV × Nat) → Option (List (Int × Int))
  | [] => some []
  | (.int .i64 k, .int .i64 a, _) :: r => match mis r with
    | some l => some ((k, a) :: l)
    | none => none
  | _ => none
theorem Q2 {φ : Phi} : ∀ {es : List (AV × AV × Nat)} {l : List MapEntry} {m : List (Int × Int)}, MR φ es l → mis es = some m → l.map (fun e => (e.key, e.val)) = Dp I64 I64 m
  | [], _, _, h, k => by cases k; simp only [MR] at h; subst h; rfl
  | (a, v, c) :: r, _, _, h, k => by
    simp only [MR] at h
    obtain ⟨e, l', rfl, h1, h2, _, h4⟩ := h
    unfold mis at k
    split at k
    · cases ‹_ = []›
    · rename_i q
      cases q
      split at k
      · rename_i hm
        cases k
        simp only [VR] at h1 h2
        simp only [List.map_cons, Dp, Q2 h4 hm, h1, h2]
      · cases k
    · cases k
theorem MR.snoc {φ : Phi} {a v : AV} {e : MapEntry} (h1 : VR φ a e.key) (h2 : VR φ v e.val) : ∀ {es : List (AV × AV × Nat)} {l : List MapEntry}, MR φ es l → MR φ (es ++ [(a, v, e.born)]) (l ++ [e])
  | [], _, h => by simp only [MR] at h; subst h; simp only [List.nil_append, MR]; exact ⟨e, [], rfl, h1, h2, rfl, rfl⟩
  | (b, u, c) :: r, _, h => by
    simp only [MR] at h
    obtain ⟨e', l', rfl, k1, k2, k3, k4⟩ := h
    simp only [List.cons_append, MR]
    exact ⟨e', _, rfl, k1, k2, k3, MR.snoc h1 h2 k4⟩
section
variable {P : Program} {B : Bas} {w : World} {F : Cx} {n : Nat} {φ : Phi} {σ : Nat → Value} {K : Exit → St → Prop} {x : St} {ops : Array Oper}
theorem Q1i {rest : List Oper} {t kt et : TypeId} {X I Y : Operand} {ty : TypeId} {ps : String} {af : Array Edge} {g : Option (Nat × Bool)} {b c : Nat} {es : List (AV × AV × Nat)} {m : List (Int × Int)} {k a : Int}
    (hg : C5 ops x.s g = true) (hX : evA x.s X = some (.map b)) (hI : evA x.s I = some (.int .i64 k)) (hY : evA x.s Y = some (.int .i64 a)) (hb : Bd b x.h = some (.map es c)) (hm : mis es = some m) (hn : Bt m k = none)
    (ht : P.underlying t = some (.map kt et)) (hk : P.underlying kt = some (.int .i64)) (next : SO P n ops rest B F K ⟨x.s, Cf b (.map (es ++ [(.int .i64 k, .int .i64 a, c)]) (c + 1)) x.h, x.nx⟩) : SO P n ops (⟨none, .insert t X I Y, ty, ps, af, g⟩ :: rest) B F K x := by
  intro φ σ w hx
  have v1 := hx.fr.ev _ _ hX
  have v2 := hx.fr.ev _ _ hI
  have v3 := hx.fr.ev _ _ hY
  simp only [VR] at v1 v2 v3
  obtain ⟨x0, κ, e0, v1⟩ := v1
  obtain ⟨x1, κ1, l, h1, h2, h3⟩ := hx.rel.obj b _ hb
  rw [e0] at h1; cases h1
  have he := Q2 h3 hm
  obtain ⟨r, f1, f2, f3⟩ := Qf (Rb hk) k l.toList m he w
  rw [hn] at f2
  have hc := (Rb hk).check false 9999 k w
  have hlt : x0 < w.heap.size := E0 h2
  cases r with
  | some p => simp at f2
  | none =>
    refine H8 (w' := { w with heap := w.heap.setIfInBounds x0 (.map (l.push { key := I64 k, val := I64 a, born := c }) (c + 1)) }) (De hx.fr hg) ?_ (next φ _ _ ⟨hx.fr, ?_, hx.dom, hx.old, hx.new, hx.base⟩)
    · have v2' : ev n σ I = I64 k := v2
      have v3' : ev n σ Y = I64 a := v3
      simp [execOp, v1, v2', v3', Instr.mapUpdate, run_underlying ht, getObj, setObj, Sem.run, h2, hc, f1, go_sem]
    · refine hx.rel.set hb rfl rfl e0 rfl rfl rfl (by simp) (fun j hj => by simp [Array.getElem?_setIfInBounds, Ne.symm hj]) ⟨x0, κ, _, e0, (by simp [hlt]; rfl), ?_⟩
      rw [Array.toList_push]
      exact MR.snoc (e := { key := I64 k, val := I64 a, born := c }) (by simp only [VR]) (by simp only [VR]) h3
theorem X17 {rest : List Oper} {t kt et : TypeId} {X I : Operand} {dst : Option Tmp} {ty : TypeId} {ps : String} {af : Array Edge} {g : Option (Nat × Bool)} {b c : Nat} {es : List (AV × AV × Nat)} {m : List (Int × Int)} {k r : Int} {s' : Fr}
    (hg : C5 ops x.s g = true) (hX : evA x.s X = some (.map b)) (hI : evA x.s I = some (.int .i64 k)) (hb : Bd b x.h = some (.map es c)) (hm : mis es = some m)
    (ht : P.underlying t = some (.map kt et)) (hk : P.underlying kt = some (.int .i64)) (hz : ∀ w, (zeroValue et).run P w = .ok (.int .i64 0) w) (hr : (Bt m k).getD 0 = r)
    (hp : B6 n dst (.int .i64 r) x.s = some s') (next : SO P n ops rest B F K ⟨s', Ct b x.h, x.nx⟩) : SO P n ops (⟨dst, .lookup t X I false, ty, ps, af, g⟩ :: rest) B F K x := by
  intro φ σ w hx
  have v1 := hx.fr.ev _ _ hX
  have v2 := hx.fr.ev _ _ hI
  simp only [VR] at v1 v2
  obtain ⟨x0, κ, e0, v1⟩ := v1
  obtain ⟨x1, κ1, l, h1, h2, h3⟩ := hx.rel.obj b _ hb
  rw [e0] at h1; cases h1
  have he := Q2 h3 hm
  refine Cu (De hx.fr hg) (S5 (enc := I64) (val := I64) (k := k) (m := m) v1 v2 ⟨_, _, h2, he⟩ (Rb hk) ht hz) (next φ _ w ⟨hx.fr.put hp ?_, hx.rel.del b, hx.dom, hx.old, hx.new, hx.base⟩)
  rw [← hr]
  cases Bt m k <;> simp [VR, I64]
end
end Sv
end Go.Proofs.YtlfjokcbkopfeaaGreatDoor
end
section
namespace Go.Proofs.YtlfjokcbkopfeaaGreatDoor
open Go Go.RowKit
set_option linter.unusedSimpArgs false
set_option linter.unusedVariables false
def DepT.name : DepT → List UInt8 | .mk _ nm _ _ _ => nm
def DepT.op : DepT → Int | .mk _ _ op _ _ => op
def DepT.evr : DepT → List UInt8 | .mk _ _ _ ev _ => ev
def DepT.args : DepT → List DepT | .mk _ _ _ _ a => a
namespace Sv
mutual
noncomputable def R9 : DepT → AV
  | .mk k nm op ev args => .agg [.int .i64 k, .str nm, .int .i64 op, .str ev, .row 5 args.length (depAt args)]
noncomputable def depAt : List DepT → Nat → AV
  | [], _ => Bh
  | d :: _, 0 => R9 d
  | _ :: r, i + 1 => depAt r i
end
noncomputable def Az (d : DepT) : AV := .agg [.int .i64 d.kind, .str d.name, .int .i64 d.op, .str d.evr, .row 5 d.args.length (depAt d.args)]
theorem Q9s (d : DepT) : R9 d = Az d := by cases d; unfold R9; rfl
theorem Sb : ∀ {l : List DepT} {i : Nat}, i < l.length → depAt l i = Az (nth l i)
  | [], _, h => by simp at h
  | d :: r, 0, _ => by unfold depAt; exact Q9s d
  | d :: r, i + 1, h => by
    unfold depAt
    exact Sb (l := r) (by simpa using h)
noncomputable abbrev Dg (l : List DepT) : AV := Ah 5 Az l
theorem Eh (l : List DepT) : Imp (.row 5 l.length (depAt l)) (Dg l) := Imp.row fun i hi => Imp.of_eq (Sb hi)
theorem Jz (l : List DepT) : Imp (Dg l) (.row 5 l.length (depAt l)) := Imp.row fun i hi => Imp.of_eq (Sb hi).symm
theorem VRl.of_imp {a b : AV} {l : List AV} (h : Imp a b) : ∀ {p : List AV} {φ : Phi} {vs : List Value}, VRl φ (p ++ a :: l) vs → VRl φ (p ++ b :: l) vs
  | [], φ, vs, k => by
    obtain ⟨v, vs', rfl, h1, h2⟩ := VRl.cons_inv (a := a) (l := l) k
    exact VRl.cons (h φ v h1) h2
  | x :: p, φ, vs, k => by
    obtain ⟨v, vs', rfl, h1, h2⟩ := VRl.cons_inv (a := x) (l := p ++ a :: l) k
    exact VRl.cons h1 (VRl.of_imp h h2)
theorem Imp.agg {a b : AV} {p l : List AV} (h : Imp a b) : Imp (.agg (p ++ a :: l)) (.agg (p ++ b :: l)) := by
  intro φ v k
  simp only [VR] at k ⊢
  obtain ⟨vs, h1, h2⟩ := k; exact ⟨vs, VRl.of_imp h h1, h2⟩
theorem Q9r (d : DepT) : Imp (Az d) (.agg [.int .i64 d.kind, .str d.name, .int .i64 d.op, .str d.evr, Dg d.args]) := Imp.agg (p := [.int .i64 d.kind, .str d.name, .int .i64 d.op, .str d.evr]) (Eh d.args)
theorem Zs (d : DepT) : Imp (.agg [.int .i64 d.kind, .str d.name, .int .i64 d.op, .str d.evr, Dg d.args]) (Az d) := Imp.agg (p := [.int .i64 d.kind, .str d.name, .int .i64 d.op, .str d.evr]) (Jz d.args)
theorem Fi {d : DepT} {i : Nat} (h : i < d.args.length) : (nth d.args i).size < d.size := by
  cases d with
  | mk k nm op ev args =>
    have := Mu (l := args) (i := i) h
    show (nth args i).size < (DepT.mk k nm op ev args).size
    simp only [DepT.size]; omega
theorem O4 {C : DepT → Prop} (h : ∀ d, (∀ i, i < d.args.length → C (nth d.args i)) → C d) (d : DepT) : C d := by
  have key : ∀ n d, d.size ≤ n → C d := by
    intro n
    induction n with
    | zero => intro d hd; cases d; unfold DepT.size at hd; omega
    | succ n ih => intro d hd; exact h d fun i hi => ih _ (by have := Fi hi; omega)
  exact key d.size d (Nat.le_refl _)
end Sv
end Go.Proofs.YtlfjokcbkopfeaaGreatDoor
end
section
namespace Go.Proofs.YtlfjokcbkopfeaaGreatDoor
open Go Go.RowKit
namespace Sv
attribute [local irreducible] SW SO Bg
set_option maxHeartbeats 1000000
set_option maxRecDepth 100000
theorem Oi (ls : List (List UInt8)) (s : List UInt8) (hl : ls.length ≤ 4611686018427387904) :
  FnV Tryz.prog 138 [(Ch ls), (.str s)] (.int .i64 (Bo ls s 0)) := by
 refine Ba [.tmp 4] Tryz.func138 rfl Tryz.ntmps138 rfl rfl (fun B F hF => ?_)
 refine Aa [] [0, 1] ?_
 refine Ab ?_
 refine Aa [] [0, 1, 7, 8] ?_
 refine A3 ?_
 refine Bs (fun g y => ∃ (i : Nat), i ≤ ls.length ∧ Bo ls s 0 = Bo (ls.drop i) s i ∧ y = ⟨[(0, (Ch ls)), (1, (.str s)), (7, (.int .i64 ((ls.length : Int)))), (8, (.int .i64 ((i : Int))))], [], 0⟩ ∧ g = ls.length - i) [0, 1, 7, 8] 0 _ (by omega) ⟨0, (by omega), (by rfl), (by kernel_rfl), rfl⟩ ?_
 rintro g1 y1 ⟨i, f1_1, f1_2, rfl, rfl⟩
 refine Aa [] [0, 1, 7, 8, 9] ?_
 refine Ab ?_
 refine A8 (p := (i : Int) < (ls.length : Int)) (by kernel_rfl) (fun c1 => ?_) (fun c1 => ?_)
 ·refine Ai ?_
  refine Ab ?_
  refine A3 ?_
  refine Aa [] [0, 1, 5, 7, 8] ?_
  refine Ae [] [0, 1, 5, 7, 8, 16] [] hk0 v0 (cc 3 (p := (0 ≤ (i : Int) ∧ i < ls.length)) (by omega) <| c0) ?_
  refine A8 (p := s = nth ls i) (by kernel_rfl) (fun c2 => ?_) (fun c2 => ?_)
  ·refine Aa [] [4] ?_
   refine Ag ?_
   refine RK wR [(.int .i64 ((i : Int)))] ?_
   exact Same.of_eq (by rw [f1_2, Tc s (by omega), if_pos c2]; rfl)
  ·refine Ai ?_
   refine Ar ?_
   refine A2 0 [] [0, 1, 7, 8] [] hk0 v0 (cc 0 (p := (-9223372036854775808 ≤ (i : Int) + 1 ∧ (i : Int) + 1 ≤ 9223372036854775807)) (by omega) <| c0) ?_
   refine ⟨by kernel_rfl, _, ?_, i + 1, ?_, ?_, (by kernel_rfl), rfl⟩
   ·omega
   ·omega
   ·rw [f1_2, Tc s (by omega), if_neg c2]
 ·refine Bl ?_
  refine Aa [] [4] ?_
  refine Ag ?_
  refine RK wR [(.int .i64 (-1))] ?_
  exact Same.of_eq (by rw [f1_2, List.drop_of_length_le (by omega)]; rfl)
theorem Zx (ls : List (List UInt8)) (s : List UInt8) (hl : ls.length ≤ 4611686018427387904) :
  FnV Tryz.prog 93 [(Ch ls), (.str s)] (.bool (decide (0 ≤ Bo ls s 0))) := by
 refine Ba [.tmp 4] Tryz.func93 rfl Tryz.ntmps93 rfl rfl (fun B F hF => ?_)
 refine Aa [] [0, 1] ?_
 refine Ae [] [4] [] (hk 2 O0 (Oi ls s hl) <| hk0) v0 c0 ?_
 refine Ag ?_
 refine RK wR [(.bool (decide (0 ≤ (Bo ls s 0))))] ?_
 exact Same.of_eq (by first | rfl | (simp only [Aj]; simp_all))
theorem P9  :
  FnV Tryz.prog 94 [] (Ch signsL) := by
 refine Ba [.tmp 0] Tryz.func94 rfl Tryz.ntmps94 rfl rfl (fun B F hF => ?_)
 refine Aa [] [] ?_
 refine Aa [] [0] ?_
 refine Ag ?_
 refine RK wR [(.row 1 8 (fun ix => (Fz 1 8 [(.str []), (.str ([60])), (.str ([61])), (.str ([60, 61])), (.str ([62])), (.str ([60, 62])), (.str ([62, 61])), (.str ([60, 61, 62]))]).getD ix Bh))] ?_
 exact (Imp.list (f := AV.str) (l := signsL) rfl).same
theorem Tg  :
  FnV Tryz.prog 95 [] (Ch Dk) := by
 refine Ba [.tmp 0] Tryz.func95 rfl Tryz.ntmps95 rfl rfl (fun B F hF => ?_)
 refine Aa [] [] ?_
 refine Aa [] [0] ?_
 refine Ag ?_
 refine RK wR [(.row 1 7 (fun ix => (Fz 1 7 [(.str []), (.str []), (.str ([97, 110, 100])), (.str ([111, 114])), (.str ([105, 102])), (.str ([119, 105, 116, 104])), (.str ([119, 105, 116, 104, 111, 117, 116]))]).getD ix Bh))] ?_
 exact (Imp.list (f := AV.str) (l := Dk) rfl).same
theorem Ln (l : List UInt8) (hl : l.length ≤ 9223372036854775807) :
  FnV Tryz.prog 46 [(.str l)] (.bool (Bf l)) := by
 have hp : l = [] ∨ 0 < l.length := by cases l <;> simp
 refine Ba [.tmp 2] Tryz.func46 rfl Tryz.ntmps46 rfl rfl (fun B F hF => ?_)
 refine Aa [] [0] ?_
 refine Ab ?_
 obtain ⟨b1, hb1⟩ : ∃ b, b = (decide (l = [])) := ⟨_, rfl⟩
 obtain ⟨b2, hb2⟩ : ∃ b, b = (b1 || (decide (60 < (l.length : Int)))) := ⟨_, rfl⟩
 obtain ⟨b3, hb3⟩ : ∃ b, b = (b2 || (decide (((Af l 0).toNat : Int) = 40))) := ⟨_, rfl⟩
 obtain ⟨b4, hb4⟩ : ∃ b, b = (b3 || (decide (((Af l 0).toNat : Int) = 41))) := ⟨_, rfl⟩
 obtain ⟨b5, hb5⟩ : ∃ b, b = (b4 || (decide (l = [101, 108, 115, 101]))) := ⟨_, rfl⟩
 obtain ⟨b6, hb6⟩ : ∃ b, b = (b5 || (decide (0 ≤ Bo signsL l 0))) := ⟨_, rfl⟩
 have qh1 : (((!b1) = true → (!b1) = true)) ∧ (((!b1) = true → (!b1) = true)) ∧ ((b1 = false → (!b1) = true)) ∧ (((!b2) = true → ((!b2) = true) ∧ (0 ≤ (0 : Int) ∧ 0 < l.length))) ∧ (((!b2) = true → (!b2) = true)) ∧ ((b2 = false → (!b2) = true)) ∧ (((!b3) = true → ((!b3) = true) ∧ (0 ≤ (0 : Int) ∧ 0 < l.length))) ∧ (((!b3) = true → (!b3) = true)) ∧ ((b3 = false → (!b3) = true)) ∧ (((!b4) = true → (!b4) = true)) ∧ ((b4 = false → (!b4) = true)) := by
  rcases hp with hp | hp <;> simp_all
 refine Ae [9, 10, 11, 14, 15, 16, 19, 20, 21, 24, 25, 29, 34] [0, 36] [] (hkg 22 (!b5) Ru (fun cg => P9) <| hkg 24 (!b5) Ym (fun cg => (Zx signsL l (by decide))) <| hkg 27 (!b6) Yl (fun cg => Tg) <| hkg 29 (!b6) Ym (fun cg => (Zx Dk l (by decide))) <| hk0) (vk 3 8 (a := .bool (decide (l = []))) (b := .bool b1) (Imp.of_eq (by rw [hb1])) <| vk 8 13 (a := .bool (b1 || (decide (60 < (l.length : Int))))) (b := .bool b2) (Imp.of_eq (by rw [hb2])) <| vk 12 17 (a := .bool (b2 || (decide (((Af l 0).toNat : Int) = 40)))) (b := .bool b3) (Imp.of_eq (by rw [hb3])) <| vk 17 22 (a := .bool (b3 || (decide (((Af l 0).toNat : Int) = 41)))) (b := .bool b4) (Imp.of_eq (by rw [hb4])) <| vk 22 27 (a := .bool (b4 || (decide (l = [101, 108, 115, 101])))) (b := .bool b5) (Imp.of_eq (by rw [hb5])) <| vk 27 32 (a := .bool (b5 || (decide (0 ≤ Bo signsL l 0)))) (b := .bool b6) (Imp.of_eq (by rw [hb6])) <| v0) (cc 4 (p := ((!b1) = true → (!b1) = true)) qh1.1 <| cc 5 (p := ((!b1) = true → (!b1) = true)) qh1.2.1 <| cc 6 (p := (b1 = false → (!b1) = true)) qh1.2.2.1 <| cc 9 (p := ((!b2) = true → ((!b2) = true) ∧ (0 ≤ (0 : Int) ∧ 0 < l.length))) qh1.2.2.2.1 <| cc 10 (p := ((!b2) = true → (!b2) = true)) qh1.2.2.2.2.1 <| cc 11 (p := (b2 = false → (!b2) = true)) qh1.2.2.2.2.2.1 <| cc 14 (p := ((!b3) = true → ((!b3) = true) ∧ (0 ≤ (0 : Int) ∧ 0 < l.length))) qh1.2.2.2.2.2.2.1 <| cc 15 (p := ((!b3) = true → (!b3) = true)) qh1.2.2.2.2.2.2.2.1 <| cc 16 (p := (b3 = false → (!b3) = true)) qh1.2.2.2.2.2.2.2.2.1 <| cc 19 (p := ((!b4) = true → (!b4) = true)) qh1.2.2.2.2.2.2.2.2.2.1 <| cc 20 (p := (b4 = false → (!b4) = true)) qh1.2.2.2.2.2.2.2.2.2.2 <| cc 24 (p := (!b5) = true → (!b5) = true ∧ (!b5) = true) (by simp) <| cc 25 (p := (b5 = false → (!b5) = true)) (by simp) <| cc 29 (p := (!b6) = true → (!b6) = true ∧ (!b6) = true) (by simp) <| cc 30 (p := (b6 = false → (!b6) = true)) (by simp) <| c0) ?_
 refine A9 (q := b6 || (decide (0 ≤ Bo Dk l 0))) (by kernel_rfl) (fun c1 => ?_) (fun c1 => ?_)
 ·subst hb6 hb5 hb4 hb3 hb2 hb1
  try simp only [Al] at c1
  refine Aa [] [2] ?_
  refine Ag ?_
  refine RK wR [(.bool false)] ?_
  have h0 : Fo l = true := by
   unfold Fo
   rcases c1 with (((((h | h) | h) | h) | h) | h) | h <;> first | (simp [h]; done) | (have h' : 60 < l.length := (by omega); simp [h']; done) | (have h' : (Af l 0).toNat = 40 := (by omega); simp [h']; done) | (have h' : (Af l 0).toNat = 41 := (by omega); simp [h']; done)
  exact Same.of_eq (by simp only [Aj]; rw [Bf, h0]; rfl)
 ·subst hb6 hb5 hb4 hb3 hb2 hb1
  try simp only [Al] at c1
  have hnh : Fo l = false := by
   unfold Fo
   simp only [Bool.or_eq_false_iff, decide_eq_false_iff_not]
   exact ⟨c1.1.1.1.1.1.1, by omega, by omega, by omega, c1.1.1.2, c1.1.2, c1.2⟩
  refine Ai ?_
  refine Aa [] [0, 3] ?_
  refine Ab ?_
  refine Aa [] [0, 3, 38, 39] ?_
  refine A3 ?_
  refine Bs (fun g y => ∃ (k : Nat) (n : Int), k ≤ l.length ∧ Fk l 0 = Fk (l.drop k) n ∧ (0 ≤ n ∧ n ≤ k) ∧ l.length ≤ 60 ∧ Fo l = false ∧ y = ⟨[(0, (.str l)), (3, (.int .i64 n)), (38, (.int .i64 ((l.length : Int)))), (39, (.int .i64 ((k : Int))))], [], 0⟩ ∧ g = l.length - k) [0, 3, 38, 39] 0 _ (by omega) ⟨0, 0, (by omega), (by rfl), (by omega), (by exact X0 hnh), (by exact hnh), (by kernel_rfl), rfl⟩ ?_
  rintro g1 y1 ⟨k, n, f1_1, f1_2, f1_3, f1_4, f1_5, rfl, rfl⟩
  refine Aa [] [0, 3, 38, 39, 40] ?_
  refine Ab ?_
  refine A8 (p := (k : Int) < (l.length : Int)) (by kernel_rfl) (fun c2 => ?_) (fun c2 => ?_)
  ·refine Ai ?_
   refine Ab ?_
   refine A3 ?_
   refine Aa [] [0, 3, 4, 38, 39] ?_
   refine C7 (fun y => ¬ ((Af l k).toNat < 33 ∨ 126 < (Af l k).toNat) ∧ y = ⟨[(0, (.str l)), (3, (.int .i64 ((if (Af l k).toNat = 40 then n + 1 else if (Af l k).toNat = 41 then n - 1 else n)))), (38, (.int .i64 ((l.length : Int)))), (39, (.int .i64 ((k : Int))))], [], 0⟩) [0, 3, 38, 39] 0 (by omega) ?_ ?_
   ·refine Ae [] [0, 3, 5, 38, 39] [] hk0 v0 (cc 2 (p := (0 ≤ (k : Int) ∧ k < l.length)) (by omega) <| c0) ?_
    refine A3 ?_
    obtain ⟨b7, hb7⟩ : ∃ b, b = (decide (((Af l k).toNat : Int) < 33)) := ⟨_, rfl⟩
    obtain ⟨b8, hb8⟩ : ∃ b, b = (b7 || (decide (126 < ((Af l k).toNat : Int)))) := ⟨_, rfl⟩
    refine Ae (CS := [(4, ((!b7) = true → (!b7) = true)), (5, (b7 = false → (!b7) = true))]) [49, 50] [0, 3, 5, 38, 39, 45] [] hk0 (vk 3 48 (a := .bool (decide (((Af l k).toNat : Int) < 33))) (b := .bool b7) (Imp.of_eq (by rw [hb7])) <| vk 6 51 (a := .bool (b7 || (decide (126 < ((Af l k).toNat : Int))))) (b := .bool b8) (Imp.of_eq (by rw [hb8])) <| v0) (by refine cc _ ?_ <| cc _ ?_ c0 <;> simp) ?_
    refine A9 (q := b8) (by kernel_rfl) (fun c3 => ?_) (fun c3 => ?_)
    ·subst hb8 hb7
     try simp only [Al] at c3
     have hub : (Af l k).toNat < 33 ∨ 126 < (Af l k).toNat := by omega
     refine Aa [] [2] ?_
     refine Ag ?_
     refine RK wR [(.bool false)] ?_
     exact Same.of_eq (by simp only [Aj]; rw [Bf, f1_2, Fu (by omega), Fk, if_pos hub]; simp)
    ·subst hb8 hb7
     try simp only [Al] at c3
     have hub : ¬ ((Af l k).toNat < 33 ∨ 126 < (Af l k).toNat) := by omega
     refine Aa [] [0, 3, 5, 38, 39, 52] ?_
     refine A8 (p := ((Af l k).toNat : Int) = 40) (by kernel_rfl) (fun c4 => ?_) (fun c4 => ?_)
     ·refine Ar ?_
      refine A2 0 [] [0, 3, 38, 39] [] hk0 v0 (cc 1 (p := (-9223372036854775808 ≤ n + 1 ∧ n + 1 ≤ 9223372036854775807)) (by omega) <| c0) ?_
      refine ⟨by kernel_rfl, ?_, (Eq.trans (b := (⟨[(0, (.str l)), (3, (.int .i64 (n + 1))), (38, (.int .i64 ((l.length : Int)))), (39, (.int .i64 ((k : Int))))], [], 0⟩ : St)) (by kernel_rfl) (by rw [show (if (Af l k).toNat = 40 then n + 1 else if (Af l k).toNat = 41 then n - 1 else n) = n + 1 from by (repeat' split) <;> omega]))⟩
      exact hub
     ·refine Aa [] [0, 3, 38, 39, 57] ?_
      refine A8 (p := ((Af l k).toNat : Int) = 41) (by kernel_rfl) (fun c5 => ?_) (fun c5 => ?_)
      ·refine Ar ?_
       refine A2 0 [] [0, 3, 38, 39] [] hk0 v0 (cc 1 (p := (-9223372036854775808 ≤ n - 1 ∧ n - 1 ≤ 9223372036854775807)) (by omega) <| c0) ?_
       refine ⟨by kernel_rfl, ?_, (Eq.trans (b := (⟨[(0, (.str l)), (3, (.int .i64 (n - 1))), (38, (.int .i64 ((l.length : Int)))), (39, (.int .i64 ((k : Int))))], [], 0⟩ : St)) (by kernel_rfl) (by rw [show (if (Af l k).toNat = 40 then n + 1 else if (Af l k).toNat = 41 then n - 1 else n) = n - 1 from by (repeat' split) <;> omega]))⟩
       exact hub
      ·refine Ai ?_
       refine ⟨by kernel_rfl, ?_, (Eq.trans (b := (⟨[(0, (.str l)), (3, (.int .i64 n)), (38, (.int .i64 ((l.length : Int)))), (39, (.int .i64 ((k : Int))))], [], 0⟩ : St)) (by kernel_rfl) (by rw [show (if (Af l k).toNat = 40 then n + 1 else if (Af l k).toNat = 41 then n - 1 else n) = n from by (repeat' split) <;> omega]))⟩
       exact hub
   ·rintro y1 ⟨hub, rfl⟩
    refine Aa [] [0, 3, 38, 39, 63] ?_
    refine A8 (p := (if (Af l k).toNat = 40 then n + 1 else if (Af l k).toNat = 41 then n - 1 else n) < 0) (by kernel_rfl) (fun c6 => ?_) (fun c6 => ?_)
    ·refine Aa [] [2] ?_
     refine Ag ?_
     refine RK wR [(.bool false)] ?_
     exact Same.of_eq (by simp only [Aj]; rw [Bf, f1_2, N1 (by omega) hub]; simp only [if_pos c6]; simp)
    ·refine Ai ?_
     refine Ar ?_
     refine A2 0 [] [0, 3, 38, 39] [] hk0 v0 (cc 0 (p := (-9223372036854775808 ≤ (k : Int) + 1 ∧ (k : Int) + 1 ≤ 9223372036854775807)) (by omega) <| c0) ?_
     refine ⟨by kernel_rfl, _, ?_, k + 1, (if (Af l k).toNat = 40 then n + 1 else if (Af l k).toNat = 41 then n - 1 else n), ?_, ?_, ?_, ?_, ?_, (by kernel_rfl), rfl⟩
     ·omega
     ·omega
     ·rw [f1_2, N1 (by omega) hub]; simp only [if_neg c6]
     ·constructor <;> ((repeat' split) <;> omega)
     ·exact f1_4
     ·exact f1_5
  ·refine Bl ?_
   refine Aa [] [2] ?_
   refine Ag ?_
   refine RK wR [(.bool (decide (n = 0)))] ?_
   exact Same.of_eq (by simp only [Aj]; rw [Bf, f1_5, f1_2, List.drop_of_length_le (by omega), Fk]; simp)
theorem Q11 (s : List UInt8) :
  FnV Tryz.prog 139 [(.str s)] (.bool (Kg s)) := by
 refine Ba [.tmp 2] Tryz.func139 rfl Tryz.ntmps139 rfl rfl (fun B F hF => ?_)
 refine Aa [] [0] ?_
 obtain ⟨b1, hb1⟩ : ∃ b, b = (decide (s = [97, 110, 100])) := ⟨_, rfl⟩
 obtain ⟨b2, hb2⟩ : ∃ b, b = (b1 || (decide (s = [111, 114]))) := ⟨_, rfl⟩
 obtain ⟨b3, hb3⟩ : ∃ b, b = (b2 || (decide (s = [105, 102]))) := ⟨_, rfl⟩
 obtain ⟨b4, hb4⟩ : ∃ b, b = (b3 || (decide (s = [101, 108, 115, 101]))) := ⟨_, rfl⟩
 obtain ⟨b5, hb5⟩ : ∃ b, b = (b4 || (decide (s = [119, 105, 116, 104]))) := ⟨_, rfl⟩
 obtain ⟨b6, hb6⟩ : ∃ b, b = (b5 || (decide (s = [119, 105, 116, 104, 111, 117, 116]))) := ⟨_, rfl⟩
 refine Ae (CS := [(4, ((!b1) = true → (!b1) = true)), (5, (b1 = false → (!b1) = true)), (8, ((!b2) = true → (!b2) = true)), (9, (b2 = false → (!b2) = true)), (12, ((!b3) = true → (!b3) = true)), (13, (b3 = false → (!b3) = true)), (16, ((!b4) = true → (!b4) = true)), (17, (b4 = false → (!b4) = true)), (20, ((!b5) = true → (!b5) = true)), (21, (b5 = false → (!b5) = true))]) [6, 7, 10, 11, 14, 15, 18, 19, 22, 23] [2] [] hk0 (vk 3 5 (a := .bool (decide (s = [97, 110, 100]))) (b := .bool b1) (Imp.of_eq (by rw [hb1])) <| vk 7 9 (a := .bool (b1 || (decide (s = [111, 114])))) (b := .bool b2) (Imp.of_eq (by rw [hb2])) <| vk 11 13 (a := .bool (b2 || (decide (s = [105, 102])))) (b := .bool b3) (Imp.of_eq (by rw [hb3])) <| vk 15 17 (a := .bool (b3 || (decide (s = [101, 108, 115, 101])))) (b := .bool b4) (Imp.of_eq (by rw [hb4])) <| vk 19 21 (a := .bool (b4 || (decide (s = [119, 105, 116, 104])))) (b := .bool b5) (Imp.of_eq (by rw [hb5])) <| vk 22 24 (a := .bool (b5 || (decide (s = [119, 105, 116, 104, 111, 117, 116])))) (b := .bool b6) (Imp.of_eq (by rw [hb6])) <| v0) (by refine cc _ ?_ <| cc _ ?_ <| cc _ ?_ <| cc _ ?_ <| cc _ ?_ <| cc _ ?_ <| cc _ ?_ <| cc _ ?_ <| cc _ ?_ <| cc _ ?_ c0 <;> simp) ?_
 refine Ag ?_
 refine RK wR [(.bool b6)] ?_
 subst hb6 hb5 hb4 hb3 hb2 hb1
 exact Same.of_eq (by simp only [Aj]; unfold Kg; simp only [Bool.or_assoc])
theorem Q2t (s : List UInt8) :
  FnV Tryz.prog 140 [(.str s)] (.int .i64 (E4 s)) := by
 refine Ba [.tmp 2] Tryz.func140 rfl Tryz.ntmps140 rfl rfl (fun B F hF => ?_)
 refine Aa [] [0] ?_
 refine Ab ?_
 refine Aa [] [3] ?_
 refine A3 ?_
 refine Aa [] [3, 4] ?_
 refine A8 (p := s = [60]) (by kernel_rfl) (fun c1 => ?_) (fun c1 => ?_)
 ·refine Aa [] [2] ?_
  refine Ag ?_
  refine RK wR [(.int .i64 1)] ?_
  exact Same.of_eq (by simp only [Aj]; congr 1; simp [E4, *])
 ·refine Aa [] [3, 6] ?_
  refine A8 (p := s = [61]) (by kernel_rfl) (fun c2 => ?_) (fun c2 => ?_)
  ·refine Aa [] [2] ?_
   refine Ag ?_
   refine RK wR [(.int .i64 2)] ?_
   exact Same.of_eq (by simp only [Aj]; congr 1; simp [E4, *])
  ·refine Aa [] [3, 8] ?_
   refine A8 (p := s = [60, 61]) (by kernel_rfl) (fun c3 => ?_) (fun c3 => ?_)
   ·refine Aa [] [2] ?_
    refine Ag ?_
    refine RK wR [(.int .i64 3)] ?_
    exact Same.of_eq (by simp only [Aj]; congr 1; simp [E4, *])
   ·refine Aa [] [3, 10] ?_
    refine A8 (p := s = [62]) (by kernel_rfl) (fun c4 => ?_) (fun c4 => ?_)
    ·refine Aa [] [2] ?_
     refine Ag ?_
     refine RK wR [(.int .i64 4)] ?_
     exact Same.of_eq (by simp only [Aj]; congr 1; simp [E4, *])
    ·refine Aa [] [3, 12] ?_
     refine A8 (p := s = [60, 62]) (by kernel_rfl) (fun c5 => ?_) (fun c5 => ?_)
     ·refine Aa [] [2] ?_
      refine Ag ?_
      refine RK wR [(.int .i64 5)] ?_
      exact Same.of_eq (by simp only [Aj]; congr 1; simp [E4, *])
     ·refine Aa [] [3, 14] ?_
      refine A8 (p := s = [62, 61]) (by kernel_rfl) (fun c6 => ?_) (fun c6 => ?_)
      ·refine Aa [] [2] ?_
       refine Ag ?_
       refine RK wR [(.int .i64 6)] ?_
       exact Same.of_eq (by simp only [Aj]; congr 1; simp [E4, *])
      ·refine Aa [] [16] ?_
       refine A8 (p := s = [60, 61, 62]) (by kernel_rfl) (fun c7 => ?_) (fun c7 => ?_)
       ·refine Aa [] [2] ?_
        refine Ag ?_
        refine RK wR [(.int .i64 7)] ?_
        exact Same.of_eq (by simp only [Aj]; congr 1; simp [E4, *])
       ·refine Ai ?_
        refine Aa [] [2] ?_
        refine Ag ?_
        refine RK wR [(.int .i64 0)] ?_
        exact Same.of_eq (by simp only [Aj]; congr 1; simp [E4, *])
theorem Nq (l : List UInt8) (hl : l.length ≤ 9223372036854775807) :
  FnV Tryz.prog 91 [(.str l)] (.bool (Bf l)) := by
 have hp : l.length < 1 ∨ 0 < l.length := by omega
 refine Ba [.tmp 2] Tryz.func91 rfl Tryz.ntmps91 rfl rfl (fun B F hF => ?_)
 refine Aa [] [0] ?_
 refine Ae [] [0, 3] [] (hk 1 Q81 (Q11 l) <| hk0) v0 c0 ?_
 refine Ab ?_
 obtain ⟨b1, hb1⟩ : ∃ b, b = (decide ((l.length : Int) < 1)) := ⟨_, rfl⟩
 obtain ⟨b2, hb2⟩ : ∃ b, b = (b1 || (decide (60 < (l.length : Int)))) := ⟨_, rfl⟩
 obtain ⟨b3, hb3⟩ : ∃ b, b = (b2 || (decide (((Af l 0).toNat : Int) = 40))) := ⟨_, rfl⟩
 obtain ⟨b4, hb4⟩ : ∃ b, b = (b3 || (decide (((Af l 0).toNat : Int) = 41))) := ⟨_, rfl⟩
 obtain ⟨b5, hb5⟩ : ∃ b, b = (b4 || (Kg l)) := ⟨_, rfl⟩
 have qh1 : (((!b1) = true → (!b1) = true)) ∧ (((!b1) = true → (!b1) = true)) ∧ ((b1 = false → (!b1) = true)) ∧ (((!b2) = true → ((!b2) = true) ∧ (0 ≤ (0 : Int) ∧ 0 < l.length))) ∧ (((!b2) = true → (!b2) = true)) ∧ ((b2 = false → (!b2) = true)) ∧ (((!b3) = true → ((!b3) = true) ∧ (0 ≤ (0 : Int) ∧ 0 < l.length))) ∧ (((!b3) = true → (!b3) = true)) ∧ ((b3 = false → (!b3) = true)) ∧ ((b4 = false → (!b4) = true)) := by
  rcases hp with hp | hp <;> simp_all
 refine Ae [12, 13, 14, 17, 18, 19, 22, 23, 24, 27, 30, 32] [0, 33] [] (hkg 23 (!b5) Q8z (fun cg => Q2t l) <| hk0) (vk 4 11 (a := .bool (decide ((l.length : Int) < 1))) (b := .bool b1) (Imp.of_eq (by rw [hb1])) <| vk 9 16 (a := .bool (b1 || (decide (60 < (l.length : Int))))) (b := .bool b2) (Imp.of_eq (by rw [hb2])) <| vk 13 20 (a := .bool (b2 || (decide (((Af l 0).toNat : Int) = 40)))) (b := .bool b3) (Imp.of_eq (by rw [hb3])) <| vk 18 25 (a := .bool (b3 || (decide (((Af l 0).toNat : Int) = 41)))) (b := .bool b4) (Imp.of_eq (by rw [hb4])) <| vk 22 29 (a := .bool (b4 || (Kg l))) (b := .bool b5) (Imp.of_eq (by rw [hb5])) <| v0) (cc 5 (p := ((!b1) = true → (!b1) = true)) qh1.1 <| cc 6 (p := ((!b1) = true → (!b1) = true)) qh1.2.1 <| cc 7 (p := (b1 = false → (!b1) = true)) qh1.2.2.1 <| cc 10 (p := ((!b2) = true → ((!b2) = true) ∧ (0 ≤ (0 : Int) ∧ 0 < l.length))) qh1.2.2.2.1 <| cc 11 (p := ((!b2) = true → (!b2) = true)) qh1.2.2.2.2.1 <| cc 12 (p := (b2 = false → (!b2) = true)) qh1.2.2.2.2.2.1 <| cc 15 (p := ((!b3) = true → ((!b3) = true) ∧ (0 ≤ (0 : Int) ∧ 0 < l.length))) qh1.2.2.2.2.2.2.1 <| cc 16 (p := ((!b3) = true → (!b3) = true)) qh1.2.2.2.2.2.2.2.1 <| cc 17 (p := (b3 = false → (!b3) = true)) qh1.2.2.2.2.2.2.2.2.1 <| cc 20 (p := (b4 = false → (!b4) = true)) qh1.2.2.2.2.2.2.2.2.2 <| cc 23 (p := (!b5) = true → (!b5) = true) (by simp) <| cc 24 (p := ((!b5) = true → (!b5) = true)) (by simp) <| cc 25 (p := (b5 = false → (!b5) = true)) (by simp) <| c0) ?_
 refine A9 (q := b5 || (!decide ((E4 l) = 0))) (by kernel_rfl) (fun c1 => ?_) (fun c1 => ?_)
 ·subst hb5 hb4 hb3 hb2 hb1
  try simp only [Al] at c1
  refine Aa [] [2] ?_
  refine Ag ?_
  refine RK wR [(.bool false)] ?_
  have h0 : Fo l = true := by
   rw [← Ut]
   unfold Nr
   rcases c1 with ((((h | h) | h) | h) | h) | h <;> first | (simp [h]; done) | (have h' : l.length < 1 := (by omega); simp [h']; done) | (have h' : 60 < l.length := (by omega); simp [h']; done) | (have h' : (Af l 0).toNat = 40 := (by omega); simp [h']; done) | (have h' : (Af l 0).toNat = 41 := (by omega); simp [h']; done) | (have h' : ¬ E4 l = 0 := (by omega); simp [h']; done)
  exact Same.of_eq (by simp only [Aj]; rw [Bf, h0]; rfl)
 ·subst hb5 hb4 hb3 hb2 hb1
  try simp only [Al] at c1
  have hnh : Fo l = false := by
   rw [← Ut]
   unfold Nr
   simp only [Bool.or_eq_false_iff, decide_eq_false_iff_not]
   exact ⟨by omega, by omega, by omega, by omega, c1.1.2, by omega⟩
  refine Ai ?_
  refine Aa [] [0, 4] ?_
  refine Ab ?_
  refine Aa [] [0, 4, 5] ?_
  refine A3 ?_
  refine Bs (fun g y => ∃ (k : Nat) (n : Int), k ≤ l.length ∧ Fk l 0 = Fk (l.drop k) n ∧ (0 ≤ n ∧ n ≤ k) ∧ l.length ≤ 60 ∧ Fo l = false ∧ y = ⟨[(0, (.str l)), (4, (.int .i64 n)), (5, (.int .i64 ((k : Int))))], [], 0⟩ ∧ g = l.length - k) [0, 4, 5] 0 _ (by omega) ⟨0, 0, (by omega), (by rfl), (by omega), (by exact X0 hnh), (by exact hnh), (by kernel_rfl), rfl⟩ ?_
  rintro g1 y1 ⟨k, n, f1_1, f1_2, f1_3, f1_4, f1_5, rfl, rfl⟩
  refine Ab ?_
  refine Aa [] [0, 4, 5, 37] ?_
  refine A8 (p := (k : Int) < (l.length : Int)) (by kernel_rfl) (fun c2 => ?_) (fun c2 => ?_)
  ·refine Ai ?_
   refine Ab ?_
   refine A3 ?_
   refine Ab ?_
   obtain ⟨b6, hb6⟩ : ∃ b, b = (decide (((Af l k).toNat : Int) < 33)) := ⟨_, rfl⟩
   refine Ae (CS := [(2, (0 ≤ (k : Int) ∧ k < l.length)), (7, ((!b6) = true → ((!b6) = true ∧ (!b6) = true) ∧ (0 ≤ (k : Int) ∧ k < l.length))), (8, ((!b6) = true → (!b6) = true)), (9, (b6 = false → (!b6) = true))]) [45, 46, 47, 48] [0, 4, 5, 49] [] hk0 (vk 5 44 (a := .bool (decide (((Af l k).toNat : Int) < 33))) (b := .bool b6) (Imp.of_eq (by rw [hb6])) <| v0) (by refine cc _ ?_ <| cc _ ?_ <| cc _ ?_ <| cc _ ?_ c0 <;> (intros; simp_all; done)) ?_
   refine A9 (q := b6 || (decide (126 < ((Af l k).toNat : Int)))) (by kernel_rfl) (fun c3 => ?_) (fun c3 => ?_)
   ·subst hb6
    try simp only [Al] at c3
    have hub : (Af l k).toNat < 33 ∨ 126 < (Af l k).toNat := by omega
    refine Aa [] [2] ?_
    refine Ag ?_
    refine RK wR [(.bool false)] ?_
    exact Same.of_eq (by simp only [Aj]; rw [Bf, f1_2, Fu (by omega), Fk, if_pos hub]; simp)
   ·subst hb6
    try simp only [Al] at c3
    have hub : ¬ ((Af l k).toNat < 33 ∨ 126 < (Af l k).toNat) := by omega
    refine Ai ?_
    refine C7 (fun y => y = ⟨[(0, (.str l)), (4, (.int .i64 ((if (Af l k).toNat = 40 then n + 1 else n)))), (5, (.int .i64 ((k : Int))))], [], 0⟩) [0, 4, 5] 0 (by omega) ?_ ?_
    ·refine Ae [] [0, 4, 5, 53] [] hk0 v0 (cc 2 (p := (0 ≤ (k : Int) ∧ k < l.length)) (by omega) <| c0) ?_
     refine A8 (p := ((Af l k).toNat : Int) = 40) (by kernel_rfl) (fun c4 => ?_) (fun c4 => ?_)
     ·refine Ar ?_
      refine A2 0 [] [0, 4, 5] [] hk0 v0 (cc 1 (p := (-9223372036854775808 ≤ n + 1 ∧ n + 1 ≤ 9223372036854775807)) (by omega) <| c0) ?_
      refine ⟨by kernel_rfl, (Eq.trans (b := (⟨[(0, (.str l)), (4, (.int .i64 (n + 1))), (5, (.int .i64 ((k : Int))))], [], 0⟩ : St)) (by kernel_rfl) (by rw [show (if (Af l k).toNat = 40 then n + 1 else n) = n + 1 from if_pos (by omega)]))⟩
     ·refine Ai ?_
      refine ⟨by kernel_rfl, (Eq.trans (b := (⟨[(0, (.str l)), (4, (.int .i64 n)), (5, (.int .i64 ((k : Int))))], [], 0⟩ : St)) (by kernel_rfl) (by rw [show (if (Af l k).toNat = 40 then n + 1 else n) = n from if_neg (by omega)]))⟩
    ·rintro y1 rfl
     refine C7 (fun y => y = ⟨[(0, (.str l)), (4, (.int .i64 ((if (Af l k).toNat = 40 then n + 1 else if (Af l k).toNat = 41 then n - 1 else n)))), (5, (.int .i64 ((k : Int))))], [], 0⟩) [0, 4, 5] 0 (by omega) ?_ ?_
     ·refine Ae [] [0, 4, 5, 59] [] hk0 v0 (cc 2 (p := (0 ≤ (k : Int) ∧ k < l.length)) (by omega) <| c0) ?_
      refine A8 (p := ((Af l k).toNat : Int) = 41) (by kernel_rfl) (fun c5 => ?_) (fun c5 => ?_)
      ·refine Ar ?_
       refine A2 0 [] [0, 4, 5] [] hk0 v0 (cc 1 (p := (-9223372036854775808 ≤ (if (Af l k).toNat = 40 then n + 1 else n) - 1 ∧ (if (Af l k).toNat = 40 then n + 1 else n) - 1 ≤ 9223372036854775807)) (by omega) <| c0) ?_
       refine ⟨by kernel_rfl, (Eq.trans (b := (⟨[(0, (.str l)), (4, (.int .i64 ((if (Af l k).toNat = 40 then n + 1 else n) - 1))), (5, (.int .i64 ((k : Int))))], [], 0⟩ : St)) (by kernel_rfl) (by rw [show (if (Af l k).toNat = 40 then n + 1 else if (Af l k).toNat = 41 then n - 1 else n) = (if (Af l k).toNat = 40 then n + 1 else n) - 1 from by (repeat' split) <;> omega]))⟩
      ·refine Ai ?_
       refine ⟨by kernel_rfl, (Eq.trans (b := (⟨[(0, (.str l)), (4, (.int .i64 ((if (Af l k).toNat = 40 then n + 1 else n)))), (5, (.int .i64 ((k : Int))))], [], 0⟩ : St)) (by kernel_rfl) (by rw [show (if (Af l k).toNat = 40 then n + 1 else if (Af l k).toNat = 41 then n - 1 else n) = (if (Af l k).toNat = 40 then n + 1 else n) from by (repeat' split) <;> omega]))⟩
     ·rintro y2 rfl
      refine Aa [] [0, 4, 5, 63] ?_
      refine A8 (p := (if (Af l k).toNat = 40 then n + 1 else if (Af l k).toNat = 41 then n - 1 else n) < 0) (by kernel_rfl) (fun c6 => ?_) (fun c6 => ?_)
      ·refine Aa [] [2] ?_
       refine Ag ?_
       refine RK wR [(.bool false)] ?_
       exact Same.of_eq (by simp only [Aj]; rw [Bf, f1_2, N1 (by omega) hub]; simp only [if_pos c6]; simp)
      ·refine Ai ?_
       refine Ar ?_
       refine A2 0 [] [0, 4, 5] [] hk0 v0 (cc 1 (p := (-9223372036854775808 ≤ (k : Int) + 1 ∧ (k : Int) + 1 ≤ 9223372036854775807)) (by omega) <| c0) ?_
       refine ⟨by kernel_rfl, _, ?_, k + 1, (if (Af l k).toNat = 40 then n + 1 else if (Af l k).toNat = 41 then n - 1 else n), ?_, ?_, ?_, ?_, ?_, (by kernel_rfl), rfl⟩
       ·omega
       ·omega
       ·rw [f1_2, N1 (by omega) hub]; simp only [if_neg c6]
       ·constructor <;> ((repeat' split) <;> omega)
       ·exact f1_4
       ·exact f1_5
  ·refine Bl ?_
   refine Aa [] [2] ?_
   refine Ag ?_
   refine RK wR [(.bool (decide (n = 0)))] ?_
   exact Same.of_eq (by simp only [Aj]; rw [Bf, f1_5, f1_2, List.drop_of_length_le (by omega), Fk]; simp)
end Sv
end Go.Proofs.YtlfjokcbkopfeaaGreatDoor
end
section
namespace Go.Proofs.YtlfjokcbkopfeaaGreatDoor
open Go Go.RowKit
namespace Sv
attribute [local irreducible] SW SO Bg
set_option maxHeartbeats 400000
set_option maxRecDepth 100000
theorem Hk : As Tryz.prog 148 := Ax Tryz.func148 (by kernel_rfl) rfl
theorem Ld : As Tryz.prog 149 := Ax Tryz.func149 (by kernel_rfl) rfl
theorem Gx : As Tryz.prog 151 := Ax Tryz.func151 (by kernel_rfl) rfl
theorem Y9 : As Tryz.prog 196 := Ax Tryz.func196 (by kernel_rfl) rfl
theorem Oz : As Tryz.prog 167 := Ax Tryz.func167 (by kernel_rfl) rfl
def Ao (c : UInt8) : Bool := decide (48 ≤ c.toNat) && decide (c.toNat ≤ 57)
def Bv (c : UInt8) : Bool := (decide (97 ≤ c.toNat) && decide (c.toNat ≤ 122)) || (decide (65 ≤ c.toNat) && decide (c.toNat ≤ 90))
def Ap (p : UInt8 → Bool) (s : List UInt8) : Nat := (s.takeWhile p).length
theorem Ez (p : UInt8 → Bool) : ∀ s : List UInt8, Ap p s ≤ s.length
 | [] => Nat.le_refl _
 | a :: r => by
  have := Ez p r
  unfold Ap at this ⊢
  rw [List.takeWhile_cons]
  split <;> simp <;> omega
theorem Sf {p : UInt8 → Bool} : ∀ {s : List UInt8} {i : Nat}, i < s.length → (∀ j, j < i → p (Af s j) = true) → p (Af s i) = false → Ap p s = i
 | [], _, h, _, _ => by simp at h
 | a :: r, 0, _, _, h => by
  have h : p a = false := h
  unfold Ap; rw [List.takeWhile_cons, h]; rfl
 | a :: r, i + 1, hi, h, hp => by
  have h0 : p a = true := h 0 (by omega)
  have := Sf (s := r) (i := i) (by simpa using hi) (fun j hj => h (j + 1) (by omega)) hp
  unfold Ap at this ⊢
  rw [List.takeWhile_cons, h0]
  simp [this]
theorem Sg {p : UInt8 → Bool} : ∀ {s : List UInt8}, (∀ j, j < s.length → p (Af s j) = true) → Ap p s = s.length
 | [], _ => rfl
 | a :: r, h => by
  have h0 : p a = true := h 0 (by simp)
  have := Sg (s := r) (fun j hj => h (j + 1) (by simpa using hj))
  unfold Ap at this ⊢
  rw [List.takeWhile_cons, h0]
  simp [this]
def Em (a b : Bool) (g : Int) : Int := if (a && !b) = true then g else if (b && !a) = true then -g else 0
def Br (s : List UInt8) : Int := if s = [] ∨ Ao (Af s 0) = true then 0 else if (Af s 0).toNat = 126 then -1 else if Bv (Af s 0) = true then (Af s 0).toNat else 256 + ((Af s 0).toNat : Int)
theorem H4 (c : UInt8) :
  FnV Tryz.prog 148 [(.int .u8 ((c.toNat : Int)))] (.bool (Ao c)) := by
 refine Ba [.tmp 2] Tryz.func148 rfl Tryz.ntmps148 rfl rfl (fun B F hF => ?_)
 refine Aa [] [0] ?_
 obtain ⟨b1, hb1⟩ : ∃ b, b = (decide (48 ≤ (c.toNat : Int))) := ⟨_, rfl⟩
 refine Ae (CS := [(4, (b1 = true → b1 = true)), (5, (b1 = true → b1 = true))]) [6, 7] [2] [] hk0 (vk 3 5 (a := .bool (decide (48 ≤ (c.toNat : Int)))) (b := .bool b1) (Imp.of_eq (by rw [hb1])) <| v0) (by refine cc _ ?_ <| cc _ ?_ c0 <;> simp) ?_
 refine Ag ?_
 refine RK wR [(.bool (b1 && (decide ((c.toNat : Int) ≤ 57))))] ?_
 subst hb1
 refine Same.of_eq ?_
 simp only [Aj]
 congr 1
 unfold Ao
 rw [Bool.eq_iff_iff]
 simp only [Bool.and_eq_true, Bool.or_eq_true, decide_eq_true_eq]
 omega
theorem Mb (c : UInt8) :
  FnV Tryz.prog 149 [(.int .u8 ((c.toNat : Int)))] (.bool (Bv c)) := by
 refine Ba [.tmp 2] Tryz.func149 rfl Tryz.ntmps149 rfl rfl (fun B F hF => ?_)
 refine Aa [] [0] ?_
 obtain ⟨b1, hb1⟩ : ∃ b, b = (decide (97 ≤ (c.toNat : Int))) := ⟨_, rfl⟩
 obtain ⟨b2, hb2⟩ : ∃ b, b = (b1 && (decide ((c.toNat : Int) ≤ 122))) := ⟨_, rfl⟩
 obtain ⟨b3, hb3⟩ : ∃ b, b = (b2 || ((decide (65 ≤ (c.toNat : Int))) && (decide ((c.toNat : Int) ≤ 90)))) := ⟨_, rfl⟩
 refine Ae (CS := [(4, (b1 = true → b1 = true)), (5, (b1 = true → b1 = true)), (8, ((!b2) = true → (!b2) = true)), (9, ((!b2) = true → (!b2) = true)), (11, (((!b2) && (decide (65 ≤ (c.toNat : Int)))) = true → ((!b2) && (decide (65 ≤ (c.toNat : Int)))) = true)), (12, ((!b2) = true → ((!b2) = true) ∧ ((decide (65 ≤ (c.toNat : Int))) = true → ((!b2) && (decide (65 ≤ (c.toNat : Int)))) = true))), (13, (b2 = false → (!b2) = true))]) [6, 7, 10, 11, 12, 13, 14, 15] [2] [] hk0 (vk 3 5 (a := .bool (decide (97 ≤ (c.toNat : Int)))) (b := .bool b1) (Imp.of_eq (by rw [hb1])) <| vk 7 9 (a := .bool (b1 && (decide ((c.toNat : Int) ≤ 122)))) (b := .bool b2) (Imp.of_eq (by rw [hb2])) <| vk 14 16 (a := .bool (b2 || ((decide (65 ≤ (c.toNat : Int))) && (decide ((c.toNat : Int) ≤ 90))))) (b := .bool b3) (Imp.of_eq (by rw [hb3])) <| v0) (by refine cc _ ?_ <| cc _ ?_ <| cc _ ?_ <| cc _ ?_ <| cc _ ?_ <| cc _ ?_ <| cc _ ?_ c0 <;> (intros; simp_all; done)) ?_
 refine Ag ?_
 refine RK wR [(.bool b3)] ?_
 subst hb3 hb2 hb1
 refine Same.of_eq ?_
 simp only [Aj]
 congr 1
 unfold Bv
 rw [Bool.eq_iff_iff]
 simp only [Bool.and_eq_true, Bool.or_eq_true, decide_eq_true_eq]
 omega
theorem N4 (a b : Bool) (g : Int) (hg : -1 ≤ g ∧ g ≤ 1) :
  FnV Tryz.prog 167 [(.bool a), (.bool b), (.int .i64 g)] (.int .i64 (Em a b g)) := by
 refine Ba [.tmp 6] Tryz.func167 rfl Tryz.ntmps167 rfl rfl (fun B F hF => ?_)
 refine Aa [] [0, 1, 2] ?_
 refine Ab ?_
 refine A3 ?_
 refine Ae (CS := [(3, (a = true → a = true)), (4, (a = true → a = true))]) [10, 11] [0, 1, 2, 7] [] hk0 v0 (by refine cc _ ?_ <| cc _ ?_ c0 <;> simp) ?_
 refine A9 (q := a && (!b)) (by kernel_rfl) (fun c1 => ?_) (fun c1 => ?_)
 ·try simp only [Al] at c1
  refine Aa [] [6] ?_
  refine Ag ?_
  refine RK wR [(.int .i64 g)] ?_
  refine Same.of_eq ?_
  simp only [Aj]
  congr 1
  unfold Em
  cases a <;> cases b <;> first | rfl | (show 0 - g = -g; omega) | (simp at c1; done) | (simp at c2; done) | contradiction
 ·try simp only [Al] at c1
  refine Ae (CS := [(3, (b = true → b = true)), (4, (b = true → b = true))]) [17, 18] [2, 14] [] hk0 v0 (by refine cc _ ?_ <| cc _ ?_ c0 <;> simp) ?_
  refine A9 (q := b && (!a)) (by kernel_rfl) (fun c2 => ?_) (fun c2 => ?_)
  ·try simp only [Al] at c2
   refine Ae [] [6] [] hk0 v0 (cc 1 (p := (-9223372036854775808 ≤ 0 - g ∧ 0 - g ≤ 9223372036854775807)) (by omega) <| c0) ?_
   refine Ag ?_
   refine RK wR [(.int .i64 (0 - g))] ?_
   refine Same.of_eq ?_
   simp only [Aj]
   congr 1
   unfold Em
   cases a <;> cases b <;> first | rfl | (show 0 - g = -g; omega) | (simp at c1; done) | (simp at c2; done) | contradiction
  ·try simp only [Al] at c2
   refine Ai ?_
   refine Aa [] [6] ?_
   refine Ag ?_
   refine RK wR [(.int .i64 0)] ?_
   refine Same.of_eq ?_
   simp only [Aj]
   congr 1
   unfold Em
   cases a <;> cases b <;> first | rfl | (show 0 - g = -g; omega) | (simp at c1; done) | (simp at c2; done) | contradiction
theorem Ho (s : List UInt8) (a : AV) (p : UInt8 → Bool) (hl : s.length ≤ 9223372036854775806) (ha : ∀ c : UInt8, FunV Tryz.prog a [.int .u8 (c.toNat : Int)] (.bool (p c))) :
  FnV Tryz.prog 151 [(.str s), (.clo a)] (.int .i64 ((Ap p s : Int))) := by
 refine Ba [.tmp 4] Tryz.func151 rfl Tryz.ntmps151 rfl rfl (fun B F hF => ?_)
 refine Aa [] [0, 1] ?_
 refine Aa [] [0, 1, 5] ?_
 refine Ab ?_
 refine A3 ?_
 refine Bs (fun g y => ∃ (i : Nat), i ≤ s.length ∧ (∀ j, j < i → p (Af s j) = true) ∧ y = ⟨[(0, (.str s)), (1, (.clo a)), (5, (.int .i64 ((i : Int))))], [], 0⟩ ∧ g = s.length - i) [0, 1, 5] 0 _ (by omega) ⟨0, (by omega), (by exact fun j hj => by omega), (by kernel_rfl), rfl⟩ ?_
 rintro g1 y1 ⟨i, f1_1, f1_2, rfl, rfl⟩
 refine Ab ?_
 refine Ab ?_
 refine Ar ?_
 obtain ⟨b1, hb1⟩ : ∃ b, b = (decide ((i : Int) < (s.length : Int))) := ⟨_, rfl⟩
 refine Bj 5 0 [] [0, 1, 5, 10] [] hk0 v0 c0 ?_
 refine Ff 10 (a := .bool (decide ((i : Int) < (s.length : Int)))) (.bool b1) (by kernel_rfl) (Imp.of_eq (by rw [hb1])) ?_
 refine Pb b1 (fun c1 => ?_) (fun c1 => ?_)
 ·refine Ff 10 (a := .bool b1) (.bool true) (by kernel_rfl) (Imp.of_eq (by rw [c1])) ?_
  refine Bj 4 5 [] [0, 1, 5, 10, 11, 14] [] hk0 v0 (cc 8 (p := (0 ≤ (i : Int) ∧ i < s.length)) (by (intros; simp_all; done)) <| c0) ?_
  refine F7 (s' := [(0, (.str s)), (1, (.clo a)), (5, (.int .i64 ((i : Int)))), (10, (.bool true)), (11, (.clo a)), (14, (.int .u8 (((Af s i).toNat : Int)))), (15, (.bool (p (Af s i))))]) (a := (.clo a)) (al := [(.int .u8 (((Af s i).toNat : Int)))]) (r := (.bool (p (Af s i)))) (by kernel_rfl) (by kernel_rfl) (by kernel_rfl) (by kernel_rfl) (by kernel_rfl) ((ha (Af s i)).clo) (by kernel_rfl) ?_
  refine A2 10 [] [0, 1, 5, 16] [] hk0 v0 c0 ?_
  refine A9 (q := p (Af s i)) (by kernel_rfl) (fun c2 => ?_) (fun c2 => ?_)
  ·subst hb1
   try simp only [Al] at c2
   refine Ai ?_
   refine A3 ?_
   refine Ar ?_
   refine A2 0 [] [0, 1, 5] [] hk0 v0 (cc 1 (p := (-9223372036854775808 ≤ (i : Int) + 1 ∧ (i : Int) + 1 ≤ 9223372036854775807)) (by omega) <| c0) ?_
   refine ⟨by kernel_rfl, _, ?_, i + 1, ?_, ?_, (by kernel_rfl), rfl⟩
   ·simp_all; omega
   ·simp_all; omega
   ·intro j hj
    by_cases h : j = i
    ·subst h; assumption
    ·exact f1_2 j (by omega)
  ·subst hb1
   try simp only [Al] at c2
   refine Bl ?_
   refine Aa [] [4] ?_
   refine Ag ?_
   refine RK wR [(.int .i64 ((i : Int)))] ?_
   exact Same.of_eq (by simp only [Aj]; rw [Sf (i := i) (by simp_all) f1_2 (by simp_all)])
 ·refine Ff 10 (a := .bool b1) (.bool false) (by kernel_rfl) (Imp.of_eq (by rw [c1])) ?_
  refine A2 5 [] [0, 1, 5, 16] [] hk0 v0 c0 ?_
  refine Db (by kernel_rfl) ?_
  refine Bl ?_
  refine Aa [] [4] ?_
  refine Ag ?_
  refine RK wR [(.int .i64 ((i : Int)))] ?_
  subst hb1
  exact Same.of_eq (by simp only [Aj]; rw [Sg (fun j hj => f1_2 j (by simp_all; omega))]; congr 2; simp_all; omega)
theorem Tn (s : List UInt8) :
  FnV Tryz.prog 196 [(.str s)] (.int .i64 (Br s)) := by
 have hb := (Af s 0).toNat_lt
 have hp : s = [] ∨ 0 < s.length := by cases s <;> simp
 refine Ba [.tmp 2] Tryz.func196 rfl Tryz.ntmps196 rfl rfl (fun B F hF => ?_)
 refine Aa [] [0] ?_
 refine Ab ?_
 refine A3 ?_
 obtain ⟨b1, hb1⟩ : ∃ b, b = (decide (s = [])) := ⟨_, rfl⟩
 have qh1 : (((!b1) = true → ((!b1) = true) ∧ (0 ≤ (0 : Int) ∧ 0 < s.length))) := by
  rcases hp with hp | hp <;> first | (simp_all; done) | omega | (simp_all; omega) | (simp; omega)
 refine Ae [7, 8] [0, 3] [] (hkg 5 (!b1) Hk (fun cg => H4 (Af s 0)) <| hk0) (vk 3 6 (a := .bool (decide (s = []))) (b := .bool b1) (Imp.of_eq (by rw [hb1])) <| v0) (cc 4 (p := ((!b1) = true → ((!b1) = true) ∧ (0 ≤ (0 : Int) ∧ 0 < s.length))) qh1 <| cc 5 (p := (!b1) = true → (!b1) = true) (by simp) <| cc 6 (p := (b1 = false → (!b1) = true)) (by simp) <| c0) ?_
 refine A9 (q := b1 || (Ao (Af s 0))) (by kernel_rfl) (fun c1 => ?_) (fun c1 => ?_)
 ·subst hb1
  try simp only [Al] at c1
  refine Aa [] [2] ?_
  refine Ag ?_
  refine RK wR [(.int .i64 0)] ?_
  refine Same.of_eq ?_
  simp only [Aj]
  congr 1
  unfold Br
  rw [if_pos c1]
 ·subst hb1
  try simp only [Al] at c1
  have qh2 : ((0 ≤ (0 : Int) ∧ 0 < s.length)) := by
   rcases hp with hp | hp <;> first | (simp_all; done) | omega | (simp_all; omega) | (simp; omega)
  refine Ae [] [0, 11] [] hk0 v0 (cc 1 (p := (0 ≤ (0 : Int) ∧ 0 < s.length)) qh2 <| c0) ?_
  refine A8 (p := ((Af s 0).toNat : Int) = 126) (by kernel_rfl) (fun c2 => ?_) (fun c2 => ?_)
  ·refine Aa [] [2] ?_
   refine Ag ?_
   refine RK wR [(.int .i64 (-1))] ?_
   refine Same.of_eq ?_
   simp only [Aj]
   congr 1
   unfold Br
   rw [if_neg (by simp_all), if_pos (by omega)]
  ·have qh3 : ((0 ≤ (0 : Int) ∧ 0 < s.length)) := by
    rcases hp with hp | hp <;> first | (simp_all; done) | omega | (simp_all; omega) | (simp; omega)
   refine Ae [] [0, 15] [] (hk 2 Ld (Mb (Af s 0)) <| hk0) v0 (cc 1 (p := (0 ≤ (0 : Int) ∧ 0 < s.length)) qh3 <| c0) ?_
   refine A9 (q := Bv (Af s 0)) (by kernel_rfl) (fun c3 => ?_) (fun c3 => ?_)
   ·try simp only [Al] at c3
    have qh4 : ((0 ≤ (0 : Int) ∧ 0 < s.length)) ∧ ((-9223372036854775808 ≤ ((Af s 0).toNat : Int) ∧ ((Af s 0).toNat : Int) ≤ 9223372036854775807)) := by
     rcases hp with hp | hp <;> first | (simp_all; done) | omega | (simp_all; omega) | (simp; omega)
    refine Ae [] [2] [] hk0 v0 (cc 1 (p := (0 ≤ (0 : Int) ∧ 0 < s.length)) qh4.1 <| cc 2 (p := (-9223372036854775808 ≤ ((Af s 0).toNat : Int) ∧ ((Af s 0).toNat : Int) ≤ 9223372036854775807)) qh4.2 <| c0) ?_
    refine Ag ?_
    refine RK wR [(.int .i64 (((Af s 0).toNat : Int)))] ?_
    refine Same.of_eq ?_
    simp only [Aj]
    congr 1
    unfold Br
    rw [if_neg (by simp_all), if_neg (by omega), if_pos (by assumption)]
   ·try simp only [Al] at c3
    refine Ai ?_
    have qh5 : ((0 ≤ (0 : Int) ∧ 0 < s.length)) ∧ ((-9223372036854775808 ≤ ((Af s 0).toNat : Int) ∧ ((Af s 0).toNat : Int) ≤ 9223372036854775807)) ∧ ((-9223372036854775808 ≤ 256 + ((Af s 0).toNat : Int) ∧ 256 + ((Af s 0).toNat : Int) ≤ 9223372036854775807)) := by
     rcases hp with hp | hp <;> first | (simp_all; done) | omega | (simp_all; omega) | (simp; omega)
    refine Ae [] [2] [] hk0 v0 (cc 1 (p := (0 ≤ (0 : Int) ∧ 0 < s.length)) qh5.1 <| cc 2 (p := (-9223372036854775808 ≤ ((Af s 0).toNat : Int) ∧ ((Af s 0).toNat : Int) ≤ 9223372036854775807)) qh5.2.1 <| cc 3 (p := (-9223372036854775808 ≤ 256 + ((Af s 0).toNat : Int) ∧ 256 + ((Af s 0).toNat : Int) ≤ 9223372036854775807)) qh5.2.2 <| c0) ?_
    refine Ag ?_
    refine RK wR [(.int .i64 (256 + ((Af s 0).toNat : Int)))] ?_
    refine Same.of_eq ?_
    simp only [Aj]
    congr 1
    unfold Br
    rw [if_neg (by simp_all), if_neg (by omega), if_neg (by simp_all)]
end Sv
end Go.Proofs.YtlfjokcbkopfeaaGreatDoor
end
section
namespace Go.Proofs.YtlfjokcbkopfeaaGreatDoor
open Go Go.RowKit
set_option linter.unusedSimpArgs false
set_option linter.unusedVariables false
namespace Sv
theorem Sx (s : List UInt8) (c : UInt8) (hc : c.toNat < 128) : FnV Tryz.prog 136 [.str s, .str [c]] (.str (Lib.trimLeftB s c)) := by
  intro F w vs hF hv
  obtain ⟨v, r1, rfl, h1, hv⟩ := hv.cons_inv
  obtain ⟨v2, rfl, h2⟩ := hv.single_inv
  simp only [VR] at h1 h2
  subst h1 h2
  refine (Tryz.strings_TrimLeft_one ⟨s.toArray⟩ c hc w).mono ?_
  rintro e w' ⟨he, rfl⟩
  exact ⟨_, he, Below.refl _ _, F, fun _ _ e => e, hF, fun _ _ e => .inl e, by simp only [VR, List.toList_toArray]⟩
theorem Q1v (a b : List UInt8) : FnV Tryz.prog 195 [.str a, .str b] (.int .i64 (Lib.compareBytes a b)) := by
  intro F w vs hF hv
  obtain ⟨v, r1, rfl, h1, hv⟩ := hv.cons_inv
  obtain ⟨v2, rfl, h2⟩ := hv.single_inv
  simp only [VR] at h1 h2
  subst h1 h2
  refine (Tryz.strings_Compare ⟨a.toArray⟩ ⟨b.toArray⟩ w).mono ?_
  rintro e w' ⟨he, rfl⟩
  exact ⟨_, he, Below.refl _ _, F, fun _ _ e => e, hF, fun _ _ e => .inl e, by simp only [VR, List.toList_toArray]⟩
end Sv
end Go.Proofs.YtlfjokcbkopfeaaGreatDoor
end
section
namespace Go.Proofs.YtlfjokcbkopfeaaGreatDoor
open Go Go.RowKit
namespace Sv
attribute [local irreducible] SW SO Bg
set_option maxHeartbeats 1000000
set_option maxRecDepth 100000
theorem FnV.of_plain {P : Program} {f : Nat} {al : List AV} {r : AV} (vs0 : List Value) (rv : Value) (ha : ∀ F vs, VRl (ofF F) al vs → vs = vs0) (hr : ∀ F, VR (ofF F) r rv) (h : ∀ w : World, Calls P f vs0.toArray w (Ret fun v w' => v = rv ∧ Below w.heap.size w w')) : FnV P f al r := by
 intro F w vs hF hv
 rw [ha F vs hv]
 refine (h w).mono ?_
 rintro e w' ⟨v, he, rfl, hb⟩
 exact ⟨_, he, hb, F, fun _ _ e => e, fun b o e => (hb.block b (E0 (hF b o e))).trans (hF b o e), fun _ _ e => .inl e, hr F⟩
theorem Qj {P : Program} {f : Nat} {vs : Array Value} {w : World} {rv : Value} (h : Calls P f vs w (Ret fun v w' => v = rv ∧ w = w')) : Calls P f vs w (Ret fun v w' => v = rv ∧ Below w.heap.size w w') :=
 h.mono fun e w' hh => by
  obtain ⟨v, he, h1, rfl⟩ := hh
  exact ⟨v, he, h1, Below.refl _ _⟩
theorem M8 {F : Nat → Option Obj} {a b : AV} {x y : Value} (ha : ∀ F v, VR (ofF F) a v → v = x) (hb : ∀ F v, VR (ofF F) b v → v = y) {vs : List Value} (h : VRl (ofF F) [a, b] vs) : vs = [x, y] := by
 obtain ⟨v, r1, rfl, h1, hv⟩ := h.cons_inv
 obtain ⟨v2, rfl, h2⟩ := hv.single_inv
 rw [ha _ _ h1, hb _ _ h2]
theorem Kj {l : List UInt8} : ∀ F v, VR (ofF F) (.str l) v → v = Go.Proofs.YtlfjokcbkopfeaaGreatDoor.S l := fun F v h => by simpa only [VR] using h
theorem Xh {k : IntKind} {n : Int} : ∀ F v, VR (ofF F) (.int k n) v → v = .int k n := fun F v h => by simpa only [VR] using h
theorem X3d (l : List UInt8) (c : UInt8) : FnV Tryz.prog 150 [.str l, .int .u8 (c.toNat : Int)] (.int .i64 (Lib.indexByte l c)) :=
 FnV.of_plain [S l, .int .u8 (c.toNat : Int)] (.int .i64 (Lib.indexByte l c)) (fun _ _ h => M8 Kj Xh h) (fun _ => by simp only [VR]) fun w => Qj (X3c l c w)
theorem X28 (l : List UInt8) (hl : l.length ≤ 9223372036854775807) : FnV Tryz.prog 153 [.str l, .int .u8 45] (.int .i64 (Bw l 45 l.length)) :=
 FnV.of_plain [S l, .int .u8 45] (.int .i64 (Bw l 45 l.length)) (fun _ _ h => M8 Kj Xh h) (fun _ => by simp only [VR]) fun w => Qj (X27 l 45 w hl)
theorem X3q (l : List UInt8) : FnV Tryz.prog 154 [.str l, .str [58]] (.bool (l.contains 58)) :=
 FnV.of_plain [S l, S [58]] (.bool (l.contains 58)) (fun _ _ h => M8 Kj Kj h) (fun _ => by simp only [VR]) fun w => Qj (X3p l 58 w)
theorem X3o (l : List UInt8) (hl : l.length ≤ 9223372036854775807) : FnV Tryz.prog 152 [.str l, .str [58]] (.tup [.str (if 0 ≤ Lib.indexByte l 58 then l.take (Lib.indexByte l 58).toNat else l), .str (if 0 ≤ Lib.indexByte l 58 then l.drop ((Lib.indexByte l 58).toNat + 1) else []), .bool (decide (0 ≤ Lib.indexByte l 58))]) := by
 refine FnV.of_plain [S l, S [58]] (Hn l 58) (fun _ _ h => M8 Kj Kj h) (fun F => ?_) fun w => ?_
 ·unfold Hn
  by_cases h : 0 ≤ Lib.indexByte l 58
  ·rw [if_pos h, if_pos h, if_pos h, decide_eq_true h]
   simp only [VR]; exact ⟨_, .cons (by simp only [VR]) (.cons (by simp only [VR]) (.cons (by simp only [VR]) .nil)), rfl⟩
  ·rw [if_neg h, if_neg h, if_neg h, decide_eq_false h]
   simp only [VR]; exact ⟨_, .cons (by simp only [VR]) (.cons (by simp only [VR]) (.cons (by simp only [VR]) .nil)), rfl⟩
 ·exact X3n l 58 w hl
theorem Q6a (r : List UInt8) (c : UInt8) : -1 ≤ Bw r c r.length ∧ Bw r c r.length < r.length := by
 rcases W9 r c r.length with h | ⟨q, h, hq⟩ <;> omega
theorem Ot {l r ep v rl : List UInt8} (hh : Hd l = true) (hr : r = (if 0 ≤ Lib.indexByte l 58 then l.drop ((Lib.indexByte l 58).toNat + 1) else l)) (he : ep = (if 0 ≤ Lib.indexByte l 58 then l.take (Lib.indexByte l 58).toNat else [])) (hd : 0 ≤ Lib.indexByte l 58 → Fc (l.take (Lib.indexByte l 58).toNat) = true)
  (hv : v = (if 0 ≤ Bw r 45 r.length then r.take (Bw r 45 r.length).toNat else r)) (hrl : rl = (if 0 ≤ Bw r 45 r.length then r.drop ((Bw r 45 r.length).toNat + 1) else [])) (hn : 0 ≤ Bw r 45 r.length → ¬ rl = []) : B7 l = (if v = [] ∨ r.contains 58 = true then 30 else 0) ∧ Mj l = (ep, v, rl) := by
 constructor
 ·have ht : Iq l = Ju r := by
   unfold Iq
   rw [hh, Bool.true_and]
   by_cases h : 0 ≤ Lib.indexByte l 58
   ·rw [if_pos h, hd h, Bool.true_and, hr, if_pos h]
   ·rw [if_neg h, hr, if_neg h]
  have ht2 : Ju r = !(decide (v = []) || r.contains 58) := by
   unfold Ju
   by_cases h : 0 ≤ Bw r 45 r.length
   ·have := hn h
    rw [if_pos h] at hv hrl ⊢
    rw [← hrl, ← hv, decide_eq_false this, Bool.not_or]; rfl
   ·rw [if_neg h] at hv ⊢
    rw [hv, Bool.not_or]
  unfold B7
  rw [ht, ht2]
  by_cases h1 : v = [] <;> by_cases h2 : r.contains 58 = true <;> simp [h1, h2]
 ·unfold Mj
  simp only [← hr]
  rw [← he, ← hv, ← hrl]
theorem Q50 (c : UInt8) :
  FnV Tryz.prog 147 [(.int .u8 ((c.toNat : Int)))] (.bool (E9 c)) := by
 refine Ba [.tmp 2] Tryz.func147 rfl Tryz.ntmps147 rfl rfl (fun B F hF => ?_)
 refine Aa [] [0] ?_
 obtain ⟨b1, hb1⟩ : ∃ b, b = ((Ao c) || (Bv c)) := ⟨_, rfl⟩
 refine Ae (CS := [(4, (!(Ao c)) = true → (!(Ao c)) = true), (5, ((Ao c) = false → (!(Ao c)) = true)), (8, (!b1) = true → (!b1) = true), (9, ((!b1) = true → (!b1) = true)), (10, (b1 = false → (!b1) = true))]) [6, 10, 12] [2] [] (hk 1 Hk (H4 c) <| hkg 4 (!(Ao c)) Ld (fun cg => Mb c) <| hkg 8 (!b1) Q8t (fun cg => X3d midL c) <| hk0) (vk 7 9 (a := .bool ((Ao c) || (Bv c))) (b := .bool b1) (Imp.of_eq (by rw [hb1])) <| v0) (by refine cc _ ?_ <| cc _ ?_ <| cc _ ?_ <| cc _ ?_ <| cc _ ?_ c0 <;> simp) ?_
 refine Ag ?_
 refine RK wR [(.bool (b1 || (decide (0 ≤ (Lib.indexByte midL c)))))] ?_
 subst hb1
 refine Same.of_eq ?_
 simp only [Aj]
 rw [Xn, Bool.or_assoc]; rfl
theorem Q7o {l : List UInt8} (c : (l = [] ∨ (60 : Int) < (l.length : Int)) ∨ ¬ (Ap E9 l : Int) = (l.length : Int)) : B7 l = 30 := by
 refine Yj ?_
 unfold Hd
 rcases c with (h | h) | h
 ·rw [h]; rfl
 ·rw [decide_eq_false (show ¬ l.length ≤ 60 by omega)]; simp
 ·rw [show l.all E9 = false from by cases hq : l.all E9 with | false => rfl | true => exact absurd ((O6 E9 l).2 hq) h]; rfl
theorem Q7p {l : List UInt8} (hh : Hd l = true) (h0 : 0 ≤ Lib.indexByte l 58) (c : (l.take (Lib.indexByte l 58).toNat = [] ∨ (9 : Int) < ((l.take (Lib.indexByte l 58).toNat).length : Int)) ∨ ¬ (Ap Ao (l.take (Lib.indexByte l 58).toNat) : Int) = ((l.take (Lib.indexByte l 58).toNat).length : Int)) : B7 l = 30 := by
 have hb : Fc (l.take (Lib.indexByte l 58).toNat) = false := by
  unfold Fc
  rcases c with (h | h) | h
  ·rw [h]; rfl
  ·rw [decide_eq_false (show ¬ (l.take (Lib.indexByte l 58).toNat).length ≤ 9 by omega)]; simp
  ·rw [show (l.take (Lib.indexByte l 58).toNat).all Hl = false from by cases hq : (l.take (Lib.indexByte l 58).toNat).all Hl with | false => rfl | true => exact absurd ((O6 Hl _).2 hq) h]; rfl
 unfold B7 Iq
 rw [hh, Bool.true_and, if_pos h0, hb]; rfl
theorem Yf {l r : List UInt8} (hh : Hd l = true) (hr : r = (if 0 ≤ Lib.indexByte l 58 then l.drop ((Lib.indexByte l 58).toNat + 1) else l)) (hd : 0 ≤ Lib.indexByte l 58 → Fc (l.take (Lib.indexByte l 58).toNat) = true) (hy : 0 ≤ Bw r 45 r.length) (h : r.drop ((Bw r 45 r.length).toNat + 1) = []) : B7 l = 30 := by
 have ht : Iq l = Ju r := by
  unfold Iq
  rw [hh, Bool.true_and]
  by_cases h : 0 ≤ Lib.indexByte l 58
  ·rw [if_pos h, hd h, Bool.true_and, hr, if_pos h]
  ·rw [if_neg h, hr, if_neg h]
 unfold B7
 rw [ht]
 unfold Ju
 rw [if_pos hy, h]; rfl
theorem Ou (l : List UInt8) (hl : l.length ≤ 4611686018427387904) :
  FnV Tryz.prog 102 [(.str l)] (.tup [.agg [.str (Cc l).1, .str (Cc l).2.1, .str (Cc l).2.2], .int .i64 (B7 l)]) := by
 refine Ba [.cell 2 136, .tmp 3] Tryz.func102 rfl Tryz.ntmps102 rfl rfl (fun B F hF => ?_)
 refine Aa [] [0, 2] ?_
 refine Aa [] [0, 2, 4] ?_
 refine Ab ?_
 obtain ⟨b1, hb1⟩ : ∃ b, b = (decide (l = [])) := ⟨_, rfl⟩
 obtain ⟨b2, hb2⟩ : ∃ b, b = (b1 || (decide (60 < (l.length : Int)))) := ⟨_, rfl⟩
 refine Ae (CS := [(4, ((!b1) = true → (!b1) = true)), (5, ((!b1) = true → (!b1) = true)), (6, (b1 = false → (!b1) = true)), (10, (!b2) = true → (!b2) = true ∧ (!b2) = true), (12, ((!b2) = true → (!b2) = true)), (13, ((!b2) = true → (!b2) = true ∧ (!b2) = true)), (14, (b2 = false → (!b2) = true))]) [14, 15, 16, 19, 20, 22, 23, 24] [0, 2, 25] [] (hkg 10 (!b2) (al := [(.str l), (.fn 147 [] [])]) Gx (fun cg => (Ho l (.fn 147 [] []) E9 (by first | omega | (split <;> simp <;> omega)) (fun c => FunV.of (by exact Q8u) (Q50 c))).of_args (ImpL.cons Imp.refl (ImpL.cons (Imp.clo rfl) ImpL.nil))) <| hk0) (vk 3 13 (a := .bool (decide (l = []))) (b := .bool b1) (Imp.of_eq (by rw [hb1])) <| vk 8 18 (a := .bool (b1 || (decide (60 < (l.length : Int))))) (b := .bool b2) (Imp.of_eq (by rw [hb2])) <| v0) (by refine cc _ ?_ <| cc _ ?_ <| cc _ ?_ <| cc _ ?_ <| cc _ ?_ <| cc _ ?_ <| cc _ ?_ c0 <;> simp) ?_
 refine A9 (q := b2 || (!decide ((Ap E9 l : Int) = (l.length : Int)))) (by kernel_rfl) (fun c1 => ?_) (fun c1 => ?_)
 ·subst hb2 hb1
  try simp only [Al] at c1
  refine Aa [] [2, 3] ?_
  refine Ag ?_
  refine RK wR [(.agg [(.str []), (.str []), (.str [])]), (.int .i64 30)] ?_
  refine Same.of_eq ?_
  simp only [Aj]
  have h0 : B7 l = 30 := Q7o c1
  have h1 : Cc l = ([], [], []) := Gh h0.symm
  rw [h0, h1]
 ·subst hb2 hb1
  try simp only [Al] at c1
  have hh : Hd l = true := by
   unfold Hd
   rw [show l.all E9 = true from (O6 E9 l).1 c1.2, decide_eq_true (show 1 ≤ l.length by have := List.length_pos_iff.2 c1.1.1; omega), decide_eq_true (by omega)]; rfl
  refine Ai ?_
  refine Aa [] [0, 2, 5] ?_
  refine Aa [] [0, 2, 5, 6] ?_
  refine C7 (fun y => ∃ (r : List UInt8) (ep : List UInt8), r = (if 0 ≤ Lib.indexByte l 58 then l.drop ((Lib.indexByte l 58).toNat + 1) else l) ∧ ep = (if 0 ≤ Lib.indexByte l 58 then l.take (Lib.indexByte l 58).toNat else []) ∧ (0 ≤ Lib.indexByte l 58 → Fc (l.take (Lib.indexByte l 58).toNat) = true) ∧ y = ⟨[(2, (.ptr 0 0)), (5, (.ptr 1 0)), (6, (.str r))], [(0, (.row [(.str []), (.str []), (.str [])] 136)), (1, (.row [(.str ep), (.str []), (.str [])] 136))], 2⟩) [2, 5, 6] 2 (by omega) ?_ ?_
  ·refine Ae [] [2, 5, 6, 7, 8, 9] [] (hk 1 Q8s (X3o l (by omega)) <| hk0) v0 c0 ?_
   refine Aa [] [2, 5, 6, 7, 8, 34] ?_
   refine A8 (p := 0 ≤ Lib.indexByte l 58) (by kernel_rfl) (fun c2 => ?_) (fun c2 => ?_)
   ·refine Ab ?_
    obtain ⟨b3, hb3⟩ : ∃ b, b = (decide ((if 0 ≤ Lib.indexByte l 58 then l.take (Lib.indexByte l 58).toNat else l) = [])) := ⟨_, rfl⟩
    obtain ⟨b4, hb4⟩ : ∃ b, b = (b3 || (decide (9 < ((if 0 ≤ Lib.indexByte l 58 then l.take (Lib.indexByte l 58).toNat else l).length : Int)))) := ⟨_, rfl⟩
    refine Ae (CS := [(4, ((!b3) = true → (!b3) = true)), (5, ((!b3) = true → (!b3) = true)), (6, (b3 = false → (!b3) = true)), (9, (!b4) = true → (!b4) = true), (11, ((!b4) = true → (!b4) = true)), (12, ((!b4) = true → (!b4) = true ∧ (!b4) = true)), (13, (b4 = false → (!b4) = true))]) [38, 39, 40, 43, 45, 46, 47] [2, 5, 7, 8, 48] [] (hkg 9 (!b4) (al := [(.str ((if 0 ≤ Lib.indexByte l 58 then l.take (Lib.indexByte l 58).toNat else l))), (.fn 148 [] [])]) Gx (fun cg => (Ho (if 0 ≤ Lib.indexByte l 58 then l.take (Lib.indexByte l 58).toNat else l) (.fn 148 [] []) Ao (by first | omega | (split <;> simp <;> omega)) (fun c => FunV.of (by exact Hk) (H4 c))).of_args (ImpL.cons Imp.refl (ImpL.cons (Imp.clo rfl) ImpL.nil))) <| hk0) (vk 3 37 (a := .bool (decide ((if 0 ≤ Lib.indexByte l 58 then l.take (Lib.indexByte l 58).toNat else l) = []))) (b := .bool b3) (Imp.of_eq (by rw [hb3])) <| vk 7 41 (a := .bool (b3 || (decide (9 < ((if 0 ≤ Lib.indexByte l 58 then l.take (Lib.indexByte l 58).toNat else l).length : Int))))) (b := .bool b4) (Imp.of_eq (by rw [hb4])) <| v0) (by refine cc _ ?_ <| cc _ ?_ <| cc _ ?_ <| cc _ ?_ <| cc _ ?_ <| cc _ ?_ <| cc _ ?_ c0 <;> simp) ?_
    refine A9 (q := b4 || (!decide ((Ap Ao (if 0 ≤ Lib.indexByte l 58 then l.take (Lib.indexByte l 58).toNat else l) : Int) = ((if 0 ≤ Lib.indexByte l 58 then l.take (Lib.indexByte l 58).toNat else l).length : Int)))) (by kernel_rfl) (fun c3 => ?_) (fun c3 => ?_)
    ·subst hb4 hb3
     try simp only [Al] at c3
     refine Aa [] [2, 3] ?_
     refine Ag ?_
     refine RK wR [(.agg [(.str []), (.str []), (.str [])]), (.int .i64 30)] ?_
     refine Same.of_eq ?_
     simp only [Aj]
     have h0 : B7 l = 30 := Q7p hh c2 (by rw [if_pos c2] at c3; exact c3)
     have h1 : Cc l = ([], [], []) := Gh h0.symm
     rw [h0, h1]
    ·subst hb4 hb3
     try simp only [Al] at c3
     have hdg : Fc (l.take (Lib.indexByte l 58).toNat) = true := by
      rw [if_pos c2] at c3
      unfold Fc
      rw [show (l.take (Lib.indexByte l 58).toNat).all Hl = true from (O6 Hl _).1 c3.2, decide_eq_true (show 1 ≤ _ by have := List.length_pos_iff.2 c3.1.1; omega), decide_eq_true (by omega)]; rfl
     refine Ai ?_
     refine Ar ?_
     refine D4 [] [2, 5, 6] ?_
     refine ⟨by kernel_rfl, (if 0 ≤ Lib.indexByte l 58 then l.drop ((Lib.indexByte l 58).toNat + 1) else []), (if 0 ≤ Lib.indexByte l 58 then l.take (Lib.indexByte l 58).toNat else l), ?_, ?_, ?_, (by kernel_rfl)⟩
     ·simp only [if_pos c2]
     ·simp only [if_pos c2]
     ·exact fun _ => hdg
   ·refine Ai ?_
    refine ⟨by kernel_rfl, l, [], ?_, ?_, ?_, (by kernel_rfl)⟩
    ·simp only [if_neg c2]
    ·simp only [if_neg c2]
    ·exact fun h => absurd h c2
  ·rintro y1 ⟨r, ep, hr, hep, hdg, rfl⟩
   have hrl : r.length ≤ l.length := by rw [hr]; split <;> simp
   have hyb := Q6a r 45
   have hi58 := Xm l 58
   refine Aa [] [2, 5, 6] ?_
   refine C7 (fun y => ∃ (v : List UInt8) (rl : List UInt8), v = (if 0 ≤ Bw r 45 r.length then r.take (Bw r 45 r.length).toNat else r) ∧ rl = (if 0 ≤ Bw r 45 r.length then r.drop ((Bw r 45 r.length).toNat + 1) else []) ∧ (0 ≤ Bw r 45 r.length → ¬ rl = []) ∧ y = ⟨[(2, (.ptr 0 0)), (5, (.ptr 1 0)), (6, (.str r))], [(0, (.row [(.str []), (.str []), (.str [])] 136)), (1, (.row [(.str ep), (.str v), (.str rl)] 136))], 2⟩) [2, 5, 6] 2 (by omega) ?_ ?_
   ·refine Ae [] [2, 5, 6, 10] [] (hk 1 Q8r (X28 r (by omega)) <| hk0) v0 c0 ?_
    refine Aa [] [2, 5, 6, 10, 58] ?_
    refine A8 (p := 0 ≤ (Bw r 45 r.length)) (by kernel_rfl) (fun c4 => ?_) (fun c4 => ?_)
    ·refine Cg (CS := [(2, (0 ≤ (0 : Int) ∧ (0 : Int) ≤ Bw r 45 r.length ∧ Bw r 45 r.length ≤ (r.length : Int))), (5, (-9223372036854775808 ≤ (Bw r 45 r.length) + 1 ∧ (Bw r 45 r.length) + 1 ≤ 9223372036854775807)), (6, (0 ≤ (Bw r 45 r.length) + 1 ∧ (Bw r 45 r.length) + 1 ≤ (r.length : Int) ∧ (r.length : Int) ≤ (r.length : Int)))]) [] [2, 5, 6] [] hk0 v0 (by refine cc _ ?_ <| cc _ ?_ <| cc _ ?_ c0 <;> omega) ?_
     refine Aa [] [2, 5, 6, 70] ?_
     refine A8 (p := (r.take r.length).drop (((Bw r 45 r.length) + 1).toNat) = []) (by kernel_rfl) (fun c5 => ?_) (fun c5 => ?_)
     ·refine Aa [] [2, 3] ?_
      refine Ag ?_
      refine RK wR [(.agg [(.str []), (.str []), (.str [])]), (.int .i64 30)] ?_
      refine Same.of_eq ?_
      simp only [Aj]
      have h0 : B7 l = 30 := Yf hh hr hdg c4 (by have h := c5; rw [List.take_length] at h; rw [← h]; congr 1; omega)
      have h1 : Cc l = ([], [], []) := Gh h0.symm
      rw [h0, h1]
     ·refine Ai ?_
      refine ⟨by kernel_rfl, ((r.take ((Bw r 45 r.length : Int).toNat)).drop 0), ((r.take r.length).drop (((Bw r 45 r.length) + 1).toNat)), ?_, ?_, ?_, (by kernel_rfl)⟩
      ·rw [if_pos c4]; simp
      ·rw [if_pos c4]; try rw [List.take_length]; congr 1; omega
      ·intro _; exact c5
    ·refine Ai ?_
     refine ⟨by kernel_rfl, r, [], ?_, ?_, ?_, (by kernel_rfl)⟩
     ·rw [if_neg c4]
     ·rw [if_neg c4]
     ·exact fun h => absurd h c4
   ·rintro y2 ⟨v, rl, hv, hrr, hnn, rfl⟩
    refine Ab ?_
    obtain ⟨b5, hb5⟩ : ∃ b, b = (decide (v = [])) := ⟨_, rfl⟩
    refine Ae (CS := [(5, (!b5) = true → (!b5) = true), (6, (b5 = false → (!b5) = true))]) [76] [2, 5, 78] [] (hkg 5 (!b5) Q8q (fun cg => X3q r) <| hk0) (vk 4 75 (a := .bool (decide (v = []))) (b := .bool b5) (Imp.of_eq (by rw [hb5])) <| v0) (by refine cc _ ?_ <| cc _ ?_ c0 <;> simp) ?_
    refine A9 (q := b5 || (r.contains 58)) (by kernel_rfl) (fun c6 => ?_) (fun c6 => ?_)
    ·subst hb5
     try simp only [Al] at c6
     refine Aa [] [2, 3] ?_
     refine Ag ?_
     refine RK wR [(.agg [(.str []), (.str []), (.str [])]), (.int .i64 30)] ?_
     refine Same.of_eq ?_
     simp only [Aj]
     have h0 : B7 l = 30 := by rw [(Ot hh hr hep hdg hv hrr hnn).1, if_pos (by simpa using c6)]
     have h1 : Cc l = ([], [], []) := Gh h0.symm
     rw [h0, h1]
    ·subst hb5
     try simp only [Al] at c6
     refine Ai ?_
     refine Aa [] [2, 3] ?_
     refine Ag ?_
     refine RK wR [(.agg [(.str ep), (.str v), (.str rl)]), (.int .i64 0)] ?_
     have hf := Ot hh hr hep hdg hv hrr hnn
     have h0 : B7 l = 0 := by rw [hf.1, if_neg (by simpa using c6)]
     exact Same.of_eq (by simp only [Aj]; rw [Yh h0.symm, hf.2, h0])
end Sv
end Go.Proofs.YtlfjokcbkopfeaaGreatDoor
end
section
namespace Go.Proofs.YtlfjokcbkopfeaaGreatDoor
open Go Go.RowKit
namespace Sv
attribute [local irreducible] SW SO Bg
set_option maxHeartbeats 1000000
set_option maxRecDepth 100000
theorem Nn (c : UInt8) :
  FnV Tryz.prog 207 [(.int .u8 ((c.toNat : Int)))] (.bool (Bv c)) := by
 refine Ba [.tmp 2] Tryz.func207 rfl Tryz.ntmps207 rfl rfl (fun B F hF => ?_)
 refine Aa [] [0] ?_
 obtain ⟨b1, hb1⟩ : ∃ b, b = (decide (97 ≤ (c.toNat : Int))) := ⟨_, rfl⟩
 obtain ⟨b2, hb2⟩ : ∃ b, b = (b1 && (decide ((c.toNat : Int) ≤ 122))) := ⟨_, rfl⟩
 obtain ⟨b3, hb3⟩ : ∃ b, b = (b2 || ((decide (65 ≤ (c.toNat : Int))) && (decide ((c.toNat : Int) ≤ 90)))) := ⟨_, rfl⟩
 refine Ae (CS := [(4, (b1 = true → b1 = true)), (5, (b1 = true → b1 = true)), (8, ((!b2) = true → (!b2) = true)), (9, ((!b2) = true → (!b2) = true)), (11, (((!b2) && (decide (65 ≤ (c.toNat : Int)))) = true → ((!b2) && (decide (65 ≤ (c.toNat : Int)))) = true)), (12, ((!b2) = true → ((!b2) = true) ∧ ((decide (65 ≤ (c.toNat : Int))) = true → ((!b2) && (decide (65 ≤ (c.toNat : Int)))) = true))), (13, (b2 = false → (!b2) = true))]) [6, 7, 10, 11, 12, 13, 14, 15] [2] [] hk0 (vk 3 5 (a := .bool (decide (97 ≤ (c.toNat : Int)))) (b := .bool b1) (Imp.of_eq (by rw [hb1])) <| vk 7 9 (a := .bool (b1 && (decide ((c.toNat : Int) ≤ 122)))) (b := .bool b2) (Imp.of_eq (by rw [hb2])) <| vk 14 16 (a := .bool (b2 || ((decide (65 ≤ (c.toNat : Int))) && (decide ((c.toNat : Int) ≤ 90))))) (b := .bool b3) (Imp.of_eq (by rw [hb3])) <| v0) (by refine cc _ ?_ <| cc _ ?_ <| cc _ ?_ <| cc _ ?_ <| cc _ ?_ <| cc _ ?_ <| cc _ ?_ c0 <;> (intros; simp_all; done)) ?_
 refine Ag ?_
 refine RK wR [(.bool b3)] ?_
 subst hb3 hb2 hb1
 refine Same.of_eq ?_
 simp only [Aj]
 congr 1
 unfold Bv
 rw [Bool.eq_iff_iff]
 simp only [Bool.and_eq_true, Bool.or_eq_true, decide_eq_true_eq]
 omega
theorem Jb (c : UInt8) :
  FnV Tryz.prog 208 [(.int .u8 ((c.toNat : Int)))] (.bool (Ao c)) := by
 refine Ba [.tmp 2] Tryz.func208 rfl Tryz.ntmps208 rfl rfl (fun B F hF => ?_)
 refine Aa [] [0] ?_
 obtain ⟨b1, hb1⟩ : ∃ b, b = (decide (48 ≤ (c.toNat : Int))) := ⟨_, rfl⟩
 refine Ae (CS := [(4, (b1 = true → b1 = true)), (5, (b1 = true → b1 = true))]) [6, 7] [2] [] hk0 (vk 3 5 (a := .bool (decide (48 ≤ (c.toNat : Int)))) (b := .bool b1) (Imp.of_eq (by rw [hb1])) <| v0) (by refine cc _ ?_ <| cc _ ?_ c0 <;> simp) ?_
 refine Ag ?_
 refine RK wR [(.bool (b1 && (decide ((c.toNat : Int) ≤ 57))))] ?_
 subst hb1
 refine Same.of_eq ?_
 simp only [Aj]
 congr 1
 unfold Ao
 rw [Bool.eq_iff_iff]
 simp only [Bool.and_eq_true, Bool.or_eq_true, decide_eq_true_eq]
 omega
theorem inV (c : UInt8) (l : List UInt8) (hl : l.length ≤ 4611686018427387904) :
  FnV Tryz.prog 176 [(.int .u8 ((c.toNat : Int))), (.str l)] (.bool (l.contains c)) := by
 refine Ba [.tmp 4] Tryz.func176 rfl Tryz.ntmps176 rfl rfl (fun B F hF => ?_)
 refine Aa [] [0, 1] ?_
 refine Ab ?_
 refine Aa [] [0, 1, 5] ?_
 refine A3 ?_
 refine Bs (fun g y => ∃ (k : Nat), k ≤ l.length ∧ l.contains c = (l.drop k).contains c ∧ y = ⟨[(0, (.int .u8 ((c.toNat : Int)))), (1, (.str l)), (5, (.int .i64 ((k : Int))))], [], 0⟩ ∧ g = l.length - k) [0, 1, 5] 0 _ (by omega) ⟨0, (by omega), (by rfl), (by kernel_rfl), rfl⟩ ?_
 rintro g1 y1 ⟨k, f1_1, f1_2, rfl, rfl⟩
 refine Ab ?_
 refine Aa [] [0, 1, 5, 9] ?_
 refine A8 (p := (k : Int) < (l.length : Int)) (by kernel_rfl) (fun c1 => ?_) (fun c1 => ?_)
 ·refine Ai ?_
  refine Ab ?_
  refine A3 ?_
  refine Ae [] [0, 1, 5, 16] [] hk0 v0 (cc 2 (p := (0 ≤ (k : Int) ∧ k < l.length)) (by omega) <| c0) ?_
  refine A8 (p := ((Af l k).toNat : Int) = (c.toNat : Int)) (by kernel_rfl) (fun c2 => ?_) (fun c2 => ?_)
  ·refine Aa [] [4] ?_
   refine Ag ?_
   refine RK wR [(.bool true)] ?_
   exact Same.of_eq (by rw [f1_2, Fu (by omega), show Af l k = c from UInt8.toNat_inj.1 (by omega)]; simp [Aj])
  ·refine Ai ?_
   refine Ar ?_
   refine A2 0 [] [0, 1, 5] [] hk0 v0 (cc 1 (p := (-9223372036854775808 ≤ (k : Int) + 1 ∧ (k : Int) + 1 ≤ 9223372036854775807)) (by omega) <| c0) ?_
   refine ⟨by kernel_rfl, _, ?_, k + 1, ?_, ?_, (by kernel_rfl), rfl⟩
   ·omega
   ·omega
   ·rw [f1_2, Fu (by omega), List.contains_cons]; have : ¬ c = Af l k := fun e => c2 (by rw [e]); simp [this]
 ·refine Bl ?_
  refine Aa [] [4] ?_
  refine Ag ?_
  refine RK wR [(.bool false)] ?_
  exact Same.of_eq (by rw [f1_2, List.drop_of_length_le (by omega)]; rfl)
theorem Q3m (l : List UInt8) (hl : l.length ≤ 4611686018427387904) :
  FnV Tryz.prog 174 [(.str l)] (.bool (l.all E9 && (decide (1 ≤ l.length) && decide (l.length ≤ 60)))) := by
 refine Ba [.tmp 2] Tryz.func174 rfl Tryz.ntmps174 rfl rfl (fun B F hF => ?_)
 refine Aa [] [0] ?_
 refine Ab ?_
 refine Aa [] [0, 3] ?_
 refine A3 ?_
 refine Bs (fun g y => ∃ (k : Nat), k ≤ l.length ∧ (l.take k).all E9 = true ∧ y = ⟨[(0, (.str l)), (3, (.int .i64 ((k : Int))))], [], 0⟩ ∧ g = l.length - k) [0, 3] 0 _ (by omega) ⟨0, (by omega), (by rfl), (by kernel_rfl), rfl⟩ ?_
 rintro g1 y1 ⟨k, f1_1, f1_2, rfl, rfl⟩
 refine Ab ?_
 refine Aa [] [0, 3, 9] ?_
 refine A8 (p := (k : Int) < (l.length : Int)) (by kernel_rfl) (fun c1 => ?_) (fun c1 => ?_)
 ·refine Ai ?_
  refine Ab ?_
  refine A3 ?_
  refine Ae [] [0, 3, 4] [] (hk 3 Ox (Nn (Af l k)) <| hk0) v0 (cc 2 (p := (0 ≤ (k : Int) ∧ k < l.length)) (by omega) <| c0) ?_
  refine Ae [] [0, 3, 4, 5] [] (hk 3 Jy (Jb (Af l k)) <| hk0) v0 (cc 2 (p := (0 ≤ (k : Int) ∧ k < l.length)) (by omega) <| c0) ?_
  obtain ⟨b1, hb1⟩ : ∃ b, b = (!(Bv (Af l k))) := ⟨_, rfl⟩
  obtain ⟨b2, hb2⟩ : ∃ b, b = (b1 && (!(Ao (Af l k)))) := ⟨_, rfl⟩
  refine Ae (CS := [(4, (b1 = true → b1 = true)), (5, (b1 = true → b1 = true)), (9, (b2 = true → (b2 = true ∧ b2 = true) ∧ (0 ≤ (k : Int) ∧ k < l.length))), (10, b2 = true → b2 = true), (11, (b2 = true → b2 = true)), (12, (b2 = true → b2 = true))]) [23, 24, 27, 28, 29, 31] [0, 3, 32] [] (hkg 10 b2 Zb (fun cg => inV (Af l k) midL (by decide)) <| hk0) (vk 3 22 (a := .bool (!(Bv (Af l k)))) (b := .bool b1) (Imp.of_eq (by rw [hb1])) <| vk 7 26 (a := .bool (b1 && (!(Ao (Af l k))))) (b := .bool b2) (Imp.of_eq (by rw [hb2])) <| v0) (by refine cc _ ?_ <| cc _ ?_ <| cc _ ?_ <| cc _ ?_ <| cc _ ?_ <| cc _ ?_ c0 <;> (intros; simp_all; done)) ?_
  refine A9 (q := b2 && (!(midL.contains (Af l k)))) (by kernel_rfl) (fun c2 => ?_) (fun c2 => ?_)
  ·subst hb2 hb1
   try simp only [Al] at c2
   refine Aa [] [2] ?_
   refine Ag ?_
   refine RK wR [(.bool false)] ?_
   exact Same.of_eq (by simp only [Aj]; rw [Q0x (p := E9) (k := k) (by omega) (by show (Ao _ || (Bv _ || _)) = false; simp_all)]; rfl)
  ·subst hb2 hb1
   try simp only [Al] at c2
   refine Ai ?_
   refine Ar ?_
   refine A2 0 [] [0, 3] [] hk0 v0 (cc 1 (p := (-9223372036854775808 ≤ (k : Int) + 1 ∧ (k : Int) + 1 ≤ 9223372036854775807)) (by omega) <| c0) ?_
   refine ⟨by kernel_rfl, _, ?_, k + 1, ?_, ?_, (by kernel_rfl), rfl⟩
   ·omega
   ·omega
   ·refine Q0v (by omega) f1_2 ?_
    show (Ao _ || (Bv _ || _)) = true; simp only [Bool.or_eq_true]; by_cases a1 : Ao (Af l k) = true <;> by_cases a2 : Bv (Af l k) = true <;> simp_all
 ·refine Bl ?_
  obtain ⟨b3, hb3⟩ : ∃ b, b = (decide (1 ≤ (l.length : Int))) := ⟨_, rfl⟩
  refine Ae (CS := [(5, (b3 = true → b3 = true)), (6, (b3 = true → b3 = true)), (7, (b3 = true → b3 = true))]) [37, 38, 39] [2] [] hk0 (vk 4 36 (a := .bool (decide (1 ≤ (l.length : Int)))) (b := .bool b3) (Imp.of_eq (by rw [hb3])) <| v0) (by refine cc _ ?_ <| cc _ ?_ <| cc _ ?_ c0 <;> simp) ?_
  refine Ag ?_
  refine RK wR [(.bool (b3 && (decide ((l.length : Int) ≤ 60))))] ?_
  subst hb3
  have hall : l.all E9 = true := by rw [List.take_of_length_le (by omega)] at f1_2; exact f1_2
  exact Same.of_eq (by simp only [Aj]; rw [hall, show decide ((1 : Int) ≤ (l.length : Int)) = decide (1 ≤ l.length) from decide_eq_decide.2 (by omega), show decide ((l.length : Int) ≤ 60) = decide (l.length ≤ 60) from decide_eq_decide.2 (by omega)]; rfl)
theorem Q30 (l : List UInt8) (hl : l.length ≤ 4611686018427387904) :
  FnV Tryz.prog 175 [(.str l)] (.bool (Fc l)) := by
 refine Ba [.tmp 2] Tryz.func175 rfl Tryz.ntmps175 rfl rfl (fun B F hF => ?_)
 refine Aa [] [0] ?_
 refine Ab ?_
 refine Aa [] [0, 3] ?_
 refine A3 ?_
 refine Bs (fun g y => ∃ (k : Nat), k ≤ l.length ∧ (l.take k).all Hl = true ∧ y = ⟨[(0, (.str l)), (3, (.int .i64 ((k : Int))))], [], 0⟩ ∧ g = l.length - k) [0, 3] 0 _ (by omega) ⟨0, (by omega), (by rfl), (by kernel_rfl), rfl⟩ ?_
 rintro g1 y1 ⟨k, f1_1, f1_2, rfl, rfl⟩
 refine Ab ?_
 refine Aa [] [0, 3, 8] ?_
 refine A8 (p := (k : Int) < (l.length : Int)) (by kernel_rfl) (fun c1 => ?_) (fun c1 => ?_)
 ·refine Ai ?_
  refine Ab ?_
  refine A3 ?_
  refine Ae [] [0, 3, 4] [] (hk 3 Jy (Jb (Af l k)) <| hk0) v0 (cc 2 (p := (0 ≤ (k : Int) ∧ k < l.length)) (by omega) <| c0) ?_
  refine Aa [] [0, 3, 16] ?_
  refine A9 (q := !(Ao (Af l k))) (by kernel_rfl) (fun c2 => ?_) (fun c2 => ?_)
  ·try simp only [Al] at c2
   refine Aa [] [2] ?_
   refine Ag ?_
   refine RK wR [(.bool false)] ?_
   exact Same.of_eq (by simp only [Aj]; unfold Fc; rw [Q0x (p := Hl) (k := k) (by omega) (by show Ao _ = false; simp_all)]; rfl)
  ·try simp only [Al] at c2
   refine Ai ?_
   refine Ar ?_
   refine A2 0 [] [0, 3] [] hk0 v0 (cc 1 (p := (-9223372036854775808 ≤ (k : Int) + 1 ∧ (k : Int) + 1 ≤ 9223372036854775807)) (by omega) <| c0) ?_
   refine ⟨by kernel_rfl, _, ?_, k + 1, ?_, ?_, (by kernel_rfl), rfl⟩
   ·omega
   ·omega
   ·refine Q0v (by omega) f1_2 ?_
    show Ao _ = true; simp_all
 ·refine Bl ?_
  obtain ⟨b1, hb1⟩ : ∃ b, b = (decide (1 ≤ (l.length : Int))) := ⟨_, rfl⟩
  refine Ae (CS := [(5, (b1 = true → b1 = true)), (6, (b1 = true → b1 = true)), (7, (b1 = true → b1 = true))]) [21, 22, 23] [2] [] hk0 (vk 4 20 (a := .bool (decide (1 ≤ (l.length : Int)))) (b := .bool b1) (Imp.of_eq (by rw [hb1])) <| v0) (by refine cc _ ?_ <| cc _ ?_ <| cc _ ?_ c0 <;> simp) ?_
  refine Ag ?_
  refine RK wR [(.bool (b1 && (decide ((l.length : Int) ≤ 9))))] ?_
  subst hb1
  have hall : l.all Hl = true := by rw [List.take_of_length_le (by omega)] at f1_2; exact f1_2
  exact Same.of_eq (by simp only [Aj]; unfold Fc; rw [hall, show decide ((1 : Int) ≤ (l.length : Int)) = decide (1 ≤ l.length) from decide_eq_decide.2 (by omega), show decide ((l.length : Int) ≤ 9) = decide (l.length ≤ 9) from decide_eq_decide.2 (by omega)]; rfl)
theorem Ns (l : List UInt8) (hl : l.length ≤ 4611686018427387904) :
  FnV Tryz.prog 141 [(.str l)] (.tup [.agg [.str (Cc l).1, .str (Cc l).2.1, .str (Cc l).2.2], .int .i64 (B7 l)]) := by
 refine Ba [.cell 2 136, .tmp 3] Tryz.func141 rfl Tryz.ntmps141 rfl rfl (fun B F hF => ?_)
 refine Aa [] [0, 2] ?_
 refine Ae [] [0, 2, 4] [] (hk 1 Q8h (Q3m l hl) <| hk0) v0 c0 ?_
 refine Ab ?_
 refine Aa [] [0, 2, 12] ?_
 refine A9 (q := !(Hd l)) (by kernel_rfl) (fun c1 => ?_) (fun c1 => ?_)
 ·try simp only [Al] at c1
  refine Aa [] [2, 3] ?_
  refine Ag ?_
  refine RK wR [(.agg [(.str []), (.str []), (.str [])]), (.int .i64 30)] ?_
  refine Same.of_eq ?_
  simp only [Aj]
  have h0 : B7 l = 30 := Yj (by simpa using c1)
  have h1 : Cc l = ([], [], []) := Gh h0.symm
  rw [h0, h1]
 ·try simp only [Al] at c1
  have hh : Hd l = true := by simpa using c1
  refine Ai ?_
  refine Aa [] [0, 2, 5] ?_
  refine C7 (fun y => ∃ (r : List UInt8) (ep : List UInt8), r = (if 0 ≤ Lib.indexByte l 58 then l.drop ((Lib.indexByte l 58).toNat + 1) else l) ∧ ep = (if 0 ≤ Lib.indexByte l 58 then l.take (Lib.indexByte l 58).toNat else []) ∧ (0 ≤ Lib.indexByte l 58 → Fc (l.take (Lib.indexByte l 58).toNat) = true) ∧ y = ⟨[(0, (.str r)), (2, (.ptr 0 0)), (5, (.ptr 1 0))], [(0, (.row [(.str []), (.str []), (.str [])] 136)), (1, (.row [(.str ep), (.str []), (.str [])] 136))], 2⟩) [0, 2, 5] 2 (by omega) ?_ ?_
  ·refine Aa [] [0, 2, 5, 6] ?_
   refine A3 ?_
   refine Bs (fun g y => ∃ (i : Nat), i ≤ l.length ∧ Hs l 58 i ∧ y = ⟨[(0, (.str l)), (2, (.ptr 0 0)), (5, (.ptr 1 0)), (6, (.int .i64 ((i : Int))))], [(0, (.row [(.str []), (.str []), (.str [])] 136)), (1, (.row [(.str []), (.str []), (.str [])] 136))], 2⟩ ∧ g = l.length - i) [0, 2, 5, 6] 2 _ (by omega) ⟨0, (by omega), (by exact Q6n l 58), (by kernel_rfl), rfl⟩ ?_
   rintro g1 y1 ⟨i, f1_1, f1_2, rfl, rfl⟩
   refine Ab ?_
   refine Aa [] [0, 2, 5, 6, 17] ?_
   refine A8 (p := (i : Int) < (l.length : Int)) (by kernel_rfl) (fun c2 => ?_) (fun c2 => ?_)
   ·refine Ai ?_
    refine Ab ?_
    refine A3 ?_
    refine Ab ?_
    refine Ae [] [0, 2, 5, 6, 23] [] hk0 v0 (cc 2 (p := (0 ≤ (i : Int) ∧ i < l.length)) (by omega) <| c0) ?_
    refine Cj (p := ((Af l i).toNat : Int) = 58) (by kernel_rfl) (fun c3 => ?_) (fun c3 => ?_)
    ·refine Bl ?_
     refine Ar ?_
     refine A2 0 [] [0, 2, 5, 6] [] hk0 v0 (cc 1 (p := (-9223372036854775808 ≤ (i : Int) + 1 ∧ (i : Int) + 1 ≤ 9223372036854775807)) (by omega) <| c0) ?_
     refine ⟨by kernel_rfl, _, ?_, i + 1, ?_, ?_, (by kernel_rfl), rfl⟩
     ·omega
     ·omega
     ·exact Q6m f1_2 (by omega) (fun e => by rw [e] at c3; simp at c3)
    ·refine Ai ?_
     refine Ae [] [0, 2, 5, 6, 7] [] (hk 3 Q8g (Q30 ((l.take i).drop 0) (by simp; omega)) <| hk0) v0 (cc 2 (p := (0 ≤ (0 : Int) ∧ (0 : Int) ≤ (i : Int) ∧ (i : Int) ≤ (l.length : Int))) (by omega) <| c0) ?_
     refine Ab ?_
     refine Aa [] [0, 2, 5, 6, 29] ?_
     refine A9 (q := !(Fc ((l.take i).drop 0))) (by kernel_rfl) (fun c4 => ?_) (fun c4 => ?_)
     ·try simp only [Al] at c4
      refine Aa [] [2, 3] ?_
      refine Ag ?_
      refine RK wR [(.agg [(.str []), (.str []), (.str [])]), (.int .i64 30)] ?_
      refine Same.of_eq ?_
      simp only [Aj]
      have h0 : B7 l = 30 := Q7q (Xp f1_2 (by omega) (UInt8.toNat_inj.1 (by show _ = 58; omega))) (by simpa using c4)
      have h1 : Cc l = ([], [], []) := Gh h0.symm
      rw [h0, h1]
     ·try simp only [Al] at c4
      refine Ai ?_
      refine Ae [] [0, 2, 5, 6] [] hk0 v0 (cc 2 (p := (0 ≤ (0 : Int) ∧ (0 : Int) ≤ (i : Int) ∧ (i : Int) ≤ (l.length : Int))) (by omega) <| c0) ?_
      refine Ae (CS := [(2, (-9223372036854775808 ≤ (i : Int) + 1 ∧ (i : Int) + 1 ≤ 9223372036854775807)), (3, (0 ≤ (i : Int) + 1 ∧ (i : Int) + 1 ≤ (l.length : Int) ∧ (l.length : Int) ≤ (l.length : Int)))]) [] [0, 2, 5] [] hk0 v0 (by refine cc _ ?_ <| cc _ ?_ c0 <;> omega) ?_
      refine Bl ?_
      refine ⟨by kernel_rfl, ((l.take l.length).drop (i + 1)), ((l.take i).drop 0), ?_, ?_, ?_, (by kernel_rfl)⟩
      all_goals have hz : Lib.indexByte l 58 = (i : Int) := Xp f1_2 (by omega) (UInt8.toNat_inj.1 (by show _ = 58; omega))
      all_goals rw [hz]
      ·rw [if_pos (by omega), List.take_length, Int.toNat_natCast]; try (congr 1; omega)
      ·rw [if_pos (by omega), Int.toNat_natCast]; simp
      ·intro _; rw [Int.toNat_natCast]; simpa using c4
   ·refine Bl ?_
    refine ⟨by kernel_rfl, l, [], ?_, ?_, ?_, (by kernel_rfl)⟩
    all_goals have hz : Lib.indexByte l 58 = -1 := Q6o f1_2 (by omega)
    all_goals rw [hz]
    ·rw [if_neg (by omega)]
    ·rw [if_neg (by omega)]
    ·intro h; exact absurd h (by omega)
  ·rintro y1 ⟨r, ep, hr, hep, hdg, rfl⟩
   have hrl : r.length ≤ l.length := by rw [hr]; split <;> simp
   refine Aa [] [0, 2, 5] ?_
   refine C7 (fun y => ∃ (v : List UInt8) (rl : List UInt8), v = (if 0 ≤ Bw r 45 r.length then r.take (Bw r 45 r.length).toNat else r) ∧ rl = (if 0 ≤ Bw r 45 r.length then r.drop ((Bw r 45 r.length).toNat + 1) else []) ∧ (0 ≤ Bw r 45 r.length → ¬ rl = []) ∧ y = ⟨[(0, (.str r)), (2, (.ptr 0 0)), (5, (.ptr 1 0))], [(0, (.row [(.str []), (.str []), (.str [])] 136)), (1, (.row [(.str ep), (.str v), (.str rl)] 136))], 2⟩) [0, 2, 5] 2 (by omega) ?_ ?_
   ·refine Ae [] [0, 2, 5, 8] [] hk0 v0 (cc 2 (p := (-9223372036854775808 ≤ (r.length : Int) - 1 ∧ (r.length : Int) - 1 ≤ 9223372036854775807)) (by omega) <| c0) ?_
    refine A3 ?_
    refine Bs (fun g y => ∃ (k : Nat), k ≤ r.length ∧ Bw r 45 r.length = Bw r 45 k ∧ y = ⟨[(0, (.str r)), (2, (.ptr 0 0)), (5, (.ptr 1 0)), (8, (.int .i64 ((k : Int) - 1)))], [(0, (.row [(.str []), (.str []), (.str [])] 136)), (1, (.row [(.str ep), (.str r), (.str [])] 136))], 2⟩ ∧ g = k + 1) [0, 2, 5, 8] 2 _ (by omega) ⟨r.length, (by omega), (by rfl), (by kernel_rfl), rfl⟩ ?_
    rintro g2 y2 ⟨k, f2_1, f2_2, rfl, rfl⟩
    refine Ab ?_
    refine Aa [] [0, 2, 5, 8, 45] ?_
    refine A8 (p := 0 ≤ ((k : Int) - 1)) (by kernel_rfl) (fun c5 => ?_) (fun c5 => ?_)
    ·refine Ai ?_
     refine Ab ?_
     refine A3 ?_
     refine Ae [] [0, 2, 5, 8, 51] [] hk0 v0 (cc 2 (p := (0 ≤ (k : Int) - 1 ∧ ((k : Int) - 1).toNat < r.length)) (by omega) <| c0) ?_
     refine A8 (p := ((Af r (((k : Int) - 1).toNat)).toNat : Int) = 45) (by kernel_rfl) (fun c6 => ?_) (fun c6 => ?_)
     ·have hk1 : ((k : Int) - 1).toNat = k - 1 := by omega
      rw [hk1] at c6
      refine Ae [] [0, 2, 5, 8] [] hk0 v0 (cc 2 (p := (0 ≤ (0 : Int) ∧ (0 : Int) ≤ (k : Int) - 1 ∧ (k : Int) - 1 ≤ (r.length : Int))) (by omega) <| c0) ?_
      refine Ae (CS := [(2, (-9223372036854775808 ≤ ((k : Int) - 1) + 1 ∧ ((k : Int) - 1) + 1 ≤ 9223372036854775807)), (3, (0 ≤ ((k : Int) - 1) + 1 ∧ ((k : Int) - 1) + 1 ≤ (r.length : Int) ∧ (r.length : Int) ≤ (r.length : Int)))]) [] [0, 2, 5] [] hk0 v0 (by refine cc _ ?_ <| cc _ ?_ c0 <;> omega) ?_
      refine Ab ?_
      refine Aa [] [0, 2, 5, 63] ?_
      refine A8 (p := (r.take r.length).drop ((((k : Int) - 1) + 1).toNat) = []) (by kernel_rfl) (fun c7 => ?_) (fun c7 => ?_)
      ·refine Aa [] [2, 3] ?_
       refine Ag ?_
       refine RK wR [(.agg [(.str []), (.str []), (.str [])]), (.int .i64 30)] ?_
       refine Same.of_eq ?_
       simp only [Aj]
       have h0 : B7 l = 30 := by
        have hy : Bw r 45 r.length = ((k - 1 : Nat) : Int) := by rw [f2_2, Mc (by omega), if_pos (UInt8.toNat_inj.1 (by show _ = 45; omega))]
        exact Yf hh hr hdg (by omega) (by rw [hy, Int.toNat_natCast, ← c7]; simp; congr 1; omega)
       have h1 : Cc l = ([], [], []) := Gh h0.symm
       rw [h0, h1]
      ·refine Ai ?_
       refine Bl ?_
       refine ⟨by kernel_rfl, ((r.take (((k : Int) - 1).toNat)).drop 0), ((r.take r.length).drop ((((k : Int) - 1) + 1).toNat)), ?_, ?_, ?_, (by kernel_rfl)⟩
       all_goals have hy : Bw r 45 r.length = ((k - 1 : Nat) : Int) := by rw [f2_2, Mc (by omega), if_pos (UInt8.toNat_inj.1 (by show _ = 45; omega))]
       all_goals rw [hy]
       ·rw [if_pos (by omega), Int.toNat_natCast]; simp; try (congr 1; omega)
       ·rw [if_pos (by omega), Int.toNat_natCast]; simp; try (congr 1; omega)
       ·exact fun _ => c7
     ·have hk1 : ((k : Int) - 1).toNat = k - 1 := by omega
      rw [hk1] at c6
      refine Ai ?_
      refine Ar ?_
      refine A2 0 [] [0, 2, 5, 8] [] hk0 v0 (cc 1 (p := (-9223372036854775808 ≤ ((k : Int) - 1) - 1 ∧ ((k : Int) - 1) - 1 ≤ 9223372036854775807)) (by omega) <| c0) ?_
      refine ⟨by kernel_rfl, _, ?_, (k - 1), ?_, ?_, (Eq.trans (b := (⟨[(0, (.str r)), (2, (.ptr 0 0)), (5, (.ptr 1 0)), (8, (.int .i64 (((k : Int) - 1) - 1)))], [(0, (.row [(.str []), (.str []), (.str [])] 136)), (1, (.row [(.str ep), (.str r), (.str [])] 136))], 2⟩ : St)) (by kernel_rfl) (by rw [show (k : Int) - 1 - 1 = ((k - 1 : Nat) : Int) - 1 from by omega])), rfl⟩
      ·omega
      ·omega
      ·rw [f2_2, Mc (by omega), if_neg (fun e => c6 (by rw [e]; rfl))]
    ·refine Bl ?_
     refine ⟨by kernel_rfl, r, [], ?_, ?_, ?_, (by kernel_rfl)⟩
     all_goals have hy : Bw r 45 r.length = -1 := by rw [f2_2, show k = 0 by omega]; rfl
     all_goals rw [hy]
     ·rw [if_neg (by omega)]
     ·rw [if_neg (by omega)]
     ·intro h; exact absurd h (by omega)
   ·rintro y2 ⟨v, rl, hv, hrr, hnn, rfl⟩
    refine Ab ?_
    obtain ⟨b1, hb1⟩ : ∃ b, b = (decide (v = [])) := ⟨_, rfl⟩
    refine Ae (CS := [(5, (!b1) = true → (!b1) = true), (6, (b1 = false → (!b1) = true))]) [69] [2, 5, 71] [] (hkg 5 (!b1) Zb (fun cg => inV 58 r (by omega)) <| hk0) (vk 4 68 (a := .bool (decide (v = []))) (b := .bool b1) (Imp.of_eq (by rw [hb1])) <| v0) (by refine cc _ ?_ <| cc _ ?_ c0 <;> simp) ?_
    refine A9 (q := b1 || (r.contains 58)) (by kernel_rfl) (fun c8 => ?_) (fun c8 => ?_)
    ·subst hb1
     try simp only [Al] at c8
     refine Aa [] [2, 3] ?_
     refine Ag ?_
     refine RK wR [(.agg [(.str []), (.str []), (.str [])]), (.int .i64 30)] ?_
     refine Same.of_eq ?_
     simp only [Aj]
     have h0 : B7 l = 30 := by rw [(Ot hh hr hep hdg hv hrr hnn).1, if_pos (by simpa using c8)]
     have h1 : Cc l = ([], [], []) := Gh h0.symm
     rw [h0, h1]
    ·subst hb1
     try simp only [Al] at c8
     refine Ai ?_
     refine Aa [] [2, 3] ?_
     refine Ag ?_
     refine RK wR [(.agg [(.str ep), (.str v), (.str rl)]), (.int .i64 0)] ?_
     have hf := Ot hh hr hep hdg hv hrr hnn
     have h0 : B7 l = 0 := by rw [hf.1, if_neg (by simpa using c8)]
     exact Same.of_eq (by simp only [Aj]; rw [Yh h0.symm, hf.2, h0])
end Sv
end Go.Proofs.YtlfjokcbkopfeaaGreatDoor
end
section
namespace Go.Proofs.YtlfjokcbkopfeaaGreatDoor
open Go Go.RowKit
set_option linter.unusedSimpArgs false
set_option linter.unusedVariables false
structure PkgT where
  name : List UInt8
  evr : List UInt8
  arch : List UInt8
  vendor : List UInt8
  provides : List DepT
  requires : List DepT
  pre : List DepT
  conflicts : List DepT
  obsoletes : List DepT
  recommends : List DepT
  supplements : List DepT
  files : List (List UInt8)
  deriving Inhabited
structure RepoT where
  name : List UInt8
  prio : Int
  inst : Bool
  pkgs : List PkgT
  deriving Inhabited
def PkgT.depSize (p : PkgT) : Nat := argsSize p.provides + argsSize p.requires + argsSize p.pre + argsSize p.conflicts + argsSize p.obsoletes + argsSize p.recommends + argsSize p.supplements
def Gg : List (List UInt8) → Nat
  | [] => 0
  | x :: r => 1 + x.length + Gg r
theorem Fb : ∀ l : List (List UInt8), l.length ≤ Gg l
  | [] => Nat.zero_le _
  | x :: r => by have := Fb r; simp only [Gg, List.length_cons]; omega
theorem Rp : ∀ {l : List (List UInt8)} {i : Nat}, i < l.length → (nth l i).length ≤ Gg l
  | [], _, h => by simp at h
  | x :: r, 0, _ => by simp only [Gg]; show x.length ≤ _; omega
  | x :: r, i + 1, h => by
    have := Rp (l := r) (i := i) (by simpa using h)
    simp only [Gg]; show (nth r i).length ≤ _; omega
def PkgT.size (p : PkgT) : Nat := 1 + p.name.length + p.evr.length + p.arch.length + p.vendor.length + p.depSize + Gg p.files
theorem PkgT.sizes (p : PkgT) : p.name.length ≤ p.size ∧ p.evr.length ≤ p.size ∧ p.arch.length ≤ p.size ∧ p.vendor.length ≤ p.size ∧ p.depSize ≤ p.size ∧ Gg p.files ≤ p.size := by
  unfold PkgT.size; omega
namespace Sv
noncomputable def Ak (p : PkgT) : AV := .agg [.str p.name, .str p.evr, .str p.arch, .str p.vendor, Dg p.provides, Dg p.requires, Dg p.pre, Dg p.conflicts, Dg p.obsoletes, Dg p.recommends, Dg p.supplements, Ch p.files]
noncomputable def A5 (r : RepoT) : AV := .agg [.str r.name, .int .i64 r.prio, .bool r.inst, Ah 12 Ak r.pkgs]
theorem Q2v {α β : Type} [Inhabited α] (f : α → β) (l : List α) (i : Nat) : (l.map f).set i (f (nth l i)) = l.map f := by
  refine List.ext_getElem? fun j => ?_
  rw [List.getElem?_set]
  by_cases h : i = j
  · subst h
    by_cases hi : i < l.length
    · simp [hi, nth]
    · rw [if_pos rfl, if_neg (by simpa using hi), List.getElem?_eq_none (by simpa using hi)]
  · rw [if_neg h]
theorem Eo {α β : Type} [Inhabited α] (f : α → β) {l : List α} {i : Nat} (h : i < l.length) : (l.map f)[i]? = some (f (nth l i)) := by simp [nth, h]
theorem Ee (d : DepT) : argsSize d.args + 1 + d.name.length + d.evr.length = d.size := by cases d; simp only [DepT.size, DepT.args, DepT.name, DepT.evr]
theorem Ds : ∀ l : List DepT, l.length ≤ argsSize l
  | [] => Nat.zero_le _
  | d :: r => by
    have := Ds r
    have : 1 ≤ d.size := by cases d; simp only [DepT.size]; omega
    simp only [argsSize, List.length_cons]; omega
theorem Q0i {l : List DepT} {i : Nat} (h : i < l.length) : argsSize (nth l i).args < argsSize l := by
  have h1 := Mu (l := l) (i := i) h
  have h2 := Ee (nth l i)
  omega
theorem Uy {α β : Type} [Inhabited α] {l : List α} (f : α → β) : (List.range l.length).map (fun k => f (nth l k)) = l.map f := by
  refine List.ext_getElem (by simp) fun j h1 h2 => ?_
  simp only [List.length_map, List.length_range] at h1
  simp [nth, h1]
theorem Q4o {α : Type} [Inhabited α] (f : α → AV) (l : List α) : ([] : List AV) ++ (List.range l.length).map (fun k => f (nth l k)) = l.map f := by rw [List.nil_append, Uy]
end Sv
end Go.Proofs.YtlfjokcbkopfeaaGreatDoor
end
section
namespace Go.Proofs.YtlfjokcbkopfeaaGreatDoor
open Go Go.RowKit
namespace Sv
attribute [local irreducible] SW SO Bg
set_option maxHeartbeats 1000000
set_option maxRecDepth 100000
def D0 {α : Type} (p : α → Bool) : List α → Int
 | [] => -1
 | x :: r => if p x then 0 else if D0 p r < 0 then -1 else D0 p r + 1
theorem Jq {α : Type} [Inhabited α] {p : α → Bool} : ∀ {l : List α} {i : Nat}, i < l.length → (∀ j, j < i → p (nth l j) = false) → p (nth l i) = true → D0 p l = (i : Int)
 | [], _, h, _, _ => by simp at h
 | x :: r, 0, _, _, h => by
  have : p x = true := h
  simp [D0, this]
 | x :: r, i + 1, hi, h, hp => by
  have h0 : p x = false := h 0 (by omega)
  have := Jq (l := r) (i := i) (by simpa using hi) (fun j hj => h (j + 1) (by omega)) hp
  unfold D0
  rw [if_neg (by simp [h0]), this, if_neg (by omega)]; omega
theorem Jp {α : Type} [Inhabited α] {p : α → Bool} : ∀ {l : List α}, (∀ j, j < l.length → p (nth l j) = false) → D0 p l = -1
 | [], _ => rfl
 | x :: r, h => by
  have h0 : p x = false := h 0 (by simp)
  have := Jp (l := r) (fun j hj => h (j + 1) (by simpa using hj))
  unfold D0
  rw [if_neg (by simp [h0]), this]; rfl
theorem Jr {α : Type} (p : α → Bool) : ∀ l : List α, decide (0 ≤ D0 p l) = l.any p
 | [] => rfl
 | x :: r => by
  have := Jr p r
  unfold D0
  rw [List.any_cons, ← this]
  split
  ·rename_i h; simp [h]
  ·rename_i h
   have h' : p x = false := by simpa using h
   rw [h', Bool.false_or]
   split
   ·rename_i h2; rw [decide_eq_false (by omega), decide_eq_false (by omega)]
   ·rename_i h2; rw [decide_eq_true (by omega), decide_eq_true (by omega)]
theorem Om {d : DepT} (h : d.kind = 1) : Ca d = Hh d.name d.op d.evr d.args.length := by cases d; unfold Ca; exact if_pos h
theorem H0 {d : DepT} (h : ¬ d.kind = 1) : Ca d = (!Fa d.kind d.name d.op d.evr d.args.length && argsForm d.kind d.args) := by cases d; unfold Ca; exact if_neg h
theorem Q4m {d : DepT} (h : d.kind = 1) : D2 d = 1 := by cases d; unfold D2; exact if_pos h
theorem Q4n {d : DepT} (h : ¬ d.kind = 1) : D2 d = argsParts d.args := by cases d; unfold D2; exact if_neg h
theorem Q5j (d : DepT) : D9 d = (if d.kind = 1 then 1 else 0) + argsNames d.args := by cases d; unfold D9; rfl
theorem Q5q (k : Int) : (Bt [((4 : Int), (3 : Int)), (6, 2)] k).getD 0 = Ea k := by
 have := Q5p k
 have e : Dx (Dx ([] : List (Int × Int)) 4 3) 6 2 = [(4, 3), (6, 2)] := rfl
 rw [e] at this
 cases h : Bt [((4 : Int), (3 : Int)), (6, 2)] k <;> simp_all
theorem Q9t (l : List DepT) (a : AV) (p : DepT → Bool) (hl : l.length ≤ 4611686018427387904) (ha : ∀ i, i < l.length → FunV Tryz.prog a [(.agg [(.int .i64 ((nth l i).kind)), (.str ((nth l i).name)), (.int .i64 ((nth l i).op)), (.str ((nth l i).evr)), (.row 5 (nth l i).args.length (depAt (nth l i).args))])] (.bool (p (nth l i)))) :
  FnV Tryz.prog 132 [(Ah 5 Az l), (.clo a)] (.int .i64 (D0 p l)) := by
 refine Ba [.tmp 4] Tryz.func132 rfl Tryz.ntmps132 rfl rfl (fun B F hF => ?_)
 refine Aa [] [0, 1] ?_
 refine Ab ?_
 refine Aa [] [0, 1, 7, 8] ?_
 refine A3 ?_
 refine Bs (fun g y => ∃ (i : Nat), i ≤ l.length ∧ (∀ j, j < i → p (nth l j) = false) ∧ y = ⟨[(0, (Ah 5 Az l)), (1, (.clo a)), (7, (.int .i64 ((l.length : Int)))), (8, (.int .i64 ((i : Int))))], [], 0⟩ ∧ g = l.length - i) [0, 1, 7, 8] 0 _ (by omega) ⟨0, (by omega), (by exact fun j hj => by omega), (by kernel_rfl), rfl⟩ ?_
 rintro g1 y1 ⟨i, f1_1, f1_2, rfl, rfl⟩
 refine Aa [] [0, 1, 7, 8, 9] ?_
 refine Ab ?_
 refine A8 (p := (i : Int) < (l.length : Int)) (by kernel_rfl) (fun c1 => ?_) (fun c1 => ?_)
 ·refine Ai ?_
  refine Ab ?_
  refine A3 ?_
  refine Aa [] [0, 1, 5, 7, 8] ?_
  refine Ab ?_
  refine Ar ?_
  refine Bj 5 0 [] [0, 1, 5, 7, 8, 11, 15] [] hk0 v0 (cc 3 (p := (0 ≤ (i : Int) ∧ i < l.length)) (by omega) <| c0) ?_
  refine F7 (s' := [(0, (Ah 5 Az l)), (1, (.clo a)), (5, (.int .i64 ((i : Int)))), (7, (.int .i64 ((l.length : Int)))), (8, (.int .i64 ((i : Int)))), (11, (.clo a)), (15, (.agg [(.int .i64 ((nth l i).kind)), (.str ((nth l i).name)), (.int .i64 ((nth l i).op)), (.str ((nth l i).evr)), (.row 5 (nth l i).args.length (depAt (nth l i).args))])), (16, (.bool (p (nth l i))))]) (a := (.clo a)) (al := [(.agg [(.int .i64 ((nth l i).kind)), (.str ((nth l i).name)), (.int .i64 ((nth l i).op)), (.str ((nth l i).evr)), (.row 5 (nth l i).args.length (depAt (nth l i).args))])]) (r := (.bool (p (nth l i)))) (by kernel_rfl) (by kernel_rfl) (by kernel_rfl) (by kernel_rfl) (by kernel_rfl) ((ha i (by omega)).clo) (by kernel_rfl) ?_
  refine Be ?_
  refine A9 (q := p (nth l i)) (by kernel_rfl) (fun c2 => ?_) (fun c2 => ?_)
  ·try simp only [Al] at c2
   refine Aa [] [4] ?_
   refine Ag ?_
   refine RK wR [(.int .i64 ((i : Int)))] ?_
   exact Same.of_eq (by rw [Jq (by omega) f1_2 (by simp_all)]; rfl)
  ·try simp only [Al] at c2
   refine Ai ?_
   refine Ar ?_
   refine A2 0 [] [0, 1, 7, 8] [] hk0 v0 (cc 0 (p := (-9223372036854775808 ≤ (i : Int) + 1 ∧ (i : Int) + 1 ≤ 9223372036854775807)) (by omega) <| c0) ?_
   refine ⟨by kernel_rfl, _, ?_, i + 1, ?_, ?_, (by kernel_rfl), rfl⟩
   ·omega
   ·omega
   ·intro j hj
    by_cases h : j = i
    ·subst h; simp_all
    ·exact f1_2 j (by omega)
 ·refine Bl ?_
  refine Aa [] [4] ?_
  refine Ag ?_
  refine RK wR [(.int .i64 (-1))] ?_
  exact Same.of_eq (by rw [Jp (fun j hj => f1_2 j (by omega))]; rfl)
theorem Sa (l : List DepT) (a : AV) (p : DepT → Bool) (hl : l.length ≤ 4611686018427387904) (ha : ∀ i, i < l.length → FunV Tryz.prog a [(.agg [(.int .i64 ((nth l i).kind)), (.str ((nth l i).name)), (.int .i64 ((nth l i).op)), (.str ((nth l i).evr)), (.row 5 (nth l i).args.length (depAt (nth l i).args))])] (.bool (p (nth l i)))) :
  FnV Tryz.prog 83 [(Ah 5 Az l), (.clo a)] (.bool (l.any p)) := by
 refine Ba [.tmp 4] Tryz.func83 rfl Tryz.ntmps83 rfl rfl (fun B F hF => ?_)
 refine Aa [] [0, 1] ?_
 refine Ae [] [4] [] (hk 2 Q82 (Q9t l a p hl ha) <| hk0) v0 c0 ?_
 refine Ag ?_
 refine RK wR [(.bool (decide (0 ≤ (D0 p l))))] ?_
 exact Same.of_eq (by simp only [Aj]; rw [Jr])
theorem Q63 (a d : DepT) (ih : FnV Tryz.prog 66 [Az a] (.bool (Ca a))) :
  FnV Tryz.prog 124 [(.agg [(.int .i64 a.kind), (.str a.name), (.int .i64 a.op), (.str a.evr), (.row 5 a.args.length (depAt a.args))]), (.fp (.agg [(.int .i64 d.kind), (.str d.name), (.int .i64 d.op), (.str d.evr), (.row 5 d.args.length (depAt d.args))]))] (.bool (K7 d.kind a)) := by
 refine Ba [.tmp 3] Tryz.func124 rfl Tryz.ntmps124 rfl rfl (fun B F hF => ?_)
 refine Ae [] [1, 2] [(1, 2)] hk0 v0 c0 ?_
 obtain ⟨b1, hb1⟩ : ∃ b, b = (decide (a.kind = 1)) := ⟨_, rfl⟩
 obtain ⟨b2, hb2⟩ : ∃ b, b = (b1 || (decide (a.kind = 5))) := ⟨_, rfl⟩
 refine Ae (CS := [(5, ((!b1) = true → (!b1) = true)), (6, ((!b1) = true → (!b1) = true)), (7, (b1 = false → (!b1) = true)), (10, ((!b2) = true → (!b2) = true)), (11, ((!b2) = true → (!b2) = true)), (12, (b2 = false → (!b2) = true))]) [9, 10, 11, 14, 15, 16] [1, 2, 4] [] hk0 (vk 4 8 (a := .bool (decide (a.kind = 1))) (b := .bool b1) (Imp.of_eq (by rw [hb1])) <| vk 9 13 (a := .bool (b1 || (decide (a.kind = 5)))) (b := .bool b2) (Imp.of_eq (by rw [hb2])) <| v0) (by refine cc _ ?_ <| cc _ ?_ <| cc _ ?_ <| cc _ ?_ <| cc _ ?_ <| cc _ ?_ c0 <;> simp) ?_
 obtain ⟨b3, hb3⟩ : ∃ b, b = (decide (5 ≤ d.kind)) := ⟨_, rfl⟩
 obtain ⟨b4, hb4⟩ : ∃ b, b = (b3 && (!(b2 || (decide (a.kind = 6))))) := ⟨_, rfl⟩
 refine Ae (CS := [(5, (b3 = true → b3 = true)), (6, (b3 = true → b3 = true)), (9, (!b4) = true → (!b4) = true), (10, ((!b4) = true → (!b4) = true)), (11, (b4 = false → (!b4) = true))]) [22, 23, 26, 28] [3] [] (hkg 9 (!b4) Yp (fun cg => ih) <| hk0) (vk 4 21 (a := .bool (decide (5 ≤ d.kind))) (b := .bool b3) (Imp.of_eq (by rw [hb3])) <| vk 8 25 (a := .bool (b3 && (!(b2 || (decide (a.kind = 6)))))) (b := .bool b4) (Imp.of_eq (by rw [hb4])) <| v0) (by refine cc _ ?_ <| cc _ ?_ <| cc _ ?_ <| cc _ ?_ <| cc _ ?_ c0 <;> simp) ?_
 refine Ag ?_
 refine RK wR [(.bool (b4 || (!(Ca a))))] ?_
 subst hb4 hb3 hb2 hb1
 refine Same.of_eq ?_
 simp only [Aj]
 congr 1
 unfold K7 Hc
 rw [Bool.eq_iff_iff]
 simp only [Bool.and_eq_true, Bool.or_eq_true, Bool.not_eq_true', Bool.and_eq_false_iff, Bool.or_eq_false_iff, decide_eq_true_eq, decide_eq_false_iff_not]
 cases Ca a <;> simp <;> omega
theorem Q66 (d : DepT) (hs : d.size ≤ 4194304) (ih : ∀ i, i < d.args.length → FnV Tryz.prog 66 [Az (nth d.args i)] (.bool (Ca (nth d.args i)))) :
  FnV Tryz.prog 66 [(.agg [(.int .i64 d.kind), (.str d.name), (.int .i64 d.op), (.str d.evr), (.row 5 d.args.length (depAt d.args))])] (.bool (Ca d)) := by
 have hda := Ee d
 have hal := Ds d.args
 refine Ba [.tmp 2] Tryz.func66 rfl Tryz.ntmps66 rfl rfl (fun B F hF => ?_)
 refine Ae [] [1] [(1, 1)] hk0 v0 c0 ?_
 refine Ab ?_
 refine Aa [] [1, 8] ?_
 refine A8 (p := d.kind = 1) (by kernel_rfl) (fun c1 => ?_) (fun c1 => ?_)
 ·refine Ae [] [1, 4] [(8, 3)] (hk 2 Mq (Ou d.evr (by omega)) <| hk0) v0 c0 ?_
  obtain ⟨b1, hb1⟩ : ∃ b, b = ((Bf d.name) && (decide ((d.args.length : Int) = 0))) := ⟨_, rfl⟩
  obtain ⟨b2, hb2⟩ : ∃ b, b = (b1 && (((decide (d.op = 0)) && (decide (d.evr = []))) || (((decide (1 ≤ d.op)) && (decide (d.op ≤ 7))) && (decide ((B7 d.evr) = 0))))) := ⟨_, rfl⟩
  have qh1 : (((Bf d.name) = true → (Bf d.name) = true)) ∧ (((Bf d.name) = true → (Bf d.name) = true)) ∧ (((Bf d.name) = true → (Bf d.name) = true)) ∧ (((Bf d.name) = true → (Bf d.name) = true)) ∧ ((b1 = true → b1 = true)) ∧ ((b1 = true → b1 = true)) ∧ ((b1 = true → b1 = true)) ∧ (((b1 && (decide (d.op = 0))) = true → (b1 && (decide (d.op = 0))) = true)) ∧ (((b1 && (decide (d.op = 0))) = true → (b1 && (decide (d.op = 0))) = true)) ∧ ((b1 = true → (b1 = true) ∧ ((decide (d.op = 0)) = true → (b1 && (decide (d.op = 0))) = true))) ∧ ((b1 = true → b1 = true)) ∧ (((b1 && (!((decide (d.op = 0)) && (decide (d.evr = []))))) = true → (b1 && (!((decide (d.op = 0)) && (decide (d.evr = []))))) = true)) ∧ (((b1 && (!((decide (d.op = 0)) && (decide (d.evr = []))))) = true → (b1 && (!((decide (d.op = 0)) && (decide (d.evr = []))))) = true)) ∧ (((b1 && (!((decide (d.op = 0)) && (decide (d.evr = []))))) = true → (b1 && (!((decide (d.op = 0)) && (decide (d.evr = []))))) = true)) ∧ ((((b1 && (!((decide (d.op = 0)) && (decide (d.evr = []))))) && (decide (1 ≤ d.op))) = true → ((b1 && (!((decide (d.op = 0)) && (decide (d.evr = []))))) && (decide (1 ≤ d.op))) = true)) ∧ ((((b1 && (!((decide (d.op = 0)) && (decide (d.evr = []))))) && (decide (1 ≤ d.op))) = true → ((b1 && (!((decide (d.op = 0)) && (decide (d.evr = []))))) && (decide (1 ≤ d.op))) = true)) ∧ (((b1 && (!((decide (d.op = 0)) && (decide (d.evr = []))))) = true → ((b1 && (!((decide (d.op = 0)) && (decide (d.evr = []))))) = true) ∧ ((decide (1 ≤ d.op)) = true → ((b1 && (!((decide (d.op = 0)) && (decide (d.evr = []))))) && (decide (1 ≤ d.op))) = true))) ∧ (((b1 && (!((decide (d.op = 0)) && (decide (d.evr = []))))) = true → (b1 && (!((decide (d.op = 0)) && (decide (d.evr = []))))) = true)) ∧ ((((b1 && (!((decide (d.op = 0)) && (decide (d.evr = []))))) && ((decide (1 ≤ d.op)) && (decide (d.op ≤ 7)))) = true → ((b1 && (!((decide (d.op = 0)) && (decide (d.evr = []))))) && ((decide (1 ≤ d.op)) && (decide (d.op ≤ 7)))) = true)) ∧ (((b1 && (!((decide (d.op = 0)) && (decide (d.evr = []))))) = true → ((b1 && (!((decide (d.op = 0)) && (decide (d.evr = []))))) = true) ∧ (((decide (1 ≤ d.op)) && (decide (d.op ≤ 7))) = true → ((b1 && (!((decide (d.op = 0)) && (decide (d.evr = []))))) && ((decide (1 ≤ d.op)) && (decide (d.op ≤ 7)))) = true))) ∧ ((b1 = true → (b1 = true) ∧ (((decide (d.op = 0)) && (decide (d.evr = []))) = false → (b1 && (!((decide (d.op = 0)) && (decide (d.evr = []))))) = true))) ∧ ((b1 = true → b1 = true)) := by
   first | omega | (simp; omega) | (simp; done) | (intros; simp_all; omega) | (intros; simp_all; done) | (intros; simp_all; by_cases h : d.op = 0 <;> simp_all)
  refine Ae [19, 20, 21, 22, 25, 26, 27, 28, 29, 30, 31, 32, 33, 34, 35, 36, 37, 38, 39, 40, 41, 42, 43, 44, 45, 46] [2] [] (hk 2 Jx (Ln d.name (by omega)) <| hk0) (vk 9 23 (a := .bool ((Bf d.name) && (decide ((d.args.length : Int) = 0)))) (b := .bool b1) (Imp.of_eq (by rw [hb1])) <| vk 33 47 (a := .bool (b1 && (((decide (d.op = 0)) && (decide (d.evr = []))) || (((decide (1 ≤ d.op)) && (decide (d.op ≤ 7))) && (decide ((B7 d.evr) = 0)))))) (b := .bool b2) (Imp.of_eq (by rw [hb2])) <| v0) (cc 5 (p := ((Bf d.name) = true → (Bf d.name) = true)) qh1.1 <| cc 6 (p := ((Bf d.name) = true → (Bf d.name) = true)) qh1.2.1 <| cc 7 (p := ((Bf d.name) = true → (Bf d.name) = true)) qh1.2.2.1 <| cc 8 (p := ((Bf d.name) = true → (Bf d.name) = true)) qh1.2.2.2.1 <| cc 11 (p := (b1 = true → b1 = true)) qh1.2.2.2.2.1 <| cc 12 (p := (b1 = true → b1 = true)) qh1.2.2.2.2.2.1 <| cc 13 (p := (b1 = true → b1 = true)) qh1.2.2.2.2.2.2.1 <| cc 15 (p := ((b1 && (decide (d.op = 0))) = true → (b1 && (decide (d.op = 0))) = true)) qh1.2.2.2.2.2.2.2.1 <| cc 16 (p := ((b1 && (decide (d.op = 0))) = true → (b1 && (decide (d.op = 0))) = true)) qh1.2.2.2.2.2.2.2.2.1 <| cc 17 (p := (b1 = true → (b1 = true) ∧ ((decide (d.op = 0)) = true → (b1 && (decide (d.op = 0))) = true))) qh1.2.2.2.2.2.2.2.2.2.1 <| cc 18 (p := (b1 = true → b1 = true)) qh1.2.2.2.2.2.2.2.2.2.2.1 <| cc 20 (p := ((b1 && (!((decide (d.op = 0)) && (decide (d.evr = []))))) = true → (b1 && (!((decide (d.op = 0)) && (decide (d.evr = []))))) = true)) qh1.2.2.2.2.2.2.2.2.2.2.2.1 <| cc 21 (p := ((b1 && (!((decide (d.op = 0)) && (decide (d.evr = []))))) = true → (b1 && (!((decide (d.op = 0)) && (decide (d.evr = []))))) = true)) qh1.2.2.2.2.2.2.2.2.2.2.2.2.1 <| cc 22 (p := ((b1 && (!((decide (d.op = 0)) && (decide (d.evr = []))))) = true → (b1 && (!((decide (d.op = 0)) && (decide (d.evr = []))))) = true)) qh1.2.2.2.2.2.2.2.2.2.2.2.2.2.1 <| cc 24 (p := (((b1 && (!((decide (d.op = 0)) && (decide (d.evr = []))))) && (decide (1 ≤ d.op))) = true → ((b1 && (!((decide (d.op = 0)) && (decide (d.evr = []))))) && (decide (1 ≤ d.op))) = true)) qh1.2.2.2.2.2.2.2.2.2.2.2.2.2.2.1 <| cc 25 (p := (((b1 && (!((decide (d.op = 0)) && (decide (d.evr = []))))) && (decide (1 ≤ d.op))) = true → ((b1 && (!((decide (d.op = 0)) && (decide (d.evr = []))))) && (decide (1 ≤ d.op))) = true)) qh1.2.2.2.2.2.2.2.2.2.2.2.2.2.2.2.1 <| cc 26 (p := ((b1 && (!((decide (d.op = 0)) && (decide (d.evr = []))))) = true → ((b1 && (!((decide (d.op = 0)) && (decide (d.evr = []))))) = true) ∧ ((decide (1 ≤ d.op)) = true → ((b1 && (!((decide (d.op = 0)) && (decide (d.evr = []))))) && (decide (1 ≤ d.op))) = true))) qh1.2.2.2.2.2.2.2.2.2.2.2.2.2.2.2.2.1 <| cc 27 (p := ((b1 && (!((decide (d.op = 0)) && (decide (d.evr = []))))) = true → (b1 && (!((decide (d.op = 0)) && (decide (d.evr = []))))) = true)) qh1.2.2.2.2.2.2.2.2.2.2.2.2.2.2.2.2.2.1 <| cc 29 (p := (((b1 && (!((decide (d.op = 0)) && (decide (d.evr = []))))) && ((decide (1 ≤ d.op)) && (decide (d.op ≤ 7)))) = true → ((b1 && (!((decide (d.op = 0)) && (decide (d.evr = []))))) && ((decide (1 ≤ d.op)) && (decide (d.op ≤ 7)))) = true)) qh1.2.2.2.2.2.2.2.2.2.2.2.2.2.2.2.2.2.2.1 <| cc 30 (p := ((b1 && (!((decide (d.op = 0)) && (decide (d.evr = []))))) = true → ((b1 && (!((decide (d.op = 0)) && (decide (d.evr = []))))) = true) ∧ (((decide (1 ≤ d.op)) && (decide (d.op ≤ 7))) = true → ((b1 && (!((decide (d.op = 0)) && (decide (d.evr = []))))) && ((decide (1 ≤ d.op)) && (decide (d.op ≤ 7)))) = true))) qh1.2.2.2.2.2.2.2.2.2.2.2.2.2.2.2.2.2.2.2.1 <| cc 31 (p := (b1 = true → (b1 = true) ∧ (((decide (d.op = 0)) && (decide (d.evr = []))) = false → (b1 && (!((decide (d.op = 0)) && (decide (d.evr = []))))) = true))) qh1.2.2.2.2.2.2.2.2.2.2.2.2.2.2.2.2.2.2.2.2.1 <| cc 32 (p := (b1 = true → b1 = true)) qh1.2.2.2.2.2.2.2.2.2.2.2.2.2.2.2.2.2.2.2.2.2 <| c0) ?_
  refine Ag ?_
  refine RK wR [(.bool b2)] ?_
  subst hb2 hb1
  refine Same.of_eq ?_
  simp only [Aj]
  rw [Om c1, X3]
  congr 1
  rw [Bool.eq_iff_iff]
  simp only [Bool.and_eq_true, Bool.or_eq_true, decide_eq_true_eq, and_assoc]
  rw [show ((d.args.length : Int) = 0) = (d.args.length = 0) from propext (by omega)]
 ·refine Ai ?_
  refine Ab ?_
  refine Ar ?_
  refine Bj 1 0 [] [1, 48] [] hk0 v0 c0 ?_
  refine Q1i (b := 1) (k := 4) (a := 3) (c := 0) (es := []) (m := []) (by kernel_rfl) (by kernel_rfl) (by kernel_rfl) (by kernel_rfl) (by kernel_rfl) (by kernel_rfl) (by kernel_rfl) Tryz.underlying155 Tryz.underlying3 ?_
  refine Q1i (b := 1) (k := 6) (a := 2) (c := 1) (es := [(.int .i64 4, .int .i64 3, 0)]) (m := [(4, 3)]) (by kernel_rfl) (by kernel_rfl) (by kernel_rfl) (by kernel_rfl) (by kernel_rfl) (by kernel_rfl) (by kernel_rfl) Tryz.underlying155 Tryz.underlying3 ?_
  refine Bj 3 3 [] [1, 49, 51] [] hk0 v0 c0 ?_
  refine X17 (b := 1) (c := 2) (es := [(.int .i64 4, .int .i64 3, 0), (.int .i64 6, .int .i64 2, 1)]) (m := [(4, 3), (6, 2)]) (s' := [(1, (.fp (.agg [(.int .i64 d.kind), (.str d.name), (.int .i64 d.op), (.str d.evr), (.row 5 d.args.length (depAt d.args))]))), (49, (.map 1)), (51, (.int .i64 d.kind)), (52, (.int .i64 (Ea d.kind)))]) (by kernel_rfl) (by kernel_rfl) (by kernel_rfl) (by kernel_rfl) (by kernel_rfl) Tryz.underlying155 Tryz.underlying3 (fun _ => by kernel_rfl) (Q5q d.kind) (by kernel_rfl) ?_
  refine A2 7 [] [1, 5] [] hk0 v0 c0 ?_
  refine Ab ?_
  obtain ⟨b3, hb3⟩ : ∃ b, b = (decide (d.kind < 2)) := ⟨_, rfl⟩
  obtain ⟨b4, hb4⟩ : ∃ b, b = (b3 || (decide (6 < d.kind))) := ⟨_, rfl⟩
  obtain ⟨b5, hb5⟩ : ∃ b, b = (b4 || (!decide (d.name = []))) := ⟨_, rfl⟩
  obtain ⟨b6, hb6⟩ : ∃ b, b = (b5 || (!decide (d.op = 0))) := ⟨_, rfl⟩
  obtain ⟨b7, hb7⟩ : ∃ b, b = (b6 || (!decide (d.evr = []))) := ⟨_, rfl⟩
  obtain ⟨b8, hb8⟩ : ∃ b, b = (b7 || (decide ((d.args.length : Int) < 2))) := ⟨_, rfl⟩
  refine Ae (CS := [(5, ((!b3) = true → (!b3) = true)), (6, ((!b3) = true → (!b3) = true)), (7, (b3 = false → (!b3) = true)), (10, ((!b4) = true → (!b4) = true)), (11, ((!b4) = true → (!b4) = true)), (12, (b4 = false → (!b4) = true)), (15, ((!b5) = true → (!b5) = true)), (16, ((!b5) = true → (!b5) = true)), (17, (b5 = false → (!b5) = true)), (20, ((!b6) = true → (!b6) = true)), (21, ((!b6) = true → (!b6) = true)), (22, (b6 = false → (!b6) = true)), (25, ((!b7) = true → (!b7) = true)), (26, ((!b7) = true → (!b7) = true)), (27, ((!b7) = true → (!b7) = true)), (28, (b7 = false → (!b7) = true)), (31, ((!b8) = true → (!b8) = true)), (32, ((!b8) = true → (!b8) = true)), (34, (((!b8) && (decide (0 < (Ea d.kind)))) = true → ((!b8) && (decide (0 < (Ea d.kind)))) = true)), (35, (((!b8) && (decide (0 < (Ea d.kind)))) = true → ((!b8) && (decide (0 < (Ea d.kind)))) = true)), (37, (((!b8) && (decide (0 < (Ea d.kind)))) = true → ((!b8) && (decide (0 < (Ea d.kind)))) = true ∧ ((!b8) && (decide (0 < (Ea d.kind)))) = true)), (38, ((!b8) = true → ((!b8) = true) ∧ ((decide (0 < (Ea d.kind))) = true → ((!b8) && (decide (0 < (Ea d.kind)))) = true))), (39, (b8 = false → (!b8) = true))]) [57, 58, 59, 62, 63, 64, 67, 68, 69, 72, 73, 74, 77, 78, 79, 80, 83, 84, 85, 86, 87, 88, 89, 90, 91] [1, 92] [] hk0 (vk 4 56 (a := .bool (decide (d.kind < 2))) (b := .bool b3) (Imp.of_eq (by rw [hb3])) <| vk 9 61 (a := .bool (b3 || (decide (6 < d.kind)))) (b := .bool b4) (Imp.of_eq (by rw [hb4])) <| vk 14 66 (a := .bool (b4 || (!decide (d.name = [])))) (b := .bool b5) (Imp.of_eq (by rw [hb5])) <| vk 19 71 (a := .bool (b5 || (!decide (d.op = 0)))) (b := .bool b6) (Imp.of_eq (by rw [hb6])) <| vk 24 76 (a := .bool (b6 || (!decide (d.evr = [])))) (b := .bool b7) (Imp.of_eq (by rw [hb7])) <| vk 30 82 (a := .bool (b7 || (decide ((d.args.length : Int) < 2)))) (b := .bool b8) (Imp.of_eq (by rw [hb8])) <| v0) (by refine cc _ ?_ <| cc _ ?_ <| cc _ ?_ <| cc _ ?_ <| cc _ ?_ <| cc _ ?_ <| cc _ ?_ <| cc _ ?_ <| cc _ ?_ <| cc _ ?_ <| cc _ ?_ <| cc _ ?_ <| cc _ ?_ <| cc _ ?_ <| cc _ ?_ <| cc _ ?_ <| cc _ ?_ <| cc _ ?_ <| cc _ ?_ <| cc _ ?_ <| cc _ ?_ <| cc _ ?_ <| cc _ ?_ c0 <;> (intros; simp_all; done)) ?_
  refine A9 (q := b8 || ((decide (0 < (Ea d.kind))) && (decide ((Ea d.kind) < (d.args.length : Int))))) (by kernel_rfl) (fun c2 => ?_) (fun c2 => ?_)
  ·subst hb8 hb7 hb6 hb5 hb4 hb3
   try simp only [Al] at c2
   refine Aa [] [2] ?_
   refine Ag ?_
   refine RK wR [(.bool false)] ?_
   refine Same.of_eq ?_
   simp only [Aj]
   rw [H0 c1, X6, decide_eq_true (by rcases c2 with (((((h | h) | h) | h) | h) | h) | h <;> first | (simp [h]; done) | (have h' : d.args.length < 2 := (by omega); simp [h']))]
   rfl
  ·subst hb8 hb7 hb6 hb5 hb4 hb3
   try simp only [Al] at c2
   refine Ai ?_
   refine Ae [] [2] [] (hk 3 (al := [(Ah 5 Az d.args), (.fn 124 [] [(.fp (.agg [(.int .i64 d.kind), (.str d.name), (.int .i64 d.op), (.str d.evr), (.row 5 d.args.length (depAt d.args))]))])]) Rv ((Sa d.args (.fn 124 [] [.fp (Az d)]) (K7 d.kind) (by omega) (fun i hi => FunV.of (by exact Q86) (Q63 (nth d.args i) d (ih i hi)))).of_args (ImpL.cons Imp.refl (ImpL.cons (Imp.clo (by kernel_rfl)) ImpL.nil))) <| hk0) (vk 3 94 (Eh d.args) <| v0) c0 ?_
   refine Ag ?_
   refine RK wR [(.bool (!(d.args.any (K7 d.kind))))] ?_
   refine Same.of_eq ?_
   simp only [Aj]
   rw [H0 c1, X6, decide_eq_false (by rcases c2 with ⟨⟨⟨⟨⟨⟨h1, h2⟩, h3⟩, h4⟩, h5⟩, h6⟩, h7⟩; simp [h3, h4, h5]; omega), Q0j]
   simp
theorem Q65 (d : DepT) : d.size ≤ 4194304 → FnV Tryz.prog 66 [Az d] (.bool (Ca d)) :=
 O4 (C := fun d => d.size ≤ 4194304 → FnV Tryz.prog 66 [Az d] (.bool (Ca d))) (fun d ih hs => Q66 d hs fun i hi => ih i hi (by have := Fi hi; omega)) d
theorem Q3v (d : DepT) (hs : d.size ≤ 4194304) (ih : ∀ i, i < d.args.length → FnV Tryz.prog 110 [Az (nth d.args i)] (.bool (Ca (nth d.args i)))) :
  FnV Tryz.prog 110 [(.agg [(.int .i64 d.kind), (.str d.name), (.int .i64 d.op), (.str d.evr), (.row 5 d.args.length (depAt d.args))])] (.bool (Ca d)) := by
 have hda := Ee d
 have hal := Ds d.args
 refine Ba [.tmp 2] Tryz.func110 rfl Tryz.ntmps110 rfl rfl (fun B F hF => ?_)
 refine Ae [] [1] [(1, 1)] hk0 v0 c0 ?_
 refine Ab ?_
 refine Aa [] [1, 12] ?_
 refine A8 (p := d.kind = 1) (by kernel_rfl) (fun c1 => ?_) (fun c1 => ?_)
 ·refine Ae [] [1, 3] [] (hk 2 Ml (Nq d.name (by omega)) <| hk0) v0 c0 ?_
  refine Ab ?_
  obtain ⟨b1, hb1⟩ : ∃ b, b = (!(Bf d.name)) := ⟨_, rfl⟩
  obtain ⟨b2, hb2⟩ : ∃ b, b = (b1 || (decide (d.op < 0))) := ⟨_, rfl⟩
  obtain ⟨b3, hb3⟩ : ∃ b, b = (b2 || (decide (7 < d.op))) := ⟨_, rfl⟩
  refine Ae (CS := [(4, ((!b1) = true → (!b1) = true)), (5, ((!b1) = true → (!b1) = true)), (6, (b1 = false → (!b1) = true)), (9, ((!b2) = true → (!b2) = true)), (10, ((!b2) = true → (!b2) = true)), (11, (b2 = false → (!b2) = true)), (14, ((!b3) = true → (!b3) = true)), (15, ((!b3) = true → (!b3) = true)), (16, ((!b3) = true → (!b3) = true)), (17, (b3 = false → (!b3) = true))]) [19, 20, 21, 24, 25, 26, 29, 30, 31, 32] [1, 33] [] hk0 (vk 3 18 (a := .bool (!(Bf d.name))) (b := .bool b1) (Imp.of_eq (by rw [hb1])) <| vk 8 23 (a := .bool (b1 || (decide (d.op < 0)))) (b := .bool b2) (Imp.of_eq (by rw [hb2])) <| vk 13 28 (a := .bool (b2 || (decide (7 < d.op)))) (b := .bool b3) (Imp.of_eq (by rw [hb3])) <| v0) (by refine cc _ ?_ <| cc _ ?_ <| cc _ ?_ <| cc _ ?_ <| cc _ ?_ <| cc _ ?_ <| cc _ ?_ <| cc _ ?_ <| cc _ ?_ <| cc _ ?_ c0 <;> simp) ?_
  refine A9 (q := b3 || (decide (0 < (d.args.length : Int)))) (by kernel_rfl) (fun c2 => ?_) (fun c2 => ?_)
  ·subst hb3 hb2 hb1
   try simp only [Al] at c2
   refine Aa [] [2] ?_
   refine Ag ?_
   refine RK wR [(.bool false)] ?_
   refine Same.of_eq ?_
   simp only [Aj]
   rw [Om c1, Rm (by rcases c2 with ((h | h) | h) | h <;> first | omega | simp_all)]
  ·subst hb3 hb2 hb1
   try simp only [Al] at c2
   refine Ai ?_
   refine Ab ?_
   refine Aa [] [1, 36] ?_
   refine A8 (p := d.op = 0) (by kernel_rfl) (fun c3 => ?_) (fun c3 => ?_)
   ·refine Aa [] [2] ?_
    refine Ag ?_
    refine RK wR [(.bool (decide (d.evr = [])))] ?_
    refine Same.of_eq ?_
    simp only [Aj]
    rw [Om c1, Q67 ⟨c2.1.1.1, by omega, by omega, by omega⟩ c3]
   ·refine Ai ?_
    refine Ae [] [5] [(8, 4)] (hk 2 Mo (Ns d.evr (by omega)) <| hk0) v0 c0 ?_
    refine Aa [] [2] ?_
    refine Ag ?_
    refine RK wR [(.bool (decide ((B7 d.evr) = 0)))] ?_
    refine Same.of_eq ?_
    simp only [Aj]
    rw [Om c1, Q68 ⟨c2.1.1.1, by omega, by omega, by omega⟩ c3]
 ·refine Ai ?_
  refine Aa [] [1, 6] ?_
  refine Ab ?_
  obtain ⟨b4, hb4⟩ : ∃ b, b = (decide (d.kind < 2)) := ⟨_, rfl⟩
  obtain ⟨b5, hb5⟩ : ∃ b, b = (b4 || (decide (6 < d.kind))) := ⟨_, rfl⟩
  obtain ⟨b6, hb6⟩ : ∃ b, b = (b5 || (!decide (d.name = []))) := ⟨_, rfl⟩
  obtain ⟨b7, hb7⟩ : ∃ b, b = (b6 || (!decide (d.op = 0))) := ⟨_, rfl⟩
  obtain ⟨b8, hb8⟩ : ∃ b, b = (b7 || (!decide (d.evr = []))) := ⟨_, rfl⟩
  refine Ae (CS := [(5, ((!b4) = true → (!b4) = true)), (6, ((!b4) = true → (!b4) = true)), (7, (b4 = false → (!b4) = true)), (10, ((!b5) = true → (!b5) = true)), (11, ((!b5) = true → (!b5) = true)), (12, (b5 = false → (!b5) = true)), (15, ((!b6) = true → (!b6) = true)), (16, ((!b6) = true → (!b6) = true)), (17, (b6 = false → (!b6) = true)), (20, ((!b7) = true → (!b7) = true)), (21, ((!b7) = true → (!b7) = true)), (22, (b7 = false → (!b7) = true)), (25, ((!b8) = true → (!b8) = true)), (26, (b8 = false → (!b8) = true))]) [55, 56, 57, 60, 61, 62, 65, 66, 67, 70, 71, 72, 75, 76] [1, 6, 77] [] hk0 (vk 4 54 (a := .bool (decide (d.kind < 2))) (b := .bool b4) (Imp.of_eq (by rw [hb4])) <| vk 9 59 (a := .bool (b4 || (decide (6 < d.kind)))) (b := .bool b5) (Imp.of_eq (by rw [hb5])) <| vk 14 64 (a := .bool (b5 || (!decide (d.name = [])))) (b := .bool b6) (Imp.of_eq (by rw [hb6])) <| vk 19 69 (a := .bool (b6 || (!decide (d.op = 0)))) (b := .bool b7) (Imp.of_eq (by rw [hb7])) <| vk 24 74 (a := .bool (b7 || (!decide (d.evr = [])))) (b := .bool b8) (Imp.of_eq (by rw [hb8])) <| v0) (by refine cc _ ?_ <| cc _ ?_ <| cc _ ?_ <| cc _ ?_ <| cc _ ?_ <| cc _ ?_ <| cc _ ?_ <| cc _ ?_ <| cc _ ?_ <| cc _ ?_ <| cc _ ?_ <| cc _ ?_ <| cc _ ?_ <| cc _ ?_ c0 <;> simp) ?_
  refine A9 (q := b8 || (decide ((d.args.length : Int) < 2))) (by kernel_rfl) (fun c4 => ?_) (fun c4 => ?_)
  ·subst hb8 hb7 hb6 hb5 hb4
   try simp only [Al] at c4
   refine Aa [] [2] ?_
   refine Ag ?_
   refine RK wR [(.bool false)] ?_
   refine Same.of_eq ?_
   simp only [Aj]
   rw [H0 c1, Q7g (by rcases c4 with ((((h | h) | h) | h) | h) | h <;> first | (simp [h]; done) | (have h' : d.args.length < 2 := (by omega); simp [h']))]
   rfl
  ·subst hb8 hb7 hb6 hb5 hb4
   try simp only [Al] at c4
   refine Ai ?_
   refine Ab ?_
   obtain ⟨b9, hb9⟩ : ∃ b, b = (decide (d.kind = 4)) := ⟨_, rfl⟩
   obtain ⟨b10, hb10⟩ : ∃ b, b = (b9 && (decide (3 < (d.args.length : Int)))) := ⟨_, rfl⟩
   refine Ae (CS := [(5, (b9 = true → b9 = true)), (6, (b9 = true → b9 = true)), (9, ((!b10) = true → (!b10) = true)), (10, ((!b10) = true → (!b10) = true)), (11, ((!b10) = true → (!b10) = true)), (13, (((!b10) && (decide (d.kind = 6))) = true → ((!b10) && (decide (d.kind = 6))) = true)), (14, ((!b10) = true → ((!b10) = true) ∧ ((decide (d.kind = 6)) = true → ((!b10) && (decide (d.kind = 6))) = true))), (15, (b10 = false → (!b10) = true))]) [82, 83, 86, 87, 88, 89, 90, 91, 92] [1, 6, 93] [] hk0 (vk 4 81 (a := .bool (decide (d.kind = 4))) (b := .bool b9) (Imp.of_eq (by rw [hb9])) <| vk 8 85 (a := .bool (b9 && (decide (3 < (d.args.length : Int))))) (b := .bool b10) (Imp.of_eq (by rw [hb10])) <| v0) (by refine cc _ ?_ <| cc _ ?_ <| cc _ ?_ <| cc _ ?_ <| cc _ ?_ <| cc _ ?_ <| cc _ ?_ <| cc _ ?_ c0 <;> (intros; simp_all; done)) ?_
   refine A9 (q := b10 || ((decide (d.kind = 6)) && (decide (2 < (d.args.length : Int))))) (by kernel_rfl) (fun c5 => ?_) (fun c5 => ?_)
   ·subst hb10 hb9
    try simp only [Al] at c5
    refine Aa [] [2] ?_
    refine Ag ?_
    refine RK wR [(.bool false)] ?_
    refine Same.of_eq ?_
    simp only [Aj]
    rw [H0 c1, Q7f (by omega)]
    rfl
   ·subst hb10 hb9
    try simp only [Al] at c5
    have hfb : Fa d.kind d.name d.op d.evr d.args.length = false := Q7e (by rcases c4 with ⟨⟨⟨⟨⟨h1, h2⟩, h3⟩, h4⟩, h5⟩, h6⟩; simp [h3, h4, h5]; omega) (by omega)
    refine Ai ?_
    refine Ab ?_
    refine Aa [] [1, 6, 7] ?_
    refine A3 ?_
    refine Bs (fun g y => ∃ (i : Nat), i ≤ d.args.length ∧ argsForm d.kind d.args = argsForm d.kind (d.args.drop i) ∧ y = ⟨[(1, (.fp (.agg [(.int .i64 d.kind), (.str d.name), (.int .i64 d.op), (.str d.evr), (.row 5 d.args.length (depAt d.args))]))), (6, (.int .i64 ((d.args.length : Int)))), (7, (.int .i64 ((i : Int))))], [], 1⟩ ∧ g = d.args.length - i) [1, 6, 7] 1 _ (by omega) ⟨0, (by omega), (by rfl), (by kernel_rfl), rfl⟩ ?_
    rintro g1 y1 ⟨i, f1_1, f1_2, rfl, rfl⟩
    refine Ab ?_
    refine Aa [] [1, 6, 7, 96] ?_
    refine A8 (p := (i : Int) < (d.args.length : Int)) (by kernel_rfl) (fun c6 => ?_) (fun c6 => ?_)
    ·refine Ai ?_
     refine Ab ?_
     refine A3 ?_
     refine Ae [] [1, 6, 7, 8] [] hk0 (vk 3 100 (Eh d.args) <| v0) (cc 3 (p := (0 ≤ (i : Int) ∧ i < d.args.length)) (by omega) <| c0) ?_
     refine Ab ?_
     obtain ⟨b11, hb11⟩ : ∃ b, b = (decide (5 ≤ d.kind)) := ⟨_, rfl⟩
     obtain ⟨b12, hb12⟩ : ∃ b, b = (b11 && (!decide (((nth d.args i).kind) = 1))) := ⟨_, rfl⟩
     obtain ⟨b13, hb13⟩ : ∃ b, b = (b12 && (!decide (((nth d.args i).kind) = 5))) := ⟨_, rfl⟩
     refine Ae (CS := [(5, (b11 = true → b11 = true)), (6, (b11 = true → b11 = true)), (9, (b12 = true → b12 = true)), (10, (b12 = true → b12 = true)), (13, (b13 = true → b13 = true)), (14, (b13 = true → b13 = true))]) [109, 110, 113, 114, 117, 118] [1, 6, 7, 119] [] hk0 (vk 4 108 (a := .bool (decide (5 ≤ d.kind))) (b := .bool b11) (Imp.of_eq (by rw [hb11])) <| vk 8 112 (a := .bool (b11 && (!decide (((nth d.args i).kind) = 1)))) (b := .bool b12) (Imp.of_eq (by rw [hb12])) <| vk 12 116 (a := .bool (b12 && (!decide (((nth d.args i).kind) = 5)))) (b := .bool b13) (Imp.of_eq (by rw [hb13])) <| v0) (by refine cc _ ?_ <| cc _ ?_ <| cc _ ?_ <| cc _ ?_ <| cc _ ?_ <| cc _ ?_ c0 <;> simp) ?_
     refine A9 (q := b13 && (!decide (((nth d.args i).kind) = 6))) (by kernel_rfl) (fun c7 => ?_) (fun c7 => ?_)
     ·subst hb13 hb12 hb11
      try simp only [Al] at c7
      refine Aa [] [2] ?_
      refine Ag ?_
      refine RK wR [(.bool false)] ?_
      refine Same.of_eq ?_
      simp only [Aj]
      rw [H0 c1, hfb, f1_2, Sp (by omega), Q6e (by omega)]
      rfl
     ·subst hb13 hb12 hb11
      try simp only [Al] at c7
      refine Ai ?_
      refine Ae [] [1, 6, 7, 9] [] (hk 5 Zk (ih i (by omega)) <| hk0) (vk 3 121 (Eh d.args) <| v0) (cc 3 (p := (0 ≤ (i : Int) ∧ i < d.args.length)) (by omega) <| c0) ?_
      refine Aa [] [1, 6, 7, 127] ?_
      refine A9 (q := !(Ca (nth d.args i))) (by kernel_rfl) (fun c8 => ?_) (fun c8 => ?_)
      ·try simp only [Al] at c8
       refine Aa [] [2] ?_
       refine Ag ?_
       refine RK wR [(.bool false)] ?_
       refine Same.of_eq ?_
       simp only [Aj]
       rw [H0 c1, hfb, f1_2, Sp (by omega), Xa (by omega), c8]
       rfl
      ·try simp only [Al] at c8
       refine Ai ?_
       refine Ar ?_
       refine A2 0 [] [1, 6, 7] [] hk0 v0 (cc 1 (p := (-9223372036854775808 ≤ (i : Int) + 1 ∧ (i : Int) + 1 ≤ 9223372036854775807)) (by omega) <| c0) ?_
       refine ⟨by kernel_rfl, _, ?_, i + 1, ?_, ?_, (by kernel_rfl), rfl⟩
       ·omega
       ·omega
       ·rw [f1_2, Sp (by omega), Xa (by omega), c8]; rfl
    ·refine Bl ?_
     refine Aa [] [2] ?_
     refine Ag ?_
     refine RK wR [(.bool true)] ?_
     refine Same.of_eq ?_
     simp only [Aj]
     rw [H0 c1, hfb, f1_2, List.drop_of_length_le (by omega)]
     rfl
theorem Q3u (d : DepT) : d.size ≤ 4194304 → FnV Tryz.prog 110 [Az d] (.bool (Ca d)) :=
 O4 (C := fun d => d.size ≤ 4194304 → FnV Tryz.prog 110 [Az d] (.bool (Ca d))) (fun d ih hs => Q3v d hs fun i hi => ih i hi (by have := Fi hi; omega)) d
theorem Q4k (d : DepT) (hs : d.size ≤ 4194304) (ih : ∀ i, i < d.args.length → FnV Tryz.prog 111 [Az (nth d.args i)] (.int .i64 (D2 (nth d.args i) : Int))) :
  FnV Tryz.prog 111 [(.agg [(.int .i64 d.kind), (.str d.name), (.int .i64 d.op), (.str d.evr), (.row 5 d.args.length (depAt d.args))])] (.int .i64 ((D2 d : Int))) := by
 have hda := Ee d
 have hal := Ds d.args
 refine Ba [.tmp 2] Tryz.func111 rfl Tryz.ntmps111 rfl rfl (fun B F hF => ?_)
 refine Ae [] [1] [(1, 1)] hk0 v0 c0 ?_
 refine Ab ?_
 refine Aa [] [1, 7] ?_
 refine A8 (p := d.kind = 1) (by kernel_rfl) (fun c1 => ?_) (fun c1 => ?_)
 ·refine Aa [] [2] ?_
  refine Ag ?_
  refine RK wR [(.int .i64 1)] ?_
  refine Same.of_eq ?_
  simp only [Aj]
  rw [Q4m c1]
  rfl
 ·refine Ai ?_
  refine Aa [] [1, 3] ?_
  refine Ab ?_
  refine Aa [] [1, 3, 4] ?_
  refine A3 ?_
  refine Bs (fun g y => ∃ (i : Nat), i ≤ d.args.length ∧ y = ⟨[(1, (.fp (.agg [(.int .i64 d.kind), (.str d.name), (.int .i64 d.op), (.str d.evr), (.row 5 d.args.length (depAt d.args))]))), (3, (.int .i64 ((argsParts (d.args.take i) : Int)))), (4, (.int .i64 ((i : Int))))], [], 1⟩ ∧ g = d.args.length - i) [1, 3, 4] 1 _ (by omega) ⟨0, (by omega), (by kernel_rfl), rfl⟩ ?_
  rintro g1 y1 ⟨i, f1_1, rfl, rfl⟩
  have hb1 := argsParts_le (d.args.take i)
  have hb2 := fun h => Q0k (l := d.args) (i := i) h
  have hb3 := Vl (nth d.args i)
  refine Ab ?_
  refine Aa [] [1, 3, 4, 12] ?_
  refine A8 (p := (i : Int) < (d.args.length : Int)) (by kernel_rfl) (fun c2 => ?_) (fun c2 => ?_)
  ·refine Ai ?_
   refine Ab ?_
   refine A3 ?_
   refine Ar ?_
   refine A2 (CS := [(4, (0 ≤ (i : Int) ∧ i < d.args.length)), (7, (-9223372036854775808 ≤ (argsParts (d.args.take i) : Int) + (D2 (nth d.args i) : Int) ∧ (argsParts (d.args.take i) : Int) + (D2 (nth d.args i) : Int) ≤ 9223372036854775807))]) 0 [] [1, 3, 4] [] (hk 6 Zj (ih i (by omega)) <| hk0) (vk 4 17 (Eh d.args) <| v0) (by refine cc _ ?_ <| cc _ ?_ c0 <;> omega) ?_
   refine Ar ?_
   refine A2 0 [] [1, 3, 4] [] hk0 v0 (cc 1 (p := (-9223372036854775808 ≤ (i : Int) + 1 ∧ (i : Int) + 1 ≤ 9223372036854775807)) (by omega) <| c0) ?_
   refine ⟨by kernel_rfl, _, ?_, i + 1, ?_, (Eq.trans (b := (⟨[(1, (.fp (.agg [(.int .i64 d.kind), (.str d.name), (.int .i64 d.op), (.str d.evr), (.row 5 d.args.length (depAt d.args))]))), (3, (.int .i64 ((argsParts (d.args.take i) : Int) + (D2 (nth d.args i) : Int)))), (4, (.int .i64 ((i : Int) + 1)))], [], 1⟩ : St)) (by kernel_rfl) (by rw [X0z (by omega)]; rfl)), rfl⟩
   ·omega
   ·omega
  ·refine Bl ?_
   refine Aa [] [2] ?_
   refine Ag ?_
   refine RK wR [(.int .i64 ((argsParts (d.args.take i) : Int)))] ?_
   refine Same.of_eq ?_
   simp only [Aj]
   rw [Q4n c1, List.take_of_length_le (by omega)]
theorem Q4l (d : DepT) : d.size ≤ 4194304 → FnV Tryz.prog 111 [Az d] (.int .i64 (D2 d : Int)) :=
 O4 (C := fun d => d.size ≤ 4194304 → FnV Tryz.prog 111 [Az d] (.int .i64 (D2 d : Int))) (fun d ih hs => Q4k d hs fun i hi => ih i hi (by have := Fi hi; omega)) d
def E7 (d : DepT) : Nat := if d.kind = 1 then 1 else 0
theorem Q91 (l : List UInt8) (m : Nat) (hm : m ≤ 9000000) :
  Dj Tryz.prog 68 [(.str l), (.ptr 0 0)] [(0, (.row [(.int .i64 (((m : Nat) : Int)))] 3))] 1 (.tup []) [(0, (.row [(.int .i64 (((m + 1 : Nat) : Int)))] 3))] := by
 refine Fh [] Tryz.func68 rfl Tryz.ntmps68 rfl rfl (by kernel_rfl) (by kernel_rfl) (by kernel_rfl) (fun B F hF => ?_)
 refine Ar ?_
 refine A2 0 [] [] [] hk0 v0 (cc 1 (p := (-9223372036854775808 ≤ ((m : Nat) : Int) + 1 ∧ ((m : Nat) : Int) + 1 ≤ 9223372036854775807)) (by omega) <| c0) ?_
 refine Dd (.inr rfl) (al := []) (by kernel_rfl) ?_ ((by kernel_rfl : Cq 1 _ = some [(0, (.row [(.int .i64 (((m : Nat) : Int) + 1))] 3))]).trans ?_)
 ·rfl
 ·rfl
theorem X1e (d : DepT) (m : Nat) (hs : m + d.size ≤ 8388608) (ih : ∀ i m, i < d.args.length → m + (nth d.args i).size ≤ 8388608 → Dj Tryz.prog 67 [Az (nth d.args i), .fn 68 [] [.ptr 0 0]] [(0, .row [.int .i64 ((m : Nat) : Int)] 3)] 1 (.tup []) [(0, .row [.int .i64 ((m + D9 (nth d.args i) : Nat) : Int)] 3)]) :
  Dj Tryz.prog 67 [(.agg [(.int .i64 d.kind), (.str d.name), (.int .i64 d.op), (.str d.evr), (.row 5 d.args.length (depAt d.args))]), (.fn 68 [] [(.ptr 0 0)])] [(0, (.row [(.int .i64 (((m : Nat) : Int)))] 3))] 1 (.tup []) [(0, (.row [(.int .i64 (((m + D9 d : Nat) : Int)))] 3))] := by
 have hda := Ee d
 have hal := Ds d.args
 have ho : E7 d ≤ 1 := by unfold E7; split <;> omega
 refine Fh [] Tryz.func67 rfl Tryz.ntmps67 rfl rfl (by kernel_rfl) (by kernel_rfl) (by kernel_rfl) (fun B F hF => ?_)
 refine Aa [] [1, 2] ?_
 refine Pl 2 (y := ⟨[(1, (.fn 68 [] [(.ptr 0 0)])), (2, (.fp (.agg [(.int .i64 d.kind), (.str d.name), (.int .i64 d.op), (.str d.evr), (.row 5 d.args.length (depAt d.args))])))], [(0, (.row [(.int .i64 (((m : Nat) : Int)))] 3))], 2⟩) (by kernel_rfl) ?_
 refine C7 (fun y => y = ⟨[(1, (.fn 68 [] [(.ptr 0 0)])), (2, (.fp (.agg [(.int .i64 d.kind), (.str d.name), (.int .i64 d.op), (.str d.evr), (.row 5 d.args.length (depAt d.args))])))], [(0, (.row [(.int .i64 (((m + E7 d : Nat) : Int)))] 3))], 2⟩) [1, 2] 2 (by omega) ?_ ?_
 ·refine Aa [] [1, 2, 8] ?_
  refine A8 (p := d.kind = 1) (by kernel_rfl) (fun c1 => ?_) (fun c1 => ?_)
  ·refine Ar ?_
   refine Bj 3 0 [] [1, 2, 9, 11] [] hk0 v0 c0 ?_
   refine J9 [0] (f := 68) (cap := [(.ptr 0 0)]) (al := [(.str d.name)]) (al' := [(.str d.name), (.ptr 0 0)]) (r := (.tup [])) (r' := (.tup [])) (s' := [(1, (.fn 68 [] [(.ptr 0 0)])), (2, (.fp (.agg [(.int .i64 d.kind), (.str d.name), (.int .i64 d.op), (.str d.evr), (.row 5 d.args.length (depAt d.args))]))), (9, (.fn 68 [] [(.ptr 0 0)])), (11, (.str d.name)), (12, (.tup []))]) (H := [(0, (.row [(.int .i64 (((m : Nat) : Int)))] 3))]) (H' := [(0, (.row [(.int .i64 (((m + 1 : Nat) : Int)))] 3))]) (h2 := [(0, (.row [(.int .i64 (((m + 1 : Nat) : Int)))] 3))]) (by kernel_rfl) (by kernel_rfl) (by exact Q7x) (by kernel_rfl) (by kernel_rfl) (by kernel_rfl) (by kernel_rfl) (by kernel_rfl) (Q91 d.name m (by omega)) (by kernel_rfl) (by kernel_rfl) (by kernel_rfl) ?_
   refine Be ?_
   refine ⟨by kernel_rfl, (Eq.trans (b := (⟨[(1, (.fn 68 [] [(.ptr 0 0)])), (2, (.fp (.agg [(.int .i64 d.kind), (.str d.name), (.int .i64 d.op), (.str d.evr), (.row 5 d.args.length (depAt d.args))])))], [(0, (.row [(.int .i64 (((m + 1 : Nat) : Int)))] 3))], 2⟩ : St)) (by kernel_rfl) (by unfold E7; rw [if_pos c1]))⟩
  ·refine Ai ?_
   refine ⟨by kernel_rfl, (Eq.trans (b := (⟨[(1, (.fn 68 [] [(.ptr 0 0)])), (2, (.fp (.agg [(.int .i64 d.kind), (.str d.name), (.int .i64 d.op), (.str d.evr), (.row 5 d.args.length (depAt d.args))])))], [(0, (.row [(.int .i64 (((m : Nat) : Int)))] 3))], 2⟩ : St)) (by kernel_rfl) (by unfold E7; rw [if_neg c1]; rfl))⟩
 ·rintro y1 rfl
  refine Aa [] [1, 14, 15, 16] ?_
  refine A3 ?_
  refine S0 14 (Ah 5 Az d.args) (by kernel_rfl) (Eh d.args) ?_
  refine Bs (fun g y => ∃ (i : Nat), i ≤ d.args.length ∧ y = ⟨[(1, (.fn 68 [] [(.ptr 0 0)])), (14, (Ah 5 Az d.args)), (15, (.int .i64 ((d.args.length : Int)))), (16, (.int .i64 ((i : Int))))], [(0, (.row [(.int .i64 (((m + E7 d + argsNames (d.args.take i) : Nat) : Int)))] 3))], 2⟩ ∧ g = d.args.length - i) [1, 14, 15, 16] 2 _ (by omega) ⟨0, (by omega), (Eq.trans (b := (⟨[(1, (.fn 68 [] [(.ptr 0 0)])), (14, (Ah 5 Az d.args)), (15, (.int .i64 ((d.args.length : Int)))), (16, (.int .i64 0))], [(0, (.row [(.int .i64 (((m + E7 d : Nat) : Int)))] 3))], 2⟩ : St)) (by kernel_rfl) (by simp only [List.take_zero, argsNames, Nat.add_zero]; rfl)), rfl⟩ ?_
  rintro g1 y1 ⟨i, f1_1, rfl, rfl⟩
  have hb1 := argsNames_le (d.args.take i)
  have hb2 := fun h => Q0k (l := d.args) (i := i) h
  refine Aa [] [1, 14, 15, 16, 17] ?_
  refine Ab ?_
  refine A8 (p := (i : Int) < (d.args.length : Int)) (by kernel_rfl) (fun c2 => ?_) (fun c2 => ?_)
  ·refine Ai ?_
   refine Ab ?_
   refine A3 ?_
   refine Ae [] [1, 5, 14, 15, 16] [] hk0 v0 (cc 0 (p := (0 ≤ (i : Int) ∧ i < d.args.length)) (by omega) <| c0) ?_
   refine Ar ?_
   refine Bj 2 0 [] [1, 14, 15, 16, 20, 21] [(0, 5)] hk0 v0 c0 ?_
   refine C3 [0] (al := [(.agg [(.int .i64 ((nth d.args i).kind)), (.str ((nth d.args i).name)), (.int .i64 ((nth d.args i).op)), (.str ((nth d.args i).evr)), (.row 5 (nth d.args i).args.length (depAt (nth d.args i).args))]), (.fn 68 [] [(.ptr 0 0)])]) (al' := [(.agg [(.int .i64 ((nth d.args i).kind)), (.str ((nth d.args i).name)), (.int .i64 ((nth d.args i).op)), (.str ((nth d.args i).evr)), (.row 5 (nth d.args i).args.length (depAt (nth d.args i).args))]), (.fn 68 [] [(.ptr 0 0)])]) (r := (.tup [])) (r' := (.tup [])) (s' := [(1, (.fn 68 [] [(.ptr 0 0)])), (14, (Ah 5 Az d.args)), (15, (.int .i64 ((d.args.length : Int)))), (16, (.int .i64 ((i : Int)))), (20, (.agg [(.int .i64 ((nth d.args i).kind)), (.str ((nth d.args i).name)), (.int .i64 ((nth d.args i).op)), (.str ((nth d.args i).evr)), (.row 5 (nth d.args i).args.length (depAt (nth d.args i).args))])), (21, (.fn 68 [] [(.ptr 0 0)])), (22, (.tup []))]) (H := [(0, (.row [(.int .i64 (((m + E7 d + argsNames (d.args.take i) : Nat) : Int)))] 3))]) (H' := [(0, (.row [(.int .i64 (((m + E7 d + argsNames (d.args.take i) + D9 (nth d.args i) : Nat) : Int)))] 3))]) (h2 := [(0, (.row [(.int .i64 (((m + E7 d + argsNames (d.args.take i) + D9 (nth d.args i) : Nat) : Int)))] 3))]) (by kernel_rfl) (by exact Yo) (by kernel_rfl) (by kernel_rfl) (by kernel_rfl) (by kernel_rfl) (by kernel_rfl) (ih i (m + E7 d + argsNames (d.args.take i)) (by omega) (by have := hb2 (by omega); omega)) (by kernel_rfl) (by kernel_rfl) (by kernel_rfl) ?_
   refine Be ?_
   refine Ar ?_
   refine A2 0 [] [1, 14, 15, 16] [] hk0 v0 (cc 0 (p := (-9223372036854775808 ≤ (i : Int) + 1 ∧ (i : Int) + 1 ≤ 9223372036854775807)) (by omega) <| c0) ?_
   refine ⟨by kernel_rfl, _, ?_, i + 1, ?_, (Eq.trans (b := (⟨[(1, (.fn 68 [] [(.ptr 0 0)])), (14, (Ah 5 Az d.args)), (15, (.int .i64 ((d.args.length : Int)))), (16, (.int .i64 ((i : Int) + 1)))], [(0, (.row [(.int .i64 (((m + E7 d + argsNames (d.args.take i) + D9 (nth d.args i) : Nat) : Int)))] 3))], 2⟩ : St)) (by kernel_rfl) (by rw [X00 (by omega)]; simp only [Nat.add_assoc]; rfl)), rfl⟩
   all_goals omega
  ·refine Bl ?_
   refine Dd (.inr rfl) (al := []) (by kernel_rfl) ?_ ((by kernel_rfl : Cq 1 _ = some [(0, (.row [(.int .i64 (((m + E7 d + argsNames (d.args.take i) : Nat) : Int)))] 3))]).trans ?_)
   ·rfl
   ·rw [Q5j, List.take_of_length_le (by omega)]; simp only [E7, Nat.add_assoc]
theorem X1d (d : DepT) : ∀ m, m + d.size ≤ 8388608 → Dj Tryz.prog 67 [Az d, .fn 68 [] [.ptr 0 0]] [(0, .row [.int .i64 ((m : Nat) : Int)] 3)] 1 (.tup []) [(0, .row [.int .i64 ((m + D9 d : Nat) : Int)] 3)] :=
 O4 (C := fun d => ∀ m, m + d.size ≤ 8388608 → Dj Tryz.prog 67 [Az d, .fn 68 [] [.ptr 0 0]] [(0, .row [.int .i64 ((m : Nat) : Int)] 3)] 1 (.tup []) [(0, .row [.int .i64 ((m + D9 d : Nat) : Int)] 3)]) (fun d ih m hs => X1e d m hs fun i m hi h => ih i hi m h) d
theorem S9 (d : DepT) (hs : d.size ≤ 4194304) :
  FnV Tryz.prog 22 [(.agg [(.int .i64 d.kind), (.str d.name), (.int .i64 d.op), (.str d.evr), (.row 5 d.args.length (depAt d.args))])] (.int .i64 (Bq d)) := by
 refine Ba [.tmp 2] Tryz.func22 rfl Tryz.ntmps22 rfl rfl (fun B F hF => ?_)
 refine Ae [] [1] [(1, 1)] hk0 v0 c0 ?_
 refine Ab ?_
 refine Ae [] [1, 6] [] (hk 1 Yp (Q65 d hs) <| hk0) v0 c0 ?_
 refine A9 (q := !(Ca d)) (by kernel_rfl) (fun c1 => ?_) (fun c1 => ?_)
 ·try simp only [Al] at c1
  refine Aa [] [2] ?_
  refine Ag ?_
  refine RK wR [(.int .i64 50)] ?_
  refine Same.of_eq ?_
  simp only [Aj]
  rw [Bq, c1]
  rfl
 ·try simp only [Al] at c1
  refine Ai ?_
  refine Aa [] [1, 3] ?_
  refine Ab ?_
  refine Ar ?_
  refine Bj 2 0 [] [3, 7, 8] [] hk0 v0 c0 ?_
  refine C3 [1] (al := [(.agg [(.int .i64 d.kind), (.str d.name), (.int .i64 d.op), (.str d.evr), (.row 5 d.args.length (depAt d.args))]), (.fn 68 [] [(.ptr 1 0)])]) (al' := [(.agg [(.int .i64 d.kind), (.str d.name), (.int .i64 d.op), (.str d.evr), (.row 5 d.args.length (depAt d.args))]), (.fn 68 [] [(.ptr 0 0)])]) (r := (.tup [])) (r' := (.tup [])) (s' := [(3, (.ptr 1 0)), (7, (.agg [(.int .i64 d.kind), (.str d.name), (.int .i64 d.op), (.str d.evr), (.row 5 d.args.length (depAt d.args))])), (8, (.fn 68 [] [(.ptr 1 0)])), (9, (.tup []))]) (H := [(0, (.row [(.int .i64 0)] 3))]) (H' := [(0, (.row [(.int .i64 (((0 + D9 d : Nat) : Int)))] 3))]) (h2 := [(1, (.row [(.int .i64 (((0 + D9 d : Nat) : Int)))] 3))]) (by kernel_rfl) (by exact Yo) (by kernel_rfl) (by kernel_rfl) (by kernel_rfl) (by kernel_rfl) (by kernel_rfl) (X1d d 0 (by omega)) (by kernel_rfl) (by kernel_rfl) (by kernel_rfl) ?_
  refine Be ?_
  refine Ab ?_
  refine Aa [] [11] ?_
  refine A8 (p := 16 < ((0 + D9 d : Nat) : Int)) (by kernel_rfl) (fun c2 => ?_) (fun c2 => ?_)
  ·refine Aa [] [2] ?_
   refine Ag ?_
   refine RK wR [(.int .i64 51)] ?_
   refine Same.of_eq ?_
   simp only [Aj]
   rw [Bq, c1, if_pos rfl, if_pos (by have := Q0 d c1; omega)]
  ·refine Ai ?_
   refine Aa [] [2] ?_
   refine Ag ?_
   refine RK wR [(.int .i64 0)] ?_
   refine Same.of_eq ?_
   simp only [Aj]
   rw [Bq, c1, if_pos rfl, if_neg (by have := Q0 d c1; omega)]
theorem Uu (d : DepT) (hs : d.size ≤ 4194304) :
  FnV Tryz.prog 52 [(.agg [(.int .i64 d.kind), (.str d.name), (.int .i64 d.op), (.str d.evr), (.row 5 d.args.length (depAt d.args))])] (.int .i64 (Bq d)) := by
 refine Ba [.tmp 2] Tryz.func52 rfl Tryz.ntmps52 rfl rfl (fun B F hF => ?_)
 refine Ae [] [1] [(1, 1)] hk0 v0 c0 ?_
 refine Ae [] [1, 3] [] (hk 1 Zk (Q3u d hs) <| hk0) v0 c0 ?_
 refine Ab ?_
 refine Aa [] [1, 7] ?_
 refine A9 (q := !(Ca d)) (by kernel_rfl) (fun c1 => ?_) (fun c1 => ?_)
 ·try simp only [Al] at c1
  refine Aa [] [2] ?_
  refine Ag ?_
  refine RK wR [(.int .i64 50)] ?_
  refine Same.of_eq ?_
  simp only [Aj]
  rw [Bq, c1]
  rfl
 ·try simp only [Al] at c1
  refine Ai ?_
  refine Ab ?_
  refine Ae [] [10] [] (hk 1 Zj (Q4l d hs) <| hk0) v0 c0 ?_
  refine A8 (p := 16 < (D2 d : Int)) (by kernel_rfl) (fun c2 => ?_) (fun c2 => ?_)
  ·refine Aa [] [2] ?_
   refine Ag ?_
   refine RK wR [(.int .i64 51)] ?_
   refine Same.of_eq ?_
   simp only [Aj]
   rw [Bq, c1, if_pos rfl, if_pos (by omega)]
  ·refine Ai ?_
   refine Aa [] [2] ?_
   refine Ag ?_
   refine RK wR [(.int .i64 0)] ?_
   refine Same.of_eq ?_
   simp only [Aj]
   rw [Bq, c1, if_pos rfl, if_neg (by omega)]
end Sv
end Go.Proofs.YtlfjokcbkopfeaaGreatDoor
end
section
namespace Go.Proofs.YtlfjokcbkopfeaaGreatDoor
open Go Go.RowKit
namespace Sv
attribute [local irreducible] SW SO Bg
set_option maxHeartbeats 400000
set_option maxRecDepth 100000
theorem Q8o : As Tryz.prog 157 := Ax Tryz.func157 (by kernel_rfl) rfl
theorem Q9j : As Tryz.prog 109 := Ax Tryz.func109 (by kernel_rfl) rfl
theorem Iu : As Tryz.prog 108 := Ax Tryz.func108 (by kernel_rfl) rfl
theorem Zl : As Tryz.prog 107 := Ax Tryz.func107 (by kernel_rfl) rfl
theorem Jw : As Tryz.prog 51 := Ax Tryz.func51 (by kernel_rfl) rfl
theorem Q7t : As Tryz.prog 96 := Ax Tryz.func96 (by kernel_rfl) rfl
theorem Yt : As Tryz.prog 47 := Ax Tryz.func47 (by kernel_rfl) rfl
theorem X0c (l : List (List UInt8)) (hl : l.length ≤ 4611686018427) :
  FnV Tryz.prog 109 [(Ch l)] (Ch l) := by
 refine Ba [.tmp 2] Tryz.func109 rfl Tryz.ntmps109 rfl rfl (fun B F hF => ?_)
 refine Aa [] [0] ?_
 refine Ab ?_
 refine Ab ?_
 refine Ar ?_
 refine Bj 1 0 [] [0, 3] [] hk0 v0 c0 ?_
 refine Q1h (G := Ul (Ch l)) (sz := 1) (m := l.length) (e := 9) (by kernel_rfl) (by kernel_rfl) (by kernel_rfl) (by kernel_rfl) (fun nq1 => ⟨[(0, (Ch l)), (3, (Ch l)), (4, (.bool nq1))], by kernel_rfl, fun hnq1 => ?_⟩)
 refine Be ?_
 refine A9 (q := nq1) (by kernel_rfl) (fun c1 => ?_) (fun c1 => ?_)
 ·try simp only [Al] at c1
  refine Aa [] [2] ?_
  refine Ag ?_
  refine RK wR [.nils] ?_
  simp only [Aj]
  exact (Same.of_eq rfl).trans (Imp.same (by have := hnq1 (by simp_all); have : l = [] := List.length_eq_zero_iff.1 this; subst this; exact Imp.nil))
 ·try simp only [Al] at c1
  refine Ai ?_
  refine Ae [] [2] [] hk0 v0 (cc 2 (p := ((([] : List AV).length + l.length) * 16 ≤ 140737488355328)) (by (simp; omega)) <| c0) ?_
  refine Ag ?_
  refine RK wR [(.row 1 (([] : List AV) ++ ((List.range l.length).map (fun kx => ((.str (nth l kx)) : AV)))).length (fun ix => (([] : List AV) ++ ((List.range l.length).map (fun kx => ((.str (nth l kx)) : AV)))).getD ix Bh))] ?_
  simp only [Aj]
  exact Same.grown (f := AV.str) (l := l) (by simp [Uy])
theorem V4 (l : List DepT) (hs : argsSize l ≤ 4194304) (ih : ∀ i, i < l.length → FnV Tryz.prog 108 [Dg (nth l i).args] (.row 5 (nth l i).args.length (depAt (nth l i).args))) :
  FnV Tryz.prog 108 [(Ah 5 Az l)] (.row 5 l.length (depAt l)) := by
 have hal := Ds l
 refine Ba [.tmp 2] Tryz.func108 rfl Tryz.ntmps108 rfl rfl (fun B F hF => ?_)
 refine Aa [] [0] ?_
 refine Ab ?_
 refine Ar ?_
 refine Bj 1 0 [] [5] [] hk0 v0 c0 ?_
 refine J8 [.tmp 2] (al := [(Ah 5 Az l)]) (s0 := [(5, (Ah 5 Az l))]) (by kernel_rfl) (by exact Q8o) (by kernel_rfl) Tryz.func157 rfl Tryz.ntmps157 rfl (by kernel_rfl) (by kernel_rfl) (fun F1 hF1 hle1 => ?_)
 refine Aa [] [0] ?_
 refine Ab ?_
 refine Ab ?_
 refine Ar ?_
 refine Bj 1 0 [] [0, 3] [] hk0 v0 c0 ?_
 refine Q1h (G := Ul (Ah 5 Az l)) (sz := 5) (m := l.length) (e := 25) (by kernel_rfl) (by kernel_rfl) (by kernel_rfl) (by kernel_rfl) (fun nq1_1 => ⟨[(0, (Ah 5 Az l)), (3, (Ah 5 Az l)), (4, (.bool nq1_1))], by kernel_rfl, fun hnq1_1 => ?_⟩)
 refine Be ?_
 refine A9 (q := nq1_1) (by kernel_rfl) (fun c1 => ?_) (fun c1 => ?_)
 ·try simp only [Al] at c1
  refine Aa [] [2] ?_
  refine Ag ?_
  refine Io (.inl rfl) (al := [.nils]) (s' := [(5, (Ah 5 Az l)), (6, .nils)]) (by kernel_rfl) (by kernel_rfl) ?_
  refine A2 2 [] [0] [] hk0 v0 c0 ?_
  refine Ab ?_
  refine Aa [] [0, 7, 8, 9] ?_
  refine A3 ?_
  refine M4 1 ?_
  refine Ej ?_
  refine Aa [] [0, 7, 8, 9, 10] ?_
  refine Ab ?_
  refine Db (by kernel_rfl) ?_
  refine Bl ?_
  refine Aa [] [2] ?_
  refine Ag ?_
  refine RK wR [.nils] ?_
  have h0 : l = [] := List.length_eq_zero_iff.1 (hnq1_1 c1)
  subst h0
  exact (Same.nil (f := Az)).trans (Jz []).same
 ·try simp only [Al] at c1
  refine Ai ?_
  refine Ae [] [2] [] hk0 v0 (cc 2 (p := ((([] : List AV).length + l.length) * 72 ≤ 140737488355328)) (by (simp; omega)) <| c0) ?_
  refine Ag ?_
  refine Io (.inl rfl) (al := [(.own 1)]) (s' := [(5, (Ah 5 Az l)), (6, (.own 1))]) (by kernel_rfl) (by kernel_rfl) ?_
  refine A2 2 [] [0] [] hk0 v0 c0 ?_
  refine Ab ?_
  refine Aa [] [0, 7, 8, 9] ?_
  refine A3 ?_
  refine Bs (fun g y => ∃ (i : Nat), i ≤ l.length ∧ y = ⟨[(0, (.own 1)), (7, (.own 1)), (8, (.int .i64 (((l.map Az).length : Int)))), (9, (.int .i64 ((i : Int))))], [(1, (.grow (l.map Az) 25 5))], 2⟩ ∧ g = l.length - i) [0, 7, 8, 9] 2 _ (by omega) ⟨0, (by omega), (Eq.trans (b := (⟨[(0, (.own 1)), (7, (.own 1)), (8, (.int .i64 (((([] : List AV) ++ ((List.range l.length).map (fun kx => ((.agg [(.int .i64 ((nth l kx).kind)), (.str ((nth l kx).name)), (.int .i64 ((nth l kx).op)), (.str ((nth l kx).evr)), (.row 5 (nth l kx).args.length (depAt (nth l kx).args))]) : AV)))).length : Int)))), (9, (.int .i64 0))], [(1, (.grow (([] : List AV) ++ ((List.range l.length).map (fun kx => ((.agg [(.int .i64 ((nth l kx).kind)), (.str ((nth l kx).name)), (.int .i64 ((nth l kx).op)), (.str ((nth l kx).evr)), (.row 5 (nth l kx).args.length (depAt (nth l kx).args))]) : AV)))) 25 5))], 2⟩ : St)) (by kernel_rfl) (by rw [show (([] : List AV) ++ ((List.range l.length).map (fun kx => ((.agg [(.int .i64 ((nth l kx).kind)), (.str ((nth l kx).name)), (.int .i64 ((nth l kx).op)), (.str ((nth l kx).evr)), (.row 5 (nth l kx).args.length (depAt (nth l kx).args))]) : AV)))) = l.map Az from Q4o Az l]; rfl)), rfl⟩ ?_
  rintro g2 y2 ⟨i, f2_1, rfl, rfl⟩
  have hlm : (l.map Az).length = l.length := List.length_map _
  refine Aa [] [0, 7, 8, 9, 10] ?_
  refine Ab ?_
  refine A8 (p := (i : Int) < ((l.map Az).length : Int)) (by kernel_rfl) (fun c2 => ?_) (fun c2 => ?_)
  ·refine Ai ?_
   refine Ab ?_
   refine A3 ?_
   refine Ab ?_
   refine Ar ?_
   refine Bj 1 0 [] [0, 7, 8, 9, 11] [] hk0 v0 c0 ?_
   refine Et (b := 1) (i := i) (es := l.map Az) (e := 25) (sz := 5) (k := .i64) (s' := [(0, (.own 1)), (7, (.own 1)), (8, (.int .i64 (((l.map Az).length : Int)))), (9, (.int .i64 ((i : Int)))), (11, (.int .i64 ((i : Int)))), (12, (.op 1 (i * 5)))]) (by kernel_rfl) (by kernel_rfl) (by kernel_rfl) (by kernel_rfl) (by kernel_rfl) (by kernel_rfl) (by first | (rw [List.length_map]; omega) | simp_all) (by kernel_rfl) ?_
   refine E1 (b := 1) (e := 25) (sz := 5) (es := l.map Az) (o := i * 5) (i := i) (j := 0) (a := (.agg [(.int .i64 ((nth l i).kind)), (.str ((nth l i).name)), (.int .i64 ((nth l i).op)), (.str ((nth l i).evr)), (.row 5 (nth l i).args.length (depAt (nth l i).args))])) (r := (.agg [(.int .i64 ((nth l i).kind)), (.str ((nth l i).name)), (.int .i64 ((nth l i).op)), (.str ((nth l i).evr)), (.row 5 (nth l i).args.length (depAt (nth l i).args))])) (s' := [(0, (.own 1)), (7, (.own 1)), (8, (.int .i64 (((l.map Az).length : Int)))), (9, (.int .i64 ((i : Int)))), (11, (.int .i64 ((i : Int)))), (12, (.op 1 (i * 5))), (13, (.agg [(.int .i64 ((nth l i).kind)), (.str ((nth l i).name)), (.int .i64 ((nth l i).op)), (.str ((nth l i).evr)), (.row 5 (nth l i).args.length (depAt (nth l i).args))]))]) (by kernel_rfl) (by kernel_rfl) rfl (by kernel_rfl) (Eo (l := l) Az (by omega)) (by kernel_rfl) (by kernel_rfl) ?_
   refine A2 3 [] [0, 3, 4, 7, 8, 9] [] hk0 v0 c0 ?_
   refine Ar ?_
   refine Bj 5 0 [] [0, 7, 8, 9, 14, 15, 18] [(0, 4)] (hk 4 Iu (ih i (by omega)) <| hk0) (vk 4 17 (Eh (nth l i).args) <| v0) c0 ?_
   refine Et (b := 1) (i := i) (es := l.map Az) (e := 25) (sz := 5) (k := .i64) (s' := [(0, (.own 1)), (7, (.own 1)), (8, (.int .i64 (((l.map Az).length : Int)))), (9, (.int .i64 ((i : Int)))), (14, (.own 1)), (15, (.int .i64 ((i : Int)))), (18, (.row 5 ((nth l i).args).length (depAt ((nth l i).args)))), (19, (.op 1 (i * 5)))]) (by kernel_rfl) (by kernel_rfl) (by kernel_rfl) (by kernel_rfl) (by kernel_rfl) (by kernel_rfl) (by first | (rw [List.length_map]; omega) | simp_all) (by kernel_rfl) ?_
   refine E2 (b := 1) (o := i * 5) (off := 4) (s' := [(0, (.own 1)), (7, (.own 1)), (8, (.int .i64 (((l.map Az).length : Int)))), (9, (.int .i64 ((i : Int)))), (14, (.own 1)), (15, (.int .i64 ((i : Int)))), (18, (.row 5 ((nth l i).args).length (depAt ((nth l i).args)))), (19, (.op 1 (i * 5))), (20, (.op 1 (i * 5 + 4)))]) (by kernel_rfl) (by kernel_rfl) (by kernel_rfl) (by kernel_rfl) ?_
   refine X16 (b := 1) (e := 25) (sz := 5) (es := l.map Az) (o := i * 5 + 4) (i := i) (j := 4) (a := (.agg [(.int .i64 ((nth l i).kind)), (.str ((nth l i).name)), (.int .i64 ((nth l i).op)), (.str ((nth l i).evr)), (.row 5 (nth l i).args.length (depAt (nth l i).args))])) (r := (.agg [(.int .i64 ((nth l i).kind)), (.str ((nth l i).name)), (.int .i64 ((nth l i).op)), (.str ((nth l i).evr)), (.row 5 ((nth l i).args).length (depAt ((nth l i).args)))])) (v := (.row 5 ((nth l i).args).length (depAt ((nth l i).args)))) (s' := [(0, (.own 1)), (7, (.own 1)), (8, (.int .i64 (((l.map Az).length : Int)))), (9, (.int .i64 ((i : Int)))), (14, (.own 1)), (15, (.int .i64 ((i : Int)))), (18, (.row 5 ((nth l i).args).length (depAt ((nth l i).args)))), (19, (.op 1 (i * 5))), (20, (.op 1 (i * 5 + 4)))]) (by kernel_rfl) (by kernel_rfl) rfl (by kernel_rfl) (by kernel_rfl) (Eo (l := l) Az (by omega)) (by kernel_rfl) (by kernel_rfl) ?_
   refine Be ?_
   refine Ar ?_
   refine A2 0 [] [0, 7, 8, 9] [] hk0 v0 (cc 0 (p := (-9223372036854775808 ≤ (i : Int) + 1 ∧ (i : Int) + 1 ≤ 9223372036854775807)) (by omega) <| c0) ?_
   refine ⟨by kernel_rfl, _, ?_, i + 1, ?_, (Eq.trans (b := (⟨[(0, (.own 1)), (7, (.own 1)), (8, (.int .i64 (((l.map Az).length : Int)))), (9, (.int .i64 ((i : Int) + 1)))], [(1, (.grow ((l.map Az).set i (.agg [(.int .i64 ((nth l i).kind)), (.str ((nth l i).name)), (.int .i64 ((nth l i).op)), (.str ((nth l i).evr)), (.row 5 ((nth l i).args).length (depAt ((nth l i).args)))])) 25 5))], 2⟩ : St)) (by kernel_rfl) (congrArg (fun es => St.mk _ [(1, AO.grow es _ _)] _) (Q2v Az l i))), rfl⟩
   all_goals omega
  ·refine Bl ?_
   refine Aa [] [2] ?_
   refine Ag ?_
   refine RK wR [(.row 5 (l.map Az).length (fun ix => (l.map Az).getD ix Bh))] ?_
   simp only [Aj]
   exact (Same.grown (f := Az) (l := l) rfl).trans (Jz l).same
theorem Q4p (l : List DepT) : argsSize l ≤ 4194304 → FnV Tryz.prog 108 [Dg l] (.row 5 l.length (depAt l)) := by
 have key : ∀ n (l : List DepT), argsSize l ≤ n → argsSize l ≤ 4194304 → FnV Tryz.prog 108 [Dg l] (.row 5 l.length (depAt l)) := by
  intro n
  induction n with
  | zero => exact fun l h hs => V4 l hs fun i hi => by have := Q0i hi; omega
  | succ n ih => exact fun l h hs => V4 l hs fun i hi => by have := Q0i hi; exact ih _ (by omega) (by omega)
 exact key _ l (Nat.le_refl _)
theorem Jg (l : List DepT) (hs : argsSize l ≤ 4194304) : FnV Tryz.prog 108 [Dg l] (Dg l) := (Q4p l hs).to (Eh l).same
theorem J0 (p : PkgT) (hs : p.depSize ≤ 4194304) (hf : p.files.length ≤ 4611686018427) :
  FnV Tryz.prog 51 [(Ak p)] (Ak p) := by
 unfold PkgT.depSize at hs
 refine Ba [.cell 2 38] Tryz.func51 rfl Tryz.ntmps51 rfl rfl (fun B F hF => ?_)
 refine Aa [] [1, 2] ?_
 refine Ab ?_
 refine Ab ?_
 refine Ar ?_
 refine J8 [.tmp 2] (al := [(.ptr 0 0)]) (s0 := [(1, (.ptr 0 0)), (2, (.ptr 1 0))]) (by kernel_rfl) (by exact Zl) (by kernel_rfl) Tryz.func107 rfl Tryz.ntmps107 rfl (by kernel_rfl) (by kernel_rfl) (fun F1 hF1 hle1 => ?_)
 refine Aa [] [0] ?_
 refine Cg [] [2] [] hk0 v0 c0 ?_
 refine Ag ?_
 refine Io (.inl rfl) (al := [(.sl 2 0 7 7 false)]) (s' := [(1, (.ptr 0 0)), (2, (.ptr 1 0)), (5, (.sl 2 0 7 7 false))]) (by kernel_rfl) (by kernel_rfl) ?_
 refine A2 1 [] [1, 2, 5, 6, 7] [] hk0 v0 c0 ?_
 refine A3 ?_
 refine M4 8 ?_
 refine Ej ?_
 refine Aa [] [1, 2, 5, 6, 7, 8] ?_
 refine Ab ?_
 refine F6 (by kernel_rfl) ?_
 refine Ai ?_
 refine Ab ?_
 refine A3 ?_
 refine Aa [] [1, 2, 4, 5, 6, 7] ?_
 refine Ar ?_
 refine A2 0 [] [1, 2, 5, 6, 7] [] (hk 4 Iu (Jg p.provides (by omega)) <| hk0) v0 c0 ?_
 refine Ar ?_
 refine A2 0 [] [1, 2, 5, 6, 7] [] hk0 v0 (cc 0 (p := (-9223372036854775808 ≤ (1 : Int) ∧ (1 : Int) ≤ 9223372036854775807)) (by omega) <| c0) ?_
 refine Ej ?_
 refine Aa [] [1, 2, 5, 6, 7, 8] ?_
 refine Ab ?_
 refine F6 (by kernel_rfl) ?_
 refine Ai ?_
 refine Ab ?_
 refine A3 ?_
 refine Aa [] [1, 2, 4, 5, 6, 7] ?_
 refine Ar ?_
 refine A2 0 [] [1, 2, 5, 6, 7] [] (hk 4 Iu (Jg p.requires (by omega)) <| hk0) v0 c0 ?_
 refine Ar ?_
 refine A2 0 [] [1, 2, 5, 6, 7] [] hk0 v0 (cc 0 (p := (-9223372036854775808 ≤ (2 : Int) ∧ (2 : Int) ≤ 9223372036854775807)) (by omega) <| c0) ?_
 refine Ej ?_
 refine Aa [] [1, 2, 5, 6, 7, 8] ?_
 refine Ab ?_
 refine F6 (by kernel_rfl) ?_
 refine Ai ?_
 refine Ab ?_
 refine A3 ?_
 refine Aa [] [1, 2, 4, 5, 6, 7] ?_
 refine Ar ?_
 refine A2 0 [] [1, 2, 5, 6, 7] [] (hk 4 Iu (Jg p.pre (by omega)) <| hk0) v0 c0 ?_
 refine Ar ?_
 refine A2 0 [] [1, 2, 5, 6, 7] [] hk0 v0 (cc 0 (p := (-9223372036854775808 ≤ (3 : Int) ∧ (3 : Int) ≤ 9223372036854775807)) (by omega) <| c0) ?_
 refine Ej ?_
 refine Aa [] [1, 2, 5, 6, 7, 8] ?_
 refine Ab ?_
 refine F6 (by kernel_rfl) ?_
 refine Ai ?_
 refine Ab ?_
 refine A3 ?_
 refine Aa [] [1, 2, 4, 5, 6, 7] ?_
 refine Ar ?_
 refine A2 0 [] [1, 2, 5, 6, 7] [] (hk 4 Iu (Jg p.conflicts (by omega)) <| hk0) v0 c0 ?_
 refine Ar ?_
 refine A2 0 [] [1, 2, 5, 6, 7] [] hk0 v0 (cc 0 (p := (-9223372036854775808 ≤ (4 : Int) ∧ (4 : Int) ≤ 9223372036854775807)) (by omega) <| c0) ?_
 refine Ej ?_
 refine Aa [] [1, 2, 5, 6, 7, 8] ?_
 refine Ab ?_
 refine F6 (by kernel_rfl) ?_
 refine Ai ?_
 refine Ab ?_
 refine A3 ?_
 refine Aa [] [1, 2, 4, 5, 6, 7] ?_
 refine Ar ?_
 refine A2 0 [] [1, 2, 5, 6, 7] [] (hk 4 Iu (Jg p.obsoletes (by omega)) <| hk0) v0 c0 ?_
 refine Ar ?_
 refine A2 0 [] [1, 2, 5, 6, 7] [] hk0 v0 (cc 0 (p := (-9223372036854775808 ≤ (5 : Int) ∧ (5 : Int) ≤ 9223372036854775807)) (by omega) <| c0) ?_
 refine Ej ?_
 refine Aa [] [1, 2, 5, 6, 7, 8] ?_
 refine Ab ?_
 refine F6 (by kernel_rfl) ?_
 refine Ai ?_
 refine Ab ?_
 refine A3 ?_
 refine Aa [] [1, 2, 4, 5, 6, 7] ?_
 refine Ar ?_
 refine A2 0 [] [1, 2, 5, 6, 7] [] (hk 4 Iu (Jg p.recommends (by omega)) <| hk0) v0 c0 ?_
 refine Ar ?_
 refine A2 0 [] [1, 2, 5, 6, 7] [] hk0 v0 (cc 0 (p := (-9223372036854775808 ≤ (6 : Int) ∧ (6 : Int) ≤ 9223372036854775807)) (by omega) <| c0) ?_
 refine Ej ?_
 refine Aa [] [1, 2, 5, 6, 7, 8] ?_
 refine Ab ?_
 refine F6 (by kernel_rfl) ?_
 refine Ai ?_
 refine Ab ?_
 refine A3 ?_
 refine Aa [] [1, 2, 4, 5, 6, 7] ?_
 refine Ar ?_
 refine A2 0 [] [1, 2, 5, 6, 7] [] (hk 4 Iu (Jg p.supplements (by omega)) <| hk0) v0 c0 ?_
 refine Ar ?_
 refine A2 0 [] [1, 2, 5, 6, 7] [] hk0 v0 (cc 0 (p := (-9223372036854775808 ≤ (7 : Int) ∧ (7 : Int) ≤ 9223372036854775807)) (by omega) <| c0) ?_
 refine Ej ?_
 refine Aa [] [1, 2, 5, 6, 7, 8] ?_
 refine Ab ?_
 refine Db (by kernel_rfl) ?_
 refine Bl ?_
 refine Ae [] [1, 2] [] (hk 2 Q9j (X0c p.files hf) <| hk0) v0 c0 ?_
 refine Aa [] [2] ?_
 refine Ag ?_
 refine RK wR [(Ak p)] ?_
 exact Same.of_eq rfl
end Sv
end Go.Proofs.YtlfjokcbkopfeaaGreatDoor
end
section
namespace Go.Proofs.YtlfjokcbkopfeaaGreatDoor
open Go Go.RowKit
set_option linter.unusedSimpArgs false
set_option linter.unusedVariables false
namespace Sv
theorem Xr {l : List UInt8} {p : Nat → Bool} (hp : ∀ r, 128 ≤ r → p r = true) : ∀ (fuel pos : Nat), l.length ≤ pos + fuel → decide (Lib.idxFuncFrom p true ⟨l.toArray⟩ fuel pos < 0) = (l.drop pos).all (fun b => !p b.toNat)
  | 0, pos, h => by
    rw [List.drop_of_length_le (by omega)]; rfl
  | fuel + 1, pos, h => by
    have hsz : (⟨l.toArray⟩ : ByteArray).size = l.length := Gl l
    by_cases hpos : pos < l.length
    · have hdrop : l.drop pos = Af l pos :: l.drop (pos + 1) := by
        rw [List.drop_eq_getElem_cons hpos, Ix hpos]
      rw [hdrop, List.all_cons]
      simp only [Lib.idxFuncFrom, hsz, hpos, if_true]
      by_cases ha : (Af l pos).toNat < 128
      · rw [Q9x hpos ha]
        simp only
        cases hc : p (Af l pos).toNat with
        | true => simp
        | false =>
          have := Xr (l := l) hp fuel (pos + 1) (by omega)
          simpa using this
      · have hh := Q9w hpos (by omega)
        have h1 := hp _ hh.1
        have h2 := hp (Af l pos).toNat (by omega)
        rw [h1, h2]; simp
    · rw [List.drop_of_length_le (by omega)]
      have : ¬ pos < (⟨l.toArray⟩ : ByteArray).size := by rw [hsz]; exact hpos
      simp [Lib.idxFuncFrom, this]
theorem Q6p {l : List UInt8} {p : Nat → Bool} (hp : ∀ r, 128 ≤ r → p r = true) : decide (Lib.idxFunc p true ⟨l.toArray⟩ < 0) = l.all (fun b => !p b.toNat) := by
  have := Xr (l := l) hp l.length 0 (by omega)
  rw [List.drop_zero] at this
  rw [← this]
  unfold Lib.idxFunc
  rw [show (⟨l.toArray⟩ : ByteArray).size = l.length from Gl l]
theorem X3b (s : List UInt8) (g : Nat) (cap : List AV) (p : Nat → Bool) (he : As Tryz.prog g) (hc : frzl cap = true) (h : ∀ x : Nat, x ≤ 1114111 → FnV Tryz.prog g (.int .i32 x :: cap) (.bool (p x))) :
    FnV Tryz.prog 100 [.str s, .fn g [] cap] (.int .i64 (Lib.idxFunc p true ⟨s.toArray⟩)) := by
  intro F w vs hF hv
  obtain ⟨v, r1, rfl, h1, hv⟩ := hv.cons_inv
  obtain ⟨v2, rfl, h2⟩ := hv.single_inv
  simp only [VR] at h1 h2
  subst h1
  obtain ⟨vf, vc, q1, q2, rfl⟩ := h2
  rw [q1.nil_inv]
  refine (Tryz.strings_IndexFunc_grows g vc.toArray (fun args w => he args w) p ⟨s.toArray⟩ w ?_).mono ?_
  · intro W x hx hb
    have hF' : Fro F W := fun b o e => (hb.block b (E0 (hF b o e))).trans (hF b o e)
    have key : Calls Tryz.prog g (Value.int .i32 x :: vc).toArray W (fun e w' => e = .returned (.bool (p x)) ∧ Below W.heap.size W w') := by
      refine (h x hx F W (.int .i32 x :: vc) hF' (.cons (by simp only [VR]) q2)).mono ?_
      rintro e w' ⟨v, he, hb', F', _, _, _, hr⟩
      simp only [VR] at hr; subst hr
      exact ⟨he, hb'⟩
    have e : (#[Proofs.encR x] ++ vc.toArray) = (Value.int .i32 x :: vc).toArray := by apply Array.ext'; simp [Proofs.encR]
    rw [e]; exact key
  · rintro e w' ⟨he, hb⟩
    exact ⟨_, he, hb, F, fun _ _ e => e, fun b o e => (hb.block b (E0 (hF b o e))).trans (hF b o e), fun _ _ e => .inl e, by simp only [VR]⟩
theorem Ka (s : List UInt8) (c : UInt8) (hl : s.length ≤ 9223372036854775807) : FnV Tryz.prog 106 [.str s, .str [c]] (.bool (A4 s c)) := by
  intro F w vs hF hv
  obtain ⟨v, r1, rfl, h1, hv⟩ := hv.cons_inv
  obtain ⟨v2, rfl, h2⟩ := hv.single_inv
  simp only [VR] at h1 h2
  subst h1 h2
  refine (X3f s c w hl).mono ?_
  rintro e w' ⟨v, he, rfl, rfl⟩
  exact ⟨_, he, Below.refl _ _, F, fun _ _ e => e, hF, fun _ _ e => .inl e, by simp only [VR]⟩
theorem Q5n {l : List UInt8} (h : Bf l = true) : 0 < l.length := by
  cases l with
  | nil => exact absurd h (by decide)
  | cons a r => simp
theorem X03 {α : Type} {l : List α} (p : α → Bool) : (l.any fun x => !p x) = !l.all p := by
  induction l with
  | nil => rfl
  | cons a r ih => simp only [List.any_cons, List.all_cons, ih, Bool.not_and]
end Sv
end Go.Proofs.YtlfjokcbkopfeaaGreatDoor
end
section
namespace Go.Proofs.YtlfjokcbkopfeaaGreatDoor
open Go Go.RowKit
namespace Sv
attribute [local irreducible] SW SO Bg
set_option maxHeartbeats 1000000
set_option maxRecDepth 100000
theorem Tt : ∀ s : List UInt8, Lib.trimLeftB s 32 = Bz s
 | [] => rfl
 | c :: r => by
  have ih := Tt r
  unfold Lib.trimLeftB at ih ⊢
  unfold Bz
  by_cases h : c = 32
  ·simp [h, ih]
  ·simp [h]
theorem X1z (s : List UInt8) : FnV Tryz.prog 136 [.str s, .str [32]] (.str (Bz s)) := by
 rw [← Tt]; exact Sx s 32 (by decide)
theorem Wt (txt wd : List UInt8) (hl : txt.length ≤ 8388608) :
  Dj Tryz.prog 88 [(.ptr 0 0)] [(0, (.row [(.str txt), (.str wd)] 125))] 1 (.tup []) [(0, (.row [(.str ((Cn txt).2)), (.str ((Cn txt).1))] 125))] := by
 have hsl := Ni txt
 refine Fh [] Tryz.func88 rfl Tryz.ntmps88 rfl rfl (by kernel_rfl) (by kernel_rfl) (by kernel_rfl) (fun B F hF => ?_)
 refine Sy 0 rfl (fun g y => ∃ (m : Nat), m = Il (Bz txt) ∧ m ≤ (Bz txt).length ∧ y = ⟨[(0, (.ptr 0 0)), (2, (.int .i64 ((m : Int))))], [(0, (.row [(.str ((Bz txt))), (.str wd)] 125))], 1⟩ ∧ g = 0) [0, 2] 1 (by omega) (fun hJ0 => ?_) ?_
 ·refine Ab ?_
  refine Ar ?_
  refine D4 [] [0, 2, 3] ?_
  refine Ab ?_
  refine Ar ?_
  refine A2 0 [] [0, 2, 3] [] (hk 5 O1 (X1z txt) <| hk0) v0 c0 ?_
  refine Ab ?_
  obtain ⟨b3, hb3⟩ : ∃ b, b = (A4 (Bz txt) 40) := ⟨_, rfl⟩
  refine Ae (CS := [(7, ((!b3) = true → (!b3) = true)), (8, ((!b3) = true → (!b3) = true)), (9, ((!b3) = true → (!b3) = true)), (10, (!b3) = true → (!b3) = true), (11, (b3 = false → (!b3) = true))]) [18, 19, 20, 21] [0, 2, 3, 23] [] (hk 4 Iv (Ka (Bz txt) 40 (by omega)) <| hkg 10 (!b3) Iv (fun cg => Ka (Bz txt) 41 (by omega)) <| hk0) (vk 6 17 (a := .bool (A4 (Bz txt) 40)) (b := .bool b3) (Imp.of_eq (by rw [hb3])) <| v0) (by refine cc _ ?_ <| cc _ ?_ <| cc _ ?_ <| cc _ ?_ <| cc _ ?_ c0 <;> simp) ?_
  refine A9 (q := b3 || (A4 (Bz txt) 41)) (by kernel_rfl) (fun c1 => ?_) (fun c1 => ?_)
  ·subst hb3
   try simp only [Al] at c1
   refine Aa [] [0, 2] ?_
   refine I4 ⟨rfl, _, (by kernel_rfl : gcS _ _ _ = some ⟨[(0, (.ptr 0 0)), (2, (.int .i64 1))], [(0, (.row [(.str ((Bz txt))), (.str wd)] 125))], 1⟩), _, 1, ?_, ?_, (by kernel_rfl), rfl⟩
   ·exact (Wq (by simpa using c1)).1.symm
   ·exact (Wq (by simpa using c1)).2
  ·subst hb3
   try simp only [Al] at c1
   refine Ai ?_
   refine Ab ?_
   refine A3 ?_
   refine Bs (fun g y => ∃ (j o : Nat), j ≤ (Bz txt).length ∧ o ≤ j ∧ Dc (Bz txt) 0 = j + Dc ((Bz txt).drop j) o ∧ y = ⟨[(0, (.ptr 0 0)), (2, (.int .i64 ((j : Int)))), (3, (.int .i64 ((o : Int))))], [(0, (.row [(.str ((Bz txt))), (.str wd)] 125))], 1⟩ ∧ g = (Bz txt).length - j) [0, 2, 3] 1 _ (by omega) ⟨0, 0, (by omega), (by omega), (by simp), (by kernel_rfl), rfl⟩ ?_
   rintro g1 y1 ⟨j, o, f1_1, f1_2, f1_3, rfl, rfl⟩
   refine Ab ?_
   obtain ⟨b4, hb4⟩ : ∃ b, b = (decide ((j : Int) < ((Bz txt).length : Int))) := ⟨_, rfl⟩
   refine Ae (CS := [(9, (b4 = true → b4 = true)), (10, (b4 = true → b4 = true)), (11, (b4 = true → b4 = true)), (13, (b4 = true → (b4 = true ∧ b4 = true) ∧ (0 ≤ (j : Int) ∧ j < (Bz txt).length))), (14, (b4 = true → b4 = true)), (15, (b4 = true → b4 = true))]) [32, 33, 34, 35, 36, 37, 38] [0, 2, 3, 39] [] hk0 (vk 8 31 (a := .bool (decide ((j : Int) < ((Bz txt).length : Int)))) (b := .bool b4) (Imp.of_eq (by rw [hb4])) <| v0) (by refine cc _ ?_ <| cc _ ?_ <| cc _ ?_ <| cc _ ?_ <| cc _ ?_ <| cc _ ?_ c0 <;> (intros; simp_all; done)) ?_
   refine A9 (q := b4 && (!decide (((Af (Bz txt) j).toNat : Int) = 32))) (by kernel_rfl) (fun c2 => ?_) (fun c2 => ?_)
   ·subst hb4
    try simp only [Al] at c2
    refine Ai ?_
    refine Ab ?_
    refine A3 ?_
    refine Ae [] [0, 2, 3, 47] [] hk0 v0 (cc 5 (p := (0 ≤ (j : Int) ∧ j < (Bz txt).length)) (by omega) <| c0) ?_
    refine A3 ?_
    refine Aa [] [0, 2, 3, 47, 48] ?_
    refine A8 (p := ((Af (Bz txt) j).toNat : Int) = 40) (by kernel_rfl) (fun c3 => ?_) (fun c3 => ?_)
    ·refine Ar ?_
     refine A2 0 [] [0, 2, 3] [] hk0 v0 (cc 1 (p := (-9223372036854775808 ≤ (o : Int) + 1 ∧ (o : Int) + 1 ≤ 9223372036854775807)) (by omega) <| c0) ?_
     refine Ar ?_
     refine A2 0 [] [0, 2, 3] [] hk0 v0 (cc 1 (p := (-9223372036854775808 ≤ (j : Int) + 1 ∧ (j : Int) + 1 ≤ 9223372036854775807)) (by omega) <| c0) ?_
     refine ⟨by kernel_rfl, _, ?_, (j + 1), (o + 1), ?_, ?_, ?_, (by kernel_rfl), rfl⟩
     ·omega
     ·omega
     ·omega
     ·rw [f1_3, Q2z ⟨by omega, c2.2⟩ c3]; omega
    ·refine Aa [] [0, 2, 3, 52] ?_
     refine A8 (p := ((Af (Bz txt) j).toNat : Int) = 41) (by kernel_rfl) (fun c4 => ?_) (fun c4 => ?_)
     ·refine Ab ?_
      refine Aa [] [0, 2, 3, 55] ?_
      refine A8 (p := (o : Int) = 0) (by kernel_rfl) (fun c5 => ?_) (fun c5 => ?_)
      ·refine I4 ⟨rfl, _, (by kernel_rfl : gcS _ _ _ = some ⟨[(0, (.ptr 0 0)), (2, (.int .i64 ((j : Int))))], [(0, (.row [(.str ((Bz txt))), (.str wd)] 125))], 1⟩), _, j, ?_, ?_, (by kernel_rfl), rfl⟩
       ·rw [Wp (by simpa using c1), f1_3, Q2y ⟨by omega, c2.2⟩ ⟨c4, by omega⟩]; omega
       ·omega
      ·refine Ai ?_
       refine Ar ?_
       refine A2 0 [] [0, 2, 3] [] hk0 v0 (cc 1 (p := (-9223372036854775808 ≤ (o : Int) - 1 ∧ (o : Int) - 1 ≤ 9223372036854775807)) (by omega) <| c0) ?_
       refine Ar ?_
       refine A2 0 [] [0, 2, 3] [] hk0 v0 (cc 1 (p := (-9223372036854775808 ≤ (j : Int) + 1 ∧ (j : Int) + 1 ≤ 9223372036854775807)) (by omega) <| c0) ?_
       refine ⟨by kernel_rfl, _, ?_, (j + 1), (o - 1), ?_, ?_, ?_, (Eq.trans (b := (⟨[(0, (.ptr 0 0)), (2, (.int .i64 ((j : Int) + 1))), (3, (.int .i64 ((o : Int) - 1)))], [(0, (.row [(.str ((Bz txt))), (.str wd)] 125))], 1⟩ : St)) (by kernel_rfl) (by rw [show (o : Int) - 1 = ((o - 1 : Nat) : Int) from by omega]; rfl)), rfl⟩
       ·omega
       ·omega
       ·omega
       ·rw [f1_3, Q22 ⟨by omega, c2.2⟩ c4 (by omega)]; omega
     ·refine Ai ?_
      refine Ar ?_
      refine A2 0 [] [0, 2, 3] [] hk0 v0 (cc 1 (p := (-9223372036854775808 ≤ (j : Int) + 1 ∧ (j : Int) + 1 ≤ 9223372036854775807)) (by omega) <| c0) ?_
      refine ⟨by kernel_rfl, _, ?_, (j + 1), o, ?_, ?_, ?_, (by kernel_rfl), rfl⟩
      ·omega
      ·omega
      ·omega
      ·rw [f1_3, Q21 ⟨by omega, c2.2⟩ c3 c4]; omega
   ·subst hb4
    try simp only [Al] at c2
    refine Bl ?_
    refine Ab ?_
    refine Sz ?_
    refine M5 (y := ⟨[(0, (.ptr 0 0)), (2, (.int .i64 ((j : Int))))], [(0, (.row [(.str ((Bz txt))), (.str wd)] 125))], 1⟩) [0, 2] 1 (by omega) (by kernel_rfl) (hJ0 _ _ ⟨j, (by rw [Wp (by simpa using c1), f1_3, Q20 (by omega)]; rfl), (by omega), (by kernel_rfl), rfl⟩)
 ·rintro g y ⟨m, fl0_1, fl0_2, rfl, rfl⟩
  refine G1 (CS := [(7, (0 ≤ (0 : Int) ∧ (0 : Int) ≤ (m : Int) ∧ (m : Int) ≤ ((Bz txt).length : Int))), (13, (0 ≤ (m : Int) ∧ (m : Int) ≤ ((Bz txt).length : Int) ∧ ((Bz txt).length : Int) ≤ ((Bz txt).length : Int)))]) [] [] [] hk0 v0 (by refine cc _ ?_ <| cc _ ?_ c0 <;> omega) ?_
  refine Dd (.inr rfl) (al := []) (by kernel_rfl) ?_ ((by kernel_rfl : Cq 1 _ = some [(0, (.row [(.str (((Bz txt).take ((Bz txt).length)).drop m)), (.str (((Bz txt).take m).drop 0))] 125))]).trans ?_)
  ·rfl
  ·rw [Wu, ← fl0_1, List.take_length, List.drop_zero]
theorem Q2c (txt wd : List UInt8) (hl : txt.length ≤ 8388608) :
  Dj Tryz.prog 137 [(.ptr 0 0)] [(0, (.row [(.str txt), (.str wd)] 125))] 1 (.str wd) [(0, (.row [(.str ((Cn txt).2)), (.str ((Cn txt).1))] 125))] := by
 refine Fh [.tmp 2] Tryz.func137 rfl Tryz.ntmps137 rfl rfl (by kernel_rfl) (by kernel_rfl) (by kernel_rfl) (fun B F hF => ?_)
 refine Aa [] [0] ?_
 refine Aa [] [0, 3] ?_
 refine Ab ?_
 refine Ar ?_
 refine Bj 1 0 [] [3, 8] [] hk0 v0 c0 ?_
 refine C3 [0] (al := [(.ptr 0 0)]) (al' := [(.ptr 0 0)]) (r := (.tup [])) (r' := (.tup [])) (s' := [(3, (.str wd)), (8, (.ptr 0 0)), (9, (.tup []))]) (H := [(0, (.row [(.str txt), (.str wd)] 125))]) (H' := [(0, (.row [(.str ((Cn txt).2)), (.str ((Cn txt).1))] 125))]) (h2 := [(0, (.row [(.str ((Cn txt).2)), (.str ((Cn txt).1))] 125))]) (by kernel_rfl) (by exact Mm) (by kernel_rfl) (by kernel_rfl) (by kernel_rfl) (by kernel_rfl) (by kernel_rfl) (Wt txt wd hl) (by kernel_rfl) (by kernel_rfl) (by kernel_rfl) ?_
 refine Be ?_
 refine Aa [] [2] ?_
 refine Ag ?_
 refine Dd (.inl rfl) (al := [(.str wd)]) (by kernel_rfl) ?_ ((by kernel_rfl : Cq 1 _ = some [(0, (.row [(.str ((Cn txt).2)), (.str ((Cn txt).1))] 125))]).trans ?_)
 ·rfl
 ·rfl
theorem Q5h  :
  FnV Tryz.prog 90 [(.bool true)] (.tup []) := by
 refine Ba [] Tryz.func90 rfl Tryz.ntmps90 rfl rfl (fun B F hF => ?_)
 refine Aa [] [3] ?_
 refine Db (by kernel_rfl) ?_
 refine Ai ?_
 refine RK wN [] ?_
 exact Same.of_eq (by first | rfl | (simp only [Aj]; simp_all))
end Sv
end Go.Proofs.YtlfjokcbkopfeaaGreatDoor
end
section
namespace Go.Proofs.YtlfjokcbkopfeaaGreatDoor
open Go Go.RowKit
namespace Sv
attribute [local irreducible] SW SO Bg
set_option maxHeartbeats 400000
set_option maxRecDepth 100000
theorem Ir : As Tryz.prog 90 := Ax Tryz.func90 (by kernel_rfl) rfl
theorem Jv : As Tryz.prog 89 := Ax Tryz.func89 (by kernel_rfl) rfl
theorem Oa {t w t1 w1 : List UInt8} (hl : t.length ≤ 8388608) (h : Cn t = (w1, t1)) : Dj Tryz.prog 88 [.ptr 0 0] [(0, .row [.str t, .str w] 125)] 1 (.tup []) [(0, .row [.str t1, .str w1] 125)] := by have := Wt t w hl; rw [h] at this; exact this
theorem Lt {t w t1 w1 : List UInt8} (hl : t.length ≤ 8388608) (h : Cn t = (w1, t1)) : Dj Tryz.prog 137 [.ptr 0 0] [(0, .row [.str t, .str w] 125)] 1 (.str w) [(0, .row [.str t1, .str w1] 125)] := by have := Q2c t w hl; rw [h] at this; exact this
theorem Jj (b : Bool) (h : b = true) : FnV Tryz.prog 90 [.bool b] (.tup []) := by rw [h]; exact Q5h
theorem Qs {w t w1 t1 : List UInt8} (hl0 : t.length ≤ 8388608) (hw : w.length ≤ 9223372036854775807) (h0 : Cn t = (w1, t1)) (hp : ¬ w = [40]) (hn : Bf w = true) (hs : ¬ 0 < Bo signsL w1 0) :
  Dj Tryz.prog 89 [(.ptr 0 0)] [(0, (.row [(.str t), (.str w)] 125))] 1 (.agg [(.int .i64 1), (.str w), (.int .i64 0), (.str []), .nils]) [(0, (.row [(.str t1), (.str w1)] 125))] := by
 refine Fh [.cell 2 25] Tryz.func89 rfl Tryz.ntmps89 rfl rfl (by kernel_rfl) (by kernel_rfl) (by kernel_rfl) (fun B F hF => ?_)
 refine Aa [] [0, 2] ?_
 refine Ab ?_
 refine Ar ?_
 refine Bj 1 0 [] [0, 2, 8] [] hk0 v0 c0 ?_
 refine C3 [0] (al := [(.ptr 0 0)]) (al' := [(.ptr 0 0)]) (r := (.str w)) (r' := (.str w)) (s' := [(0, (.ptr 0 0)), (2, (.ptr 1 0)), (8, (.ptr 0 0)), (9, (.str w))]) (H := [(0, (.row [(.str t), (.str w)] 125))]) (H' := [(0, (.row [(.str t1), (.str w1)] 125))]) (h2 := [(0, (.row [(.str t1), (.str w1)] 125)), (1, (.row [(.int .i64 0), (.str []), (.int .i64 0), (.str []), .nils] 25))]) (by kernel_rfl) (by exact Mp) (by kernel_rfl) (by kernel_rfl) (by kernel_rfl) (by kernel_rfl) (by kernel_rfl) (Lt hl0 h0) (by kernel_rfl) (by kernel_rfl) (by kernel_rfl) ?_
 refine A2 2 [] [0, 2, 3] [] hk0 v0 c0 ?_
 refine Ab ?_
 refine Aa [] [0, 2, 3, 11] ?_
 refine Cj (p := w = [40]) (by kernel_rfl) (fun c1 => ?_) (fun c1 => ?_)
 ·refine Ae [] [0, 2, 3] [] (hk 1 Jx (Ln w hw) <| hk 2 Ir (Jj (Bf w) hn) <| hk0) v0 c0 ?_
  refine Aa [] [0, 2, 4] ?_
  refine Ab ?_
  refine Cg [] [0, 2, 4, 5] [] (hk 0 Ru P9 <| hk 5 O0 ((Oi signsL w1 (by decide))) <| hk0) v0 c0 ?_
  refine Aa [] [0, 2, 4, 5, 24] ?_
  refine A8 (p := 0 < (Bo signsL w1 0)) (by kernel_rfl) (fun c2 => ?_) (fun c2 => ?_)
  ·exact absurd (by simpa using c2) hs
  ·refine Ai ?_
   refine Aa [] [2] ?_
   refine Ag ?_
   refine Dd (.inl rfl) (al := [(.agg [(.int .i64 1), (.str w), (.int .i64 0), (.str []), .nils])]) (by kernel_rfl) ?_ ((by kernel_rfl : Cq 1 _ = some [(0, (.row [(.str t1), (.str w1)] 125))]).trans ?_)
   ·rfl
   ·rfl
 ·exact absurd (by simpa using c1) hp
theorem Wd {w t w1 t1 w2 t2 w3 t3 : List UInt8} (hl0 : t.length ≤ 8388608) (hl1 : t1.length ≤ 8388608) (hl2 : t2.length ≤ 8388608) (hw : w.length ≤ 9223372036854775807) (h0 : Cn t = (w1, t1)) (h1 : Cn t1 = (w2, t2)) (h2 : Cn t2 = (w3, t3)) (hp : ¬ w = [40]) (hn : Bf w = true) (hs : 0 < Bo signsL w1 0) :
  Dj Tryz.prog 89 [(.ptr 0 0)] [(0, (.row [(.str t), (.str w)] 125))] 1 (.agg [(.int .i64 1), (.str w), (.int .i64 (Bo signsL w1 0)), (.str w2), .nils]) [(0, (.row [(.str t3), (.str w3)] 125))] := by
 refine Fh [.cell 2 25] Tryz.func89 rfl Tryz.ntmps89 rfl rfl (by kernel_rfl) (by kernel_rfl) (by kernel_rfl) (fun B F hF => ?_)
 refine Aa [] [0, 2] ?_
 refine Ab ?_
 refine Ar ?_
 refine Bj 1 0 [] [0, 2, 8] [] hk0 v0 c0 ?_
 refine C3 [0] (al := [(.ptr 0 0)]) (al' := [(.ptr 0 0)]) (r := (.str w)) (r' := (.str w)) (s' := [(0, (.ptr 0 0)), (2, (.ptr 1 0)), (8, (.ptr 0 0)), (9, (.str w))]) (H := [(0, (.row [(.str t), (.str w)] 125))]) (H' := [(0, (.row [(.str t1), (.str w1)] 125))]) (h2 := [(0, (.row [(.str t1), (.str w1)] 125)), (1, (.row [(.int .i64 0), (.str []), (.int .i64 0), (.str []), .nils] 25))]) (by kernel_rfl) (by exact Mp) (by kernel_rfl) (by kernel_rfl) (by kernel_rfl) (by kernel_rfl) (by kernel_rfl) (Lt hl0 h0) (by kernel_rfl) (by kernel_rfl) (by kernel_rfl) ?_
 refine A2 2 [] [0, 2, 3] [] hk0 v0 c0 ?_
 refine Ab ?_
 refine Aa [] [0, 2, 3, 11] ?_
 refine Cj (p := w = [40]) (by kernel_rfl) (fun c1 => ?_) (fun c1 => ?_)
 ·refine Ae [] [0, 2, 3] [] (hk 1 Jx (Ln w hw) <| hk 2 Ir (Jj (Bf w) hn) <| hk0) v0 c0 ?_
  refine Aa [] [0, 2, 4] ?_
  refine Ab ?_
  refine Cg [] [0, 2, 4, 5] [] (hk 0 Ru P9 <| hk 5 O0 ((Oi signsL w1 (by decide))) <| hk0) v0 c0 ?_
  refine Aa [] [0, 2, 4, 5, 24] ?_
  refine A8 (p := 0 < (Bo signsL w1 0)) (by kernel_rfl) (fun c2 => ?_) (fun c2 => ?_)
  ·refine Ab ?_
   refine Ar ?_
   refine Bj 1 0 [] [0, 2, 4, 5, 25] [] hk0 v0 c0 ?_
   refine C3 [0] (al := [(.ptr 0 0)]) (al' := [(.ptr 0 0)]) (r := (.tup [])) (r' := (.tup [])) (s' := [(0, (.ptr 0 0)), (2, (.ptr 1 0)), (4, (.ptr 2 0)), (5, (.int .i64 (Bo signsL w1 0))), (25, (.ptr 0 0)), (26, (.tup []))]) (H := [(0, (.row [(.str t1), (.str w1)] 125))]) (H' := [(0, (.row [(.str t2), (.str w2)] 125))]) (h2 := [(0, (.row [(.str t2), (.str w2)] 125)), (1, (.row [(.int .i64 0), (.str []), (.int .i64 0), (.str []), .nils] 25)), (2, (.row [(.int .i64 1), (.str w), (.int .i64 0), (.str []), .nils] 25))]) (by kernel_rfl) (by exact Mm) (by kernel_rfl) (by kernel_rfl) (by kernel_rfl) (by kernel_rfl) (by kernel_rfl) (Oa hl1 h1) (by kernel_rfl) (by kernel_rfl) (by kernel_rfl) ?_
   refine Be ?_
   refine Ar ?_
   refine Bj 2 0 [] [2, 4, 27, 28] [] hk0 v0 c0 ?_
   refine C3 [0] (al := [(.ptr 0 0)]) (al' := [(.ptr 0 0)]) (r := (.str w2)) (r' := (.str w2)) (s' := [(2, (.ptr 1 0)), (4, (.ptr 2 0)), (27, (.int .i64 (Bo signsL w1 0))), (28, (.ptr 0 0)), (29, (.str w2))]) (H := [(0, (.row [(.str t2), (.str w2)] 125))]) (H' := [(0, (.row [(.str t3), (.str w3)] 125))]) (h2 := [(0, (.row [(.str t3), (.str w3)] 125)), (1, (.row [(.int .i64 0), (.str []), (.int .i64 0), (.str []), .nils] 25)), (2, (.row [(.int .i64 1), (.str w), (.int .i64 0), (.str []), .nils] 25))]) (by kernel_rfl) (by exact Mp) (by kernel_rfl) (by kernel_rfl) (by kernel_rfl) (by kernel_rfl) (by kernel_rfl) (Lt hl2 h2) (by kernel_rfl) (by kernel_rfl) (by kernel_rfl) ?_
   refine A2 3 [] [2, 4] [] hk0 v0 c0 ?_
   refine Aa [] [2] ?_
   refine Ag ?_
   refine Dd (.inl rfl) (al := [(.agg [(.int .i64 1), (.str w), (.int .i64 (Bo signsL w1 0)), (.str w2), .nils])]) (by kernel_rfl) ?_ ((by kernel_rfl : Cq 1 _ = some [(0, (.row [(.str t3), (.str w3)] 125))]).trans ?_)
   ·rfl
   ·rfl
  ·exact absurd hs (by simpa using c2)
 ·exact absurd (by simpa using c1) hp
theorem Q40  :
  Dj Tryz.prog 89 [(.ptr 0 0)] [(0, (.row [(.str ([98, 32, 105, 102, 32, 108, 105, 98, 32, 62, 32, 49, 32, 101, 108, 115, 101, 32, 97, 41])), (.str ([40]))] 125))] 1 (.agg [(.int .i64 4), (.str []), (.int .i64 0), (.str []), (.row 5 3 (fun i => ([.agg [.int .i64 1, .str [98], .int .i64 0, .str [], .nils], .agg [.int .i64 1, .str [108, 105, 98], .int .i64 4, .str [49], .nils], .agg [.int .i64 1, .str [97], .int .i64 0, .str [], .nils]] : List AV).getD i Bh))]) [(0, (.row [(.str []), (.str [])] 125))] := by
 refine Fh [.cell 2 25] Tryz.func89 rfl Tryz.ntmps89 rfl rfl (by kernel_rfl) (by kernel_rfl) (by kernel_rfl) (fun B F hF => ?_)
 refine Aa [] [0, 2] ?_
 refine Ab ?_
 refine Ar ?_
 refine Bj 1 0 [] [0, 2, 8] [] hk0 v0 c0 ?_
 refine C3 [0] (al := [(.ptr 0 0)]) (al' := [(.ptr 0 0)]) (r := (.str ([40]))) (r' := (.str ([40]))) (s' := [(0, (.ptr 0 0)), (2, (.ptr 1 0)), (8, (.ptr 0 0)), (9, (.str ([40])))]) (H := [(0, (.row [(.str ([98, 32, 105, 102, 32, 108, 105, 98, 32, 62, 32, 49, 32, 101, 108, 115, 101, 32, 97, 41])), (.str ([40]))] 125))]) (H' := [(0, (.row [(.str ([32, 105, 102, 32, 108, 105, 98, 32, 62, 32, 49, 32, 101, 108, 115, 101, 32, 97, 41])), (.str ([98]))] 125))]) (h2 := [(0, (.row [(.str ([32, 105, 102, 32, 108, 105, 98, 32, 62, 32, 49, 32, 101, 108, 115, 101, 32, 97, 41])), (.str ([98]))] 125)), (1, (.row [(.int .i64 0), (.str []), (.int .i64 0), (.str []), .nils] 25))]) (by kernel_rfl) (by exact Mp) (by kernel_rfl) (by kernel_rfl) (by kernel_rfl) (by kernel_rfl) (by kernel_rfl) (Lt (by decide) (by decide)) (by kernel_rfl) (by kernel_rfl) (by kernel_rfl) ?_
 refine A2 2 [] [0, 2, 3] [] hk0 v0 c0 ?_
 refine Ab ?_
 refine Aa [] [0, 2, 3, 11] ?_
 refine Db (by kernel_rfl) ?_
 refine Ai ?_
 refine Ab ?_
 refine Ar ?_
 refine Bj 1 0 [] [0, 2, 33] [] hk0 v0 c0 ?_
 refine C3 [0] (al := [(.ptr 0 0)]) (al' := [(.ptr 0 0)]) (r := (.agg [(.int .i64 1), (.str ([98])), (.int .i64 0), (.str []), .nils])) (r' := (.agg [(.int .i64 1), (.str ([98])), (.int .i64 0), (.str []), .nils])) (s' := [(0, (.ptr 0 0)), (2, (.ptr 1 0)), (33, (.ptr 0 0)), (34, (.agg [(.int .i64 1), (.str ([98])), (.int .i64 0), (.str []), .nils]))]) (H := [(0, (.row [(.str ([32, 105, 102, 32, 108, 105, 98, 32, 62, 32, 49, 32, 101, 108, 115, 101, 32, 97, 41])), (.str ([98]))] 125))]) (H' := [(0, (.row [(.str ([32, 108, 105, 98, 32, 62, 32, 49, 32, 101, 108, 115, 101, 32, 97, 41])), (.str ([105, 102]))] 125))]) (h2 := [(0, (.row [(.str ([32, 108, 105, 98, 32, 62, 32, 49, 32, 101, 108, 115, 101, 32, 97, 41])), (.str ([105, 102]))] 125)), (1, (.row [(.int .i64 0), (.str []), (.int .i64 0), (.str []), .nils] 25))]) (by kernel_rfl) (by exact Jv) (by kernel_rfl) (by kernel_rfl) (by kernel_rfl) (by kernel_rfl) (by kernel_rfl) (Qs (w := [98]) (t := [32, 105, 102, 32, 108, 105, 98, 32, 62, 32, 49, 32, 101, 108, 115, 101, 32, 97, 41]) (t1 := [32, 108, 105, 98, 32, 62, 32, 49, 32, 101, 108, 115, 101, 32, 97, 41]) (w1 := [105, 102]) (by decide) (by decide) (by decide) (by decide) (by decide) (by decide)) (by kernel_rfl) (by kernel_rfl) (by kernel_rfl) ?_
 refine A2 2 [] [0, 2, 6] [] hk0 v0 c0 ?_
 refine Aa [] [0, 2, 6, 7] ?_
 refine Ae [] [0, 2, 6, 7] [] (hk 2 Ir (Jj true (by decide)) <| hk0) v0 c0 ?_
 refine Ae [] [0, 2, 6, 7] [] (hk 0 Yl Tg <| hk 2 O0 ((Oi Dk [105, 102] (by decide))) <| hk0) v0 c0 ?_
 refine Ae [] [0, 2, 6, 7] [] (hk 3 Ir (Jj (decide (0 < (Bo Dk [105, 102] 0))) (by decide)) <| hk0) v0 c0 ?_
 refine Ab ?_
 refine A3 ?_
 refine M4 2 ?_
 refine Ej ?_
 refine Ab ?_
 refine Aa [] [0, 2, 6, 7, 57] ?_
 refine F6 (by kernel_rfl) ?_
 refine Ai ?_
 refine A3 ?_
 refine Ae [] [0, 2, 6, 7] [] (hk 12 Ir (Jj true (by decide)) <| hk0) v0 c0 ?_
 refine Ab ?_
 refine Ar ?_
 refine Bj 1 0 [] [0, 2, 6, 7, 71] [] hk0 v0 c0 ?_
 refine C3 [0] (al := [(.ptr 0 0)]) (al' := [(.ptr 0 0)]) (r := (.tup [])) (r' := (.tup [])) (s' := [(0, (.ptr 0 0)), (2, (.ptr 1 0)), (6, (.ptr 3 0)), (7, (.str ([105, 102]))), (71, (.ptr 0 0)), (72, (.tup []))]) (H := [(0, (.row [(.str ([32, 108, 105, 98, 32, 62, 32, 49, 32, 101, 108, 115, 101, 32, 97, 41])), (.str ([105, 102]))] 125))]) (H' := [(0, (.row [(.str ([32, 62, 32, 49, 32, 101, 108, 115, 101, 32, 97, 41])), (.str ([108, 105, 98]))] 125))]) (h2 := [(0, (.row [(.str ([32, 62, 32, 49, 32, 101, 108, 115, 101, 32, 97, 41])), (.str ([108, 105, 98]))] 125)), (1, (.row [(.int .i64 0), (.str []), (.int .i64 0), (.str []), .nils] 25)), (2, (.row [(.int .i64 1), (.str ([98])), (.int .i64 0), (.str []), .nils] 25)), (3, (.row [(.int .i64 (Bo Dk [105, 102] 0)), (.str []), (.int .i64 0), (.str []), (.sl 2 0 1 1 false)] 25))]) (by kernel_rfl) (by exact Mm) (by kernel_rfl) (by kernel_rfl) (by kernel_rfl) (by kernel_rfl) (by kernel_rfl) (Oa (by decide) (by decide)) (by kernel_rfl) (by kernel_rfl) (by kernel_rfl) ?_
 refine Be ?_
 refine Hr (by kernel_rfl) (fun F1 hF1 => ?_)
 refine Bn false 3 (lsD 8 [0, 1, 2, 3, 4]) ⟨[(0, (.ptr 0 0)), (2, (.ptr 1 0)), (6, (.ptr 3 0)), (7, (.str ([105, 102]))), (74, (.sl 2 0 1 1 false)), (77, (.sl 4 0 1 1 false))], [(0, (.row [(.str ([32, 97, 41])), (.str ([101, 108, 115, 101]))] 125)), (1, (.row [(.int .i64 0), (.str []), (.int .i64 0), (.str []), .nils] 25)), (2, (.row [(.int .i64 1), (.str ([98])), (.int .i64 0), (.str []), .nils] 25)), (3, (.row [(.int .i64 (Bo Dk [105, 102] 0)), (.str []), (.int .i64 0), (.str []), (.sl 2 0 1 1 false)] 25)), (4, (.row [(.int .i64 1), (.str ([108, 105, 98])), (.int .i64 (Bo signsL [62] 0)), (.str ([49])), .nils] 25))], 5⟩ ?_ (fun m1_1 => ?_)
 ·refine Cs (fuel := 2) 5 [] (hold (p := ((([(.agg [(.int .i64 1), (.str ([98])), (.int .i64 0), (.str []), .nils])] : List AV).length + 1) * 72 ≤ 140737488355328)) (by simp)) ?_
  refine Cp (fuel := 1) [] [6] [0, 2, 6, 7, 78, 79] Aw ?_
  refine Cs (fuel := 0) 7 [] Aw ?_
  refine An [0, 2, 6, 7] ?_
  refine Gn (by kernel_rfl) ?_
  refine Ej ?_
  refine Ab ?_
  refine Aa [] [0, 2, 6, 7, 57] ?_
  refine Db (by kernel_rfl) ?_
  refine Bl ?_
  refine Ab ?_
  refine Aa [] [0, 2, 6, 88] ?_
  refine F6 (by kernel_rfl) ?_
  refine Ab ?_
  refine Ar ?_
  refine Bj 1 0 [] [0, 2, 6, 89] [] hk0 v0 c0 ?_
  refine C3 [0] (al := [(.ptr 0 0)]) (al' := [(.ptr 0 0)]) (r := (.tup [])) (r' := (.tup [])) (s' := [(0, (.ptr 0 0)), (2, (.ptr 1 0)), (6, (.ptr 3 0)), (89, (.ptr 0 0)), (90, (.tup []))]) (H := [(0, (.row [(.str ([32, 97, 41])), (.str ([101, 108, 115, 101]))] 125))]) (H' := [(0, (.row [(.str ([41])), (.str ([97]))] 125))]) (h2 := [(0, (.row [(.str ([41])), (.str ([97]))] 125)), (1, (.row [(.int .i64 0), (.str []), (.int .i64 0), (.str []), .nils] 25)), (3, (.row [(.int .i64 (Bo Dk [105, 102] 0)), (.str []), (.int .i64 0), (.str []), (.own 5)] 25)), (4, (.row [(.int .i64 1), (.str ([108, 105, 98])), (.int .i64 (Bo signsL [62] 0)), (.str ([49])), .nils] 25)), (5, (.grow (([(.agg [(.int .i64 1), (.str ([98])), (.int .i64 0), (.str []), .nils])] : List AV) ++ ([(.agg [(.int .i64 1), (.str ([108, 105, 98])), (.int .i64 (Bo signsL [62] 0)), (.str ([49])), .nils])] : List AV)) 25 5))]) (by kernel_rfl) (by exact Mm) (by kernel_rfl) (by kernel_rfl) (by kernel_rfl) (by kernel_rfl) (by kernel_rfl) (Oa (by decide) (by decide)) (by kernel_rfl) (by kernel_rfl) (by kernel_rfl) ?_
  refine Be ?_
  refine Hr (by kernel_rfl) (fun F2 hF2 => ?_)
  refine Bn false 3 (lsD 8 [0, 1, 2, 3, 4]) ⟨[(0, (.ptr 0 0)), (2, (.ptr 1 0)), (6, (.ptr 3 0)), (92, (.own 5)), (95, (.sl 6 0 1 1 false))], [(0, (.row [(.str []), (.str ([41]))] 125)), (1, (.row [(.int .i64 0), (.str []), (.int .i64 0), (.str []), .nils] 25)), (3, (.row [(.int .i64 (Bo Dk [105, 102] 0)), (.str []), (.int .i64 0), (.str []), (.own 5)] 25)), (4, (.row [(.int .i64 1), (.str ([108, 105, 98])), (.int .i64 (Bo signsL [62] 0)), (.str ([49])), .nils] 25)), (5, (.grow (([(.agg [(.int .i64 1), (.str ([98])), (.int .i64 0), (.str []), .nils])] : List AV) ++ ([(.agg [(.int .i64 1), (.str ([108, 105, 98])), (.int .i64 (Bo signsL [62] 0)), (.str ([49])), .nils])] : List AV)) 25 5)), (6, (.row [(.int .i64 1), (.str ([97])), (.int .i64 0), (.str []), .nils] 25))], 7⟩ ?_ (fun m2_1 => ?_)
  ·refine Cs (fuel := 2) 5 [] (hold (p := (((([(.agg [(.int .i64 1), (.str ([98])), (.int .i64 0), (.str []), .nils])] : List AV) ++ ([(.agg [(.int .i64 1), (.str ([108, 105, 98])), (.int .i64 (Bo signsL [62] 0)), (.str ([49])), .nils])] : List AV)).length + 1) * 72 ≤ 140737488355328)) (by simp)) ?_
   refine Cp (fuel := 1) [] [6] [0, 2, 6, 96, 97] Aw ?_
   refine Cs (fuel := 0) 7 [] Aw ?_
   refine An [0, 2, 6] ?_
   refine Gn (by kernel_rfl) ?_
   refine Ab ?_
   refine Ar ?_
   refine Bj 1 0 [] [2, 6, 98] [] hk0 v0 c0 ?_
   refine C3 [0] (al := [(.ptr 0 0)]) (al' := [(.ptr 0 0)]) (r := (.str ([41]))) (r' := (.str ([41]))) (s' := [(2, (.ptr 1 0)), (6, (.ptr 3 0)), (98, (.ptr 0 0)), (99, (.str ([41])))]) (H := [(0, (.row [(.str []), (.str ([41]))] 125))]) (H' := [(0, (.row [(.str []), (.str [])] 125))]) (h2 := [(0, (.row [(.str []), (.str [])] 125)), (1, (.row [(.int .i64 0), (.str []), (.int .i64 0), (.str []), .nils] 25)), (3, (.row [(.int .i64 (Bo Dk [105, 102] 0)), (.str []), (.int .i64 0), (.str []), (.own 5)] 25)), (4, (.row [(.int .i64 1), (.str ([108, 105, 98])), (.int .i64 (Bo signsL [62] 0)), (.str ([49])), .nils] 25)), (5, (.grow ((([(.agg [(.int .i64 1), (.str ([98])), (.int .i64 0), (.str []), .nils])] : List AV) ++ ([(.agg [(.int .i64 1), (.str ([108, 105, 98])), (.int .i64 (Bo signsL [62] 0)), (.str ([49])), .nils])] : List AV)) ++ ([(.agg [(.int .i64 1), (.str ([97])), (.int .i64 0), (.str []), .nils])] : List AV)) 25 5)), (6, (.row [(.int .i64 1), (.str ([97])), (.int .i64 0), (.str []), .nils] 25))]) (by kernel_rfl) (by exact Mp) (by kernel_rfl) (by kernel_rfl) (by kernel_rfl) (by kernel_rfl) (by kernel_rfl) (Lt (by decide) (by decide)) (by kernel_rfl) (by kernel_rfl) (by kernel_rfl) ?_
   refine A2 2 [] [2, 6] [] (hk 3 Ir (Jj true (by decide)) <| hk0) v0 c0 ?_
   refine Ab ?_
   refine Ar ?_
   refine Gm 3 4 (y := ⟨[(2, (.ptr 1 0)), (6, (.ptr 3 0))], [(0, (.row [(.str []), (.str [])] 125)), (1, (.row [(.int .i64 0), (.str []), (.int .i64 0), (.str []), .nils] 25)), (3, (.row [(.int .i64 (Bo Dk [105, 102] 0)), (.str []), (.int .i64 0), (.str []), (.row 5 ((([(.agg [(.int .i64 1), (.str ([98])), (.int .i64 0), (.str []), .nils])] : List AV) ++ ([(.agg [(.int .i64 1), (.str ([108, 105, 98])), (.int .i64 (Bo signsL [62] 0)), (.str ([49])), .nils])] : List AV)) ++ ([(.agg [(.int .i64 1), (.str ([97])), (.int .i64 0), (.str []), .nils])] : List AV)).length (fun ix => ((([(.agg [(.int .i64 1), (.str ([98])), (.int .i64 0), (.str []), .nils])] : List AV) ++ ([(.agg [(.int .i64 1), (.str ([108, 105, 98])), (.int .i64 (Bo signsL [62] 0)), (.str ([49])), .nils])] : List AV)) ++ ([(.agg [(.int .i64 1), (.str ([97])), (.int .i64 0), (.str []), .nils])] : List AV)).getD ix Bh))] 25)), (4, (.row [(.int .i64 1), (.str ([108, 105, 98])), (.int .i64 (Bo signsL [62] 0)), (.str ([49])), .nils] 25)), (6, (.row [(.int .i64 1), (.str ([97])), (.int .i64 0), (.str []), .nils] 25))], 7⟩) (by kernel_rfl) ?_
   refine D4 [] [2] ?_
   refine Ag ?_
   refine Dd (.inl rfl) (al := [(.agg [(.int .i64 (Bo Dk [105, 102] 0)), (.str []), (.int .i64 0), (.str []), (.row 5 ((([(.agg [(.int .i64 1), (.str ([98])), (.int .i64 0), (.str []), .nils])] : List AV) ++ ([(.agg [(.int .i64 1), (.str ([108, 105, 98])), (.int .i64 (Bo signsL [62] 0)), (.str ([49])), .nils])] : List AV)) ++ ([(.agg [(.int .i64 1), (.str ([97])), (.int .i64 0), (.str []), .nils])] : List AV)).length (fun ix => ((([(.agg [(.int .i64 1), (.str ([98])), (.int .i64 0), (.str []), .nils])] : List AV) ++ ([(.agg [(.int .i64 1), (.str ([108, 105, 98])), (.int .i64 (Bo signsL [62] 0)), (.str ([49])), .nils])] : List AV)) ++ ([(.agg [(.int .i64 1), (.str ([97])), (.int .i64 0), (.str []), .nils])] : List AV)).getD ix Bh))])]) (by kernel_rfl) ?_ ((by kernel_rfl : Cq 1 _ = some [(0, (.row [(.str []), (.str [])] 125))]).trans ?_)
   ·rw [show Bo Dk [105, 102] 0 = 4 from by decide, show Bo signsL [62] 0 = 4 from by decide]; rfl
   ·rfl
  refine Bn false 4 (lsD 8 [0, 1, 2, 3]) ⟨[(0, (.ptr 0 0)), (2, (.ptr 1 0)), (6, (.ptr 3 0)), (92, (.own 5)), (94, (.agg [(.int .i64 1), (.str ([97])), (.int .i64 0), (.str []), .nils]))], [(0, (.row [(.str []), (.str ([41]))] 125)), (1, (.row [(.int .i64 0), (.str []), (.int .i64 0), (.str []), .nils] 25)), (3, (.row [(.int .i64 (Bo Dk [105, 102] 0)), (.str []), (.int .i64 0), (.str []), (.own 5)] 25)), (4, (.row [(.int .i64 1), (.str ([108, 105, 98])), (.int .i64 (Bo signsL [62] 0)), (.str ([49])), .nils] 25)), (5, (.grow (([(.agg [(.int .i64 1), (.str ([98])), (.int .i64 0), (.str []), .nils])] : List AV) ++ ([(.agg [(.int .i64 1), (.str ([108, 105, 98])), (.int .i64 (Bo signsL [62] 0)), (.str ([49])), .nils])] : List AV)) 25 5))], 6⟩ ?_ (fun m2_2 => ?_)
  ·refine Cs (fuel := 3) 4 [] Aw ?_
   refine An [0, 2, 6, 92, 95] ?_
   exact A1 m2_1
  refine Cp (fuel := 6) [] [0, 2] [0, 2, 6, 91, 93] Aw ?_
  refine Bp 1 3 (by kernel_rfl) ?_ ?_
  ·refine Bb (fuel := 5) 1 [] Aw ?_
   refine An [0, 2, 6, 92, 93] ?_
   refine Dt (fuel := 4) 3 (by kernel_rfl) ?_
   refine Bm (fuel := 4) 3 rfl ?_
   refine C3 [0] (al := [(.ptr 0 0)]) (al' := [(.ptr 0 0)]) (r := (.agg [(.int .i64 1), (.str ([97])), (.int .i64 0), (.str []), .nils])) (r' := (.agg [(.int .i64 1), (.str ([97])), (.int .i64 0), (.str []), .nils])) (s' := [(0, (.ptr 0 0)), (2, (.ptr 1 0)), (6, (.ptr 3 0)), (92, (.own 5)), (93, (.ptr 0 0)), (94, (.agg [(.int .i64 1), (.str ([97])), (.int .i64 0), (.str []), .nils]))]) (H := [(0, (.row [(.str ([41])), (.str ([97]))] 125))]) (H' := [(0, (.row [(.str []), (.str ([41]))] 125))]) (h2 := [(0, (.row [(.str []), (.str ([41]))] 125)), (1, (.row [(.int .i64 0), (.str []), (.int .i64 0), (.str []), .nils] 25)), (3, (.row [(.int .i64 (Bo Dk [105, 102] 0)), (.str []), (.int .i64 0), (.str []), (.own 5)] 25)), (4, (.row [(.int .i64 1), (.str ([108, 105, 98])), (.int .i64 (Bo signsL [62] 0)), (.str ([49])), .nils] 25)), (5, (.grow (([(.agg [(.int .i64 1), (.str ([98])), (.int .i64 0), (.str []), .nils])] : List AV) ++ ([(.agg [(.int .i64 1), (.str ([108, 105, 98])), (.int .i64 (Bo signsL [62] 0)), (.str ([49])), .nils])] : List AV)) 25 5))]) (by kernel_rfl) (by exact Jv) (by kernel_rfl) (by kernel_rfl) (by kernel_rfl) (by kernel_rfl) (by kernel_rfl) (Qs (w := [97]) (t := [41]) (t1 := []) (w1 := [41]) (by decide) (by decide) (by decide) (by decide) (by decide) (by decide)) (by kernel_rfl) (by kernel_rfl) (by kernel_rfl) ?_
   refine Be ⟨rfl, ?_⟩
   refine An [0, 2, 6, 92, 94] ?_
   exact A1 m2_2
  ·refine Bm (fuel := 5) 3 rfl ?_
   refine C3 [0] (al := [(.ptr 0 0)]) (al' := [(.ptr 0 0)]) (r := (.agg [(.int .i64 1), (.str ([97])), (.int .i64 0), (.str []), .nils])) (r' := (.agg [(.int .i64 1), (.str ([97])), (.int .i64 0), (.str []), .nils])) (s' := [(0, (.ptr 0 0)), (2, (.ptr 1 0)), (6, (.ptr 3 0)), (91, (.ptr 3 4)), (93, (.ptr 0 0)), (94, (.agg [(.int .i64 1), (.str ([97])), (.int .i64 0), (.str []), .nils]))]) (H := [(0, (.row [(.str ([41])), (.str ([97]))] 125))]) (H' := [(0, (.row [(.str []), (.str ([41]))] 125))]) (h2 := [(0, (.row [(.str []), (.str ([41]))] 125)), (1, (.row [(.int .i64 0), (.str []), (.int .i64 0), (.str []), .nils] 25)), (3, (.row [(.int .i64 (Bo Dk [105, 102] 0)), (.str []), (.int .i64 0), (.str []), (.own 5)] 25)), (4, (.row [(.int .i64 1), (.str ([108, 105, 98])), (.int .i64 (Bo signsL [62] 0)), (.str ([49])), .nils] 25)), (5, (.grow (([(.agg [(.int .i64 1), (.str ([98])), (.int .i64 0), (.str []), .nils])] : List AV) ++ ([(.agg [(.int .i64 1), (.str ([108, 105, 98])), (.int .i64 (Bo signsL [62] 0)), (.str ([49])), .nils])] : List AV)) 25 5))]) (by kernel_rfl) (by exact Jv) (by kernel_rfl) (by kernel_rfl) (by kernel_rfl) (by kernel_rfl) (by kernel_rfl) (Qs (w := [97]) (t := [41]) (t1 := []) (w1 := [41]) (by decide) (by decide) (by decide) (by decide) (by decide) (by decide)) (by kernel_rfl) (by kernel_rfl) (by kernel_rfl) ?_
   refine Be ⟨rfl, ?_⟩
   refine An [0, 2, 6, 91, 94] ?_
   refine Bp 1 4 (by kernel_rfl) ?_ ?_
   ·refine Bb (fuel := 4) 1 [] Aw ?_
    refine An [0, 2, 6, 92, 94] ?_
    exact A1 m2_2
   ·refine Bb (fuel := 4) 4 [] Aw ?_
    refine An [0, 2, 6, 91, 95] ?_
    refine Cs (fuel := 3) 1 [] Aw ?_
    refine An [0, 2, 6, 92, 95] ?_
    exact A1 m2_1
 refine Bn false 4 (lsD 8 [0, 1, 2, 3]) ⟨[(0, (.ptr 0 0)), (2, (.ptr 1 0)), (6, (.ptr 3 0)), (7, (.str ([105, 102]))), (74, (.sl 2 0 1 1 false)), (76, (.agg [(.int .i64 1), (.str ([108, 105, 98])), (.int .i64 (Bo signsL [62] 0)), (.str ([49])), .nils]))], [(0, (.row [(.str ([32, 97, 41])), (.str ([101, 108, 115, 101]))] 125)), (1, (.row [(.int .i64 0), (.str []), (.int .i64 0), (.str []), .nils] 25)), (2, (.row [(.int .i64 1), (.str ([98])), (.int .i64 0), (.str []), .nils] 25)), (3, (.row [(.int .i64 (Bo Dk [105, 102] 0)), (.str []), (.int .i64 0), (.str []), (.sl 2 0 1 1 false)] 25))], 4⟩ ?_ (fun m1_2 => ?_)
 ·refine Cs (fuel := 3) 4 [] Aw ?_
  refine An [0, 2, 6, 7, 74, 77] ?_
  exact A1 m1_1
 refine Cp (fuel := 6) [] [0, 2] [0, 2, 6, 7, 73, 75] Aw ?_
 refine Bp 1 3 (by kernel_rfl) ?_ ?_
 ·refine Bb (fuel := 5) 1 [] Aw ?_
  refine An [0, 2, 6, 7, 74, 75] ?_
  refine Dt (fuel := 4) 3 (by kernel_rfl) ?_
  refine Bm (fuel := 4) 3 rfl ?_
  refine C3 [0] (al := [(.ptr 0 0)]) (al' := [(.ptr 0 0)]) (r := (.agg [(.int .i64 1), (.str ([108, 105, 98])), (.int .i64 (Bo signsL [62] 0)), (.str ([49])), .nils])) (r' := (.agg [(.int .i64 1), (.str ([108, 105, 98])), (.int .i64 (Bo signsL [62] 0)), (.str ([49])), .nils])) (s' := [(0, (.ptr 0 0)), (2, (.ptr 1 0)), (6, (.ptr 3 0)), (7, (.str ([105, 102]))), (74, (.sl 2 0 1 1 false)), (75, (.ptr 0 0)), (76, (.agg [(.int .i64 1), (.str ([108, 105, 98])), (.int .i64 (Bo signsL [62] 0)), (.str ([49])), .nils]))]) (H := [(0, (.row [(.str ([32, 62, 32, 49, 32, 101, 108, 115, 101, 32, 97, 41])), (.str ([108, 105, 98]))] 125))]) (H' := [(0, (.row [(.str ([32, 97, 41])), (.str ([101, 108, 115, 101]))] 125))]) (h2 := [(0, (.row [(.str ([32, 97, 41])), (.str ([101, 108, 115, 101]))] 125)), (1, (.row [(.int .i64 0), (.str []), (.int .i64 0), (.str []), .nils] 25)), (2, (.row [(.int .i64 1), (.str ([98])), (.int .i64 0), (.str []), .nils] 25)), (3, (.row [(.int .i64 (Bo Dk [105, 102] 0)), (.str []), (.int .i64 0), (.str []), (.sl 2 0 1 1 false)] 25))]) (by kernel_rfl) (by exact Jv) (by kernel_rfl) (by kernel_rfl) (by kernel_rfl) (by kernel_rfl) (by kernel_rfl) (Wd (w := [108, 105, 98]) (t := [32, 62, 32, 49, 32, 101, 108, 115, 101, 32, 97, 41]) (t1 := [32, 49, 32, 101, 108, 115, 101, 32, 97, 41]) (w1 := [62]) (t2 := [32, 101, 108, 115, 101, 32, 97, 41]) (w2 := [49]) (t3 := [32, 97, 41]) (w3 := [101, 108, 115, 101]) (by decide) (by decide) (by decide) (by decide) (by decide) (by decide) (by decide) (by decide) (by decide) (by decide)) (by kernel_rfl) (by kernel_rfl) (by kernel_rfl) ?_
  refine Be ⟨rfl, ?_⟩
  refine An [0, 2, 6, 7, 74, 76] ?_
  exact A1 m1_2
 ·refine Bm (fuel := 5) 3 rfl ?_
  refine C3 [0] (al := [(.ptr 0 0)]) (al' := [(.ptr 0 0)]) (r := (.agg [(.int .i64 1), (.str ([108, 105, 98])), (.int .i64 (Bo signsL [62] 0)), (.str ([49])), .nils])) (r' := (.agg [(.int .i64 1), (.str ([108, 105, 98])), (.int .i64 (Bo signsL [62] 0)), (.str ([49])), .nils])) (s' := [(0, (.ptr 0 0)), (2, (.ptr 1 0)), (6, (.ptr 3 0)), (7, (.str ([105, 102]))), (73, (.ptr 3 4)), (75, (.ptr 0 0)), (76, (.agg [(.int .i64 1), (.str ([108, 105, 98])), (.int .i64 (Bo signsL [62] 0)), (.str ([49])), .nils]))]) (H := [(0, (.row [(.str ([32, 62, 32, 49, 32, 101, 108, 115, 101, 32, 97, 41])), (.str ([108, 105, 98]))] 125))]) (H' := [(0, (.row [(.str ([32, 97, 41])), (.str ([101, 108, 115, 101]))] 125))]) (h2 := [(0, (.row [(.str ([32, 97, 41])), (.str ([101, 108, 115, 101]))] 125)), (1, (.row [(.int .i64 0), (.str []), (.int .i64 0), (.str []), .nils] 25)), (2, (.row [(.int .i64 1), (.str ([98])), (.int .i64 0), (.str []), .nils] 25)), (3, (.row [(.int .i64 (Bo Dk [105, 102] 0)), (.str []), (.int .i64 0), (.str []), (.sl 2 0 1 1 false)] 25))]) (by kernel_rfl) (by exact Jv) (by kernel_rfl) (by kernel_rfl) (by kernel_rfl) (by kernel_rfl) (by kernel_rfl) (Wd (w := [108, 105, 98]) (t := [32, 62, 32, 49, 32, 101, 108, 115, 101, 32, 97, 41]) (t1 := [32, 49, 32, 101, 108, 115, 101, 32, 97, 41]) (w1 := [62]) (t2 := [32, 101, 108, 115, 101, 32, 97, 41]) (w2 := [49]) (t3 := [32, 97, 41]) (w3 := [101, 108, 115, 101]) (by decide) (by decide) (by decide) (by decide) (by decide) (by decide) (by decide) (by decide) (by decide) (by decide)) (by kernel_rfl) (by kernel_rfl) (by kernel_rfl) ?_
  refine Be ⟨rfl, ?_⟩
  refine An [0, 2, 6, 7, 73, 76] ?_
  refine Bp 1 4 (by kernel_rfl) ?_ ?_
  ·refine Bb (fuel := 4) 1 [] Aw ?_
   refine An [0, 2, 6, 7, 74, 76] ?_
   exact A1 m1_2
  ·refine Bb (fuel := 4) 4 [] Aw ?_
   refine An [0, 2, 6, 7, 73, 77] ?_
   refine Cs (fuel := 3) 1 [] Aw ?_
   refine An [0, 2, 6, 7, 74, 77] ?_
   exact A1 m1_1
end Sv
end Go.Proofs.YtlfjokcbkopfeaaGreatDoor
end
section
namespace Go.Proofs.YtlfjokcbkopfeaaGreatDoor
open Go Go.RowKit
set_option linter.unusedSimpArgs false
set_option linter.unusedVariables false
namespace Sv
set_option maxHeartbeats 400000
set_option maxRecDepth 100000
def Gk (ds : List Deferred) (a : Act) : Act := { a with defers := a.defers ++ ds }
theorem Q03 (ds : List Deferred) (a : Act) : (Gk ds a).eval = a.eval := by funext x; cases x <;> rfl
theorem Ll (ds : List Deferred) (a : Act) (d : Option Tmp) (v : Value) : (Gk ds a).put d v = Gk ds (a.put d v) := by cases d <;> rfl
section
variable {P : Program} {ds : List Deferred}
theorem Q15 {o : Oper} {a : Act} {k k' : Act → World → Prop} {Q Q' : Exit → Act → World → Prop} (hQ : ∀ e a w, Q e a w → Q' e (Gk ds a) w) (hk : ∀ a w, k a w → k' (Gk ds a) w) (r : Result Go.Next) (h : o.upon P a k Q r) : o.upon P (Gk ds a) k' Q' r := by
  unfold Oper.upon at h ⊢
  split at h
  · simp only [Ll]; exact hk _ _ h
  · simp only [Ll]; exact hk _ _ h
  · rename_i d w'
    have e : ({ Gk ds a with defers := d :: (Gk ds a).defers } : Act) = Gk ds { a with defers := d :: a.defers } := rfl
    simp only [e, Ll]; exact hk _ _ h
  · refine h.mono ?_
    intro e w h
    cases e with
    | returned v => simp only [Ll]; exact hk _ _ h
    | panicked c => exact hQ _ _ _ h
    | outgrown => obtain ⟨a, w, q⟩ := h; exact ⟨_, _, hQ _ _ _ q⟩
  · refine h.mono ?_
    intro v w h
    simp only [Ll]; exact hk _ _ h
  · exact hQ _ _ _ h
  · exact h.elim
theorem W6 {ops : Array Oper} {Q Q' : Exit → Act → World → Prop} (hQ : ∀ e a w, Q e a w → Q' e (Gk ds a) w) : ∀ (l : List Oper) (a : Act) (w : World), wpList P ops Q l a w → wpList P ops Q' l (Gk ds a) w
  | [], a, w, h => hQ _ _ _ h
  | o :: l, a, w, h => by
    have ih := W6 (ops := ops) hQ l
    unfold wpList at h ⊢
    have e1 : (Gk ds a).tmps = a.tmps := rfl
    rw [e1]
    split at h
    · rename_i hw
      rw [if_pos hw]
      rcases h with h | ⟨h1, a', w', h2⟩
      · left; unfold Oper.wp at h ⊢; rw [Q03]; exact Q15 hQ ih _ h
      · right; refine ⟨?_, _, _, hQ _ _ _ h2⟩; unfold Oper.asks at h1 ⊢; rw [Q03]; exact h1
    · rename_i hw
      rw [if_neg hw, Ll]; exact ih _ _ h
variable {B : Bas} {F : Cx} {n : Nat} {K : Exit → St → Prop} {x : St}
def SWD (P : Program) (ds : List Deferred) (n : Nat) (c : Code) (B : Bas) (F : Cx) (K : Exit → St → Prop) (x : St) : Prop := ∀ φ σ w, Holds B F n x φ σ w → D.W P ds n c (Gy B F n K) σ w
theorem X13 {c : Code} {φ : Phi} {σ : Nat → Value} {w : World} (h : SW P n c B F K x) (hx : Holds B F n x φ σ w) : W P n c (Gy B F n K) σ w := h φ σ w hx
theorem X3l {c : Code} {φ : Phi} {σ : Nat → Value} {w : World} (hx : Holds B F n x φ σ w) (h : SWD P ds n c B F K x) : D.W P ds n c (Gy B F n K) σ w := h φ σ w hx
theorem Kc {id : Nat} {l : List Oper} (h : SO P n l.toArray l B F K x) : SWD P ds n (.region id l.toArray false) B F K x := fun φ σ w hx =>
  D.W_reg (by
    have k := h φ σ w hx
    unfold WO at k
    exact W6 (ds := ds) (Q := lift n (Gy B F n K)) (Q' := D.lift ds n (Gy B F n K)) (by rintro e _ w ⟨σ, rfl, q⟩; exact ⟨σ, rfl, q⟩) l _ _ k)
theorem I6 {c d : Code} (h : SWD P ds n c B F (Ii (SWD P ds n d B F K) K) x) : SWD P ds n (.seq c d) B F K x := by
  intro φ σ w hx
  refine D.W_seq (D.W_mono (h φ σ w hx) ?_)
  rintro e σ' w' ⟨y, φ', h1, h2⟩
  cases e <;> first | exact h2 φ' σ' w' h1 | exact ⟨y, φ', h1, h2⟩
theorem X3i (h : K .normal x) : SWD P ds n .skip B F K x := fun φ σ w hx => D.W_skip ⟨x, φ, hx, h⟩
theorem X3j (h : K .ret x) : SWD P ds n .ret B F K x := fun φ σ w hx => D.W_ret ⟨x, φ, hx, h⟩
theorem X3m {o : Operand} {c d : Code} {q : Bool} (hq : evA x.s o = some (.bool q)) (ht : q = true → SWD P ds n c B F K x) (hf : q = false → SWD P ds n d B F K x) : SWD P ds n (.cond o c d) B F K x := by
  intro φ σ w hx
  have := hx.fr.ev _ _ hq
  simp only [VR] at this
  exact D.W_cond this (fun h => ht h φ σ w hx) (fun h => hf h φ σ w hx)
theorem X3k {o : Operand} {c d : Code} {p : Prop} [Decidable p] (hq : evA x.s o = some (.bool (!decide p))) (ht : ¬ p → SWD P ds n c B F K x) (hf : p → SWD P ds n d B F K x) : SWD P ds n (.cond o c d) B F K x :=
  X3m hq (fun h => ht (by simpa using h)) (fun h => hf (by simpa using h))
end
theorem Q9u {P : Program} {n : Nat} {σ : Nat → Value} {w : World} {p q : Value} {dst : Option Tmp} {g a b : Nat} {ty : TypeId} {ps : String} {af : Array Edge} (h1 : sl n σ a = p) (h2 : sl n σ b = q) :
    (execOp (ev n σ) ⟨dst, .makeFunc (.func g) #[] #[.tmp a, .tmp b], ty, ps, af, none⟩).run P w = .ok (.value (.func (.func g) #[] #[p, q])) w := by
  simp [execOp, ev, h1, h2, go_sem]
theorem Q9v {P : Program} {n : Nat} {σ : Nat → Value} {w : World} {p q : Value} {g d : Nat} {ty : TypeId} {ps : String} {af : Array Edge} {ts : Array TypeId} (hd : d < n) :
    (execOp (ev n (B3 σ (some d) (.func (.func g) #[] #[p, q]))) ⟨none, .defer { callee := .value (.tmp d), args := #[], argTypes := ts }, ty, ps, af, none⟩).run P w = .ok (.defer { target := .fn (.func g) #[p, q], args := #[] }) w := by
  simp [execOp, resolve, ev, B3, T8 hd, Deferred.ofValue, go_sem]
def lawD : DepT := .mk 4 [] 0 [] [.mk 1 [98] 0 [] [], .mk 1 [108, 105, 98] 4 [49] [], .mk 1 [97] 0 [] []]
theorem Q58 : Imp (.agg [(.int .i64 (4)), (.str ([])), (.int .i64 (0)), (.str ([])), (.row 5 3 (fun i => ([.agg [.int .i64 1, .str [98], .int .i64 0, .str [], .nils], .agg [.int .i64 1, .str [108, 105, 98], .int .i64 4, .str [49], .nils], .agg [.int .i64 1, .str [97], .int .i64 0, .str [], .nils]] : List AV).getD i Bh))]) (Az lawD) := Imp.agg (p := [.int .i64 4, .str [], .int .i64 0, .str []]) (Imp.row fun i hi => by
  have n0 : ∀ {a b c d : AV}, Imp (.agg [a, b, c, d, .nils]) (.agg [a, b, c, d, .row 5 0 (depAt [])]) := fun {a b c d} => Imp.agg (p := [a, b, c, d]) fun φ v k => Jz [] φ v (Imp.nil (f := Az) φ v k)
  match i, hi with
  | 0, _ => exact n0
  | 1, _ => exact n0
  | 2, _ => exact n0)
theorem Q59 : Bq lawD = 0 := by decide
attribute [local irreducible] SW SO SWD Bg
set_option maxHeartbeats 1000000 in
set_option maxRecDepth 100000 in
theorem X2z : FnV Tryz.prog 38 [.str [40, 98, 32, 105, 102, 32, 108, 105, 98, 32, 62, 32, 49, 32, 101, 108, 115, 101, 32, 97, 41]] (.tup [Az lawD, .int .i64 0]) := by
  intro F w vs hF hv
  obtain ⟨v, rfl, hv1⟩ := hv.single_inv
  simp only [VR] at hv1; subst hv1
  have hx : Holds ⟨w, fun k => k < w.heap.size, fun _ h => h⟩ ⟨F, fun _ => none, 0, fun _ _ e => by cases e⟩ 28 ⟨Hq 0 [.str [40, 98, 32, 105, 102, 32, 108, 105, 98, 32, 62, 32, 49, 32, 101, 108, 115, 101, 32, 97, 41]], [], 0⟩ (ofF F) (F4 [S [40, 98, 32, 105, 102, 32, 108, 105, 98, 32, 62, 32, 49, 32, 101, 108, 115, 101, 32, 97, 41]]) w := by
    refine ⟨fun t a e => ?_, ⟨⟨rfl, rfl, rfl, Nat.le_refl _, fun _ _ => rfl⟩, hF, fun b o e => (by cases e), fun b b' o o' k e => (by cases e), fun b o k e => (by cases e)⟩, fun b _ => ⟨rfl, rfl⟩, fun b o e => e, fun b o e => .inl e, fun b o e => (by cases e)⟩
    obtain ⟨h1, h2, h3⟩ := Ma hv e
    rw [Nat.sub_zero] at h2 h3
    have ht : Nat.blt t 28 = true := by simp only [Nat.blt_eq]; simp at h3; omega
    simp only [sl, ht, cond_true, F4]; exact h2
  refine calls_of_wp_defers Tryz.func38 rfl ?_
  rw [show ({ tmps := #[S [40, 98, 32, 105, 102, 32, 108, 105, 98, 32, 62, 32, 49, 32, 101, 108, 115, 101, 32, 97, 41]] ++ Array.replicate (Tryz.f38.ntmps - #[S [40, 98, 32, 105, 102, 32, 108, 105, 98, 32, 62, 32, 49, 32, 101, 108, 115, 101, 32, 97, 41]].size) undef, defers := [] } : Act) = mk 28 (F4 [S [40, 98, 32, 105, 102, 32, 108, 105, 98, 32, 62, 32, 49, 32, 101, 108, 115, 101, 32, 97, 41]]) from by rw [Tryz.ntmps38]; kernel_rfl]
  refine X1i ?_
  refine W_mono (X13 (K := fun e y => e = .normal ∧ y = ⟨[(0, .str [40, 98, 32, 105, 102, 32, 108, 105, 98, 32, 62, 32, 49, 32, 101, 108, 115, 101, 32, 97, 41]), (2, .ptr 0 0), (3, .ptr 1 0)], [(0, (.row [(.int .i64 (0)), (.str ([])), (.int .i64 (0)), (.str ([])), .nils] 25)), (1, (.row [(.int .i64 (0))] 34))], 2⟩) ?_ hx) ?_
  · refine Ar ?_
    refine A2 0 [] [0, 2, 3] [] hk0 v0 c0 ?_
    exact ⟨rfl, by kernel_rfl⟩
  rintro e σ1 w1 ⟨y, φ1, hy, rfl, rfl⟩
  have a2 := hy.fr 2 (.ptr 0 0) rfl
  have a3 := hy.fr 3 (.ptr 1 0) rfl
  simp only [VR] at a2 a3
  obtain ⟨p, κp, ep, a2⟩ := a2
  obtain ⟨q, κq, eq, a3⟩ := a3
  have hf := hy.fr.put (dst := some 7) (a := .raw (.func (.func 87) #[] #[(.pointer (some ⟨p, 0, none⟩)), (.pointer (some ⟨q, 0, none⟩))])) (s' := [(0, .str [40, 98, 32, 105, 102, 32, 108, 105, 98, 32, 62, 32, 49, 32, 101, 108, 115, 101, 32, 97, 41]), (2, .ptr 0 0), (3, .ptr 1 0), (7, .raw (.func (.func 87) #[] #[(.pointer (some ⟨p, 0, none⟩)), (.pointer (some ⟨q, 0, none⟩))]))]) (v := .func (.func 87) #[] #[(.pointer (some ⟨p, 0, none⟩)), (.pointer (some ⟨q, 0, none⟩))]) (by kernel_rfl) (by simp only [VR])
  have hy1 : Holds _ _ 28 ⟨[(0, .str [40, 98, 32, 105, 102, 32, 108, 105, 98, 32, 62, 32, 49, 32, 101, 108, 115, 101, 32, 97, 41]), (2, .ptr 0 0), (3, .ptr 1 0)], [(0, (.row [(.int .i64 (0)), (.str ([])), (.int .i64 (0)), (.str ([])), .nils] 25)), (1, (.row [(.int .i64 (0))] 34))], 2⟩ φ1 _ w1 := ⟨fun t a e => hf t a (Q9 (ts := [0, 2, 3]) rfl t a e), hy.rel, hy.dom, hy.old, hy.new, hy.base⟩
  refine D.wp_defer (v := .func (.func 87) #[] #[(.pointer (some ⟨p, 0, none⟩)), (.pointer (some ⟨q, 0, none⟩))]) (d := { target := .fn (.func 87) #[(.pointer (some ⟨p, 0, none⟩)), (.pointer (some ⟨q, 0, none⟩))], args := #[] }) rfl (Q9u a2 a3) (Q9v (by omega)) ?_
  refine D.W_any ?_
  refine D.W_mono (Q := Gy _ _ 28 (No Tryz.prog [.cell 2 25, .cell 3 34] (.tup [Az lawD, .int .i64 0]))) (X3l hy1 ?_) ?_
  · have hF' : (⟨F, fun _ => none, 0, fun _ _ e => by cases e⟩ : Cx).lo = 0 := rfl
    refine I6 ?_
    refine Kc ?_
    refine D4 [] [2, 3, 4] ?_
    refine I6 ?_
    refine Kc ?_
    refine Bj 1 0 [] [2, 3, 4, 11] [] hk0 v0 c0 ?_
    refine C3 [2] (al := [(.ptr 2 0)]) (al' := [(.ptr 0 0)]) (r := (.tup [])) (r' := (.tup [])) (s' := [(2, (.ptr 0 0)), (3, (.ptr 1 0)), (4, (.ptr 2 0)), (11, (.ptr 2 0)), (12, (.tup []))]) (H := [(0, (.row [(.str ([40, 98, 32, 105, 102, 32, 108, 105, 98, 32, 62, 32, 49, 32, 101, 108, 115, 101, 32, 97, 41])), (.str ([]))] 125))]) (H' := [(0, (.row [(.str ([98, 32, 105, 102, 32, 108, 105, 98, 32, 62, 32, 49, 32, 101, 108, 115, 101, 32, 97, 41])), (.str ([40]))] 125))]) (h2 := [(0, (.row [(.int .i64 (0)), (.str ([])), (.int .i64 (0)), (.str ([])), .nils] 25)), (1, (.row [(.int .i64 (0))] 34)), (2, (.row [(.str ([98, 32, 105, 102, 32, 108, 105, 98, 32, 62, 32, 49, 32, 101, 108, 115, 101, 32, 97, 41])), (.str ([40]))] 125))]) (by kernel_rfl) (by exact Mm) (by kernel_rfl) (by kernel_rfl) (by kernel_rfl) (by kernel_rfl) (by kernel_rfl) (Oa (t := [40, 98, 32, 105, 102, 32, 108, 105, 98, 32, 62, 32, 49, 32, 101, 108, 115, 101, 32, 97, 41]) (w := []) (t1 := [98, 32, 105, 102, 32, 108, 105, 98, 32, 62, 32, 49, 32, 101, 108, 115, 101, 32, 97, 41]) (w1 := [40]) (by decide) (by decide)) (by kernel_rfl) (by kernel_rfl) (by kernel_rfl) ?_
    refine Be ?_
    refine I6 ?_
    refine Kc ?_
    refine Bj 1 0 [] [2, 3, 4, 13] [] hk0 v0 c0 ?_
    refine C3 [2] (al := [(.ptr 2 0)]) (al' := [(.ptr 0 0)]) (r := (.agg [(.int .i64 (4)), (.str ([])), (.int .i64 (0)), (.str ([])), (.row 5 3 (fun i => ([.agg [.int .i64 1, .str [98], .int .i64 0, .str [], .nils], .agg [.int .i64 1, .str [108, 105, 98], .int .i64 4, .str [49], .nils], .agg [.int .i64 1, .str [97], .int .i64 0, .str [], .nils]] : List AV).getD i Bh))])) (r' := (.agg [(.int .i64 (4)), (.str ([])), (.int .i64 (0)), (.str ([])), (.row 5 3 (fun i => ([.agg [.int .i64 1, .str [98], .int .i64 0, .str [], .nils], .agg [.int .i64 1, .str [108, 105, 98], .int .i64 4, .str [49], .nils], .agg [.int .i64 1, .str [97], .int .i64 0, .str [], .nils]] : List AV).getD i Bh))])) (s' := [(2, (.ptr 0 0)), (3, (.ptr 1 0)), (4, (.ptr 2 0)), (13, (.ptr 2 0)), (14, (.agg [(.int .i64 (4)), (.str ([])), (.int .i64 (0)), (.str ([])), (.row 5 3 (fun i => ([.agg [.int .i64 1, .str [98], .int .i64 0, .str [], .nils], .agg [.int .i64 1, .str [108, 105, 98], .int .i64 4, .str [49], .nils], .agg [.int .i64 1, .str [97], .int .i64 0, .str [], .nils]] : List AV).getD i Bh))]))]) (H := [(0, (.row [(.str ([98, 32, 105, 102, 32, 108, 105, 98, 32, 62, 32, 49, 32, 101, 108, 115, 101, 32, 97, 41])), (.str ([40]))] 125))]) (H' := [(0, (.row [(.str ([])), (.str ([]))] 125))]) (h2 := [(0, (.row [(.int .i64 (0)), (.str ([])), (.int .i64 (0)), (.str ([])), .nils] 25)), (1, (.row [(.int .i64 (0))] 34)), (2, (.row [(.str ([])), (.str ([]))] 125))]) (by kernel_rfl) (by exact Jv) (by kernel_rfl) (by kernel_rfl) (by kernel_rfl) (by kernel_rfl) (by kernel_rfl) (Q40) (by kernel_rfl) (by kernel_rfl) (by kernel_rfl) ?_
    refine A2 2 [] [2, 3, 4, 5] [] hk0 (vk 3 14 (a := (.agg [(.int .i64 (4)), (.str ([])), (.int .i64 (0)), (.str ([])), (.row 5 3 (fun i => ([.agg [.int .i64 1, .str [98], .int .i64 0, .str [], .nils], .agg [.int .i64 1, .str [108, 105, 98], .int .i64 4, .str [49], .nils], .agg [.int .i64 1, .str [97], .int .i64 0, .str [], .nils]] : List AV).getD i Bh))])) (b := (.agg [(.int .i64 (lawD.kind)), (.str (lawD.name)), (.int .i64 (lawD.op)), (.str (lawD.evr)), (.row 5 lawD.args.length (depAt lawD.args))])) Q58 <| v0) c0 ?_
    refine I6 ?_
    refine Kc ?_
    refine A2 0 [] [2, 3, 5] [(0, 5)] (hk 5 Ir (Jj (true) (by decide)) <| hk0) v0 c0 ?_
    refine I6 ?_
    refine I6 ?_
    refine Kc ?_
    refine A2 0 [] [2, 3, 5, 6] [] (hk 1 Ow (S9 lawD (by decide)) <| hk0) v0 c0 ?_
    refine I6 ?_
    refine Kc ?_
    refine D4 [] [2, 3, 5, 6, 24] ?_
    refine X3k (p := (Bq lawD) = 0) (by kernel_rfl) (fun c1 => ?_) (fun c1 => ?_)
    · skip
      exact absurd Q59 (by simpa using c1)
    · skip
      refine X3i ?_
      refine I6 ?_
      refine Kc ?_
      refine D4 [] [2, 3] ?_
      refine X3j ?_
      refine RK wR [(.agg [(.int .i64 (lawD.kind)), (.str (lawD.name)), (.int .i64 (lawD.op)), (.str (lawD.evr)), (.row 5 lawD.args.length (depAt lawD.args))]), (.int .i64 (0))] ?_
      exact Same.of_eq (by first | rfl | (simp only [Aj]; simp_all))
  · rintro e σ2 w2 ⟨y, φ2, hy2, he, al', rl, h', k1, k2, k3⟩
    have fin : Leaves Tryz.prog Tryz.f38 (D.mk [{ target := .fn (.func 87) #[(.pointer (some ⟨p, 0, none⟩)), (.pointer (some ⟨q, 0, none⟩))], args := #[] }] 28 σ2).tmps (Ret fun v w'' => Below w.heap.size w w'' ∧ ∃ F', (∀ b o, F b = some o → F' b = some o) ∧ Fro F' w'' ∧ (∀ b o, F' b = some o → F b = some o ∨ w.heap.size ≤ b) ∧ VR (ofF F') (.tup [Az lawD, .int .i64 0]) v) [{ target := .fn (.func 87) #[(.pointer (some ⟨p, 0, none⟩)), (.pointer (some ⟨q, 0, none⟩))], args := #[] }] .returning w2 := by
      refine leaves_cons (f := 87) (args := #[(.pointer (some ⟨p, 0, none⟩)), (.pointer (some ⟨q, 0, none⟩))]) (by simp) (by simp [go_sem]) ?_
      refine (X0g _ _ _).mono ?_
      rintro e u' w'' ⟨rfl, rfl, hb⟩
      have hrel := hy2.rel.go (Phi.le_refl φ2) hb (fun b o e => (hb.block b (E0 (hy2.rel.fro b o e))).trans (hy2.rel.fro b o e)) (fun b o e => .inl e)
      obtain ⟨vs', hvs, hrun⟩ := Lz (P := Tryz.prog) hy2.fr hrel k1
      obtain ⟨F', f1, f2, f3, f4⟩ := frzVl_ok k2 _ φ2 w'' _ hrel hvs
      exact ⟨_, Np (a := mk 28 σ2) rfl hrun, _, rfl, ⟨hrel.below.os, hrel.below.tape, hrel.below.output, hrel.below.size, hrel.below.block⟩, F', fun b o q => f1 b o (hy2.old b o q), f3.fro, fun b o q => ((f2 b o q).elim (hy2.new b o) .inr).imp id Nat.le_of_not_lt, k3 _ _ (N2 f4)⟩
    rcases he with rfl | rfl
    · exact fin
    · exact fin
end Sv
end Go.Proofs.YtlfjokcbkopfeaaGreatDoor
end
section
namespace Go.Proofs.YtlfjokcbkopfeaaGreatDoor
open Go Go.RowKit
namespace Sv
attribute [local irreducible] SW SO Bg
set_option maxHeartbeats 1000000
set_option maxRecDepth 100000
theorem Q8p : As Tryz.prog 155 := Ax Tryz.func155 (by kernel_rfl) rfl
theorem Q9l : As Tryz.prog 104 := Ax Tryz.func104 (by kernel_rfl) rfl
theorem Zg : As Tryz.prog 156 := Ax Tryz.func156 (by kernel_rfl) rfl
theorem Iv : As Tryz.prog 106 := Ax Tryz.func106 (by kernel_rfl) rfl
theorem Q9o : As Tryz.prog 100 := Ax Tryz.func100 (by kernel_rfl) rfl
theorem Jx : As Tryz.prog 46 := Ax Tryz.func46 (by kernel_rfl) rfl
theorem Ml : As Tryz.prog 91 := Ax Tryz.func91 (by kernel_rfl) rfl
theorem Mq : As Tryz.prog 102 := Ax Tryz.func102 (by kernel_rfl) rfl
theorem Mo : As Tryz.prog 141 := Ax Tryz.func141 (by kernel_rfl) rfl
theorem Ow : As Tryz.prog 22 := Ax Tryz.func22 (by kernel_rfl) rfl
theorem R0 : As Tryz.prog 52 := Ax Tryz.func52 (by kernel_rfl) rfl
theorem Q9m : As Tryz.prog 103 := Ax Tryz.func103 (by kernel_rfl) rfl
theorem Q73 : As Tryz.prog 50 := Ax Tryz.func50 (by kernel_rfl) rfl
theorem Q7s : As Tryz.prog 97 := Ax Tryz.func97 (by kernel_rfl) rfl
theorem Q7r : As Tryz.prog 98 := Ax Tryz.func98 (by kernel_rfl) rfl
theorem Yk : As Tryz.prog 99 := Ax Tryz.func99 (by kernel_rfl) rfl
theorem Q9n : As Tryz.prog 101 := Ax Tryz.func101 (by kernel_rfl) rfl
theorem Q9k : As Tryz.prog 105 := Ax Tryz.func105 (by kernel_rfl) rfl
theorem Q8y : As Tryz.prog 142 := Ax Tryz.func142 (by kernel_rfl) rfl
theorem Q8x : As Tryz.prog 143 := Ax Tryz.func143 (by kernel_rfl) rfl
theorem Q8f : As Tryz.prog 177 := Ax Tryz.func177 (by kernel_rfl) rfl
theorem Q8w : As Tryz.prog 144 := Ax Tryz.func144 (by kernel_rfl) rfl
theorem Q8v : As Tryz.prog 145 := Ax Tryz.func145 (by kernel_rfl) rfl
theorem Q7u : As Tryz.prog 92 := Ax Tryz.func92 (by kernel_rfl) rfl
theorem Q2f (l : List (List UInt8)) (a : AV) (p : (List UInt8) → Bool) (hl : l.length ≤ 4611686018427387904) (ha : ∀ i, i < l.length → FunV Tryz.prog a [(.str (nth l i))] (.bool (p (nth l i)))) :
  FnV Tryz.prog 155 [(Ch l), (.clo a)] (.int .i64 (D0 p l)) := by
 refine Ba [.tmp 4] Tryz.func155 rfl Tryz.ntmps155 rfl rfl (fun B F hF => ?_)
 refine Aa [] [0, 1] ?_
 refine Ab ?_
 refine Aa [] [0, 1, 7, 8] ?_
 refine A3 ?_
 refine Bs (fun g y => ∃ (i : Nat), i ≤ l.length ∧ (∀ j, j < i → p (nth l j) = false) ∧ y = ⟨[(0, (Ch l)), (1, (.clo a)), (7, (.int .i64 ((l.length : Int)))), (8, (.int .i64 ((i : Int))))], [], 0⟩ ∧ g = l.length - i) [0, 1, 7, 8] 0 _ (by omega) ⟨0, (by omega), (by exact fun j hj => by omega), (by kernel_rfl), rfl⟩ ?_
 rintro g1 y1 ⟨i, f1_1, f1_2, rfl, rfl⟩
 refine Aa [] [0, 1, 7, 8, 9] ?_
 refine Ab ?_
 refine A8 (p := (i : Int) < (l.length : Int)) (by kernel_rfl) (fun c1 => ?_) (fun c1 => ?_)
 ·refine Ai ?_
  refine Ab ?_
  refine A3 ?_
  refine Aa [] [0, 1, 5, 7, 8] ?_
  refine Ab ?_
  refine Ar ?_
  refine Bj 5 0 [] [0, 1, 5, 7, 8, 11, 15] [] hk0 v0 (cc 3 (p := (0 ≤ (i : Int) ∧ i < l.length)) (by omega) <| c0) ?_
  refine F7 (s' := [(0, (Ch l)), (1, (.clo a)), (5, (.int .i64 ((i : Int)))), (7, (.int .i64 ((l.length : Int)))), (8, (.int .i64 ((i : Int)))), (11, (.clo a)), (15, (.str (nth l i))), (16, (.bool (p (nth l i))))]) (a := (.clo a)) (al := [(.str (nth l i))]) (r := (.bool (p (nth l i)))) (by kernel_rfl) (by kernel_rfl) (by kernel_rfl) (by kernel_rfl) (by kernel_rfl) ((ha i (by omega)).clo) (by kernel_rfl) ?_
  refine Be ?_
  refine A9 (q := p (nth l i)) (by kernel_rfl) (fun c2 => ?_) (fun c2 => ?_)
  ·try simp only [Al] at c2
   refine Aa [] [4] ?_
   refine Ag ?_
   refine RK wR [(.int .i64 ((i : Int)))] ?_
   exact Same.of_eq (by rw [Jq (by omega) f1_2 (by simp_all)]; rfl)
  ·try simp only [Al] at c2
   refine Ai ?_
   refine Ar ?_
   refine A2 0 [] [0, 1, 7, 8] [] hk0 v0 (cc 0 (p := (-9223372036854775808 ≤ (i : Int) + 1 ∧ (i : Int) + 1 ≤ 9223372036854775807)) (by omega) <| c0) ?_
   refine ⟨by kernel_rfl, _, ?_, i + 1, ?_, ?_, (by kernel_rfl), rfl⟩
   ·omega
   ·omega
   ·intro j hj
    by_cases h : j = i
    ·subst h; simp_all
    ·exact f1_2 j (by omega)
 ·refine Bl ?_
  refine Aa [] [4] ?_
  refine Ag ?_
  refine RK wR [(.int .i64 (-1))] ?_
  exact Same.of_eq (by rw [Jp (fun j hj => f1_2 j (by omega))]; rfl)
theorem Q2g (l : List (List UInt8)) (a : AV) (p : (List UInt8) → Bool) (hl : l.length ≤ 4611686018427387904) (ha : ∀ i, i < l.length → FunV Tryz.prog a [(.str (nth l i))] (.bool (p (nth l i)))) :
  FnV Tryz.prog 104 [(Ch l), (.clo a)] (.bool (l.any p)) := by
 refine Ba [.tmp 4] Tryz.func104 rfl Tryz.ntmps104 rfl rfl (fun B F hF => ?_)
 refine Aa [] [0, 1] ?_
 refine Ae [] [4] [] (hk 2 Q8p (Q2f l a p hl ha) <| hk0) v0 c0 ?_
 refine Ag ?_
 refine RK wR [(.bool (decide (0 ≤ (D0 p l))))] ?_
 exact Same.of_eq (by simp only [Aj]; rw [Jr])
def Fv (i : Nat) (d : DepT) : Bool := decide (Bq d = 0) && ((!(i == 0 || i == 4)) || decide (d.kind = 1)) && ((!(i == 0)) || decide (d.op = 0) || decide (d.op = 2))
def Dq (i : Nat) (l : List DepT) : Bool := decide (l.length ≤ 16) && l.all (Fv i)
def Fd (p : PkgT) : Bool := Dq 0 p.provides && Dq 1 p.requires && Dq 2 p.pre && Dq 3 p.conflicts && Dq 4 p.obsoletes && Dq 5 p.recommends && Dq 6 p.supplements
theorem all_nth {α : Type} [Inhabited α] {p : α → Bool} {l : List α} : l.all p = true ↔ ∀ j, j < l.length → p (nth l j) = true := by
 constructor
 ·intro h j hj
  rw [show nth l j = l[j] by simp [nth, hj]]; exact List.all_eq_true.1 h _ (List.getElem_mem hj)
 ·intro h
  refine List.all_eq_true.2 fun x hx => ?_
  obtain ⟨j, hj, rfl⟩ := List.getElem_of_mem hx
  have := h j hj
  rwa [show nth l j = l[j] by simp [nth, hj]] at this
theorem W7 {i : Nat} {l : List DepT} {k : Nat} (h : l.length ≤ 16) (hk : l.length ≤ k) (h2 : ∀ j, j < k → Fv i (nth l j) = true) : Dq i l = true := by
 unfold Dq
 rw [all_nth.2 fun j hj => h2 j (by omega), decide_eq_true h]; rfl
def PkgT.list (p : PkgT) : Nat → List DepT
 | 0 => p.provides
 | 1 => p.requires
 | 2 => p.pre
 | 3 => p.conflicts
 | 4 => p.obsoletes
 | 5 => p.recommends
 | _ => p.supplements
theorem Zp {p : PkgT} (i : Nat) (hi : i < 7) (h : Dq i (PkgT.list p i) = false) : Fd p = false := by
 have : i = 0 ∨ i = 1 ∨ i = 2 ∨ i = 3 ∨ i = 4 ∨ i = 5 ∨ i = 6 := by omega
 rcases this with rfl | rfl | rfl | rfl | rfl | rfl | rfl <;> (unfold Fd; simp only [PkgT.list] at h; simp [h])
theorem Zq {p : PkgT} (i : Nat) (hi : i < 7) (h : 16 < (PkgT.list p i).length) : Fd p = false := Zp i hi (by unfold Dq; rw [decide_eq_false (by omega)]; rfl)
theorem O3 {p : PkgT} (i : Nat) {j : Nat} (hi : i < 7) (hj : j < (PkgT.list p i).length) (h : Fv i (nth (PkgT.list p i) j) = false) : Fd p = false := Zp i hi (by
 unfold Dq
 have : (PkgT.list p i).all (Fv i) = false := by
  cases hq : (PkgT.list p i).all (Fv i) with
  | false => rfl
  | true => rw [all_nth.1 hq j hj] at h; cases h
 rw [this, Bool.and_false])
theorem Q9q {p : PkgT} (h0 : Dq 0 p.provides = true) (h1 : Dq 1 p.requires = true) (h2 : Dq 2 p.pre = true) (h3 : Dq 3 p.conflicts = true) (h4 : Dq 4 p.obsoletes = true) (h5 : Dq 5 p.recommends = true) (h6 : Dq 6 p.supplements = true) : Fd p = true := by
 unfold Fd; rw [h0, h1, h2, h3, h4, h5, h6]; rfl
theorem Nj {i : Nat} (h : i < 7) : i = 0 ∨ i = 1 ∨ i = 2 ∨ i = 3 ∨ i = 4 ∨ i = 5 ∨ i = 6 := by omega
theorem Zr {p : PkgT} (h : ∀ j, j < 7 → Dq j (PkgT.list p j) = true) : Fd p = true := Q9q (h 0 (by omega)) (h 1 (by omega)) (h 2 (by omega)) (h 3 (by omega)) (h 4 (by omega)) (h 5 (by omega)) (h 6 (by omega))
theorem W4 {p : PkgT} (h : p.depSize ≤ 4194304) {i k : Nat} (hi : i < 7) (hk : k < (PkgT.list p i).length) : (nth (PkgT.list p i) k).size ≤ 4194304 := by
 have h1 := Mu hk
 unfold PkgT.depSize at h
 rcases Nj hi with rfl | rfl | rfl | rfl | rfl | rfl | rfl <;> (simp only [PkgT.list] at h1 ⊢; omega)
theorem W5 {p : PkgT} (h : p.depSize ≤ 4194304) {i : Nat} (hi : i < 7) : (PkgT.list p i).length ≤ 4194304 := by
 unfold PkgT.depSize at h
 have h0 := Ds p.provides
 have h1 := Ds p.requires
 have h2 := Ds p.pre
 have h3 := Ds p.conflicts
 have h4 := Ds p.obsoletes
 have h5 := Ds p.recommends
 have h6 := Ds p.supplements
 rcases Nj hi with rfl | rfl | rfl | rfl | rfl | rfl | rfl <;> (simp only [PkgT.list]; omega)
theorem Q56 (p : PkgT) :
  FnV Tryz.prog 107 [(.fp (Ak p))] (.row 1 7 (fun i => .fp (Ah 5 Az (PkgT.list p i)))) := by
 refine Ba [.tmp 2] Tryz.func107 rfl Tryz.ntmps107 rfl rfl (fun B F hF => ?_)
 refine Aa [] [0] ?_
 refine Cg [] [2] [] hk0 v0 c0 ?_
 refine Ag ?_
 refine RK wR [(.row 1 7 (fun ix => (Fz 1 7 [(.fp (Ah 5 Az p.provides)), (.fp (Ah 5 Az p.requires)), (.fp (Ah 5 Az p.pre)), (.fp (Ah 5 Az p.conflicts)), (.fp (Ah 5 Az p.obsoletes)), (.fp (Ah 5 Az p.recommends)), (.fp (Ah 5 Az p.supplements))]).getD ix Bh))] ?_
 simp only [Aj]
 exact (Imp.row fun i hi => Imp.of_eq (by rcases Nj hi with rfl | rfl | rfl | rfl | rfl | rfl | rfl <;> rfl)).same
theorem Q3t (p : PkgT) :
  FnV Tryz.prog 177 [(Ak p)] (.row 1 7 (fun i => Ah 5 Az (PkgT.list p i))) := by
 refine Ba [.tmp 2] Tryz.func177 rfl Tryz.ntmps177 rfl rfl (fun B F hF => ?_)
 refine Ae [] [1] [(1, 1)] hk0 v0 c0 ?_
 refine Aa [] [2] ?_
 refine Ag ?_
 refine RK wR [(.row 1 7 (fun ix => (Fz 1 7 [(Ah 5 Az p.provides), (Ah 5 Az p.requires), (Ah 5 Az p.pre), (Ah 5 Az p.conflicts), (Ah 5 Az p.obsoletes), (Ah 5 Az p.recommends), (Ah 5 Az p.supplements)]).getD ix Bh))] ?_
 simp only [Aj]
 exact (Imp.row fun i hi => Imp.of_eq (by rcases Nj hi with rfl | rfl | rfl | rfl | rfl | rfl | rfl <;> rfl)).same
theorem Q9p (p : PkgT) (hs : p.depSize ≤ 4194304) :
  FnV Tryz.prog 103 [(Ak p)] (.bool (Fd p)) := by
 refine Ba [.tmp 2] Tryz.func103 rfl Tryz.ntmps103 rfl rfl (fun B F hF => ?_)
 refine Ae [] [1] [(1, 1)] hk0 v0 c0 ?_
 refine Ab ?_
 refine Ae [] [8, 9, 10] [] (hk 0 Zl (Q56 p) <| hk0) v0 c0 ?_
 refine A3 ?_
 refine Bs (fun g y => ∃ (i : Nat), i ≤ 7 ∧ (∀ j, j < i → Dq j (PkgT.list p j) = true) ∧ y = ⟨[(8, (.row 1 7 (fun i => .fp (Ah 5 Az (PkgT.list p i))))), (9, (.int .i64 7)), (10, (.int .i64 ((i : Int))))], [], 1⟩ ∧ g = 7 - i) [8, 9, 10] 1 _ (by omega) ⟨0, (by omega), (by exact fun j hj => by omega), (by kernel_rfl), rfl⟩ ?_
 rintro g1 y1 ⟨i, f1_1, f1_2, rfl, rfl⟩
 refine Aa [] [8, 9, 10, 11] ?_
 refine Ab ?_
 refine A8 (p := (i : Int) < 7) (by kernel_rfl) (fun c1 => ?_) (fun c1 => ?_)
 ·have hi0 : ((i : Int) = 0) = (i = 0) := by rw [eq_iff_iff]; omega
  have hi4 : ((i : Int) = 4) = (i = 4) := by rw [eq_iff_iff]; omega
  have hll := W5 hs (i := i) (by omega)
  refine Ai ?_
  refine Ab ?_
  refine A3 ?_
  refine Ae [] [3, 4, 8, 9, 10] [] hk0 v0 (cc 1 (p := (0 ≤ (i : Int) ∧ i < 7)) (by omega) <| c0) ?_
  refine Ab ?_
  refine Aa [] [3, 4, 8, 9, 10, 19] ?_
  refine A8 (p := 16 < ((PkgT.list p i).length : Int)) (by kernel_rfl) (fun c2 => ?_) (fun c2 => ?_)
  ·refine Aa [] [2] ?_
   refine Ag ?_
   refine RK wR [(.bool false)] ?_
   exact Same.of_eq (by rw [Zq i (by omega) (by omega)]; rfl)
  ·refine Ai ?_
   refine Aa [] [3, 8, 9, 10, 22, 23, 24] ?_
   refine A3 ?_
   refine Bs (fun g y => ∃ (k : Nat), k ≤ (PkgT.list p i).length ∧ (∀ j, j < k → Fv i (nth (PkgT.list p i) j) = true) ∧ y = ⟨[(3, (.int .i64 ((i : Int)))), (8, (.row 1 7 (fun i => .fp (Ah 5 Az (PkgT.list p i))))), (9, (.int .i64 7)), (10, (.int .i64 ((i : Int)))), (22, (Ah 5 Az (PkgT.list p i))), (23, (.int .i64 (((PkgT.list p i).length : Int)))), (24, (.int .i64 ((k : Int))))], [], 1⟩ ∧ g = (PkgT.list p i).length - k) [3, 8, 9, 10, 22, 23, 24] 1 _ (by omega) ⟨0, (by omega), (by exact fun j hj => by omega), (by kernel_rfl), rfl⟩ ?_
   rintro g2 y2 ⟨k, f2_1, f2_2, rfl, rfl⟩
   refine Aa [] [3, 8, 9, 10, 22, 23, 24, 25] ?_
   refine Ab ?_
   refine A8 (p := (k : Int) < ((PkgT.list p i).length : Int)) (by kernel_rfl) (fun c3 => ?_) (fun c3 => ?_)
   ·refine Ai ?_
    refine Ab ?_
    refine A3 ?_
    refine Ae [] [3, 6, 8, 9, 10, 22, 23, 24] [] hk0 v0 (cc 0 (p := (0 ≤ (k : Int) ∧ k < (PkgT.list p i).length)) (by omega) <| c0) ?_
    obtain ⟨b1, hb1⟩ : ∃ b, b = (!decide ((i : Int) = 0)) := ⟨_, rfl⟩
    obtain ⟨b2, hb2⟩ : ∃ b, b = (b1 && (!decide ((i : Int) = 4))) := ⟨_, rfl⟩
    obtain ⟨b3, hb3⟩ : ∃ b, b = (b2 || (decide (((nth (PkgT.list p i) k).kind) = 1))) := ⟨_, rfl⟩
    have qh1 : ((b1 = true → b1 = true)) ∧ ((b1 = true → b1 = true)) ∧ (((!b2) = true → (!b2) = true)) ∧ (((!b2) = true → (!b2) = true)) ∧ ((b2 = false → (!b2) = true)) := by
     first | omega | (simp; done) | (by_cases a1 : Bq (nth (PkgT.list p i) k) = 0 <;> by_cases a2 : DepT.kind (nth (PkgT.list p i) k) = 1 <;> by_cases a3 : DepT.op (nth (PkgT.list p i) k) = 0 <;> by_cases a4 : DepT.op (nth (PkgT.list p i) k) = 2 <;> by_cases b0 : i = 0 <;> by_cases b4 : i = 4 <;> simp_all)
    refine Ae [31, 32, 35, 36, 37] [3, 6, 7, 8, 9, 10, 22, 23, 24] [(0, 6)] hk0 (vk 3 30 (a := .bool (!decide ((i : Int) = 0))) (b := .bool b1) (Imp.of_eq (by rw [hb1])) <| vk 7 34 (a := .bool (b1 && (!decide ((i : Int) = 4)))) (b := .bool b2) (Imp.of_eq (by rw [hb2])) <| vk 11 38 (a := .bool (b2 || (decide (((nth (PkgT.list p i) k).kind) = 1)))) (b := .bool b3) (Imp.of_eq (by rw [hb3])) <| v0) (cc 4 (p := (b1 = true → b1 = true)) qh1.1 <| cc 5 (p := (b1 = true → b1 = true)) qh1.2.1 <| cc 8 (p := ((!b2) = true → (!b2) = true)) qh1.2.2.1 <| cc 9 (p := ((!b2) = true → (!b2) = true)) qh1.2.2.2.1 <| cc 10 (p := (b2 = false → (!b2) = true)) qh1.2.2.2.2 <| c0) ?_
    obtain ⟨b4, hb4⟩ : ∃ b, b = ((!b3) || (!decide ((Bq (nth (PkgT.list p i) k)) = 0))) := ⟨_, rfl⟩
    have qh2 : (((!(!b3)) = true → (!(!b3)) = true)) ∧ (((!b3) = false → (!(!b3)) = true)) ∧ (((!b4) = true → (!b4) = true)) ∧ (((!b4) = true → (!b4) = true)) ∧ ((((!b4) && (decide ((i : Int) = 0))) = true → ((!b4) && (decide ((i : Int) = 0))) = true)) ∧ ((((!b4) && (decide ((i : Int) = 0))) = true → ((!b4) && (decide ((i : Int) = 0))) = true)) ∧ (((!b4) = true → ((!b4) = true) ∧ ((decide ((i : Int) = 0)) = true → ((!b4) && (decide ((i : Int) = 0))) = true))) ∧ (((!b4) = true → (!b4) = true)) ∧ ((((!b4) && ((decide ((i : Int) = 0)) && (!decide (((nth (PkgT.list p i) k).op) = 0)))) = true → ((!b4) && ((decide ((i : Int) = 0)) && (!decide (((nth (PkgT.list p i) k).op) = 0)))) = true)) ∧ ((((!b4) && ((decide ((i : Int) = 0)) && (!decide (((nth (PkgT.list p i) k).op) = 0)))) = true → ((!b4) && ((decide ((i : Int) = 0)) && (!decide (((nth (PkgT.list p i) k).op) = 0)))) = true)) ∧ (((!b4) = true → ((!b4) = true) ∧ (((decide ((i : Int) = 0)) && (!decide (((nth (PkgT.list p i) k).op) = 0))) = true → ((!b4) && ((decide ((i : Int) = 0)) && (!decide (((nth (PkgT.list p i) k).op) = 0)))) = true))) ∧ ((b4 = false → (!b4) = true)) := by
     first | omega | (simp; done) | (by_cases a1 : Bq (nth (PkgT.list p i) k) = 0 <;> by_cases a2 : DepT.kind (nth (PkgT.list p i) k) = 1 <;> by_cases a3 : DepT.op (nth (PkgT.list p i) k) = 0 <;> by_cases a4 : DepT.op (nth (PkgT.list p i) k) = 2 <;> by_cases b0 : i = 0 <;> by_cases b4 : i = 4 <;> simp_all)
    refine Ae [42, 44, 47, 48, 49, 50, 51, 52, 53, 54, 55, 56, 57, 58] [3, 8, 9, 10, 22, 23, 24, 59] [] (hkg 4 (!(!b3)) Ow (fun cg => S9 (nth (PkgT.list p i) k) (W4 hs (by omega) (by omega))) <| hk0) (vk 7 45 (a := .bool ((!b3) || (!decide ((Bq (nth (PkgT.list p i) k)) = 0)))) (b := .bool b4) (Imp.of_eq (by rw [hb4])) <| v0) (cc 4 (p := (!(!b3)) = true → (!(!b3)) = true) (by simp) <| cc 5 (p := ((!(!b3)) = true → (!(!b3)) = true)) qh2.1 <| cc 6 (p := ((!b3) = false → (!(!b3)) = true)) qh2.2.1 <| cc 9 (p := ((!b4) = true → (!b4) = true)) qh2.2.2.1 <| cc 10 (p := ((!b4) = true → (!b4) = true)) qh2.2.2.2.1 <| cc 12 (p := (((!b4) && (decide ((i : Int) = 0))) = true → ((!b4) && (decide ((i : Int) = 0))) = true)) qh2.2.2.2.2.1 <| cc 13 (p := (((!b4) && (decide ((i : Int) = 0))) = true → ((!b4) && (decide ((i : Int) = 0))) = true)) qh2.2.2.2.2.2.1 <| cc 14 (p := ((!b4) = true → ((!b4) = true) ∧ ((decide ((i : Int) = 0)) = true → ((!b4) && (decide ((i : Int) = 0))) = true))) qh2.2.2.2.2.2.2.1 <| cc 15 (p := ((!b4) = true → (!b4) = true)) qh2.2.2.2.2.2.2.2.1 <| cc 17 (p := (((!b4) && ((decide ((i : Int) = 0)) && (!decide (((nth (PkgT.list p i) k).op) = 0)))) = true → ((!b4) && ((decide ((i : Int) = 0)) && (!decide (((nth (PkgT.list p i) k).op) = 0)))) = true)) qh2.2.2.2.2.2.2.2.2.1 <| cc 18 (p := (((!b4) && ((decide ((i : Int) = 0)) && (!decide (((nth (PkgT.list p i) k).op) = 0)))) = true → ((!b4) && ((decide ((i : Int) = 0)) && (!decide (((nth (PkgT.list p i) k).op) = 0)))) = true)) qh2.2.2.2.2.2.2.2.2.2.1 <| cc 19 (p := ((!b4) = true → ((!b4) = true) ∧ (((decide ((i : Int) = 0)) && (!decide (((nth (PkgT.list p i) k).op) = 0))) = true → ((!b4) && ((decide ((i : Int) = 0)) && (!decide (((nth (PkgT.list p i) k).op) = 0)))) = true))) qh2.2.2.2.2.2.2.2.2.2.2.1 <| cc 20 (p := (b4 = false → (!b4) = true)) qh2.2.2.2.2.2.2.2.2.2.2.2 <| c0) ?_
    refine A9 (q := b4 || (((decide ((i : Int) = 0)) && (!decide (((nth (PkgT.list p i) k).op) = 0))) && (!decide (((nth (PkgT.list p i) k).op) = 2)))) (by kernel_rfl) (fun c4 => ?_) (fun c4 => ?_)
    ·subst hb4 hb3 hb2 hb1
     try simp only [Al] at c4
     refine Aa [] [2] ?_
     refine Ag ?_
     refine RK wR [(.bool false)] ?_
     exact Same.of_eq (by rw [O3 i (j := k) (by omega) (by omega) (by unfold Fv; by_cases a1 : Bq (nth (PkgT.list p i) k) = 0 <;> by_cases a2 : DepT.kind (nth (PkgT.list p i) k) = 1 <;> by_cases a3 : DepT.op (nth (PkgT.list p i) k) = 0 <;> by_cases a4 : DepT.op (nth (PkgT.list p i) k) = 2 <;> by_cases b0 : i = 0 <;> by_cases b4 : i = 4 <;> simp_all)]; rfl)
    ·subst hb4 hb3 hb2 hb1
     try simp only [Al] at c4
     refine Ai ?_
     refine Ar ?_
     refine A2 0 [] [3, 8, 9, 10, 22, 23, 24] [] hk0 v0 (cc 0 (p := (-9223372036854775808 ≤ (k : Int) + 1 ∧ (k : Int) + 1 ≤ 9223372036854775807)) (by omega) <| c0) ?_
     refine ⟨by kernel_rfl, _, ?_, k + 1, ?_, ?_, (by kernel_rfl), rfl⟩
     ·omega
     ·omega
     ·intro j hj
      by_cases h : j = k
      ·subst h; unfold Fv; by_cases a1 : Bq (nth (PkgT.list p i) j) = 0 <;> by_cases a2 : DepT.kind (nth (PkgT.list p i) j) = 1 <;> by_cases a3 : DepT.op (nth (PkgT.list p i) j) = 0 <;> by_cases a4 : DepT.op (nth (PkgT.list p i) j) = 2 <;> by_cases b0 : i = 0 <;> by_cases b4 : i = 4 <;> simp_all
      ·exact f2_2 j (by omega)
   ·refine Bl ?_
    refine Ar ?_
    refine A2 0 [] [8, 9, 10] [] hk0 v0 (cc 0 (p := (-9223372036854775808 ≤ (i : Int) + 1 ∧ (i : Int) + 1 ≤ 9223372036854775807)) (by omega) <| c0) ?_
    refine ⟨by kernel_rfl, _, ?_, i + 1, ?_, ?_, (by kernel_rfl), rfl⟩
    ·omega
    ·omega
    ·intro j hj
     by_cases h : j = i
     ·subst h; exact W7 (k := k) (by omega) (by omega) f2_2
     ·exact f1_2 j (by omega)
 ·refine Bl ?_
  refine Aa [] [2] ?_
  refine Ag ?_
  refine RK wR [(.bool true)] ?_
  exact Same.of_eq (by rw [Zr fun j hj => f1_2 j (by omega)]; rfl)
theorem Q3x (p : PkgT) (hs : p.depSize ≤ 4194304) :
  FnV Tryz.prog 144 [(Ak p)] (.bool (Fd p)) := by
 refine Ba [.tmp 2] Tryz.func144 rfl Tryz.ntmps144 rfl rfl (fun B F hF => ?_)
 refine Ae [] [1] [(1, 1)] hk0 v0 c0 ?_
 refine Ae [] [3] [] (hk 1 Q8f (Q3t p) <| hk0) v0 c0 ?_
 refine Ab ?_
 refine Aa [] [3, 4] ?_
 refine A3 ?_
 refine Bs (fun g y => ∃ (i : Nat), i ≤ 7 ∧ (∀ j, j < i → Dq j (PkgT.list p j) = true) ∧ y = ⟨[(3, (.row 1 7 (fun i => Ah 5 Az (PkgT.list p i)))), (4, (.int .i64 ((i : Int))))], [], 1⟩ ∧ g = 7 - i) [3, 4] 1 _ (by omega) ⟨0, (by omega), (by exact fun j hj => by omega), (by kernel_rfl), rfl⟩ ?_
 rintro g1 y1 ⟨i, f1_1, f1_2, rfl, rfl⟩
 refine Ab ?_
 refine Aa [] [3, 4, 12] ?_
 refine A8 (p := (i : Int) < 7) (by kernel_rfl) (fun c1 => ?_) (fun c1 => ?_)
 ·have hi0 : ((i : Int) = 0) = (i = 0) := by rw [eq_iff_iff]; omega
  have hi4 : ((i : Int) = 4) = (i = 4) := by rw [eq_iff_iff]; omega
  have hll := W5 hs (i := i) (by omega)
  refine Ai ?_
  refine Ab ?_
  refine A3 ?_
  refine Ab ?_
  refine Ae [] [3, 4, 20] [] hk0 v0 (cc 2 (p := (0 ≤ (i : Int) ∧ i < 7)) (by omega) <| c0) ?_
  refine A8 (p := 16 < ((PkgT.list p i).length : Int)) (by kernel_rfl) (fun c2 => ?_) (fun c2 => ?_)
  ·refine Aa [] [2] ?_
   refine Ag ?_
   refine RK wR [(.bool false)] ?_
   exact Same.of_eq (by rw [Zq i (by omega) (by omega)]; rfl)
  ·refine Ai ?_
   refine Aa [] [3, 4, 5] ?_
   refine A3 ?_
   refine Bs (fun g y => ∃ (k : Nat), k ≤ (PkgT.list p i).length ∧ (∀ j, j < k → Fv i (nth (PkgT.list p i) j) = true) ∧ y = ⟨[(3, (.row 1 7 (fun i => Ah 5 Az (PkgT.list p i)))), (4, (.int .i64 ((i : Int)))), (5, (.int .i64 ((k : Int))))], [], 1⟩ ∧ g = (PkgT.list p i).length - k) [3, 4, 5] 1 _ (by omega) ⟨0, (by omega), (by exact fun j hj => by omega), (by kernel_rfl), rfl⟩ ?_
   rintro g2 y2 ⟨k, f2_1, f2_2, rfl, rfl⟩
   refine Ab ?_
   refine Ae [] [3, 4, 5, 27] [] hk0 v0 (cc 3 (p := (0 ≤ (i : Int) ∧ i < 7)) (by omega) <| c0) ?_
   refine A8 (p := (k : Int) < ((PkgT.list p i).length : Int)) (by kernel_rfl) (fun c3 => ?_) (fun c3 => ?_)
   ·refine Ai ?_
    refine Ab ?_
    refine A3 ?_
    refine Ae (CS := [(2, (0 ≤ (i : Int) ∧ i < 7)), (5, (0 ≤ (k : Int) ∧ k < (PkgT.list p i).length))]) [] [3, 4, 5, 6] [] hk0 v0 (by refine cc _ ?_ <| cc _ ?_ c0 <;> omega) ?_
    refine Ab ?_
    refine Ae [] [3, 4, 5, 6, 39] [(0, 6)] (hk 1 R0 (Uu (nth (PkgT.list p i) k) (W4 hs (by omega) (by omega))) <| hk0) v0 c0 ?_
    refine Cj (p := (Bq (nth (PkgT.list p i) k)) = 0) (by kernel_rfl) (fun c4 => ?_) (fun c4 => ?_)
    ·refine Aa [] [2] ?_
     refine Ag ?_
     refine RK wR [(.bool false)] ?_
     exact Same.of_eq (by rw [O3 i (j := k) (by omega) (by omega) (by unfold Fv; by_cases a1 : Bq (nth (PkgT.list p i) k) = 0 <;> by_cases a2 : DepT.kind (nth (PkgT.list p i) k) = 1 <;> by_cases a3 : DepT.op (nth (PkgT.list p i) k) = 0 <;> by_cases a4 : DepT.op (nth (PkgT.list p i) k) = 2 <;> by_cases b0 : i = 0 <;> by_cases b4 : i = 4 <;> simp_all)]; rfl)
    ·refine Ai ?_
     refine Ab ?_
     obtain ⟨b1, hb1⟩ : ∃ b, b = (decide ((i : Int) = 0)) := ⟨_, rfl⟩
     obtain ⟨b2, hb2⟩ : ∃ b, b = (b1 || (decide ((i : Int) = 4))) := ⟨_, rfl⟩
     have qh1 : (((!b1) = true → (!b1) = true)) ∧ ((b1 = false → (!b1) = true)) ∧ ((b2 = true → b2 = true)) ∧ ((b2 = true → b2 = true)) ∧ ((b2 = true → b2 = true)) := by
      first | omega | (simp; done) | (by_cases a1 : Bq (nth (PkgT.list p i) k) = 0 <;> by_cases a2 : DepT.kind (nth (PkgT.list p i) k) = 1 <;> by_cases a3 : DepT.op (nth (PkgT.list p i) k) = 0 <;> by_cases a4 : DepT.op (nth (PkgT.list p i) k) = 2 <;> by_cases b0 : i = 0 <;> by_cases b4 : i = 4 <;> simp_all)
     refine Ae [43, 44, 47, 48, 49] [3, 4, 5, 6, 50] [] hk0 (vk 3 42 (a := .bool (decide ((i : Int) = 0))) (b := .bool b1) (Imp.of_eq (by rw [hb1])) <| vk 7 46 (a := .bool (b1 || (decide ((i : Int) = 4)))) (b := .bool b2) (Imp.of_eq (by rw [hb2])) <| v0) (cc 4 (p := ((!b1) = true → (!b1) = true)) qh1.1 <| cc 5 (p := (b1 = false → (!b1) = true)) qh1.2.1 <| cc 8 (p := (b2 = true → b2 = true)) qh1.2.2.1 <| cc 9 (p := (b2 = true → b2 = true)) qh1.2.2.2.1 <| cc 10 (p := (b2 = true → b2 = true)) qh1.2.2.2.2 <| c0) ?_
     refine A9 (q := b2 && (!decide (((nth (PkgT.list p i) k).kind) = 1))) (by kernel_rfl) (fun c5 => ?_) (fun c5 => ?_)
     ·subst hb2 hb1
      try simp only [Al] at c5
      refine Aa [] [2] ?_
      refine Ag ?_
      refine RK wR [(.bool false)] ?_
      exact Same.of_eq (by rw [O3 i (j := k) (by omega) (by omega) (by unfold Fv; by_cases a1 : Bq (nth (PkgT.list p i) k) = 0 <;> by_cases a2 : DepT.kind (nth (PkgT.list p i) k) = 1 <;> by_cases a3 : DepT.op (nth (PkgT.list p i) k) = 0 <;> by_cases a4 : DepT.op (nth (PkgT.list p i) k) = 2 <;> by_cases b0 : i = 0 <;> by_cases b4 : i = 4 <;> simp_all)]; rfl)
     ·subst hb2 hb1
      try simp only [Al] at c5
      refine Ai ?_
      obtain ⟨b3, hb3⟩ : ∃ b, b = (decide ((i : Int) = 0)) := ⟨_, rfl⟩
      obtain ⟨b4, hb4⟩ : ∃ b, b = (b3 && (!decide (((nth (PkgT.list p i) k).op) = 0))) := ⟨_, rfl⟩
      have qh2 : ((b3 = true → b3 = true)) ∧ ((b3 = true → b3 = true)) ∧ ((b3 = true → b3 = true)) ∧ ((b4 = true → b4 = true)) ∧ ((b4 = true → b4 = true)) ∧ ((b4 = true → b4 = true)) := by
       first | omega | (simp; done) | (by_cases a1 : Bq (nth (PkgT.list p i) k) = 0 <;> by_cases a2 : DepT.kind (nth (PkgT.list p i) k) = 1 <;> by_cases a3 : DepT.op (nth (PkgT.list p i) k) = 0 <;> by_cases a4 : DepT.op (nth (PkgT.list p i) k) = 2 <;> by_cases b0 : i = 0 <;> by_cases b4 : i = 4 <;> simp_all)
      refine Ae [54, 55, 56, 59, 60, 61] [3, 4, 5, 62] [] hk0 (vk 3 53 (a := .bool (decide ((i : Int) = 0))) (b := .bool b3) (Imp.of_eq (by rw [hb3])) <| vk 7 57 (a := .bool (b3 && (!decide (((nth (PkgT.list p i) k).op) = 0)))) (b := .bool b4) (Imp.of_eq (by rw [hb4])) <| v0) (cc 4 (p := (b3 = true → b3 = true)) qh2.1 <| cc 5 (p := (b3 = true → b3 = true)) qh2.2.1 <| cc 6 (p := (b3 = true → b3 = true)) qh2.2.2.1 <| cc 9 (p := (b4 = true → b4 = true)) qh2.2.2.2.1 <| cc 10 (p := (b4 = true → b4 = true)) qh2.2.2.2.2.1 <| cc 11 (p := (b4 = true → b4 = true)) qh2.2.2.2.2.2 <| c0) ?_
      refine A9 (q := b4 && (!decide (((nth (PkgT.list p i) k).op) = 2))) (by kernel_rfl) (fun c6 => ?_) (fun c6 => ?_)
      ·subst hb4 hb3
       try simp only [Al] at c6
       refine Aa [] [2] ?_
       refine Ag ?_
       refine RK wR [(.bool false)] ?_
       exact Same.of_eq (by rw [O3 i (j := k) (by omega) (by omega) (by unfold Fv; by_cases a1 : Bq (nth (PkgT.list p i) k) = 0 <;> by_cases a2 : DepT.kind (nth (PkgT.list p i) k) = 1 <;> by_cases a3 : DepT.op (nth (PkgT.list p i) k) = 0 <;> by_cases a4 : DepT.op (nth (PkgT.list p i) k) = 2 <;> by_cases b0 : i = 0 <;> by_cases b4 : i = 4 <;> simp_all)]; rfl)
      ·subst hb4 hb3
       try simp only [Al] at c6
       refine Ai ?_
       refine Ar ?_
       refine A2 0 [] [3, 4, 5] [] hk0 v0 (cc 1 (p := (-9223372036854775808 ≤ (k : Int) + 1 ∧ (k : Int) + 1 ≤ 9223372036854775807)) (by omega) <| c0) ?_
       refine ⟨by kernel_rfl, _, ?_, k + 1, ?_, ?_, (by kernel_rfl), rfl⟩
       ·omega
       ·omega
       ·intro j hj
        by_cases h : j = k
        ·subst h; unfold Fv; by_cases a1 : Bq (nth (PkgT.list p i) j) = 0 <;> by_cases a2 : DepT.kind (nth (PkgT.list p i) j) = 1 <;> by_cases a3 : DepT.op (nth (PkgT.list p i) j) = 0 <;> by_cases a4 : DepT.op (nth (PkgT.list p i) j) = 2 <;> by_cases b0 : i = 0 <;> by_cases b4 : i = 4 <;> simp_all
        ·exact f2_2 j (by omega)
   ·refine Bl ?_
    refine Ar ?_
    refine A2 0 [] [3, 4] [] hk0 v0 (cc 1 (p := (-9223372036854775808 ≤ (i : Int) + 1 ∧ (i : Int) + 1 ≤ 9223372036854775807)) (by omega) <| c0) ?_
    refine ⟨by kernel_rfl, _, ?_, i + 1, ?_, ?_, (by kernel_rfl), rfl⟩
    ·omega
    ·omega
    ·intro j hj
     by_cases h : j = i
     ·subst h; exact W7 (k := k) (by omega) (by omega) f2_2
     ·exact f1_2 j (by omega)
 ·refine Bl ?_
  refine Aa [] [2] ?_
  refine Ag ?_
  refine RK wR [(.bool true)] ?_
  exact Same.of_eq (by rw [Zr fun j hj => f1_2 j (by omega)]; rfl)
end Sv
end Go.Proofs.YtlfjokcbkopfeaaGreatDoor
end
section
namespace Go.Proofs.YtlfjokcbkopfeaaGreatDoor
open Go Go.RowKit
namespace Sv
attribute [local irreducible] SW SO Bg
set_option maxHeartbeats 1000000
set_option maxRecDepth 100000
def Eu (x : Nat) : Bool := (decide (97 ≤ x) && decide (x ≤ 122)) || (decide (48 ≤ x) && decide (x ≤ 57)) || decide (x = 95)
def Ew (x : Nat) : Bool := decide (32 ≤ x) && decide (x ≤ 126)
def F5 (s : List UInt8) (most : Int) (q : Nat → Bool) : Bool := decide ((s.length : Int) ≤ most) && decide (Lib.idxFunc (fun x => !q x) true ⟨s.toArray⟩ < 0)
theorem Q01 (s : List UInt8) (most : Int) {q : Nat → Bool} (hq : ∀ r, 128 ≤ r → q r = false) : F5 s most q = (decide ((s.length : Int) ≤ most) && s.all fun b => q b.toNat) := by
 unfold F5; rw [Q6p (fun r hr => by rw [hq r hr]; rfl)]; simp
theorem Q2n (r : Nat) (h : 128 ≤ r) : Eu r = false := by unfold Eu; simp; omega
theorem Q2w (r : Nat) (h : 128 ≤ r) : Ew r = false := by unfold Ew; simp; omega
theorem Q0z {s : List UInt8} {q : Nat → Bool} {i : Nat} (hi : i < s.length) (h : q (Af s i).toNat = false) : (s.all fun b => q b.toNat) = false := by
 rw [List.all_eq_false]
 rw [Ix hi] at h
 exact ⟨s[i], List.getElem_mem hi, by simp [h]⟩
theorem Q0y {s : List UInt8} {q : Nat → Bool} {i : Nat} (hi : s.length ≤ i) (h : ∀ j, j < i → q (Af s j).toNat = true) : (s.all fun b => q b.toNat) = true := by
 rw [List.all_eq_true]
 intro x hx
 obtain ⟨j, hj, rfl⟩ := List.getElem_of_mem hx
 have := h j (by omega)
 rwa [Ix hj] at this
def Iz (s : List UInt8) : Bool := decide (1 ≤ s.length) && decide (s.length ≤ 20) && s.all fun b => Eu b.toNat
def Hi (f : List UInt8) : Bool := A4 f 47 && Bf f
def Gq (s : List UInt8) : Bool := s.all fun b => Ew b.toNat
def H3 (l : List (List UInt8)) : Bool := decide (l.length ≤ 16) && l.all Hi
def Pe (l : List (List UInt8)) : Bool := l.any fun x => !Hi x
def Dn (p : PkgT) : Int :=
 if Bf p.name = false then 60
 else if B7 p.evr ≠ 0 then 61
 else if Iz p.arch = false then 62
 else if (decide (p.vendor.length ≤ 60) && Gq p.vendor) = false then 63
 else if Fd p = false then 64
 else if H3 p.files = false then 65
 else 0
def Hx (p : PkgT) : Int :=
 if Bf p.name = false then 60
 else if ¬ B7 p.evr = 0 then 61
 else if p.arch = [] ∨ F5 p.arch 20 Eu = false then 62
 else if F5 p.vendor 60 Ew = false then 63
 else if Fd p = false then 64
 else if (16 : Int) < (p.files.length : Int) ∨ Pe p.files = true then 65
 else 0
theorem Jf (p : PkgT) : Hx p = Dn p := by
 have ha1 : (p.arch = [] ∨ F5 p.arch 20 Eu = false) ↔ Iz p.arch = false := by
  rw [Q01 p.arch 20 Q2n]
  unfold Iz
  cases h : p.arch with
  | nil => simp
  | cons a r =>
   rw [show decide (1 ≤ (a :: r).length) = true by simp, Bool.true_and]
   rw [show decide (((a :: r).length : Int) ≤ 20) = decide ((a :: r).length ≤ 20) from decide_eq_decide.2 (by omega)]
   simp
 have ha2 : F5 p.vendor 60 Ew = (decide (p.vendor.length ≤ 60) && Gq p.vendor) := by
  unfold Gq
  rw [Q01 p.vendor 60 Q2w, show decide ((p.vendor.length : Int) ≤ 60) = decide (p.vendor.length ≤ 60) from decide_eq_decide.2 (by omega)]
 have ha3 : ((16 : Int) < (p.files.length : Int) ∨ Pe p.files = true) ↔ H3 p.files = false := by
  unfold Pe H3
  rw [X03]
  simp only [Bool.and_eq_false_iff, decide_eq_false_iff_not, Bool.not_eq_true']
  constructor
  ·rintro (h | h)
   ·left; omega
   ·exact .inr h
  ·rintro (h | h)
   ·left; omega
   ·exact .inr h
 unfold Hx Dn
 simp only [ha1, ha2, ha3]
def Hw (p : PkgT) : Int :=
 if Bf p.name = false then 60
 else if ¬ B7 p.evr = 0 then 61
 else if Iz p.arch = false then 62
 else if Gq p.vendor = false ∨ (60 : Int) < (p.vendor.length : Int) then 63
 else if Fd p = false then 64
 else if H3 p.files = false then 65
 else 0
theorem Je (p : PkgT) : Hw p = Dn p := by
 have ha : (Gq p.vendor = false ∨ (60 : Int) < (p.vendor.length : Int)) ↔ (decide (p.vendor.length ≤ 60) && Gq p.vendor) = false := by
  simp only [Bool.and_eq_false_iff, decide_eq_false_iff_not]
  constructor
  ·rintro (h | h)
   ·exact .inr h
   ·left; omega
  ·rintro (h | h)
   ·right; omega
   ·exact .inl h
 unfold Hw Dn
 simp only [ha]
theorem Yd {f : List UInt8} : Hi f = (Bf f && decide (((Af f 0).toNat : Int) = 47)) := by
 unfold Hi
 cases f with
 | nil => rw [show Bf [] = false by decide]; simp
 | cons a r =>
  have h1 : A4 (a :: r) 47 = decide (a = 47) := by simp [A4]
  have h2 : Af (a :: r) 0 = a := by simp [Af]
  rw [h1, h2, Bool.and_comm]
  congr 1
  refine decide_eq_decide.2 ⟨fun h => by rw [h]; rfl, fun h => UInt8.toNat_inj.1 (by show _ = 47; omega)⟩
theorem Q2o (x : Nat) :
  FnV Tryz.prog 97 [(.int .i32 ((x : Int)))] (.bool (Eu x)) := by
 refine Ba [.tmp 2] Tryz.func97 rfl Tryz.ntmps97 rfl rfl (fun B F hF => ?_)
 refine Aa [] [0] ?_
 obtain ⟨b1, hb1⟩ : ∃ b, b = (decide (97 ≤ (x : Int))) := ⟨_, rfl⟩
 obtain ⟨b2, hb2⟩ : ∃ b, b = (b1 && (decide ((x : Int) ≤ 122))) := ⟨_, rfl⟩
 obtain ⟨b3, hb3⟩ : ∃ b, b = (b2 || ((decide (48 ≤ (x : Int))) && (decide ((x : Int) ≤ 57)))) := ⟨_, rfl⟩
 refine Ae (CS := [(4, (b1 = true → b1 = true)), (5, (b1 = true → b1 = true)), (8, ((!b2) = true → (!b2) = true)), (9, ((!b2) = true → (!b2) = true)), (11, (((!b2) && (decide (48 ≤ (x : Int)))) = true → ((!b2) && (decide (48 ≤ (x : Int)))) = true)), (12, ((!b2) = true → ((!b2) = true) ∧ ((decide (48 ≤ (x : Int))) = true → ((!b2) && (decide (48 ≤ (x : Int)))) = true))), (13, (b2 = false → (!b2) = true)), (16, ((!b3) = true → (!b3) = true)), (17, (b3 = false → (!b3) = true))]) [6, 7, 10, 11, 12, 13, 14, 15, 18, 19] [2] [] hk0 (vk 3 5 (a := .bool (decide (97 ≤ (x : Int)))) (b := .bool b1) (Imp.of_eq (by rw [hb1])) <| vk 7 9 (a := .bool (b1 && (decide ((x : Int) ≤ 122)))) (b := .bool b2) (Imp.of_eq (by rw [hb2])) <| vk 14 16 (a := .bool (b2 || ((decide (48 ≤ (x : Int))) && (decide ((x : Int) ≤ 57))))) (b := .bool b3) (Imp.of_eq (by rw [hb3])) <| v0) (by refine cc _ ?_ <| cc _ ?_ <| cc _ ?_ <| cc _ ?_ <| cc _ ?_ <| cc _ ?_ <| cc _ ?_ <| cc _ ?_ <| cc _ ?_ c0 <;> (intros; simp_all; done)) ?_
 refine Ag ?_
 refine RK wR [(.bool (b3 || (decide ((x : Int) = 95))))] ?_
 subst hb3 hb2 hb1
 refine Same.of_eq ?_
 simp only [Aj]
 congr 1
 unfold Eu
 rw [Bool.eq_iff_iff]
 simp only [Bool.and_eq_true, Bool.or_eq_true, decide_eq_true_eq]
 omega
theorem Q2x (x : Nat) :
  FnV Tryz.prog 98 [(.int .i32 ((x : Int)))] (.bool (Ew x)) := by
 refine Ba [.tmp 2] Tryz.func98 rfl Tryz.ntmps98 rfl rfl (fun B F hF => ?_)
 refine Aa [] [0] ?_
 obtain ⟨b1, hb1⟩ : ∃ b, b = (decide (32 ≤ (x : Int))) := ⟨_, rfl⟩
 refine Ae (CS := [(4, (b1 = true → b1 = true)), (5, (b1 = true → b1 = true))]) [6, 7] [2] [] hk0 (vk 3 5 (a := .bool (decide (32 ≤ (x : Int)))) (b := .bool b1) (Imp.of_eq (by rw [hb1])) <| v0) (by refine cc _ ?_ <| cc _ ?_ c0 <;> simp) ?_
 refine Ag ?_
 refine RK wR [(.bool (b1 && (decide ((x : Int) ≤ 126))))] ?_
 subst hb1
 refine Same.of_eq ?_
 simp only [Aj]
 congr 1
 unfold Ew
 rw [Bool.eq_iff_iff]
 simp only [Bool.and_eq_true, Bool.or_eq_true, decide_eq_true_eq]
 omega
theorem Q5c (x : Nat) (a : AV) (q : Nat → Bool) (hx : x ≤ 1114111) (ha : ∀ x : Nat, x ≤ 1114111 → FunV Tryz.prog a [.int .i32 (x : Int)] (.bool (q x))) :
  FnV Tryz.prog 101 [(.int .i32 ((x : Int))), (.fp (.agg [(.clo a)]))] (.bool (!q x)) := by
 refine Ba [.tmp 3] Tryz.func101 rfl Tryz.ntmps101 rfl rfl (fun B F hF => ?_)
 refine Aa [] [0, 1] ?_
 refine Ab ?_
 refine Ar ?_
 refine Bj 2 0 [] [4, 5] [] hk0 v0 c0 ?_
 refine F7 (s' := [(4, (.clo a)), (5, (.int .i32 ((x : Int)))), (6, (.bool (q x)))]) (a := (.clo a)) (al := [(.int .i32 ((x : Int)))]) (r := (.bool (q x))) (by kernel_rfl) (by kernel_rfl) (by kernel_rfl) (by kernel_rfl) (by kernel_rfl) ((ha x hx).clo) (by kernel_rfl) ?_
 refine A2 3 [] [3] [] hk0 v0 c0 ?_
 refine Ag ?_
 refine RK wR [(.bool (!(q x)))] ?_
 exact Same.of_eq (by first | rfl | (simp only [Aj]; simp_all))
theorem Q0w (s : List UInt8) (most : Int) (a : AV) (q : Nat → Bool) (hl : s.length ≤ 9223372036854775807) (ha : ∀ x : Nat, x ≤ 1114111 → FunV Tryz.prog a [.int .i32 (x : Int)] (.bool (q x))) :
  FnV Tryz.prog 99 [(.str s), (.int .i64 most), (.clo a)] (.bool (F5 s most q)) := by
 refine Ba [.tmp 6] Tryz.func99 rfl Tryz.ntmps99 rfl rfl (fun B F hF => ?_)
 refine Aa [] [0, 1, 5] ?_
 refine Ab ?_
 refine Ar ?_
 obtain ⟨b2, hb2⟩ : ∃ b, b = (decide ((s.length : Int) ≤ most)) := ⟨_, rfl⟩
 refine Bj 7 0 [12, 13] [11, 12, 13] [] hk0 (vk 5 11 (a := .bool (decide ((s.length : Int) ≤ most))) (b := .bool b2) (Imp.of_eq (by rw [hb2])) <| v0) c0 ?_
 refine S1 (s' := [(11, (.bool b2)), (12, (.cond b2 (.str s))), (13, (.cond b2 (.fn 101 [] [(.ptr 0 0)]))), (14, (.cond b2 (.int .i64 (Lib.idxFunc (fun x => !q x) true ⟨s.toArray⟩))))]) (q := b2) (al := [(.str s), (.fn 101 [] [(.ptr 0 0)])]) (al' := [(.str s), (.fn 101 [] [(.fp (.agg [(.clo a)]))])]) (h' := []) (r := (.int .i64 (Lib.idxFunc (fun x => !q x) true ⟨s.toArray⟩))) (by kernel_rfl) (by exact Q9o) (by kernel_rfl) (Oc (some (b2 = true ∧ b2 = true)) (by kernel_rfl) fun cg => hold (by (simp; omega))) (by kernel_rfl) (fun cg => X3b s 101 [.fp (.agg [.clo a])] (fun x => !q x) (by exact Q9n) rfl (fun x hx => Q5c x a q hx ha)) rfl (by kernel_rfl) ?_
 obtain ⟨b3, hb3⟩ : ∃ b, b = (b2 && (decide ((Lib.idxFunc (fun x => !q x) true ⟨s.toArray⟩) < 0))) := ⟨_, rfl⟩
 refine A2 (CS := [(8, (b2 = true → b2 = true)), (9, (b2 = true → b2 = true))]) 8 [15] [6] [] hk0 (vk 10 16 (a := .bool (b2 && (decide ((Lib.idxFunc (fun x => !q x) true ⟨s.toArray⟩) < 0)))) (b := .bool b3) (Imp.of_eq (by rw [hb3])) <| v0) (by refine cc _ ?_ <| cc _ ?_ c0 <;> simp) ?_
 refine Ag ?_
 refine RK wR [(.bool b3)] ?_
 subst hb3 hb2
 exact Same.of_eq (by first | rfl | (simp only [Aj]; simp_all))
theorem Q7d (s : List UInt8) (hl : s.length ≤ 9223372036854775807) :
  FnV Tryz.prog 105 [(.str s)] (.bool (!Hi s)) := by
 refine Ba [.tmp 2] Tryz.func105 rfl Tryz.ntmps105 rfl rfl (fun B F hF => ?_)
 refine Aa [] [0] ?_
 refine Ae (CS := [(5, (!(!(A4 s 47))) = true → (!(!(A4 s 47))) = true), (6, ((!(!(A4 s 47))) = true → (!(!(A4 s 47))) = true)), (7, ((!(A4 s 47)) = false → (!(!(A4 s 47))) = true))]) [7, 9] [2] [] (hk 1 Iv (Ka s 47 hl) <| hkg 5 (!(!(A4 s 47))) Jx (fun cg => Ln s hl) <| hk0) v0 (by refine cc _ ?_ <| cc _ ?_ <| cc _ ?_ c0 <;> simp) ?_
 refine Ag ?_
 refine RK wR [(.bool ((!(A4 s 47)) || (!(Bf s))))] ?_
 exact Same.of_eq (by simp only [Aj]; congr 1; unfold Hi; cases A4 s 47 <;> cases Bf s <;> rfl)
theorem X3r (p : PkgT) (hs : p.size ≤ 4194304) :
  FnV Tryz.prog 50 [(Ak p)] (.int .i64 (Dn p)) := by
 have hsz := p.sizes
 have hfl := Fb p.files
 refine Ba [.tmp 2] Tryz.func50 rfl Tryz.ntmps50 rfl rfl (fun B F hF => ?_)
 refine Ae [] [1] [(1, 1)] hk0 v0 c0 ?_
 refine Aa [] [1, 3] ?_
 refine Aa [] [1, 3, 4] ?_
 refine Aa [] [1, 3, 4, 5] ?_
 refine Ae [] [1, 3, 4, 5, 7] [(8, 6)] (hk 2 Mq (Ou p.evr (by omega)) <| hk0) v0 c0 ?_
 refine Ab ?_
 refine A3 ?_
 refine Ae [] [1, 3, 4, 5, 7, 14] [] (hk 2 Jx (Ln p.name (by omega)) <| hk0) v0 c0 ?_
 refine A9 (q := !(Bf p.name)) (by kernel_rfl) (fun c1 => ?_) (fun c1 => ?_)
 ·try simp only [Al] at c1
  refine Aa [] [2] ?_
  refine Ag ?_
  refine RK wR [(.int .i64 60)] ?_
  refine Same.of_eq ?_
  simp only [Aj]
  congr 1
  rw [← Jf]
  unfold Hx
  simp_all
 ·try simp only [Al] at c1
  refine Aa [] [1, 3, 4, 5, 19] ?_
  refine Cj (p := (B7 p.evr) = 0) (by kernel_rfl) (fun c2 => ?_) (fun c2 => ?_)
  ·refine Aa [] [2] ?_
   refine Ag ?_
   refine RK wR [(.int .i64 61)] ?_
   refine Same.of_eq ?_
   simp only [Aj]
   congr 1
   rw [← Jf]
   unfold Hx
   simp_all
  ·refine Ab ?_
   refine Ar ?_
   obtain ⟨b2, hb2⟩ : ∃ b, b = (decide (p.arch = [])) := ⟨_, rfl⟩
   refine Bj 8 0 [27, 28, 29, 30] [1, 4, 5, 26, 27, 29, 30] [] hk0 (vk 4 26 (a := .bool (decide (p.arch = []))) (b := .bool b2) (Imp.of_eq (by rw [hb2])) <| v0) (cc 6 (p := ((!b2) = true → (!b2) = true)) (by simp) <| c0) ?_
   refine X19 (s' := [(1, (.fp (Ak p))), (4, (.fn 98 [] [])), (5, (.fn 99 [] [])), (26, (.bool b2)), (27, (.cond (!b2) (.fn 99 [] []))), (29, (.cond (!b2) (.str p.arch))), (30, (.cond (!b2) (.fn 97 [] []))), (31, (.cond (!b2) (.bool (F5 p.arch 20 Eu))))]) (q := !b2) (al := [(.str p.arch), (.int .i64 20), (.fn 97 [] [])]) (f := 99) (cap := []) (r := (.bool (F5 p.arch 20 Eu))) (by kernel_rfl) (fun cg => .inr ⟨!b2, by kernel_rfl, by first | exact cg | simp_all⟩) (by exact Yk) (by kernel_rfl) (Oc (some ((!b2) = true ∧ (!b2) = true)) (by kernel_rfl) fun cg => hold (by (intros; simp_all; done))) (by kernel_rfl) (fun cg => (Q0w p.arch 20 (.fn 97 [] []) Eu (by omega) (fun x _ => FunV.of (by exact Q7s) (Q2o x))).of_args (ImpL.cons Imp.refl (ImpL.cons Imp.refl (ImpL.cons (Imp.clo rfl) ImpL.nil)))) (by kernel_rfl) ?_
   refine A2 (CS := [(9, ((!b2) = true → (!b2) = true)), (10, (b2 = false → (!b2) = true))]) 9 [32] [1, 4, 5, 22] [] hk0 v0 (by refine cc _ ?_ <| cc _ ?_ c0 <;> simp) ?_
   refine A9 (q := b2 || (!(F5 p.arch 20 Eu))) (by kernel_rfl) (fun c3 => ?_) (fun c3 => ?_)
   ·subst hb2
    try simp only [Al] at c3
    refine Aa [] [2] ?_
    refine Ag ?_
    refine RK wR [(.int .i64 62)] ?_
    refine Same.of_eq ?_
    simp only [Aj]
    congr 1
    rw [← Jf]
    unfold Hx
    simp_all
   ·subst hb2
    try simp only [Al] at c3
    refine Ab ?_
    refine Ar ?_
    refine Bj 4 0 [] [1, 35, 37, 38] [] hk0 v0 c0 ?_
    refine X2a (f := 99) (cap := []) (s' := [(1, (.fp (Ak p))), (35, (.fn 99 [] [])), (37, (.str p.vendor)), (38, (.fn 98 [] [])), (39, (.bool (F5 p.vendor 60 Ew)))]) (al := [(.str p.vendor), (.int .i64 60), (.fn 98 [] [])]) (r := (.bool (F5 p.vendor 60 Ew))) (by kernel_rfl) (by kernel_rfl) (by exact Yk) (by kernel_rfl) (by kernel_rfl) ((Q0w p.vendor 60 (.fn 98 [] []) Ew (by omega) (fun x _ => FunV.of (by exact Q7r) (Q2x x))).of_args (ImpL.cons Imp.refl (ImpL.cons Imp.refl (ImpL.cons (Imp.clo rfl) ImpL.nil)))) (by kernel_rfl) ?_
    refine A2 5 [] [1, 34] [] hk0 v0 c0 ?_
    refine A9 (q := !(F5 p.vendor 60 Ew)) (by kernel_rfl) (fun c4 => ?_) (fun c4 => ?_)
    ·try simp only [Al] at c4
     refine Aa [] [2] ?_
     refine Ag ?_
     refine RK wR [(.int .i64 63)] ?_
     refine Same.of_eq ?_
     simp only [Aj]
     congr 1
     rw [← Jf]
     unfold Hx
     simp_all
    ·try simp only [Al] at c4
     refine Ae [] [1, 41] [] (hk 1 Q9m (Q9p p (by omega)) <| hk0) v0 c0 ?_
     refine A9 (q := !(Fd p)) (by kernel_rfl) (fun c5 => ?_) (fun c5 => ?_)
     ·try simp only [Al] at c5
      refine Aa [] [2] ?_
      refine Ag ?_
      refine RK wR [(.int .i64 64)] ?_
      refine Same.of_eq ?_
      simp only [Aj]
      congr 1
      rw [← Jf]
      unfold Hx
      simp_all
     ·try simp only [Al] at c5
      obtain ⟨b3, hb3⟩ : ∃ b, b = (decide (16 < (p.files.length : Int))) := ⟨_, rfl⟩
      refine Ae (CS := [(6, ((!b3) = true → (!b3) = true)), (7, (!b3) = true → (!b3) = true), (8, (b3 = false → (!b3) = true))]) [51, 52] [45] [] (hkg 7 (!b3) (al := [(Ch p.files), (.fn 105 [] [])]) Q9l (fun cg => (Q2g p.files (.fn 105 [] []) (fun x => !Hi x) (by omega) (fun i hi => FunV.of (by exact Q9k) (Q7d (nth p.files i) (by have := Rp hi; omega)))).of_args (ImpL.cons Imp.refl (ImpL.cons (Imp.clo rfl) ImpL.nil))) <| hk0) (vk 5 50 (a := .bool (decide (16 < (p.files.length : Int)))) (b := .bool b3) (Imp.of_eq (by rw [hb3])) <| v0) (by refine cc _ ?_ <| cc _ ?_ <| cc _ ?_ c0 <;> simp) ?_
      refine A9 (q := b3 || (Pe p.files)) (by kernel_rfl) (fun c6 => ?_) (fun c6 => ?_)
      ·subst hb3
       try simp only [Al] at c6
       refine Aa [] [2] ?_
       refine Ag ?_
       refine RK wR [(.int .i64 65)] ?_
       refine Same.of_eq ?_
       simp only [Aj]
       congr 1
       rw [← Jf]
       unfold Hx
       simp_all
      ·subst hb3
       try simp only [Al] at c6
       refine Ai ?_
       refine Aa [] [2] ?_
       refine Ag ?_
       refine RK wR [(.int .i64 0)] ?_
       refine Same.of_eq ?_
       simp only [Aj]
       congr 1
       rw [← Jf]
       unfold Hx
       simp_all
theorem Q3z (s : List UInt8) (hl : s.length ≤ 9223372036854775807) :
  FnV Tryz.prog 142 [(.str s)] (.bool (Iz s)) := by
 refine Ba [.tmp 2] Tryz.func142 rfl Tryz.ntmps142 rfl rfl (fun B F hF => ?_)
 refine Aa [] [0] ?_
 refine Ab ?_
 refine Aa [] [0, 3] ?_
 refine A3 ?_
 refine Bs (fun g y => ∃ (i : Nat), i ≤ s.length ∧ (∀ j, j < i → Eu (Af s j).toNat = true) ∧ y = ⟨[(0, (.str s)), (3, (.int .i64 ((i : Int))))], [], 0⟩ ∧ g = s.length - i) [0, 3] 0 _ (by omega) ⟨0, (by omega), (by exact fun j hj => by omega), (by kernel_rfl), rfl⟩ ?_
 rintro g1 y1 ⟨i, f1_1, f1_2, rfl, rfl⟩
 refine Ab ?_
 refine Aa [] [0, 3, 8] ?_
 refine A8 (p := (i : Int) < (s.length : Int)) (by kernel_rfl) (fun c1 => ?_) (fun c1 => ?_)
 ·refine Ai ?_
  refine Ab ?_
  refine A3 ?_
  refine Ae [] [0, 3, 4] [] hk0 v0 (cc 2 (p := (0 ≤ (i : Int) ∧ i < s.length)) (by omega) <| c0) ?_
  obtain ⟨b1, hb1⟩ : ∃ b, b = (decide (((Af s i).toNat : Int) < 97)) := ⟨_, rfl⟩
  obtain ⟨b2, hb2⟩ : ∃ b, b = (b1 || (decide (122 < ((Af s i).toNat : Int)))) := ⟨_, rfl⟩
  obtain ⟨b3, hb3⟩ : ∃ b, b = (b2 && ((decide (((Af s i).toNat : Int) < 48)) || (decide (57 < ((Af s i).toNat : Int))))) := ⟨_, rfl⟩
  refine Ae (CS := [(4, ((!b1) = true → (!b1) = true)), (5, (b1 = false → (!b1) = true)), (8, (b2 = true → b2 = true)), (9, (b2 = true → b2 = true)), (11, ((b2 && (!(decide (((Af s i).toNat : Int) < 48)))) = true → (b2 && (!(decide (((Af s i).toNat : Int) < 48)))) = true)), (12, (b2 = true → (b2 = true) ∧ ((decide (((Af s i).toNat : Int) < 48)) = false → (b2 && (!(decide (((Af s i).toNat : Int) < 48)))) = true))), (13, (b2 = true → b2 = true)), (16, (b3 = true → b3 = true)), (17, (b3 = true → b3 = true))]) [17, 18, 21, 22, 23, 24, 25, 26, 29, 30] [0, 3, 31] [] hk0 (vk 3 16 (a := .bool (decide (((Af s i).toNat : Int) < 97))) (b := .bool b1) (Imp.of_eq (by rw [hb1])) <| vk 6 19 (a := .bool (b1 || (decide (122 < ((Af s i).toNat : Int))))) (b := .bool b2) (Imp.of_eq (by rw [hb2])) <| vk 14 27 (a := .bool (b2 && ((decide (((Af s i).toNat : Int) < 48)) || (decide (57 < ((Af s i).toNat : Int)))))) (b := .bool b3) (Imp.of_eq (by rw [hb3])) <| v0) (by refine cc _ ?_ <| cc _ ?_ <| cc _ ?_ <| cc _ ?_ <| cc _ ?_ <| cc _ ?_ <| cc _ ?_ <| cc _ ?_ <| cc _ ?_ c0 <;> (intros; simp_all; done)) ?_
  refine A9 (q := b3 && (!decide (((Af s i).toNat : Int) = 95))) (by kernel_rfl) (fun c2 => ?_) (fun c2 => ?_)
  ·subst hb3 hb2 hb1
   try simp only [Al] at c2
   refine Aa [] [2] ?_
   refine Ag ?_
   refine RK wR [(.bool false)] ?_
   refine Same.of_eq ?_
   have : s.all (fun b => Eu b.toNat) = false := Q0z (i := i) (by omega) (by unfold Eu; simp only [Bool.and_eq_false_iff, Bool.or_eq_false_iff, decide_eq_false_iff_not]; omega)
   unfold Iz; rw [this, Bool.and_false]; rfl
  ·subst hb3 hb2 hb1
   try simp only [Al] at c2
   refine Ai ?_
   refine Ar ?_
   refine A2 0 [] [0, 3] [] hk0 v0 (cc 1 (p := (-9223372036854775808 ≤ (i : Int) + 1 ∧ (i : Int) + 1 ≤ 9223372036854775807)) (by omega) <| c0) ?_
   refine ⟨by kernel_rfl, _, ?_, i + 1, ?_, ?_, (by kernel_rfl), rfl⟩
   ·omega
   ·omega
   ·intro j hj
    by_cases h : j = i
    ·subst h; unfold Eu; simp only [Bool.and_eq_true, Bool.or_eq_true, decide_eq_true_eq]; omega
    ·exact f1_2 j (by omega)
 ·refine Bl ?_
  obtain ⟨b4, hb4⟩ : ∃ b, b = (decide (1 ≤ (s.length : Int))) := ⟨_, rfl⟩
  refine Ae (CS := [(5, (b4 = true → b4 = true)), (6, (b4 = true → b4 = true)), (7, (b4 = true → b4 = true))]) [36, 37, 38] [2] [] hk0 (vk 4 35 (a := .bool (decide (1 ≤ (s.length : Int)))) (b := .bool b4) (Imp.of_eq (by rw [hb4])) <| v0) (by refine cc _ ?_ <| cc _ ?_ <| cc _ ?_ c0 <;> simp) ?_
  refine Ag ?_
  refine RK wR [(.bool (b4 && (decide ((s.length : Int) ≤ 20))))] ?_
  subst hb4
  refine Same.of_eq ?_
  simp only [Aj]
  congr 1
  unfold Iz
  rw [Q0y (by omega) f1_2, show decide ((1 : Int) ≤ (s.length : Int)) = decide (1 ≤ s.length) from decide_eq_decide.2 (by omega), show decide ((s.length : Int) ≤ 20) = decide (s.length ≤ 20) from decide_eq_decide.2 (by omega)]
  simp
theorem Q3s (s : List UInt8) (hl : s.length ≤ 9223372036854775807) :
  FnV Tryz.prog 143 [(.str s)] (.bool (Gq s)) := by
 refine Ba [.tmp 2] Tryz.func143 rfl Tryz.ntmps143 rfl rfl (fun B F hF => ?_)
 refine Aa [] [0] ?_
 refine Ab ?_
 refine Aa [] [0, 3] ?_
 refine A3 ?_
 refine Bs (fun g y => ∃ (i : Nat), i ≤ s.length ∧ (∀ j, j < i → Ew (Af s j).toNat = true) ∧ y = ⟨[(0, (.str s)), (3, (.int .i64 ((i : Int))))], [], 0⟩ ∧ g = s.length - i) [0, 3] 0 _ (by omega) ⟨0, (by omega), (by exact fun j hj => by omega), (by kernel_rfl), rfl⟩ ?_
 rintro g1 y1 ⟨i, f1_1, f1_2, rfl, rfl⟩
 refine Ab ?_
 refine Aa [] [0, 3, 7] ?_
 refine A8 (p := (i : Int) < (s.length : Int)) (by kernel_rfl) (fun c1 => ?_) (fun c1 => ?_)
 ·refine Ai ?_
  refine Ab ?_
  refine A3 ?_
  obtain ⟨b1, hb1⟩ : ∃ b, b = (decide (((Af s i).toNat : Int) < 32)) := ⟨_, rfl⟩
  refine Ae (CS := [(2, (0 ≤ (i : Int) ∧ i < s.length)), (7, ((!b1) = true → ((!b1) = true ∧ (!b1) = true) ∧ (0 ≤ (i : Int) ∧ i < s.length))), (8, ((!b1) = true → (!b1) = true)), (9, (b1 = false → (!b1) = true))]) [15, 16, 17, 18] [0, 3, 19] [] hk0 (vk 5 14 (a := .bool (decide (((Af s i).toNat : Int) < 32))) (b := .bool b1) (Imp.of_eq (by rw [hb1])) <| v0) (by refine cc _ ?_ <| cc _ ?_ <| cc _ ?_ <| cc _ ?_ c0 <;> (intros; simp_all; done)) ?_
  refine A9 (q := b1 || (decide (126 < ((Af s i).toNat : Int)))) (by kernel_rfl) (fun c2 => ?_) (fun c2 => ?_)
  ·subst hb1
   try simp only [Al] at c2
   refine Aa [] [2] ?_
   refine Ag ?_
   refine RK wR [(.bool false)] ?_
   refine Same.of_eq ?_
   have : s.all (fun b => Ew b.toNat) = false := Q0z (i := i) (by omega) (by unfold Ew; simp only [Bool.and_eq_false_iff, Bool.or_eq_false_iff, decide_eq_false_iff_not]; omega)
   unfold Gq; rw [this]; rfl
  ·subst hb1
   try simp only [Al] at c2
   refine Ai ?_
   refine Ar ?_
   refine A2 0 [] [0, 3] [] hk0 v0 (cc 1 (p := (-9223372036854775808 ≤ (i : Int) + 1 ∧ (i : Int) + 1 ≤ 9223372036854775807)) (by omega) <| c0) ?_
   refine ⟨by kernel_rfl, _, ?_, i + 1, ?_, ?_, (by kernel_rfl), rfl⟩
   ·omega
   ·omega
   ·intro j hj
    by_cases h : j = i
    ·subst h; unfold Ew; simp only [Bool.and_eq_true, Bool.or_eq_true, decide_eq_true_eq]; omega
    ·exact f1_2 j (by omega)
 ·refine Bl ?_
  refine Aa [] [2] ?_
  refine Ag ?_
  refine RK wR [(.bool true)] ?_
  exact Same.of_eq (by unfold Gq; rw [Q0y (by omega) f1_2]; rfl)
theorem Q3w (l : List (List UInt8)) (hl : Gg l ≤ 4194304) :
  FnV Tryz.prog 145 [(Ch l)] (.bool (H3 l)) := by
 have hfl := Fb l
 refine Ba [.tmp 2] Tryz.func145 rfl Tryz.ntmps145 rfl rfl (fun B F hF => ?_)
 refine Aa [] [0] ?_
 refine Ab ?_
 refine Aa [] [0, 7] ?_
 refine A8 (p := 16 < (l.length : Int)) (by kernel_rfl) (fun c1 => ?_) (fun c1 => ?_)
 ·refine Aa [] [2] ?_
  refine Ag ?_
  refine RK wR [(.bool false)] ?_
  exact Same.of_eq (by unfold H3; rw [decide_eq_false (by omega)]; rfl)
 ·refine Ai ?_
  refine Ab ?_
  refine Aa [] [0, 3] ?_
  refine A3 ?_
  refine Bs (fun g y => ∃ (i : Nat), i ≤ l.length ∧ (∀ j, j < i → Hi (nth l j) = true) ∧ y = ⟨[(0, (Ch l)), (3, (.int .i64 ((i : Int))))], [], 0⟩ ∧ g = l.length - i) [0, 3] 0 _ (by omega) ⟨0, (by omega), (by exact fun j hj => by omega), (by kernel_rfl), rfl⟩ ?_
  rintro g1 y1 ⟨i, f1_1, f1_2, rfl, rfl⟩
  refine Ab ?_
  refine Aa [] [0, 3, 11] ?_
  refine A8 (p := (i : Int) < (l.length : Int)) (by kernel_rfl) (fun c2 => ?_) (fun c2 => ?_)
  ·refine Ai ?_
   refine Ab ?_
   refine A3 ?_
   refine Ae [] [0, 3, 4] [] (hk 4 Ml (Nq (nth l i) (by have := Rp (l := l) (i := i) (by omega); omega)) <| hk0) v0 (cc 2 (p := (0 ≤ (i : Int) ∧ i < l.length)) (by omega) <| c0) ?_
   have qh1 : (((!(!(Bf (nth l i)))) = true → ((!(!(Bf (nth l i)))) = true ∧ (!(!(Bf (nth l i)))) = true) ∧ (0 ≤ (i : Int) ∧ i < l.length))) ∧ (((!(!(Bf (nth l i)))) = true → (!(!(Bf (nth l i)))) = true)) ∧ (((!(!(Bf (nth l i)))) = true → ((!(!(Bf (nth l i)))) = true) ∧ (0 ≤ (0 : Int) ∧ 0 < (nth l i).length))) ∧ (((!(!(Bf (nth l i)))) = true → (!(!(Bf (nth l i)))) = true)) ∧ (((!(Bf (nth l i))) = false → (!(!(Bf (nth l i)))) = true)) := by
    have hp := fun h => Q5n (l := nth l i) h; simp only [Bool.not_not, Bool.not_eq_false']; exact ⟨fun hq => ⟨⟨hq, hq⟩, by omega, by omega⟩, fun hq => hq, fun hq => ⟨hq, by omega, hp hq⟩, fun hq => hq, fun hq => hq⟩
   refine Ae [22, 23, 24, 25, 26, 27] [0, 3, 28] [] hk0 v0 (cc 5 (p := ((!(!(Bf (nth l i)))) = true → ((!(!(Bf (nth l i)))) = true ∧ (!(!(Bf (nth l i)))) = true) ∧ (0 ≤ (i : Int) ∧ i < l.length))) qh1.1 <| cc 6 (p := ((!(!(Bf (nth l i)))) = true → (!(!(Bf (nth l i)))) = true)) qh1.2.1 <| cc 7 (p := ((!(!(Bf (nth l i)))) = true → ((!(!(Bf (nth l i)))) = true) ∧ (0 ≤ (0 : Int) ∧ 0 < (nth l i).length))) qh1.2.2.1 <| cc 8 (p := ((!(!(Bf (nth l i)))) = true → (!(!(Bf (nth l i)))) = true)) qh1.2.2.2.1 <| cc 9 (p := ((!(Bf (nth l i))) = false → (!(!(Bf (nth l i)))) = true)) qh1.2.2.2.2 <| c0) ?_
   refine A9 (q := (!(Bf (nth l i))) || (!decide (((Af (nth l i) 0).toNat : Int) = 47))) (by kernel_rfl) (fun c3 => ?_) (fun c3 => ?_)
   ·try simp only [Al] at c3
    refine Aa [] [2] ?_
    refine Ag ?_
    refine RK wR [(.bool false)] ?_
    refine Same.of_eq ?_
    unfold H3
    have : l.all Hi = false := by
     cases hq : l.all Hi with
     | false => rfl
     | true => have h1 := all_nth.1 hq i (by omega); rw [Yd] at h1; simp_all
    rw [this, Bool.and_false]; rfl
   ·try simp only [Al] at c3
    refine Ai ?_
    refine Ar ?_
    refine A2 0 [] [0, 3] [] hk0 v0 (cc 1 (p := (-9223372036854775808 ≤ (i : Int) + 1 ∧ (i : Int) + 1 ≤ 9223372036854775807)) (by omega) <| c0) ?_
    refine ⟨by kernel_rfl, _, ?_, i + 1, ?_, ?_, (by kernel_rfl), rfl⟩
    ·omega
    ·omega
    ·intro j hj
     by_cases h : j = i
     ·subst h; rw [Yd]; simp_all
     ·exact f1_2 j (by omega)
  ·refine Bl ?_
   refine Aa [] [2] ?_
   refine Ag ?_
   refine RK wR [(.bool true)] ?_
   exact Same.of_eq (by unfold H3; rw [all_nth.2 (fun j hj => f1_2 j (by omega)), decide_eq_true (by omega)]; rfl)
theorem Q3y (p : PkgT) (hs : p.size ≤ 4194304) :
  FnV Tryz.prog 92 [(Ak p)] (.int .i64 (Dn p)) := by
 have hsz := p.sizes
 refine Ba [.tmp 2] Tryz.func92 rfl Tryz.ntmps92 rfl rfl (fun B F hF => ?_)
 refine Ae [] [1] [(1, 1)] hk0 v0 c0 ?_
 refine Ae [] [1, 3] [] (hk 2 Ml (Nq p.name (by omega)) <| hk0) v0 c0 ?_
 refine Ab ?_
 refine Aa [] [1, 14] ?_
 refine A9 (q := !(Bf p.name)) (by kernel_rfl) (fun c1 => ?_) (fun c1 => ?_)
 ·try simp only [Al] at c1
  refine Aa [] [2] ?_
  refine Ag ?_
  refine RK wR [(.int .i64 60)] ?_
  refine Same.of_eq ?_
  simp only [Aj]
  congr 1
  rw [← Je]
  unfold Hw
  simp_all
 ·try simp only [Al] at c1
  refine Ai ?_
  refine Ae [] [1, 5] [(8, 4)] (hk 2 Mo (Ns p.evr (by omega)) <| hk0) v0 c0 ?_
  refine Ab ?_
  refine Aa [] [1, 22] ?_
  refine Cj (p := (B7 p.evr) = 0) (by kernel_rfl) (fun c2 => ?_) (fun c2 => ?_)
  ·refine Aa [] [2] ?_
   refine Ag ?_
   refine RK wR [(.int .i64 61)] ?_
   refine Same.of_eq ?_
   simp only [Aj]
   congr 1
   rw [← Je]
   unfold Hw
   simp_all
  ·refine Ai ?_
   refine Ae [] [1, 6] [] (hk 2 Q8y (Q3z p.arch (by omega)) <| hk0) v0 c0 ?_
   refine Ab ?_
   refine Aa [] [1, 27] ?_
   refine A9 (q := !(Iz p.arch)) (by kernel_rfl) (fun c3 => ?_) (fun c3 => ?_)
   ·try simp only [Al] at c3
    refine Aa [] [2] ?_
    refine Ag ?_
    refine RK wR [(.int .i64 62)] ?_
    refine Same.of_eq ?_
    simp only [Aj]
    congr 1
    rw [← Je]
    unfold Hw
    simp_all
   ·try simp only [Al] at c3
    refine Ai ?_
    refine Ae [] [1, 7] [] (hk 2 Q8x (Q3s p.vendor (by omega)) <| hk0) v0 c0 ?_
    refine Ab ?_
    obtain ⟨b1, hb1⟩ : ∃ b, b = (!(Gq p.vendor)) := ⟨_, rfl⟩
    refine Ae (CS := [(4, ((!b1) = true → (!b1) = true)), (5, ((!b1) = true → (!b1) = true)), (6, ((!b1) = true → (!b1) = true)), (7, (b1 = false → (!b1) = true))]) [34, 35, 36, 37] [1, 38] [] hk0 (vk 3 33 (a := .bool (!(Gq p.vendor))) (b := .bool b1) (Imp.of_eq (by rw [hb1])) <| v0) (by refine cc _ ?_ <| cc _ ?_ <| cc _ ?_ <| cc _ ?_ c0 <;> simp) ?_
    refine A9 (q := b1 || (decide (60 < (p.vendor.length : Int)))) (by kernel_rfl) (fun c4 => ?_) (fun c4 => ?_)
    ·subst hb1
     try simp only [Al] at c4
     refine Aa [] [2] ?_
     refine Ag ?_
     refine RK wR [(.int .i64 63)] ?_
     refine Same.of_eq ?_
     simp only [Aj]
     congr 1
     rw [← Je]
     unfold Hw
     simp_all
    ·subst hb1
     try simp only [Al] at c4
     refine Ai ?_
     refine Ae [] [1, 8] [] (hk 1 Q8w (Q3x p (by omega)) <| hk0) v0 c0 ?_
     refine Ab ?_
     refine Aa [] [1, 42] ?_
     refine A9 (q := !(Fd p)) (by kernel_rfl) (fun c5 => ?_) (fun c5 => ?_)
     ·try simp only [Al] at c5
      refine Aa [] [2] ?_
      refine Ag ?_
      refine RK wR [(.int .i64 64)] ?_
      refine Same.of_eq ?_
      simp only [Aj]
      congr 1
      rw [← Je]
      unfold Hw
      simp_all
     ·try simp only [Al] at c5
      refine Ai ?_
      refine Ae [] [9] [] (hk 2 Q8v (Q3w p.files (by omega)) <| hk0) v0 c0 ?_
      refine Ab ?_
      refine Aa [] [47] ?_
      refine A9 (q := !(H3 p.files)) (by kernel_rfl) (fun c6 => ?_) (fun c6 => ?_)
      ·try simp only [Al] at c6
       refine Aa [] [2] ?_
       refine Ag ?_
       refine RK wR [(.int .i64 65)] ?_
       refine Same.of_eq ?_
       simp only [Aj]
       congr 1
       rw [← Je]
       unfold Hw
       simp_all
      ·try simp only [Al] at c6
       refine Ai ?_
       refine Aa [] [2] ?_
       refine Ag ?_
       refine RK wR [(.int .i64 0)] ?_
       refine Same.of_eq ?_
       simp only [Aj]
       congr 1
       rw [← Je]
       unfold Hw
       simp_all
end Sv
end Go.Proofs.YtlfjokcbkopfeaaGreatDoor
end
